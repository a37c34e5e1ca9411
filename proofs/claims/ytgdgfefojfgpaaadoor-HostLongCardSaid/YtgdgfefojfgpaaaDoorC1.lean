/- A parser that is new, and whether it is amid something. -/
import Derived.Test.YtgdgfefojfgpaaaDoorB8
import Derived.Test.YtgdgfefojfgpaaaDoorA7
set_option linter.unusedVariables false
set_option linter.unusedSimpArgs false
set_option maxRecDepth 100000
namespace Go.Proofs.YtgdgfefojfgpaaaDoor
open Go Go.Ab

theorem fs_Idle {Gl : Gh → Prop} (hst : Stays Gl) {p : Nm} (hp : 1 ≤ p.1) {s : Ps} (hok : s.ok) (ht : ∀ t ∈ s.toks, 1 ≤ t.1) : FSR Tryd.prog Gl 11 [.ptr p 0] [(p, .cells s.c)] s.toks (PR p s.toks (.bool s.x.nx.isNone) s.x) := by
  refine FSR.of hm hst is_hostParserIdle (by simp) fun γ hγ hfr => ?_
  (generalize hQ : (fun (ex : Ex) (_ _ : Nat) (s : St) => _) = Q; unfold ir_hostParserIdle)
  cases hn : s.x.nx with
  | none =>
    have hc : s.c = [.nilf, .int .i64 s.x.k, .int .u8 s.x.pr, .nils, .str s.x.it, .int .u8 s.x.fi, .str [], sv s.tt 1 (bytesAV s.x.tx), sv s.dt 1 (bytesAV s.x.da), .bool s.x.f, .bool s.x.b, .bool s.x.r, sv s.ot 6 (s.x.ou.map Sq.r)] := by simp only [Ps.c, hn, nxv_nil]
    simp only [hc]
    simp +contextual (maxSteps := 1000000) only [go_sem, reduceCtorEq, ↓reduceIte, Nat.reduceAdd, Nat.reduceEqDiff, Nat.reduceLeDiff, Nat.reduceMul, Nat.reduceBEq, Int.reduceBEq, Int.reduceBNe, Int.reduceLT, Int.reduceLE, Int.reduceGT, Int.reduceGE, Int.reduceToNat, Int.natCast_one, Int.natCast_zero, Int.cast_ofNat_Int]
    rw [← hQ]
    exact ⟨trivial, PR.ret s (by simp only [hn]; rfl) (fun _ => rfl) (fun _ _ _ => trivial) hp ht (by simp [hc]) hok fun t h => ⟨h, .inl h⟩⟩
  | some n =>
    have hc : s.c = [.fn (.func n.f) [] [], .int .i64 s.x.k, .int .u8 s.x.pr, .nils, .str s.x.it, .int .u8 s.x.fi, .str [], sv s.tt 1 (bytesAV s.x.tx), sv s.dt 1 (bytesAV s.x.da), .bool s.x.f, .bool s.x.b, .bool s.x.r, sv s.ot 6 (s.x.ou.map Sq.r)] := by simp only [Ps.c, hn, nxv_some]
    simp only [hc]
    simp +contextual (maxSteps := 1000000) only [go_sem, reduceCtorEq, ↓reduceIte, Nat.reduceAdd, Nat.reduceEqDiff, Nat.reduceLeDiff, Nat.reduceMul, Nat.reduceBEq, Int.reduceBEq, Int.reduceBNe, Int.reduceLT, Int.reduceLE, Int.reduceGT, Int.reduceGE, Int.reduceToNat, Int.natCast_one, Int.natCast_zero, Int.cast_ofNat_Int]
    rw [← hQ]
    exact ⟨trivial, PR.ret s (by simp only [hn]; rfl) (fun _ => rfl) (fun _ _ _ => trivial) hp ht (by simp [hc]) hok fun t h => ⟨h, .inl h⟩⟩

theorem fs_New {Gl : Gh → Prop} (hst : Stays Gl) : FS Tryd.prog Gl 8 [] [] [] (.ptr (0, 0, 0) 0) [((0, 0, 0), .cells (⟨Pp.zero, none, none, none⟩ : Ps).c)] [] := by
  refine FS.of hm hst is_hostNew (by simp) fun γ hγ hfr => ?_
  (generalize hQ : (fun (ex : Ex) (_ _ : Nat) (s : St) => _) = Q; unfold ir_hostNew)
  simp +contextual (maxSteps := 1000000) only [go_sem, reduceCtorEq, ↓reduceIte, Nat.reduceAdd, Nat.reduceEqDiff, Nat.reduceLeDiff, Nat.reduceMul, Nat.reduceBEq, Int.reduceBEq, Int.reduceBNe, Int.reduceLT, Int.reduceLE, Int.reduceGT, Int.reduceGE, Int.reduceToNat, Int.natCast_one, Int.natCast_zero, Int.cast_ofNat_Int]
  rw [← hQ]
  exact ⟨trivial, [(γ, 2, 0)], by simp, fun n h => by simp only [List.mem_singleton] at h; subst h; exact Nat.le_refl _, rfl, fun n hn => by simp only [rnH, List.map_cons, List.map_nil, List.mem_singleton] at hn; subst hn; exact List.mem_singleton.2 rfl, by simp, (by simp [AV.okIn, nmOK]), fun u hu => by simp only [List.mem_singleton] at hu; subst hu; exact ⟨(by simp [nmOK]), Ps.okc (by simp [Ps.toks])⟩, by simp⟩
end Go.Proofs.YtgdgfefojfgpaaaDoor
