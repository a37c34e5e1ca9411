/- The parser of layer 5: small methods. -/
import Derived.Test.YtgdgfefojfgpaaaDoorB1
set_option linter.unusedVariables false
set_option linter.unusedSimpArgs false
set_option maxRecDepth 100000
namespace Go.Proofs.YtgdgfefojfgpaaaDoor
open Go Go.Ab
/-- (*clavier/host.Parser).inter -/
def ir_hostParserinter : ICode :=
 (.seq
  (.reg [⟨some 4, none, .mov (.t 0)⟩,
    ⟨some 5, none, .mov (.t 0)⟩,
    ⟨some 6, none, .nck (.t 5)⟩,
    ⟨some 7, none, .fa 10 (.t 6)⟩,
    ⟨some 8, none, .ld none (.t 7)⟩,
    ⟨some 9, none, .mov (.t 8)⟩,
    ⟨some 10, some (9, false), .mov (.t 0)⟩,
    ⟨some 11, some (9, false), .nck (.t 10)⟩,
    ⟨some 12, some (9, false), .fa 1 (.t 11)⟩,
    ⟨some 13, some (9, false), .fa 3 (.t 12)⟩,
    ⟨some 14, some (9, false), .ld none (.t 13)⟩,
    ⟨some 15, some (9, false), .lns (.t 14)⟩,
    ⟨some 16, some (9, false), .bin .eql .none (.t 15) (.c (.int .i64 2))⟩,
    ⟨some 17, none, .pick (.t 9) (.c (.bool true)) (.t 16)⟩,
    ⟨some 18, none, .nck (.t 4)⟩,
    ⟨some 19, none, .fa 10 (.t 18)⟩,
    ⟨none, none, .st 1 (.t 19) (.t 17)⟩] (some [0, 1]))
  (.seq
   (.reg [⟨some 20, none, .mov (.t 0)⟩,
     ⟨some 21, none, .nck (.t 20)⟩,
     ⟨some 22, none, .fa 10 (.t 21)⟩,
     ⟨some 23, none, .ld none (.t 22)⟩,
     ⟨some 24, none, .un .not (.t 23)⟩] (some [0, 1, 24]))
   (.cond (.t 24)
    (.drw [⟨⟨some 25, none, .mov (.t 0)⟩, []⟩,
      ⟨⟨some 26, none, .nck (.t 25)⟩, [0]⟩,
      ⟨⟨some 27, none, .fa 1 (.t 26)⟩, [1]⟩,
      ⟨⟨some 28, none, .fa 3 (.t 27)⟩, [2]⟩,
      ⟨⟨some 29, none, .ld none (.t 28)⟩, [3]⟩,
      ⟨⟨some 30, none, .mov (.t 1)⟩, []⟩,
      ⟨⟨some 31, none, .row 5 1 [(.t 30)]⟩, [5]⟩,
      ⟨⟨some 32, none, .b2s (.t 31)⟩, [6]⟩,
      ⟨⟨some 33, none, .bin .add .none (.t 29) (.t 32)⟩, [4, 7]⟩]
      [⟨some 34, none, .nck (.t 25)⟩,
      ⟨some 35, none, .fa 1 (.t 34)⟩,
      ⟨some 36, none, .fa 3 (.t 35)⟩,
      ⟨none, none, .st 1 (.t 36) (.t 33)⟩] (some []))
    .skip)))
theorem is_hostParserinter : IrOf Tryd.prog 28 37 ir_hostParserinter [] := ⟨_, Tryd.func28, rfl, by kernel_rfl, by kernel_rfl, by kernel_rfl⟩


/-- The method's end, where no name is new. -/
theorem PR.same {rs : List IRes} {p : Nm} {hb : HB} {y : AV} {γ : Nat} {s : St} {q : Ps} (x' : Pp) (h : resOf s rs = some y) (hy : ∀ f, Ab.rn f y = y) (oy : ∀ m L T, AV.okIn m L T y) (hp : 1 ≤ p.1) (hq : q.ok) (ht : ∀ t ∈ q.toks, 1 ≤ t.1) (hH : (p, .cells (⟨x', q.tt, q.dt, q.ot⟩ : Ps).c) ∈ s.H)
    (h1 : x'.tx = q.x.tx) (h2 : x'.da = q.x.da) (h3 : x'.ou = q.x.ou) (hT : ∀ t ∈ q.toks, s.T t) : ∃ r H1 T1, PR p q.toks y x' r H1 T1 ∧ Ret rs [(p, hb)] q.toks r H1 T1 γ s :=
  PR.ret (⟨x', q.tt, q.dt, q.ot⟩ : Ps) h hy oy hp ht hH ⟨hq.nd, fun h => h1.trans (hq.t h), fun h => h2.trans (hq.d h), fun h => h3.trans (hq.o h)⟩ fun t h => ⟨hT t h, .inl h⟩

def Pp.opened (s : Pp) (c : Int) : Option Nx × Pp :=
  if c = 91 then (some .head, { s with k := 1, f := true })
  else if c = 80 then (some .head, { s with k := 3, f := true })
  else if c = 93 then (some .inside, { s with k := 4, r := true })
  else (some .unread, { s with r := true, b := true })

theorem fs_opened {Gl : Gh → Prop} (hst : Stays Gl) {p : Nm} (hp : 1 ≤ p.1) {s : Ps} (hok : s.ok) (ht : ∀ t ∈ s.toks, 1 ≤ t.1) {c : Int} : FSR Tryd.prog Gl 30 [.ptr p 0, .int .u8 c] [(p, .cells s.c)] s.toks (PR p s.toks (nxv (s.x.opened c).1) (s.x.opened c).2) := by
  refine FSR.of hm hst is_hostParseropened (by simp) fun γ hγ hfr => ?_
  (generalize hQ : (fun (ex : Ex) (_ _ : Nat) (s : St) => _) = Q; unfold ir_hostParseropened)
  simp only [Ps.c]
  (simp +contextual (maxSteps := 1000000) only [go_sem, reduceCtorEq, ↓reduceIte, Nat.reduceAdd, Nat.reduceEqDiff, Nat.reduceLeDiff, Nat.reduceMul, Nat.reduceBEq, Int.reduceBEq, Int.reduceBNe, Int.reduceLT, Int.reduceLE, Int.reduceGT, Int.reduceGE, Int.reduceToNat, Int.natCast_one, Int.natCast_zero, Int.cast_ofNat_Int]; repeat' first | ((first | refine kCond_split (fun hg => ?_) (fun hg => ?_) | refine kGc_split (fun hg => ?_) (fun hg => ?_) | refine kPreG_split (fun hg => ?_) (fun hg => ?_)) <;> (try rw [hg]) <;> simp +contextual (maxSteps := 1000000) only [go_sem, reduceCtorEq, ↓reduceIte, Nat.reduceAdd, Nat.reduceEqDiff, Nat.reduceLeDiff, Nat.reduceMul, Nat.reduceBEq, Int.reduceBEq, Int.reduceBNe, Int.reduceLT, Int.reduceLE, Int.reduceGT, Int.reduceGE, Int.reduceToNat, Int.natCast_one, Int.natCast_zero, Int.cast_ofNat_Int]) | refine And.intro (by omega) ?_)
  all_goals rw [← hQ]
  all_goals simp only [beq_iff_eq, beq_eq_false_iff_ne, ne_eq] at *
  · have e : s.x.opened c = (some .head, { s.x with k := 1, f := true }) := by (unfold Pp.opened; repeat' split) <;> first | rfl | (exfalso; omega)
    rw [e]
    exact ⟨trivial, PR.same _ rfl (fun _ => nxv_rn) (fun _ _ _ => nxv_ok) hp hok ht (by simp [Ps.c, nxv, Nx.f]) rfl rfl rfl fun _ h => h⟩
  · have e : s.x.opened c = (some .head, { s.x with k := 3, f := true }) := by (unfold Pp.opened; repeat' split) <;> first | rfl | (exfalso; omega)
    rw [e]
    exact ⟨trivial, PR.same _ rfl (fun _ => nxv_rn) (fun _ _ _ => nxv_ok) hp hok ht (by simp [Ps.c, nxv, Nx.f]) rfl rfl rfl fun _ h => h⟩
  · have e : s.x.opened c = (some .inside, { s.x with k := 4, r := true }) := by (unfold Pp.opened; repeat' split) <;> first | rfl | (exfalso; omega)
    rw [e]
    exact ⟨trivial, PR.same _ rfl (fun _ => nxv_rn) (fun _ _ _ => nxv_ok) hp hok ht (by simp [Ps.c, nxv, Nx.f]) rfl rfl rfl fun _ h => h⟩
  · have e : s.x.opened c = (some .unread, { s.x with r := true, b := true }) := by (unfold Pp.opened; repeat' split) <;> first | rfl | (exfalso; omega)
    rw [e]
    exact ⟨trivial, PR.same _ rfl (fun _ => nxv_rn) (fun _ _ _ => nxv_ok) hp hok ht (by simp [Ps.c, nxv, Nx.f]) rfl rfl rfl fun _ h => h⟩

theorem fs_unread {Gl : Gh → Prop} (hst : Stays Gl) {p : Nm} (hp : 1 ≤ p.1) {s : Ps} (hok : s.ok) (ht : ∀ t ∈ s.toks, 1 ≤ t.1) {c : Int} : FSR Tryd.prog Gl 37 [.ptr p 0, .int .u8 c] [(p, .cells s.c)] s.toks (PR p s.toks (nxv (some .unread)) s.x) := by
  refine FSR.of hm hst is_hostParserunread (by simp) fun γ hγ hfr => ?_
  (generalize hQ : (fun (ex : Ex) (_ _ : Nat) (s : St) => _) = Q; unfold ir_hostParserunread)
  simp +contextual (maxSteps := 1000000) only [go_sem, reduceCtorEq, ↓reduceIte, Nat.reduceAdd, Nat.reduceEqDiff, Nat.reduceLeDiff, Nat.reduceMul, Nat.reduceBEq, Int.reduceBEq, Int.reduceBNe, Int.reduceLT, Int.reduceLE, Int.reduceGT, Int.reduceGE, Int.reduceToNat, Int.natCast_one, Int.natCast_zero, Int.cast_ofNat_Int]
  rw [← hQ]
  exact ⟨trivial, PR.same _ rfl (fun _ => nxv_rn) (fun _ _ _ => nxv_ok) hp hok ht (by simp) rfl rfl rfl fun _ h => h⟩

def Pp.inter (s : Pp) (c : UInt8) : Pp :=
  { s with b := s.b || ((s.it.length : Int) == 2), it := if (s.b || ((s.it.length : Int) == 2)) = true then s.it else s.it ++ [c] }
theorem unbyte_byte (c : UInt8) : unbyte [AV.int .u8 (c.toNat : Int)] = c := by
  simp [unbyte]
theorem fs_inter {Gl : Gh → Prop} (hst : Stays Gl) {p : Nm} (hp : 1 ≤ p.1) {s : Ps} (hok : s.ok) (ht : ∀ t ∈ s.toks, 1 ≤ t.1) {c : UInt8} (hl : s.x.it.length < 4611686018427387904) : FSR Tryd.prog Gl 28 [.ptr p 0, .int .u8 (c.toNat : Int)] [(p, .cells s.c)] s.toks (PR p s.toks (.tup []) (s.x.inter c)) := by
  refine FSR.of hm hst is_hostParserinter (by simp) fun γ hγ hfr => ?_
  (generalize hQ : (fun (ex : Ex) (_ _ : Nat) (s : St) => _) = Q; unfold ir_hostParserinter)
  simp only [Ps.c]
  simp +contextual (maxSteps := 1000000) only [go_sem, reduceCtorEq, ↓reduceIte, Nat.reduceAdd, Nat.reduceEqDiff, Nat.reduceLeDiff, Nat.reduceMul, Nat.reduceBEq, Int.reduceBEq, Int.reduceBNe, Int.reduceLT, Int.reduceLE, Int.reduceGT, Int.reduceGE, Int.reduceToNat, Int.natCast_one, Int.natCast_zero, Int.cast_ofNat_Int]
  cases hb : (s.x.b || (s.x.it.length : Int) == 2) with
  | true =>
    simp +contextual (maxSteps := 1000000) only [go_sem, reduceCtorEq, ↓reduceIte, Nat.reduceAdd, Nat.reduceEqDiff, Nat.reduceLeDiff, Nat.reduceMul, Nat.reduceBEq, Int.reduceBEq, Int.reduceBNe, Int.reduceLT, Int.reduceLE, Int.reduceGT, Int.reduceGE, Int.reduceToNat, Int.natCast_one, Int.natCast_zero, Int.cast_ofNat_Int]
    rw [← hQ]
    have e : s.x.inter c = { s.x with b := true } := by simp only [Pp.inter, hb, if_true]
    rw [e]
    exact ⟨trivial, PR.same _ rfl (fun _ => rfl) (fun _ _ _ => trivial) hp hok ht (by simp [Ps.c]) rfl rfl rfl fun _ h => h⟩
  | false =>
    have hm9 : (s.x.it.length ≤ 9223372036854775806) = True := by simp; omega
    simp +contextual (maxSteps := 1000000) only [unbyte_byte, hm9, go_sem, reduceCtorEq, ↓reduceIte, Nat.reduceAdd, Nat.reduceEqDiff, Nat.reduceLeDiff, Nat.reduceMul, Nat.reduceBEq, Int.reduceBEq, Int.reduceBNe, Int.reduceLT, Int.reduceLE, Int.reduceGT, Int.reduceGE, Int.reduceToNat, Int.natCast_one, Int.natCast_zero, Int.cast_ofNat_Int]
    rw [← hQ]
    have e : s.x.inter c = { s.x with b := false, it := s.x.it ++ [c] } := by simp only [Pp.inter, hb, if_false, Bool.false_eq_true]
    rw [e]
    exact ⟨trivial, PR.same _ rfl (fun _ => rfl) (fun _ _ _ => trivial) hp hok ht (by simp [Ps.c]) rfl rfl rfl fun _ h => by simp [h]⟩
end Go.Proofs.YtgdgfefojfgpaaaDoor
