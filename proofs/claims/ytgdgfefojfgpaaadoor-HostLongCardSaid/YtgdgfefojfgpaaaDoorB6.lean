/- The parser of layer 5: heads. -/
import Derived.Test.YtgdgfefojfgpaaaDoorB5
set_option linter.unusedVariables false
set_option linter.unusedSimpArgs false
set_option maxRecDepth 100000
namespace Go.Proofs.YtgdgfefojfgpaaaDoor
open Go Go.Ab

def Pp.head (x : Pp) (c : UInt8) : Option Nx × Pp :=
  if (decide ((c.toNat : Int) < 32) || (c.toNat : Int) == 127) = true then (some .head, x)
  else if decide ((c.toNat : Int) ≥ 128) = true then (none, x.drop)
  else if decide ((c.toNat : Int) < 48) = true then (some .head, { x.inter c with f := false })
  else if decide ((c.toNat : Int) < 60) = true then (some .head, { x with b := x.b || !decide (x.it = []), tx := x.tx ++ [c], f := false })
  else if decide ((c.toNat : Int) < 64) = true then (some .head, { x with b := x.b || !x.f, pr := c.toNat, f := false })
  else if (x.k == 3) = true then (some .inside, { x with fi := c.toNat, r := true })
  else (none, ({ x with fi := c.toNat } : Pp).tell)

/-- A state with a new name for its text. -/
theorem Ps.newt {s : Ps} (hok : s.ok) {n : Nm} (hn : n ∉ s.toks) (x' : Pp) (h1 : x'.da = s.x.da) (h2 : x'.ou = s.x.ou) : (⟨x', some n, s.dt, s.ot⟩ : Ps).ok ∧ (∀ t ∈ (⟨x', some n, s.dt, s.ot⟩ : Ps).toks, (t ∈ s.toks ∧ s.tt ≠ some t) ∨ t = n) := by
  have hnd := hok.nd
  simp only [Ps.toks] at hnd hn ⊢
  obtain ⟨a1, a2, a3⟩ := List.nodup_append.1 hnd
  obtain ⟨b1, b2, b3⟩ := List.nodup_append.1 a1
  refine ⟨⟨List.nodup_append.2 ⟨List.nodup_append.2 ⟨by simp, b2, fun a ha b hb e => ?_⟩, a2, fun a ha b hb e => ?_⟩, fun h => (by cases h), fun h => h1.trans (hok.d h), fun h => h2.trans (hok.o h)⟩, fun t ht => ?_⟩
  · simp only [Option.toList_some, List.mem_singleton] at ha
    subst ha; subst e
    exact hn (List.mem_append.2 (.inl (List.mem_append.2 (.inr hb))))
  · subst e
    rcases List.mem_append.1 ha with ha | ha
    · simp only [Option.toList_some, List.mem_singleton] at ha
      subst ha
      exact hn (List.mem_append.2 (.inr hb))
    · exact a3 a (List.mem_append.2 (.inr ha)) a hb rfl
  · rcases List.mem_append.1 ht with ht | ht
    · rcases List.mem_append.1 ht with ht | ht
      · simp only [Option.toList_some, List.mem_singleton] at ht
        exact .inr ht
      · exact .inl ⟨List.mem_append.2 (.inl (List.mem_append.2 (.inr ht))), fun e => b3 t (by rw [e]; simp) t ht rfl⟩
    · exact .inl ⟨List.mem_append.2 (.inr ht), fun e => a3 t (List.mem_append.2 (.inl (by rw [e]; simp))) t ht rfl⟩

theorem fs_head {Gl : Gh → Prop} (hst : Stays Gl) {p : Nm} (hp : 1 ≤ p.1) {s : Ps} (hok : s.ok) (ht : ∀ t ∈ s.toks, 1 ≤ t.1) (hz : s.x.sz) {c : UInt8} : FSR Tryd.prog Gl 35 [.ptr p 0, .int .u8 (c.toNat : Int)] [(p, .cells s.c)] s.toks (PR p s.toks (nxv (s.x.head c).1) (s.x.head c).2) := by
  refine FSR.of hm hst is_hostParserhead (by simp) fun γ hγ hfr => ?_
  have htγ : ∀ t ∈ s.toks, 1 ≤ t.1 ∧ ∀ i j, t ≠ (γ, i, j) := fun t h => ⟨ht t h, fun i j e => hfr.2 t h (by rw [e])⟩
  have hN : ∀ n : Nm, n.1 = γ → n ∉ s.toks := fun n e h => (htγ n h).2 n.2.1 n.2.2 (by rw [← e])
  clear hfr
  (generalize hQ : (fun (ex : Ex) (_ _ : Nat) (s : St) => _) = Q; unfold ir_hostParserhead)
  simp only [Ps.c]
  simp +contextual (maxSteps := 1000000) only [go_sem, reduceCtorEq, ↓reduceIte, Nat.reduceAdd, Nat.reduceEqDiff, Nat.reduceLeDiff, Nat.reduceMul, Nat.reduceBEq, Int.reduceBEq, Int.reduceBNe, Int.reduceLT, Int.reduceLE, Int.reduceGT, Int.reduceGE, Int.reduceToNat, Int.natCast_one, Int.natCast_zero, Int.cast_ofNat_Int]
  cases h1 : (decide ((c.toNat : Int) < 32) || (c.toNat : Int) == 127) with
  | true =>
    have e : s.x.head c = (some .head, s.x) := by simp only [Pp.head, h1, if_true]
    simp +contextual (maxSteps := 1000000) only [go_sem, reduceCtorEq, ↓reduceIte, Nat.reduceAdd, Nat.reduceEqDiff, Nat.reduceLeDiff, Nat.reduceMul, Nat.reduceBEq, Int.reduceBEq, Int.reduceBNe, Int.reduceLT, Int.reduceLE, Int.reduceGT, Int.reduceGE, Int.reduceToNat, Int.natCast_one, Int.natCast_zero, Int.cast_ofNat_Int]
    rw [← hQ, e]
    exact ⟨trivial, PR.same _ rfl (fun _ => nxv_rn) (fun _ _ _ => nxv_ok) hp hok ht (by simp [Ps.c]) rfl rfl rfl fun _ h => h⟩
  | false =>
  simp +contextual (maxSteps := 1000000) only [go_sem, reduceCtorEq, ↓reduceIte, Nat.reduceAdd, Nat.reduceEqDiff, Nat.reduceLeDiff, Nat.reduceMul, Nat.reduceBEq, Int.reduceBEq, Int.reduceBNe, Int.reduceLT, Int.reduceLE, Int.reduceGT, Int.reduceGE, Int.reduceToNat, Int.natCast_one, Int.natCast_zero, Int.cast_ofNat_Int]
  cases h2 : decide ((c.toNat : Int) ≥ 128) with
  | true =>
    have e : s.x.head c = (none, s.x.drop) := by simp only [Pp.head, h1, h2, if_true, Bool.false_eq_true, if_false]
    simp +contextual (maxSteps := 1000000) only [go_sem, reduceCtorEq, ↓reduceIte, Nat.reduceAdd, Nat.reduceEqDiff, Nat.reduceLeDiff, Nat.reduceMul, Nat.reduceBEq, Int.reduceBEq, Int.reduceBNe, Int.reduceLT, Int.reduceLE, Int.reduceGT, Int.reduceGE, Int.reduceToNat, Int.natCast_one, Int.natCast_zero, Int.cast_ofNat_Int]
    refine PR.call (s := s) (fs_drop hst hp hok ht) hp (fun _ => rfl) hγ (fun _ h => h) (fun t h => ⟨ht t h, fun j => (htγ t h).2 _ _⟩) fun s' q1 q2 q3 => ?_
    simp +contextual (maxSteps := 1000000) only [go_sem, reduceCtorEq, ↓reduceIte, Nat.reduceAdd, Nat.reduceEqDiff, Nat.reduceLeDiff, Nat.reduceMul, Nat.reduceBEq, Int.reduceBEq, Int.reduceBNe, Int.reduceLT, Int.reduceLE, Int.reduceGT, Int.reduceGE, Int.reduceToNat, Int.natCast_one, Int.natCast_zero, Int.cast_ofNat_Int]
    rw [← hQ, e, ← q1]
    exact ⟨trivial, PR.behind rfl (fun _ => nxv_rn) (fun _ _ _ => nxv_ok) hp ht (by simp) q2 q3 fun _ h => h⟩
  | false =>
  simp +contextual (maxSteps := 1000000) only [go_sem, reduceCtorEq, ↓reduceIte, Nat.reduceAdd, Nat.reduceEqDiff, Nat.reduceLeDiff, Nat.reduceMul, Nat.reduceBEq, Int.reduceBEq, Int.reduceBNe, Int.reduceLT, Int.reduceLE, Int.reduceGT, Int.reduceGE, Int.reduceToNat, Int.natCast_one, Int.natCast_zero, Int.cast_ofNat_Int]
  cases h3 : decide ((c.toNat : Int) < 48) with
  | true =>
    have e : s.x.head c = (some .head, { s.x.inter c with f := false }) := by simp only [Pp.head, h1, h2, h3, if_true, Bool.false_eq_true, if_false]
    simp +contextual (maxSteps := 1000000) only [go_sem, reduceCtorEq, ↓reduceIte, Nat.reduceAdd, Nat.reduceEqDiff, Nat.reduceLeDiff, Nat.reduceMul, Nat.reduceBEq, Int.reduceBEq, Int.reduceBNe, Int.reduceLT, Int.reduceLE, Int.reduceGT, Int.reduceGE, Int.reduceToNat, Int.natCast_one, Int.natCast_zero, Int.cast_ofNat_Int]
    refine PR.call (s := s) (fs_inter hst hp hok ht hz.it) hp (fun _ => rfl) hγ (fun _ h => h) (fun t h => ⟨ht t h, fun j => (htγ t h).2 _ _⟩) fun s' q1 q2 q3 => ?_
    simp only [Ps.c]
    simp +contextual (maxSteps := 1000000) only [go_sem, reduceCtorEq, ↓reduceIte, Nat.reduceAdd, Nat.reduceEqDiff, Nat.reduceLeDiff, Nat.reduceMul, Nat.reduceBEq, Int.reduceBEq, Int.reduceBNe, Int.reduceLT, Int.reduceLE, Int.reduceGT, Int.reduceGE, Int.reduceToNat, Int.natCast_one, Int.natCast_zero, Int.cast_ofNat_Int]
    rw [← hQ, e, ← q1]
    exact ⟨trivial, PR.ret ⟨{ s'.x with f := false }, s'.tt, s'.dt, s'.ot⟩ rfl (fun _ => nxv_rn) (fun _ _ _ => nxv_ok) hp ht (by simp [Ps.c]) ⟨q2.nd, q2.t, q2.d, q2.o⟩ fun t h => ⟨h, (q3 t h).2.imp _root_.id fun e => Nat.le_of_eq e.symm⟩⟩
  | false =>
  simp +contextual (maxSteps := 1000000) only [go_sem, reduceCtorEq, ↓reduceIte, Nat.reduceAdd, Nat.reduceEqDiff, Nat.reduceLeDiff, Nat.reduceMul, Nat.reduceBEq, Int.reduceBEq, Int.reduceBNe, Int.reduceLT, Int.reduceLE, Int.reduceGT, Int.reduceGE, Int.reduceToNat, Int.natCast_one, Int.natCast_zero, Int.cast_ofNat_Int]
  cases h4 : decide ((c.toNat : Int) < 60) with
  | true =>
    have e : s.x.head c = (some .head, { s.x with b := s.x.b || !decide (s.x.it = []), tx := s.x.tx ++ [c], f := false }) := by simp only [Pp.head, h1, h2, h3, h4, if_true, Bool.false_eq_true, if_false]
    have hfit : ((s.x.tx.length + 1) * 1 ≤ 140737488355328) = True := by have := hz.tx; simp only [eq_iff_iff, iff_true]; omega
    cases hd : s.tt with
    | none =>
      have hd0 := hok.t hd
      simp +contextual (maxSteps := 1000000) only [bytesAV_len, go_sem, reduceCtorEq, ↓reduceIte, Nat.reduceAdd, Nat.reduceEqDiff, Nat.reduceLeDiff, Nat.reduceMul, Nat.reduceBEq, Int.reduceBEq, Int.reduceBNe, Int.reduceLT, Int.reduceLE, Int.reduceGT, Int.reduceGE, Int.reduceToNat, Int.natCast_one, Int.natCast_zero, Int.cast_ofNat_Int]
      rw [← hQ, e]
      obtain ⟨k1, k2⟩ := Ps.newt (n := (γ, 45, 0)) hok (hN _ rfl) { s.x with b := s.x.b || !decide (s.x.it = []), tx := s.x.tx ++ [c], f := false } rfl rfl
      refine ⟨trivial, PR.ret ⟨{ s.x with b := s.x.b || !decide (s.x.it = []), tx := s.x.tx ++ [c], f := false }, some (γ, 45, 0), s.dt, s.ot⟩ rfl (fun _ => nxv_rn) (fun _ _ _ => nxv_ok) hp ht (by simp [Ps.c, hd0, bytesAV, sv]) k1 fun t h => ?_⟩
      rcases k2 t h with ⟨h, _⟩ | rfl
      · exact ⟨.inr (.inr h), .inl h⟩
      · exact ⟨.inl rfl, .inr (Nat.le_refl _)⟩
    | some t1 =>
      have hdT : t1 ∈ s.toks := by simp [Ps.toks, hd]
      simp +contextual (maxSteps := 1000000) only [bytesAV_len, hfit, go_sem, reduceCtorEq, ↓reduceIte, Nat.reduceAdd, Nat.reduceEqDiff, Nat.reduceLeDiff, Nat.reduceMul, Nat.reduceBEq, Int.reduceBEq, Int.reduceBNe, Int.reduceLT, Int.reduceLE, Int.reduceGT, Int.reduceGE, Int.reduceToNat, Int.natCast_one, Int.natCast_zero, Int.cast_ofNat_Int]
      refine ⟨.inr hdT, ?_⟩
      rw [← hQ, e]
      obtain ⟨k1, k2⟩ := Ps.newt (n := (γ, 45, 0)) hok (hN _ rfl) { s.x with b := s.x.b || !decide (s.x.it = []), tx := s.x.tx ++ [c], f := false } rfl rfl
      refine ⟨trivial, PR.ret ⟨{ s.x with b := s.x.b || !decide (s.x.it = []), tx := s.x.tx ++ [c], f := false }, some (γ, 45, 0), s.dt, s.ot⟩ rfl (fun _ => nxv_rn) (fun _ _ _ => nxv_ok) hp ht (by simp [Ps.c, bytesAV, sv]) k1 fun t h => ?_⟩
      rcases k2 t h with ⟨h, h'⟩ | rfl
      · exact ⟨.inr ⟨.inr h, fun e => h' (by rw [hd, e])⟩, .inl h⟩
      · exact ⟨.inl rfl, .inr (Nat.le_refl _)⟩
  | false =>
  simp +contextual (maxSteps := 1000000) only [go_sem, reduceCtorEq, ↓reduceIte, Nat.reduceAdd, Nat.reduceEqDiff, Nat.reduceLeDiff, Nat.reduceMul, Nat.reduceBEq, Int.reduceBEq, Int.reduceBNe, Int.reduceLT, Int.reduceLE, Int.reduceGT, Int.reduceGE, Int.reduceToNat, Int.natCast_one, Int.natCast_zero, Int.cast_ofNat_Int]
  cases h5 : decide ((c.toNat : Int) < 64) with
  | true =>
    have e : s.x.head c = (some .head, { s.x with b := s.x.b || !s.x.f, pr := c.toNat, f := false }) := by simp only [Pp.head, h1, h2, h3, h4, h5, if_true, Bool.false_eq_true, if_false]
    simp +contextual (maxSteps := 1000000) only [go_sem, reduceCtorEq, ↓reduceIte, Nat.reduceAdd, Nat.reduceEqDiff, Nat.reduceLeDiff, Nat.reduceMul, Nat.reduceBEq, Int.reduceBEq, Int.reduceBNe, Int.reduceLT, Int.reduceLE, Int.reduceGT, Int.reduceGE, Int.reduceToNat, Int.natCast_one, Int.natCast_zero, Int.cast_ofNat_Int]
    rw [← hQ, e]
    exact ⟨trivial, PR.same _ rfl (fun _ => nxv_rn) (fun _ _ _ => nxv_ok) hp hok ht (by simp [Ps.c]) rfl rfl rfl fun _ h => h⟩
  | false =>
  simp +contextual (maxSteps := 1000000) only [go_sem, reduceCtorEq, ↓reduceIte, Nat.reduceAdd, Nat.reduceEqDiff, Nat.reduceLeDiff, Nat.reduceMul, Nat.reduceBEq, Int.reduceBEq, Int.reduceBNe, Int.reduceLT, Int.reduceLE, Int.reduceGT, Int.reduceGE, Int.reduceToNat, Int.natCast_one, Int.natCast_zero, Int.cast_ofNat_Int]
  cases h6 : (s.x.k == 3) with
  | true =>
    have e : s.x.head c = (some .inside, { s.x with fi := c.toNat, r := true }) := by simp only [Pp.head, h1, h2, h3, h4, h5, h6, if_true, Bool.false_eq_true, if_false]
    simp +contextual (maxSteps := 1000000) only [go_sem, reduceCtorEq, ↓reduceIte, Nat.reduceAdd, Nat.reduceEqDiff, Nat.reduceLeDiff, Nat.reduceMul, Nat.reduceBEq, Int.reduceBEq, Int.reduceBNe, Int.reduceLT, Int.reduceLE, Int.reduceGT, Int.reduceGE, Int.reduceToNat, Int.natCast_one, Int.natCast_zero, Int.cast_ofNat_Int]
    rw [← hQ, e]
    exact ⟨trivial, PR.same _ rfl (fun _ => nxv_rn) (fun _ _ _ => nxv_ok) hp hok ht (by simp [Ps.c]) rfl rfl rfl fun _ h => h⟩
  | false =>
    have e : s.x.head c = (none, ({ s.x with fi := c.toNat } : Pp).tell) := by simp only [Pp.head, h1, h2, h3, h4, h5, h6, Bool.false_eq_true, if_false]
    have hz' : ({ s.x with fi := c.toNat } : Pp).sz := ⟨hz.tx, hz.it, hz.da, by simp at h2 ⊢; omega, hz.ou⟩
    simp +contextual (maxSteps := 1000000) only [go_sem, reduceCtorEq, ↓reduceIte, Nat.reduceAdd, Nat.reduceEqDiff, Nat.reduceLeDiff, Nat.reduceMul, Nat.reduceBEq, Int.reduceBEq, Int.reduceBNe, Int.reduceLT, Int.reduceLE, Int.reduceGT, Int.reduceGE, Int.reduceToNat, Int.natCast_one, Int.natCast_zero, Int.cast_ofNat_Int]
    refine PR.call (s := ⟨{ s.x with fi := c.toNat }, s.tt, s.dt, s.ot⟩) (fs_tell hst hp ⟨hok.nd, hok.t, hok.d, hok.o⟩ ht hz') hp (fun _ => rfl) hγ (fun _ h => h) (fun t h => ⟨ht t h, fun j => (htγ t h).2 _ _⟩) fun s' q1 q2 q3 => ?_
    simp +contextual (maxSteps := 1000000) only [go_sem, reduceCtorEq, ↓reduceIte, Nat.reduceAdd, Nat.reduceEqDiff, Nat.reduceLeDiff, Nat.reduceMul, Nat.reduceBEq, Int.reduceBEq, Int.reduceBNe, Int.reduceLT, Int.reduceLE, Int.reduceGT, Int.reduceGE, Int.reduceToNat, Int.natCast_one, Int.natCast_zero, Int.cast_ofNat_Int]
    rw [← hQ, e, ← q1]
    exact ⟨trivial, PR.behind rfl (fun _ => nxv_rn) (fun _ _ _ => nxv_ok) hp ht (by simp) q2 q3 fun _ h => h⟩
end Go.Proofs.YtgdgfefojfgpaaaDoor
