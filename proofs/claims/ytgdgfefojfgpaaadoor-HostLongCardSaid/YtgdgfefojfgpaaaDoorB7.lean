/- The parser of layer 5: behind an escape byte; in a string's end; a byte. -/
import Derived.Test.YtgdgfefojfgpaaaDoorB6
set_option linter.unusedVariables false
set_option linter.unusedSimpArgs false
set_option maxRecDepth 100000
namespace Go.Proofs.YtgdgfefojfgpaaaDoor
open Go Go.Ab

def Pp.behind (x : Pp) (c : UInt8) : Option Nx × Pp :=
  if (decide ((c.toNat : Int) < 32) || (c.toNat : Int) == 127) = true then (some .behind, x)
  else if decide ((c.toNat : Int) ≥ 128) = true then (none, x.drop)
  else if decide ((c.toNat : Int) < 48) = true then (some .behind, x.inter c)
  else if (!decide (x.it = []) || !([91, 80, 93, 88, 94, 95] : List UInt8).contains c) = true then (none, ({ x with k := 5, fi := c.toNat } : Pp).tell)
  else x.opened c.toNat

theorem fs_behind {Gl : Gh → Prop} (hst : Stays Gl) {p : Nm} (hp : 1 ≤ p.1) {s : Ps} (hok : s.ok) (ht : ∀ t ∈ s.toks, 1 ≤ t.1) (hz : s.x.sz) {c : UInt8} : FSR Tryd.prog Gl 20 [.ptr p 0, .int .u8 (c.toNat : Int)] [(p, .cells s.c)] s.toks (PR p s.toks (nxv (s.x.behind c).1) (s.x.behind c).2) := by
  refine FSR.of hm hst is_hostParserbehind (by simp) fun γ hγ hfr => ?_
  have htγ : ∀ t ∈ s.toks, 1 ≤ t.1 ∧ ∀ i j, t ≠ (γ, i, j) := fun t h => ⟨ht t h, fun i j e => hfr.2 t h (by rw [e])⟩
  clear hfr
  (generalize hQ : (fun (ex : Ex) (_ _ : Nat) (s : St) => _) = Q; unfold ir_hostParserbehind)
  simp only [Ps.c]
  simp +contextual (maxSteps := 1000000) only [go_sem, reduceCtorEq, ↓reduceIte, Nat.reduceAdd, Nat.reduceEqDiff, Nat.reduceLeDiff, Nat.reduceMul, Nat.reduceBEq, Int.reduceBEq, Int.reduceBNe, Int.reduceLT, Int.reduceLE, Int.reduceGT, Int.reduceGE, Int.reduceToNat, Int.natCast_one, Int.natCast_zero, Int.cast_ofNat_Int]
  cases h1 : (decide ((c.toNat : Int) < 32) || (c.toNat : Int) == 127) with
  | true =>
    have e : s.x.behind c = (some .behind, s.x) := by simp only [Pp.behind, h1, if_true]
    simp +contextual (maxSteps := 1000000) only [go_sem, reduceCtorEq, ↓reduceIte, Nat.reduceAdd, Nat.reduceEqDiff, Nat.reduceLeDiff, Nat.reduceMul, Nat.reduceBEq, Int.reduceBEq, Int.reduceBNe, Int.reduceLT, Int.reduceLE, Int.reduceGT, Int.reduceGE, Int.reduceToNat, Int.natCast_one, Int.natCast_zero, Int.cast_ofNat_Int]
    rw [← hQ, e]
    exact ⟨trivial, PR.same _ rfl (fun _ => nxv_rn) (fun _ _ _ => nxv_ok) hp hok ht (by simp [Ps.c]) rfl rfl rfl fun _ h => h⟩
  | false =>
  simp +contextual (maxSteps := 1000000) only [go_sem, reduceCtorEq, ↓reduceIte, Nat.reduceAdd, Nat.reduceEqDiff, Nat.reduceLeDiff, Nat.reduceMul, Nat.reduceBEq, Int.reduceBEq, Int.reduceBNe, Int.reduceLT, Int.reduceLE, Int.reduceGT, Int.reduceGE, Int.reduceToNat, Int.natCast_one, Int.natCast_zero, Int.cast_ofNat_Int]
  cases h2 : decide ((c.toNat : Int) ≥ 128) with
  | true =>
    have e : s.x.behind c = (none, s.x.drop) := by simp only [Pp.behind, h1, h2, if_true, Bool.false_eq_true, if_false]
    simp +contextual (maxSteps := 1000000) only [go_sem, reduceCtorEq, ↓reduceIte, Nat.reduceAdd, Nat.reduceEqDiff, Nat.reduceLeDiff, Nat.reduceMul, Nat.reduceBEq, Int.reduceBEq, Int.reduceBNe, Int.reduceLT, Int.reduceLE, Int.reduceGT, Int.reduceGE, Int.reduceToNat, Int.natCast_one, Int.natCast_zero, Int.cast_ofNat_Int]
    refine PR.call (s := s) (fs_drop hst hp hok ht) hp (fun _ => rfl) hγ (fun _ h => h) (fun t h => ⟨ht t h, fun j => (htγ t h).2 _ _⟩) fun s' q1 q2 q3 => ?_
    simp +contextual (maxSteps := 1000000) only [go_sem, reduceCtorEq, ↓reduceIte, Nat.reduceAdd, Nat.reduceEqDiff, Nat.reduceLeDiff, Nat.reduceMul, Nat.reduceBEq, Int.reduceBEq, Int.reduceBNe, Int.reduceLT, Int.reduceLE, Int.reduceGT, Int.reduceGE, Int.reduceToNat, Int.natCast_one, Int.natCast_zero, Int.cast_ofNat_Int]
    rw [← hQ, e, ← q1]
    exact ⟨trivial, PR.behind rfl (fun _ => nxv_rn) (fun _ _ _ => nxv_ok) hp ht (by simp) q2 q3 fun _ h => h⟩
  | false =>
  simp +contextual (maxSteps := 1000000) only [go_sem, reduceCtorEq, ↓reduceIte, Nat.reduceAdd, Nat.reduceEqDiff, Nat.reduceLeDiff, Nat.reduceMul, Nat.reduceBEq, Int.reduceBEq, Int.reduceBNe, Int.reduceLT, Int.reduceLE, Int.reduceGT, Int.reduceGE, Int.reduceToNat, Int.natCast_one, Int.natCast_zero, Int.cast_ofNat_Int]
  cases h3 : decide ((c.toNat : Int) < 48) with
  | true =>
    have e : s.x.behind c = (some .behind, s.x.inter c) := by simp only [Pp.behind, h1, h2, h3, if_true, Bool.false_eq_true, if_false]
    simp +contextual (maxSteps := 1000000) only [go_sem, reduceCtorEq, ↓reduceIte, Nat.reduceAdd, Nat.reduceEqDiff, Nat.reduceLeDiff, Nat.reduceMul, Nat.reduceBEq, Int.reduceBEq, Int.reduceBNe, Int.reduceLT, Int.reduceLE, Int.reduceGT, Int.reduceGE, Int.reduceToNat, Int.natCast_one, Int.natCast_zero, Int.cast_ofNat_Int]
    refine PR.call (s := s) (fs_inter hst hp hok ht hz.it) hp (fun _ => rfl) hγ (fun _ h => h) (fun t h => ⟨ht t h, fun j => (htγ t h).2 _ _⟩) fun s' q1 q2 q3 => ?_
    simp +contextual (maxSteps := 1000000) only [go_sem, reduceCtorEq, ↓reduceIte, Nat.reduceAdd, Nat.reduceEqDiff, Nat.reduceLeDiff, Nat.reduceMul, Nat.reduceBEq, Int.reduceBEq, Int.reduceBNe, Int.reduceLT, Int.reduceLE, Int.reduceGT, Int.reduceGE, Int.reduceToNat, Int.natCast_one, Int.natCast_zero, Int.cast_ofNat_Int]
    rw [← hQ, e, ← q1]
    exact ⟨trivial, PR.behind rfl (fun _ => nxv_rn) (fun _ _ _ => nxv_ok) hp ht (by simp) q2 q3 fun _ h => h⟩
  | false =>
  have hlt : (c.toNat : Int) < 128 := by simpa using h2
  have hw : IntKind.i32.wrap (c.toNat : Int) = c.toNat := by rw [IntKind.wrap_i32]; omega
  have hcall : FS Tryd.prog Gl 29 [.str [91, 80, 93, 88, 94, 95], .int .i32 (c.toNat : Int)] [] [] (.bool (([91, 80, 93, 88, 94, 95] : List UInt8).contains c)) [] [] := by
    have := fs_ContainsRune (Gl := Gl) (s := [91, 80, 93, 88, 94, 95]) (r := (c.toNat : Int)) (by omega) hlt
    simpa using this
  obtain ⟨cr, hcr⟩ : ∃ cr, ([91, 80, 93, 88, 94, 95] : List UInt8).contains c = cr := ⟨_, rfl⟩
  rw [hcr] at hcall
  simp +contextual (maxSteps := 1000000) only [hw, go_sem, reduceCtorEq, ↓reduceIte, Nat.reduceAdd, Nat.reduceEqDiff, Nat.reduceLeDiff, Nat.reduceMul, Nat.reduceBEq, Int.reduceBEq, Int.reduceBNe, Int.reduceLT, Int.reduceLE, Int.reduceGT, Int.reduceGE, Int.reduceToNat, Int.natCast_one, Int.natCast_zero, Int.cast_ofNat_Int]
  (refine kGc_call (hcall) (fun _ => rfl) ?_ ?_; (focus simp +contextual [Xev_t, Xev_c, upd_app, lf_cons, lf_nil]); simp +contextual (maxSteps := 1000000) only [hw, go_sem, reduceCtorEq, ↓reduceIte, Nat.reduceAdd, Nat.reduceEqDiff, Nat.reduceLeDiff, Nat.reduceMul, Nat.reduceBEq, Int.reduceBEq, Int.reduceBNe, Int.reduceLT, Int.reduceLE, Int.reduceGT, Int.reduceGE, Int.reduceToNat, Int.natCast_one, Int.natCast_zero, Int.cast_ofNat_Int])
  cases h4 : (!decide (s.x.it = []) || !cr) with
  | true =>
    have e : s.x.behind c = (none, ({ s.x with k := 5, fi := c.toNat } : Pp).tell) := by simp only [Pp.behind, h1, h2, h3, hcr, h4, if_true, Bool.false_eq_true, if_false]
    have hz' : ({ s.x with k := 5, fi := c.toNat } : Pp).sz := ⟨hz.tx, hz.it, hz.da, ⟨by simp only; omega, hlt⟩, hz.ou⟩
    simp +contextual (maxSteps := 1000000) only [go_sem, reduceCtorEq, ↓reduceIte, Nat.reduceAdd, Nat.reduceEqDiff, Nat.reduceLeDiff, Nat.reduceMul, Nat.reduceBEq, Int.reduceBEq, Int.reduceBNe, Int.reduceLT, Int.reduceLE, Int.reduceGT, Int.reduceGE, Int.reduceToNat, Int.natCast_one, Int.natCast_zero, Int.cast_ofNat_Int]
    refine PR.call (s := ⟨{ s.x with k := 5, fi := c.toNat }, s.tt, s.dt, s.ot⟩) (fs_tell hst hp ⟨hok.nd, hok.t, hok.d, hok.o⟩ ht hz') hp (fun _ => rfl) hγ (fun _ h => h) (fun t h => ⟨ht t h, fun j => (htγ t h).2 _ _⟩) fun s' q1 q2 q3 => ?_
    simp +contextual (maxSteps := 1000000) only [go_sem, reduceCtorEq, ↓reduceIte, Nat.reduceAdd, Nat.reduceEqDiff, Nat.reduceLeDiff, Nat.reduceMul, Nat.reduceBEq, Int.reduceBEq, Int.reduceBNe, Int.reduceLT, Int.reduceLE, Int.reduceGT, Int.reduceGE, Int.reduceToNat, Int.natCast_one, Int.natCast_zero, Int.cast_ofNat_Int]
    rw [← hQ, e, ← q1]
    exact ⟨trivial, PR.behind rfl (fun _ => nxv_rn) (fun _ _ _ => nxv_ok) hp ht (by simp) q2 q3 fun _ h => h⟩
  | false =>
    have e : s.x.behind c = s.x.opened c.toNat := by simp only [Pp.behind, h1, h2, h3, hcr, h4, Bool.false_eq_true, if_false]
    simp +contextual (maxSteps := 1000000) only [go_sem, reduceCtorEq, ↓reduceIte, Nat.reduceAdd, Nat.reduceEqDiff, Nat.reduceLeDiff, Nat.reduceMul, Nat.reduceBEq, Int.reduceBEq, Int.reduceBNe, Int.reduceLT, Int.reduceLE, Int.reduceGT, Int.reduceGE, Int.reduceToNat, Int.natCast_one, Int.natCast_zero, Int.cast_ofNat_Int]
    refine PR.call (s := s) (fs_opened hst hp hok ht) hp (fun _ => nxv_rn) hγ (fun _ h => h) (fun t h => ⟨ht t h, fun j => (htγ t h).2 _ _⟩) fun s' q1 q2 q3 => ?_
    simp +contextual (maxSteps := 1000000) only [go_sem, reduceCtorEq, ↓reduceIte, Nat.reduceAdd, Nat.reduceEqDiff, Nat.reduceLeDiff, Nat.reduceMul, Nat.reduceBEq, Int.reduceBEq, Int.reduceBNe, Int.reduceLT, Int.reduceLE, Int.reduceGT, Int.reduceGE, Int.reduceToNat, Int.natCast_one, Int.natCast_zero, Int.cast_ofNat_Int]
    rw [← hQ, e, ← q1]
    exact ⟨trivial, PR.behind rfl (fun _ => nxv_rn) (fun _ _ _ => nxv_ok) hp ht (by simp) q2 q3 fun _ h => h⟩

def Pp.ending (x : Pp) (c : UInt8) : Option Nx × Pp :=
  if ((c.toNat : Int) == 92) = true then (none, x.tell) else x.drop.behind c

theorem drop_sz {x : Pp} (h : x.sz) : x.drop.sz := ⟨by simp [Pp.drop, Pp.zero], by simp [Pp.drop, Pp.zero], by simp [Pp.drop, Pp.zero], by simp [Pp.drop, Pp.zero], h.ou⟩
theorem fs_ending {Gl : Gh → Prop} (hst : Stays Gl) {p : Nm} (hp : 1 ≤ p.1) {s : Ps} (hok : s.ok) (ht : ∀ t ∈ s.toks, 1 ≤ t.1) (hz : s.x.sz) {c : UInt8} : FSR Tryd.prog Gl 19 [.ptr p 0, .int .u8 (c.toNat : Int)] [(p, .cells s.c)] s.toks (PR p s.toks (nxv (s.x.ending c).1) (s.x.ending c).2) := by
  refine FSR.of hm hst is_hostParserending (by simp) fun γ hγ hfr => ?_
  have htγ : ∀ t ∈ s.toks, 1 ≤ t.1 ∧ ∀ i j, t ≠ (γ, i, j) := fun t h => ⟨ht t h, fun i j e => hfr.2 t h (by rw [e])⟩
  clear hfr
  (generalize hQ : (fun (ex : Ex) (_ _ : Nat) (s : St) => _) = Q; unfold ir_hostParserending)
  simp +contextual (maxSteps := 1000000) only [go_sem, reduceCtorEq, ↓reduceIte, Nat.reduceAdd, Nat.reduceEqDiff, Nat.reduceLeDiff, Nat.reduceMul, Nat.reduceBEq, Int.reduceBEq, Int.reduceBNe, Int.reduceLT, Int.reduceLE, Int.reduceGT, Int.reduceGE, Int.reduceToNat, Int.natCast_one, Int.natCast_zero, Int.cast_ofNat_Int]
  cases h1 : ((c.toNat : Int) == 92) with
  | true =>
    have e : s.x.ending c = (none, s.x.tell) := by simp only [Pp.ending, h1, if_true]
    simp +contextual (maxSteps := 1000000) only [go_sem, reduceCtorEq, ↓reduceIte, Nat.reduceAdd, Nat.reduceEqDiff, Nat.reduceLeDiff, Nat.reduceMul, Nat.reduceBEq, Int.reduceBEq, Int.reduceBNe, Int.reduceLT, Int.reduceLE, Int.reduceGT, Int.reduceGE, Int.reduceToNat, Int.natCast_one, Int.natCast_zero, Int.cast_ofNat_Int]
    refine PR.call (s := s) (fs_tell hst hp hok ht hz) hp (fun _ => rfl) hγ (fun _ h => h) (fun t h => ⟨ht t h, fun j => (htγ t h).2 _ _⟩) fun s' q1 q2 q3 => ?_
    simp +contextual (maxSteps := 1000000) only [go_sem, reduceCtorEq, ↓reduceIte, Nat.reduceAdd, Nat.reduceEqDiff, Nat.reduceLeDiff, Nat.reduceMul, Nat.reduceBEq, Int.reduceBEq, Int.reduceBNe, Int.reduceLT, Int.reduceLE, Int.reduceGT, Int.reduceGE, Int.reduceToNat, Int.natCast_one, Int.natCast_zero, Int.cast_ofNat_Int]
    rw [← hQ, e, ← q1]
    exact ⟨trivial, PR.behind rfl (fun _ => nxv_rn) (fun _ _ _ => nxv_ok) hp ht (by simp) q2 q3 fun _ h => h⟩
  | false =>
    have e : s.x.ending c = s.x.drop.behind c := by simp only [Pp.ending, h1, Bool.false_eq_true, if_false]
    simp +contextual (maxSteps := 1000000) only [go_sem, reduceCtorEq, ↓reduceIte, Nat.reduceAdd, Nat.reduceEqDiff, Nat.reduceLeDiff, Nat.reduceMul, Nat.reduceBEq, Int.reduceBEq, Int.reduceBNe, Int.reduceLT, Int.reduceLE, Int.reduceGT, Int.reduceGE, Int.reduceToNat, Int.natCast_one, Int.natCast_zero, Int.cast_ofNat_Int]
    refine PR.callI (Ha := []) (s := s) (fs_drop hst hp hok ht) hp (fun _ => rfl) hγ (fun _ h => h) (fun t h => ⟨ht t h, fun j => (htγ t h).2 _ _⟩) (by simp) fun s1 q1 q2 q3 => ?_
    simp +contextual (maxSteps := 1000000) only [go_sem, reduceCtorEq, ↓reduceIte, Nat.reduceAdd, Nat.reduceEqDiff, Nat.reduceLeDiff, Nat.reduceMul, Nat.reduceBEq, Int.reduceBEq, Int.reduceBNe, Int.reduceLT, Int.reduceLE, Int.reduceGT, Int.reduceGE, Int.reduceToNat, Int.natCast_one, Int.natCast_zero, Int.cast_ofNat_Int]
    refine PR.call (s := s1) (fs_behind hst hp q2 (fun t h => (q3 t h).1) (by rw [q1]; exact drop_sz hz)) hp (fun _ => nxv_rn) hγ (fun _ h => h) (fun t h => ⟨(q3 t h).1, fun j e => ?_⟩) fun s' r1 r2 r3 => ?_
    · rcases (q3 t h).2 with h | ⟨_, h⟩
      · exact (htγ t h).2 _ _ e
      · rw [e] at h; simp at h
    simp +contextual (maxSteps := 1000000) only [go_sem, reduceCtorEq, ↓reduceIte, Nat.reduceAdd, Nat.reduceEqDiff, Nat.reduceLeDiff, Nat.reduceMul, Nat.reduceBEq, Int.reduceBEq, Int.reduceBNe, Int.reduceLT, Int.reduceLE, Int.reduceGT, Int.reduceGE, Int.reduceToNat, Int.natCast_one, Int.natCast_zero, Int.cast_ofNat_Int]
    rw [← hQ, e, ← q1, ← r1]
    refine ⟨trivial, PR.behind rfl (fun _ => nxv_rn) (fun _ _ _ => nxv_ok) hp ht (by simp) r2 (fun t h => ⟨(r3 t h).1, ?_⟩) fun _ h => h⟩
    rcases (r3 t h).2 with h | h
    · exact (q3 t h).2.imp _root_.id And.left
    · exact .inr h
end Go.Proofs.YtgdgfefojfgpaaaDoor
