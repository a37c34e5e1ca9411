/- The parser of layer 5, as plain functions: how great its state grows, how it goes on behind parts. -/
import Derived.Test.YtgdgfefojfgpaaaDoorC3
set_option linter.unusedVariables false
set_option linter.unusedSimpArgs false
namespace Go.Proofs.YtgdgfefojfgpaaaDoor
open Go Go.Ab

theorem parsOk_len {l : List (List Int)} (h : parsOk l = true) : l.length ≤ 16 ∧ ∀ p ∈ l, p.length ≤ 8 := by
  simp only [parsOk, Bool.and_eq_true, Bool.not_eq_true', Bool.or_eq_false_iff, decide_eq_false_iff_not] at h
  obtain ⟨⟨h1, _⟩, h2⟩ := h
  refine ⟨by omega, fun p hp => ?_⟩
  have := List.any_eq_false.1 h2 p hp
  simp only [parBad, Bool.or_eq_true, decide_eq_true_eq, not_or] at this
  omega
theorem mayP_sm {s : Sq} (h : mayP s = 0) : s.sm ∧ s.ps.length ≤ 16 ∧ (∀ p ∈ s.ps, p.length ≤ 8) ∧ s.it.length ≤ 2 ∧ s.da.length ≤ 4096 := by
  simp only [mayP] at h
  split at h
  · cases h
  · rename_i h1
    split at h
    · cases h
    · rename_i h2
      simp only [Bool.or_eq_true, Bool.not_eq_true', not_or, Bool.not_eq_false, Bool.and_eq_true, decide_eq_true_eq] at h2 h1
      obtain ⟨⟨⟨⟨_, h3⟩, h4⟩, _⟩, _⟩ := h2
      obtain ⟨k1, k2⟩ := parsOk_len h4
      have k3 : s.it.length ≤ 2 := by have := h3.1; omega
      have k4 : s.da.length ≤ 4096 := by omega
      exact ⟨⟨by omega, fun p hp => by have := k2 p hp; omega, by omega, by omega⟩, k1, k2, k3, k4⟩

/-- What the parser holds, behind so many bytes. -/
structure Pp.w (n : Nat) (x : Pp) : Prop where
  tx : x.tx.length ≤ n
  it : x.it.length ≤ n
  da : x.da.length ≤ 4096
  fi : 0 ≤ x.fi ∧ x.fi < 128
  ou : x.ou.length ≤ n
  mo : ∀ s ∈ x.ou, mayP s = 0
theorem Pp.w.sz {n : Nat} {x : Pp} (h : x.w n) (hn : n < 4294967281) : x.sz := ⟨by have := h.tx; omega, by have := h.it; omega, h.da, h.fi, by have := h.ou; omega⟩
theorem Pp.w.le {n m : Nat} {x : Pp} (h : x.w n) (hn : n ≤ m) : x.w m := ⟨by have := h.tx; omega, by have := h.it; omega, h.da, h.fi, by have := h.ou; omega, h.mo⟩
theorem Pp.w.nx {n : Nat} {x : Pp} (h : x.w n) (k : Option Nx) : ({ x with nx := k } : Pp).w n := ⟨h.tx, h.it, h.da, h.fi, h.ou, h.mo⟩
theorem Pp.w.drop {n : Nat} {x : Pp} (h : x.w n) : x.drop.w n := ⟨Nat.zero_le _, Nat.zero_le _, by simp [Pp.drop, Pp.zero], by simp [Pp.drop, Pp.zero], h.ou, h.mo⟩
theorem Pp.w.tell {n : Nat} {x : Pp} (h : x.w n) : x.tell.w (n + 1) := by
  refine ⟨Nat.zero_le _, Nat.zero_le _, by simp [Pp.tell, Pp.zero], by simp [Pp.tell, Pp.zero], ?_, ?_⟩
  · simp only [Pp.tell]
    have := h.ou
    split
    · simp; omega
    · omega
  · simp only [Pp.tell]
    split
    · rename_i hc
      intro s hs
      rcases List.mem_append.1 hs with hs | hs
      · exact h.mo s hs
      · simp only [List.mem_singleton] at hs
        subst hs; exact hc.2
    · exact h.mo
theorem Pp.w.inter {n : Nat} {x : Pp} (h : x.w n) (c : UInt8) : (x.inter c).w (n + 1) := by
  refine ⟨Nat.le_succ_of_le h.tx, ?_, h.da, h.fi, Nat.le_succ_of_le h.ou, h.mo⟩
  simp only [Pp.inter]
  have := h.it
  split
  · omega
  · simp; omega
theorem Pp.w.opened {n : Nat} {x : Pp} (h : x.w n) (c : Int) : (x.opened c).2.w (n + 1) := by
  have h := h.le (Nat.le_succ n)
  unfold Pp.opened
  repeat' split
  all_goals exact ⟨h.tx, h.it, h.da, h.fi, h.ou, h.mo⟩
theorem Pp.w.behind {n : Nat} {x : Pp} (h : x.w n) (c : UInt8) : (x.behind c).2.w (n + 1) := by
  have h' := h.le (Nat.le_succ n)
  unfold Pp.behind
  split
  · exact h'
  split
  · exact h'.drop
  split
  · exact h.inter c
  split
  · rename_i h1 h2 h3 h4
    refine Pp.w.tell ⟨h.tx, h.it, h.da, ?_, h.ou, h.mo⟩
    simp at h2 ⊢; omega
  · exact h.opened _
theorem Pp.w.head {n : Nat} {x : Pp} (h : x.w n) (c : UInt8) : (x.head c).2.w (n + 1) := by
  have h' := h.le (Nat.le_succ n)
  unfold Pp.head
  split
  · exact h'
  split
  · exact h'.drop
  rename_i hc
  have hf : 0 ≤ (c.toNat : Int) ∧ (c.toNat : Int) < 128 := by simp at hc ⊢; omega
  split
  · have := h.inter c; exact ⟨this.tx, this.it, this.da, this.fi, this.ou, this.mo⟩
  split
  · exact ⟨by have := h.tx; simp; omega, h'.it, h.da, h.fi, h'.ou, h.mo⟩
  split
  · exact ⟨h'.tx, h'.it, h.da, h.fi, h'.ou, h.mo⟩
  split
  · exact ⟨h'.tx, h'.it, h.da, hf, h'.ou, h.mo⟩
  · exact Pp.w.tell ⟨h.tx, h.it, h.da, hf, h.ou, h.mo⟩
theorem Pp.w.inside {n : Nat} {x : Pp} (h : x.w n) (c : UInt8) : (x.inside c).2.w (n + 1) := by
  have h' := h.le (Nat.le_succ n)
  unfold Pp.inside
  split
  · exact h.tell
  split
  · exact h'
  split
  · exact ⟨h'.tx, h'.it, h.da, h.fi, h'.ou, h.mo⟩
  · rename_i hc
    refine ⟨h'.tx, h'.it, ?_, h.fi, h'.ou, h.mo⟩
    have := h.da
    simp at hc ⊢; omega
theorem Pp.w.ending {n : Nat} {x : Pp} (h : x.w n) (c : UInt8) : (x.ending c).2.w (n + 1) := by
  unfold Pp.ending
  split
  · exact h.tell
  · exact h.drop.behind c
theorem Pp.w.one {n : Nat} {x : Pp} (h : x.w n) (c : UInt8) : (x.one c).2.w (n + 1) := by
  have h' := h.le (Nat.le_succ n)
  unfold Pp.one
  split
  · exact h'.drop
  split
  · exact ⟨h'.tx, h'.it, h.da, h.fi, h'.ou, h.mo⟩
  split
  · exact h'.drop
  split
  · exact h'
  · rename_i k _
    cases k with
    | behind => exact h.behind c
    | head => exact h.head c
    | inside => exact h.inside c
    | unread => exact h'
    | ending => exact h.ending c
theorem Pp.w.put {n : Nat} {x : Pp} (h : x.w n) (c : UInt8) : (x.put c).w (n + 1) := (h.one c).nx _
theorem Pp.w.puts {x : Pp} : ∀ {b : List UInt8} {n : Nat}, x.w n → (x.puts b).w (n + b.length)
  | [], n, h => h
  | c :: b, n, h => by
    have := Pp.w.puts (b := b) (h.put c)
    simp only [Pp.puts, List.foldl_cons, List.length_cons] at this ⊢
    rwa [show n + (b.length + 1) = n + 1 + b.length by omega]
theorem Pp.w.zero : Pp.zero.w 0 := ⟨by simp [Pp.zero], by simp [Pp.zero], by simp [Pp.zero], by simp [Pp.zero], by simp [Pp.zero], by simp [Pp.zero]⟩
theorem Pp.puts_app (x : Pp) (a b : List UInt8) : x.puts (a ++ b) = (x.puts a).puts b := by simp only [Pp.puts, List.foldl_append]

/-! ### What was told goes its own way -/
/-- Told ahead. -/
def Pp.ah (l : List Sq) (x : Pp) : Pp := { x with ou := l ++ x.ou }
theorem ah_drop (l : List Sq) (x : Pp) : (x.ah l).drop = x.drop.ah l := rfl
theorem ah_tell (l : List Sq) (x : Pp) : (x.ah l).tell = x.tell.ah l := by
  show ({ Pp.zero with ou := if x.b = false ∧ mayP x.seq = 0 then (l ++ x.ou) ++ [x.seq] else l ++ x.ou } : Pp) = { Pp.zero with ou := l ++ if x.b = false ∧ mayP x.seq = 0 then x.ou ++ [x.seq] else x.ou }
  by_cases h : x.b = false ∧ mayP x.seq = 0
  · rw [if_pos h, if_pos h, List.append_assoc]
  · rw [if_neg h, if_neg h]
theorem ah_inter (l : List Sq) (x : Pp) (c : UInt8) : (x.ah l).inter c = (x.inter c).ah l := rfl
theorem ah_opened (l : List Sq) (x : Pp) (c : Int) : (x.ah l).opened c = ((x.opened c).1, (x.opened c).2.ah l) := by
  unfold Pp.opened
  repeat' split
  all_goals rfl
theorem ah_behind (l : List Sq) (x : Pp) (c : UInt8) : (x.ah l).behind c = ((x.behind c).1, (x.behind c).2.ah l) := by
  unfold Pp.behind
  split
  · rfl
  split
  · rfl
  split
  · rfl
  rw [show (x.ah l).it = x.it from rfl]
  split
  · show (none, (Pp.ah l { x with k := 5, fi := (c.toNat : Int) }).tell) = _
    rw [ah_tell]
  · exact ah_opened l x _
theorem ah_head (l : List Sq) (x : Pp) (c : UInt8) : (x.ah l).head c = ((x.head c).1, (x.head c).2.ah l) := by
  unfold Pp.head
  split
  · rfl
  split
  · rfl
  split
  · rfl
  split
  · rfl
  split
  · rfl
  rw [show (x.ah l).k = x.k from rfl]
  split
  · rfl
  · show (none, (Pp.ah l { x with fi := (c.toNat : Int) }).tell) = _
    rw [ah_tell]
theorem ah_inside (l : List Sq) (x : Pp) (c : UInt8) : (x.ah l).inside c = ((x.inside c).1, (x.inside c).2.ah l) := by
  unfold Pp.inside
  rw [show (x.ah l).k = x.k from rfl, show (x.ah l).b = x.b from rfl, show (x.ah l).da = x.da from rfl]
  split
  · rw [ah_tell]
  split
  · rfl
  split
  · rfl
  · rfl
theorem ah_ending (l : List Sq) (x : Pp) (c : UInt8) : (x.ah l).ending c = ((x.ending c).1, (x.ending c).2.ah l) := by
  unfold Pp.ending
  split
  · rw [ah_tell]
  · rw [ah_drop, ah_behind]
theorem ah_one (l : List Sq) (x : Pp) (c : UInt8) : (x.ah l).one c = ((x.one c).1, (x.one c).2.ah l) := by
  unfold Pp.one
  rw [show (x.ah l).r = x.r from rfl, show (x.ah l).nx = x.nx from rfl]
  split
  · rfl
  split
  · rfl
  split
  · rfl
  split
  · rfl
  · rename_i k _
    cases k with
    | behind => exact ah_behind l x c
    | head => exact ah_head l x c
    | inside => exact ah_inside l x c
    | unread => rfl
    | ending => exact ah_ending l x c
theorem ah_put (l : List Sq) (x : Pp) (c : UInt8) : (x.ah l).put c = (x.put c).ah l := by
  simp only [Pp.put, ah_one]; rfl
theorem ah_puts (l : List Sq) (x : Pp) : ∀ b : List UInt8, (x.ah l).puts b = (x.puts b).ah l := by
  intro b
  induction b generalizing x with
  | nil => rfl
  | cons c b ih =>
    show ((x.ah l).put c).puts b = ((x.put c).puts b).ah l
    rw [ah_put, ih]
/-- Without what was told. -/
def Pp.mt (x : Pp) : Pp := { x with ou := [] }
theorem mt_ah (x : Pp) : x = x.mt.ah x.ou := by simp [Pp.mt, Pp.ah]
theorem puts_mt (x : Pp) (b : List UInt8) : (x.puts b).mt = (x.mt.puts b).mt ∧ (x.puts b).ou = x.ou ++ (x.mt.puts b).ou := by
  have h : x.puts b = (x.mt.puts b).ah x.ou := by
    conv => lhs; rw [mt_ah x]
    rw [ah_puts]
  rw [h]
  exact ⟨rfl, rfl⟩
end Go.Proofs.YtgdgfefojfgpaaaDoor
