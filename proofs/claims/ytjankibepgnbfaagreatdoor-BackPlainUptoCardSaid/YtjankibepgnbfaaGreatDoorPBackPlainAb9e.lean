/- Regions that draw their order: that any order does what the text says. -/
import Derived.Test.YtjankibepgnbfaaGreatDoorPBackPlainAb9d
set_option linter.unusedVariables false
set_option linter.unusedSimpArgs false
namespace Go.Ab

def edgesOf (o : Oper) : List Nat := (o.after.toList.filter (Region.binds .any)).map (·.on)
def edgesAt (ops : Array Oper) (i : Nat) : List Nat :=
  match ops[i]? with
  | some o => edgesOf o
  | none => []
def ancs (ops : Array Oper) : Nat → Nat → List Nat
  | 0, i => edgesAt ops i
  | f + 1, i => edgesAt ops i ++ (edgesAt ops i).flatMap (ancs ops f)
def dynCall (o : Oper) : Bool :=
  match o.op with
  | .call c => match c.callee with
    | .value (.tmp _) => true
    | _ => false
  | _ => false
def fullAt (ops : Array Oper) (i : Nat) : Bool :=
  match ops[i]? with
  | some o => (List.range i).all (fun j => (edgesOf o).contains j) || (dynCall o && (List.range i).all fun j => (ancs ops 3 i).contains j)
  | none => true
def ClosedS (ops : Array Oper) (S : Nat → Bool) : Prop := ∀ (j : Nat) (o : Oper), S j = true → ops[j]? = some o → ∀ k ∈ edgesOf o, S k = true
theorem ancs_closed {ops : Array Oper} {S : Nat → Bool} (hc : ClosedS ops S) : ∀ (f i : Nat), (∀ k ∈ edgesAt ops i, S k = true) → ∀ j ∈ ancs ops f i, S j = true
  | 0, i, h, j, hj => h j hj
  | f + 1, i, h, j, hj => by
    simp only [ancs, List.mem_append, List.mem_flatMap] at hj
    rcases hj with hj | ⟨k, hk, hj⟩
    · exact h j hj
    · refine ancs_closed hc f k (fun l hl => ?_) j hj
      unfold edgesAt at hl
      split at hl
      · rename_i o ho
        exact hc k o (h k hk) ho l hl
      · cases hl
def ltAt (ops : Array Oper) (i : Nat) : Bool :=
  match ops[i]? with
  | some o => (edgesOf o).all (· < i)
  | none => true
def chainAt (ops : Array Oper) (i : Nat) : Bool :=
  match ops[i]? with
  | some o => (edgesOf o).contains (i - 1)
  | none => true
def sufStart (ops : Array Oper) : Nat := ((List.range ops.size).filter fun i => !(fullAt ops i || chainAt ops i)).foldl (fun _ i => i + 1) 0
def preLen (ops : Array Oper) : Nat := match (List.range ops.size).find? fun i => decide (sufStart ops ≤ i) && fullAt ops i with
  | some m => m
  | none => ops.size
def drwOK (m : Nat) (pre : List PreOp) : Bool :=
  (List.range m).all fun i => match pre[i]? with
    | some p => p.bf.all (· < i) && (List.range m).all fun j => j == i || (match pre[j]? with
      | some q => match q.o.d with
        | some t => p.o.d != some t && (!(p.o.sl.contains t) || p.bf.contains j)
        | none => true
      | none => true)
    | none => false
def compDrw (P : Program) (N : Nat) (ops : Array Oper) : Option (List PreOp × List IOper) :=
  match compOpers P N ops ops.toList with
  | some ios =>
    let m := preLen ops
    let pre := ((ios.zip (ops.toList.map edgesOf)).take m).map fun q => PreOp.mk q.1 q.2
    if drwOK m pre && (List.range ops.size).all (fun i => (decide (i < m) || fullAt ops i || (decide (m < i) && chainAt ops i)) && ltAt ops i) && decide (m ≤ ops.size) then some (pre, ios.drop m) else none
  | none => none

theorem compOpers_spec {P : Program} {N : Nat} {ops : Array Oper} : ∀ {os : List Oper} {xs : List IOper}, compOpers P N ops os = some xs →
    xs.length = os.length ∧ (∀ (i : Nat) (o : Oper), os[i]? = some o → ∃ x, xs[i]? = some x ∧ compOper P N ops o = some x) ∧ ∀ m, compOpers P N ops (os.drop m) = some (xs.drop m)
  | [], xs, h => by
    simp only [compOpers, Option.some.injEq] at h
    subst h
    exact ⟨rfl, by simp, fun m => by simp [compOpers]⟩
  | o :: os, xs, h => by
    have h0 := h
    simp only [compOpers] at h
    split at h
    · rename_i x xs' hx hxs
      cases h
      obtain ⟨k1, k2, k3⟩ := compOpers_spec hxs
      refine ⟨by simp [k1], fun i o' hi => ?_, fun m => ?_⟩
      · cases i with
        | zero => simp only [List.getElem?_cons_zero, Option.some.injEq] at hi ⊢; subst hi; exact ⟨x, rfl, hx⟩
        | succ i => simpa using k2 i o' (by simpa using hi)
      · cases m with
        | zero => exact h0
        | succ m => simpa using k3 m
    · cases h

theorem compOper_dst {P : Program} {N : Nat} {ops : Array Oper} {o : Oper} {x : IOper} (h : compOper P N ops o = some x) : x.d = o.dst ∧ compOp P o = some x.op ∧ (∀ t, o.dst = some t → t < N) ∧
    ((o.guard = none ∧ x.g = none) ∨ ∃ j b t, o.guard = some (j, b) ∧ (ops[j]?).bind (·.dst) = some t ∧ x.g = some (t, b)) := by
  unfold compOper at h
  split at h
  · rename_i io hio hd
    have hlt : ∀ t, o.dst = some t → t < N := fun t ht => by simpa [ht] using hd
    split at h
    · rename_i hg; cases h; exact ⟨rfl, hio, hlt, .inl ⟨hg, rfl⟩⟩
    · rename_i j b hg
      split at h
      · rename_i t ht
        split at h
        · cases h; exact ⟨rfl, hio, hlt, .inr ⟨j, b, t, hg, ht, rfl⟩⟩
        · cases h
      · cases h
  · cases h

structure DrwSpec (P : Program) (N : Nat) (ops : Array Oper) (pre : List PreOp) (tail : List IOper) : Prop where
  le : pre.length ≤ ops.size
  op : ∀ i, i < pre.length → ∃ o p, ops[i]? = some o ∧ pre[i]? = some p ∧ p.bf = edgesOf o ∧ compOper P N ops o = some p.o
  rest : compOpers P N ops (ops.toList.drop pre.length) = some tail
  bf : ∀ (i : Nat) (p : PreOp), pre[i]? = some p → ∀ j ∈ p.bf, j < i
  uniq : ∀ (i j : Nat) (p q : PreOp) (t : Nat), pre[i]? = some p → pre[j]? = some q → p.o.d = some t → q.o.d = some t → i = j
  slot : ∀ (i j : Nat) (p q : PreOp) (t : Nat), pre[i]? = some p → pre[j]? = some q → q.o.d = some t → t ∈ p.o.sl → j ≠ i → j ∈ p.bf
  full : ∀ (i : Nat) (o : Oper), pre.length ≤ i → ops[i]? = some o → (∀ S : Nat → Bool, ClosedS ops S → (∀ j ∈ edgesOf o, S j = true) → ∀ j, j < i → S j = true) ∨ (pre.length < i ∧ i - 1 ∈ edgesOf o)
  lt : ∀ (i : Nat) (o : Oper), ops[i]? = some o → ∀ j ∈ edgesOf o, j < i

theorem drwSpec {P : Program} {N : Nat} {ops : Array Oper} {pre : List PreOp} {tail : List IOper} (h : compDrw P N ops = some (pre, tail)) : DrwSpec P N ops pre tail := by
  unfold compDrw at h
  split at h
  · rename_i ios hios
    simp only at h
    split at h
    · rename_i hck
      simp only [Option.some.injEq, Prod.mk.injEq] at h
      obtain ⟨rfl, rfl⟩ := h
      simp only [Bool.and_eq_true, decide_eq_true_eq] at hck
      obtain ⟨⟨h1, h2⟩, h3⟩ := hck
      obtain ⟨k1, k2, k3⟩ := compOpers_spec hios
      have hlen : (((ios.zip (ops.toList.map edgesOf)).take (preLen ops)).map fun q => PreOp.mk q.1 q.2).length = preLen ops := by
        simp [k1]; omega
      have hok : ∀ (i : Nat) (p : PreOp), (((ios.zip (ops.toList.map edgesOf)).take (preLen ops)).map fun q => PreOp.mk q.1 q.2)[i]? = some p → (∀ j ∈ p.bf, j < i) ∧ ∀ (j : Nat) (q : PreOp) (t : Nat), (((ios.zip (ops.toList.map edgesOf)).take (preLen ops)).map fun q => PreOp.mk q.1 q.2)[j]? = some q → j ≠ i → q.o.d = some t → p.o.d ≠ some t ∧ (t ∈ p.o.sl → j ∈ p.bf) := by
        intro i p hp
        have hi : i < preLen ops := by rw [← hlen]; exact (List.getElem?_eq_some_iff.1 hp).1
        have := List.all_eq_true.1 h1 i (List.mem_range.2 hi)
        rw [hp] at this
        simp only [Bool.and_eq_true, List.all_eq_true, decide_eq_true_eq] at this
        refine ⟨this.1, fun j q t hq hj hd => ?_⟩
        have hj' : j < preLen ops := by rw [← hlen]; exact (List.getElem?_eq_some_iff.1 hq).1
        have := this.2 j (List.mem_range.2 hj')
        rw [hq] at this
        simp only [Bool.or_eq_true, beq_iff_eq, hj, false_or, hd, Bool.and_eq_true, bne_iff_ne, ne_eq, Bool.not_eq_true', List.contains_eq_mem, decide_eq_false_iff_not, decide_eq_true_eq] at this
        exact ⟨this.1, fun ht => by rcases this.2 with h | h; exact absurd ht h; exact h⟩
      refine ⟨by rw [hlen]; exact h3, fun i hi => ?_, by rw [hlen]; exact k3 _, fun i p hp => (hok i p hp).1, fun i j p q t hp hq hd hd' => ?_, fun i j p q t hp hq hd hs hj => ((hok i p hp).2 j q t hq hj hd).2 hs, fun i o hi ho => ?_, fun i o ho j hj => ?_⟩
      · rw [hlen] at hi
        have hin : i < ops.toList.length := by simp; omega
        obtain ⟨x, hx, hcx⟩ := k2 i _ (List.getElem?_eq_getElem hin)
        refine ⟨_, ⟨x, edgesOf ops.toList[i]⟩, by rw [← Array.getElem?_toList]; exact List.getElem?_eq_getElem hin, ?_, rfl, hcx⟩
        have hz : (ios.zip (ops.toList.map edgesOf))[i]? = some (x, edgesOf ops.toList[i]) := by
          rw [List.getElem?_zip_eq_some]
          exact ⟨hx, by rw [List.getElem?_map, List.getElem?_eq_getElem hin]; rfl⟩
        rw [List.getElem?_map, List.getElem?_take_of_lt hi, hz]
        rfl
      · by_cases e : i = j
        · exact e
        · exact absurd hd ((hok i p hp).2 j q t hq (Ne.symm e) hd').1
      · rw [hlen] at hi
        have := List.all_eq_true.1 h2 i (List.mem_range.2 (Array.getElem?_eq_some_iff.1 ho).1)
        simp only [Bool.and_eq_true, Bool.or_eq_true, decide_eq_true_eq] at this
        rcases this.1 with (h | h) | ⟨h, h'⟩
        · omega
        · refine .inl fun S hS he j hj => ?_
          unfold fullAt at h
          rw [ho] at h
          simp only [Bool.or_eq_true, Bool.and_eq_true, List.all_eq_true] at h
          rcases h with h | ⟨_, h⟩
          · exact he j (by simpa using h j (List.mem_range.2 hj))
          · refine ancs_closed hS 3 i (fun k hk => ?_) j (by simpa using h j (List.mem_range.2 hj))
            unfold edgesAt at hk
            rw [ho] at hk
            exact he k hk
        · refine .inr ⟨by rw [hlen]; exact h, ?_⟩
          unfold chainAt at h'
          rw [ho] at h'
          simpa using h'
      · have := List.all_eq_true.1 h2 i (List.mem_range.2 (Array.getElem?_eq_some_iff.1 ho).1)
        simp only [Bool.and_eq_true] at this
        have := this.2
        unfold ltAt at this
        rw [ho] at this
        simpa using List.all_eq_true.1 this j hj
    · cases h
  · cases h

/-! ### The frame amid the region -/
def wrOf (pre : List PreOp) (t : Nat) : Option Nat := (List.range pre.length).find? fun j => ((pre[j]?).bind (·.o.d)) == some t
def FD (F : Nat → AV) (pre : List PreOp) (ds : List DQ) (S : Nat → Bool) (t : Nat) : AV :=
  match wrOf pre t with
  | some j => match ds[j]? with
    | some d => if S j then d.v else F t
    | none => F t
  | none => F t

section
variable {P : Program} {N : Nat} {ops : Array Oper} {pre : List PreOp} {tail : List IOper}

theorem wr_some (h : DrwSpec P N ops pre tail) {i : Nat} {p : PreOp} {t : Nat} (hp : pre[i]? = some p) (hd : p.o.d = some t) : wrOf pre t = some i := by
  have hi : i < pre.length := (List.getElem?_eq_some_iff.1 hp).1
  unfold wrOf
  cases hf : (List.range pre.length).find? (fun j => ((pre[j]?).bind (·.o.d)) == some t) with
  | none =>
    have := List.find?_eq_none.1 hf i (List.mem_range.2 hi)
    simp [hp, hd] at this
  | some j =>
    have h1 := List.find?_some hf
    have h2 := List.mem_range.1 (List.mem_of_find?_eq_some hf)
    simp only [beq_iff_eq] at h1
    rw [List.getElem?_eq_getElem h2] at h1
    rw [h.uniq j i _ p t (List.getElem?_eq_getElem h2) hp (by simpa using h1) hd]

theorem wr_spec {t j : Nat} (h : wrOf pre t = some j) : ∃ p, pre[j]? = some p ∧ p.o.d = some t := by
  unfold wrOf at h
  have h1 := List.find?_some h
  have h2 := List.mem_range.1 (List.mem_of_find?_eq_some h)
  simp only [beq_iff_eq] at h1
  rw [List.getElem?_eq_getElem h2] at h1
  exact ⟨_, List.getElem?_eq_getElem h2, by simpa using h1⟩

theorem FD_put (h : DrwSpec P N ops pre tail) {F : Nat → AV} {ds : List DQ} {S S' : Nat → Bool} {i : Nat} {p : PreOp} {d : DQ} (hp : pre[i]? = some p) (hd : ds[i]? = some d) (hS : ∀ j, S' j = (S j || j == i)) : FD F pre ds S' = putF (FD F pre ds S) p.o.d d.v := by
  funext t
  by_cases e : p.o.d = some t
  · rw [e]
    simp only [FD, wr_some h hp e, hd, hS, beq_self_eq_true, Bool.or_true, if_true, putF, upd]
  · have e2 : putF (FD F pre ds S) p.o.d d.v t = FD F pre ds S t := by
      cases h' : p.o.d with
      | none => rfl
      | some u => simp only [putF, upd]; rw [if_neg]; intro e'; subst e'; exact e h'
    rw [e2]
    unfold FD
    cases hw : wrOf pre t with
    | none => rfl
    | some j =>
      have hj : j ≠ i := by
        rintro rfl
        obtain ⟨q, hq, hqd⟩ := wr_spec hw
        rw [hp] at hq; cases hq; exact e hqd
      simp only [hS, beq_eq_false_iff_ne.2 hj, Bool.or_false]

theorem FD_empty {F : Nat → AV} {ds : List DQ} {S : Nat → Bool} (hS : ∀ j, j < pre.length → S j = false) : FD F pre ds S = F := by
  funext t
  unfold FD
  cases hw : wrOf pre t with
  | none => rfl
  | some j =>
    obtain ⟨q, hq, _⟩ := wr_spec hw
    have := hS j (List.getElem?_eq_some_iff.1 hq).1
    simp only [this]
    split <;> rfl

theorem frD_eq (h : DrwSpec P N ops pre tail) {F : Nat → AV} {ds : List DQ} (hl : ds.length = pre.length) : ∀ i, i ≤ pre.length → frD F pre ds i = FD F pre ds (fun j => decide (j < i))
  | 0, _ => (FD_empty (fun j _ => by simp)).symm
  | i + 1, hi => by
    have hp := List.getElem?_eq_getElem (show i < pre.length by omega)
    have hd := List.getElem?_eq_getElem (show i < ds.length by omega)
    simp only [frD, hp, hd]
    rw [frD_eq h hl i (by omega)]
    exact (FD_put h hp hd (fun j => by rw [Bool.eq_iff_iff]; simp; omega)).symm

theorem FD_agree {F : Nat → AV} {ds : List DQ} {S S' : Nat → Bool} {t : Nat} (h : ∀ j, wrOf pre t = some j → S j = S' j) : FD F pre ds S t = FD F pre ds S' t := by
  unfold FD
  cases hw : wrOf pre t with
  | none => rfl
  | some j => simp only [h j hw]
end
end Go.Ab

