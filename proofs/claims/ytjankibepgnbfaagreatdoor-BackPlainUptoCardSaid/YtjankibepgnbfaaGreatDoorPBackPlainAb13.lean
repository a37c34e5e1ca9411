/- From a row's arguments, read as data, to values here; from a contract here to a row's call. -/
import Derived.Test.YtjankibepgnbfaaGreatDoorPBackPlainAb12d
import Derived.ChangeArms
import Derived.Carry
set_option linter.unusedVariables false
set_option linter.unusedSimpArgs false
namespace Go.Ab

def gh0 (W : World) : Gh := ⟨fun b o => W.cell? ⟨b, o, none⟩, fun _ => none, fun _ => .fresh⟩
theorem gh0_inv {W : World} (hF : FixW W) : HInv (gh0 W) W :=
  ⟨fun _ _ _ h => h, fun _ _ h => (by cases h), fun _ _ _ h => (by cases h), fun _ _ _ _ _ _ h => (by cases h), fun _ _ _ _ _ _ _ _ _ _ _ h => (by cases h), ⟨1, Nat.le_refl _, fun _ _ => ⟨rfl, rfl⟩⟩, fun p hp => ⟨hF p hp, fun i h => (by cases h), fun t e sz n cap h => (by cases h)⟩⟩

theorem FS.row {P : Program} {Gl : Gh → Prop} {k : FuncId} {args : List AV} {r : AV} {W : World} {vs : List Value} (h : FS P Gl k args [] [] r [] []) (hF : FixW W) (hG : Gl (gh0 W)) (ha : RepL (gh0 W) args vs) :
    Calls P k vs.toArray W fun e W' => ∃ v g', e = .returned v ∧ Rep g' (rn (fun j => (1, 0, j)) r) v ∧ RowKit.Below W.heap.size W W' := by
  refine callsIn_wide.1 ((h.2 (gh0 W) W vs (fun j => (1, 0, j)) (gh0_inv hF) hG (fun p hp => absurd hp List.not_mem_nil) (fun t ht => absurd ht List.not_mem_nil) ha (fun _ => ⟨rfl, rfl⟩) (fun i j e => by simpa using e)).mono ?_)
  rintro e W' ⟨v, g', r', H1, T1, ⟨rfl, rfl, rfl⟩, rfl, hp⟩
  refine ⟨v, g', rfl, hp.rep, ⟨hp.ws.keeps.os, hp.ws.keeps.tape, hp.ws.keeps.output, hp.ws.keeps.size, fun b hb => hp.ws.keeps.block b hb ?_⟩⟩
  rintro (⟨p, hp, _⟩ | ⟨t, ht, _⟩)
  · exact absurd hp List.not_mem_nil
  · exact absurd ht List.not_mem_nil

/-! ### Data -/
section
variable {H : Type} (enc : TypeId × Value → H) (P : Program) (W : World)
def TR (t : TypeId) (R : List AV → Prop) : Prop := ∀ fuel cs x, DataW.trod enc P W 0 (fun _ => true) true fuel t cs = some x → ∃ xs, R xs ∧ RepL (gh0 W) xs cs ∧ AV.closedL xs = true
variable {enc P W}
theorem TR.mono {t : TypeId} {R R' : List AV → Prop} (h : TR enc P W t R) (hR : ∀ xs, R xs → R' xs) : TR enc P W t R' := fun fuel cs x hx => let ⟨xs, a, b, c⟩ := h fuel cs x hx; ⟨xs, hR _ a, b, c⟩
theorem TR.int {t : TypeId} {k : IntKind} (h : P.underlying t = some (.int k)) : TR enc P W t fun xs => ∃ n, xs = [.int k n] ∧ k.min ≤ n ∧ n ≤ k.max := by
  intro fuel cs x hx
  cases fuel with
  | zero => simp [DataW.trod] at hx
  | succ fuel =>
    unfold DataW.trod at hx
    rw [h] at hx
    split at hx <;> try (first | (rename_i e _; cases e; done) | (cases hx; done))
    all_goals (first | (rename_i e; cases e) | skip)
    rename_i k' n
    split at hx
    · rename_i hw
      obtain ⟨rfl, hw⟩ := hw
      refine ⟨_, ⟨n, rfl, ?_⟩, ⟨_, _, rfl, rfl, rfl⟩, rfl⟩
      simpa [Lit.wf] using hw
    · cases hx
theorem TR.bool {t : TypeId} (h : P.underlying t = some .bool) : TR enc P W t fun xs => ∃ b, xs = [.bool b] := by
  intro fuel cs x hx
  cases fuel with
  | zero => simp [DataW.trod] at hx
  | succ fuel =>
    unfold DataW.trod at hx
    rw [h] at hx
    split at hx <;> try (first | (rename_i e _; cases e; done) | (cases hx; done))
    all_goals (first | (rename_i e; cases e) | skip)
    rename_i b
    exact ⟨_, ⟨b, rfl⟩, ⟨_, _, rfl, rfl, rfl⟩, rfl⟩
theorem TR.str {t : TypeId} (h : P.underlying t = some .string) : TR enc P W t fun xs => ∃ s, xs = [.str s] ∧ s.length ≤ maxLen := by
  intro fuel cs x hx
  cases fuel with
  | zero => simp [DataW.trod] at hx
  | succ fuel =>
    unfold DataW.trod at hx
    rw [h] at hx
    split at hx <;> try (first | (rename_i e _; cases e; done) | (cases hx; done))
    all_goals (first | (rename_i e; cases e) | skip)
    rename_i s
    split at hx
    · rename_i hl
      refine ⟨_, ⟨s.data.toList, rfl, by rw [Array.length_toList]; exact hl⟩, ⟨_, _, rfl, ?_, rfl⟩, rfl⟩
      show Value.string s = .string ⟨s.data.toList.toArray⟩
      cases s; rfl
    · cases hx
theorem cells_of {a : Addr} : ∀ {n : Nat} {cs : List Value}, W.cells? 0 a n = some cs → cs.length = n ∧ (0 < n → a.spot = none) ∧ ∀ i, i < n → (gh0 W).imm a.block (a.off + i) = cs[i]? := by
  intro n cs h
  simp only [World.cells?, Nat.zero_le, if_true] at h
  have hl := mapM_some_length h
  simp only [List.length_range] at hl
  have hg := mapM_some_get h
  refine ⟨hl, fun hn => ?_, fun i hi => ?_⟩
  · have := hg 0 0 (by simp [hn])
    have h0 : (a.add 0) = a := by simp [Addr.add]
    rw [h0, List.getElem?_eq_getElem (by omega)] at this
    unfold World.cell? at this
    split at this
    · split at this
      · cases this
      · rename_i hs; simpa using hs
    · cases this
  · have := hg i i (by simp [hi])
    rw [← this]
    by_cases h0 : i = 0
    · subst h0
      have h0 : (a.add 0) = a := by simp [Addr.add]
      have hs : a.spot = none := by
        have := hg 0 0 (by simp [hi])
        rw [h0, List.getElem?_eq_getElem (by omega)] at this
        unfold World.cell? at this
        split at this
        · split at this
          · cases this
          · rename_i hs; simpa using hs
        · cases this
      rw [h0]
      simp only [gh0, Nat.add_zero]
      obtain ⟨b, o, s⟩ := a
      simp only at hs
      subst hs; rfl
    · simp only [Addr.add, if_neg h0, gh0]
theorem TR.slice {t e : TypeId} {sz : Nat} {R : List AV → Prop} (h : P.underlying t = some (.slice e)) (hc : P.cellsOf e = sz) (hsz : 0 < sz) (he : TR enc P W e R) :
    TR enc P W t fun xs => ∃ rows : List (List AV), xs = [.sl none sz rows] ∧ rows.length ≤ maxLen ∧ ∀ r ∈ rows, R r ∧ r.length = sz := by
  intro fuel cs x hx
  rcases DataW.trod_slice h hx with ⟨rfl, _⟩ | ⟨a, len, cap, elems, rest, n, rfl, rfl, rfl, _, h1, h2, h3, h4, h5, _⟩
  · exact ⟨[.sl none sz []], ⟨[], rfl, by simp, by simp⟩, ⟨_, _, rfl, RepLe.nils sz _ _ rfl, rfl⟩, rfl⟩
  · rw [hc] at h4 h5
    have key : ∀ i, i < len → ∃ xs : List AV, R xs ∧ xs.length = sz ∧ RepCells (gh0 W).imm a.block (a.off + i * sz) xs := fun i hi => by
      have hi2 := h4 i hi
      rw [List.getElem?_eq_getElem (by omega)] at hi2
      obtain ⟨cs, k1, k2⟩ := Option.bind_eq_some_iff.1 hi2
      obtain ⟨xs, r1, r2, r3⟩ := he _ _ _ k2
      obtain ⟨c1, c2, c3⟩ := cells_of k1
      have hadd : (a.add (i * sz)).block = a.block ∧ (a.add (i * sz)).off = a.off + i * sz := by
        unfold Addr.add
        split
        · rename_i h0; rw [h0]; exact ⟨rfl, rfl⟩
        · exact ⟨rfl, rfl⟩
      have hl := RepL.length r2
      refine ⟨xs, r1, by omega, RepCells.of_vals r2 r3 fun j v hj => ?_⟩
      have hj' : j < sz := by have := (List.getElem?_eq_some_iff.1 hj).1; omega
      rw [← hj, ← c3 j hj', hadd.1, hadd.2]
    have spot : 0 < cap → a.spot = none := fun hcap => by
      by_cases hl : 0 < len
      · have hi2 := h4 0 hl
        rw [List.getElem?_eq_getElem (by omega)] at hi2
        obtain ⟨cs, k1, k2⟩ := Option.bind_eq_some_iff.1 hi2
        have := (cells_of k1).2.1 hsz
        rwa [show a.add (0 * sz) = a by simp [Addr.add]] at this
      · obtain ⟨h6, h7⟩ := h5 rfl
        have hi2 := h7 0 (by omega)
        rw [List.getElem?_eq_getElem (by omega)] at hi2
        obtain ⟨cs, k1, k2⟩ := Option.bind_eq_some_iff.1 hi2
        have := (cells_of k1).2.1 hsz
        have h0 : len = 0 := by omega
        rwa [show a.add ((len + 0) * sz) = a by simp [Addr.add, h0]] at this
    have rows : ∀ m, m ≤ len → ∃ rs : List (List AV), rs.length = m ∧ (∀ r ∈ rs, R r ∧ r.length = sz) ∧ RepRow (gh0 W).imm a.block sz (a.off + (len - m) * sz) rs := by
      intro m
      induction m with
      | zero => exact fun _ => ⟨[], rfl, by simp, trivial⟩
      | succ m ih =>
        intro hm
        obtain ⟨rs, q1, q2, q3⟩ := ih (by omega)
        obtain ⟨xs, r1, r2, r3⟩ := key (len - (m + 1)) (by omega)
        refine ⟨xs :: rs, by simp [q1], fun r hr => ?_, r3, r2, ?_⟩
        · rcases List.mem_cons.1 hr with rfl | hr
          · exact ⟨r1, r2⟩
          · exact q2 r hr
        · rw [show a.off + (len - (m + 1)) * sz + sz = a.off + (len - m) * sz by rw [Nat.add_assoc, ← Nat.succ_mul]; congr 2; omega]
          exact q3
    obtain ⟨rs, q1, q2, q3⟩ := rows len (Nat.le_refl _)
    simp only [Nat.sub_self, Nat.zero_mul, Nat.add_zero] at q3
    refine ⟨[.sl none sz rs], ⟨rs, rfl, by omega, q2⟩, ⟨_, _, rfl, ⟨some a, cap, by rw [q1], ?_, fun _ h => by cases h⟩, rfl⟩, rfl⟩
    by_cases hcap : 0 < cap
    · have := spot hcap
      obtain ⟨b, o, s⟩ := a
      simp only at this
      subst this
      exact .inr ⟨b, o, rfl, hsz, by omega, h2, q3⟩
    · refine .inl ⟨.inr rfl, by omega, List.length_eq_zero_iff.1 (by omega)⟩
def Parts : List (List AV → Prop) → List AV → Prop
  | [], xs => xs = []
  | R :: Rs, xs => ∃ a b, R a ∧ Parts Rs b ∧ xs = a ++ b
def FieldsR (enc : TypeId × Value → H) (P : Program) (W : World) : Nat → List Field → List (List AV → Prop) → Nat → Prop
  | o, [], [], n => o = n
  | o, f :: fs, R :: Rs, n => f.offset = o ∧ TR enc P W f.type R ∧ FieldsR enc P W (o + P.cellsOf f.type) fs Rs n
  | _, _, _, _ => False
theorem fields_go {fuel : Nat} {cs : List Value} : ∀ {fs : List Field} {Rs : List (List AV → Prop)} {o : Nat} {ys : List (DataW H × List MemPlace)}, FieldsR enc P W o fs Rs cs.length → o ≤ cs.length →
    (fs.mapM fun f => DataW.trod enc P W 0 (fun _ => true) true fuel f.type ((cs.drop f.offset).take (P.cellsOf f.type))) = some ys → ∃ xs, Parts Rs xs ∧ RepL (gh0 W) xs (cs.drop o) ∧ AV.closedL xs = true
  | [], [], o, ys, h, _, _ => ⟨[], rfl, by rw [show o = cs.length from h]; simp [RepL], rfl⟩
  | f :: fs, R :: Rs, o, ys, ⟨h1, h2, h3⟩, ho, hm => by
    simp only [List.mapM_cons, Option.bind_eq_bind, Option.bind_eq_some_iff, Option.pure_def, Option.some.injEq] at hm
    obtain ⟨y, k1, ys', k2, rfl⟩ := hm
    have hle : ∀ {fs : List Field} {Rs : List (List AV → Prop)} {o : Nat}, FieldsR enc P W o fs Rs cs.length → o ≤ cs.length := by
      intro fs
      induction fs with
      | nil =>
        intro Rs o h
        cases Rs with
        | nil => exact Nat.le_of_eq h
        | cons _ _ => exact h.elim
      | cons g gs ih =>
        intro Rs o h
        cases Rs with
        | nil => exact h.elim
        | cons _ _ => have := ih h.2.2; omega
    obtain ⟨xs, r1, r2, r3⟩ := fields_go h3 (hle h3) k2
    obtain ⟨zs, s1, s2, s3⟩ := h2 _ _ _ k1
    refine ⟨zs ++ xs, ⟨zs, xs, s1, r1, rfl⟩, ?_, ?_⟩
    · have : cs.drop o = (cs.drop f.offset).take (P.cellsOf f.type) ++ cs.drop (o + P.cellsOf f.type) := by
        rw [h1, ← List.drop_drop, List.take_append_drop]
      rw [this]
      exact RepL.append s2 r2
    · have app : ∀ {a b : List AV}, AV.closedL a = true → AV.closedL b = true → AV.closedL (a ++ b) = true := by
        intro a
        induction a with
        | nil => intro b _ h; exact h
        | cons x a ih =>
          intro b h h'
          simp only [AV.closedL, Bool.and_eq_true, List.cons_append] at h ⊢
          exact ⟨h.1, ih h.2 h'⟩
      exact app s3 r3
  | [], _ :: _, _, _, h, _, _ => h.elim
  | _ :: _, [], _, _, h, _, _ => h.elim
theorem TR.struct {t : TypeId} {fs : Array Field} {Rs : List (List AV → Prop)} (h : P.underlying t = some (.struct fs)) (hF : FieldsR enc P W 0 fs.toList Rs (P.cellsOf t)) : TR enc P W t (Parts Rs) := by
  intro fuel cs x hx
  cases fuel with
  | zero => simp [DataW.trod] at hx
  | succ fuel =>
    unfold DataW.trod at hx
    rw [h] at hx
    simp only at hx
    split at hx
    · rename_i hl
      obtain ⟨ys, k1, _⟩ := Option.map_eq_some_iff.1 hx
      rw [← hl] at hF
      obtain ⟨xs, a, b, c⟩ := fields_go hF (Nat.zero_le _) k1
      exact ⟨xs, a, by simpa using b, c⟩
    · cases hx
def structIs (P : Program) (t : TypeId) (L : List (Nat × Nat)) : Bool := match P.underlying t with
  | some (.struct fs) => decide (fs.toList.map (fun f => (f.offset, f.type)) = L)
  | _ => false
def FieldsL (enc : TypeId × Value → H) (P : Program) (W : World) : Nat → List (Nat × Nat) → List (List AV → Prop) → Nat → Prop
  | o, [], [], n => o = n
  | o, f :: fs, R :: Rs, n => f.1 = o ∧ TR enc P W f.2 R ∧ ∃ c, P.cellsOf f.2 = c ∧ FieldsL enc P W (o + c) fs Rs n
  | _, _, _, _ => False
theorem FieldsL.to : ∀ {fs : List Field} {Rs : List (List AV → Prop)} {o n : Nat}, FieldsL enc P W o (fs.map fun f => (f.offset, f.type)) Rs n → FieldsR enc P W o fs Rs n
  | [], [], _, _, h => h
  | f :: fs, R :: Rs, o, n, ⟨h1, h2, c, h3, h4⟩ => ⟨h1, h2, by rw [h3]; exact FieldsL.to h4⟩
  | [], _ :: _, _, _, h => h.elim
  | _ :: _, [], _, _, h => h.elim
theorem TR.structL {t : TypeId} {L : List (Nat × Nat)} {Rs : List (List AV → Prop)} (n : Nat) (h : structIs P t L = true) (hn : P.cellsOf t = n) (hF : FieldsL enc P W 0 L Rs n) : TR enc P W t (Parts Rs) := by
  unfold structIs at h
  split at h
  · rename_i fs hu
    have := of_decide_eq_true h
    subst this
    exact TR.struct hu (by rw [hn]; exact hF.to)
  · cases h
theorem okWide_struct {t : TypeId} {L : List (Nat × Nat)} {base : Nat} {v : Value} {r : Reach} (h : structIs P t L = true) (hv : Value.okWide P W r base t v) : ∃ cs, v = .agg cs := by
  unfold structIs at h
  split at h
  · rename_i fs hu
    simp only [Value.okWide, hu] at hv
    obtain ⟨cs, h, _⟩ := hv
    exact ⟨cs, h⟩
  · cases h
theorem array_go {fuel : Nat} {e : TypeId} {sz : Nat} {cs : List Value} {R : List AV → Prop} (he : TR enc P W e R) : ∀ (m i : Nat) {ys : List (DataW H × List MemPlace)}, cs.length = (i + m) * sz →
    ((List.range' i m).mapM fun i => DataW.trod enc P W 0 (fun _ => true) true fuel e ((cs.drop (i * sz)).take sz)) = some ys → ∃ xs, Parts (List.replicate m R) xs ∧ RepL (gh0 W) xs (cs.drop (i * sz)) ∧ AV.closedL xs = true
  | 0, i, ys, h, _ => ⟨[], rfl, by rw [List.drop_of_length_le (by rw [h, Nat.add_zero]; exact Nat.le_refl _)]; exact rfl, rfl⟩
  | m + 1, i, ys, h, hm => by
    simp only [List.range'_succ, List.mapM_cons, Option.bind_eq_bind, Option.bind_eq_some_iff, Option.pure_def, Option.some.injEq] at hm
    obtain ⟨y, k1, ys', k2, rfl⟩ := hm
    obtain ⟨xs, r1, r2, r3⟩ := array_go he m (i + 1) (by rw [h]; congr 1; omega) k2
    obtain ⟨zs, s1, s2, s3⟩ := he _ _ _ k1
    refine ⟨zs ++ xs, ⟨zs, xs, s1, r1, rfl⟩, ?_, ?_⟩
    · have : cs.drop (i * sz) = (cs.drop (i * sz)).take sz ++ cs.drop ((i + 1) * sz) := by
        rw [Nat.succ_mul, ← List.drop_drop, List.take_append_drop]
      rw [this]
      exact RepL.append s2 r2
    · have app : ∀ {a b : List AV}, AV.closedL a = true → AV.closedL b = true → AV.closedL (a ++ b) = true := by
        intro a
        induction a with
        | nil => intro b _ h; exact h
        | cons x a ih =>
          intro b h h'
          simp only [AV.closedL, Bool.and_eq_true, List.cons_append] at h ⊢
          exact ⟨h.1, ih h.2 h'⟩
      exact app s3 r3
theorem TR.array {t e : TypeId} {n sz : Nat} {R : List AV → Prop} (h : P.underlying t = some (.array n e)) (hc : P.cellsOf e = sz) (ht : P.cellsOf t = n * sz) (he : TR enc P W e R) : TR enc P W t (Parts (List.replicate n R)) := by
  intro fuel cs x hx
  cases fuel with
  | zero => simp [DataW.trod] at hx
  | succ fuel =>
    unfold DataW.trod at hx
    rw [h] at hx
    simp only at hx
    split at hx
    · rename_i hl
      obtain ⟨ys, k1, _⟩ := Option.map_eq_some_iff.1 hx
      rw [hc] at k1
      obtain ⟨xs, a, b, c⟩ := array_go he n 0 (by rw [hl, ht, Nat.zero_add]) (by rw [← List.range_eq_range']; exact k1)
      exact ⟨xs, a, by simpa using b, c⟩
    · cases hx

theorem TR.argN {t : TypeId} {R : List AV → Prop} (h : TR enc P W t R) {cs : Array Value} {d : DataW H} {ps : List MemPlace} (hd : DataW.Trod enc P W 0 (fun _ => true) true t (.agg cs) d ps) : ∃ xs, R xs ∧ Rep (gh0 W) (.agg xs) (.agg cs) := by
  obtain ⟨fuel, hd⟩ := hd
  obtain ⟨xs, a, b, c⟩ := h _ _ _ hd
  exact ⟨xs, a, cs, rfl, b⟩
end
end Go.Ab

