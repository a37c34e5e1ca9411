/- The names that a run made are handed to the caller. -/
import Derived.Test.YtjankibepgnbfaaGreatDoorPBackPlainAb10
set_option linter.unusedVariables false
set_option linter.unusedSimpArgs false
namespace Go.Ab
section
variable {P : Program} {Gl : Gh → Prop}

def Gh.hand (g gf : Gh) (us : List Nm) (f : Nat → Nm) : Gh :=
  { imm := gf.imm
    mu := fun i => match (List.range us.length).find? (fun j => f j = i) with
      | some j => gf.mu (us.getD j (0, 0, 0))
      | none => g.mu i
    own := fun t => match (List.range us.length).find? (fun j => f j = t) with
      | some j => gf.own (us.getD j (0, 0, 0))
      | none => match g.own t with
        | .fresh => .fresh
        | _ => gf.own t }

section hand
variable {g gf : Gh} {us : List Nm} {f : Nat → Nm} {w w' : World} {M : Nat → Prop} {K : Nm → Prop}

theorem find_some (hf : ∀ i j, f i = f j → i = j) {j : Nat} (hj : j < us.length) : (List.range us.length).find? (fun i => f i = f j) = some j := by
  rw [List.find?_eq_some_iff_getElem]
  refine ⟨by simp, j, by simpa using hj, by simp, fun k hk => ?_⟩
  simp only [List.getElem_range, decide_eq_true_eq, Bool.not_eq_true', decide_eq_false_iff_not]
  intro e
  have := hf _ _ e
  omega
theorem find_none {n : Nm} (h : ∀ j, n ≠ f j) : (List.range us.length).find? (fun i => f i = n) = none := by
  rw [List.find?_eq_none]
  intro j _ e
  simp only [decide_eq_true_eq] at e
  exact h j e.symm
theorem find_cases (n : Nm) : (∃ j, j < us.length ∧ f j = n ∧ (List.range us.length).find? (fun i => f i = n) = some j) ∨ (List.range us.length).find? (fun i => f i = n) = none := by
  cases h : (List.range us.length).find? (fun i => f i = n) with
  | none => exact .inr rfl
  | some j =>
    have h1 := List.find?_some h
    have h2 := List.mem_of_find?_eq_some h
    simp only [decide_eq_true_eq] at h1
    exact .inl ⟨j, by simpa using h2, h1, rfl⟩

theorem hand_mu_new (hf : ∀ i j, f i = f j → i = j) {j : Nat} (hj : j < us.length) : (g.hand gf us f).mu (f j) = gf.mu (us.getD j (0, 0, 0)) := by
  simp only [Gh.hand, find_some hf hj]
theorem hand_own_new (hf : ∀ i j, f i = f j → i = j) {j : Nat} (hj : j < us.length) : (g.hand gf us f).own (f j) = gf.own (us.getD j (0, 0, 0)) := by
  simp only [Gh.hand, find_some hf hj]
theorem hand_mu_old {n : Nm} (h : ∀ j, n ≠ f j) : (g.hand gf us f).mu n = g.mu n := by simp only [Gh.hand, find_none h]
theorem hand_own_old {n : Nm} (h : ∀ j, n ≠ f j) (hn : g.own n ≠ .fresh) : (g.hand gf us f).own n = gf.own n := by
  simp only [Gh.hand, find_none h]
theorem hand_own_fresh {n : Nm} (h : ∀ j, n ≠ f j) (hn : g.own n = .fresh) : (g.hand gf us f).own n = .fresh := by
  simp only [Gh.hand, find_none h, hn]

theorem hand_id (hf : ∀ i j, f i = f j → i = j) (hfr : ∀ j, g.free (f j)) (hle : g.le gf) {L : List Nm} (hL : ∀ n ∈ L, g.mu n ≠ none) {n : Nm} (h : nmOK us.length L n) {b : Nat}
    (k : gf.mu (rnN (fun j => us.getD j (0, 0, 0)) n) = some b) : (g.hand gf us f).mu (rnN f n) = some b := by
  unfold nmOK at h
  unfold rnN at k ⊢
  split
  · rename_i hp
    rw [if_pos hp] at h k
    rw [hand_mu_new hf h]; exact k
  · rename_i hp
    rw [if_neg hp] at h k
    have hne : ∀ j, n ≠ f j := by rintro j rfl; exact hL _ h (hfr j).1
    rw [hand_mu_old hne]
    cases e : g.mu n with
    | none => exact absurd e (hL _ h)
    | some b' => have := hle.mu _ _ e; rw [this] at k; exact k
theorem hand_tok (hf : ∀ i j, f i = f j → i = j) (hfr : ∀ j, g.free (f j)) {T : List Nm} (hT : ∀ n ∈ T, g.own n ≠ .fresh) {n : Nm} (h : nmOK us.length T n) :
    (g.hand gf us f).own (rnN f n) = gf.own (rnN (fun j => us.getD j (0, 0, 0)) n) := by
  unfold nmOK at h
  unfold rnN
  split
  · rename_i hp
    rw [if_pos hp] at h
    exact hand_own_new hf h
  · rename_i hp
    rw [if_neg hp] at h
    have hne : ∀ j, n ≠ f j := by rintro j rfl; exact hT _ h (hfr j).2
    exact hand_own_old hne (hT _ h)

mutual
theorem Rep.hand (hf : ∀ i j, f i = f j → i = j) (hfr : ∀ j, g.free (f j)) (hle : g.le gf) {L T : List Nm} (hL : ∀ n ∈ L, g.mu n ≠ none) (hT : ∀ n ∈ T, g.own n ≠ .fresh) :
    ∀ (x : AV) (v : Value), AV.okIn us.length L T x → Rep gf (rn (fun j => us.getD j (0, 0, 0)) x) v → Rep (g.hand gf us f) (rn f x) v
  | .und, _, _, _ => trivial
  | .int .., _, _, e => e
  | .bool .., _, _, e => e
  | .str .., _, _, e => e
  | .nilp, _, _, e => e
  | .ptr .., _, h, ⟨b, e, k⟩ => ⟨b, hand_id hf hfr hle hL h e, k⟩
  | .el cs, _, _, e => e
  | .nils, _, _, e => e
  | .sl none sz rows, _, _, ⟨A, cap, e, k, kt⟩ => ⟨A, cap, e, k, fun t' ht => by cases ht⟩
  | .sl (some t) sz rows, _, h, ⟨A, cap, e, k, kt⟩ => ⟨A, cap, e, k.imp (fun ⟨h, x⟩ => ⟨h.imp id fun h => (by cases h), x⟩) id, fun t' ht => by
    cases ht
    rw [hand_tok hf hfr hT h]; exact kt _ rfl⟩
  | .nilf, _, _, e => e
  | .fn _ first caps, _, h, ⟨fs, cs, e, k1, k2⟩ => ⟨fs, cs, e, RepL.hand hf hfr hle hL hT first _ h.1 k1, RepL.hand hf hfr hle hL hT caps _ h.2 k2⟩
  | .agg cs, _, h, ⟨vs, e, k⟩ => ⟨vs, e, RepL.hand hf hfr hle hL hT cs _ h k⟩
  | .tup cs, _, h, ⟨vs, e, k⟩ => ⟨vs, e, RepL.hand hf hfr hle hL hT cs _ h k⟩
  | .mp .., _, h, ⟨b, e, k⟩ => ⟨b, hand_id hf hfr hle hL h e, k⟩
  | .yl _, _, h, ⟨b, e, k⟩ => ⟨b, hand_id hf hfr hle hL h e, k⟩
  | .ms .., _, h, ⟨b, e, k⟩ => ⟨b, hand_id hf hfr hle hL h e, k⟩
  | .slr .., _, _, e => e
  | .raw .., _, _, e => e
theorem RepL.hand (hf : ∀ i j, f i = f j → i = j) (hfr : ∀ j, g.free (f j)) (hle : g.le gf) {L T : List Nm} (hL : ∀ n ∈ L, g.mu n ≠ none) (hT : ∀ n ∈ T, g.own n ≠ .fresh) :
    ∀ (xs : List AV) (vs : List Value), AV.okInL us.length L T xs → RepL gf (rnL (fun j => us.getD j (0, 0, 0)) xs) vs → RepL (g.hand gf us f) (rnL f xs) vs
  | [], _, _, e => e
  | x :: xs, _, h, ⟨v, rest, e, k1, k2⟩ => ⟨v, rest, e, Rep.hand hf hfr hle hL hT x v h.1 k1, RepL.hand hf hfr hle hL hT xs rest h.2 k2⟩
end

theorem bound_gen (f : Nat → Nm) : ∀ m : Nat, ∃ G, ∀ j, j < m → (f j).1 < G
  | 0 => ⟨0, fun j hj => absurd hj (by omega)⟩
  | m + 1 => by
    obtain ⟨G, hG⟩ := bound_gen f m
    refine ⟨max G ((f m).1 + 1), fun j hj => ?_⟩
    by_cases h : j = m
    · subst h; omega
    · have := hG j (by omega); omega

theorem getD_mem {j : Nat} (hj : j < us.length) : us.getD j (0, 0, 0) ∈ us := by
  simp only [List.getD_eq_getElem?_getD, List.getElem?_eq_getElem hj, Option.getD_some]
  exact List.getElem_mem hj
theorem getD_inj (hn : us.Nodup) {i j : Nat} (hi : i < us.length) (hj : j < us.length) (h : us.getD i (0, 0, 0) = us.getD j (0, 0, 0)) : i = j := by
  simp only [List.getD_eq_getElem?_getD, List.getElem?_eq_getElem hi, List.getElem?_eq_getElem hj, Option.getD_some] at h
  have hp := List.pairwise_iff_getElem.1 hn
  rcases Nat.lt_trichotomy i j with hlt | heq | hgt
  · exact absurd h (hp i j hi hj hlt)
  · exact heq
  · exact absurd h.symm (hp j i hj hi hgt)

theorem hand_post (hf : ∀ i j, f i = f j → i = j) (hfr : ∀ j, g.free (f j)) {H0 : Hp} {T0 : List Nm} (hH0 : HOK g H0 w) (hT0 : TOK g (· ∈ T0)) {s : St} {γ : Nat} (hγ : ∀ n : Nm, γ ≤ n.1 → g.free n)
    (hW : WS ⟨w, g, mutOf g H0 (· ∈ T0), (· ∈ T0)⟩ s.H s.T gf w') {r : AV} {H1 : Hp} {T1 : List Nm} {v : Value} (hnd : us.Nodup) (hus : ∀ n ∈ us, γ ≤ n.1)
    (hr : Rep gf (rn (fun j => us.getD j (0, 0, 0)) r) v) (hH : ∀ p ∈ rnH (fun j => us.getD j (0, 0, 0)) H1, p ∈ s.H) (hT : ∀ t ∈ T1, s.T (rnN (fun j => us.getD j (0, 0, 0)) t))
    (o1 : AV.okIn us.length (H0.map (·.1)) T0 r) (o2 : ∀ p ∈ H1, nmOK us.length (H0.map (·.1)) p.1 ∧ p.2.okIn us.length (H0.map (·.1)) T0) (o3 : ∀ t ∈ T1, nmOK us.length T0 t) :
    Post f H0 T0 r H1 T1 g w v (g.hand gf us f) w' := by
  have hle : g.le gf := hW.le
  have hL : ∀ n ∈ H0.map (·.1), g.mu n ≠ none := fun n hn => by
    obtain ⟨p, hp, rfl⟩ := List.mem_map.1 hn
    obtain ⟨b, hb, _⟩ := hH0 p hp
    rw [hb]; simp
  have hTf : ∀ n ∈ T0, g.own n ≠ .fresh := fun n hn => (hT0 n hn).2
  have husfree : ∀ j, j < us.length → g.free (us.getD j (0, 0, 0)) := fun j hj => hγ _ (hus _ (getD_mem hj))
  have hle' : g.le (g.hand gf us f) := ⟨hle.imm, fun i b e => by
      have hne : ∀ j, i ≠ f j := by rintro j rfl; rw [(hfr j).1] at e; cases e
      rw [hand_mu_old hne]; exact e,
    fun t ht => by
      have hne : ∀ j, t ≠ f j := by rintro j rfl; exact ht (hfr j).2
      rw [hand_own_old hne ht]; exact hle.own t ht⟩
  have muc : ∀ i b, (g.hand gf us f).mu i = some b → (∃ j, j < us.length ∧ f j = i ∧ gf.mu (us.getD j (0, 0, 0)) = some b) ∨ ((∀ j, i ≠ f j ∨ us.length ≤ j) ∧ g.mu i = some b) := fun i b e => by
    rcases find_cases (f := f) (us := us) i with ⟨j, h1, h2, h3⟩ | h
    · simp only [Gh.hand, h3] at e; exact .inl ⟨j, h1, h2, e⟩
    · simp only [Gh.hand, h] at e
      refine .inr ⟨fun j => ?_, e⟩
      rw [List.find?_eq_none] at h
      by_cases hj : j < us.length
      · left; rintro rfl; exact h j (by simpa using hj) (by simp)
      · exact .inr (by omega)
  have owc : ∀ t b e sz n cap, (g.hand gf us f).own t = .at b e sz n cap → (∃ j, j < us.length ∧ f j = t ∧ gf.own (us.getD j (0, 0, 0)) = .at b e sz n cap) ∨ (g.own t ≠ .fresh ∧ gf.own t = .at b e sz n cap) := fun t b e sz n cap e' => by
    rcases find_cases (f := f) (us := us) t with ⟨j, h1, h2, h3⟩ | h
    · simp only [Gh.hand, h3] at e'; exact .inl ⟨j, h1, h2, e'⟩
    · simp only [Gh.hand, h] at e'
      split at e'
      · cases e'
      · rename_i hne; exact .inr ⟨hne, e'⟩
  have hinv : HInv (g.hand gf us f) w' := by
    refine ⟨hW.inv.imm, fun i b e => ?_, fun i i' b e1 e2 => ?_, fun t b e sz n cap ho => ?_, fun t t' b e sz n cap e' sz' n' cap' x1 x2 => ?_, ?_, fun p hp => (by
      obtain ⟨q1, q2, q3⟩ := hW.inv.fix p hp
      refine ⟨q1, fun i e => ?_, fun t e sz n cap ho => ?_⟩
      · rcases muc i p.1 e with ⟨j, _, _, h⟩ | ⟨_, h⟩
        · exact q2 _ h
        · exact q2 _ (hle.mu _ _ h)
      · rcases owc t p.1 e sz n cap ho with ⟨j, _, _, h⟩ | ⟨_, h⟩
        · exact q3 _ _ _ _ _ h
        · exact q3 _ _ _ _ _ h)⟩
    · rcases muc i b e with ⟨j, _, _, h⟩ | ⟨_, h⟩
      · exact hW.inv.mu _ _ h
      · exact hW.inv.mu _ _ (hle.mu _ _ h)
    · rcases muc i b e1 with ⟨j, h1, h2, h⟩ | ⟨h1, h⟩ <;> rcases muc i' b e2 with ⟨j', h1', h2', h'⟩ | ⟨h1', h'⟩
      · have := getD_inj hnd h1 h1' (hW.inv.inj _ _ _ h h')
        subst this; rw [← h2, ← h2']
      · have := hW.inv.inj _ _ _ h (hle.mu _ _ h')
        rw [← this] at h'; rw [(husfree j h1).1] at h'; cases h'
      · have := hW.inv.inj _ _ _ h' (hle.mu _ _ h)
        rw [← this] at h; rw [(husfree j' h1').1] at h; cases h
      · exact hW.inv.inj _ _ _ (hle.mu _ _ h) (hle.mu _ _ h')
    · have hx : ∃ t0, gf.own t0 = .at b e sz n cap := by
        rcases owc t b e sz n cap ho with ⟨j, _, _, h⟩ | ⟨_, h⟩
        · exact ⟨_, h⟩
        · exact ⟨_, h⟩
      obtain ⟨t0, h0⟩ := hx
      obtain ⟨a1, a2, a3, a4, a5⟩ := hW.inv.own t0 b e sz n cap h0
      refine ⟨a1, a2, a3, a4, fun i hi => ?_⟩
      rcases muc i b hi with ⟨j, _, _, h⟩ | ⟨_, h⟩
      · exact a5 _ h
      · exact a5 _ (hle.mu _ _ h)
    · rcases owc _ _ _ _ _ _ x1 with ⟨j, h1, h2, h⟩ | ⟨h1, h⟩ <;> rcases owc _ _ _ _ _ _ x2 with ⟨j', h1', h2', h'⟩ | ⟨h1', h'⟩
      · have := getD_inj hnd h1 h1' (hW.inv.inj2 _ _ _ _ _ _ _ _ _ _ _ h h')
        subst this; rw [← h2, ← h2']
      · have := hW.inv.inj2 _ _ _ _ _ _ _ _ _ _ _ h h'
        rw [← this] at h1'; exact absurd (husfree j h1).2 h1'
      · have := hW.inv.inj2 _ _ _ _ _ _ _ _ _ _ _ h' h
        rw [← this] at h1; exact absurd (husfree j' h1').2 h1
      · exact hW.inv.inj2 _ _ _ _ _ _ _ _ _ _ _ h h'
    · -- names far off are free
      have hb := bound_gen f us.length
      obtain ⟨G, hG⟩ := hb
      refine ⟨max G (max γ 1), by omega, fun n hn => ?_⟩
      have hfree := hγ n (by omega)
      have hnone : (List.range us.length).find? (fun i => f i = n) = none := by
        rw [List.find?_eq_none]
        intro j hj e
        simp only [decide_eq_true_eq] at e
        have := hG j (by simpa using hj)
        rw [e] at this; omega
      exact ⟨by simp only [Gh.hand, hnone]; exact hfree.1, by simp only [Gh.hand, hnone, hfree.2]⟩
  refine ⟨⟨hinv, fun p hp => ?_, fun t ht => ?_, ⟨hW.keeps.os, hW.keeps.tape, hW.keeps.output, hW.keeps.size, hW.keeps.block, hW.keeps.imm, fun i b e hb => ?_, fun t h1 h2 => ?_⟩, fun p hp b e => ?_, fun t ht b e sz n cap ho => ?_, fun t ht => ?_, hle'⟩, Rep.hand hf hfr hle hL hTf r v o1 hr, fun n hn hj => ?_⟩
  · obtain ⟨q, hq, rfl⟩ := List.mem_map.1 hp
    obtain ⟨b, hb, hk⟩ := hW.heap _ (hH _ (List.mem_map_of_mem hq))
    obtain ⟨q1, q2⟩ := o2 q hq
    refine ⟨b, hand_id hf hfr hle hL q1 hb, ?_⟩
    cases hq2 : q.2 with
    | cells cs =>
      simp only [hq2, rnHB, HB.okIn] at hk q2 ⊢
      obtain ⟨vs, ty, e1, e2⟩ := hk
      exact ⟨vs, ty, e1, RepL.hand hf hfr hle hL hTf cs _ q2 e2⟩
    | mapp es =>
      simp only [hq2, rnHB, HB.okIn] at hk q2 ⊢
      obtain ⟨vs, ck, e1, e2, e3⟩ := hk
      have l1 : ∀ es : List (AV × AV), ∀ h : Nat → Nm, (es.map fun p => (rn h p.1, rn h p.2)).map (·.1) = rnL h (es.map (·.1)) := fun es h => by
        induction es with | nil => rfl | cons p es ih => simp only [List.map_cons, rnL, ih]
      have l2 : ∀ es : List (AV × AV), ∀ h : Nat → Nm, (es.map fun p => (rn h p.1, rn h p.2)).map (·.2) = rnL h (es.map (·.2)) := fun es h => by
        induction es with | nil => rfl | cons p es ih => simp only [List.map_cons, rnL, ih]
      have k1 : ∀ es : List (AV × AV), (∀ p ∈ es, AV.okIn us.length (H0.map (·.1)) T0 p.1 ∧ AV.okIn us.length (H0.map (·.1)) T0 p.2) → AV.okInL us.length (H0.map (·.1)) T0 (es.map (·.1)) ∧ AV.okInL us.length (H0.map (·.1)) T0 (es.map (·.2)) := fun es h => by
        induction es with
        | nil => exact ⟨trivial, trivial⟩
        | cons p es ih =>
          obtain ⟨a, b⟩ := ih (fun q hq => h q (List.mem_cons_of_mem _ hq))
          obtain ⟨c, d⟩ := h p List.mem_cons_self
          exact ⟨⟨c, a⟩, ⟨d, b⟩⟩
      rw [l1] at e2
      rw [l2] at e3
      refine ⟨vs, ck, e1, ?_, ?_⟩
      · rw [l1]; exact RepL.hand hf hfr hle hL hTf _ _ (k1 es q2).1 e2
      · rw [l2]; exact RepL.hand hf hfr hle hL hTf _ _ (k1 es q2).2 e3
    | obj o =>
      simp only [hq2, rnHB] at hk ⊢
      exact hk
  · obtain ⟨q, hq, rfl⟩ := List.mem_map.1 ht
    rw [hand_tok hf hfr hTf (o3 q hq)]
    exact hW.toks _ (hT q hq)
  · rcases muc i b e with ⟨j, h1, _, h⟩ | ⟨_, h⟩
    · have := hW.keeps.mu _ _ h hb
      rw [(husfree j h1).1] at this; cases this
    · exact h
  · have hne : ∀ j, t ≠ f j := by rintro j rfl; exact h1 (hfr j).2
    rw [hand_own_old hne h1]; exact hW.keeps.own t h1 h2
  · obtain ⟨q, hq, rfl⟩ := List.mem_map.1 hp
    obtain ⟨b', hb', _⟩ := hW.heap _ (hH _ (List.mem_map_of_mem hq))
    have := hand_id hf hfr hle hL (o2 q hq).1 hb'
    simp only at e
    rw [this] at e
    cases e
    exact hW.hM _ (hH _ (List.mem_map_of_mem hq)) _ hb'
  · obtain ⟨q, hq, rfl⟩ := List.mem_map.1 ht
    rw [hand_tok hf hfr hTf (o3 q hq)] at ho
    exact hW.tM _ (hT q hq) b e sz n cap ho
  · obtain ⟨q, hq, rfl⟩ := List.mem_map.1 ht
    have := o3 q hq
    unfold nmOK at this
    unfold rnN
    split
    · exact .inr (hfr _).2
    · rename_i hp; rw [if_neg hp] at this; exact .inl this
  · exact ⟨by rw [hand_mu_old hj]; exact hn.1, hand_own_fresh hj hn.2⟩
end hand
end

theorem nmOK.mono {m : Nat} {L L' : List Nm} (h : ∀ n ∈ L, n ∈ L') {n : Nm} (k : nmOK m L n) : nmOK m L' n := by
  unfold nmOK at k ⊢
  split
  · rename_i hp; rw [if_pos hp] at k; exact k
  · rename_i hp; rw [if_neg hp] at k; exact h n k
mutual
theorem AV.okIn.mono {m : Nat} {L L' T : List Nm} (h : ∀ n ∈ L, n ∈ L') : ∀ (x : AV), x.okIn m L T → x.okIn m L' T
  | .ptr .., k => nmOK.mono h k
  | .sl (some t) .., k => k
  | .sl none .., _ => trivial
  | .mp _, k => nmOK.mono h k
  | .yl _, k => nmOK.mono h k
  | .ms .., k => nmOK.mono h k
  | .fn _ a b, k => ⟨AV.okInL.mono h a k.1, AV.okInL.mono h b k.2⟩
  | .agg cs, k => AV.okInL.mono h cs k
  | .tup cs, k => AV.okInL.mono h cs k
  | .und, _ | .int .., _ | .bool _, _ | .str _, _ | .nilp, _ | .el _, _ | .nils, _ | .nilf, _ | .raw _, _ | .slr .., _ => trivial
theorem AV.okInL.mono {m : Nat} {L L' T : List Nm} (h : ∀ n ∈ L, n ∈ L') : ∀ (xs : List AV), AV.okInL m L T xs → AV.okInL m L' T xs
  | [], _ => trivial
  | x :: xs, k => ⟨AV.okIn.mono h x k.1, AV.okInL.mono h xs k.2⟩
end
theorem HB.okIn.mono {m : Nat} {L L' T : List Nm} (h : ∀ n ∈ L, n ∈ L') : ∀ (x : HB), x.okIn m L T → x.okIn m L' T
  | .cells cs, k => AV.okInL.mono h cs k
  | .mapp es, k => fun p hp => ⟨AV.okIn.mono h _ (k p hp).1, AV.okIn.mono h _ (k p hp).2⟩
  | .obj _, _ => trivial
end Go.Ab

