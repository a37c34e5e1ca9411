/- Regions that draw their order: the law. -/
import Derived.Test.YtjankibepgnbfaaGreatDoorPBackPlainAb9e
set_option linter.unusedVariables false
set_option linter.unusedSimpArgs false
namespace Go.Ab

section
variable {P : Program} {Gl : Gh → Prop} {B : Base} {N : Nat} {R0 : RL} {lo : Nat} {ops : Array Oper} {pre : List PreOp} {tail : List IOper}

theorem listed_set {ls : Array Bool} {i j : Nat} (hi : i < ls.size) : (ls.setIfInBounds i true).getD j false = (ls.getD j false || j == i) := by
  by_cases e : j = i
  · subst e; simp [Array.getD_eq_getD_getElem?, hi]
  · rw [Array.getD_eq_getD_getElem?, Array.getElem?_setIfInBounds_ne (Ne.symm e), ← Array.getD_eq_getD_getElem?]
    simp [e]
theorem listed_false {ls : Array Bool} {j : Nat} : ls.getD j true = false ↔ j < ls.size ∧ ls.getD j false = false := by
  by_cases h : j < ls.size
  · simp [Array.getD_eq_getD_getElem?, h]
  · simp [Array.getD_eq_getD_getElem?, h]

theorem edges_of_mem {o : Oper} {j : Nat} : j ∈ edgesOf o ↔ ∃ e ∈ o.after, Region.binds .any e = true ∧ e.on = j := by
  unfold edgesOf
  simp only [List.mem_map, List.mem_filter, Array.mem_toList_iff]
  exact ⟨fun ⟨e, ⟨h1, h2⟩, h3⟩ => ⟨e, h1, h2, h3⟩, fun ⟨e, h1, h2, h3⟩ => ⟨e, ⟨h1, h2⟩, h3⟩⟩

theorem ready_iff {ls : Array Bool} {i : Nat} : i ∈ Region.ready .any ops ls ↔ (i < ls.size ∧ ls.getD i false = false) ∧ ∃ o, ops[i]? = some o ∧ ∀ j ∈ edgesOf o, ls.getD j false = true := by
  rw [mem_ready, listed_false]
  constructor
  · rintro ⟨h1, o, ho, h2⟩
    exact ⟨h1, o, ho, fun j hj => by obtain ⟨e, he, hb, rfl⟩ := edges_of_mem.1 hj; exact h2 e he hb⟩
  · rintro ⟨h1, o, ho, h2⟩
    exact ⟨h1, o, ho, fun e he hb => h2 _ (edges_of_mem.2 ⟨e, he, hb, rfl⟩)⟩

theorem opIn_sound (hst : Stays Gl) {r : Option Nat} {Q : Exit → Act → World → Prop} {next : Act → World → Prop} {γ ci i : Nat} {o : Oper} {x : IOper} {xs : List IOper} {s : St} {g : Gh} {a : Act} {w : World} {K : St → Prop} (hoi : ops[i]? = some o) (hx : compOper P N ops o = some x)
    (h : awOps P Gl γ ci (x :: xs) s K) (hS : Sim B N R0 lo Gl γ ci s g a w) (hn : ∀ s' g' a' w', awOps P Gl γ (ci + 1) xs s' K → Sim B N R0 lo Gl γ (ci + 1) s' g' a' w' → next a' w') : wpOpIn (Fr r) 0 P ops Q i next a w := by
  obtain ⟨hd, hio, hdst, hgd⟩ := compOper_dst hx
  have hdlt : ∀ t, o.dst = some t → t < a.tmps.size := fun t ht => by rw [hS.size]; exact hdst t ht
  have run : awOp P Gl γ ci x.op s (fun v H T => awOps P Gl γ (ci + 1) xs ⟨putF s.F x.d v, H, T⟩ K) → o.wpIn (Fr r) 0 P a w next Q := by
    intro hop
    refine awOp_soundD hst hio hop hS.frame hS.ws (fun j => hS.new _ _ (Nat.le_refl _)) hS.gl ?_
    intro v H T g' cv w' hK hg hW hrep hgl hfree
    refine hn ⟨putF s.F x.d v, H, T⟩ g' _ w' hK ⟨?_, by rw [size_put]; exact hS.size, by rw [defers_put]; exact hW, fun j k hj => ?_, hS.gam, hgl, hS.low.step hfree⟩
    · rw [hd]; exact FOK.put hS.frame hg hrep hdlt
    · exact hfree _ (hS.new _ _ (by omega)) (Nat.le_refl _) (fun m e => by simp only [Prod.mk.injEq] at e; omega)
  have skip : awOps P Gl γ (ci + 1) xs ⟨putF s.F x.d (.tup []), s.H, s.T⟩ K → next (a.put o.dst undef) w := by
    intro hop
    refine hn ⟨putF s.F x.d (.tup []), s.H, s.T⟩ g _ w hop ⟨?_, by rw [size_put]; exact hS.size, by rw [defers_put]; exact hS.ws, fun j k hj => hS.new _ _ (by omega), hS.gam, hS.gl, hS.low⟩
    rw [hd]; exact FOK.put hS.frame (.refl g) rep_undef hdlt
  unfold wpOpIn
  rw [hoi]
  rcases hgd with ⟨hg, hxg⟩ | ⟨j, b, t, hg, ht, hxg⟩
  · simp only [awOps, hxg] at h
    simp only [Region.wanted, hg, if_true]
    exact run h
  · simp only [awOps, hxg] at h
    split at h
    · rename_i cb hcb
      have hyi := gcond_yield ht (hS.frame t) hcb
      have h := guard_split (o := x) (i := ci) (s := s) (c := cb) h
      simp only [Region.wanted, hg, hyi]
      cases cb
      · simp only [Bool.false_eq_true, if_false]
        exact ⟨fun _ _ => trivial, skip (h.2 rfl)⟩
      · simp only [if_true]
        exact run (h.1 rfl)
    · exact h.elim

theorem tail_sound (hst : Stays Gl) {r : Option Nat} {Q : Exit → Act → World → Prop} {γ c : Nat} {K : St → Prop} (hfull : ∀ (i : Nat) (o : Oper), pre.length ≤ i → ops[i]? = some o → (∀ S : Nat → Bool, ClosedS ops S → (∀ j ∈ edgesOf o, S j = true) → ∀ j, j < i → S j = true) ∨ (pre.length < i ∧ i - 1 ∈ edgesOf o)) (hlt : ∀ (i : Nat) (o : Oper), ops[i]? = some o → ∀ j ∈ edgesOf o, j < i) (hQ : ∀ s' g' a' w', K s' → Sim B N R0 lo Gl γ (c + ops.size) s' g' a' w' → Q .normal a' w') :
    ∀ (os : List Oper) (xs : List IOper) (k fuel : Nat) (ls : Array Bool) (s : St) (g : Gh) (a : Act) (w : World), ops.toList.drop k = os → k ≤ ops.size → compOpers P N ops os = some xs → pre.length ≤ k → ls.size = ops.size → (∀ j, ls.getD j false = decide (j < k)) → ops.size - k ≤ fuel →
      awOps P Gl γ (c + k) xs s K → Sim B N R0 lo Gl γ (c + k) s g a w → wpAnyIn (Fr r) 0 P .any ops Q fuel ls a w
  | [], _, k, fuel, ls, s, g, a, w, hd, hkn, hc, hpk, hsz, hls, hf, h, hS => by
    simp only [compOpers, Option.some.injEq] at hc
    subst hc
    have hk : ops.size ≤ k := by
      have := congrArg List.length hd
      simp at this; omega
    have hk' : k = ops.size := by omega
    subst hk'
    refine wpAnyIn_done ?_ (hQ s g a w h hS) fuel
    refine List.eq_nil_iff_forall_not_mem.2 fun i hi => ?_
    obtain ⟨⟨h1, h2⟩, _⟩ := ready_iff.1 hi
    rw [hls] at h2
    simp at h2; omega
  | o :: os, _, k, fuel, ls, s, g, a, w, hd, hkn, hc, hpk, hsz, hls, hf, h, hS => by
    simp only [compOpers] at hc
    split at hc
    · rename_i x xs hx hxs
      cases hc
      have hoi : ops[k]? = some o := by
        have : (ops.toList.drop k)[0]? = some o := by rw [hd]; rfl
        simpa using this
      have hklt : k < ops.size := (Array.getElem?_eq_some_iff.1 hoi).1
      have hd' : ops.toList.drop (k + 1) = os := by
        have := congrArg (List.drop 1) hd
        simpa [List.drop_drop, Nat.add_comm] using this
      obtain ⟨fuel, rfl⟩ : ∃ f, fuel = f + 1 := ⟨fuel - 1, by omega⟩
      have honly : ∀ i, i ∈ Region.ready .any ops ls → i = k := by
        intro i hi
        obtain ⟨⟨h1, h2⟩, o', ho', h3⟩ := ready_iff.1 hi
        rw [hls] at h2
        simp only [decide_eq_false_iff_not, Nat.not_lt] at h2
        by_cases e : i = k
        · exact e
        · rcases hfull i o' (by omega) ho' with hf | ⟨_, hf⟩
          · have hcl : ClosedS ops (fun j => ls.getD j false) := fun j o hj ho l hl => by
              have hj : ls.getD j false = true := hj
              rw [hls] at hj
              simp only [decide_eq_true_eq] at hj
              have := hlt j o ho l hl
              show ls.getD l false = true
              rw [hls]; simp only [decide_eq_true_eq]; omega
            have := hf (fun j => ls.getD j false) hcl h3 k (by omega)
            have this : ls.getD k false = true := this
            rw [hls] at this
            simp at this
          · have := h3 _ hf
            rw [hls] at this
            simp at this
            omega
      have hmem : k ∈ Region.ready .any ops ls := by
        refine ready_iff.2 ⟨⟨by omega, by rw [hls]; simp⟩, o, hoi, fun j hj => ?_⟩
        rw [hls]
        exact decide_eq_true (hlt k o hoi j hj)
      refine ⟨fun h0 => (by rw [h0] at hmem; cases hmem), fun i hi => ?_⟩
      rw [honly i hi]
      refine opIn_sound hst hoi hx h hS fun s' g' a' w' h' hS' => ?_
      exact tail_sound hst hfull hlt hQ os xs (k + 1) fuel _ s' g' a' w' hd' (by omega) hxs (by omega) (by simp [hsz]) (fun j => by rw [listed_set (by omega), hls, Bool.eq_iff_iff]; simp; omega) (by omega) h' hS'
    · cases hc

theorem nodup_apart {α : Type} {f : α → List Nm} : ∀ {l : List α} {i k : Nat} {x y : α}, (l.flatMap f).Nodup → i ≠ k → l[i]? = some x → l[k]? = some y → ∀ t ∈ f x, t ∉ f y := by
  have aux : ∀ {l : List α} {i k : Nat} {x y : α}, (l.flatMap f).Nodup → i < k → l[i]? = some x → l[k]? = some y → ∀ t ∈ f x, t ∉ f y := by
    intro l
    induction l with
    | nil => intro i k x y _ _ h; simp at h
    | cons z l ih =>
      intro i k x y hn hik hi hk t ht
      rw [List.flatMap_cons, List.nodup_append] at hn
      cases k with
      | zero => omega
      | succ k =>
        cases i with
        | zero =>
          simp only [List.getElem?_cons_zero, Option.some.injEq] at hi
          subst hi
          intro hty
          exact hn.2.2 t ht t (List.mem_flatMap.2 ⟨y, List.mem_of_getElem? (by simpa using hk), hty⟩) rfl
        | succ i =>
          rw [List.getElem?_cons_succ] at hi hk
          exact ih hn.2.1 (Nat.lt_of_succ_lt_succ hik) hi hk t ht
  intro l i k x y hn hne hi hk t ht hty
  rcases Nat.lt_or_gt_of_ne hne with h | h
  · exact aux hn h hi hk t ht hty
  · exact aux hn h hk hi t hty ht

def HD (ds : List DQ) (H : Hp) (S : Nat → Bool) : Hp := ((List.range ds.length).filter S).flatMap (fun j => match ds[j]? with | some d => d.A | none => []) ++ H
def TD (ds : List DQ) (T : Tk) (S : Nat → Bool) : Tk := fun s => ((∃ j d, ds[j]? = some d ∧ S j = true ∧ s ∈ d.N) ∨ T s) ∧ ∀ j d, ds[j]? = some d → S j = true → s ∉ d.L

theorem mem_HD {ds : List DQ} {H : Hp} {S : Nat → Bool} {p : Nm × HB} : p ∈ HD ds H S ↔ (∃ j d, ds[j]? = some d ∧ S j = true ∧ p ∈ d.A) ∨ p ∈ H := by
  unfold HD
  rw [List.mem_append, List.mem_flatMap]
  constructor
  · rintro (⟨j, hj, h⟩ | h)
    · obtain ⟨h1, h2⟩ := List.mem_filter.1 hj
      cases hd : ds[j]? with
      | none => simp [hd] at h
      | some d => simp only [hd] at h; exact .inl ⟨j, d, hd, h2, h⟩
    · exact .inr h
  · rintro (⟨j, d, hd, hS, h⟩ | h)
    · exact .inl ⟨j, List.mem_filter.2 ⟨List.mem_range.2 (List.getElem?_eq_some_iff.1 hd).1, hS⟩, by simp only [hd]; exact h⟩
    · exact .inr h

structure Told (P : Program) (Gl : Gh → Prop) (γ c : Nat) (F : Nat → AV) (H : Hp) (T : Tk) (pre : List PreOp) (ds : List DQ) : Prop where
  len : ds.length = pre.length
  oc : ∀ (i : Nat) (p : PreOp) (d : DQ), pre[i]? = some p → ds[i]? = some d → OC P Gl γ c H T i p (frD F pre ds i) ((ds.take i).map (·.N)) d
  nd : (ds.flatMap (·.L)).Nodup

theorem Told.names {γ c : Nat} {F : Nat → AV} {H : Hp} {T : Tk} {ds : List DQ} (h : Told P Gl γ c F H T pre ds) {j : Nat} {d : DQ} (hd : ds[j]? = some d) : ∀ q ∈ d.A, ∃ x, q.1 = (γ, c + j, x) := by
  have hj : j < pre.length := by rw [← h.len]; exact (List.getElem?_eq_some_iff.1 hd).1
  obtain ⟨h1, h2⟩ := h.oc j _ d (List.getElem?_eq_getElem hj) hd
  cases hg : pre[j].o.g with
  | none => exact (awD_op (h2 (.inl hg)).2).2
  | some tb =>
    obtain ⟨t, b⟩ := tb
    rcases h1 t b hg with ⟨x, hx, hx2⟩ | ⟨_, hdd⟩
    · by_cases hb : x = b
      · subst hb; exact (awD_op (h2 (.inr ⟨t, x, hg, hx⟩)).2).2
      · have hb' : x = !b := by cases x <;> cases b <;> first | rfl | exact absurd rfl hb
        intro q hq
        rw [hx2 hb'] at hq
        cases hq
    · intro q hq
      rw [hdd] at hq
      cases hq

structure DInv (B : Base) (N : Nat) (R0 : RL) (lo : Nat) (Gl : Gh → Prop) (γ c : Nat) (s : St) (pre : List PreOp) (ds : List DQ) (S : Nat → Bool) (g : Gh) (a : Act) (w : World) : Prop where
  frame : FOK g (FD s.F pre ds S) a
  size : a.tmps.size = N
  ws : WSD R0 B (HD ds s.H S) (TD ds s.T S) g a.defers w
  new : ∀ i j, S i = false → g.free (γ, c + i, j)
  gl : Gl g
  low : Lo B lo γ g

theorem pre_step (hst : Stays Gl) (hsp : DrwSpec P N ops pre tail) {r : Option Nat} {Q : Exit → Act → World → Prop} {next : Act → World → Prop} {γ c : Nat} {s : St} {ds : List DQ} (ht : Told P Gl γ c s.F s.H s.T pre ds)
    (hNH : ∀ q ∈ s.H, ∀ j x, q.1 ≠ (γ, c + j, x)) {S S' : Nat → Bool} {g : Gh} {a : Act} {w : World} (hI : DInv B N R0 lo Gl γ c s pre ds S g a w) {i : Nat} (hi : i < pre.length) (hSi : S i = false) (hS' : ∀ j, S' j = (S j || j == i)) {o : Oper} (ho : ops[i]? = some o) (hed : ∀ j ∈ edgesOf o, S j = true)
    (hn : ∀ g' a' w', DInv B N R0 lo Gl γ c s pre ds S' g' a' w' → next a' w') : wpOpIn (Fr r) 0 P ops Q i next a w := by
  obtain ⟨o', p, ho', hp, hbf, hcp⟩ := hsp.op i hi
  rw [ho] at ho'; cases ho'
  have hdi : i < ds.length := by rw [ht.len]; exact hi
  obtain ⟨d, hd⟩ : ∃ d, ds[i]? = some d := ⟨_, List.getElem?_eq_getElem hdi⟩
  obtain ⟨oc1, oc2⟩ := ht.oc i p d hp hd
  obtain ⟨ed, hio, hdst, hgd⟩ := compOper_dst hcp
  have hdlt : ∀ t, o.dst = some t → t < a.tmps.size := fun t ht => by rw [hI.size]; exact hdst t ht
  have agree : ∀ t ∈ p.o.sl, frD s.F pre ds i t = FD s.F pre ds S t := by
    intro t hts
    rw [frD_eq hsp ht.len i (by omega)]
    refine FD_agree fun j hj => ?_
    obtain ⟨q, hq, hqd⟩ := wr_spec hj
    by_cases e : j = i
    · subst e; simp [hSi]
    · have hjb := hsp.slot i j p q t hp hq hqd hts e
      have h1 := hsp.bf i p hp j hjb
      rw [hbf] at hjb
      simp [h1, hed j hjb]
  have ext : ∀ {g' cv w'}, g.le g' → WSD R0 B (d.A ++ HD ds s.H S) (fun t => t ∈ d.N ∨ (TD ds s.T S t ∧ t ∉ d.L)) g' a.defers w' → Rep g' d.v cv → Gl g' → (∀ n, g.free n → n.1 ≤ γ → (∀ j, n ≠ (γ, c + i, j)) → g'.free n) → next (a.put o.dst cv) w' := by
    intro g' cv w' hle hW hrep hgl hfree
    refine hn g' (a.put o.dst cv) w' ⟨?_, by rw [size_put]; exact hI.size, defers_put (a := a) (d := o.dst) (v := cv) ▸ hW.weaken (fun q hq => ?_) (fun t htt => ?_), fun k x hk => ?_, hgl, hI.low.step hfree⟩
    · rw [FD_put hsp hp hd hS', ed]
      exact FOK.put hI.frame hle hrep hdlt
    · rw [List.mem_append]
      rcases mem_HD.1 hq with ⟨j, dj, hdj, hSj, hqj⟩ | hq
      · rw [hS'] at hSj
        simp only [Bool.or_eq_true, beq_iff_eq] at hSj
        rcases hSj with h | rfl
        · exact .inr (mem_HD.2 (.inl ⟨j, dj, hdj, h, hqj⟩))
        · rw [hd] at hdj; cases hdj; exact .inl hqj
      · exact .inr (mem_HD.2 (.inr hq))
    · obtain ⟨h1, h2⟩ := htt
      have h2' : ∀ j dj, ds[j]? = some dj → S j = true → t ∉ dj.L := fun j dj hdj hSj => h2 j dj hdj (by rw [hS', hSj]; rfl)
      have h3 : t ∉ d.L := h2 i d hd (by rw [hS']; simp)
      rcases h1 with ⟨j, dj, hdj, hSj, hqj⟩ | h1
      · rw [hS'] at hSj
        simp only [Bool.or_eq_true, beq_iff_eq] at hSj
        rcases hSj with h | rfl
        · exact .inr ⟨⟨.inl ⟨j, dj, hdj, h, hqj⟩, h2'⟩, h3⟩
        · rw [hd] at hdj; cases hdj; exact .inl hqj
      · exact .inr ⟨⟨.inr h1, h2'⟩, h3⟩
    · rw [hS'] at hk
      simp only [Bool.or_eq_false_iff, beq_eq_false_iff_ne, ne_eq] at hk
      exact hfree _ (hI.new k x hk.1) (Nat.le_refl _) (fun j e => hk.2 (by simp only [Prod.mk.injEq] at e; omega))
  have run : (p.o.g = none ∨ ∃ t b, p.o.g = some (t, b) ∧ frD s.F pre ds i t = .bool b) → o.wpIn (Fr r) 0 P a w next Q := by
    intro hw
    obtain ⟨hL, hD⟩ := oc2 hw
    refine drw_one hst hio hD ?_ hI.ws (fun q hq => mem_HD.2 (.inr hq)) (fun t htL => ?_) (fun q hq => ?_) (fun j => hI.new i j hSi) hI.gl (fun g' cv w' k1 k2 k3 k4 k5 => ext k1 k2 k3 k4 k5)
    · intro t
      unfold mask
      by_cases hts : p.o.op.sl.contains t = true
      · rw [if_pos hts, agree t (List.mem_append.2 (.inr (by simpa using hts)))]
        exact hI.frame t
      · rw [if_neg hts]; trivial
    · refine ⟨?_, fun j dj hdj hSj => ?_⟩
      · rcases hL t htL with h | ⟨j, hj, htj⟩
        · exact .inr h
        · have hji := hsp.bf i p hp j hj
          rw [hbf] at hj
          have hjl : j < ds.length := by omega
          refine .inl ⟨j, ds[j], List.getElem?_eq_getElem hjl, hed j hj, ?_⟩
          rw [List.getD_eq_getElem?_getD, List.getElem?_map, List.getElem?_take_of_lt hji, List.getElem?_eq_getElem hjl] at htj
          exact htj
      · have hji : i ≠ j := fun e => by subst e; rw [hSi] at hSj; cases hSj
        exact nodup_apart ht.nd hji hd hdj t htL
    · rcases mem_HD.1 hq with ⟨j, dj, hdj, hSj, hqj⟩ | hq
      · obtain ⟨x, hx⟩ := ht.names hdj q hqj
        exact .inr fun q' hq' => by rw [hx]; exact hNH q' hq' j x
      · exact .inl hq
  unfold wpOpIn
  rw [ho]
  rcases hgd with ⟨hg, hxg⟩ | ⟨j, b, t, hg, htj, hxg⟩
  · simp only [Region.wanted, hg, if_true]
    exact run (.inl hxg)
  · have hts : t ∈ p.o.sl := by unfold IOper.sl; rw [hxg]; simp
    have hfr := hI.frame t
    rw [← agree t hts] at hfr
    have skip : d = ⟨.tup [], [], [], []⟩ → next (a.put o.dst undef) w := fun hdd => by
      refine ext (.refl g) (hI.ws.weaken (fun q hq => ?_) (fun u hu => ?_)) (by rw [hdd]; exact rep_undef) hI.gl (fun n hn _ _ => hn)
      · rw [hdd] at hq; simpa using hq
      · rw [hdd] at hu
        rcases hu with hu | hu
        · cases hu
        · exact hu.1
    rcases oc1 t b hxg with ⟨x, hx, hx2⟩ | ⟨hx, hdd⟩
    · have hy : a.tmps.getD t undef = .bool x := by rw [hx] at hfr; exact hfr
      have hyi := yielded_of htj hy
      simp only [Region.wanted, hg, hyi]
      by_cases hb : x = b
      · subst hb
        simp only [beq_self_eq_true, if_true]
        exact run (.inr ⟨t, x, hxg, hx⟩)
      · have hb' : x = !b := by cases x <;> cases b <;> first | rfl | exact absurd rfl hb
        have hbb : (some x == some b) = false := by rw [hb']; cases b <;> rfl
        simp only [hbb, Bool.false_eq_true, if_false]
        exact ⟨fun _ _ => trivial, skip (hx2 hb')⟩
    · rw [hx] at hfr
      have hyi := yielded_undef (g := g) htj hfr
      simp only [Region.wanted, hg, hyi]
      exact ⟨fun _ _ => trivial, skip hdd⟩

theorem first_of {q : Nat → Bool} {m : Nat} (h : ∃ j, j < m ∧ q j = false) : ∃ j, j < m ∧ q j = false ∧ ∀ k, k < m → q k = false → j ≤ k := by
  induction m with
  | zero => obtain ⟨j, hj, _⟩ := h; omega
  | succ m ih =>
    by_cases hm : ∃ j, j < m ∧ q j = false
    · obtain ⟨j, h1, h2, h3⟩ := ih hm
      exact ⟨j, by omega, h2, fun k hk hq => by
        rcases Nat.lt_or_ge k m with h | h
        · exact h3 k h hq
        · omega⟩
    · obtain ⟨j, h1, h2⟩ := h
      have : j = m := by
        rcases Nat.lt_or_ge j m with h | h
        · exact absurd ⟨j, h, h2⟩ hm
        · omega
      subst this
      exact ⟨j, h1, h2, fun k hk hq => by
        rcases Nat.lt_or_ge k j with h | h
        · exact absurd ⟨k, h, hq⟩ hm
        · exact h⟩

theorem unlisted_le {ls : Array Bool} {n m : Nat} (hsz : ls.size = n) (hup : ∀ j, m ≤ j → ls.getD j false = false) (hall : ∀ j, j < m → ls.getD j false = true) : n - m ≤ ((List.range n).filter fun j => !ls.getD j false).length := by
  have hsub : (List.range n).filter (fun j => !ls.getD j false) = (List.range n).filter (fun j => decide (m ≤ j)) := by
    refine List.filter_congr fun j _ => ?_
    rcases Nat.lt_or_ge j m with h | h
    · rw [hall j h]; simp; omega
    · rw [hup j h]; simp; omega
  rw [hsub]
  clear hsub hall hup hsz
  induction n with
  | zero => simp
  | succ n ih =>
    rw [List.range_succ, List.filter_append, List.length_append]
    by_cases h : m ≤ n
    · simp [h]; omega
    · simp [h]; omega

theorem unlisted_set {ls : Array Bool} {n i : Nat} (hsz : ls.size = n) (hi : i < ls.size) (h : ls.getD i false = false) : ((List.range n).filter fun j => !(ls.setIfInBounds i true).getD j false).length + 1 = ((List.range n).filter fun j => !ls.getD j false).length := by
  have hin : i < n := by omega
  have e : ∀ j, (!(ls.setIfInBounds i true).getD j false) = (!ls.getD j false && !(j == i)) := fun j => by rw [listed_set hi]; cases ls.getD j false <;> cases (j == i) <;> rfl
  simp only [e]
  clear hsz e hi
  have base : ∀ k, k ≤ i → ((List.range k).filter fun j => !ls.getD j false && !(j == i)) = (List.range k).filter fun j => !ls.getD j false := by
    intro k hk
    refine List.filter_congr fun j hj => ?_
    have : j ≠ i := by have := List.mem_range.1 hj; omega
    simp [this]
  induction n with
  | zero => omega
  | succ n ih =>
    rw [List.range_succ, List.filter_append, List.filter_append, List.length_append, List.length_append]
    rcases Nat.lt_or_ge i n with h1 | h1
    · have := ih h1
      have hne : n ≠ i := by omega
      have : ((List.filter (fun j => !ls.getD j false && !(j == i)) [n])) = List.filter (fun j => !ls.getD j false) [n] := by
        refine List.filter_congr fun j hj => ?_
        have : j = n := by simpa using hj
        subst this; simp [hne]
      rw [this]
      omega
    · have : i = n := by omega
      subst this
      rw [base i (Nat.le_refl _)]
      have e1 : List.filter (fun j => !ls.getD j false && !(j == i)) [i] = [] := by simp
      have e2 : List.filter (fun j => !ls.getD j false) [i] = [i] := by rw [List.filter_cons_of_pos (by rw [h]; rfl)]; rfl
      rw [e1, e2]
      rfl

theorem drw_last (hst : Stays Gl) (hsp : DrwSpec P N ops pre tail) {r : Option Nat} {Q : Exit → Act → World → Prop} {γ c : Nat} {s : St} {ds : List DQ} {K : St → Prop} (ht : Told P Gl γ c s.F s.H s.T pre ds) (hγ : 1 ≤ γ)
    {A' : Hp} {T' : Tk} (hA : ∀ q ∈ A', ∃ (j : Nat) (d : DQ), ds[j]? = some d ∧ q ∈ d.A) (hT : ∀ t, T' t → ((∃ (j : Nat) (d : DQ), ds[j]? = some d ∧ t ∈ d.N) ∨ s.T t) ∧ ∀ (j : Nat) (d : DQ), ds[j]? = some d → t ∉ d.L)
    (hK : awOps P Gl γ (c + pre.length) tail ⟨frD s.F pre ds pre.length, A' ++ s.H, T'⟩ K) (hQ : ∀ s' g' a' w', K s' → Sim B N R0 lo Gl γ (c + ops.size) s' g' a' w' → Q .normal a' w')
    {fuel : Nat} {ls : Array Bool} {g : Gh} {a : Act} {w : World} (hsz : ls.size = ops.size) (hup : ∀ j, pre.length ≤ j → ls.getD j false = false) (hall : ∀ j, j < pre.length → ls.getD j false = true) (hf : ops.size - pre.length ≤ fuel)
    (hI : DInv B N R0 lo Gl γ c s pre ds (fun j => ls.getD j false) g a w) : wpAnyIn (Fr r) 0 P .any ops Q fuel ls a w := by
  have hS : ∀ j d, ds[j]? = some d → ls.getD j false = true := fun j d hd => hall j (by rw [← ht.len]; exact (List.getElem?_eq_some_iff.1 hd).1)
  refine tail_sound hst hsp.full hsp.lt hQ (ops.toList.drop pre.length) tail pre.length fuel ls _ g a w rfl hsp.le hsp.rest (Nat.le_refl _) hsz (fun j => ?_) hf hK ⟨?_, hI.size, hI.ws.weaken (fun q hq => ?_) (fun t htt => ?_), fun i j hi => ?_, hγ, hI.gl, hI.low⟩
  · rcases Nat.lt_or_ge j pre.length with h | h
    · rw [hall j h]; simp [h]
    · rw [hup j h]; simp; omega
  · show FOK g (frD s.F pre ds pre.length) a
    rw [frD_eq hsp ht.len pre.length (Nat.le_refl _)]
    intro t
    rw [FD_agree (S' := fun j => ls.getD j false)]
    · exact hI.frame t
    · intro j hj
      obtain ⟨q, hq, _⟩ := wr_spec hj
      have h1 := (List.getElem?_eq_some_iff.1 hq).1
      rw [hall j h1]; simp [h1]
  · rcases List.mem_append.1 hq with hq | hq
    · obtain ⟨j, d, hd, hqd⟩ := hA q hq
      exact mem_HD.2 (.inl ⟨j, d, hd, hS j d hd, hqd⟩)
    · exact mem_HD.2 (.inr hq)
  · obtain ⟨h1, h2⟩ := hT t htt
    refine ⟨?_, fun j d hd _ => h2 j d hd⟩
    rcases h1 with ⟨j, d, hd, h⟩ | h
    · exact .inl ⟨j, d, hd, hS j d hd, h⟩
    · exact .inr h
  · have := hI.new (i - c) j (hup _ (by omega))
    rwa [show c + (i - c) = i by omega] at this

theorem drw_any (hst : Stays Gl) (hsp : DrwSpec P N ops pre tail) {r : Option Nat} {Q : Exit → Act → World → Prop} {γ c : Nat} {s : St} {ds : List DQ} {K : St → Prop} (ht : Told P Gl γ c s.F s.H s.T pre ds) (hγ : 1 ≤ γ)
    (hNH : ∀ q ∈ s.H, ∀ j x, q.1 ≠ (γ, c + j, x)) {A' : Hp} {T' : Tk} (hA : ∀ q ∈ A', ∃ (j : Nat) (d : DQ), ds[j]? = some d ∧ q ∈ d.A) (hT : ∀ t, T' t → ((∃ (j : Nat) (d : DQ), ds[j]? = some d ∧ t ∈ d.N) ∨ s.T t) ∧ ∀ (j : Nat) (d : DQ), ds[j]? = some d → t ∉ d.L)
    (hK : awOps P Gl γ (c + pre.length) tail ⟨frD s.F pre ds pre.length, A' ++ s.H, T'⟩ K) (hQ : ∀ s' g' a' w', K s' → Sim B N R0 lo Gl γ (c + ops.size) s' g' a' w' → Q .normal a' w') :
    ∀ (fuel : Nat) (ls : Array Bool) (g : Gh) (a : Act) (w : World), ls.size = ops.size → (∀ j, pre.length ≤ j → ls.getD j false = false) → ((List.range ops.size).filter fun j => !ls.getD j false).length ≤ fuel →
      DInv B N R0 lo Gl γ c s pre ds (fun j => ls.getD j false) g a w → ClosedS ops (fun j => ls.getD j false) → wpAnyIn (Fr r) 0 P .any ops Q fuel ls a w := by
  intro fuel
  induction fuel with
  | zero =>
    intro ls g a w hsz hup hf hI hcl
    have hall : ∀ j, j < ops.size → ls.getD j false = true := by
      intro j hj
      have h0 := List.length_eq_zero_iff.1 (Nat.le_zero.1 hf)
      have := List.filter_eq_nil_iff.1 h0 j (List.mem_range.2 hj)
      simpa using this
    refine drw_last hst hsp ht hγ hA hT hK hQ hsz hup (fun j hj => hall j (by have := hsp.le; omega)) (Nat.le_of_eq (by
      have : pre.length = ops.size := by
        have := hsp.le
        rcases Nat.lt_or_ge pre.length ops.size with h | h
        · have h1 := hall pre.length h; rw [hup _ (Nat.le_refl _)] at h1; cases h1
        · omega
      omega)) hI
  | succ fuel ih =>
    intro ls g a w hsz hup hf hI hcl
    by_cases hall : ∀ j, j < pre.length → ls.getD j false = true
    · refine drw_last hst hsp ht hγ hA hT hK hQ hsz hup hall ?_ hI
      have := unlisted_le hsz hup hall
      have := hsp.le
      omega
    · -- the first that is not listed is ready
      have hex : ∃ j, j < pre.length ∧ ls.getD j false = false := by
        have : ∃ j, ¬ (j < pre.length → ls.getD j false = true) := Classical.not_forall.1 hall
        obtain ⟨j, hj⟩ := this
        have hj1 : j < pre.length := Classical.byContradiction fun h => hj fun h' => absurd h' h
        exact ⟨j, hj1, by cases h : ls.getD j false with | false => rfl | true => exact absurd (fun _ => h) hj⟩
      refine ⟨fun h0 => ?_, fun i hi => ?_⟩
      · obtain ⟨j, hj1, hj2, hmin⟩ := first_of hex
        obtain ⟨o, p, ho, hp, hbf, _⟩ := hsp.op j hj1
        have : j ∈ Region.ready .any ops ls := ready_iff.2 ⟨⟨by have := hsp.le; omega, hj2⟩, o, ho, fun k hk => by
          have hkj := hsp.lt j o ho k hk
          cases h : ls.getD k false with
          | true => rfl
          | false => exact absurd (hmin k (by omega) h) (by omega)⟩
        rw [h0] at this
        cases this
      · obtain ⟨⟨h1, h2⟩, o, ho, h3⟩ := ready_iff.1 hi
        have hip : i < pre.length := by
          rcases Nat.lt_or_ge i pre.length with h | h
          · exact h
          · rcases hsp.full i o h ho with hf | ⟨h4, hf⟩
            · exact absurd (fun j hj => hf (fun j => ls.getD j false) hcl h3 j (by omega)) hall
            · have := h3 _ hf
              rw [hup _ (by omega)] at this
              cases this
        refine pre_step (S' := fun j => (ls.setIfInBounds i true).getD j false) hst hsp ht hNH hI hip h2 (fun j => listed_set h1) ho h3 fun g' a' w' hI' => ?_
        refine ih _ g' a' w' (by simp [hsz]) (fun j hj => by rw [listed_set h1, hup j hj]; simp; omega) ?_ hI' ?_
        rotate_left
        · intro j o' hj ho' k hk
          have hj : (ls.setIfInBounds i true).getD j false = true := hj
          show (ls.setIfInBounds i true).getD k false = true
          rw [listed_set h1] at hj ⊢
          simp only [Bool.or_eq_true, beq_iff_eq] at hj ⊢
          rcases hj with hj | rfl
          · exact .inl (hcl j o' hj ho' k hk)
          · rw [ho] at ho'; cases ho'
            exact .inl (h3 k hk)
        have := unlisted_set hsz h1 h2
        omega

theorem drw_sound (hst : Stays Gl) (hm : P.follows .mixedOrders = true) (hc : compDrw P N ops = some (pre, tail)) {id : Nat} {r : Option Nat} {Q : Exit → Act → World → Prop} {γ c : Nat} {s : St} {K : St → Prop} {g : Gh} {a : Act} {w : World}
    (h : awDrw P Gl γ c pre tail s K) (hS : Sim B N R0 lo Gl γ c s g a w) (hQ : ∀ s' g' a' w', K s' → Sim B N R0 lo Gl γ (c + ops.size) s' g' a' w' → Q .normal a' w') : (Code.region id ops true).wpIn (Fr r) 0 P Q a w := by
  have hsp := drwSpec hc
  obtain ⟨ds, k1, k2, k3, k4⟩ := awPre_ex (F0 := s.F) pre [] [] [] [] _ rfl h
  simp only [List.nil_append, List.length_nil, Nat.zero_add, List.append_nil] at k2 k3 k4
  have ht : Told P Gl γ c s.F s.H s.T pre ds := ⟨k1, k2, k3⟩
  have hrep : ∀ j, (Array.replicate ops.size false).getD j false = false := fun j => by
    rw [Array.getD_eq_getD_getElem?]
    by_cases hj : j < ops.size <;> simp [hj]
  refine wpIn_region_any hm ?_
  refine drw_any hst hsp ht hS.gam (fun q hq j x e => ?_) (fun q hq => ?_) (fun t htt => ?_) k4 hQ ops.size _ g a _ (by simp) (fun j _ => hrep j) ?_ ⟨?_, hS.size, hS.ws.drew.weaken (fun q hq => ?_) (fun t htt => ?_), fun i j _ => hS.new _ _ (by omega), hS.gl, hS.low⟩ (fun j o hj => absurd ((hrep j).symm.trans hj) (by simp))
  · obtain ⟨b, hb, _⟩ := hS.ws.heap q hq
    rw [e, (hS.new (c + j) x (by omega)).1] at hb
    cases hb
  · obtain ⟨d, hd, hq⟩ := List.mem_flatMap.1 hq
    obtain ⟨j, hj⟩ := List.mem_iff_getElem?.1 (List.mem_reverse.1 hd)
    exact ⟨j, d, hj, hq⟩
  · obtain ⟨h1, h2⟩ := htt
    refine ⟨?_, fun j d hd hL => h2 (List.mem_flatMap.2 ⟨d, List.mem_of_getElem? hd, hL⟩)⟩
    rcases h1 with h1 | h1
    · obtain ⟨l, hl, htl⟩ := List.mem_flatten.1 h1
      obtain ⟨d, hd, rfl⟩ := List.mem_map.1 hl
      obtain ⟨j, hj⟩ := List.mem_iff_getElem?.1 hd
      exact .inl ⟨j, d, hj, htl⟩
    · exact .inr h1
  · refine Nat.le_trans (List.length_filter_le _ _) (by simp)
  · rw [FD_empty (fun j _ => hrep j)]
    exact hS.frame
  · rcases mem_HD.1 hq with ⟨j, d, hd, hSj, _⟩ | hq
    · exact absurd ((hrep j).symm.trans hSj) (by simp)
    · exact hq
  · rcases htt.1 with ⟨j, d, hd, hSj, _⟩ | h
    · exact absurd ((hrep j).symm.trans hSj) (by simp)
    · exact h
end
end Go.Ab

