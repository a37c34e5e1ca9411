/- Code on abstract values: ranges over functions, and all of it. -/
import Derived.Test.YtjankibepgnbfaaGreatDoorPBackPlainAb10h
set_option linter.unusedVariables false
set_option linter.unusedSimpArgs false
namespace Go.Ab

def recOf (fn : FuncId) (tmps : Array Value) (ps : Array Tmp) (as bd : Code) (dfr : Nat) (st : LoopState) (pe : Option Code) : Loop :=
  { state := st, pending := pe, fn, tmps, params := ps, assign := as, body := bd, defers := dfr }
def jumpOf : Ex → Option Code
  | .normal => none
  | .exit id => some (.exit id)
  | .ret => some .ret
def ready (ex : Ex) : LoopState := if (jumpOf ex).isNone then .ready else .done

theorem onlyAt_putObj (w : World) (l : Nat) (o : Obj) : OnlyAt w (w.putObj l o) l :=
  ⟨rfl, rfl, rfl, World.putObj_size, fun b hb => World.putObj_heap_other hb⟩

theorem awOps_mono {P : Program} {Gl : Gh → Prop} {γ : Nat} : ∀ {os : List IOper} {i : Nat} {s : St} {K K' : St → Prop}, awOps P Gl γ i os s K → (∀ s, K s → K' s) → awOps P Gl γ i os s K'
  | [], _, _, _, _, h, hK => hK _ h
  | o :: os, i, s, K, K', h, hK => by
    simp only [awOps] at h ⊢
    split at h
    · exact awOp_mono h fun v H T k => awOps_mono k hK
    · split at h
      · split at h
        · rename_i hp
          rw [if_pos hp]
          exact ⟨h.1, awOps_mono h.2 hK⟩
        · rename_i hp
          rw [if_neg hp]
          rcases h with h | ⟨r, h1, h2⟩
          · exact .inl ⟨fun e => awOp_mono (h.1 e) fun v H T k => awOps_mono k hK, fun e => awOps_mono (h.2 e) hK⟩
          · exact .inr ⟨r, h1, awOps_mono h2 hK⟩
      · exact h.elim
theorem awD_mono {P : Program} {Gl : Gh → Prop} {γ i : Nat} {op : IOp} {F : Nat → AV} {H : Hp} {L : List Nm} {K K' : DR → Prop} (h : awD P Gl γ i op F H L K) (hK : ∀ d, K d → K' d) : awD P Gl γ i op F H L K' := by
  cases op
  case call f args =>
    simp only [awD] at h ⊢
    generalize f.ev F = fv at h ⊢
    cases fv <;> try exact h.elim
    case fn fk first caps =>
      cases fk <;> try exact h.elim
      obtain ⟨H0, r, H1, T1, A, k1, k2, k3, k4, k5, k6⟩ := h
      exact ⟨H0, r, H1, T1, A, k1, k2, k3, k4, k5, hK _ k6⟩
  all_goals
    simp only [awD] at h ⊢
    generalize step _ F H (· ∈ L) (γ, i, 0) = r at h ⊢
    cases r with
    | none => exact h.elim
    | some r =>
      obtain ⟨rp, rv, re⟩ := r
      refine ⟨h.1, ?_⟩
      have h2 := h.2
      cases re <;> first | exact h2.elim | exact hK _ h2
theorem awPre_mono {P : Program} {Gl : Gh → Prop} {γ c : Nat} {H : Hp} {T : Tk} : ∀ {ps : List PreOp} {i : Nat} {F : Nat → AV} {A : Hp} {acc : List (List Nm)} {Ls : List Nm} {K K' : (Nat → AV) → Hp → List Nm → List Nm → Prop}, awPre P Gl γ c H T i ps F A acc Ls K → (∀ F A N L, K F A N L → K' F A N L) → awPre P Gl γ c H T i ps F A acc Ls K'
  | [], _, _, _, _, _, _, _, h, hK => ⟨h.1, hK _ _ _ _ h.2⟩
  | p :: ps, i, F, A, acc, Ls, K, K', h, hK => by
    simp only [awPre] at h ⊢
    split at h
    · exact ⟨h.1, awD_mono h.2 fun d k => awPre_mono k hK⟩
    · split at h
      · exact ⟨fun e => ⟨(h.1 e).1, awD_mono (h.1 e).2 fun d k => awPre_mono k hK⟩, fun e => awPre_mono (h.2 e) hK⟩
      · exact awPre_mono h hK
      · exact h.elim
theorem awM_mono {P : Program} {Gl : Gh → Prop} {γ i : Nat} {op : IOp} {F : Nat → AV} {Hs Hm : Hp} {K K' : DR → Prop} (h : awM P Gl γ i op F Hs Hm K) (hK : ∀ d, K d → K' d) : awM P Gl γ i op F Hs Hm K' := by
  unfold awM at h ⊢
  split at h
  · split at h
    · obtain ⟨r, H1, T1, h1, h2, h3⟩ := h
      exact ⟨r, H1, T1, h1, h2, hK _ h3⟩
    · exact h.elim
  · split at h
    · rename_i r hr
      refine ⟨h.1, ?_⟩
      have h2 := h.2
      split at h2
      · rename_i id hb he
        exact ⟨h2.1, hK _ h2.2⟩
      · exact h2.elim
    · exact h.elim
theorem awPreM_mono {P : Program} {Gl : Gh → Prop} {γ c : Nat} {Hs Hm : Hp} {T : Tk} : ∀ {m : List Unit} {ps : List PreOp} {i : Nat} {F : Nat → AV} {A : Hp} {acc : List (List Nm)} {Ls : List Nm} {K K' : (Nat → AV) → Hp → List Nm → List Nm → Prop}, awPreM P Gl γ c Hs Hm T m i ps F A acc Ls K → (∀ F A N L, K F A N L → K' F A N L) → awPreM P Gl γ c Hs Hm T m i ps F A acc Ls K'
  | [], [], _, _, _, _, _, _, _, h, hK => by simp [awPreM] at h
  | _ :: _, [], _, _, _, _, _, _, _, h, hK => by simp [awPreM] at h
  | [], p :: ps, i, F, A, acc, Ls, K, K', h, hK => by
    simp only [awPreM] at h ⊢
    exact ⟨h.1, awM_mono h.2 fun d k => awPre_mono k hK⟩
  | _ :: m, p :: ps, i, F, A, acc, Ls, K, K', h, hK => by
    simp only [awPreM] at h ⊢
    exact ⟨h.1, h.2.1, awD_mono h.2.2 fun d k => awPreM_mono k hK⟩
theorem awPreX_mono {P : Program} {Gl : Gh → Prop} {γ c : Nat} {Hs : Hp} {T : Tk} : ∀ {m : List Unit} {ps : List PreOp} {i : Nat} {F : Nat → AV} {Hm A : Hp} {acc : List (List Nm)} {Ls : List Nm} {K K' : (Nat → AV) → Hp → List Nm → List Nm → Prop}, awPreX P Gl γ c Hs T m i ps F Hm A acc Ls K → (∀ F A N L, K F A N L → K' F A N L) → awPreX P Gl γ c Hs T m i ps F Hm A acc Ls K'
  | [], [], _, _, _, _, _, _, _, _, h, hK => by simp [awPreX] at h
  | _ :: _, [], _, _, _, _, _, _, _, _, h, hK => by simp [awPreX] at h
  | [], p :: ps, i, F, Hm, A, acc, Ls, K, K', h, hK => by
    simp only [awPreX] at h ⊢
    exact ⟨h.1, h.2.1, awM_mono h.2.2 fun d k => awPre_mono k hK⟩
  | _ :: m, p :: ps, i, F, Hm, A, acc, Ls, K, K', h, hK => by
    simp only [awPreX] at h ⊢
    exact ⟨h.1, h.2.1, awD_mono h.2.2 fun d k => awPreX_mono k hK⟩
theorem aw_mono {P : Program} : ∀ {ic : ICode} {Gl : Gh → Prop} {γ c : Nat} {s : St} {Q Q' : Ex → Nat → Nat → St → Prop}, aw P Gl ic γ c s Q → (∀ ex γ c s, Q ex γ c s → Q' ex γ c s) → aw P Gl ic γ c s Q'
  | .skip, _, _, _, _, _, _, h, hQ => hQ _ _ _ _ h
  | .reg ops k, _, _, _, _, _, _, h, hQ => awOps_mono h fun s => hQ _ _ _ (s.keep k)
  | .drw pre tail k, _, _, _, _, _, _, h, hQ => awPre_mono h fun F A N L hh => awOps_mono hh fun s => hQ _ _ _ (s.keep k)
  | .drwm m pre tail k, _, _, _, _, _, _, .inl ⟨Hs, Hm, h1, h2, h3⟩, hQ => .inl ⟨Hs, Hm, h1, h2, awPreM_mono h3 fun F A N L hh => awOps_mono hh fun s => hQ _ _ _ (s.keep k)⟩
  | .drwm m pre tail k, _, _, _, _, _, _, .inr ⟨Hs, h1, h3⟩, hQ => .inr ⟨Hs, h1, awPreX_mono h3 fun F A N L hh => awOps_mono hh fun s => hQ _ _ _ (s.keep k)⟩
  | .rgf x ps as bd, _, _, _, _, _, _, h, hQ => by
    simp only [aw] at h ⊢
    split at h
    · obtain ⟨items, J, Jx, Hc, H0, T0, k1, k2, k4, k5, k6, k7, k8, k9, k10, k11⟩ := h
      exact ⟨items, J, Jx, Hc, H0, T0, k1, k2, k4, k5, k6, k7, k8, k9, fun H1 T1 k => let ⟨H', T', x1, x2, x3⟩ := k10 H1 T1 k; ⟨H', T', x1, x2, hQ _ _ _ _ x3⟩, fun ex H1 T1 k => let ⟨H', T', x1, x2, x3⟩ := k11 ex H1 T1 k; ⟨H', T', x1, x2, hQ _ _ _ _ x3⟩⟩
    · exact h.elim
  | .seq a b, _, _, _, _, _, _, h, hQ => aw_mono (ic := a) h fun ex γ c s k => by
    cases ex with
    | normal => exact aw_mono (ic := b) k hQ
    | exit _ => exact hQ _ _ _ _ k
    | ret => exact hQ _ _ _ _ k
  | .cond x a b, _, _, _, _, _, _, h, hQ => by
    simp only [aw] at h ⊢
    split at h
    · exact ⟨fun e => aw_mono (h.1 e) hQ, fun e => aw_mono (h.2 e) hQ⟩
    · exact h.elim
  | .blk id k, _, _, _, _, _, _, h, hQ => aw_mono (ic := k) h fun ex γ c s k => by
    cases ex with
    | normal => exact hQ _ _ _ _ k
    | exit j =>
      simp only at k ⊢
      split
      · rename_i e; rw [if_pos e] at k; exact hQ _ _ _ _ k
      · rename_i e; rw [if_neg e] at k; exact hQ _ _ _ _ k
    | ret => exact hQ _ _ _ _ k
  | .loop k, _, _, _, _, _, _, h, hQ => by
    obtain ⟨I, μ, h0, h1⟩ := h
    refine ⟨I, μ, h0, fun γ' s' a b => aw_mono (ic := k) (h1 γ' s' a b) fun ex γ c s k => ?_⟩
    cases ex with
    | normal => exact k
    | exit _ => exact hQ _ _ _ _ k
    | ret => exact hQ _ _ _ _ k
  | .exit id, _, _, _, _, _, _, h, hQ => hQ _ _ _ _ h
  | .ret, _, _, _, _, _, _, h, hQ => hQ _ _ _ _ h

section
variable {P : Program} {N : Nat}

theorem WSD.setRec {l : Nat} {id : Nm} {r1 r2 : Loop} {B : Base} {H : Hp} {T : Tk} {g : Gh} {ds : List Deferred} {w : World} (k : WSD (.rnd (l, id, r1)) B H T g ds w) :
    w.heap[l]? = some (.loop r1) ∧ WSD (.rnd (l, id, r2)) B H T g ds (w.putObj l (.loop r2)) := by
  obtain ⟨Mk, ⟨h1, h2, h3⟩, k2, k3⟩ := k
  subst h2
  obtain ⟨b, hb, hk⟩ := k2.heap (id, .obj (.loop r1)) (by simp)
  simp only at hb
  rw [h3] at hb
  cases hb
  have hk : w.heap[l]? = some (.loop r1) := hk
  refine ⟨hk, [(id, .obj (.loop r2))], ⟨h1, rfl, h3⟩, (k2.setBlock (old := .obj (.loop r1)) (new := .obj (.loop r2)) (by simp) h3 (onlyAt_putObj w l _) ?_).weaken (fun p hp => ?_) (fun t h => h), fun p hp q hq => ?_⟩
  · exact World.putObj_heap_same (lt_of_some hk)
  · simp only [setH, List.mem_map]
    rcases List.mem_append.1 hp with hp | hp
    · refine ⟨(id, .obj (.loop r1)), by simp, ?_⟩
      simp only [List.mem_singleton] at hp
      subst hp; simp
    · refine ⟨p, List.mem_append.2 (.inr hp), ?_⟩
      rw [if_neg]
      exact k3 (id, .obj (.loop r1)) (by simp) p hp
  · simp only [List.mem_singleton] at hp
    subst hp
    exact k3 (id, .obj (.loop r1)) (by simp) q hq

theorem WSD.dropAt {R0 : RL} {l : Nat} {id : Nm} {o o' : Obj} {B : Base} {H : Hp} {T : Tk} {g : Gh} {ds : List Deferred} {w : World} (k : WSD R0 B ((id, .obj o) :: H) T g ds w) (hl : g.mu id = some l) (hH : ∀ q ∈ H, q.1 ≠ id) :
    w.heap[l]? = some o ∧ WSD R0 B H T g ds (w.putObj l o') := by
  obtain ⟨Mk, h1, k2, k3⟩ := k
  obtain ⟨b, hb, hk⟩ := k2.heap (id, .obj o) (by simp)
  simp only at hb
  rw [hl] at hb
  cases hb
  have hk : w.heap[l]? = some o := hk
  refine ⟨hk, Mk, h1, (k2.setBlock (old := .obj o) (new := .obj o') (by simp) hl (onlyAt_putObj w l _) (World.putObj_heap_same (lt_of_some hk))).weaken (fun p hp => ?_) (fun t h => h), fun p hp q hq => k3 p hp q (List.mem_cons_of_mem _ hq)⟩
  simp only [setH, List.mem_map]
  rcases List.mem_append.1 hp with hp | hp
  · refine ⟨p, List.mem_append.2 (.inl hp), ?_⟩
    rw [if_neg]
    exact fun e => k3 p hp (id, .obj o) List.mem_cons_self e.symm
  · refine ⟨p, List.mem_append.2 (.inr (List.mem_cons_of_mem _ hp)), ?_⟩
    rw [if_neg (hH p hp)]

theorem FOK.params {g : Gh} {F : Nat → AV} {tm : Array Value} {dfs : List Deferred} (h : FOK g F ⟨tm, dfs⟩) : ∀ {ps : List Nat} {xs : List AV} {vs : List Value}, (∀ p ∈ ps, p < tm.size) → RepL g xs vs → ps.length = xs.length →
    FOK g (putPs F ps xs) ⟨(ps.zip vs).foldl (fun t q => t.setIfInBounds q.1 q.2) tm, dfs⟩ := by
  intro ps
  induction ps generalizing F tm with
  | nil => intro xs vs _ _ _; exact h
  | cons p ps ih =>
    intro xs vs hp hx hl
    cases xs with
    | nil => simp at hl
    | cons x xs =>
      obtain ⟨v, rest, rfl, h1, h2⟩ := hx
      simp only [putPs, List.zip_cons_cons, List.foldl_cons]
      have h0 := FOK.put (d := some p) (cv := v) h (.refl g) h1 (fun t ht => by cases ht; exact hp p List.mem_cons_self)
      exact ih (tm := tm.setIfInBounds p v) h0 (fun q hq => by rw [Array.size_setIfInBounds]; exact hp q (List.mem_cons_of_mem _ hq)) h2 (by simpa using hl)

theorem size_params : ∀ {ps : List Nat} {vs : List Value} {tm : Array Value}, ((ps.zip vs).foldl (fun t q => t.setIfInBounds q.1 q.2) tm).size = tm.size
  | [], _, _ => rfl
  | _ :: _, [], _ => rfl
  | p :: ps, v :: vs, tm => by simp only [List.zip_cons_cons, List.foldl_cons]; rw [size_params]; simp

theorem array_zip_foldl (ps : Array Tmp) (vs : List Value) (tm : Array Value) : ((ps.zip vs.toArray).foldl (fun t (q : Tmp × Value) => t.setIfInBounds q.1 q.2) tm) = (ps.toList.zip vs).foldl (fun t q => t.setIfInBounds q.1 q.2) tm := by
  rw [← Array.foldl_toList, Array.toList_zip]

theorem WS.apart2 {H0 H1 : Hp} {T0 T1 : Tk} {g g' : Gh} {w w' : World} (k : HInv g w) (h : WS ⟨w, g, mutOf g H0 T0, T0⟩ H1 T1 g' w') {n : Nm} (hn : g.mu n ≠ none) (hne : ∀ q ∈ H0, q.1 ≠ n) : ∀ q ∈ H1, q.1 ≠ n := by
  intro q hq e
  obtain ⟨b, hb⟩ := Option.ne_none_iff_exists'.1 hn
  have hb' : g'.mu q.1 = some b := by rw [e]; exact h.le.mu _ _ hb
  rcases h.hM q hq b hb' with h' | h'
  · rcases h' with ⟨q', hq', hb2⟩ | ⟨t, ht, e', sz, n, cap, ho⟩
    · exact hne q' hq' (k.inj _ _ _ hb2 hb)
    · exact (k.own t b e' sz n cap ho).2.2.2.2 _ hb
  · have : b < w.heap.size := (k.mu _ _ hb).1
    exact absurd this (Nat.not_lt.2 h')

abbrev IH (P : Program) (N : Nat) (c : Code) (ic : ICode) : Prop :=
  ∀ (Gl : Gh → Prop), Stays Gl → ∀ (B : Base) (R0 : RL) (lo : Nat) (Q : Ex → Nat → Nat → St → Prop) (γ n : Nat) (s : St) (g : Gh) (a : Act) (w : World), (R0 = .bare → ic.noR = true) → aw P Gl ic γ n s Q → Sim B N R0 lo Gl γ n s g a w → c.wpIn (Fr (R0.lp)) 0 P (postOf B N R0 lo Gl Q) a w

theorem round_sound {as bd : Code} {ias ibd : ICode} (ihA : IH P N as ias) (ihB : IH P N bd ibd) {Gl : Gh → Prop} (hst : Stays Gl) {F : Nat → AV} {ps : Array Tmp} (hps : ∀ p ∈ ps.toList, p < N) {x : List AV} (hx : x.length = ps.size)
    {fn : FuncId} {tmps : Array Value} {dfr : Nat} {id : Nm} {l : Nat} (hG : ∀ g, Gl g → g.mu id = some l ∧ FOK g F ⟨tmps, []⟩) (htm : tmps.size = N) {H : Hp} {T : Tk} {ap : List Nm} (hap : ∀ q ∈ H, q.1 ≠ id) (hap2 : ∀ q ∈ H, q.1 ∉ ap) (hid2 : id ∉ ap) (hGa : ∀ g, Gl g → ∀ n ∈ ap, g.mu n ≠ none) {R2 : Ex → Hp → Tk → Prop}
    (h : ∀ γ', id.1 < γ' → freshFor γ' ⟨F, H, T⟩ → aw P Gl ias γ' 0 ⟨putPs F ps.toList x, H, T⟩ fun ex γ₁ c₁ s₁ => match ex with
      | .normal => aw P Gl ibd γ₁ c₁ s₁ fun ex _ _ s₂ => R2 ex s₂.H s₂.T
      | _ => False) :
    YS P Gl id x ((id, .obj (.loop (recOf fn tmps ps as bd dfr .ready none))) :: H) T fun r H' T' => ∃ ex H1, H' = (id, .obj (.loop (recOf fn tmps ps as bd dfr (ready ex) (jumpOf ex)))) :: H1 ∧ r = .bool (jumpOf ex).isNone ∧ (∀ q ∈ H1, q.1 ≠ id ∧ q.1 ∉ ap) ∧ R2 ex H1 T' := by
  intro g w vs b Gm hinv hgl hH hT hargs hb
  obtain ⟨hl, hF⟩ := hG g hgl
  rw [hl] at hb
  cases hb
  obtain ⟨b', hb', hk⟩ := hH _ List.mem_cons_self
  simp only at hb'
  rw [hl] at hb'
  cases hb'
  have hrec : w.heap[l]? = some (.loop (recOf fn tmps ps as bd dfr .ready none)) := hk
  have hlen : vs.length = x.length := RepL.length hargs
  refine ⟨fn, _, as, bd, run_yield hrec (by simp [recOf, hlen, hx]), roundIn_of_wpIn trivial ?_⟩
  obtain ⟨G0, hG0, hG2'⟩ := hinv.top
  obtain ⟨G, hGd⟩ : ∃ G, G = max G0 Gm := ⟨_, rfl⟩
  have hG1 : 1 ≤ G := by omega
  have hG2 : ∀ n : Nm, G ≤ n.1 → g.free n := fun n hn => hG2' n (by omega)
  have hW : WS ⟨w, g, mutOf g ((id, .obj (.loop (recOf fn tmps ps as bd dfr .ready none))) :: H) T, T⟩ ((id, .obj (.loop (recOf fn tmps ps as bd dfr .ready none))) :: H) T g w :=
    ⟨hinv, hH, hT, ⟨rfl, rfl, rfl, Nat.le_refl _, fun _ _ _ => rfl, fun _ _ _ _ => rfl, fun _ _ h _ => h, fun _ _ _ => rfl⟩, fun p hp b e => .inl (.inl ⟨p, hp, e⟩), fun t ht b e sz n cap ho => .inl (.inr ⟨t, ht, e, sz, n, cap, ho⟩), fun t ht => .inl ht, .refl g⟩
  have hfresh : freshFor G ⟨F, H, T⟩ := ⟨fun p hp e => (by
      obtain ⟨b, hm, _⟩ := hH p (List.mem_cons_of_mem _ hp)
      rw [(hG2 p.1 (by omega)).1] at hm; cases hm), fun t ht e => (hT t ht).2 (hG2 t (by omega)).2⟩
  have hF' : FOK g (putPs F ps.toList x) ⟨(ps.zip vs.toArray).foldl (fun t (q : Tmp × Value) => t.setIfInBounds q.1 q.2) tmps, []⟩ := by
    rw [array_zip_foldl]
    exact FOK.params hF (fun p hp => by rw [htm]; exact hps p hp) hargs (by simp [hx])
  have hA := ihA Gl hst ⟨w, g, mutOf g ((id, .obj (.loop (recOf fn tmps ps as bd dfr .ready none))) :: H) T, T⟩ (.rnd (l, id, recOf fn tmps ps as bd dfr .ready none)) Gm _ G 0 _ g _ w (fun e => by cases e) (h G (Nat.lt_of_not_le fun hle => by rw [(hG2 id hle).1] at hl; cases hl) hfresh)
    ⟨hF', by show Array.size _ = N; rw [array_zip_foldl, size_params]; exact htm, ⟨_, ⟨rfl, rfl, hl⟩, hW, fun p hp q hq => by simp only [List.mem_singleton] at hp; subst hp; exact hap q hq⟩, fun i j _ => hG2 _ (Nat.le_refl _), hG1, hgl, by omega, fun n h1 _ => h1⟩
  refine wpIn_mono hA fun e a₁ w₁ he => ?_
  cases e with
  | normal =>
    obtain ⟨γ₁, c₁, s₁, g₁, h1, hS₁⟩ := he
    obtain ⟨r1, r2⟩ := hS₁.ws.setRec (r2 := recOf fn tmps ps as bd dfr .busy none)
    refine ⟨_, run_beginRound r1 rfl, ?_⟩
    refine wpIn_mono (ihB Gl hst _ (.rnd (l, id, recOf fn tmps ps as bd dfr .busy none)) Gm _ γ₁ c₁ s₁ g₁ a₁ _ (fun e => by cases e) h1 ⟨hS₁.frame, hS₁.size, r2, hS₁.new, hS₁.gam, hS₁.gl, hS₁.low⟩) fun e a₂ w₂ he₂ => ?_
    have fin : ∀ (ex : Ex) (γ₂ c₂ : Nat) (s₂ : St) (g₂ : Gh), R2 ex s₂.H s₂.T → Sim ⟨w, g, mutOf g ((id, .obj (.loop (recOf fn tmps ps as bd dfr .ready none))) :: H) T, T⟩ N (.rnd (l, id, recOf fn tmps ps as bd dfr .busy none)) Gm Gl γ₂ c₂ s₂ g₂ a₂ w₂ →
        ∃ v w', (Instr.endRound l (jumpOf ex)).run P w₂ = .ok v w' ∧ ∃ v' g' r H1 T1, (∃ ex H1', H1 = (id, .obj (.loop (recOf fn tmps ps as bd dfr (ready ex) (jumpOf ex)))) :: H1' ∧ r = .bool (jumpOf ex).isNone ∧ (∀ q ∈ H1', q.1 ≠ id ∧ q.1 ∉ ap) ∧ R2 ex H1' T1) ∧ Ending.returned v = .returned v' ∧ Raw ((id, .obj (.loop (recOf fn tmps ps as bd dfr .ready none))) :: H) T r H1 T1 Gm g w v' g' w' := by
      intro ex γ₂ c₂ s₂ g₂ h2 hS₂
      obtain ⟨q1, q2⟩ := hS₂.ws.setRec (r2 := recOf fn tmps ps as bd dfr (ready ex) (jumpOf ex))
      have hend := run_endRound (P := P) (jumpOf ex) q1
      have hlow := hS₂.low.2
      clear hS₂
      obtain ⟨Mk, ⟨m1, m2, m3⟩, m4, m5⟩ := q2
      subst m2
      refine ⟨_, _, hend, _, g₂, .bool (jumpOf ex).isNone, (id, .obj (.loop (recOf fn tmps ps as bd dfr (ready ex) (jumpOf ex)))) :: s₂.H, s₂.T, ⟨ex, s₂.H, rfl, rfl, fun q hq => ⟨m5 _ List.mem_cons_self q hq, fun hc => ?_⟩, h2⟩, rfl, ⟨m4, rfl, hlow⟩⟩
      refine WS.apart2 hinv m4 (hGa g hgl _ hc) (fun q' hq' e' => ?_) q (List.mem_append.2 (.inr hq)) rfl
      rcases List.mem_cons.1 hq' with rfl | hq'
      · rw [← e'] at hc; exact hid2 hc
      · rw [← e'] at hc; exact hap2 q' hq' hc
    cases e with
    | normal => obtain ⟨γ₂, c₂, s₂, g₂, h2, hS₂⟩ := he₂; exact fin .normal γ₂ c₂ s₂ g₂ h2 hS₂
    | ret => obtain ⟨γ₂, c₂, s₂, g₂, h2, hS₂⟩ := he₂; exact fin .ret γ₂ c₂ s₂ g₂ h2 hS₂
    | exit k => obtain ⟨γ₂, c₂, s₂, g₂, h2, hS₂⟩ := he₂; exact fin (.exit k) γ₂ c₂ s₂ g₂ h2 hS₂
    | goto _ => exact he₂.elim
    | panic _ => exact he₂.elim
    | outgrown => exact he₂.elim
  | ret => obtain ⟨γ₁, c₁, s₁, g₁, h1, hS₁⟩ := he; exact h1.elim
  | exit k => obtain ⟨γ₁, c₁, s₁, g₁, h1, hS₁⟩ := he; exact h1.elim
  | goto _ => exact he.elim
  | panic _ => exact he.elim
  | outgrown => exact he.elim

theorem enter_sound {R0 : RL} {B : Base} {H : Hp} {T : Tk} {g : Gh} {a : Act} {w : World} (hW : WSD R0 B H T g a.defers w) {fn : FuncId} {ps : Array Tmp} {as bd : Code} {id idD : Nm} (hbare : R0 ≠ .bare) (h1 : g.free id) (h2 : g.free idD) (hne : id ≠ idD) :
    ∃ l mark dfr w₁ g₁, (Instr.enterLoop fn a.tmps ps as bd (R0.lp)).run P w = .ok (l, mark) w₁ ∧ g.le g₁ ∧ WSD R0 B ((id, .obj (.loop (recOf fn a.tmps ps as bd dfr .ready none))) :: H) T g₁ (mark ++ a.defers) w₁ ∧
      g₁.mu id = some l ∧ ∀ n, g.free n → n ≠ id → n ≠ idD → g₁.free n := by
  obtain ⟨Mk, m1, m2, m3⟩ := hW
  have hnew : ∀ {n : Nm}, g.free n → ∀ q ∈ Mk ++ H, q.1 ≠ n := fun hn q hq e => by
    obtain ⟨b, hb, _⟩ := m2.heap q hq
    rw [e, hn.1] at hb; cases hb
  cases R0 with
  | bare => exact absurd rfl hbare
  | out D =>
    obtain ⟨k1, k2⟩ := m2.addBlock h2 (.deferred (some [])) (.obj (.deferred (some []))) (fun g' hg => heap_new' w _)
    have hid : (g.addMu idD w.heap.size).free id := ⟨by simp only [Gh.addMu]; rw [if_neg hne]; exact h1.1, h1.2⟩
    obtain ⟨l1, l2⟩ := k2.addBlock hid (.loop (recOf fn a.tmps ps as bd w.heap.size .ready none)) (.obj (.loop (recOf fn a.tmps ps as bd w.heap.size .ready none))) (fun g' hg => heap_new' _ _)
    have hsz : (w.alloc (.deferred (some []))).heap.size = w.heap.size + 1 := by simp
    have hmd : ((g.addMu idD w.heap.size).addMu id (w.alloc (.deferred (some []))).heap.size).mu idD = some w.heap.size := by
      simp only [Gh.addMu]; rw [if_neg (Ne.symm hne)]; simp
    refine ⟨_, _, w.heap.size, _, _, run_enterLoop_outer _ _ _ _ _, k1.trans l1, ⟨(idD, .obj (.deferred (some []))) :: Mk, ⟨rfl, ⟨_, hmd, rfl⟩, fun q hq => hnew h2 q (List.mem_append.2 (.inl hq)), Mks.mono (k1.trans l1) (fun _ => Dend.mono (k1.trans l1)) m1⟩, l2.weaken (fun p hp => ?_) (fun t h => h), fun p hp q hq => ?_⟩, ?_, fun n hn e1 e2 => ?_⟩
    · simp only [List.cons_append, List.mem_cons, List.mem_append] at hp ⊢
      rcases hp with h | h | h | h
      · exact .inr (.inl h)
      · exact .inr (.inr (.inl h))
      · exact .inl h
      · exact .inr (.inr (.inr h))
    · rcases List.mem_cons.1 hp with rfl | hp <;> rcases List.mem_cons.1 hq with rfl | hq
      · exact hne
      · exact hnew h2 q (List.mem_append.2 (.inr hq))
      · exact fun e => hnew h1 p (List.mem_append.2 (.inl hp)) e.symm
      · exact m3 p hp q hq
    · simp only [Gh.addMu, if_true, hsz]
    · refine ⟨?_, hn.2⟩
      simp only [Gh.addMu]
      rw [if_neg e1, if_neg e2]
      exact hn.1
  | rnd x =>
    obtain ⟨l₀, id₀, r₀⟩ := x
    obtain ⟨n1, n2, n3⟩ := m1
    subst n2
    have hl₀ : w.heap[l₀]? = some (.loop r₀) := by
      obtain ⟨b, hb, hk⟩ := m2.heap (id₀, .obj (.loop r₀)) (by simp)
      simp only at hb
      rw [n3] at hb
      cases hb
      exact hk
    obtain ⟨l1, l2⟩ := m2.addBlock h1 (.loop (recOf fn a.tmps ps as bd r₀.defers .ready none)) (.obj (.loop (recOf fn a.tmps ps as bd r₀.defers .ready none))) (fun g' hg => heap_new' _ _)
    refine ⟨_, _, r₀.defers, _, _, run_enterLoop_inner hl₀ _ _ _ _ _, l1, ⟨[(id₀, .obj (.loop r₀))], ⟨n1, rfl, l1.mu _ _ n3⟩, l2.weaken (fun p hp => ?_) (fun t h => h), fun p hp q hq => ?_⟩, ?_, fun n hn e1 e2 => ?_⟩
    · simp only [List.cons_append, List.nil_append, List.mem_cons] at hp ⊢
      rcases hp with h | h | h
      · exact .inr (.inl h)
      · exact .inl h
      · exact .inr (.inr h)
    · rcases List.mem_cons.1 hq with rfl | hq
      · exact fun e => hnew h1 p (List.mem_append.2 (.inl hp)) e.symm
      · exact m3 p hp q hq
    · simp only [Gh.addMu, if_true]
    · refine ⟨?_, hn.2⟩
      simp only [Gh.addMu]
      rw [if_neg e1]
      exact hn.1

theorem rgf_sound {gop : Operand} {ps : Array Tmp} {as bd : Code} {x : X} {ias ibd : ICode} (hx : compX gop = some x) (hps : ∀ p ∈ ps.toList, p < N) (ihA : IH P N as ias) (ihB : IH P N bd ibd) {Gl : Gh → Prop} (hst : Stays Gl) {B : Base} {R0 : RL} {lo : Nat} {Q : Ex → Nat → Nat → St → Prop} {γ c : Nat} {s : St} {g : Gh} {a : Act} {w : World}
    (hbare : R0 ≠ .bare) (h : aw P Gl (.rgf x ps.toList ias ibd) γ c s Q) (hS : Sim B N R0 lo Gl γ c s g a w) : (Code.rangeFunc gop ps as bd).wpIn (Fr (R0.lp)) 0 P (postOf B N R0 lo Gl Q) a w := by
  simp only [aw] at h
  split at h
  · rename_i k caps hf
    have hv := rep_compX hS.frame hx
    rw [hf] at hv
    obtain ⟨fs, cs, hfe, hf1, hf2⟩ := hv
    obtain ⟨items, J, Jx, Hc, H0, T0, hIter, hHc, hap0, hH0, hT0, hJ0, hlen, hround, hdone, hstop⟩ := h
    have hfs : fs = #[] := Array.toList_eq_nil_iff.1 hf1
    subst hfs
    obtain ⟨id, hid⟩ : ∃ id : Nm, id = (γ, c, 0) := ⟨_, rfl⟩
    obtain ⟨idD, hidD⟩ : ∃ id : Nm, id = (γ, c, 1) := ⟨_, rfl⟩
    have f1 : g.free id := by rw [hid]; exact hS.new _ _ (Nat.le_refl _)
    have f2 : g.free idD := by rw [hidD]; exact hS.new _ _ (Nat.le_refl _)
    have hHid : ∀ q ∈ s.H, q.1 ≠ id := fun q hq e => by
      obtain ⟨b, hb, _⟩ := hS.ws.heap q hq
      rw [e, f1.1] at hb; cases hb
    refine wpIn_rangeFunc fun fn _ => ?_
    obtain ⟨l, mark, dfr, w₁, g₁, e1, e2, e3, e4, e5⟩ := enter_sound (P := P) hS.ws hbare (fn := fn) (ps := ps) (as := as) (bd := bd) f1 f2 (by rw [hid, hidD]; simp)
    obtain ⟨Gl', hGl'⟩ : ∃ G' : Gh → Prop, G' = fun g' => Gl g' ∧ g₁.le g' := ⟨_, rfl⟩
    have hst' : Stays Gl' := by subst hGl'; exact fun x y k l => ⟨hst _ _ k.1 l, k.2.trans l⟩
    have hle' : ∀ g', Gl' g' → Gl g' := by subst hGl'; exact fun _ k => k.1
    obtain ⟨L, hL⟩ : ∃ L : LoopState → Option Code → HB, L = fun st pe => .obj (.loop (recOf fn a.tmps ps as bd dfr st pe)) := ⟨_, rfl⟩
    have hit := hIter Gl' hst' hle' id (fun i H T => ∃ Hv, H = (id, L .ready none) :: Hv ∧ (∀ q ∈ Hv, q.1 ≠ id ∧ q.1 ∉ Hc.map (·.1)) ∧ J i Hv T) (fun H T => ∃ ex Hv, ex ≠ .normal ∧ H = (id, L .done (jumpOf ex)) :: Hv ∧ (∀ q ∈ Hv, q.1 ≠ id ∧ q.1 ∉ Hc.map (·.1)) ∧ Jx ex Hv T)
      (by
        rintro i H T ⟨Hv, rfl, k1, _⟩ p hp q hq
        rcases List.mem_cons.1 hq with rfl | hq
        · exact fun e => hHid p (hHc p hp) e.symm
        · exact fun e => (k1 q hq).2 (List.mem_map.2 ⟨p, hp, e.symm⟩))
      (by
        rintro i xs H T hxs ⟨Hv, rfl, k1, k2⟩
        have hxl : xs.length = ps.size := by have := hlen xs (List.mem_of_getElem? hxs); simpa using this
        have hy := round_sound ihA ihB hst' (F := s.F) hps hxl (fn := fn) (tmps := a.tmps) (dfr := dfr) (id := id) (l := l) (fun g' hg' => by
            subst hGl'
            exact ⟨hg'.2.mu _ _ e4, fun t => Rep.mono (e2.trans hg'.2) _ _ (hS.frame t)⟩) hS.size (H := Hv) (T := T) (ap := Hc.map (·.1)) (fun q hq => (k1 q hq).1) (fun q hq => (k1 q hq).2)
          (fun hc => by
            obtain ⟨p, hp, e⟩ := List.mem_map.1 hc
            exact hHid p (hHc p hp) e)
          (fun g' hg' n hn hnone => by
            subst hGl'
            obtain ⟨p, hp, rfl⟩ := List.mem_map.1 hn
            obtain ⟨b, hb, _⟩ := hS.ws.heap p (hHc p hp)
            have := hg'.2.mu _ _ (e2.mu _ _ hb)
            rw [hnone] at this; cases this)
          (R2 := fun ex H1 T1 => match ex with | .normal => J (i + 1) H1 T1 | ex => Jx ex H1 T1) (fun γ' g1 g2 => by
            refine aw_mono (hround Gl' hst' hle' i xs Hv T γ' hxs k2 (by rw [hid] at g1; exact g1) g2) fun ex γ₁ c₁ s₁ hh => ?_
            cases ex with
            | normal => exact hh
            | exit _ => exact hh.elim
            | ret => exact hh.elim)
        subst hL
        intro g w vs b Gm a1 a2 a3 a4 a5 a6
        obtain ⟨fn', tm', as', bd', y1, y2⟩ := hy g w vs b Gm a1 a2 a3 a4 a5 a6
        refine ⟨fn', tm', as', bd', y1, y2.mono fun e w' he => ?_⟩
        obtain ⟨v, g', r, H1, T1, ⟨ex, H1', rfl, rfl, hap, hR⟩, he2, hp⟩ := he
        refine ⟨v, g', _, _, T1, ?_, he2, hp⟩
        cases ex with
        | normal => exact .inl ⟨rfl, H1', rfl, hap, hR⟩
        | exit j => exact .inr ⟨rfl, .exit j, H1', by simp, rfl, hap, hR⟩
        | ret => exact .inr ⟨rfl, .ret, H1', by simp, rfl, hap, hR⟩)
      ((id, L .ready none) :: H0) T0 ⟨H0, rfl, fun q hq => ⟨hHid q (hH0 q hq), fun hc => (by obtain ⟨p, hp, e⟩ := List.mem_map.1 hc; exact hap0 q hq p hp e.symm)⟩, hJ0⟩
    obtain ⟨⟨fd, hfd, hbody, hname⟩, hit⟩ := hit
    have hnm : fd.name ≠ "runtime.NumGoroutine" := by simpa using hname
    have hbn : fd.body ≠ none := by intro hx; rw [hx] at hbody; cases hbody
    have hcall : ∀ args w', (callFunc k args).run P w' = .ok (.enter k args) w' := fun args w' => by simp [callFunc, hfd, hnm, hbn]
    refine ⟨l, mark, w₁, { target := .fn (.func k) cs, args := #[.func (.yield l) #[] #[]] }, w₁, k, #[.func (.yield l) #[] #[]] ++ cs, w₁, e1, ?_, fun _ _ => trivial, ?_, fun h => by simp [Fr, Fence.wide] at h, ?_⟩
    · simp only [resolve, hfe]
      simp [go_sem]
    · simp [invoke, go_sem, hcall]
    · have hc := hit g₁ w₁ (.func (.yield l) #[] #[] :: cs.toList) (γ + 1) e3.inv (by subst hGl'; exact ⟨hst _ _ hS.gl e2, .refl _⟩)
        (fun p hp => by
          subst hL
          rcases List.mem_append.1 hp with hp | hp
          · exact e3.heap _ (List.mem_cons_of_mem _ (hHc p hp))
          · rcases List.mem_cons.1 hp with rfl | hp
            · exact e3.heap _ List.mem_cons_self
            · exact e3.heap _ (List.mem_cons_of_mem _ (hH0 p hp)))
        (fun t ht => e3.toks t (hT0 t ht)) ⟨_, _, rfl, ⟨l, e4, rfl⟩, RepL.mono e2 _ _ hf2⟩
      have he : (Value.func (.yield l) #[] #[] :: cs.toList).toArray = #[.func (.yield l) #[] #[]] ++ cs := by apply Array.ext'; simp
      rw [he] at hc
      refine CallsIn.mono (F := Fr (R0.lp)) hc ?_
      rintro e w' ⟨v, g', H1, T1, hR, rfl, hpost⟩
      have hfrm := e3.framed (H0 := Hc ++ (id, L .ready none) :: H0) (T0 := T0) (fun p hp => by
          subst hL
          rcases List.mem_append.1 hp with hp | hp
          · exact List.mem_cons_of_mem _ (hHc p hp)
          · rcases List.mem_cons.1 hp with rfl | hp
            · exact List.mem_cons_self
            · exact List.mem_cons_of_mem _ (hH0 p hp)) hT0 hpost.ws
      have hle2 : g.le g' := e2.trans hpost.ws.le
      have close : ∀ (st : LoopState) (pe : Option Code) (Hv : Hp), st ≠ .busy → H1 = (id, L st pe) :: Hv → (∀ q ∈ Hv, q.1 ≠ id ∧ q.1 ∉ Hc.map (·.1)) →
          (Instr.endLoop l).run P w' = .ok pe (w'.putObj l (.loop { recOf fn a.tmps ps as bd dfr st pe with state := .exhausted })) ∧
          Sim B N R0 lo Gl γ (c + 1) ⟨s.F, Hv ++ s.H.filter fun p => (Hc ++ H0).all fun q => q.1 ≠ p.1, fun t => T1 t ∨ (s.T t ∧ ¬ T0 t)⟩ g' { a with defers := mark ++ a.defers } (w'.putObj l (.loop { recOf fn a.tmps ps as bd dfr st pe with state := .exhausted })) := by
        rintro st pe Hv hb rfl hap
        have hw2 : WSD R0 B ((id, .obj (.loop (recOf fn a.tmps ps as bd dfr st pe))) :: (Hv ++ s.H.filter fun p => (Hc ++ H0).all fun q => q.1 ≠ p.1)) (fun t => T1 t ∨ (s.T t ∧ ¬ T0 t)) g' (mark ++ a.defers) w' := by
          refine hfrm.weaken (fun p hp => ?_) (fun t ht => ht)
          subst hL
          rcases List.mem_cons.1 hp with rfl | hp
          · exact List.mem_append.2 (.inl List.mem_cons_self)
          · rcases List.mem_append.1 hp with hp | hp
            · exact List.mem_append.2 (.inl (List.mem_cons_of_mem _ hp))
            · obtain ⟨p1, p2⟩ := List.mem_filter.1 hp
              refine List.mem_append.2 (.inr (List.mem_filter.2 ⟨List.mem_cons_of_mem _ p1, ?_⟩))
              simp only [List.all_append, List.all_cons, Bool.and_eq_true, decide_eq_true_eq] at p2 ⊢
              exact ⟨p2.1, fun e => hHid p p1 e.symm, p2.2⟩
        obtain ⟨d1, d2⟩ := hw2.dropAt (o' := .loop { recOf fn a.tmps ps as bd dfr st pe with state := .exhausted }) (hpost.ws.le.mu _ _ e4) (fun q hq => by
          rcases List.mem_append.1 hq with hq | hq
          · exact (hap q hq).1
          · exact hHid q (List.mem_filter.1 hq).1)
        have hfree : ∀ n, g.free n → n.1 ≤ γ → (∀ j, n ≠ (γ, c, j)) → g'.free n := fun n h1 h2 h3 =>
          hpost.free n (e5 n h1 (by rw [hid]; exact h3 0) (by rw [hidD]; exact h3 1)) (by omega)
        refine ⟨run_endLoop d1 hb, fun t => Rep.mono hle2 _ _ (hS.frame t), hS.size, d2, fun i j hi => ?_, hS.gam, hst _ _ hS.gl hle2, hS.low.step hfree⟩
        refine hfree _ (hS.new i j (by omega)) (Nat.le_refl _) (fun j' e => ?_)
        simp only [Prod.mk.injEq] at e
        omega
      rcases hR with ⟨Hv, hH1, hap, hJ⟩ | ⟨ex, Hv, hex, hH1, hap, hJx⟩
      · obtain ⟨q1, q2⟩ := close .ready none Hv (by simp) hH1 hap
        obtain ⟨H', T', x1, x2, hK⟩ := hdone _ _ hJ
        exact ⟨none, _, q1, _, _, _, _, hK, ⟨q2.frame, q2.size, q2.ws.weaken x1 x2, q2.new, q2.gam, q2.gl, q2.low⟩⟩
      · obtain ⟨q1, q2⟩ := close .done (jumpOf ex) Hv (by simp) hH1 hap
        refine ⟨_, _, q1, ?_⟩
        obtain ⟨H', T', x1, x2, hK⟩ := hstop _ _ _ hJx
        have q3 := (⟨q2.frame, q2.size, q2.ws.weaken x1 x2, q2.new, q2.gam, q2.gl, q2.low⟩ : Sim B N R0 lo Gl γ (c + 1) ⟨s.F, H', T'⟩ g' _ _)
        cases ex with
        | normal => exact absurd rfl hex
        | exit j => exact wpIn_exit ⟨_, _, _, _, hK, q3⟩
        | ret => exact wpIn_ret ⟨_, _, _, _, hK, q3⟩
  · exact h.elim

theorem aw_sound (hm : P.follows .mixedOrders = true) : ∀ (c : Code) (ic : ICode), compC P N c = some ic.strip → IH P N c ic
  | .skip, ic, hc, Gl, hst, B, R0, lo, Q, γ, n, s, g, a, w, hb, h, hS => by
    cases ic <;> simp [compC, ICode.strip] at hc
    exact wpIn_skip ⟨γ, n, s, g, h, hS⟩
  | .region id ops false, ic, hc, Gl, hst, B, R0, lo, Q, γ, n, s, g, a, w, hb, h, hS => by
    simp only [compC, Option.map_eq_some_iff] at hc
    obtain ⟨xs, hxs, he⟩ := hc
    cases ic <;> simp [ICode.strip] at he
    rename_i k
    subst he
    refine wpIn_region ?_
    have := ops_sound (Q := postOf B N R0 lo Gl Q) (c := n) (r := R0.lp) hst ops.toList xs 0 s g a w _ (by simp) hxs h hS (fun s' g' a' w' hk hs => ⟨γ, _, _, g', hk, hs.keep k⟩)
    rwa [List.range_eq_range']
  | .region id ops true, ic, hc, Gl, hst, B, R0, lo, Q, γ, n, s, g, a, w, hb, h, hS => by
    simp only [compC, Option.map_eq_some_iff] at hc
    obtain ⟨⟨pre, tail⟩, hxs, he⟩ := hc
    have hsp := drwSpec hxs
    have hl : pre.length + tail.length = ops.size := by
      have h1 := (compOpers_spec hsp.rest).1
      have h2 := hsp.le
      simp at h1
      omega
    cases ic <;> simp [ICode.strip] at he
    · rename_i k
      obtain ⟨rfl, rfl⟩ := he
      refine drw_sound hst hm hxs (K := fun s' => Q .normal γ (n + ops.size) (s'.keep k)) ?_ hS (fun s' g' a' w' hk hs => ⟨γ, _, _, g', hk, hs.keep k⟩)
      rw [← hl]
      exact h
    · rename_i k
      obtain ⟨rfl, rfl⟩ := he
      rename_i m0
      rcases h with h | h
      · refine drwm_sound (m := m0) hst hm hxs (K := fun s' => Q .normal γ (n + ops.size) (s'.keep k)) ?_ hS (fun s' g' a' w' hk hs => ⟨γ, _, _, g', hk, hs.keep k⟩)
        rw [← hl]
        exact h
      · refine drwx_sound (m := m0) hst hm hxs (K := fun s' => Q .normal γ (n + ops.size) (s'.keep k)) ?_ hS (fun s' g' a' w' hk hs => ⟨γ, _, _, g', hk, hs.keep k⟩)
        rw [← hl]
        exact h
  | .seq x y, ic, hc, Gl, hst, B, R0, lo, Q, γ, n, s, g, a, w, hb, h, hS => by
    simp only [compC] at hc
    split at hc <;> simp only [Option.some.injEq, reduceCtorEq] at hc
    cases ic <;> simp only [ICode.strip, reduceCtorEq, ICode.seq.injEq] at hc
    rename_i ix0 iy0 h1 h2 ix iy
    obtain ⟨rfl, rfl⟩ := hc
    refine wpIn_seq (wpIn_mono (aw_sound hm x ix h1 Gl hst B R0 lo _ γ n s g a w (fun e => ((Bool.and_eq_true _ _).mp (hb e)).1) h hS) fun e a' w' he => ?_)
    exact exit_then he (fun γ' c' s' g' hn hsim => aw_sound hm y iy h2 Gl hst B R0 lo Q γ' c' s' g' a' w' (fun e => ((Bool.and_eq_true _ _).mp (hb e)).2) hn hsim) (fun _ _ _ _ h => h) (fun _ _ _ h => h)
  | .cond c x y, ic, hc, Gl, hst, B, R0, lo, Q, γ, n, s, g, a, w, hb, h, hS => by
    simp only [compC] at hc
    split at hc <;> simp only [Option.some.injEq, reduceCtorEq] at hc
    cases ic <;> simp only [ICode.strip, reduceCtorEq, ICode.cond.injEq] at hc
    rename_i xc0 ix0 iy0 h0 h1 h2 xc ix iy
    obtain ⟨rfl, rfl, rfl⟩ := hc
    simp only [aw] at h
    split at h
    · rename_i t ht
      have hv := rep_compX hS.frame h0
      rw [ht] at hv
      have hv : a.eval c = .bool t := hv
      cases t
      · exact wpIn_cond_false hv (aw_sound hm y iy h2 Gl hst B R0 lo Q γ n s g a w (fun e => ((Bool.and_eq_true _ _).mp (hb e)).2) (h.2 rfl) hS)
      · exact wpIn_cond_true hv (aw_sound hm x ix h1 Gl hst B R0 lo Q γ n s g a w (fun e => ((Bool.and_eq_true _ _).mp (hb e)).1) (h.1 rfl) hS)
    · exact h.elim
  | .block id c, ic, hc, Gl, hst, B, R0, lo, Q, γ, n, s, g, a, w, hb, h, hS => by
    simp only [compC, Option.map_eq_some_iff] at hc
    obtain ⟨ic0, h1, he⟩ := hc
    cases ic <;> simp only [ICode.strip, reduceCtorEq, ICode.blk.injEq] at he
    rename_i id' ic
    obtain ⟨rfl, rfl⟩ := he
    refine wpIn_block (wpIn_mono (aw_sound hm c ic h1 Gl hst B R0 lo _ γ n s g a w hb h hS) fun e a' w' he => ?_)
    cases e with
    | normal => exact he
    | exit id' =>
      obtain ⟨γ', c', s', g', h2, h3⟩ := he
      simp only at h2
      simp only [Exit.inBlock]
      split
      · rename_i hid; rw [if_pos hid] at h2; exact ⟨γ', c', s', g', h2, h3⟩
      · rename_i hid; rw [if_neg hid] at h2; exact ⟨γ', c', s', g', h2, h3⟩
    | ret => exact he
    | goto l => exact he.elim
    | panic c => exact he.elim
    | outgrown => exact he.elim
  | .loop c, ic, hc, Gl, hst, B, R0, lo, Q, γ, n, s, g, a, w, hb, h, hS => by
    simp only [compC, Option.map_eq_some_iff] at hc
    obtain ⟨ic0, h1, he⟩ := hc
    cases ic <;> simp only [ICode.strip, reduceCtorEq, ICode.loop.injEq] at he
    rename_i ic
    subst he
    obtain ⟨I, μ, ⟨m, s', hwk, hI⟩, hround⟩ := h
    obtain ⟨g', k1, k2, k3, k4⟩ := hS.wk hst hwk
    exact wpIn_loop_rounds _ (loop_sound hst (fun Q γ n s g a w h hs => aw_sound hm c ic h1 Gl hst B R0 lo Q γ n s g a w hb h hs) hround (μ s') s' g' a w (Nat.le_refl _) hI k1 hS.size k2 k3 k4)
  | .exit id, ic, hc, Gl, hst, B, R0, lo, Q, γ, n, s, g, a, w, hb, h, hS => by
    cases ic <;> simp [compC, ICode.strip] at hc
    subst hc
    exact wpIn_exit ⟨γ, n, s, g, h, hS⟩
  | .ret, ic, hc, Gl, hst, B, R0, lo, Q, γ, n, s, g, a, w, hb, h, hS => by
    cases ic <;> simp [compC, ICode.strip] at hc
    exact wpIn_ret ⟨γ, n, s, g, h, hS⟩
  | .rangeFunc gop ps as bd, ic, hc, Gl, hst, B, R0, lo, Q, γ, n, s, g, a, w, hb, h, hS => by
    simp only [compC] at hc
    split at hc
    · rename_i x0 ia0 ib0 h0 h1 h2
      split at hc <;> simp only [Option.some.injEq, reduceCtorEq] at hc
      rename_i hps
      cases ic <;> simp only [ICode.strip, reduceCtorEq, ICode.rgf.injEq] at hc
      rename_i x ps' ia ib
      obtain ⟨rfl, rfl, rfl, rfl⟩ := hc
      exact rgf_sound h0 (fun p hp => by simpa using List.all_eq_true.1 hps p hp) (aw_sound hm as ia h1) (aw_sound hm bd ib h2) hst (fun e => by have := hb e; simp [ICode.noR] at this) h hS
    · cases hc
  | .scope _, _, hc, _, _, _, _, _, _, _, _, _, _, _, _, _, _, _ => by simp [compC] at hc
  | .label _, _, hc, _, _, _, _, _, _, _, _, _, _, _, _, _, _, _ => by simp [compC] at hc
  | .goto _, _, hc, _, _, _, _, _, _, _, _, _, _, _, _, _, _, _ => by simp [compC] at hc
  | .refuse _, _, hc, _, _, _, _, _, _, _, _, _, _, _, _, _, _, _ => by simp [compC] at hc
end
end Go.Ab

