/- A function's contract out of its code: the names that the run made are handed to the caller. -/
import Derived.Test.YtjankibepgnbfaaGreatDoorPBackPlainAb10r
set_option linter.unusedVariables false
set_option linter.unusedSimpArgs false
namespace Go.Ab

inductive IRes where
  | t (n : Nat)
  | cell (n : Nat) (m : Option Nat)

def compRes (P : Program) : List ResultVar → Option (List IRes)
  | [] => some []
  | .tmp t :: rs => (compRes P rs).map (.t t :: ·)
  | .cell t ty :: rs => match aggOf P ty, compRes P rs with
    | some n, some rs => some (.cell t n :: rs)
    | _, _ => none

def IRes.get (s : St) : IRes → Option AV
  | .t n => some (s.F n)
  | .cell n m => match s.F n with
    | .ptr id off => match getH s.H id with
      | some (.cells cs) => match m with
        | some k => if k ≤ (cs.drop off).length then some (.agg ((cs.drop off).take k)) else none
        | none => (cs.drop off).head?
      | _ => none
    | _ => none
def getAll (s : St) : List IRes → Option (List AV)
  | [] => some []
  | x :: xs => match x.get s, getAll s xs with
    | some v, some vs => some (v :: vs)
    | _, _ => none
def resOf (s : St) (rs : List IRes) : Option AV :=
  match getAll s rs with
  | some [v] => some v
  | some vs => some (.tup vs)
  | none => none

def Ret (rs : List IRes) (H0 : Hp) (T0 : List Nm) (r : AV) (H1 : Hp) (T1 : List Nm) (γ : Nat) (s : St) : Prop :=
  ∃ us : List Nm, us.Nodup ∧ (∀ n ∈ us, γ ≤ n.1) ∧ resOf s rs = some (rn (fun j => us.getD j (0, 0, 0)) r) ∧
    (∀ p ∈ rnH (fun j => us.getD j (0, 0, 0)) H1, p ∈ s.H) ∧ (∀ t ∈ T1, s.T (rnN (fun j => us.getD j (0, 0, 0)) t)) ∧
    AV.okIn us.length (H0.map (·.1)) T0 r ∧ (∀ p ∈ H1, nmOK us.length (H0.map (·.1)) p.1 ∧ p.2.okIn us.length (H0.map (·.1)) T0) ∧ ∀ t ∈ T1, nmOK us.length T0 t

def initF (args : List AV) : Nat → AV := fun t => args.getD t .und

section
variable {P : Program} {Gl : Gh → Prop}

theorem getAll_rep {N : Nat} {B : Base} {s : St} {g : Gh} {a : Act} {w : World} (hF : FOK g s.F a) (hW : WS B s.H s.T g w) : ∀ {rs : List ResultVar} {xs : List IRes} {vs : List AV}, compRes P rs = some xs → getAll s xs = some vs →
    ∃ us, RepL g vs us ∧ ∀ (acc : Array Value), True ∧ (rs.mapM (fun (r : ResultVar) => match r with
      | .tmp t => (pure (a.tmps.getD t undef) : Sem Value)
      | .cell t ty => do loadVar ty (← asAddr (a.tmps.getD t undef)))).run P w = .ok us w
  | [], _, _, h, k => by
    cases h; cases k
    exact ⟨[], rfl, fun acc => ⟨trivial, by simp⟩⟩
  | .tmp t :: rs, _, _, h, k => by
    simp only [compRes, Option.map_eq_some_iff] at h
    obtain ⟨xs, hx, rfl⟩ := h
    simp only [getAll, IRes.get] at k
    split at k <;> cases k
    rename_i v vs hv hvs
    cases hv
    obtain ⟨us, k1, k2⟩ := getAll_rep (N := N) hF hW hx hvs
    exact ⟨_ :: us, ⟨_, _, rfl, hF t, k1⟩, fun acc => ⟨trivial, by
      have := (k2 acc).2
      simp only [List.mapM_cons, Sem.run_bind, Sem.run_pure, Result.andThen_ok, this]⟩⟩
  | .cell t ty :: rs, _, _, h, k => by
    simp only [compRes] at h
    split at h <;> cases h
    rename_i n xs ha hx
    simp only [getAll] at k
    split at k <;> cases k
    rename_i v vs hv hvs
    obtain ⟨us, k1, k2⟩ := getAll_rep (N := N) hF hW hx hvs
    simp only [IRes.get] at hv
    split at hv
    · rename_i id off hid
      split at hv
      · rename_i cs hH
        have hft := hF t
        rw [hid] at hft
        obtain ⟨b, hm, he⟩ := hft
        obtain ⟨b', hm', ws, ty', hb, hws⟩ := getH_ok hW hH
        rw [hm] at hm'; cases hm'
        have hag : ∃ p, aggv n (cs.drop off) = some (p, v) ∧ p := by
          cases n with
          | none =>
            simp only at hv
            cases hd : cs.drop off with
            | nil => rw [hd] at hv; simp at hv
            | cons c rest => rw [hd] at hv; simp at hv; subst hv; exact ⟨True, rfl, trivial⟩
          | some m =>
            simp only at hv
            split at hv <;> cases hv
            rename_i hl
            exact ⟨_, rfl, hl⟩
        obtain ⟨p, hg, hp⟩ := hag
        obtain ⟨cv, hr, hrep⟩ := run_loadVar_ab (w := w) ha (RepL.drop off hws) (fun i v hv' => cells_block hb off i v hv') hg hp
        exact ⟨cv :: us, ⟨_, _, rfl, hrep, k1⟩, fun acc => ⟨trivial, by
          have := (k2 acc).2
          have hAddr : (asAddr (a.tmps.getD t undef)).run P w = .ok ⟨b, off, none⟩ w := by rw [he]; rfl
          simp only [List.mapM_cons, Sem.run_bind, hAddr, Sem.run_pure, Result.andThen_ok, hr, this]⟩⟩
      · cases hv
    · cases hv

theorem results_run {N : Nat} {B : Base} {s : St} {g : Gh} {a : Act} {w : World} {fn : Func} (hF : FOK g s.F a) (hW : WS B s.H s.T g w) {rs : List IRes} {v : AV} (hr : compRes P fn.results.toList = some rs) (hv : resOf s rs = some v) :
    ∃ cv, (results fn a.tmps).run P w = .ok cv w ∧ Rep g v cv := by
  unfold resOf at hv
  have key : ∀ {vs : List AV} {us : List Value}, RepL g vs us → (results fn a.tmps).run P w = .ok (if h : us.toArray.size = 1 then us.toArray[0] else .tuple us.toArray) w → True := fun _ _ => trivial
  cases hg : getAll s rs with
  | none => rw [hg] at hv; cases hv
  | some vs =>
    obtain ⟨us, k1, k2⟩ := getAll_rep (N := N) hF hW hr hg
    have hlen := RepL.length k1
    have hm : (fn.results.mapM (fun (r : ResultVar) => match r with
      | .tmp t => (pure (a.tmps.getD t undef) : Sem Value)
      | .cell t ty => do loadVar ty (← asAddr (a.tmps.getD t undef)))).run P w = .ok us.toArray w := by
      rw [Array.mapM_eq_mapM_toList]
      simp only [Sem.run_map, (k2 #[]).2, Result.andThen_ok]
    have hres : (results fn a.tmps).run P w = .ok (if h : us.toArray.size = 1 then us.toArray[0] else .tuple us.toArray) w := by
      unfold results
      simp only [Sem.run_bind]
      exact congrArg (fun z => z.andThen fun a w' => Sem.run P (pure (if h : a.size = 1 then a[0] else Value.tuple a)) w') hm
    refine ⟨_, hres, ?_⟩
    rw [hg] at hv
    cases vs with
    | nil =>
      cases k1
      simp only [Option.some.injEq] at hv
      subst hv
      exact ⟨_, rfl, rfl⟩
    | cons x xs =>
      obtain ⟨u, rest, rfl, r1, r2⟩ := k1
      cases xs with
      | nil =>
        cases r2
        simp only [Option.some.injEq] at hv
        subst hv
        simpa using r1
      | cons y ys =>
        simp only [Option.some.injEq] at hv
        subst hv
        have hl2 : ¬ ((u :: rest).toArray.size = 1) := by simp at hlen ⊢; intro h; rw [h] at hlen; simp at hlen
        rw [dif_neg hl2]
        exact ⟨_, rfl, u, rest, rfl, r1, r2⟩

theorem WS.dropHead {B : Base} {p : Nm × HB} {L : Hp} {T : Tk} {g : Gh} {w : World} {b : Nat} {o : Obj} (k : WS B (p :: L) T g w) (hp : p.2 = .obj o) (hb : g.mu p.1 = some b) (hL : ∀ q ∈ L, q.1 ≠ p.1) (o' : Obj) :
    w.heap[b]? = some o ∧ WS B L T g (w.putObj b o') := by
  obtain ⟨id, hb0⟩ := p
  simp only at hp hb hL
  subst hp
  obtain ⟨b', hb', hk⟩ := k.heap (id, .obj o) List.mem_cons_self
  simp only at hb'
  rw [hb] at hb'
  cases hb'
  have hk : w.heap[b]? = some o := hk
  refine ⟨hk, (k.setBlock (old := .obj o) (new := .obj o') List.mem_cons_self hb (onlyAt_putObj w b _) (World.putObj_heap_same (lt_of_some hk))).weaken (fun q hq => ?_) (fun t h => h)⟩
  simp only [setH, List.mem_map]
  exact ⟨q, List.mem_cons_of_mem _ hq, by rw [if_neg (hL q hq)]⟩

theorem leaves_marks {B : Base} {fn : Func} {tmps : Array Value} {R : Ending → World → Prop} {H : Hp} {T : Tk} {g : Gh} {E : List Deferred → Prop} (hfin : ∀ ds w, E ds → WS B H T g w → LeavesInM Fence.wide 0 P fn tmps R ds .returning w) :
    ∀ {ds : List Deferred} {Mk : Hp} {w : World}, Mks g E Mk ds → WS B (Mk ++ H) T g w → (∀ p ∈ Mk, ∀ q ∈ H, q.1 ≠ p.1) → LeavesInM Fence.wide 0 P fn tmps R ds .returning w
  | ds, [], w, h, k, _ => hfin ds w h k
  | d :: ds, p :: Mk, w, ⟨h1, ⟨b, h2, h3⟩, h4, h5⟩, k, ha => by
    obtain ⟨k1, k2⟩ := WS.dropHead (L := Mk ++ H) k h1 h2 (fun q hq => by
      rcases List.mem_append.1 hq with hq | hq
      · exact h4 q hq
      · exact ha p List.mem_cons_self q hq) (.deferred none)
    subst h3
    exact ⟨by simp, .inl ⟨b, _, rfl, run_takeDeferred k1, leaves_marks hfin h5 k2 (fun q hq => ha q (List.mem_cons_of_mem _ hq))⟩⟩
  | [], _ :: _, _, h, _, _ => h.elim
theorem Wk.refl (γ c : Nat) (s : St) : Wk γ c 0 s s := by
  refine ⟨fun t => .inl rfl, fun p hp => ⟨p, hp, rfl, ?_⟩, fun t ht => .inl ht⟩
  cases p.2 with
  | cells xs => exact ⟨rfl, fun i x y h1 h2 => by rw [h1] at h2; cases h2; exact .inl rfl⟩
  | mapp _ => rfl
  | obj _ => rfl

theorem WS.freeze {B : Base} {H : Hp} {T : Tk} {g : Gh} {w : World} (k : WS B H T g w) {id : Nm} {cs : List AV} (hm : (id, .cells cs) ∈ H) (hnew : B.g0.mu id = none) (hc : AV.closedL cs = true) :
    ∃ g' b, g.mu id = some b ∧ WS B [] (fun _ => False) g' w ∧ RepCells g'.imm b 0 cs := by
  obtain ⟨b, hb, vs, ty, hw, hr⟩ := k.heap _ hm
  have hb : g.mu id = some b := hb
  have hbB : B.w0.heap.size ≤ b := by
    rcases Nat.lt_or_ge b B.w0.heap.size with h | h
    · have := k.keeps.mu id b hb h; rw [hnew] at this; cases this
    · exact h
  have hi := (k.inv.mu id b hb).2
  obtain ⟨g', hg'⟩ : ∃ g' : Gh, g' = { g with imm := fun b' o => if b' = b then vs[o]? else g.imm b' o, mu := fun i => if i = id then none else g.mu i } := ⟨_, rfl⟩
  have hmu : ∀ i b', g'.mu i = some b' → i ≠ id ∧ g.mu i = some b' := fun i b' e => by
    subst hg'
    simp only at e
    split at e
    · cases e
    · exact ⟨‹_›, e⟩
  have himb : ∀ o, g'.imm b o = vs[o]? := fun o => by subst hg'; exact if_pos rfl
  have himn : ∀ b', b' ≠ b → ∀ o, g'.imm b' o = g.imm b' o := fun b' h o => by subst hg'; exact if_neg h
  have hown : g'.own = g.own := by subst hg'; rfl
  have himm : ∀ b' o v, g.imm b' o = some v → g'.imm b' o = some v := fun b' o v e => by
    rw [himn b' (by rintro rfl; rw [hi] at e; cases e)]; exact e
  have hne : ∀ i b', g'.mu i = some b' → b' ≠ b := fun i b' e => by
    rintro rfl
    obtain ⟨h1, h2⟩ := hmu i _ e
    exact h1 (k.inv.inj _ _ _ h2 hb)
  refine ⟨g', b, hb, ⟨⟨fun b' o v e => ?_, fun i b' e => ?_, fun i j b' e1 e2 => k.inv.inj _ _ _ (hmu _ _ e1).2 (hmu _ _ e2).2, fun t b' e sz n cap ho => ?_, fun t t' b' e1 sz n cap e2 sz' n' cap' => by rw [hown]; exact k.inv.inj2 _ _ _ _ _ _ _ _ _ _ _, ?_, fun p hp => (by
      obtain ⟨q1, q2, q3⟩ := k.inv.fix p hp
      exact ⟨q1, fun i e => q2 i (hmu _ _ e).2, by rw [hown]; exact q3⟩)⟩, (fun p hp => by cases hp), fun t ht => ht.elim, ⟨k.keeps.os, k.keeps.tape, k.keeps.output, k.keeps.size, k.keeps.block, fun b' h1 h2 o => ?_, fun i b' e h => k.keeps.mu i b' (hmu _ _ e).2 h, fun t h1 h2 => by rw [hown]; exact k.keeps.own t h1 h2⟩, (fun p hp => by cases hp), fun t ht => ht.elim, fun t ht => ht.elim, ?_⟩, ?_⟩
  · by_cases h : b' = b
    · subst h
      rw [himb] at e
      unfold World.cell?
      rw [hw]
      exact e
    · rw [himn b' h] at e; exact k.inv.imm _ _ _ e
  · obtain ⟨h1, h2⟩ := hmu i b' e
    obtain ⟨h3, h4⟩ := k.inv.mu i b' h2
    exact ⟨h3, fun o => by rw [himn b' (hne i b' e)]; exact h4 o⟩
  · rw [hown] at ho
    obtain ⟨h1, h2, h3, h4, h5⟩ := k.inv.own t b' e sz n cap ho
    refine ⟨h1, h2, h3, fun o h => ?_, fun i e' => h5 i (hmu _ _ e').2⟩
    rw [himn b' (by rintro rfl; exact h5 id hb)]; exact h4 o h
  · obtain ⟨G, h1, h2⟩ := k.inv.top
    refine ⟨G, h1, fun n hn => ⟨?_, by rw [hown]; exact (h2 n hn).2⟩⟩
    cases e : g'.mu n with
    | none => rfl
    | some b' => have := (hmu _ _ e).2; rw [(h2 n hn).1] at this; cases this
  · rw [himn b' (by omega)]; exact k.keeps.imm b' h1 h2 o
  · refine ⟨fun b' o v e => himm _ _ _ (k.le.imm _ _ _ e), fun i b' e => ?_, fun t ht => by rw [hown]; exact k.le.own t ht⟩
    have h1 := k.le.mu _ _ e
    subst hg'
    simp only
    rw [if_neg (by rintro rfl; rw [hnew] at e; cases e)]; exact h1
  · refine RepCells.of_vals (RepL.ofCore cs _ hc (RepL.core_mono himm cs _ (RepL.toCore cs _ hc hr))) hc fun i v h => ?_
    rw [himb, Nat.zero_add]
    simpa using h

def Frz (rs : List IRes) (sz : Nat) (rows : List (List AV)) (γ : Nat) (s : St) : Prop :=
  ∃ d id, rs = [.t d] ∧ s.F d = .ms id sz rows.length ∧ γ ≤ id.1 ∧ (id, .cells rows.flatten) ∈ s.H ∧ AV.closedL rows.flatten = true ∧ (∀ x ∈ rows, x.length = sz) ∧ 0 < sz ∧ rows.length ≤ maxLen

def RetW (rs : List IRes) (H0 : Hp) (T0 : List Nm) (r : AV) (s : St) : Prop :=
  ∃ x, resOf s rs = some x ∧ (∀ g v, Rep g x v → Rep g r v) ∧ (∀ f, rn f r = r) ∧ AV.okIn 0 (H0.map (·.1)) T0 r

theorem FSRK_of_aw (hm : P.follows .mixedOrders = true) (hst : Stays Gl) {k : FuncId} {fn : Func} {c : Code} {ic : ICode} {rs : List IRes} (hf : P.funcs[k]? = some fn) (hb : fn.body = some c) (hnm : (fn.name == "runtime.NumGoroutine") = false) (hc : compC P fn.ntmps c = some ic.strip) (hres : compRes P fn.results.toList = some rs)
    {args : List AV} {H0 : Hp} {T0 : List Nm} {R : AV → Hp → List Nm → Prop} (hn : args.length ≤ fn.ntmps)
    (h : ∀ γ, 1 ≤ γ → freshFor γ ⟨initF args, H0, (· ∈ T0)⟩ → aw P Gl ic γ 0 ⟨initF args, H0, (· ∈ T0)⟩ fun ex γ' c' s₀ => (match ex with | .normal | .ret => True | _ => False) ∧ ∃ n s, Wk γ' c' n s₀ s ∧ ((∃ r H1 T1, R r H1 T1 ∧ Ret rs H0 T0 r H1 T1 γ s) ∨ (∃ sz rows, R (.sl none sz rows) [] [] ∧ Frz rs sz rows γ s) ∨ ∃ r, R r [] [] ∧ RetW rs H0 T0 r s)) :
    FSR P Gl k args H0 T0 R := by
  refine ⟨⟨fn, hf, by rw [hb]; rfl, hnm⟩, fun g w vs f hinv hgl hH0 hT0 hargs hfr hfi => ?_⟩
  obtain ⟨G, hG1, hG2⟩ := hinv.top
  have hlen := RepL.length hargs
  have hB : WS ⟨w, g, mutOf g H0 (· ∈ T0), (· ∈ T0)⟩ H0 (· ∈ T0) g w :=
    ⟨hinv, hH0, hT0, ⟨rfl, rfl, rfl, Nat.le_refl _, fun _ _ _ => rfl, fun _ _ _ _ => rfl, fun _ _ h _ => h, fun _ _ _ => rfl⟩, fun p hp b e => .inl (.inl ⟨p, hp, e⟩), fun t ht b e sz n cap ho => .inl (.inr ⟨t, ht, e, sz, n, cap, ho⟩), fun t ht => .inl ht, .refl g⟩
  have hfresh : freshFor G ⟨initF args, H0, (· ∈ T0)⟩ := ⟨fun p hp e => (by
      obtain ⟨b, hm, _⟩ := hH0 p hp
      rw [(hG2 p.1 (by omega)).1] at hm; cases hm), fun t ht e => (hT0 t ht).2 (hG2 t (by omega)).2⟩
  refine callsIn_of_wp_marks hf hb trivial ?_
  have hF : FOK g (initF args) { tmps := vs.toArray ++ Array.replicate (fn.ntmps - vs.toArray.size) undef, defers := [] } := by
    intro t
    unfold initF
    by_cases ht : t < args.length
    · obtain ⟨v, h1, h2⟩ := RepL.get hargs t _ (List.getElem?_eq_getElem ht)
      have : (vs.toArray ++ Array.replicate (fn.ntmps - vs.toArray.size) undef).getD t undef = v := by
        rw [Array.getD_eq_getD_getElem?, Array.getElem?_append_left (by simp; omega)]
        simp [h1]
      rw [this]
      simpa [List.getElem?_eq_getElem ht] using h2
    · simp [List.getElem?_eq_none (Nat.le_of_not_lt ht)]
      trivial
  have := aw_sound (N := fn.ntmps) hm c ic hc Gl hst ⟨w, g, mutOf g H0 (· ∈ T0), (· ∈ T0)⟩ (.out none) 0 _ G 0 _ g _ w (fun e => by cases e) (h G hG1 hfresh) ⟨hF, by simp [hlen]; omega, ⟨[], rfl, hB, fun p hp => by cases hp⟩, fun i j _ => hG2 _ (Nat.le_refl _), hG1, hgl, Nat.zero_le _, fun n h1 _ => h1⟩
  refine wpIn_mono (F := Fr none) this fun e a' w' he => ?_
  have fin : ∀ s g', ((∃ r H1 T1, R r H1 T1 ∧ Ret rs H0 T0 r H1 T1 G s) ∨ (∃ sz rows, R (.sl none sz rows) [] [] ∧ Frz rs sz rows G s) ∨ ∃ r, R r [] [] ∧ RetW rs H0 T0 r s) → FOK g' s.F a' → WSD (.out none) ⟨w, g, mutOf g H0 (· ∈ T0), (· ∈ T0)⟩ s.H s.T g' a'.defers w' →
      LeavesInM Fence.wide 0 P fn a'.tmps (fun e w' => ∃ v g' r H1 T1, R r H1 T1 ∧ e = .returned v ∧ Post f H0 T0 r H1 T1 g w v g' w') a'.defers .returning w' := by
    rintro s g' hret hsF ⟨Mk, m1, m2, m3⟩
    rcases hret with ⟨r, H1, T1, hR, us, u1, u2, u3, u4, u5, u6, u7, u8⟩ | ⟨sz, rows, hR, d, id, e1, e2, e3, e4, e5, e6, e7, e8⟩ | ⟨r, hR, x, e1, e2, e3, e4⟩
    rotate_left
    · refine leaves_marks (H := s.H) (T := s.T) (g := g') (fun ds w'' hE hw => ?_) m1 m2 m3
      obtain rfl : ds = [] := hE
      obtain ⟨cv, r1, r2⟩ := results_run (N := fn.ntmps) hsF hw hres (v := .ms id sz rows.length) (by rw [e1]; simp only [resOf, getAll, IRes.get, e2])
      obtain ⟨g2, b, f1, f2, f3⟩ := hw.freeze e4 (hG2 id e3).1 e5
      obtain ⟨b', r2, r3⟩ := r2
      rw [f1] at r2; cases r2
      refine ⟨cv, r1, cv, _, _, [], [], hR, rfl, hand_post hfi hfr hH0 hT0 hG2 (s := ⟨s.F, [], fun _ => False⟩) f2 (us := []) (by simp) (by simp) (r := .sl none sz rows) ?_ (by simp [rnH]) (by simp) trivial (by simp) (by simp)⟩
      exact ⟨_, _, r3, .inr ⟨b, 0, rfl, e7, Nat.le_refl _, e8, RepRow.of_flat f3 e6⟩, fun t ht => by cases ht⟩
    · refine leaves_marks (H := s.H) (T := s.T) (g := g') (fun ds w'' hE hw => ?_) m1 m2 m3
      obtain rfl : ds = [] := hE
      obtain ⟨cv, r1, r2⟩ := results_run (N := fn.ntmps) hsF hw hres e1
      exact ⟨cv, r1, cv, _, r, [], [], hR, rfl, hand_post hfi hfr hH0 hT0 hG2 hw (us := []) (by simp) (by simp) (by rw [e3]; exact e2 _ _ r2) (by simp [rnH]) (by simp) e4 (by simp) (by simp)⟩
    refine leaves_marks (H := s.H) (T := s.T) (g := g') (fun ds w'' hE hw => ?_) m1 m2 m3
    obtain rfl : ds = [] := hE
    obtain ⟨cv, r1, r2⟩ := results_run (N := fn.ntmps) hsF hw hres u3
    exact ⟨cv, r1, cv, _, r, H1, T1, hR, rfl, hand_post hfi hfr hH0 hT0 hG2 hw u1 u2 r2 u4 u5 u6 u7 u8⟩
  cases e with
  | normal =>
    obtain ⟨γ, c', s₀, g', ⟨_, n, s, hk, h1⟩, h2⟩ := he
    obtain ⟨g'', k1, k2, _, _⟩ := h2.wk hst hk
    exact fin s g'' h1 k1 k2
  | ret =>
    obtain ⟨γ, c', s₀, g', ⟨_, n, s, hk, h1⟩, h2⟩ := he
    obtain ⟨g'', k1, k2, _, _⟩ := h2.wk hst hk
    exact fin s g'' h1 k1 k2
  | exit id => obtain ⟨γ, c', s, g', ⟨h0, _⟩, h2⟩ := he; exact h0.elim
  | goto l => exact he.elim
  | panic c => exact he.elim
  | outgrown => exact he.elim

theorem FSRF_of_aw (hm : P.follows .mixedOrders = true) (hst : Stays Gl) {k : FuncId} {fn : Func} {c : Code} {ic : ICode} {rs : List IRes} (hf : P.funcs[k]? = some fn) (hb : fn.body = some c) (hnm : (fn.name == "runtime.NumGoroutine") = false) (hc : compC P fn.ntmps c = some ic.strip) (hres : compRes P fn.results.toList = some rs)
    {args : List AV} {H0 : Hp} {T0 : List Nm} {R : AV → Hp → List Nm → Prop} (hn : args.length ≤ fn.ntmps)
    (h : ∀ γ, 1 ≤ γ → freshFor γ ⟨initF args, H0, (· ∈ T0)⟩ → aw P Gl ic γ 0 ⟨initF args, H0, (· ∈ T0)⟩ fun ex _ _ s => (match ex with | .normal | .ret => True | _ => False) ∧ ((∃ r H1 T1, R r H1 T1 ∧ Ret rs H0 T0 r H1 T1 γ s) ∨ (∃ sz rows, R (.sl none sz rows) [] [] ∧ Frz rs sz rows γ s) ∨ ∃ r, R r [] [] ∧ RetW rs H0 T0 r s)) :
    FSR P Gl k args H0 T0 R :=
  FSRK_of_aw hm hst hf hb hnm hc hres hn fun γ a b => aw_mono (h γ a b) fun ex γ' c' s hh => ⟨hh.1, 0, s, Wk.refl _ _ s, hh.2⟩

theorem FSR_of_aw (hm : P.follows .mixedOrders = true) (hst : Stays Gl) {k : FuncId} {fn : Func} {c : Code} {ic : ICode} {rs : List IRes} (hf : P.funcs[k]? = some fn) (hb : fn.body = some c) (hnm : (fn.name == "runtime.NumGoroutine") = false) (hc : compC P fn.ntmps c = some ic.strip) (hres : compRes P fn.results.toList = some rs)
    {args : List AV} {H0 : Hp} {T0 : List Nm} {R : AV → Hp → List Nm → Prop} (hn : args.length ≤ fn.ntmps)
    (h : ∀ γ, 1 ≤ γ → freshFor γ ⟨initF args, H0, (· ∈ T0)⟩ → aw P Gl ic γ 0 ⟨initF args, H0, (· ∈ T0)⟩ fun ex _ _ s => (match ex with | .normal | .ret => True | _ => False) ∧ ∃ r H1 T1, R r H1 T1 ∧ Ret rs H0 T0 r H1 T1 γ s) :
    FSR P Gl k args H0 T0 R :=
  FSRF_of_aw hm hst hf hb hnm hc hres hn fun γ a b => aw_mono (h γ a b) fun ex γ c s hh => ⟨hh.1, .inl hh.2⟩

theorem FSX_of_aw (hm : P.follows .mixedOrders = true) (hst : Stays Gl) {k : FuncId} {fn : Func} {c : Code} {ic : ICode} (hf : P.funcs[k]? = some fn) (hb : fn.body = some c) (hnm : (fn.name == "runtime.NumGoroutine") = false) (hc : compC P fn.ntmps c = some ic.strip) (hres : compRes P fn.results.toList = some [])
    {args : List AV} {H0 : Hp} {T0 : Tk} {R : Hp → Tk → Prop} (hn : args.length ≤ fn.ntmps)
    (h : ∀ γ, 1 ≤ γ → freshFor γ ⟨initF args, H0, T0⟩ → aw P Gl ic γ 0 ⟨initF args, H0, T0⟩ fun ex _ _ s => (match ex with | .normal | .ret => True | _ => False) ∧ ∃ H1 T1, R H1 T1 ∧ (∀ p ∈ H1, p ∈ s.H) ∧ ∀ t, T1 t → s.T t) :
    FSX P Gl k args H0 T0 R := by
  refine ⟨⟨fn, hf, by rw [hb]; rfl, hnm⟩, fun g w vs Gm hinv hgl hH0 hT0 hargs => ?_⟩
  obtain ⟨G0, hG0, hG2'⟩ := hinv.top
  obtain ⟨G, hGd⟩ : ∃ G, G = max G0 Gm := ⟨_, rfl⟩
  have hG1 : 1 ≤ G := by omega
  have hG2 : ∀ n : Nm, G ≤ n.1 → g.free n := fun n hn => hG2' n (by omega)
  have hlen := RepL.length hargs
  have hB : WS ⟨w, g, mutOf g H0 T0, T0⟩ H0 T0 g w :=
    ⟨hinv, hH0, hT0, ⟨rfl, rfl, rfl, Nat.le_refl _, fun _ _ _ => rfl, fun _ _ _ _ => rfl, fun _ _ h _ => h, fun _ _ _ => rfl⟩, fun p hp b e => .inl (.inl ⟨p, hp, e⟩), fun t ht b e sz n cap ho => .inl (.inr ⟨t, ht, e, sz, n, cap, ho⟩), fun t ht => .inl ht, .refl g⟩
  have hfresh : freshFor G ⟨initF args, H0, T0⟩ := ⟨fun p hp e => (by
      obtain ⟨b, hm, _⟩ := hH0 p hp
      rw [(hG2 p.1 (by omega)).1] at hm; cases hm), fun t ht e => (hT0 t ht).2 (hG2 t (by omega)).2⟩
  refine callsIn_of_wp_marks hf hb trivial ?_
  have hF : FOK g (initF args) { tmps := vs.toArray ++ Array.replicate (fn.ntmps - vs.toArray.size) undef, defers := [] } := by
    intro t
    unfold initF
    by_cases ht : t < args.length
    · obtain ⟨v, h1, h2⟩ := RepL.get hargs t _ (List.getElem?_eq_getElem ht)
      have : (vs.toArray ++ Array.replicate (fn.ntmps - vs.toArray.size) undef).getD t undef = v := by
        rw [Array.getD_eq_getD_getElem?, Array.getElem?_append_left (by simp; omega)]
        simp [h1]
      rw [this]
      simpa [List.getElem?_eq_getElem ht] using h2
    · simp [List.getElem?_eq_none (Nat.le_of_not_lt ht)]
      trivial
  have := aw_sound (N := fn.ntmps) hm c ic hc Gl hst ⟨w, g, mutOf g H0 T0, T0⟩ (.out none) Gm _ G 0 _ g _ w (fun e => by cases e) (h G hG1 hfresh) ⟨hF, by simp [hlen]; omega, ⟨[], rfl, hB, fun p hp => by cases hp⟩, fun i j _ => hG2 _ (Nat.le_refl _), hG1, hgl, by omega, fun n h1 _ => h1⟩
  refine wpIn_mono (F := Fr none) this fun e a' w' he => ?_
  have fin : ∀ s g' γ c, (∃ H1 T1, R H1 T1 ∧ (∀ p ∈ H1, p ∈ s.H) ∧ ∀ t, T1 t → s.T t) → Sim ⟨w, g, mutOf g H0 T0, T0⟩ fn.ntmps (.out none) Gm Gl γ c s g' a' w' →
      LeavesInM Fence.wide 0 P fn a'.tmps (fun e w' => ∃ v g' H1 T1, R H1 T1 ∧ e = .returned v ∧ Raw H0 T0 .und H1 T1 Gm g w v g' w') a'.defers .returning w' := by
    rintro s g' γ c ⟨H1, T1, hR, u1, u2⟩ hs
    obtain ⟨Mk, m1, m2, m3⟩ := hs.ws
    refine leaves_marks (H := s.H) (T := s.T) (g := g') (fun ds w'' hE hw => ?_) m1 m2 m3
    obtain rfl : ds = [] := hE
    obtain ⟨cv, r1, r2⟩ := results_run (N := fn.ntmps) hs.frame hw hres (rs := []) rfl
    exact ⟨cv, r1, cv, g', H1, T1, hR, rfl, ⟨hw.weaken u1 u2, trivial, hs.low.2⟩⟩
  cases e with
  | normal => obtain ⟨γ, c', s, g', ⟨_, h1⟩, h2⟩ := he; exact fin s g' γ c' h1 h2
  | ret => obtain ⟨γ, c', s, g', ⟨_, h1⟩, h2⟩ := he; exact fin s g' γ c' h1 h2
  | exit id => obtain ⟨γ, c', s, g', ⟨h0, _⟩, h2⟩ := he; exact h0.elim
  | goto l => exact he.elim
  | panic c => exact he.elim
  | outgrown => exact he.elim

def IrOf (P : Program) (k : FuncId) (n : Nat) (ic : ICode) (rs : List IRes) : Prop :=
  ∃ fn, P.funcs[k]? = some fn ∧ fn.ntmps = n ∧ (fn.name == "runtime.NumGoroutine") = false ∧ fn.body.bind (compC P n) = some ic.strip ∧ compRes P fn.results.toList = some rs

theorem FSR.of (hm : P.follows .mixedOrders = true) (hst : Stays Gl) {k : FuncId} {n : Nat} {ic : ICode} {rs : List IRes} (hi : IrOf P k n ic rs)
    {args : List AV} {H0 : Hp} {T0 : List Nm} {R : AV → Hp → List Nm → Prop} (hn : args.length ≤ n)
    (h : ∀ γ, 1 ≤ γ → freshFor γ ⟨initF args, H0, (· ∈ T0)⟩ → aw P Gl ic γ 0 ⟨initF args, H0, (· ∈ T0)⟩ fun ex _ _ s => (match ex with | .normal | .ret => True | _ => False) ∧ ∃ r H1 T1, R r H1 T1 ∧ Ret rs H0 T0 r H1 T1 γ s) :
    FSR P Gl k args H0 T0 R := by
  obtain ⟨fn, h1, h2, h3, h4, h5⟩ := hi
  obtain ⟨c, hc, h4⟩ := Option.bind_eq_some_iff.1 h4
  subst h2
  exact FSR_of_aw hm hst h1 hc h3 h4 h5 hn h
theorem FS.ofF (hm : P.follows .mixedOrders = true) (hst : Stays Gl) {k : FuncId} {n : Nat} {ic : ICode} {rs : List IRes} (hi : IrOf P k n ic rs)
    {args : List AV} {H0 : Hp} {T0 : List Nm} {r : AV} {H1 : Hp} {T1 : List Nm} (hn : args.length ≤ n)
    (h : ∀ γ, 1 ≤ γ → freshFor γ ⟨initF args, H0, (· ∈ T0)⟩ → aw P Gl ic γ 0 ⟨initF args, H0, (· ∈ T0)⟩ fun ex _ _ s => (match ex with | .normal | .ret => True | _ => False) ∧ (Ret rs H0 T0 r H1 T1 γ s ∨ (∃ sz rows, r = .sl none sz rows ∧ H1 = [] ∧ T1 = [] ∧ Frz rs sz rows γ s) ∨ H1 = [] ∧ T1 = [] ∧ RetW rs H0 T0 r s)) :
    FS P Gl k args H0 T0 r H1 T1 := by
  obtain ⟨fn, h1, h2, h3, h4, h5⟩ := hi
  obtain ⟨c, hc, h4⟩ := Option.bind_eq_some_iff.1 h4
  subst h2
  exact FSRF_of_aw hm hst h1 hc h3 h4 h5 hn fun γ a b => aw_mono (h γ a b) fun ex γ c s hh => ⟨hh.1, hh.2.imp (fun x => ⟨r, H1, T1, ⟨rfl, rfl, rfl⟩, x⟩) (fun y => y.imp (fun ⟨sz, rows, x1, x2, x3, x4⟩ => ⟨sz, rows, ⟨x1.symm, x2.symm, x3.symm⟩, x4⟩) (fun ⟨x2, x3, x4⟩ => ⟨r, ⟨rfl, x2.symm, x3.symm⟩, x4⟩))⟩
theorem FSX.of (hm : P.follows .mixedOrders = true) (hst : Stays Gl) {k : FuncId} {n : Nat} {ic : ICode} (hi : IrOf P k n ic [])
    {args : List AV} {H0 : Hp} {T0 : Tk} {R : Hp → Tk → Prop} (hn : args.length ≤ n)
    (h : ∀ γ, 1 ≤ γ → freshFor γ ⟨initF args, H0, T0⟩ → aw P Gl ic γ 0 ⟨initF args, H0, T0⟩ fun ex _ _ s => (match ex with | .normal | .ret => True | _ => False) ∧ ∃ H1 T1, R H1 T1 ∧ (∀ p ∈ H1, p ∈ s.H) ∧ ∀ t, T1 t → s.T t) :
    FSX P Gl k args H0 T0 R := by
  obtain ⟨fn, h1, h2, h3, h4, h5⟩ := hi
  obtain ⟨c, hc, h4⟩ := Option.bind_eq_some_iff.1 h4
  subst h2
  exact FSX_of_aw hm hst h1 hc h3 h4 h5 hn h
theorem FS.of (hm : P.follows .mixedOrders = true) (hst : Stays Gl) {k : FuncId} {n : Nat} {ic : ICode} {rs : List IRes} (hi : IrOf P k n ic rs)
    {args : List AV} {H0 : Hp} {T0 : List Nm} {r : AV} {H1 : Hp} {T1 : List Nm} (hn : args.length ≤ n)
    (h : ∀ γ, 1 ≤ γ → freshFor γ ⟨initF args, H0, (· ∈ T0)⟩ → aw P Gl ic γ 0 ⟨initF args, H0, (· ∈ T0)⟩ fun ex _ _ s => (match ex with | .normal | .ret => True | _ => False) ∧ Ret rs H0 T0 r H1 T1 γ s) :
    FS P Gl k args H0 T0 r H1 T1 :=
  FSR.of hm hst hi hn fun γ a b => aw_mono (h γ a b) fun ex γ c s hh => ⟨hh.1, r, H1, T1, ⟨rfl, rfl, rfl⟩, hh.2⟩
theorem FSR.ofK (hm : P.follows .mixedOrders = true) (hst : Stays Gl) {k : FuncId} {n : Nat} {ic : ICode} {rs : List IRes} (hi : IrOf P k n ic rs)
    {args : List AV} {H0 : Hp} {T0 : List Nm} {R : AV → Hp → List Nm → Prop} (hn : args.length ≤ n)
    (h : ∀ γ, 1 ≤ γ → freshFor γ ⟨initF args, H0, (· ∈ T0)⟩ → aw P Gl ic γ 0 ⟨initF args, H0, (· ∈ T0)⟩ fun ex γ' c' s₀ => (match ex with | .normal | .ret => True | _ => False) ∧ ∃ n s, Wk γ' c' n s₀ s ∧ ∃ r H1 T1, R r H1 T1 ∧ Ret rs H0 T0 r H1 T1 γ s) :
    FSR P Gl k args H0 T0 R := by
  obtain ⟨fn, h1, h2, h3, h4, h5⟩ := hi
  obtain ⟨c, hc, h4⟩ := Option.bind_eq_some_iff.1 h4
  subst h2
  exact FSRK_of_aw hm hst h1 hc h3 h4 h5 hn fun γ a b => aw_mono (h γ a b) fun ex γ c s hh => ⟨hh.1, hh.2.imp fun n hh => hh.imp fun s hh => ⟨hh.1, .inl hh.2⟩⟩
theorem FS.ofK (hm : P.follows .mixedOrders = true) (hst : Stays Gl) {k : FuncId} {n : Nat} {ic : ICode} {rs : List IRes} (hi : IrOf P k n ic rs)
    {args : List AV} {H0 : Hp} {T0 : List Nm} {r : AV} {H1 : Hp} {T1 : List Nm} (hn : args.length ≤ n)
    (h : ∀ γ, 1 ≤ γ → freshFor γ ⟨initF args, H0, (· ∈ T0)⟩ → aw P Gl ic γ 0 ⟨initF args, H0, (· ∈ T0)⟩ fun ex γ' c' s₀ => (match ex with | .normal | .ret => True | _ => False) ∧ ∃ n s, Wk γ' c' n s₀ s ∧ Ret rs H0 T0 r H1 T1 γ s) :
    FS P Gl k args H0 T0 r H1 T1 :=
  FSR.ofK hm hst hi hn fun γ a b => aw_mono (h γ a b) fun ex γ c s hh => ⟨hh.1, hh.2.imp fun n hh => hh.imp fun s hh => ⟨hh.1, r, H1, T1, ⟨rfl, rfl, rfl⟩, hh.2⟩⟩

/-! ### Functions that are deferred; functions that defer one -/
def FSD (P : Program) (Gl : Gh → Prop) (k : FuncId) (args : List AV) (H0 : Hp) (T0 : Tk) (R : Hp → Tk → Prop) : Prop :=
  enters P k ∧ ∀ (g : Gh) (w : World) (vs : List Value) (Gm : Nat), HInv g w → Gl g → HOK g H0 w → TOK g T0 → RepL g args vs →
    CallsDIn Fence.wide 0 P k vs.toArray .returning w fun e u w' => u = .returning ∧ ∃ v g' H1 T1, R H1 T1 ∧ e = .returned v ∧ Raw H0 T0 .und H1 T1 Gm g w v g' w'
theorem FSD.of (hm : P.follows .mixedOrders = true) (hst : Stays Gl) {k : FuncId} {n : Nat} {ic : ICode} (hi : IrOf P k n ic []) (hnr : ic.noR = true)
    {args : List AV} {H0 : Hp} {T0 : Tk} {R : Hp → Tk → Prop} (hn : args.length ≤ n)
    (h : ∀ γ, 1 ≤ γ → freshFor γ ⟨initF args, H0, T0⟩ → aw P Gl ic γ 0 ⟨initF args, H0, T0⟩ fun ex _ _ s => (match ex with | .normal | .ret => True | _ => False) ∧ ∃ H1 T1, R H1 T1 ∧ (∀ p ∈ H1, p ∈ s.H) ∧ ∀ t, T1 t → s.T t) :
    FSD P Gl k args H0 T0 R := by
  have hen : enters P k := by
    obtain ⟨fn, h1, h2, h3, h4, h5⟩ := hi
    obtain ⟨c, hc, _⟩ := Option.bind_eq_some_iff.1 h4
    exact ⟨fn, h1, by rw [hc]; rfl, h3⟩
  obtain ⟨fn, hf, h2, hnm, h4, hres⟩ := hi
  obtain ⟨c, hb, hc⟩ := Option.bind_eq_some_iff.1 h4
  subst h2
  refine ⟨hen, fun g w vs Gm hinv hgl hH0 hT0 hargs => ?_⟩
  obtain ⟨G0, hG0, hG2'⟩ := hinv.top
  obtain ⟨G, hGd⟩ : ∃ G, G = max G0 Gm := ⟨_, rfl⟩
  have hG1 : 1 ≤ G := by omega
  have hG2 : ∀ n : Nm, G ≤ n.1 → g.free n := fun n hn => hG2' n (by omega)
  have hlen := RepL.length hargs
  have hB : WS ⟨w, g, mutOf g H0 T0, T0⟩ H0 T0 g w :=
    ⟨hinv, hH0, hT0, ⟨rfl, rfl, rfl, Nat.le_refl _, fun _ _ _ => rfl, fun _ _ _ _ => rfl, fun _ _ h _ => h, fun _ _ _ => rfl⟩, fun p hp b e => .inl (.inl ⟨p, hp, e⟩), fun t ht b e sz n cap ho => .inl (.inr ⟨t, ht, e, sz, n, cap, ho⟩), fun t ht => .inl ht, .refl g⟩
  have hfresh : freshFor G ⟨initF args, H0, T0⟩ := ⟨fun p hp e => (by
      obtain ⟨b, hm, _⟩ := hH0 p hp
      rw [(hG2 p.1 (by omega)).1] at hm; cases hm), fun t ht e => (hT0 t ht).2 (hG2 t (by omega)).2⟩
  have hF : FOK g (initF args) { tmps := vs.toArray ++ Array.replicate (fn.ntmps - vs.toArray.size) undef, defers := [] } := by
    intro t
    unfold initF
    by_cases ht : t < args.length
    · obtain ⟨v, h1, h2⟩ := RepL.get hargs t _ (List.getElem?_eq_getElem ht)
      have : (vs.toArray ++ Array.replicate (fn.ntmps - vs.toArray.size) undef).getD t undef = v := by
        rw [Array.getD_eq_getD_getElem?, Array.getElem?_append_left (by simp; omega)]
        simp [h1]
      rw [this]
      simpa [List.getElem?_eq_getElem ht] using h2
    · simp [List.getElem?_eq_none (Nat.le_of_not_lt ht)]
      trivial
  refine callsDIn_of_wp (R := fun e w' => ∃ v g' H1 T1, R H1 T1 ∧ e = .returned v ∧ Raw H0 T0 .und H1 T1 Gm g w v g' w') hf hb trivial ?_
  have := aw_sound (N := fn.ntmps) hm c ic hc Gl hst ⟨w, g, mutOf g H0 T0, T0⟩ .bare Gm _ G 0 _ g _ w (fun _ => hnr) (h G hG1 hfresh) ⟨hF, by simp [hlen]; omega, ⟨[], ⟨rfl, rfl⟩, hB, fun p hp => by cases hp⟩, fun i j _ => hG2 _ (Nat.le_refl _), hG1, hgl, by omega, fun n h1 _ => h1⟩
  refine wpIn_mono (F := Fr none) this fun e a' w' he => ?_
  have fin : ∀ s g' γ c, (∃ H1 T1, R H1 T1 ∧ (∀ p ∈ H1, p ∈ s.H) ∧ ∀ t, T1 t → s.T t) → Sim ⟨w, g, mutOf g H0 T0, T0⟩ fn.ntmps .bare Gm Gl γ c s g' a' w' →
      a'.defers = [] ∧ ∃ v, (results fn a'.tmps).run P w' = .ok v w' ∧ ∃ v' g' H1 T1, R H1 T1 ∧ Ending.returned v = .returned v' ∧ Raw H0 T0 .und H1 T1 Gm g w v' g' w' := by
    rintro s g' γ c ⟨H1, T1, hR, u1, u2⟩ hs
    obtain ⟨Mk, ⟨m1, m1'⟩, m2, m3⟩ := hs.ws
    subst m1'
    obtain ⟨cv, r1, r2⟩ := results_run (N := fn.ntmps) hs.frame m2 hres (rs := []) rfl
    exact ⟨m1, cv, r1, cv, g', H1, T1, hR, rfl, ⟨m2.weaken u1 u2, trivial, hs.low.2⟩⟩
  cases e with
  | normal => obtain ⟨γ, c', s, g', ⟨_, h1⟩, h2⟩ := he; exact fin s g' γ c' h1 h2
  | ret => obtain ⟨γ, c', s, g', ⟨_, h1⟩, h2⟩ := he; exact fin s g' γ c' h1 h2
  | exit id => obtain ⟨γ, c', s, g', ⟨h0, _⟩, h2⟩ := he; exact h0.elim
  | goto l => exact he.elim
  | panic c => exact he.elim
  | outgrown => exact he.elim

structure IDef where
  ahead : ICode
  pre : List IOper
  k : FuncId
  xs : List X
  rest : ICode
def IDef.strip (d : IDef) : IDef := { d with ahead := d.ahead.strip, rest := d.rest.strip }
def compD (P : Program) (N : Nat) : Code → Option IDef
  | .seq c0 (.seq (.region _ ops false) c1) => match ops.toList.getLast? with
    | some o => match o.op, o.guard, o.dst with
      | .defer c, none, none => match c.callee, compXs c.args.toList, compC P N c0, compOpers P N ops ops.toList.dropLast, compC P N c1 with
        | .value (.func k), some xs, some i0, some pre, some i1 => some ⟨i0, pre, k, xs, i1⟩
        | _, _, _, _, _ => none
      | _, _, _ => none
    | none => none
  | _ => none
def IrOfD (P : Program) (k : FuncId) (n : Nat) (d : IDef) (rs : List IRes) : Prop :=
  ∃ fn, P.funcs[k]? = some fn ∧ fn.ntmps = n ∧ (fn.name == "runtime.NumGoroutine") = false ∧ fn.body.bind (compD P n) = some d.strip ∧ compRes P fn.results.toList = some rs
def CallD (P : Program) (Gl : Gh → Prop) (k : FuncId) (args : List AV) (s : St) (K : St → Prop) : Prop :=
  ∃ (Hd : Hp) (Td : Tk) (R : Hp → Tk → Prop), FSD P Gl k args Hd Td R ∧ (∀ p ∈ Hd, p ∈ s.H) ∧ (∀ t, Td t → s.T t) ∧
    ∀ H1 T1, R H1 T1 → ∃ H' T', (∀ p ∈ H', p ∈ H1 ++ s.H.filter fun p => Hd.all fun q => q.1 ≠ p.1) ∧ (∀ t, T' t → T1 t ∨ (s.T t ∧ ¬ Td t)) ∧ K ⟨s.F, H', T'⟩
end
end Go.Ab

