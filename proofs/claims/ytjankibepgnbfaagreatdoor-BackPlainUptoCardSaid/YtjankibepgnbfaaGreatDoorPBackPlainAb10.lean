/- Code on abstract values; a function's contract out of its code. -/
import Derived.Test.YtjankibepgnbfaaGreatDoorPBackPlainAb9x
import Derived.RangeFuncLeaves
set_option linter.unusedVariables false
set_option linter.unusedSimpArgs false
namespace Go.Ab

def nmOK (m : Nat) (L : List Nm) (n : Nm) : Prop := if n.1 = 0 ∧ n.2.1 = 0 then n.2.2 < m else n ∈ L
mutual
def AV.okIn (m : Nat) (L T : List Nm) : AV → Prop
  | .ptr id _ => nmOK m L id
  | .sl (some t) _ _ => nmOK m T t
  | .mp id => nmOK m L id
  | .yl id => nmOK m L id
  | .ms id _ _ => nmOK m L id
  | .fn _ a b => AV.okInL m L T a ∧ AV.okInL m L T b
  | .agg cs => AV.okInL m L T cs
  | .tup cs => AV.okInL m L T cs
  | _ => True
def AV.okInL (m : Nat) (L T : List Nm) : List AV → Prop
  | [] => True
  | x :: xs => AV.okIn m L T x ∧ AV.okInL m L T xs
end
def HB.okIn (m : Nat) (L T : List Nm) : HB → Prop
  | .cells cs => AV.okInL m L T cs
  | .mapp es => ∀ p ∈ es, AV.okIn m L T p.1 ∧ AV.okIn m L T p.2
  | .obj _ => True

/-! ### Code -/
inductive ICode where
  | skip
  | reg (ops : List IOper) (keep : Option (List Nat))
  | drw (pre : List PreOp) (tail : List IOper) (keep : Option (List Nat))
  /-- The same; the operation behind so many changes its part of the heap. -/
  | drwm (m : List Unit) (pre : List PreOp) (tail : List IOper) (keep : Option (List Nat))
  | rgf (x : X) (ps : List Nat) (as bd : ICode)
  | seq (a b : ICode)
  | cond (x : X) (a b : ICode)
  | blk (id : Nat) (c : ICode)
  | loop (c : ICode)
  | exit (id : Nat)
  | ret

def ICode.strip : ICode → ICode
  | .reg ops _ => .reg ops none
  | .drw pre tail _ => .drw pre tail none
  | .drwm _ pre tail _ => .drw pre tail none
  | .rgf x ps as bd => .rgf x ps as.strip bd.strip
  | .seq a b => .seq a.strip b.strip
  | .cond x a b => .cond x a.strip b.strip
  | .blk id c => .blk id c.strip
  | .loop c => .loop c.strip
  | .skip => .skip
  | .exit id => .exit id
  | .ret => .ret

def lf : List (Nat × AV) → Nat → AV
  | [], _ => .und
  | p :: l, t => if t = p.1 then p.2 else lf l t
def keepL : List Nat → (Nat → AV) → List (Nat × AV)
  | [], _ => []
  | k :: l, F => (k, F k) :: keepL l F
def St.keep : Option (List Nat) → St → St
  | none, s => s
  | some l, s => ⟨lf (keepL l s.F), s.H, s.T⟩
theorem lf_keep (F : Nat → AV) (t : Nat) : ∀ l : List Nat, lf (keepL l F) t = F t ∨ lf (keepL l F) t = .und
  | [] => .inr rfl
  | k :: l => by
    simp only [keepL, lf]
    split
    · rename_i h; subst h; exact .inl rfl
    · exact lf_keep F t l

inductive Ex where
  | normal | exit (id : Nat) | ret

def RepLe (x y : AV) : Prop := ∀ g v, Rep g x v → Rep g y v
def AVle (L : List Nm) (x y : AV) : Prop := y = x ∨ y = .und ∨ (x = .nils ∧ ∃ t sz, (t = none ∨ ∃ t' ∈ L, t = some t') ∧ y = .sl t sz []) ∨ RepLe x y
def HBle (L : List Nm) : HB → HB → Prop
  | .cells xs, .cells ys => xs.length = ys.length ∧ ∀ (i : Nat) (x y : AV), xs[i]? = some x → ys[i]? = some y → AVle L x y
  | x, y => x = y
structure Wk (γ c n : Nat) (s s' : St) : Prop where
  F : ∀ t, AVle ((List.range n).map fun j => (γ, c, j)) (s.F t) (s'.F t)
  H : ∀ p ∈ s'.H, ∃ q ∈ s.H, q.1 = p.1 ∧ HBle ((List.range n).map fun j => (γ, c, j)) q.2 p.2
  T : ∀ t, s'.T t → s.T t ∨ t ∈ (List.range n).map fun j => (γ, c, j)

def freshFor (γ : Nat) (s : St) : Prop := (∀ p ∈ s.H, p.1.1 ≠ γ) ∧ ∀ t, s.T t → t.1 ≠ γ

def LoopP (f : Nat → Nat → St → (Ex → Nat → Nat → St → Prop) → Prop) (γ c : Nat) (s : St) (Q : Ex → Nat → Nat → St → Prop) : Prop :=
  ∃ (I : St → Prop) (μ : St → Nat), (∃ n s', Wk γ c n s s' ∧ I s') ∧
    ∀ γ' s', γ ≤ γ' ∧ freshFor γ' s' → I s' → f γ' 0 s' fun ex γ₁ c₁ s₁ => match ex with
      | .normal => ∃ n s₂, Wk γ₁ c₁ n s₁ s₂ ∧ I s₂ ∧ μ s₂ < μ s'
      | ex => Q ex γ₁ c₁ s₁

def IterS (P : Program) (Gl : Gh → Prop) (k : FuncId) (caps : List AV) (Hc : Hp) (items : List (List AV)) : Prop :=
  ∀ (Gl' : Gh → Prop), Stays Gl' → (∀ g, Gl' g → Gl g) → ∀ (id : Nm) (J : Nat → Hp → Tk → Prop) (Jx : Hp → Tk → Prop), (∀ i H T, J i H T → ∀ p ∈ Hc, ∀ q ∈ H, q.1 ≠ p.1) →
    (∀ (i : Nat) (x : List AV) (H : Hp) (T : Tk), items[i]? = some x → J i H T → YS P Gl' id x H T fun r H' T' => (r = .bool true ∧ J (i + 1) H' T') ∨ (r = .bool false ∧ Jx H' T')) →
    ∀ H T, J 0 H T → FSX P Gl' k (.yl id :: caps) (Hc ++ H) T fun H' T' => J items.length H' T' ∨ Jx H' T'

def ICode.noR : ICode → Bool
  | .rgf .. => false
  | .seq a b | .cond _ a b => a.noR && b.noR
  | .blk _ c | .loop c => c.noR
  | _ => true

def putPs (F : Nat → AV) (ps : List Nat) (xs : List AV) : Nat → AV := (ps.zip xs).foldl (fun F q => upd F q.1 q.2) F

def aw (P : Program) (Gl : Gh → Prop) : ICode → Nat → Nat → St → (Ex → Nat → Nat → St → Prop) → Prop
  | .skip, γ, c, s, Q => Q .normal γ c s
  | .reg ops k, γ, c, s, Q => awOps P Gl γ c ops s fun s' => Q .normal γ (c + ops.length) (s'.keep k)
  | .drw pre tail k, γ, c, s, Q => awDrw P Gl γ c pre tail s fun s' => Q .normal γ (c + (pre.length + tail.length)) (s'.keep k)
  | .drwm m pre tail k, γ, c, s, Q => (awDrwM P Gl γ c m pre tail s fun s' => Q .normal γ (c + (pre.length + tail.length)) (s'.keep k)) ∨ awDrwX P Gl γ c m pre tail s fun s' => Q .normal γ (c + (pre.length + tail.length)) (s'.keep k)
  | .rgf x ps as bd, γ, c, s, Q => match x.ev s.F with
    | .fn (.func k) [] caps => ∃ (items : List (List AV)) (J : Nat → Hp → Tk → Prop) (Jx : Ex → Hp → Tk → Prop) (Hc H0 : Hp) (T0 : Tk),
        IterS P Gl k caps Hc items ∧ (∀ p ∈ Hc, p ∈ s.H) ∧ (∀ p ∈ H0, ∀ q ∈ Hc, p.1 ≠ q.1) ∧
        (∀ p ∈ H0, p ∈ s.H) ∧ (∀ t, T0 t → s.T t) ∧ J 0 H0 T0 ∧ (∀ x ∈ items, x.length = ps.length) ∧
        (∀ (Gl' : Gh → Prop), Stays Gl' → (∀ g, Gl' g → Gl g) → ∀ (i : Nat) (x : List AV) (H : Hp) (T : Tk) (γ' : Nat), items[i]? = some x → J i H T → γ < γ' → freshFor γ' ⟨s.F, H, T⟩ →
          aw P Gl' as γ' 0 ⟨putPs s.F ps x, H, T⟩ fun ex γ₁ c₁ s₁ => match ex with
            | .normal => aw P Gl' bd γ₁ c₁ s₁ fun ex _ _ s₂ => match ex with
              | .normal => J (i + 1) s₂.H s₂.T
              | ex => Jx ex s₂.H s₂.T
            | _ => False) ∧
        (∀ H1 T1, J items.length H1 T1 → ∃ H' T', (∀ p ∈ H', p ∈ H1 ++ s.H.filter fun p => (Hc ++ H0).all fun q => q.1 ≠ p.1) ∧ (∀ t, T' t → T1 t ∨ (s.T t ∧ ¬ T0 t)) ∧ Q .normal γ (c + 1) ⟨s.F, H', T'⟩) ∧
        (∀ ex H1 T1, Jx ex H1 T1 → ∃ H' T', (∀ p ∈ H', p ∈ H1 ++ s.H.filter fun p => (Hc ++ H0).all fun q => q.1 ≠ p.1) ∧ (∀ t, T' t → T1 t ∨ (s.T t ∧ ¬ T0 t)) ∧ Q ex γ (c + 1) ⟨s.F, H', T'⟩)
    | _ => False
  | .seq a b, γ, c, s, Q => aw P Gl a γ c s fun ex γ' c' s' => match ex with
    | .normal => aw P Gl b γ' c' s' Q
    | ex => Q ex γ' c' s'
  | .cond x a b, γ, c, s, Q => match x.ev s.F with
    | .bool t => (t = true → aw P Gl a γ c s Q) ∧ (t = false → aw P Gl b γ c s Q)
    | _ => False
  | .blk id k, γ, c, s, Q => aw P Gl k γ c s fun ex γ' c' s' => match ex with
    | .exit id' => if id' = id then Q .normal γ' c' s' else Q (.exit id') γ' c' s'
    | ex => Q ex γ' c' s'
  | .loop k, γ, c, s, Q => LoopP (aw P Gl k) γ c s Q
  | .exit id, γ, c, s, Q => Q (.exit id) γ c s
  | .ret, γ, c, s, Q => Q .ret γ c s

def compC (P : Program) (N : Nat) : Code → Option ICode
  | .skip => some .skip
  | .region _ ops false => (compOpers P N ops ops.toList).map fun x => .reg x none
  | .region _ ops true => (compDrw P N ops).map fun q => .drw q.1 q.2 none
  | .rangeFunc g ps a b => match compX g, compC P N a, compC P N b with
    | some x, some a, some b => if ps.toList.all (· < N) then some (.rgf x ps.toList a b) else none
    | _, _, _ => none
  | .seq a b => match compC P N a, compC P N b with
    | some a, some b => some (.seq a b)
    | _, _ => none
  | .cond c a b => match compX c, compC P N a, compC P N b with
    | some x, some a, some b => some (.cond x a b)
    | _, _, _ => none
  | .block id c => (compC P N c).map (.blk id)
  | .loop c => (compC P N c).map .loop
  | .exit id => some (.exit id)
  | .ret => some .ret
  | _ => none

def postOf (B : Base) (N : Nat) (R0 : RL) (lo : Nat) (Gl : Gh → Prop) (Q : Ex → Nat → Nat → St → Prop) : Exit → Act → World → Prop
  | .normal, a, w => ∃ γ c s g, Q .normal γ c s ∧ Sim B N R0 lo Gl γ c s g a w
  | .exit id, a, w => ∃ γ c s g, Q (.exit id) γ c s ∧ Sim B N R0 lo Gl γ c s g a w
  | .ret, a, w => ∃ γ c s g, Q .ret γ c s ∧ Sim B N R0 lo Gl γ c s g a w
  | _, _, _ => False

section
variable {P : Program} {Gl : Gh → Prop} {B : Base} {N : Nat} {R0 : RL} {lo : Nat}

theorem addNils {H : Hp} {T : Tk} {w : World} {γ c : Nat} : ∀ (n : Nat) {g : Gh}, WS B H T g w → (∀ i j, c ≤ i → g.free (γ, i, j)) →
    ∃ g', g.le g' ∧ WS B H (fun t => T t ∨ t ∈ (List.range n).map fun j => (γ, c, j)) g' w ∧ (∀ t ∈ (List.range n).map fun j => ((γ, c, j) : Nm), g'.own t = .nil) ∧ ∀ m, g.free m → (∀ j, j < n → m ≠ (γ, c, j)) → g'.free m
  | 0, g, hW, hf => ⟨g, .refl g, hW.weaken (fun _ h => h) (fun t ht => by rcases ht with h | h; exact h; simp at h), by simp, fun m hm _ => hm⟩
  | n + 1, g, hW, hf => by
    obtain ⟨g', k1, k2, k3, k4⟩ := addNils n hW hf
    have hfn : g'.free (γ, c, n) := k4 _ (hf _ _ (Nat.le_refl _)) (fun j hj e => by simp only [Prod.mk.injEq] at e; omega)
    obtain ⟨l1, l2⟩ := k2.addNil hfn
    refine ⟨_, k1.trans l1, l2.weaken (fun _ h => h) (fun t ht => ?_), fun t ht => ?_, fun m hm hj => addNil_free (hj n (by omega)) (k4 m hm (fun j hj' => hj j (by omega)))⟩
    · rcases ht with h | h
      · exact .inr (.inl h)
      · rw [List.range_succ, List.map_append] at h
        rcases List.mem_append.1 h with h | h
        · exact .inr (.inr h)
        · simp at h; exact .inl h
    · simp only [Gh.addNil]
      split
      · rfl
      · rename_i hne
        rw [List.range_succ, List.map_append] at ht
        rcases List.mem_append.1 ht with h | h
        · exact k3 t h
        · simp at h; exact absurd h hne

theorem AVle.rep {g g' : Gh} (hg : g.le g') {L : List Nm} (hL : ∀ t ∈ L, g'.own t = .nil) {x y : AV} (h : AVle L x y) {v : Value} (k : Rep g x v) : Rep g' y v := by
  rcases h with rfl | rfl | ⟨rfl, t, sz, ht, rfl⟩ | h
  · exact Rep.mono hg _ _ k
  · trivial
  · have k : v = .slice none 0 0 := k
    subst k
    refine ⟨none, 0, rfl, .inl ⟨.inl rfl, rfl, rfl⟩, fun t' e => ?_⟩
    rcases ht with rfl | ⟨t'', h1, rfl⟩
    · cases e
    · cases e; rw [hL _ h1]; rfl
  · exact h _ _ (Rep.mono hg _ _ k)

theorem AVle.repL {g g' : Gh} (hg : g.le g') {L : List Nm} (hL : ∀ t ∈ L, g'.own t = .nil) : ∀ {xs ys : List AV} {vs : List Value}, xs.length = ys.length → (∀ (i : Nat) (x y : AV), xs[i]? = some x → ys[i]? = some y → AVle L x y) → RepL g xs vs → RepL g' ys vs
  | [], [], _, _, _, h => by cases h; exact rfl
  | x :: xs, y :: ys, _, hl, h, ⟨v, rest, e, k1, k2⟩ => ⟨v, rest, e, (h 0 x y rfl rfl).rep hg hL k1, AVle.repL hg hL (by simpa using hl) (fun i a b h1 h2 => h (i + 1) a b (by simpa using h1) (by simpa using h2)) k2⟩
  | [], y :: ys, _, hl, _, _ => by simp at hl
  | x :: xs, [], _, hl, _, _ => by simp at hl

theorem Sim.wk (hst : Stays Gl) {γ c n : Nat} {s s' : St} {g : Gh} {a : Act} {w : World} (h : Sim B N R0 lo Gl γ c s g a w) (k : Wk γ c n s s') : ∃ g', FOK g' s'.F a ∧ WSD R0 B s'.H s'.T g' a.defers w ∧ Gl g' ∧ ∀ m, B.g0.free m → m.1 < lo → g'.free m := by
  obtain ⟨Mk, m1, m2, m3⟩ := h.ws
  obtain ⟨g', k1, k2, k3, k4⟩ := addNils n m2 h.new
  refine ⟨g', fun t => (k.F t).rep k1 k3 (h.frame t), ⟨Mk, m1.mono k1, ?_, fun p hp q hq => ?_⟩, hst _ _ h.gl k1, fun m h1 h2 => k4 m (h.low.2 m h1 h2) (fun j _ e => by have := h.low.1; rw [e] at h2; simp only at h2; omega)⟩
  · refine ⟨k2.inv, fun p hp => ?_, fun t ht => k2.toks t (k.T t ht), k2.keeps, fun p hp b e => ?_, fun t ht => k2.tM t (k.T t ht), fun t ht => k2.tK t (k.T t ht), k2.le⟩
    · rcases List.mem_append.1 hp with hp | hp
      · exact k2.heap p (List.mem_append.2 (.inl hp))
      · obtain ⟨q, hq, e, hle⟩ := k.H p hp
        obtain ⟨b, hm, hb⟩ := m2.heap q (List.mem_append.2 (.inr hq))
        refine ⟨b, by rw [← e]; exact k1.mu _ _ hm, ?_⟩
        cases hq2 : q.2 with
        | cells xs =>
          rw [hq2] at hb hle
          cases hp2 : p.2 with
          | cells ys =>
            rw [hp2] at hle
            obtain ⟨vs, ty, h1, h2⟩ := hb
            exact ⟨vs, ty, h1, AVle.repL k1 k3 hle.1 hle.2 h2⟩
          | mapp es => rw [hp2] at hle; simp [HBle] at hle
          | obj o => rw [hp2] at hle; simp [HBle] at hle
        | mapp es =>
          rw [hq2] at hb hle
          cases hp2 : p.2 with
          | cells ys => rw [hp2] at hle; simp [HBle] at hle
          | obj o => rw [hp2] at hle; simp [HBle] at hle
          | mapp es' =>
            rw [hp2] at hle
            simp only [HBle, HB.mapp.injEq] at hle
            subst hle
            exact hb.mono k1
        | obj o =>
          rw [hq2] at hb hle
          cases hp2 : p.2 with
          | cells ys => rw [hp2] at hle; simp [HBle] at hle
          | mapp es' => rw [hp2] at hle; simp [HBle] at hle
          | obj o' =>
            rw [hp2] at hle
            simp only [HBle, HB.obj.injEq] at hle
            subst hle
            exact hb.mono k1
    · rcases List.mem_append.1 hp with hp | hp
      · exact k2.hM p (List.mem_append.2 (.inl hp)) b e
      · obtain ⟨q, hq, e', _⟩ := k.H p hp
        exact k2.hM q (List.mem_append.2 (.inr hq)) b (by rw [e']; exact e)
  · obtain ⟨q', hq', e, _⟩ := k.H q hq
    rw [← e]
    exact m3 p hp q' hq'

theorem Sim.keep {γ c : Nat} {s : St} {g : Gh} {a : Act} {w : World} (h : Sim B N R0 lo Gl γ c s g a w) (k : Option (List Nat)) : Sim B N R0 lo Gl γ c (s.keep k) g a w := by
  cases k with
  | none => exact h
  | some l =>
    refine ⟨fun t => ?_, h.size, h.ws, h.new, h.gam, h.gl, h.low⟩
    show Rep g (lf _ t) _
    rcases lf_keep s.F t l with e | e
    · rw [e]; exact h.frame t
    · rw [e]; trivial

theorem fresh_gen (lo : Nat) {g : Gh} {w : World} (h : HInv g w) (s : St) (hW : HOK g s.H w) (hT : TOK g s.T) : ∃ γ, 1 ≤ γ ∧ freshFor γ s ∧ (∀ i j, g.free (γ, i, j)) ∧ lo ≤ γ := by
  obtain ⟨G0, h0, h3⟩ := h.top
  obtain ⟨G, hG⟩ : ∃ G, G = max G0 lo := ⟨_, rfl⟩
  have h1 : 1 ≤ G := by omega
  have h2 : ∀ n : Nm, G ≤ n.1 → g.free n := fun n hn => h3 n (by omega)
  refine ⟨G, h1, ⟨fun p hp e => ?_, fun t ht e => ?_⟩, fun i j => h2 _ (Nat.le_refl _), by omega⟩
  · obtain ⟨b, hm, _⟩ := hW p hp
    have := (h2 p.1 (by omega)).1
    rw [this] at hm; cases hm
  · exact (hT t ht).2 (h2 t (by omega)).2

theorem exit_then {Q : Ex → Nat → Nat → St → Prop} {R : Act → World → Prop} {e : Exit} {a : Act} {w : World}
    {Q' : Ex → Nat → Nat → St → Prop} (h : postOf B N R0 lo Gl Q' e a w) (hn : ∀ γ c s g, Q' .normal γ c s → Sim B N R0 lo Gl γ c s g a w → R a w) (he : ∀ id γ c s, Q' (.exit id) γ c s → Q (.exit id) γ c s) (hr : ∀ γ c s, Q' .ret γ c s → Q .ret γ c s) :
    Exit.then R (postOf B N R0 lo Gl Q) e a w := by
  cases e with
  | normal => obtain ⟨γ, c, s, g, h1, h2⟩ := h; exact hn γ c s g h1 h2
  | exit id => obtain ⟨γ, c, s, g, h1, h2⟩ := h; exact ⟨γ, c, s, g, he _ _ _ _ h1, h2⟩
  | ret => obtain ⟨γ, c, s, g, h1, h2⟩ := h; exact ⟨γ, c, s, g, hr _ _ _ h1, h2⟩
  | goto l => exact h.elim
  | panic c => exact h.elim
  | outgrown => exact h.elim

theorem loop_sound (hst : Stays Gl) {k : Code} {f : Nat → Nat → St → (Ex → Nat → Nat → St → Prop) → Prop}
    (ih : ∀ (Q : Ex → Nat → Nat → St → Prop) (γ c : Nat) (s : St) (g : Gh) (a : Act) (w : World), f γ c s Q → Sim B N R0 lo Gl γ c s g a w → k.wpIn (Fr (R0.lp)) 0 P (postOf B N R0 lo Gl Q) a w)
    {Q : Ex → Nat → Nat → St → Prop} {I : St → Prop} {μ : St → Nat} {γ₀ : Nat} (hI : ∀ γ' s', γ₀ ≤ γ' ∧ freshFor γ' s' → I s' → f γ' 0 s' fun ex γ₁ c₁ s₁ => match ex with
      | .normal => ∃ n s₂, Wk γ₁ c₁ n s₁ s₂ ∧ I s₂ ∧ μ s₂ < μ s'
      | ex => Q ex γ₁ c₁ s₁) :
    ∀ (m : Nat) (s : St) (g : Gh) (a : Act) (w : World), μ s ≤ m → I s → FOK g s.F a → a.tmps.size = N → WSD R0 B s.H s.T g a.defers w → Gl g → (∀ m, B.g0.free m → m.1 < lo → g.free m) → Code.roundsIn (Fr (R0.lp)) 0 P k (postOf B N R0 lo Gl Q) (m + 1) a w := by
  intro m
  induction m with
  | zero =>
    intro s g a w hm hs h1 h2 h4 h5 h6
    obtain ⟨γ, g1, g2, g3, g4⟩ := fresh_gen (max lo γ₀) h4.inv s h4.heap h4.toks
    rw [roundsIn_succ]
    refine wpIn_mono (ih _ γ 0 s g a w (hI γ s ⟨by omega, g2⟩ hs) ⟨h1, h2, h4, fun i j _ => g3 i j, g1, h5, by omega, h6⟩) fun e a' w' h => ?_
    refine exit_then h (fun γ' c' s' g' hn hsim => ?_) (fun _ _ _ _ h => h) (fun _ _ _ h => h)
    obtain ⟨n, s₂, _, _, hlt⟩ := hn
    omega
  | succ m ihm =>
    intro s g a w hm hs h1 h2 h4 h5 h6
    obtain ⟨γ, g1, g2, g3, g4⟩ := fresh_gen (max lo γ₀) h4.inv s h4.heap h4.toks
    rw [roundsIn_succ]
    refine wpIn_mono (ih _ γ 0 s g a w (hI γ s ⟨by omega, g2⟩ hs) ⟨h1, h2, h4, fun i j _ => g3 i j, g1, h5, by omega, h6⟩) fun e a' w' h => ?_
    refine exit_then h (fun γ' c' s' g' hn hsim => ?_) (fun _ _ _ _ h => h) (fun _ _ _ h => h)
    obtain ⟨n, s₂, hwk, hI2, hlt⟩ := hn
    obtain ⟨g'', k1, k2, k3, k4⟩ := hsim.wk hst hwk
    exact ihm s₂ g'' a' w' (by omega) hI2 k1 hsim.size k2 k3 k4

end
end Go.Ab

