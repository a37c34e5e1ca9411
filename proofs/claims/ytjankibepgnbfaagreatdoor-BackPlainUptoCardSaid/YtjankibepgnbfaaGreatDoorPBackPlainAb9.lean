/- What a call does on abstract values; a region's operations in their order; code; a function out of its code. -/
import Derived.Test.YtjankibepgnbfaaGreatDoorPBackPlainAb8
import Derived.LoopNIn
set_option linter.unusedVariables false
set_option linter.unusedSimpArgs false
namespace Go.Ab

/-! ### Names that a call makes -/
def rnN (f : Nat → Nm) (n : Nm) : Nm := if n.1 = 0 ∧ n.2.1 = 0 then f n.2.2 else n
mutual
def rn (f : Nat → Nm) : AV → AV
  | .ptr id off => .ptr (rnN f id) off
  | .sl (some t) sz rows => .sl (some (rnN f t)) sz rows
  | .mp id => .mp (rnN f id)
  | .yl id => .yl (rnN f id)
  | .ms id sz n => .ms (rnN f id) sz n
  | .fn x a b => .fn x (rnL f a) (rnL f b)
  | .agg cs => .agg (rnL f cs)
  | .tup cs => .tup (rnL f cs)
  | x => x
def rnL (f : Nat → Nm) : List AV → List AV
  | [] => []
  | x :: xs => rn f x :: rnL f xs
end
def rnHB (f : Nat → Nm) : HB → HB
  | .cells cs => .cells (rnL f cs)
  | .mapp es => .mapp (es.map fun p => (rn f p.1, rn f p.2))
  | .obj o => .obj o
def rnH (f : Nat → Nm) (H : Hp) : Hp := H.map fun p => (rnN f p.1, rnHB f p.2)

def mutOf (g : Gh) (H : Hp) (T : Tk) (b : Nat) : Prop := (∃ p ∈ H, g.mu p.1 = some b) ∨ ∃ t, T t ∧ ∃ e sz n cap, g.own t = .at b e sz n cap

def enters (P : Program) (k : FuncId) : Prop := ∃ fn, P.funcs[k]? = some fn ∧ fn.body.isSome = true ∧ (fn.name == "runtime.NumGoroutine") = false

def Fr (r : Option Nat) : Fence := { Fence.wide with round := r }

structure Post (f : Nat → Nm) (H0 : Hp) (T0 : List Nm) (r : AV) (H1 : Hp) (T1 : List Nm) (g : Gh) (w : World) (v : Value) (g' : Gh) (w' : World) : Prop where
  ws : WS ⟨w, g, mutOf g H0 (· ∈ T0), (· ∈ T0)⟩ (rnH f H1) (· ∈ T1.map (rnN f)) g' w'
  rep : Rep g' (rn f r) v
  free : ∀ n, g.free n → (∀ j, n ≠ f j) → g'.free n

def FSR (P : Program) (Gl : Gh → Prop) (k : FuncId) (args : List AV) (H0 : Hp) (T0 : List Nm) (R : AV → Hp → List Nm → Prop) : Prop :=
  enters P k ∧ ∀ (g : Gh) (w : World) (vs : List Value) (f : Nat → Nm), HInv g w → Gl g → HOK g H0 w → TOK g (· ∈ T0) → RepL g args vs → (∀ j, g.free (f j)) → (∀ i j, f i = f j → i = j) →
    CallsIn Fence.wide 0 P k vs.toArray w fun e w' => ∃ v g' r H1 T1, R r H1 T1 ∧ e = .returned v ∧ Post f H0 T0 r H1 T1 g w v g' w'

def FS (P : Program) (Gl : Gh → Prop) (k : FuncId) (args : List AV) (H0 : Hp) (T0 : List Nm) (r : AV) (H1 : Hp) (T1 : List Nm) : Prop :=
  FSR P Gl k args H0 T0 fun r' H' T' => r' = r ∧ H' = H1 ∧ T' = T1

theorem FSR.mono {P : Program} {Gl : Gh → Prop} {k : FuncId} {args : List AV} {H0 : Hp} {T0 : List Nm} {R R' : AV → Hp → List Nm → Prop} (h : FSR P Gl k args H0 T0 R) (hR : ∀ r H T, R r H T → R' r H T) : FSR P Gl k args H0 T0 R' :=
  ⟨h.1, fun g w vs f a b c d e i j => (h.2 g w vs f a b c d e i j).mono fun _ _ ⟨v, g', r, H1, T1, k1, k2⟩ => ⟨v, g', r, H1, T1, hR _ _ _ k1, k2⟩⟩
structure St where
  F : Nat → AV
  H : Hp
  T : Tk

def upd (F : Nat → AV) (d : Nat) (v : AV) : Nat → AV := fun t => if t = d then v else F t
def putF (F : Nat → AV) (d : Option Nat) (v : AV) : Nat → AV :=
  match d with
  | some d => upd F d v
  | none => F

structure IOper where
  d : Option Nat
  g : Option (Nat × Bool)
  op : IOp

structure Raw (H0 : Hp) (T0 : Tk) (r : AV) (H1 : Hp) (T1 : Tk) (Gm : Nat) (g : Gh) (w : World) (v : Value) (g' : Gh) (w' : World) : Prop where
  ws : WS ⟨w, g, mutOf g H0 T0, T0⟩ H1 T1 g' w'
  rep : Rep g' r v
  free : ∀ n, g.free n → n.1 < Gm → g'.free n

def YS (P : Program) (Gl : Gh → Prop) (id : Nm) (args : List AV) (H0 : Hp) (T0 : Tk) (R : AV → Hp → Tk → Prop) : Prop :=
  ∀ (g : Gh) (w : World) (vs : List Value) (b Gm : Nat), HInv g w → Gl g → HOK g H0 w → TOK g T0 → RepL g args vs → g.mu id = some b →
    YieldAt Fence.wide 0 P b vs.toArray w fun e w' => ∃ v g' r H1 T1, R r H1 T1 ∧ e = .returned v ∧ Raw H0 T0 r H1 T1 Gm g w v g' w'
def CallY (P : Program) (Gl : Gh → Prop) (id : Nm) (args : List AV) (H : Hp) (T : Tk) (K : AV → Hp → Tk → Prop) : Prop :=
  ∃ H0 T0 R, YS P Gl id args H0 T0 R ∧ (∀ p ∈ H0, p ∈ H) ∧ (∀ t, T0 t → T t) ∧ ∀ r H1 T1, R r H1 T1 → (∀ p ∈ H, (∀ q ∈ H0, q.1 ≠ p.1) → ∀ q ∈ H1, q.1 ≠ p.1) →
    ∃ H' T', (∀ p ∈ H', p ∈ H1 ++ H.filter fun p => H0.all fun q => q.1 ≠ p.1) ∧ (∀ s, T' s → T1 s ∨ (T s ∧ ¬ T0 s)) ∧ K r H' T'

def FSX (P : Program) (Gl : Gh → Prop) (k : FuncId) (args : List AV) (H0 : Hp) (T0 : Tk) (R : Hp → Tk → Prop) : Prop :=
  enters P k ∧ ∀ (g : Gh) (w : World) (vs : List Value) (Gm : Nat), HInv g w → Gl g → HOK g H0 w → TOK g T0 → RepL g args vs →
    CallsIn Fence.wide 0 P k vs.toArray w fun e w' => ∃ v g' H1 T1, R H1 T1 ∧ e = .returned v ∧ Raw H0 T0 .und H1 T1 Gm g w v g' w'

def CallX (P : Program) (Gl : Gh → Prop) (k : FuncId) (args : List AV) (H : Hp) (T : Tk) (K : AV → Hp → Tk → Prop) : Prop :=
  ∃ H0 T0 R, FSX P Gl k args H0 T0 R ∧ (∀ p ∈ H0, p ∈ H) ∧ (∀ t, T0 t → T t) ∧ ∀ H1 T1, R H1 T1 → (∀ p ∈ H, (∀ q ∈ H0, q.1 ≠ p.1) → ∀ q ∈ H1, q.1 ≠ p.1) →
    ∃ H' T', (∀ p ∈ H', p ∈ H1 ++ H.filter fun p => H0.all fun q => q.1 ≠ p.1) ∧ (∀ s, T' s → T1 s ∨ (T s ∧ ¬ T0 s)) ∧ K .und H' T'
def CallG (C : Hp → List Nm → (AV → Hp → List Nm → Prop) → Prop) (H : Hp) (T : Tk) (f : Nat → Nm) (K : AV → Hp → Tk → Prop) : Prop :=
  ∃ H0 T0 R, C H0 T0 R ∧ (∀ p ∈ H0, p ∈ H) ∧ (∀ t ∈ T0, T t) ∧ ∀ r H1 T1, R r H1 T1 →
    ∃ H' T', (∀ p ∈ H', p ∈ rnH f H1 ++ H.filter fun p => H0.all fun q => q.1 ≠ p.1) ∧ (∀ s, T' s → s ∈ T1.map (rnN f) ∨ (T s ∧ s ∉ T0)) ∧ K (rn f r) H' T'
def CallP (P : Program) (Gl : Gh → Prop) (k : FuncId) (args : List AV) (H : Hp) (T : Tk) (f : Nat → Nm) (K : AV → Hp → Tk → Prop) : Prop := CallG (FSR P Gl k args) H T f K ∨ CallX P Gl k args H T K
theorem CallP.of {P : Program} {Gl : Gh → Prop} {k : FuncId} {args : List AV} {H : Hp} {T : Tk} {f : Nat → Nm} {K : AV → Hp → Tk → Prop} {H0 : Hp} {T0 : List Nm} {r : AV} {H1 : Hp} {T1 : List Nm} (h : FS P Gl k args H0 T0 r H1 T1) (hH : ∀ p ∈ H0, p ∈ H) (hT : ∀ t ∈ T0, T t)
    (hK : K (rn f r) (rnH f H1 ++ H.filter fun p => H0.all fun q => q.1 ≠ p.1) (fun s => s ∈ T1.map (rnN f) ∨ (T s ∧ s ∉ T0))) : CallP P Gl k args H T f K :=
  .inl ⟨H0, T0, _, h, hH, hT, by rintro _ _ _ ⟨rfl, rfl, rfl⟩; exact ⟨_, _, fun _ h => h, fun _ h => h, hK⟩⟩

def awOp (P : Program) (Gl : Gh → Prop) (γ i : Nat) (op : IOp) (s : St) (K : AV → Hp → Tk → Prop) : Prop :=
  match op with
  | .call f args => match f.ev s.F with
    | .fn (.func k) first caps => CallP P Gl k (first ++ args.map (X.ev s.F) ++ caps) s.H s.T (fun j => (γ, i, j)) K
    | .yl id => CallY P Gl id (args.map (X.ev s.F)) s.H s.T K
    | _ => False
  | op => match step op s.F s.H s.T (γ, i, 0) with
    | some r => r.pre ∧ K r.v (r.e.H (γ, i, 0) s.H) (r.e.T (γ, i, 0) s.T)
    | none => False

def gcond : AV → Bool → Option Bool
  | .bool x, b => some (x == b)
  | .tup [], _ => some false
  | _, _ => none
def IOp.pure : IOp → Bool
  | .mov _ | .pick .. | .ld .. | .fa .. | .fld .. | .ia .. | .iar .. | .ixs .. | .ixa .. | .bin .. | .un .. | .cvi .. | .b2s _ | .s2b .. | .cid _ | .lkp .. | .sls .. | .sll .. | .len _ | .lns _ | .mm .. | .ext .. | .nck _ | .mkf .. | .bld .. => true
  | _ => false
def stepV (op : IOp) (F : Nat → AV) (H : Hp) (T : Tk) (nm : Nm) : AV := match step op F H T nm with
  | some r => r.v
  | none => .und
def stepP (op : IOp) (F : Nat → AV) (H : Hp) (T : Tk) (nm : Nm) : Prop := match step op F H T nm with
  | some r => r.pre ∧ r.e = .no
  | none => False

def awOps (P : Program) (Gl : Gh → Prop) (γ : Nat) : Nat → List IOper → St → (St → Prop) → Prop
  | _, [], s, K => K s
  | i, o :: os, s, K =>
    match o.g with
    | none => awOp P Gl γ i o.op s fun v H T => awOps P Gl γ (i + 1) os ⟨putF s.F o.d v, H, T⟩ K
    | some (t, b) => match gcond (s.F t) b with
      | some c => if o.op.pure = true then
            (c = true → stepP o.op s.F s.H s.T (γ, i, 0)) ∧ awOps P Gl γ (i + 1) os ⟨putF s.F o.d (if c = true then stepV o.op s.F s.H s.T (γ, i, 0) else .tup []), s.H, s.T⟩ K
          else ((c = true → awOp P Gl γ i o.op s fun v H T => awOps P Gl γ (i + 1) os ⟨putF s.F o.d v, H, T⟩ K) ∧ (c = false → awOps P Gl γ (i + 1) os ⟨putF s.F o.d (.tup []), s.H, s.T⟩ K)) ∨
            ∃ r, (c = true → awOp P Gl γ i o.op s fun v H T => v = r ∧ H = s.H ∧ T = s.T) ∧ awOps P Gl γ (i + 1) os ⟨putF s.F o.d (if c = true then r else .tup []), s.H, s.T⟩ K
      | none => False

theorem awOp_mono {P : Program} {Gl : Gh → Prop} {γ i : Nat} {op : IOp} {s : St} {K K' : AV → Hp → Tk → Prop} (h : awOp P Gl γ i op s K) (hK : ∀ v H T, K v H T → K' v H T) : awOp P Gl γ i op s K' := by
  cases op
  case call f args =>
    simp only [awOp] at h ⊢
    generalize f.ev s.F = fv at h ⊢
    cases fv <;> try exact h.elim
    case fn fk first caps =>
      cases fk <;> try exact h.elim
      rcases h with ⟨H0, T0, R, k1, k2, k3, k4⟩ | ⟨H0, T0, R, k1, k2, k3, k4⟩
      · exact .inl ⟨H0, T0, R, k1, k2, k3, fun r H1 T1 hr => let ⟨H', T', x1, x2, x3⟩ := k4 r H1 T1 hr; ⟨H', T', x1, x2, hK _ _ _ x3⟩⟩
      exact .inr ⟨H0, T0, R, k1, k2, k3, fun H1 T1 hr hn => let ⟨H', T', x1, x2, x3⟩ := k4 H1 T1 hr hn; ⟨H', T', x1, x2, hK _ _ _ x3⟩⟩
    case yl id =>
      obtain ⟨H0, T0, R, k1, k2, k3, k4⟩ := h
      exact ⟨H0, T0, R, k1, k2, k3, fun r H1 T1 hr hn => let ⟨H', T', x1, x2, x3⟩ := k4 r H1 T1 hr hn; ⟨H', T', x1, x2, hK _ _ _ x3⟩⟩
  all_goals
    simp only [awOp] at h ⊢
    generalize step _ s.F s.H s.T (γ, i, 0) = r at h ⊢
    cases r
    · exact h.elim
    · exact ⟨h.1, hK _ _ _ h.2⟩

theorem guard_split {P : Program} {Gl : Gh → Prop} {γ i : Nat} {o : IOper} {os : List IOper} {s : St} {K : St → Prop} {c : Bool}
    (h : if o.op.pure = true then
            (c = true → stepP o.op s.F s.H s.T (γ, i, 0)) ∧ awOps P Gl γ (i + 1) os ⟨putF s.F o.d (if c = true then stepV o.op s.F s.H s.T (γ, i, 0) else .tup []), s.H, s.T⟩ K
          else ((c = true → awOp P Gl γ i o.op s fun v H T => awOps P Gl γ (i + 1) os ⟨putF s.F o.d v, H, T⟩ K) ∧ (c = false → awOps P Gl γ (i + 1) os ⟨putF s.F o.d (.tup []), s.H, s.T⟩ K)) ∨
            ∃ r, (c = true → awOp P Gl γ i o.op s fun v H T => v = r ∧ H = s.H ∧ T = s.T) ∧ awOps P Gl γ (i + 1) os ⟨putF s.F o.d (if c = true then r else .tup []), s.H, s.T⟩ K) :
    (c = true → awOp P Gl γ i o.op s fun v H T => awOps P Gl γ (i + 1) os ⟨putF s.F o.d v, H, T⟩ K) ∧ (c = false → awOps P Gl γ (i + 1) os ⟨putF s.F o.d (.tup []), s.H, s.T⟩ K) := by
  split at h
  · rename_i hp
    obtain ⟨h1, h2⟩ := h
    refine ⟨fun hc => ?_, fun hc => by subst hc; simpa using h2⟩
    subst hc
    have h1 := h1 rfl
    rw [if_pos rfl] at h2
    unfold stepP at h1
    unfold stepV at h2
    cases ho : o.op with
    | call f a => rw [ho] at hp; simp [IOp.pure] at hp
    | _ =>
      rw [ho] at h1 h2
      simp only [awOp]
      generalize step _ s.F s.H s.T (γ, i, 0) = r at h1 h2 ⊢
      cases r with
      | none => exact h1.elim
      | some r =>
        obtain ⟨rp, rv, re⟩ := r
        obtain ⟨k1, k2⟩ := h1
        simp only at k1 k2 h2
        subst k2
        exact ⟨k1, h2⟩
  · rcases h with h | ⟨r, h1, h2⟩
    · exact h
    · refine ⟨fun hc => ?_, fun hc => by subst hc; simpa using h2⟩
      subst hc
      rw [if_pos rfl] at h2
      refine awOp_mono (h1 rfl) ?_
      rintro v H T ⟨rfl, rfl, rfl⟩
      exact h2

def Mks (g : Gh) (E : List Deferred → Prop) : Hp → List Deferred → Prop
  | [], ds => E ds
  | p :: Mk, d :: ds => p.2 = .obj (.deferred (some [])) ∧ (∃ b, g.mu p.1 = some b ∧ d = { target := .collected b, args := #[] }) ∧ (∀ q ∈ Mk, q.1 ≠ p.1) ∧ Mks g E Mk ds
  | _ :: _, [] => False
def Dend (g : Gh) : Option (FuncId × List AV) → List Deferred → Prop
  | none, ds => ds = []
  | some (k, xs), ds => ∃ vs : List Value, ds = [{ target := .fn (.func k) #[], args := vs.toArray }] ∧ RepL g xs vs
inductive RL where
  | out (D : Option (FuncId × List AV))
  | rnd (x : Nat × Nm × Loop)
  | bare
def RL.lp : RL → Option Nat
  | .rnd x => some x.1
  | _ => none
def Mok (R0 : RL) (g : Gh) (Mk : Hp) (ds : List Deferred) : Prop :=
  match R0 with
  | .out D => Mks g (Dend g D) Mk ds
  | .rnd (l, id, rec) => ds = [] ∧ Mk = [(id, .obj (.loop rec))] ∧ g.mu id = some l
  | .bare => ds = [] ∧ Mk = []
def WSD (R0 : RL) (B : Base) (H : Hp) (T : Tk) (g : Gh) (ds : List Deferred) (w : World) : Prop :=
  ∃ Mk, Mok R0 g Mk ds ∧ WS B (Mk ++ H) T g w ∧ ∀ p ∈ Mk, ∀ q ∈ H, q.1 ≠ p.1

def Lo (B : Base) (lo γ : Nat) (g : Gh) : Prop := lo ≤ γ ∧ ∀ n, B.g0.free n → n.1 < lo → g.free n
theorem Lo.step {B : Base} {lo γ i : Nat} {g g' : Gh} (h : Lo B lo γ g) (hf : ∀ n, g.free n → n.1 ≤ γ → (∀ j, n ≠ (γ, i, j)) → g'.free n) : Lo B lo γ g' :=
  ⟨h.1, fun n h1 h2 => hf n (h.2 n h1 h2) (Nat.le_trans (Nat.le_of_lt h2) h.1) (fun j e => by have := h.1; rw [e] at h2; simp only at h2; omega)⟩

structure Sim (B : Base) (N : Nat) (R0 : RL) (lo : Nat) (Gl : Gh → Prop) (γ c : Nat) (s : St) (g : Gh) (a : Act) (w : World) : Prop where
  frame : FOK g s.F a
  size : a.tmps.size = N
  ws : WSD R0 B s.H s.T g a.defers w
  new : ∀ i j, c ≤ i → g.free (γ, i, j)
  gam : 1 ≤ γ
  gl : Gl g
  low : Lo B lo γ g

theorem Dend.mono {g g' : Gh} (h : g.le g') : ∀ {D : Option (FuncId × List AV)} {ds : List Deferred}, Dend g D ds → Dend g' D ds
  | none, _, k => k
  | some (_, _), _, ⟨vs, k1, k2⟩ => ⟨vs, k1, RepL.mono h _ _ k2⟩
theorem Mks.mono {g g' : Gh} {E E' : List Deferred → Prop} (h : g.le g') (hE : ∀ ds, E ds → E' ds) : ∀ {Mk : Hp} {ds : List Deferred}, Mks g E Mk ds → Mks g' E' Mk ds
  | [], ds, k => hE ds k
  | p :: Mk, d :: ds, ⟨h1, ⟨b, h2, h3⟩, h4, h5⟩ => ⟨h1, ⟨b, h.mu _ _ h2, h3⟩, h4, Mks.mono h hE h5⟩
  | _ :: _, [], k => k.elim
theorem Mok.mono {R0 : RL} {g g' : Gh} (h : g.le g') {Mk : Hp} {ds : List Deferred} (k : Mok R0 g Mk ds) : Mok R0 g' Mk ds := by
  unfold Mok at k ⊢
  split at k
  · exact Mks.mono h (fun _ => Dend.mono h) k
  · exact ⟨k.1, k.2.1, h.mu _ _ k.2.2⟩
  · exact k

theorem WS.framed_ne {B : Base} {H H0 H1 : Hp} {T T0 T1 : Tk} {g g' : Gh} {w w' : World} (k : WS B H T g w) (h : WS ⟨w, g, mutOf g H0 T0, T0⟩ H1 T1 g' w') :
    ∀ p ∈ H, (∀ q ∈ H0, q.1 ≠ p.1) → ∀ q ∈ H1, q.1 ≠ p.1 := by
  intro p hp hne q hq e
  obtain ⟨b, hb, x⟩ := k.heap p hp
  have hb' := h.le.mu _ _ hb
  rw [← e] at hb'
  rcases h.hM q hq b hb' with hm | hm
  · rcases hm with ⟨r, hr, hrb⟩ | ⟨t, _, e', sz, n, cap, ho⟩
    · exact hne r hr (k.inv.inj _ _ _ hrb hb)
    · exact (k.inv.own t b e' sz n cap ho).2.2.2.2 _ hb
  · have := x.lt
    simp only at hm
    omega

theorem WS.framed {B : Base} {H H0 H1 : Hp} {T T0 T1 : Tk} {g g' : Gh} {w w' : World} (k : WS B H T g w) (hH : ∀ p ∈ H0, p ∈ H) (hT : ∀ t, T0 t → T t) (h : WS ⟨w, g, mutOf g H0 T0, T0⟩ H1 T1 g' w') :
    WS B (H1 ++ H.filter fun p => H0.all fun q => q.1 ≠ p.1) (fun s => T1 s ∨ (T s ∧ ¬ T0 s)) g' w' := by
  have hle : g.le g' := h.le
  have hMB : ∀ b, mutOf g H0 T0 b → B.M b ∨ B.w0.heap.size ≤ b := by
    rintro b (⟨p, hp, hb⟩ | ⟨t, ht, e, sz, n, cap, ho⟩)
    · exact k.hM p (hH p hp) b hb
    · exact k.tM t (hT t ht) b e sz n cap ho
  have hkeep : ∀ b, b < B.w0.heap.size → ¬ B.M b → ¬ mutOf g H0 T0 b := fun b h1 h2 h3 => by rcases hMB b h3 with h | h; exact h2 h; omega
  have hsz := k.keeps.size
  refine ⟨h.inv, fun p hp => ?_, fun t ht => ?_, ⟨h.keeps.os.trans k.keeps.os, h.keeps.tape.trans k.keeps.tape, h.keeps.output.trans k.keeps.output, Nat.le_trans hsz h.keeps.size, fun b h1 h2 => ?_, fun b h1 h2 o => ?_, fun i b e hb => ?_, fun t h1 h2 => ?_⟩, fun p hp b e => ?_, fun t ht b e sz n cap ho => ?_, fun t ht => ?_, k.le.trans hle⟩
  · rcases List.mem_append.1 hp with hp | hp
    · exact h.heap p hp
    · obtain ⟨hp, hne⟩ := List.mem_filter.1 hp
      simp only [List.all_eq_true, decide_eq_true_eq] at hne
      obtain ⟨b, e, x⟩ := k.heap p hp
      refine ⟨b, hle.mu _ _ e, (x.mono hle).of_block (h.keeps.block b x.lt ?_)⟩
      rintro (⟨q, hq, hb⟩ | ⟨t, ht, e', sz, n, cap, ho⟩)
      · exact hne q hq (k.inv.inj _ _ _ hb e)
      · exact (k.inv.own t b e' sz n cap ho).2.2.2.2 _ e
  · rcases ht with ht | ⟨ht, hn⟩
    · exact h.toks t ht
    · have := h.keeps.own t (k.toks t ht).2 hn
      rw [this]; exact k.toks t ht
  · rw [h.keeps.block b (Nat.lt_of_lt_of_le h1 hsz) (hkeep b h1 h2)]; exact k.keeps.block b h1 h2
  · rw [h.keeps.imm b (Nat.lt_of_lt_of_le h1 hsz) (hkeep b h1 h2)]; exact k.keeps.imm b h1 h2 o
  · exact k.keeps.mu i b (h.keeps.mu i b e (Nat.lt_of_lt_of_le hb hsz)) hb
  · have hk := k.keeps.own t h1 h2
    have hnT : ¬ T0 t := fun ht => by rcases k.tK t (hT t ht) with h | h; exact h2 h; exact h1 h
    rw [h.keeps.own t (by show g.own t ≠ _; rw [hk]; exact h1) hnT]; exact hk
  · rcases List.mem_append.1 hp with hp | hp
    · rcases h.hM p hp b e with h' | h'
      · exact hMB b h'
      · exact .inr (Nat.le_trans hsz h')
    · obtain ⟨hp, _⟩ := List.mem_filter.1 hp
      obtain ⟨b', e', x⟩ := k.heap p hp
      rw [hle.mu _ _ e'] at e
      cases e
      exact k.hM p hp _ e'
  · rcases ht with ht | ⟨ht, hn⟩
    · rcases h.tM t ht b e sz n cap ho with h' | h'
      · exact hMB b h'
      · exact .inr (Nat.le_trans hsz h')
    · rw [h.keeps.own t (k.toks t ht).2 hn] at ho
      exact k.tM t ht b e sz n cap ho
  · rcases ht with ht | ⟨ht, _⟩
    · rcases h.tK t ht with h' | h'
      · exact k.tK t (hT t h')
      · exact .inr (k.le.fresh h')
    · exact k.tK t ht

theorem WS.local {B : Base} {H H0 : Hp} {T T0 : Tk} {g : Gh} {w : World} (k : WS B H T g w) (hH : ∀ p ∈ H0, p ∈ H) (hT : ∀ t, T0 t → T t) : WS ⟨w, g, mutOf g H0 T0, T0⟩ H0 T0 g w :=
  ⟨k.inv, fun p hp => k.heap p (hH p hp), fun t ht => k.toks t (hT t ht), ⟨rfl, rfl, rfl, Nat.le_refl _, fun _ _ _ => rfl, fun _ _ _ _ => rfl, fun _ _ h _ => h, fun _ _ _ => rfl⟩, fun p hp b e => .inl (.inl ⟨p, hp, e⟩), fun t ht b e sz n cap ho => .inl (.inr ⟨t, ht, e, sz, n, cap, ho⟩), fun t ht => .inl ht, .refl g⟩

theorem WS.apart {B : Base} {H H0 H1 : Hp} {T T0 T1 : Tk} {g g' : Gh} {w w' : World} (k : WS B H T g w) (h : WS ⟨w, g, mutOf g H0 T0, T0⟩ H1 T1 g' w') {p : Nm × HB} (hp : p ∈ H) (hne : ∀ q ∈ H0, q.1 ≠ p.1) : ∀ q ∈ H1, q.1 ≠ p.1 := by
  intro q hq e
  obtain ⟨b, hb, x⟩ := k.heap p hp
  have hb' : g'.mu q.1 = some b := by rw [e]; exact h.le.mu _ _ hb
  rcases h.hM q hq b hb' with h' | h'
  · rcases h' with ⟨q', hq', hb2⟩ | ⟨t, ht, e', sz, n, cap, ho⟩
    · exact hne q' hq' (k.inv.inj _ _ _ hb2 hb)
    · exact (k.inv.own t b e' sz n cap ho).2.2.2.2 _ hb
  · have : b < w.heap.size := x.lt
    exact absurd this (Nat.not_lt.2 h')

theorem WSD.framed {R0 : RL} {B : Base} {H H0 H1 : Hp} {T T0 T1 : Tk} {g g' : Gh} {ds : List Deferred} {w w' : World} (k : WSD R0 B H T g ds w) (hH : ∀ p ∈ H0, p ∈ H) (hT : ∀ t, T0 t → T t) (h : WS ⟨w, g, mutOf g H0 T0, T0⟩ H1 T1 g' w') :
    WSD R0 B (H1 ++ H.filter fun p => H0.all fun q => q.1 ≠ p.1) (fun s => T1 s ∨ (T s ∧ ¬ T0 s)) g' ds w' := by
  obtain ⟨Mk, k1, k2, k3⟩ := k
  refine ⟨Mk, k1.mono h.le, (k2.framed (fun p hp => List.mem_append.2 (.inr (hH p hp))) hT h).weaken (fun p hp => ?_) (fun t ht => ht), fun p hp q hq => ?_⟩
  · rcases List.mem_append.1 hp with hp | hp
    · refine List.mem_append.2 (.inr (List.mem_filter.2 ⟨List.mem_append.2 (.inl hp), ?_⟩))
      simp only [List.all_eq_true, decide_eq_true_eq]
      exact fun q hq => k3 p hp q (hH q hq)
    · rcases List.mem_append.1 hp with hp | hp
      · exact List.mem_append.2 (.inl hp)
      · obtain ⟨h1, h2⟩ := List.mem_filter.1 hp
        exact List.mem_append.2 (.inr (List.mem_filter.2 ⟨List.mem_append.2 (.inr h1), h2⟩))
  · rcases List.mem_append.1 hq with hq | hq
    · exact k2.apart h (List.mem_append.2 (.inl hp)) (fun q' hq' => k3 p hp q' (hH q' hq')) q hq
    · exact k3 p hp q (List.mem_filter.1 hq).1
theorem WSD.local {R0 : RL} {B : Base} {H H0 : Hp} {T T0 : Tk} {g : Gh} {ds : List Deferred} {w : World} (k : WSD R0 B H T g ds w) (hH : ∀ p ∈ H0, p ∈ H) (hT : ∀ t, T0 t → T t) : WS ⟨w, g, mutOf g H0 T0, T0⟩ H0 T0 g w := by
  obtain ⟨Mk, k1, k2, k3⟩ := k
  exact k2.local (fun p hp => List.mem_append.2 (.inr (hH p hp))) hT
theorem WSD.weaken {R0 : RL} {B : Base} {H H' : Hp} {T T' : Tk} {g : Gh} {ds : List Deferred} {w : World} (k : WSD R0 B H T g ds w) (hH : ∀ p ∈ H', p ∈ H) (hT : ∀ t, T' t → T t) : WSD R0 B H' T' g ds w := by
  obtain ⟨Mk, k1, k2, k3⟩ := k
  exact ⟨Mk, k1, k2.weaken (fun p hp => by rcases List.mem_append.1 hp with h | h; exact List.mem_append.2 (.inl h); exact List.mem_append.2 (.inr (hH p h))) hT, fun p hp q hq => k3 p hp q (hH q hq)⟩
theorem WSD.inv {R0 : RL} {B : Base} {H : Hp} {T : Tk} {g : Gh} {ds : List Deferred} {w : World} (k : WSD R0 B H T g ds w) : HInv g w := k.elim fun _ h => h.2.1.inv
theorem WSD.heap {R0 : RL} {B : Base} {H : Hp} {T : Tk} {g : Gh} {ds : List Deferred} {w : World} (k : WSD R0 B H T g ds w) : HOK g H w := k.elim fun _ h p hp => h.2.1.heap p (List.mem_append.2 (.inr hp))
theorem WSD.toks {R0 : RL} {B : Base} {H : Hp} {T : Tk} {g : Gh} {ds : List Deferred} {w : World} (k : WSD R0 B H T g ds w) : TOK g T := k.elim fun _ h => h.2.1.toks
theorem WSD.ws {R0 : RL} {B : Base} {H : Hp} {T : Tk} {g : Gh} {ds : List Deferred} {w : World} (k : WSD R0 B H T g ds w) : WS B H T g w := k.elim fun _ h => h.2.1.weaken (fun _ hp => List.mem_append.2 (.inr hp)) (fun _ h => h)
theorem WSD.drew {R0 : RL} {B : Base} {H : Hp} {T : Tk} {g : Gh} {ds : List Deferred} {w : World} (k : WSD R0 B H T g ds w) : WSD R0 B H T g ds { w with drawn := w.drawn + 1 } := k.elim fun Mk h => ⟨Mk, h.1, h.2.1.drew, h.2.2⟩

def Stays (Gl : Gh → Prop) : Prop := ∀ g g', Gl g → g.le g' → Gl g'

section
variable {P : Program} {Gl : Gh → Prop} {B : Base} {N : Nat} {R0 : RL} {lo : Nat}

theorem FOK.put {g g' : Gh} {F : Nat → AV} {a : Act} (h : FOK g F a) (hg : g.le g') {d : Option Nat} {v : AV} {cv : Value} (hv : Rep g' v cv) (hd : ∀ t, d = some t → t < a.tmps.size) : FOK g' (putF F d v) (a.put d cv) := by
  intro t
  cases d with
  | none => exact Rep.mono hg _ _ (h t)
  | some d =>
    simp only [putF, upd, Act.put]
    by_cases ht : t = d
    · subst ht
      simp only [if_true]
      rw [Array.getD_eq_getD_getElem?, Array.getElem?_setIfInBounds_self_of_lt (hd t rfl)]
      exact hv
    · rw [if_neg ht]
      rw [Array.getD_eq_getD_getElem?, Array.getElem?_setIfInBounds_ne (Ne.symm ht), ← Array.getD_eq_getD_getElem?]
      exact Rep.mono hg _ _ (h t)

theorem size_put {a : Act} {d : Option Nat} {v : Value} : (a.put d v).tmps.size = a.tmps.size := by cases d <;> simp [Act.put]
theorem defers_put {a : Act} {d : Option Nat} {v : Value} : (a.put d v).defers = a.defers := by cases d <;> rfl

theorem awOp_sound (hst : Stays Gl) {r : Option Nat} {o : Oper} {io : IOp} (hc : compOp P o = some io) {γ i : Nat} {s : St} {g : Gh} {a : Act} {w : World} {K : AV → Hp → Tk → Prop}
    (h : awOp P Gl γ i io s K) (hF : FOK g s.F a) (hW : WS B s.H s.T g w) (hnew : ∀ j, g.free (γ, i, j)) (hgl : Gl g) {next : Act → World → Prop} {Q : Exit → Act → World → Prop}
    (hn : ∀ v H T g' cv w', K v H T → g.le g' → WS B H T g' w' → Rep g' v cv → Gl g' → (∀ n, g.free n → n.1 ≤ γ → (∀ j, n ≠ (γ, i, j)) → g'.free n) → next (a.put o.dst cv) w') : o.wpIn (Fr r) 0 P a w next Q := by
  have hnd : ∀ c, o.op ≠ .defer c := fun c e => by simp [compOp, e] at hc
  refine ⟨fun _ _ => trivial, ?_⟩
  have hsem : o.semAt (Fr r).round a.eval = execOp a.eval o := Oper.semAt_eq _ _ _ hnd
  rw [hsem]
  by_cases hcall : ∃ f args, io = .call f args
  · obtain ⟨f, args, rfl⟩ := hcall
    have hinv : ∃ (cl : Call) (fo : Operand), o.op = .call cl ∧ cl.callee = .value fo ∧ compX fo = some f ∧ compXs cl.args.toList = some args := by
      unfold compOp at hc
      split at hc
      all_goals first
        | (rename_i h; obtain ⟨y, hy, e⟩ := Option.map_eq_some_iff.1 hc; cases e; done)
        | skip
      all_goals (repeat' split at hc)
      all_goals first
        | (cases hc; done)
        | (cases hc; exact ⟨_, _, ‹_›, ‹_›, ‹_›, ‹_›⟩)
    obtain ⟨cl, fo, hop, hcal, hfo, hargs⟩ := hinv
    simp only [awOp] at h
    split at h
    · rename_i k first caps hf
      have hfr := rep_compX hF hfo
      rw [hf] at hfr
      obtain ⟨fs, cs, hfe, hf1, hf2⟩ := hfr
      have hen : enters P k := by
        rcases h with ⟨_, _, _, h, _⟩ | ⟨_, _, _, h, _⟩ <;> exact h.1
      obtain ⟨fn, hfn, hbody, hname⟩ := hen
      have hrun : (execOp a.eval o).run P w = .ok (.enter k (fs ++ cl.args.map a.eval ++ cs)) w := by
        have hnm : fn.name ≠ "runtime.NumGoroutine" := by simpa using hname
        have hbn : fn.body ≠ none := by intro hx; rw [hx] at hbody; cases hbody
        simp [execOp, hop, resolve, hcal, hfe, Deferred.ofValue, invoke, callFunc, hfn, hnm, hbn]
      rw [hrun]
      refine ⟨fun h => by simp [Fr, Fence.wide] at h, ?_⟩
      have hrep : RepL g (first ++ args.map (X.ev s.F) ++ caps) (fs.toList ++ cl.args.toList.map a.eval ++ cs.toList) := RepL.append (RepL.append hf1 (rep_compXs hF hargs)) hf2
      have he : (fs.toList ++ cl.args.toList.map a.eval ++ cs.toList).toArray = fs ++ cl.args.map a.eval ++ cs := by
        apply Array.ext'; simp
      rcases h with ⟨H0, T0, R, hFS, hH, hT, hK⟩ | ⟨H0, T0, R, hFS, hH, hT, hK⟩
      rotate_left
      · have hcalls := hFS.2 g w _ (γ + 1) hW.inv hgl (fun p hp => hW.heap p (hH p hp)) (fun t ht => hW.toks t (hT t ht)) hrep
        rw [he] at hcalls
        refine CallsIn.mono (F := Fr r) hcalls ?_
        rintro e w' ⟨v, g', H1, T1, hR, rfl, hpost⟩
        obtain ⟨H', T', x1, x2, hK⟩ := hK _ _ hR (hW.framed_ne hpost.ws)
        exact hn _ _ _ g' v w' hK hpost.ws.le ((hW.framed hH hT hpost.ws).weaken x1 x2) hpost.rep (hst _ _ hgl hpost.ws.le) (fun n h1 h2 _ => hpost.free n h1 (by omega))
      have hcalls := hFS.2 g w _ (fun j => (γ, i, j)) hW.inv hgl (fun p hp => hW.heap p (hH p hp)) (fun t ht => hW.toks t (hT t ht)) hrep hnew (fun i j h => by simpa using h)
      rw [he] at hcalls
      refine CallsIn.mono (F := Fr r) hcalls ?_
      rintro e w' ⟨v, g', rv, H1, T1, hR, rfl, hpost⟩
      obtain ⟨H', T', x1, x2, hK⟩ := hK _ _ _ hR
      exact hn _ _ _ g' v w' hK hpost.ws.le ((hW.framed hH hT hpost.ws).weaken x1 x2) hpost.rep (hst _ _ hgl hpost.ws.le) (fun n h1 _ h3 => hpost.free n h1 h3)
    · rename_i id hf
      have hfr := rep_compX hF hfo
      rw [hf] at hfr
      obtain ⟨b, hb, hfe⟩ := hfr
      obtain ⟨H0, T0, R, hYS, hH, hT, hK⟩ := h
      have hrep : RepL g (args.map (X.ev s.F)) (cl.args.toList.map a.eval) := rep_compXs hF hargs
      obtain ⟨fn, tmps, as, bd, hy, hround⟩ := hYS g w _ b (γ + 1) hW.inv hgl (fun p hp => hW.heap p (hH p hp)) (fun t ht => hW.toks t (hT t ht)) hrep hb
      have he : (cl.args.toList.map a.eval).toArray = cl.args.map a.eval := by apply Array.ext'; simp
      rw [he] at hy
      have hrun : (execOp a.eval o).run P w = .ok (.round b fn tmps as bd) w := by
        simp [execOp, hop, resolve, hcal, hfe, Deferred.ofValue, invoke, hy]
      rw [hrun]
      refine ⟨fun h => by simp [Fr, Fence.wide] at h, ?_⟩
      refine RoundIn.mono (F := Fr r) hround ?_
      rintro e w' ⟨v, g', rv, H1, T1, hR, rfl, hpost⟩
      obtain ⟨H', T', x1, x2, hK⟩ := hK _ _ _ hR (hW.framed_ne hpost.ws)
      exact hn _ _ _ g' v w' hK hpost.ws.le ((hW.framed hH hT hpost.ws).weaken x1 x2) hpost.rep (hst _ _ hgl hpost.ws.le) (fun n h1 h2 _ => hpost.free n h1 (by omega))
    · exact h.elim
  · have h' : match step io s.F s.H s.T (γ, i, 0) with
      | some r => r.pre ∧ K r.v (r.e.H (γ, i, 0) s.H) (r.e.T (γ, i, 0) s.T)
      | none => False := by
      unfold awOp at h
      split at h
      · exact absurd ⟨_, _, rfl⟩ hcall
      · exact h
    split at h'
    · rename_i sr hs
      obtain ⟨hp, hK⟩ := h'
      obtain ⟨nx, cv, w', g', hr, hnx, k1, k2, k3, k4⟩ := step_sound hc hs hp hF hW (hnew 0)
      rw [hr]
      have hnext := hn _ _ _ g' cv w' hK k1 k2 k3 (hst _ _ hgl k1) (fun n hn _ hj => k4 n (hj 0) hn)
      rcases hnx with rfl | ⟨rfl, rfl⟩
      · exact hnext
      · exact hnext
    · exact h'.elim

theorem awOp_soundD (hst : Stays Gl) {r : Option Nat} {o : Oper} {io : IOp} (hc : compOp P o = some io) {γ i : Nat} {s : St} {g : Gh} {a : Act} {w : World} {K : AV → Hp → Tk → Prop}
    (h : awOp P Gl γ i io s K) (hF : FOK g s.F a) (hW : WSD R0 B s.H s.T g a.defers w) (hnew : ∀ j, g.free (γ, i, j)) (hgl : Gl g) {next : Act → World → Prop} {Q : Exit → Act → World → Prop}
    (hn : ∀ v H T g' cv w', K v H T → g.le g' → WSD R0 B H T g' a.defers w' → Rep g' v cv → Gl g' → (∀ n, g.free n → n.1 ≤ γ → (∀ j, n ≠ (γ, i, j)) → g'.free n) → next (a.put o.dst cv) w') : o.wpIn (Fr r) 0 P a w next Q :=
  awOp_sound (B := ⟨w, g, mutOf g s.H s.T, s.T⟩) hst hc h hF (hW.local (fun _ h => h) (fun _ h => h)) hnew hgl fun v H T g' cv w' hK hle hW' hrep hgl' hfree =>
    hn v H T g' cv w' hK hle ((hW.framed (fun _ h => h) (fun _ h => h) hW').weaken (fun p hp => List.mem_append.2 (.inl hp)) (fun t ht => .inl ht)) hrep hgl' hfree

/-! ### Regions in the order of the text -/
def compOper (P : Program) (N : Nat) (ops : Array Oper) (o : Oper) : Option IOper :=
  match compOp P o, o.dst.all (· < N) with
  | some io, true => match o.guard with
    | none => some ⟨o.dst, none, io⟩
    | some (j, b) => match (ops[j]?).bind (·.dst) with
      | some t => if t < N then some ⟨o.dst, some (t, b), io⟩ else none
      | none => none
  | _, _ => none
def compOpers (P : Program) (N : Nat) (ops : Array Oper) : List Oper → Option (List IOper)
  | [] => some []
  | o :: os => match compOper P N ops o, compOpers P N ops os with
    | some x, some xs => some (x :: xs)
    | _, _ => none

theorem yielded_of {ops : Array Oper} {a : Act} {j t : Nat} {x : Bool} (h1 : (ops[j]?).bind (·.dst) = some t) (h2 : a.tmps.getD t undef = .bool x) : yielded ops a.tmps j = some x := by
  unfold yielded
  rw [h1]
  simp only [Option.bind_some]
  by_cases ht : t < a.tmps.size
  · rw [Array.getD_eq_getD_getElem?, Array.getElem?_eq_getElem ht] at h2
    rw [Array.getElem?_eq_getElem ht]
    simp only [Option.getD_some] at h2
    rw [h2]
  · rw [Array.getD_eq_getD_getElem?, Array.getElem?_eq_none (by omega)] at h2
    simp [undef] at h2

theorem rep_undef {g : Gh} : Rep g (.tup []) undef := ⟨#[], rfl, rfl⟩
theorem yielded_undef {g : Gh} {ops : Array Oper} {a : Act} {j t : Nat} (h1 : (ops[j]?).bind (·.dst) = some t) (h2 : Rep g (.tup []) (a.tmps.getD t undef)) : yielded ops a.tmps j = none := by
  obtain ⟨vs, e, k⟩ := h2
  unfold yielded
  rw [h1]
  simp only [Option.bind_some]
  by_cases ht : t < a.tmps.size
  · rw [Array.getD_eq_getD_getElem?, Array.getElem?_eq_getElem ht] at e
    rw [Array.getElem?_eq_getElem ht]
    simp only [Option.getD_some] at e
    rw [e]
  · rw [Array.getElem?_eq_none (by omega)]

theorem gcond_yield {g : Gh} {ops : Array Oper} {a : Act} {j t : Nat} {x : AV} {b c : Bool} (h1 : (ops[j]?).bind (·.dst) = some t) (h2 : Rep g x (a.tmps.getD t undef)) (h3 : gcond x b = some c) : (yielded ops a.tmps j == some b) = c := by
  unfold gcond at h3
  split at h3
  · cases h3
    rename_i y
    have h2 : a.tmps.getD t undef = .bool y := h2
    rw [yielded_of h1 h2]
    cases y <;> cases b <;> rfl
  · cases h3
    rw [yielded_undef h1 h2]
    rfl
  · cases h3

theorem ops_soundG (hst : Stays Gl) {r : Option Nat} {ops : Array Oper} {Q : Exit → Act → World → Prop} {γ c : Nat} {tl : List Oper} {js : List Nat} : ∀ (os : List Oper) (xs : List IOper) (i : Nat) (s : St) (g : Gh) (a : Act) (w : World) (K : St → Prop),
    ops.toList.drop i = os ++ tl → compOpers P N ops os = some xs → awOps P Gl γ (c + i) xs s K → Sim B N R0 lo Gl γ (c + i) s g a w →
    (∀ s' g' a' w', K s' → Sim B N R0 lo Gl γ (c + i + xs.length) s' g' a' w' → wpOpsIn (Fr r) 0 P ops Q js a' w') → wpOpsIn (Fr r) 0 P ops Q (List.range' i os.length ++ js) a w
  | [], _, i, s, g, a, w, K, _, hc, h, hS, hQ => by
    simp only [compOpers, Option.some.injEq] at hc
    subst hc
    exact hQ s g a w h hS
  | o :: os, _, i, s, g, a, w, K, hd, hc, h, hS, hQ => by
    simp only [compOpers] at hc
    split at hc
    · rename_i x xs hx hxs
      cases hc
      have hoi : ops[i]? = some o := by
        have : (ops.toList.drop i)[0]? = some o := by rw [hd]; rfl
        simpa using this
      have hd' : ops.toList.drop (i + 1) = os ++ tl := by
        have := congrArg (List.drop 1) hd
        simpa [List.drop_drop, Nat.add_comm] using this
      unfold compOper at hx
      split at hx
      · rename_i io hio hdst
        have hdlt : ∀ t, o.dst = some t → t < a.tmps.size := fun t ht => by
          rw [hS.size]
          simpa [ht] using hdst
        simp only [List.length_cons, List.range'_succ, List.cons_append]
        have run : awOp P Gl γ (c + i) io s (fun v H T => awOps P Gl γ (c + i + 1) xs ⟨putF s.F o.dst v, H, T⟩ K) →
            (∀ s' g' a' w', K s' → Sim B N R0 lo Gl γ (c + i + (xs.length + 1)) s' g' a' w' → wpOpsIn (Fr r) 0 P ops Q js a' w') → o.wpIn (Fr r) 0 P a w (wpOpsIn (Fr r) 0 P ops Q (List.range' (i + 1) os.length ++ js)) Q := by
          intro hop hQ'
          refine awOp_soundD hst hio hop hS.frame hS.ws (fun j => hS.new _ _ (Nat.le_refl _)) hS.gl ?_
          intro v H T g' cv w' hK hg hW hrep hgl hfree
          refine ops_soundG (c := c) hst os xs (i + 1) ⟨putF s.F o.dst v, H, T⟩ g' _ w' K hd' hxs (by rw [← Nat.add_assoc]; exact hK) ⟨?_, by rw [size_put]; exact hS.size, by rw [defers_put]; exact hW, fun j k hj => ?_, hS.gam, hgl, hS.low.step hfree⟩ (fun s' g'' a' w'' hk hs => hQ' s' g'' a' w'' hk (by rw [show c + i + (xs.length + 1) = c + (i + 1) + xs.length by omega]; exact hs))
          · exact FOK.put hS.frame hg hrep hdlt
          · exact hfree _ (hS.new _ _ (by omega)) (Nat.le_refl _) (fun m e => by simp only [Prod.mk.injEq] at e; omega)
        have skip : awOps P Gl γ (c + i + 1) xs ⟨putF s.F o.dst (.tup []), s.H, s.T⟩ K →
            (∀ s' g' a' w', K s' → Sim B N R0 lo Gl γ (c + i + (xs.length + 1)) s' g' a' w' → wpOpsIn (Fr r) 0 P ops Q js a' w') → wpOpsIn (Fr r) 0 P ops Q (List.range' (i + 1) os.length ++ js) (a.put o.dst undef) w := by
          intro hop hQ'
          refine ops_soundG (c := c) hst os xs (i + 1) ⟨putF s.F o.dst (.tup []), s.H, s.T⟩ g _ w K hd' hxs (by rw [← Nat.add_assoc]; exact hop) ⟨?_, by rw [size_put]; exact hS.size, by rw [defers_put]; exact hS.ws, fun j k hj => hS.new _ _ (by omega), hS.gam, hS.gl, hS.low⟩ (fun s' g'' a' w'' hk hs => hQ' s' g'' a' w'' hk (by rw [show c + i + (xs.length + 1) = c + (i + 1) + xs.length by omega]; exact hs))
          exact FOK.put hS.frame (.refl g) rep_undef hdlt
        simp only [List.length_cons] at hQ
        split at hx
        · rename_i hgd
          cases hx
          simp only [awOps] at h
          simp only [wpOpsIn, hoi, Region.wanted, hgd, if_true]
          exact run h hQ
        · rename_i j b hgd
          split at hx
          · rename_i t ht
            split at hx
            · cases hx
              simp only [awOps] at h
              split at h
              · rename_i cb hcb
                have hyi := gcond_yield ht (hS.frame t) hcb
                have h := guard_split (o := ⟨o.dst, none, io⟩) (i := c + i) (s := s) (c := cb) h
                simp only [wpOpsIn, hoi, Region.wanted, hgd, hyi]
                cases cb
                · simp only [Bool.false_eq_true, if_false]
                  exact ⟨fun _ _ => trivial, skip (h.2 rfl) hQ⟩
                · simp only [if_true]
                  exact run (h.1 rfl) hQ
              · exact h.elim
            · cases hx
          · cases hx
      · cases hx
    · cases hc

theorem ops_sound (hst : Stays Gl) {r : Option Nat} {ops : Array Oper} {Q : Exit → Act → World → Prop} {γ c : Nat} (os : List Oper) (xs : List IOper) (i : Nat) (s : St) (g : Gh) (a : Act) (w : World) (K : St → Prop)
    (h1 : ops.toList.drop i = os) (h2 : compOpers P N ops os = some xs) (h3 : awOps P Gl γ (c + i) xs s K) (h4 : Sim B N R0 lo Gl γ (c + i) s g a w)
    (h5 : ∀ s' g' a' w', K s' → Sim B N R0 lo Gl γ (c + i + xs.length) s' g' a' w' → Q .normal a' w') : wpOpsIn (Fr r) 0 P ops Q (List.range' i os.length) a w := by
  have := ops_soundG (tl := []) (js := []) (r := r) (Q := Q) hst os xs i s g a w K (by rw [List.append_nil]; exact h1) h2 h3 h4 h5
  rwa [List.append_nil] at this

end
end Go.Ab

