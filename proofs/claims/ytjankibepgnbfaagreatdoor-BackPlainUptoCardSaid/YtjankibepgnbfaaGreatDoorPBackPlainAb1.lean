/- The abstract values: what a value of the program stands for, with slices as lists; when a machine's value stands for one; what is kept when the world grows. -/
import Derived.Below
import Derived.OwnWalk
import Derived.Tactics
import Derived.WalkKit
import Derived.OrdersIn
import Derived.RangeFuncNested
import Derived.RangeFuncCalls
set_option linter.unusedVariables false
namespace Go.Ab

abbrev Nm := Nat × Nat × Nat

inductive AV where
  | und
  | int (k : IntKind) (n : Int)
  | bool (b : Bool)
  | str (s : List UInt8)
  | nilp
  | ptr (id : Nm) (off : Nat)
  | el (cs : List AV)
  | nils
  | sl (t : Option Nm) (sz : Nat) (rows : List (List AV))
  | nilf
  | fn (f : Fn) (first caps : List AV)
  | agg (cs : List AV)
  | tup (vs : List AV)
  | mp (id : Nm)
  | yl (id : Nm)
  /-- A slice that may be written: all of a variable's block. -/
  | ms (id : Nm) (sz n : Nat)
  /-- A slice that is not nil, with room behind it. -/
  | slr (room sz : Nat) (rows : List (List AV))
  | raw (v : Value)
  deriving Inhabited

def AV.cells : AV → List AV
  | .agg cs => cs
  | x => [x]

inductive Own where
  | fresh | dead | nil
  | at (b : Nat) (e : TypeId) (sz n cap : Nat)

structure Gh where
  imm : Nat → Nat → Option Value
  mu : Nm → Option Nat
  own : Nm → Own

structure Gh.le (g g' : Gh) : Prop where
  imm : ∀ b o v, g.imm b o = some v → g'.imm b o = some v
  mu : ∀ i b, g.mu i = some b → g'.mu i = some b
  own : ∀ t, g.own t ≠ .fresh → g'.own t = g.own t ∨ g'.own t = .dead

theorem Gh.le.refl (g : Gh) : g.le g := ⟨fun _ _ _ h => h, fun _ _ h => h, fun _ _ => .inl rfl⟩
theorem Gh.le.trans {a b c : Gh} (h : a.le b) (k : b.le c) : a.le c :=
  ⟨fun _ _ _ x => k.imm _ _ _ (h.imm _ _ _ x), fun _ _ x => k.mu _ _ (h.mu _ _ x), fun t ht => by
    rcases h.own t ht with e | e
    · rcases k.own t (by rw [e]; exact ht) with e2 | e2
      · exact .inl (e2.trans e)
      · exact .inr e2
    · rcases k.own t (by rw [e]; simp) with e2 | e2
      · exact .inr (e2.trans e)
      · exact .inr e2⟩

def core (imm : Nat → Nat → Option Value) : Gh := ⟨imm, fun _ => none, fun _ => .dead⟩

def Own.fits (A : Option Addr) (sz n cap : Nat) : Own → Prop
  | .fresh => False
  | .dead => True
  | .nil => A = none
  | .at b _ z m c => A = some ⟨b, 0, none⟩ ∧ z = sz ∧ m = n ∧ c = cap

mutual
def AV.closed : AV → Bool
  | .und | .ptr .. | .mp .. | .yl _ | .ms .. | .tup .. | .agg .. | .raw _ | .sl (some _) .. => false
  | .fn _ a b => AV.closedL a && AV.closedL b
  | .int .. | .bool .. | .str .. | .nilp | .el _ | .nils | .sl none .. | .nilf | .slr .. => true
def AV.closedL : List AV → Bool
  | [] => true
  | x :: xs => x.closed && AV.closedL xs
end
mutual
def AV.strip : AV → AV
  | .sl _ sz rows => .sl none sz rows
  | .fn f a b => .fn f (AV.stripL a) (AV.stripL b)
  | .agg cs => .agg (AV.stripL cs)
  | x => x
def AV.stripL : List AV → List AV
  | [] => []
  | x :: xs => x.strip :: AV.stripL xs
end

mutual
def Rep (g : Gh) : AV → Value → Prop
  | .und, _ => True
  | .int k n, v => v = .int k n
  | .bool b, v => v = .bool b
  | .str s, v => v = .string ⟨s.toArray⟩
  | .nilp, v => v = .pointer none
  | .ptr id off, v => ∃ b, g.mu id = some b ∧ v = .pointer (some ⟨b, off, none⟩)
  | .el cs, v => ∃ b o, v = .pointer (some ⟨b, o, none⟩) ∧ RepCells g.imm b o cs
  | .nils, v => v = .slice none 0 0
  | .sl t sz rows, v => ∃ A cap, v = .slice A rows.length cap ∧
      (((A = none ∨ t = none) ∧ cap = 0 ∧ rows = []) ∨ ∃ b o, A = some ⟨b, o, none⟩ ∧ 0 < sz ∧ rows.length ≤ cap ∧ cap ≤ maxLen ∧ RepRow g.imm b sz o rows) ∧
      (∀ t', t = some t' → (g.own t').fits A sz rows.length cap)
  | .nilf, v => v = .nilFunc
  | .fn f first caps, v => ∃ fs cs, v = .func f fs cs ∧ RepL g first fs.toList ∧ RepL g caps cs.toList
  | .agg cs, v => ∃ vs, v = .agg vs ∧ RepL g cs vs.toList
  | .tup cs, v => ∃ vs, v = .tuple vs ∧ RepL g cs vs.toList
  | .mp id, v => ∃ b, g.mu id = some b ∧ v = .map (some b)
  | .yl id, v => ∃ b, g.mu id = some b ∧ v = .func (.yield b) #[] #[]
  | .ms id _ n, v => ∃ b, g.mu id = some b ∧ v = .slice (some ⟨b, 0, none⟩) n n
  | .slr room sz rows, v => ∃ A cap, v = .slice A rows.length cap ∧ A ≠ none ∧ rows.length + room ≤ cap ∧ (cap = 0 ∨ ∃ b o, A = some ⟨b, o, none⟩ ∧ 0 < sz ∧ cap ≤ maxLen ∧ RepRow g.imm b sz o rows)
  | .raw u, v => v = u
def RepL (g : Gh) : List AV → List Value → Prop
  | [], vs => vs = []
  | x :: xs, vs => ∃ v rest, vs = v :: rest ∧ Rep g x v ∧ RepL g xs rest
def RepCells (imm : Nat → Nat → Option Value) (b : Nat) : Nat → List AV → Prop
  | _, [] => True
  | o, x :: xs => (∃ v, imm b o = some v ∧ x.closed = true ∧ Rep (core imm) x v) ∧ RepCells imm b (o + 1) xs
def RepRow (imm : Nat → Nat → Option Value) (b sz : Nat) : Nat → List (List AV) → Prop
  | _, [] => True
  | o, x :: xs => RepCells imm b o x ∧ x.length = sz ∧ RepRow imm b sz (o + sz) xs
end

mutual
theorem Rep.core_mono {i i' : Nat → Nat → Option Value} (h : ∀ b o v, i b o = some v → i' b o = some v) : ∀ (x : AV) (v : Value), Rep (core i) x v → Rep (core i') x v
  | .und, _, _ => trivial
  | .int .., _, e => e
  | .bool .., _, e => e
  | .str .., _, e => e
  | .nilp, _, e => e
  | .ptr .., _, ⟨_, e, _⟩ => by simp [core] at e
  | .el cs, _, ⟨b, o, e, k⟩ => ⟨b, o, e, RepCells.mono h b cs o k⟩
  | .nils, _, e => e
  | .sl t sz rows, _, ⟨A, cap, e, k, kt⟩ => ⟨A, cap, e, k.imp id (fun ⟨b, o, e1, e2, e3, e4, e5⟩ => ⟨b, o, e1, e2, e3, e4, RepRow.mono h b sz rows o e5⟩), fun t' ht => by simp [core, Own.fits]⟩
  | .nilf, _, e => e
  | .fn _ first caps, _, ⟨fs, cs, e, k1, k2⟩ => ⟨fs, cs, e, RepL.core_mono h first _ k1, RepL.core_mono h caps _ k2⟩
  | .agg cs, _, ⟨vs, e, k⟩ => ⟨vs, e, RepL.core_mono h cs _ k⟩
  | .tup cs, _, ⟨vs, e, k⟩ => ⟨vs, e, RepL.core_mono h cs _ k⟩
  | .mp .., _, ⟨_, e, _⟩ => by simp [core] at e
  | .yl _, _, ⟨_, e, _⟩ => by simp [core] at e
  | .ms .., _, ⟨_, e, _⟩ => by simp [core] at e
  | .slr room sz rows, _, ⟨A, cap, e, e0, e1, k⟩ => ⟨A, cap, e, e0, e1, k.imp id (fun ⟨b, o, e1, e2, e3, e5⟩ => ⟨b, o, e1, e2, e3, RepRow.mono h b sz rows o e5⟩)⟩
  | .raw .., _, e => e
theorem RepL.core_mono {i i' : Nat → Nat → Option Value} (h : ∀ b o v, i b o = some v → i' b o = some v) : ∀ (xs : List AV) (vs : List Value), RepL (core i) xs vs → RepL (core i') xs vs
  | [], _, e => e
  | x :: xs, _, ⟨v, rest, e, k1, k2⟩ => ⟨v, rest, e, Rep.core_mono h x v k1, RepL.core_mono h xs rest k2⟩
theorem RepCells.mono {i i' : Nat → Nat → Option Value} (h : ∀ b o v, i b o = some v → i' b o = some v) (b : Nat) : ∀ (xs : List AV) (o : Nat), RepCells i b o xs → RepCells i' b o xs
  | [], _, _ => trivial
  | x :: xs, o, ⟨⟨v, e, e1, k⟩, k2⟩ => ⟨⟨v, h _ _ _ e, e1, Rep.core_mono h x v k⟩, RepCells.mono h b xs (o + 1) k2⟩
theorem RepRow.mono {i i' : Nat → Nat → Option Value} (h : ∀ b o v, i b o = some v → i' b o = some v) (b sz : Nat) : ∀ (xs : List (List AV)) (o : Nat), RepRow i b sz o xs → RepRow i' b sz o xs
  | [], _, _ => trivial
  | x :: xs, o, ⟨k1, k2, k3⟩ => ⟨RepCells.mono h b x o k1, k2, RepRow.mono h b sz xs (o + sz) k3⟩
end

theorem Own.fits_le {g g' : Gh} (h : g.le g') {t : Nm} {A : Option Addr} {sz n cap : Nat} (k : (g.own t).fits A sz n cap) : (g'.own t).fits A sz n cap := by
  have hf : g.own t ≠ .fresh := fun e => by rw [e] at k; exact k
  rcases h.own t hf with e | e
  · rw [e]; exact k
  · rw [e]; trivial

mutual
theorem Rep.mono {g g' : Gh} (h : g.le g') : ∀ (x : AV) (v : Value), Rep g x v → Rep g' x v
  | .und, _, _ => trivial
  | .int .., _, e => e
  | .bool .., _, e => e
  | .str .., _, e => e
  | .nilp, _, e => e
  | .ptr .., _, ⟨b, e, k⟩ => ⟨b, h.mu _ _ e, k⟩
  | .el cs, _, ⟨b, o, e, k⟩ => ⟨b, o, e, RepCells.mono h.imm b cs o k⟩
  | .nils, _, e => e
  | .sl t sz rows, _, ⟨A, cap, e, k, kt⟩ => ⟨A, cap, e, k.imp id (fun ⟨b, o, e1, e2, e3, e4, e5⟩ => ⟨b, o, e1, e2, e3, e4, RepRow.mono h.imm b sz rows o e5⟩), fun t' ht => Own.fits_le h (kt t' ht)⟩
  | .nilf, _, e => e
  | .fn _ first caps, _, ⟨fs, cs, e, k1, k2⟩ => ⟨fs, cs, e, RepL.mono h first _ k1, RepL.mono h caps _ k2⟩
  | .agg cs, _, ⟨vs, e, k⟩ => ⟨vs, e, RepL.mono h cs _ k⟩
  | .tup cs, _, ⟨vs, e, k⟩ => ⟨vs, e, RepL.mono h cs _ k⟩
  | .mp .., _, ⟨b, e, k⟩ => ⟨b, h.mu _ _ e, k⟩
  | .yl _, _, ⟨b, e, k⟩ => ⟨b, h.mu _ _ e, k⟩
  | .ms .., _, ⟨b, e, k⟩ => ⟨b, h.mu _ _ e, k⟩
  | .slr room sz rows, _, ⟨A, cap, e, e0, e1, k⟩ => ⟨A, cap, e, e0, e1, k.imp id (fun ⟨b, o, e1, e2, e3, e5⟩ => ⟨b, o, e1, e2, e3, RepRow.mono h.imm b sz rows o e5⟩)⟩
  | .raw .., _, e => e
theorem RepL.mono {g g' : Gh} (h : g.le g') : ∀ (xs : List AV) (vs : List Value), RepL g xs vs → RepL g' xs vs
  | [], _, e => e
  | x :: xs, _, ⟨v, rest, e, k1, k2⟩ => ⟨v, rest, e, Rep.mono h x v k1, RepL.mono h xs rest k2⟩
end

mutual
theorem Rep.strip {g : Gh} : ∀ (x : AV) (v : Value), Rep g x v → Rep g x.strip v
  | .sl t sz rows, _, ⟨A, cap, e, k, kt⟩ => ⟨A, cap, e, k.imp (fun ⟨_, e1, e2⟩ => ⟨.inr rfl, e1, e2⟩) id, fun t' ht => by simp at ht⟩
  | .fn f first caps, _, ⟨fs, cs, e, k1, k2⟩ => ⟨fs, cs, e, RepL.strip first _ k1, RepL.strip caps _ k2⟩
  | .agg cs, _, ⟨vs, e, k⟩ => ⟨vs, e, RepL.strip cs _ k⟩
  | .und, _, e => e
  | .int .., _, e => e
  | .bool .., _, e => e
  | .str .., _, e => e
  | .nilp, _, e => e
  | .ptr .., _, e => e
  | .el _, _, e => e
  | .nils, _, e => e
  | .nilf, _, e => e
  | .tup .., _, e => e
  | .mp .., _, e => e
  | .yl _, _, e => e
  | .ms .., _, e => e
  | .slr .., _, e => e
  | .raw .., _, e => e
theorem RepL.strip {g : Gh} : ∀ (xs : List AV) (vs : List Value), RepL g xs vs → RepL g (AV.stripL xs) vs
  | [], _, e => e
  | x :: xs, _, ⟨v, rest, e, k1, k2⟩ => ⟨v, rest, e, Rep.strip x v k1, RepL.strip xs rest k2⟩
end

mutual
theorem Rep.toCore {g : Gh} : ∀ (x : AV) (v : Value), x.closed = true → Rep g x v → Rep (core g.imm) x v
  | .int .., _, _, e => e
  | .bool .., _, _, e => e
  | .str .., _, _, e => e
  | .nilp, _, _, e => e
  | .el cs, _, _, e => e
  | .nils, _, _, e => e
  | .sl none sz rows, _, _, ⟨A, cap, e, k, kt⟩ => ⟨A, cap, e, k, fun t' ht => by simp at ht⟩
  | .nilf, _, _, e => e
  | .fn _ first caps, _, hc, ⟨fs, cs, e, k1, k2⟩ => by
    simp only [AV.closed, Bool.and_eq_true] at hc
    exact ⟨fs, cs, e, RepL.toCore first _ hc.1 k1, RepL.toCore caps _ hc.2 k2⟩
  | .sl (some _) .., _, hc, _ => by simp [AV.closed] at hc
  | .und, _, hc, _ => by simp [AV.closed] at hc
  | .ptr .., _, hc, _ => by simp [AV.closed] at hc
  | .mp .., _, hc, _ => by simp [AV.closed] at hc
  | .yl _, _, hc, _ => by simp [AV.closed] at hc
  | .ms .., _, hc, _ => by simp [AV.closed] at hc
  | .slr .., _, _, e => e
  | .tup .., _, hc, _ => by simp [AV.closed] at hc
  | .agg .., _, hc, _ => by simp [AV.closed] at hc
  | .raw .., _, hc, _ => by simp [AV.closed] at hc
theorem RepL.toCore {g : Gh} : ∀ (xs : List AV) (vs : List Value), AV.closedL xs = true → RepL g xs vs → RepL (core g.imm) xs vs
  | [], _, _, e => e
  | x :: xs, _, hc, ⟨v, rest, e, k1, k2⟩ => by
    simp only [AV.closedL, Bool.and_eq_true] at hc
    exact ⟨v, rest, e, Rep.toCore x v hc.1 k1, RepL.toCore xs rest hc.2 k2⟩
end
mutual
theorem Rep.ofCore {g : Gh} : ∀ (x : AV) (v : Value), x.closed = true → Rep (core g.imm) x v → Rep g x v
  | .int .., _, _, e => e
  | .bool .., _, _, e => e
  | .str .., _, _, e => e
  | .nilp, _, _, e => e
  | .el cs, _, _, e => e
  | .nils, _, _, e => e
  | .sl none sz rows, _, _, ⟨A, cap, e, k, kt⟩ => ⟨A, cap, e, k, fun t' ht => by simp at ht⟩
  | .nilf, _, _, e => e
  | .fn _ first caps, _, hc, ⟨fs, cs, e, k1, k2⟩ => by
    simp only [AV.closed, Bool.and_eq_true] at hc
    exact ⟨fs, cs, e, RepL.ofCore first _ hc.1 k1, RepL.ofCore caps _ hc.2 k2⟩
  | .sl (some _) .., _, hc, _ => by simp [AV.closed] at hc
  | .und, _, hc, _ => by simp [AV.closed] at hc
  | .ptr .., _, hc, _ => by simp [AV.closed] at hc
  | .mp .., _, hc, _ => by simp [AV.closed] at hc
  | .yl _, _, hc, _ => by simp [AV.closed] at hc
  | .ms .., _, hc, _ => by simp [AV.closed] at hc
  | .slr .., _, _, e => e
  | .tup .., _, hc, _ => by simp [AV.closed] at hc
  | .agg .., _, hc, _ => by simp [AV.closed] at hc
  | .raw .., _, hc, _ => by simp [AV.closed] at hc
theorem RepL.ofCore {g : Gh} : ∀ (xs : List AV) (vs : List Value), AV.closedL xs = true → RepL (core g.imm) xs vs → RepL g xs vs
  | [], _, _, e => e
  | x :: xs, _, hc, ⟨v, rest, e, k1, k2⟩ => by
    simp only [AV.closedL, Bool.and_eq_true] at hc
    exact ⟨v, rest, e, Rep.ofCore x v hc.1 k1, RepL.ofCore xs rest hc.2 k2⟩
end

def AV.one : AV → Bool
  | .und | .tup .. | .agg .. => false
  | .raw v => v.oneCell'
  | _ => true
theorem AV.one_of_closed : ∀ {x : AV}, x.closed = true → x.one = true
  | .slr .., _ => rfl
  | .int .., _ => rfl
  | .bool .., _ => rfl
  | .str .., _ => rfl
  | .nilp, _ => rfl
  | .el _, _ => rfl
  | .nils, _ => rfl
  | .sl .., _ => rfl
  | .nilf, _ => rfl
  | .fn .., _ => rfl
theorem Rep.one {g : Gh} : ∀ {x : AV} {v : Value}, x.one = true → Rep g x v → v.oneCell' = true
  | .int .., _, _, e => by cases e; rfl
  | .bool .., _, _, e => by cases e; rfl
  | .str .., _, _, e => by cases e; rfl
  | .nilp, _, _, e => by cases e; rfl
  | .ptr .., _, _, ⟨_, _, e⟩ => by cases e; rfl
  | .el cs, _, _, ⟨_, _, e, _⟩ => by cases e; rfl
  | .nils, _, _, e => by cases e; rfl
  | .sl .., _, _, ⟨A, cap, e, k, kt⟩ => by cases e; rfl
  | .nilf, _, _, e => by cases e; rfl
  | .fn .., _, _, ⟨fs, cs, e, k1, k2⟩ => by cases e; rfl
  | .mp .., _, _, ⟨_, _, e⟩ => by cases e; rfl
  | .yl _, _, _, ⟨_, _, e⟩ => by cases e; rfl
  | .ms .., _, _, ⟨_, _, e⟩ => by cases e; rfl
  | .slr .., _, _, ⟨A, cap, e, _⟩ => by cases e; rfl
  | .raw .., _, h, e => by cases e; exact h

/-! ### Lists of values -/
theorem RepL.length {g : Gh} : ∀ {xs : List AV} {vs : List Value}, RepL g xs vs → vs.length = xs.length
  | [], _, e => by cases e; rfl
  | _ :: _, _, ⟨_, _, e, _, k⟩ => by cases e; simp [RepL.length k]
theorem RepL.get {g : Gh} : ∀ {xs : List AV} {vs : List Value}, RepL g xs vs → ∀ (i : Nat) (x : AV), xs[i]? = some x → ∃ v, vs[i]? = some v ∧ Rep g x v
  | [], _, _, _, _, h => by simp at h
  | y :: ys, _, ⟨v, rest, e, k1, k2⟩, 0, x, h => by
    cases e; simp only [List.getElem?_cons_zero, Option.some.injEq] at h; cases h; exact ⟨v, rfl, k1⟩
  | y :: ys, _, ⟨v, rest, e, k1, k2⟩, i + 1, x, h => by
    cases e; simp only [List.getElem?_cons_succ] at h ⊢; exact RepL.get k2 i x h
theorem RepL.append {g : Gh} : ∀ {xs ys : List AV} {vs us : List Value}, RepL g xs vs → RepL g ys us → RepL g (xs ++ ys) (vs ++ us)
  | [], _, _, _, e, k => by cases e; exact k
  | _ :: _, _, _, _, ⟨v, rest, e, k1, k2⟩, k => by cases e; exact ⟨v, _, rfl, k1, RepL.append k2 k⟩
theorem RepL.drop {g : Gh} : ∀ (n : Nat) {xs : List AV} {vs : List Value}, RepL g xs vs → RepL g (xs.drop n) (vs.drop n)
  | 0, _, _, k => by simpa using k
  | n + 1, [], _, e => by cases e; exact rfl
  | n + 1, _ :: _, _, ⟨v, rest, e, k1, k2⟩ => by cases e; simpa using RepL.drop n k2
theorem RepL.take {g : Gh} : ∀ (n : Nat) {xs : List AV} {vs : List Value}, RepL g xs vs → RepL g (xs.take n) (vs.take n)
  | 0, _, _, k => by simp only [List.take_zero]; exact rfl
  | n + 1, [], _, e => by cases e; exact rfl
  | n + 1, _ :: _, _, ⟨v, rest, e, k1, k2⟩ => by cases e; simp only [List.take_succ_cons]; exact ⟨v, _, rfl, k1, RepL.take n k2⟩
theorem RepL.set {g : Gh} : ∀ {xs : List AV} {vs : List Value}, RepL g xs vs → ∀ (i : Nat) {x : AV} {v : Value}, Rep g x v → RepL g (xs.set i x) (vs.set i v)
  | [], _, e, _, _, _, _ => by cases e; exact rfl
  | _ :: _, _, ⟨v, rest, e, k1, k2⟩, 0, _, _, k => by cases e; exact ⟨_, _, rfl, k, k2⟩
  | _ :: _, _, ⟨v, rest, e, k1, k2⟩, i + 1, _, _, k => by cases e; exact ⟨_, _, rfl, k1, RepL.set k2 i k⟩
theorem RepL.nil (g : Gh) : RepL g [] [] := rfl
theorem RepL.cons {g : Gh} {x : AV} {xs : List AV} {v : Value} {vs : List Value} (h : Rep g x v) (k : RepL g xs vs) : RepL g (x :: xs) (v :: vs) := ⟨_, _, rfl, h, k⟩

/-! ### Cells and rows -/
theorem RepCells.get {imm : Nat → Nat → Option Value} {b : Nat} : ∀ {xs : List AV} {o : Nat}, RepCells imm b o xs → ∀ (i : Nat) (x : AV), xs[i]? = some x →
    ∃ v, imm b (o + i) = some v ∧ x.closed = true ∧ Rep (core imm) x v
  | [], _, _, _, _, h => by simp at h
  | y :: ys, o, ⟨⟨v, e, k0, k1⟩, k2⟩, 0, x, h => by
    simp only [List.getElem?_cons_zero, Option.some.injEq] at h; cases h; exact ⟨v, e, k0, k1⟩
  | y :: ys, o, ⟨_, k2⟩, i + 1, x, h => by
    simp only [List.getElem?_cons_succ] at h
    have := RepCells.get k2 i x h
    rwa [show o + 1 + i = o + (i + 1) by omega] at this
theorem RepCells.drop {imm : Nat → Nat → Option Value} {b : Nat} : ∀ (n : Nat) {xs : List AV} {o : Nat}, RepCells imm b o xs → RepCells imm b (o + n) (xs.drop n)
  | 0, _, _, k => by simpa using k
  | n + 1, [], _, _ => by simp [RepCells]
  | n + 1, _ :: _, o, ⟨_, k⟩ => by have := RepCells.drop n k; rwa [show o + 1 + n = o + (n + 1) by omega] at this
theorem RepCells.take {imm : Nat → Nat → Option Value} {b : Nat} : ∀ (n : Nat) {xs : List AV} {o : Nat}, RepCells imm b o xs → RepCells imm b o (xs.take n)
  | 0, _, _, _ => by simp [RepCells]
  | n + 1, [], _, _ => by simp [RepCells]
  | n + 1, _ :: _, o, ⟨k1, k⟩ => ⟨k1, RepCells.take n k⟩
theorem RepCells.vals {g : Gh} {b : Nat} : ∀ {xs : List AV} {o : Nat}, RepCells g.imm b o xs → ∃ vs, RepL g xs vs ∧ (∀ v ∈ vs, v.oneCell' = true) ∧ ∀ i v, vs[i]? = some v → g.imm b (o + i) = some v
  | [], _, _ => ⟨[], rfl, by simp, by simp⟩
  | x :: xs, o, ⟨⟨v, e, k0, k1⟩, k2⟩ => by
    obtain ⟨vs, h1, h2, h3⟩ := RepCells.vals (g := g) k2
    refine ⟨v :: vs, ⟨v, vs, rfl, Rep.ofCore x v k0 k1, h1⟩, ?_, ?_⟩
    · intro u hu
      cases hu with
      | head => exact Rep.one (AV.one_of_closed k0) k1
      | tail _ h => exact h2 u h
    · intro i u hi
      cases i with
      | zero => simp at hi; subst hi; exact e
      | succ i => simp at hi; have := h3 i u hi; rwa [show o + 1 + i = o + (i + 1) by omega] at this
theorem RepCells.of_vals {g : Gh} {b : Nat} : ∀ {xs : List AV} {vs : List Value} {o : Nat}, RepL g xs vs → AV.closedL xs = true → (∀ i v, vs[i]? = some v → g.imm b (o + i) = some v) → RepCells g.imm b o xs
  | [], _, _, _, _, _ => trivial
  | x :: xs, _, o, ⟨v, rest, e, k1, k2⟩, hc, h => by
    cases e
    simp only [AV.closedL, Bool.and_eq_true] at hc
    refine ⟨⟨v, by simpa using h 0 v rfl, hc.1, Rep.toCore x v hc.1 k1⟩, RepCells.of_vals k2 hc.2 fun i u hi => ?_⟩
    have := h (i + 1) u (by simpa using hi)
    rwa [show o + (i + 1) = o + 1 + i by omega] at this
theorem RepRow.get {imm : Nat → Nat → Option Value} {b sz : Nat} : ∀ {rows : List (List AV)} {o : Nat}, RepRow imm b sz o rows → ∀ (i : Nat) (x : List AV), rows[i]? = some x → RepCells imm b (o + i * sz) x ∧ x.length = sz
  | [], _, _, _, _, h => by simp at h
  | y :: ys, o, ⟨k1, k2, k3⟩, 0, x, h => by simp at h; subst h; exact ⟨by simpa using k1, k2⟩
  | y :: ys, o, ⟨k1, k2, k3⟩, i + 1, x, h => by
    simp only [List.getElem?_cons_succ] at h
    have := RepRow.get k3 i x h
    rwa [show o + sz + i * sz = o + (i + 1) * sz by rw [Nat.add_mul]; omega] at this
theorem RepRow.drop {imm : Nat → Nat → Option Value} {b sz : Nat} : ∀ (n : Nat) {rows : List (List AV)} {o : Nat}, RepRow imm b sz o rows → RepRow imm b sz (o + n * sz) (rows.drop n)
  | 0, _, _, k => by simpa using k
  | n + 1, [], _, _ => by simp [RepRow]
  | n + 1, _ :: _, o, ⟨_, _, k⟩ => by have := RepRow.drop n k; rwa [show o + sz + n * sz = o + (n + 1) * sz by rw [Nat.add_mul]; omega] at this
theorem RepRow.take {imm : Nat → Nat → Option Value} {b sz : Nat} : ∀ (n : Nat) {rows : List (List AV)} {o : Nat}, RepRow imm b sz o rows → RepRow imm b sz o (rows.take n)
  | 0, _, _, _ => by simp [RepRow]
  | n + 1, [], _, _ => by simp [RepRow]
  | n + 1, _ :: _, o, ⟨k1, k2, k⟩ => ⟨k1, k2, RepRow.take n k⟩
theorem RepRow.flat {imm : Nat → Nat → Option Value} {b sz : Nat} : ∀ {rows : List (List AV)} {o : Nat}, RepRow imm b sz o rows → RepCells imm b o rows.flatten ∧ rows.flatten.length = rows.length * sz
  | [], _, _ => by simp [RepCells]
  | x :: xs, o, ⟨k1, k2, k3⟩ => by
    obtain ⟨h1, h2⟩ := RepRow.flat k3
    refine ⟨?_, by simp [h2, k2, Nat.add_mul, Nat.add_comm]⟩
    clear h2 k3
    simp only [List.flatten_cons]
    generalize xs.flatten = ys at *
    subst k2
    induction x generalizing o with
    | nil => simpa using h1
    | cons y x ih => exact ⟨k1.1, ih (o + 1) k1.2 (by rw [show o + 1 + x.length = o + (y :: x).length by simp; omega]; exact h1)⟩
theorem RepCells.append_left {imm : Nat → Nat → Option Value} {b : Nat} : ∀ {xs ys : List AV} {o : Nat}, RepCells imm b o (xs ++ ys) → RepCells imm b o xs ∧ RepCells imm b (o + xs.length) ys
  | [], _, _, k => ⟨trivial, by simpa using k⟩
  | x :: xs, ys, o, ⟨k1, k2⟩ => by
    obtain ⟨h1, h2⟩ := RepCells.append_left k2
    exact ⟨⟨k1, h1⟩, by rw [show o + (x :: xs).length = o + 1 + xs.length by simp; omega]; exact h2⟩
theorem RepRow.of_flat {imm : Nat → Nat → Option Value} {b sz : Nat} : ∀ {rows : List (List AV)} {o : Nat}, RepCells imm b o rows.flatten → (∀ x ∈ rows, x.length = sz) → RepRow imm b sz o rows
  | [], _, _, _ => trivial
  | x :: xs, o, k, h => by
    obtain ⟨h1, h2⟩ := RepCells.append_left (xs := x) (ys := xs.flatten) (by simpa using k)
    have hx := h x (by simp)
    exact ⟨h1, hx, RepRow.of_flat (by rwa [hx] at h2) (fun y hy => h y (by simp [hy]))⟩
end Go.Ab

