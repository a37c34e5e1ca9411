/- What holds of a world of which the abstract heap is a picture, and what the machine's steps on memory keep of it. -/
import Derived.Test.YtjankibepgnbfaaGreatDoorPBackPlainAb1
set_option linter.unusedVariables false
namespace Go.Ab

inductive HB where
  | cells (cs : List AV)
  | mapp (es : List (AV × AV))
  | obj (o : Obj)

abbrev Hp := List (Nm × HB)
abbrev Tk := Nm → Prop

def Gh.free (g : Gh) (n : Nm) : Prop := g.mu n = none ∧ g.own n = .fresh

def frok (fr : Nat × Nat) (n : Nat) : Prop := fr = (0, 0) ∨ n ≤ fr.1

def fixB : List (Nat × Array Value) := [(3, ((List.range 20).map fun i => Value.int .u64 ((10 ^ i : Nat) : Int)).toArray)]
def FixW (w : World) : Prop := ∀ p ∈ fixB, ∃ e fr, w.heap[p.1]? = some (.cells p.2 e fr)

structure HInv (g : Gh) (w : World) : Prop where
  imm : ∀ b o v, g.imm b o = some v → w.cell? ⟨b, o, none⟩ = some v
  mu : ∀ i b, g.mu i = some b → b < w.heap.size ∧ ∀ o, g.imm b o = none
  inj : ∀ i j b, g.mu i = some b → g.mu j = some b → i = j
  own : ∀ t b e sz n cap, g.own t = .at b e sz n cap → (∃ cur fr, w.heap[b]? = some (.cells cur e fr) ∧ cur.size = cap * sz ∧ frok fr cur.size) ∧ n ≤ cap ∧ cap ≤ maxLen ∧ (∀ o, n * sz ≤ o → g.imm b o = none) ∧ ∀ i, g.mu i ≠ some b
  inj2 : ∀ t t' b e sz n cap e' sz' n' cap', g.own t = .at b e sz n cap → g.own t' = .at b e' sz' n' cap' → t = t'
  top : ∃ G, 1 ≤ G ∧ ∀ n : Nm, G ≤ n.1 → g.free n
  fix : ∀ p ∈ fixB, (∃ e fr, w.heap[p.1]? = some (.cells p.2 e fr)) ∧ (∀ i, g.mu i ≠ some p.1) ∧ ∀ t e sz n cap, g.own t ≠ .at p.1 e sz n cap

def HBok (g : Gh) (w : World) (b : Nat) : HB → Prop
  | .cells cs => ∃ vs ty, w.heap[b]? = some (.cells vs ty (0, 0)) ∧ RepL g cs vs.toList
  | .mapp es => ∃ vs ck, w.heap[b]? = some (.map vs ck) ∧ RepL g (es.map (·.1)) (vs.toList.map (·.key)) ∧ RepL g (es.map (·.2)) (vs.toList.map (·.val))
  | .obj o => w.heap[b]? = some o

def HOK (g : Gh) (H : Hp) (w : World) : Prop := ∀ p ∈ H, ∃ b, g.mu p.1 = some b ∧ HBok g w b p.2
def TOK (g : Gh) (T : Tk) : Prop := ∀ t, T t → g.own t ≠ .dead ∧ g.own t ≠ .fresh

theorem Gh.le.fresh {g g' : Gh} (h : g.le g') {t : Nm} (k : g'.own t = .fresh) : g.own t = .fresh := by
  cases e : g.own t with
  | fresh => rfl
  | dead => rcases h.own t (by rw [e]; simp) with x | x <;> rw [k] at x <;> simp [e] at x
  | nil => rcases h.own t (by rw [e]; simp) with x | x <;> rw [k] at x <;> simp [e] at x
  | «at» => rcases h.own t (by rw [e]; simp) with x | x <;> rw [k] at x <;> simp [e] at x

structure Base where
  w0 : World
  g0 : Gh
  M : Nat → Prop
  K : Nm → Prop

structure Keeps (B : Base) (g : Gh) (w : World) : Prop where
  os : w.os = B.w0.os
  tape : w.tape = B.w0.tape
  output : w.output = B.w0.output
  size : B.w0.heap.size ≤ w.heap.size
  block : ∀ b, b < B.w0.heap.size → ¬ B.M b → w.heap[b]? = B.w0.heap[b]?
  imm : ∀ b, b < B.w0.heap.size → ¬ B.M b → ∀ o, g.imm b o = B.g0.imm b o
  mu : ∀ i b, g.mu i = some b → b < B.w0.heap.size → B.g0.mu i = some b
  own : ∀ t, B.g0.own t ≠ .fresh → ¬ B.K t → g.own t = B.g0.own t

structure WS (B : Base) (H : Hp) (T : Tk) (g : Gh) (w : World) : Prop where
  inv : HInv g w
  heap : HOK g H w
  toks : TOK g T
  keeps : Keeps B g w
  hM : ∀ p ∈ H, ∀ b, g.mu p.1 = some b → B.M b ∨ B.w0.heap.size ≤ b
  tM : ∀ t, T t → ∀ b e sz n cap, g.own t = .at b e sz n cap → B.M b ∨ B.w0.heap.size ≤ b
  tK : ∀ t, T t → B.K t ∨ B.g0.own t = .fresh
  le : B.g0.le g

/-! ### Worlds with the same memory -/
theorem cell_of_heap {w w' : World} (h : w'.heap = w.heap) (a : Addr) : w'.cell? a = w.cell? a := by simp [World.cell?, h]
theorem HInv.of_heap {g : Gh} {w w' : World} (h : w'.heap = w.heap) (k : HInv g w) : HInv g w' :=
  ⟨fun b o v e => by rw [cell_of_heap h]; exact k.imm b o v e, fun i b e => by rw [h]; exact k.mu i b e, k.inj, fun t b e sz n cap x => by rw [h]; exact k.own t b e sz n cap x, k.inj2, k.top, fun p hp => by rw [h]; exact k.fix p hp⟩
theorem HBok.of_heap {g : Gh} {w w' : World} (h : w'.heap = w.heap) {b : Nat} : ∀ {x : HB}, HBok g w b x → HBok g w' b x
  | .cells _, ⟨vs, ty, e, k⟩ => ⟨vs, ty, by rw [h]; exact e, k⟩
  | .mapp _, ⟨vs, ck, e, k⟩ => ⟨vs, ck, by rw [h]; exact e, k⟩
  | .obj _, e => by unfold HBok at e ⊢; rw [h]; exact e
theorem WS.of_same {B : Base} {H : Hp} {T : Tk} {g : Gh} {w w' : World} (k : WS B H T g w) (h : w'.heap = w.heap) (ho : w'.os = w.os) (ht : w'.tape = w.tape) (hp : w'.output = w.output) : WS B H T g w' :=
  ⟨k.inv.of_heap h, fun p hp' => let ⟨b, e, x⟩ := k.heap p hp'; ⟨b, e, x.of_heap h⟩, k.toks,
    ⟨ho.trans k.keeps.os, ht.trans k.keeps.tape, hp.trans k.keeps.output, by rw [h]; exact k.keeps.size, fun b h1 h2 => by rw [h]; exact k.keeps.block b h1 h2, k.keeps.imm, k.keeps.mu, k.keeps.own⟩, k.hM, k.tM, k.tK, k.le⟩
theorem WS.drew {B : Base} {H : Hp} {T : Tk} {g : Gh} {w : World} (k : WS B H T g w) : WS B H T g { w with drawn := w.drawn + 1 } := k.of_same rfl rfl rfl rfl

theorem WS.weaken {B : Base} {H H' : Hp} {T T' : Tk} {g : Gh} {w : World} (k : WS B H T g w) (hH : ∀ p ∈ H', p ∈ H) (hT : ∀ t, T' t → T t) : WS B H' T' g w :=
  ⟨k.inv, fun p hp => k.heap p (hH p hp), fun t ht => k.toks t (hT t ht), k.keeps, fun p hp => k.hM p (hH p hp), fun t ht => k.tM t (hT t ht), fun t ht => k.tK t (hT t ht), k.le⟩

/-! ### A new block -/
theorem size_alloc' (w : World) (o : Obj) : (w.alloc o).heap.size = w.heap.size + 1 := by simp
theorem heap_new' (w : World) (o : Obj) : (w.alloc o).heap[w.heap.size]? = some o := heap_alloc_new w o
theorem heap_old' (w : World) (o : Obj) {b : Nat} (h : b < w.heap.size) : (w.alloc o).heap[b]? = w.heap[b]? := heap_alloc_old w o h
theorem lt_of_some {w : World} {b : Nat} {o : Obj} (h : w.heap[b]? = some o) : b < w.heap.size := (Array.getElem?_eq_some_iff.1 h).1
theorem lt_of_cell {w : World} {b o : Nat} {v : Value} (h : w.cell? ⟨b, o, none⟩ = some v) : b < w.heap.size := World.block_lt_of_cell? w _ h
theorem cell_old' (w : World) (o : Obj) {b i : Nat} {v : Value} (h : w.cell? ⟨b, i, none⟩ = some v) : (w.alloc o).cell? ⟨b, i, none⟩ = some v := by
  rw [World.cell?_of_block (w := w) (heap_old' w o (lt_of_cell h))]; exact h
theorem HInv.imm_lt {g : Gh} {w : World} (k : HInv g w) {b o : Nat} {v : Value} (h : g.imm b o = some v) : b < w.heap.size := lt_of_cell (k.imm b o v h)
theorem HInv.imm_new {g : Gh} {w : World} (k : HInv g w) {b : Nat} (h : w.heap.size ≤ b) (o : Nat) : g.imm b o = none := by
  cases e : g.imm b o with
  | none => rfl
  | some v => exact absurd (k.imm_lt e) (by omega)

theorem HBok.mono {g g' : Gh} (h : g.le g') {w : World} {b : Nat} : ∀ {x : HB}, HBok g w b x → HBok g' w b x
  | .cells _, ⟨vs, ty, e, k⟩ => ⟨vs, ty, e, RepL.mono h _ _ k⟩
  | .mapp _, ⟨vs, ck, e, k1, k2⟩ => ⟨vs, ck, e, RepL.mono h _ _ k1, RepL.mono h _ _ k2⟩
  | .obj _, e => e
theorem HBok.of_block {g : Gh} {w w' : World} {b : Nat} (h : w'.heap[b]? = w.heap[b]?) : ∀ {x : HB}, HBok g w b x → HBok g w' b x
  | .cells _, ⟨vs, ty, e, k⟩ => ⟨vs, ty, h.trans e, k⟩
  | .mapp _, ⟨vs, ck, e, k⟩ => ⟨vs, ck, h.trans e, k⟩
  | .obj _, e => h.trans e
theorem HBok.lt {g : Gh} {w : World} {b : Nat} : ∀ {x : HB}, HBok g w b x → b < w.heap.size
  | .cells _, ⟨_, _, e, _⟩ => lt_of_some e
  | .mapp _, ⟨_, _, e, _⟩ => lt_of_some e
  | .obj _, e => lt_of_some e

def Gh.addMu (g : Gh) (nm : Nm) (b : Nat) : Gh := { g with mu := fun i => if i = nm then some b else g.mu i }
theorem Gh.le_addMu {g : Gh} {nm : Nm} (h : g.mu nm = none) (b : Nat) : g.le (g.addMu nm b) :=
  ⟨fun _ _ _ e => e, fun i b' e => by
    simp only [Gh.addMu]
    split
    · rename_i hi; rw [hi, h] at e; cases e
    · exact e, fun _ _ => .inl rfl⟩

theorem top_addMu {g : Gh} {nm : Nm} {b : Nat} (h : ∃ G, 1 ≤ G ∧ ∀ n : Nm, G ≤ n.1 → g.free n) : ∃ G, 1 ≤ G ∧ ∀ n : Nm, G ≤ n.1 → (g.addMu nm b).free n := by
  obtain ⟨G, h1, h2⟩ := h
  refine ⟨max G (nm.1 + 1), by omega, fun n hn => ?_⟩
  obtain ⟨e1, e2⟩ := h2 n (by omega)
  refine ⟨?_, e2⟩
  simp only [Gh.addMu]
  rw [if_neg (by rintro rfl; omega)]; exact e1

theorem WS.addBlock {B : Base} {H : Hp} {T : Tk} {g : Gh} {w : World} (k : WS B H T g w) {nm : Nm} (hf : g.free nm) (o : Obj) (hb : HB)
    (hok : ∀ g', g.le g' → HBok g' (w.alloc o) w.heap.size hb) :
    g.le (g.addMu nm w.heap.size) ∧ WS B ((nm, hb) :: H) T (g.addMu nm w.heap.size) (w.alloc o) := by
  have hle := Gh.le_addMu hf.1 w.heap.size
  refine ⟨hle, ⟨⟨fun b i v e => cell_old' w o (k.inv.imm b i v e), fun i b e => ?_, fun i j b e1 e2 => ?_, fun t b e sz n cap x => ?_, k.inv.inj2, top_addMu k.inv.top, fun p hp => (by
      obtain ⟨⟨e, fr, h1⟩, h2, h3⟩ := k.inv.fix p hp
      refine ⟨⟨e, fr, by rw [heap_old' w o (lt_of_some h1)]; exact h1⟩, fun i e' => ?_, h3⟩
      simp only [Gh.addMu] at e'
      split at e'
      · simp only [Option.some.injEq] at e'
        have := lt_of_some h1
        omega
      · exact h2 i e')⟩, fun p hp => ?_, k.toks, ⟨k.keeps.os, k.keeps.tape, k.keeps.output, ?_, fun b h1 h2 => ?_, k.keeps.imm, fun i b e h => ?_, k.keeps.own⟩, fun p hp b e => ?_, k.tM, k.tK, k.le.trans hle⟩⟩
  · simp only [Gh.addMu] at e
    split at e
    · cases e; exact ⟨by simp, fun o' => k.inv.imm_new (Nat.le_refl _) o'⟩
    · obtain ⟨h1, h2⟩ := k.inv.mu i b e; exact ⟨by simp; omega, h2⟩
  · simp only [Gh.addMu] at e1 e2
    split at e1 <;> split at e2
    · simp_all
    · cases e1; exact absurd (k.inv.mu j _ e2).1 (by omega)
    · cases e2; exact absurd (k.inv.mu i _ e1).1 (by omega)
    · exact k.inv.inj i j b e1 e2
  · obtain ⟨⟨cur, fr, h1, h2, hfr⟩, h3, h4, h5, h6⟩ := k.inv.own t b e sz n cap x
    refine ⟨⟨cur, fr, by rw [heap_old' w o (lt_of_some h1)]; exact h1, h2, hfr⟩, h3, h4, h5, fun i e' => ?_⟩
    simp only [Gh.addMu] at e'
    split at e'
    · cases e'; exact absurd (lt_of_some h1) (by omega)
    · exact h6 i e'
  · cases hp with
    | head => exact ⟨w.heap.size, by simp [Gh.addMu], hok _ hle⟩
    | tail _ hp =>
      obtain ⟨b, e, x⟩ := k.heap p hp
      exact ⟨b, hle.mu _ _ e, (x.mono hle).of_block (heap_old' w o x.lt)⟩
  · simp only [size_alloc']; have := k.keeps.size; omega
  · rw [heap_old' w o (Nat.lt_of_lt_of_le h1 k.keeps.size)]; exact k.keeps.block b h1 h2
  · simp only [Gh.addMu] at e
    split at e
    · cases e; exact absurd k.keeps.size (by omega)
    · exact k.keeps.mu i b e h
  · cases hp with
    | head => simp [Gh.addMu] at e; subst e; exact .inr k.keeps.size
    | tail _ hp =>
      obtain ⟨b', e', x⟩ := k.heap p hp
      have := hle.mu _ _ e'
      rw [this] at e; cases e
      exact k.hM p hp _ e'

theorem addMu_free {g : Gh} {nm n : Nm} {b : Nat} (hn : n ≠ nm) (h : g.free n) : (g.addMu nm b).free n := ⟨by simp only [Gh.addMu]; rw [if_neg hn]; exact h.1, h.2⟩

/-! ### A new row -/
def Gh.addRow (g : Gh) (nm : Nm) (b : Nat) (vs : List Value) (x : Own) : Gh :=
  { g with imm := fun b' o => if b' = b then vs[o]? else g.imm b' o, own := fun t => if t = nm then x else g.own t }

theorem Gh.le_addRow {g : Gh} {w : World} (k : HInv g w) {nm : Nm} (hf : g.own nm = .fresh) (vs : List Value) (x : Own) : g.le (g.addRow nm w.heap.size vs x) :=
  ⟨fun b o v e => by
    simp only [Gh.addRow]
    rw [if_neg (by rintro rfl; rw [k.imm_new (Nat.le_refl _)] at e; cases e)]; exact e,
   fun _ _ e => e, fun t ht => by
    simp only [Gh.addRow]
    split
    · rename_i h; rw [h] at ht; exact absurd hf ht
    · exact .inl rfl⟩

theorem top_addRow {g : Gh} {nm : Nm} {b : Nat} {vs : List Value} {x : Own} (h : ∃ G, 1 ≤ G ∧ ∀ n : Nm, G ≤ n.1 → g.free n) : ∃ G, 1 ≤ G ∧ ∀ n : Nm, G ≤ n.1 → (g.addRow nm b vs x).free n := by
  obtain ⟨G, h1, h2⟩ := h
  refine ⟨max G (nm.1 + 1), by omega, fun n hn => ?_⟩
  obtain ⟨e1, e2⟩ := h2 n (by omega)
  refine ⟨e1, ?_⟩
  simp only [Gh.addRow]
  rw [if_neg (by rintro rfl; omega)]; exact e2
theorem addRow_free {g : Gh} {nm n : Nm} {b : Nat} {vs : List Value} {x : Own} (hn : n ≠ nm) (h : g.free n) : (g.addRow nm b vs x).free n := ⟨h.1, by simp only [Gh.addRow]; rw [if_neg hn]; exact h.2⟩

theorem cells_alloc (w : World) (cs : Array Value) (e : TypeId) (fr : Nat × Nat) (o : Nat) : (w.alloc (.cells cs e fr)).cell? ⟨w.heap.size, o, none⟩ = cs[o]? := by
  have h := heap_new' w (.cells cs e fr)
  unfold World.cell?
  rw [h]
  rfl

theorem WS.addRow {B : Base} {H : Hp} {T : Tk} {g : Gh} {w : World} (k : WS B H T g w) {nm : Nm} (hf : g.free nm) (cs : Array Value) (e : TypeId) (fr : Nat × Nat) (vs : List Value) (x : Own)
    (hcs : ∀ (o : Nat) (v : Value), vs[o]? = some v → cs[o]? = some v)
    (hx : x = .dead ∨ ∃ sz n cap, x = .at w.heap.size e sz n cap ∧ frok fr cs.size ∧ cs.size = cap * sz ∧ n ≤ cap ∧ cap ≤ maxLen ∧ vs.length ≤ n * sz) :
    g.le (g.addRow nm w.heap.size vs x) ∧ WS B H (fun t => (t = nm ∧ x ≠ .dead) ∨ T t) (g.addRow nm w.heap.size vs x) (w.alloc (.cells cs e fr)) := by
  have hle := Gh.le_addRow k.inv hf.2 vs x
  have hxf : x ≠ .fresh := by rcases hx with rfl | ⟨_, _, _, rfl, _⟩ <;> simp
  have himm : ∀ b, b ≠ w.heap.size → ∀ o, (g.addRow nm w.heap.size vs x).imm b o = g.imm b o := fun b hb o => by simp only [Gh.addRow]; rw [if_neg hb]
  refine ⟨hle, ⟨⟨fun b i v e' => ?_, fun i b e' => ?_, k.inv.inj, fun t b e' sz n cap x' => ?_, fun t t' b e1 sz n cap e2 sz' n' cap' x1 x2 => ?_, top_addRow k.inv.top, fun p hp => (by
      obtain ⟨⟨e', fr', h1⟩, h2, h3⟩ := k.inv.fix p hp
      refine ⟨⟨e', fr', by rw [heap_old' w _ (lt_of_some h1)]; exact h1⟩, h2, fun t e1 sz n cap x' => ?_⟩
      simp only [Gh.addRow] at x'
      split at x'
      · rcases hx with rfl | ⟨sz', n', cap', rfl, _⟩
        · cases x'
        · simp only [Own.at.injEq] at x'
          have := lt_of_some h1
          omega
      · exact h3 _ _ _ _ _ x')⟩, fun p hp => ?_, fun t ht => ?_, ⟨k.keeps.os, k.keeps.tape, k.keeps.output, ?_, fun b h1 h2 => ?_, fun b h1 h2 o => ?_, k.keeps.mu, fun t h1 h2 => ?_⟩, k.hM, fun t ht b e' sz n cap x' => ?_, fun t ht => ?_, k.le.trans hle⟩⟩
  · by_cases hb : b = w.heap.size
    · subst hb
      simp only [Gh.addRow, if_true] at e'
      rw [cells_alloc]; exact hcs i v e'
    · rw [himm b hb] at e'; exact cell_old' w _ (k.inv.imm b i v e')
  · obtain ⟨h1, h2⟩ := k.inv.mu i b e'
    exact ⟨by simp; omega, fun o => by rw [himm b (by omega)]; exact h2 o⟩
  · simp only [Gh.addRow] at x'
    split at x'
    · rcases hx with rfl | ⟨sz', n', cap', rfl, hfr, h1, h2, h3, h4⟩
      · cases x'
      · cases x'
        refine ⟨⟨cs, fr, heap_new' w _, h1, hfr⟩, h2, h3, fun o ho => ?_, fun i e'' => absurd (k.inv.mu i _ e'').1 (by omega)⟩
        simp only [Gh.addRow, if_true]
        exact List.getElem?_eq_none (by omega)
    · obtain ⟨⟨cur, fr', h1, h2, hfr⟩, h3, h4, h5, h6⟩ := k.inv.own t b e' sz n cap x'
      refine ⟨⟨cur, fr', by rw [heap_old' w _ (lt_of_some h1)]; exact h1, h2, hfr⟩, h3, h4, fun o ho => ?_, h6⟩
      rw [himm b (by have := lt_of_some h1; omega)]; exact h5 o ho
  · have key : ∀ t b e sz n cap, g.own t = .at b e sz n cap → b ≠ w.heap.size := fun t b e sz n cap h => by
      obtain ⟨⟨cur, _, h1, _⟩, _⟩ := k.inv.own t b e sz n cap h
      have := lt_of_some h1; omega
    simp only [Gh.addRow] at x1 x2
    split at x1 <;> split at x2
    · simp_all
    · rcases hx with rfl | ⟨_, _, _, rfl, _⟩
      · cases x1
      · cases x1; exact absurd rfl (key _ _ _ _ _ _ x2)
    · rcases hx with rfl | ⟨_, _, _, rfl, _⟩
      · cases x2
      · cases x2; exact absurd rfl (key _ _ _ _ _ _ x1)
    · exact k.inv.inj2 _ _ _ _ _ _ _ _ _ _ _ x1 x2
  · obtain ⟨b, e', y⟩ := k.heap p hp
    exact ⟨b, e', (y.mono hle).of_block (heap_old' w _ y.lt)⟩
  · simp only [Gh.addRow]
    by_cases h : t = nm
    · rw [if_pos h]
      rcases ht with ⟨_, h2⟩ | h2
      · exact ⟨h2, hxf⟩
      · rw [h] at h2; exact absurd hf.2 (k.toks _ h2).2
    · rw [if_neg h]
      rcases ht with ⟨h1, _⟩ | h2
      · exact absurd h1 h
      · exact k.toks t h2
  · simp only [size_alloc']; have := k.keeps.size; omega
  · rw [heap_old' w _ (Nat.lt_of_lt_of_le h1 k.keeps.size)]; exact k.keeps.block b h1 h2
  · rw [himm b (by have := k.keeps.size; omega)]; exact k.keeps.imm b h1 h2 o
  · simp only [Gh.addRow]
    rw [if_neg (by rintro rfl; exact h1 (k.le.fresh hf.2))]; exact k.keeps.own t h1 h2
  · simp only [Gh.addRow] at x'
    split at x'
    · rcases hx with rfl | ⟨_, _, _, rfl, _⟩
      · cases x'
      · cases x'; exact .inr k.keeps.size
    · rename_i hne
      rcases ht with ⟨h1, _⟩ | h2
      · exact absurd h1 hne
      · exact k.tM t h2 b e' sz n cap x'
  · rcases ht with ⟨rfl, _⟩ | h2
    · exact .inr (k.le.fresh hf.2)
    · exact k.tK t h2

structure OnlyAt (w w' : World) (b : Nat) : Prop where
  os : w'.os = w.os
  tape : w'.tape = w.tape
  output : w'.output = w.output
  size : w'.heap.size = w.heap.size
  block : ∀ b', b' ≠ b → w'.heap[b']? = w.heap[b']?

theorem OnlyAt.cell {w w' : World} {b : Nat} (h : OnlyAt w w' b) {b' : Nat} (hb : b' ≠ b) (o : Nat) : w'.cell? ⟨b', o, none⟩ = w.cell? ⟨b', o, none⟩ := World.cell?_of_block (h.block b' hb)

def setH (H : Hp) (id : Nm) (hb : HB) : Hp := H.map fun p => if p.1 = id then (p.1, hb) else p
def getH : Hp → Nm → Option HB
  | [], _ => none
  | p :: H, id => if p.1 = id then some p.2 else getH H id
theorem getH_mem {id : Nm} {hb : HB} : ∀ {H : Hp}, getH H id = some hb → (id, hb) ∈ H
  | [], h => by simp [getH] at h
  | p :: H, h => by
    simp only [getH] at h
    split at h
    · rename_i hp; cases h; rw [← hp]; exact List.mem_cons_self
    · exact List.mem_cons_of_mem _ (getH_mem h)

theorem WS.setBlock {B : Base} {H : Hp} {T : Tk} {g : Gh} {w w' : World} (k : WS B H T g w) {id : Nm} {b : Nat} {old new : HB} (hid : (id, old) ∈ H) (hb : g.mu id = some b)
    (ho : OnlyAt w w' b) (hok : HBok g w' b new) : WS B (setH H id new) T g w' := by
  have hno : ∀ o, g.imm b o = none := (k.inv.mu id b hb).2
  refine ⟨⟨fun b' i v e => ?_, fun i b' e => by rw [ho.size]; exact k.inv.mu i b' e, k.inv.inj, fun t b' e sz n cap x => ?_, k.inv.inj2, k.inv.top, fun p hp => (by
      obtain ⟨⟨e, fr, h1⟩, h2, h3⟩ := k.inv.fix p hp
      exact ⟨⟨e, fr, by rw [ho.block p.1 (fun h => h2 id (h ▸ hb))]; exact h1⟩, h2, h3⟩)⟩, fun p hp => ?_, k.toks, ⟨ho.os.trans k.keeps.os, ho.tape.trans k.keeps.tape, ho.output.trans k.keeps.output, by rw [ho.size]; exact k.keeps.size, fun b' h1 h2 => ?_, k.keeps.imm, k.keeps.mu, k.keeps.own⟩, fun p hp b' e => ?_, k.tM, k.tK, k.le⟩
  · have : b' ≠ b := by rintro rfl; rw [hno] at e; cases e
    rw [ho.cell this]; exact k.inv.imm b' i v e
  · obtain ⟨⟨cur, fr, h1, h2⟩, h3, h4, h5, h6⟩ := k.inv.own t b' e sz n cap x
    exact ⟨⟨cur, fr, by rw [ho.block b' (fun e => h6 id (e ▸ hb))]; exact h1, h2⟩, h3, h4, h5, h6⟩
  · simp only [setH, List.mem_map] at hp
    obtain ⟨q, hq, rfl⟩ := hp
    obtain ⟨b', e, x⟩ := k.heap q hq
    by_cases hqi : q.1 = id
    · rw [if_pos hqi]
      exact ⟨b, by simp only [hqi]; exact hb, hok⟩
    · rw [if_neg hqi]
      exact ⟨b', e, x.of_block (ho.block b' (fun h => hqi (k.inv.inj _ _ _ e (h ▸ hb))))⟩
  · rw [ho.block b' (fun h => ?_)]
    · exact k.keeps.block b' h1 h2
    · subst h
      rcases k.hM _ hid _ hb with h | h
      · exact h2 h
      · omega
  · simp only [setH, List.mem_map] at hp
    obtain ⟨q, hq, rfl⟩ := hp
    by_cases hqi : q.1 = id
    · rw [if_pos hqi] at e; exact k.hM q hq b' e
    · rw [if_neg hqi] at e; exact k.hM q hq b' e

def Gh.grow (g : Gh) (t nm : Nm) (b : Nat) (o : Nat) (news : List Value) (x : Own) : Gh :=
  { g with imm := fun b' i => if b' = b ∧ o ≤ i then news[i - o]? else g.imm b' i, own := fun s => if s = nm then x else if s = t then .dead else g.own s }

theorem WS.grow {B : Base} {H : Hp} {T : Tk} {g : Gh} {w w' : World} (k : WS B H T g w) {t nm : Nm} (hf : g.free nm) {b : Nat} {e : TypeId} {sz n cap m : Nat} (ht : T t) (hown : g.own t = .at b e sz n cap)
    (news : List Value) (hl : news.length = m * sz) (hcap : n + m ≤ cap) {cur cur' : Array Value} {fr fr' : Nat × Nat} (hcur : w.heap[b]? = some (.cells cur e fr)) (ho : OnlyAt w w' b) (hcur' : w'.heap[b]? = some (.cells cur' e fr')) (hfr' : frok fr' cur'.size)
    (hsz : cur'.size = cur.size) (hlow : ∀ i, i < n * sz → cur'[i]? = cur[i]?) (hnew : ∀ (i : Nat) (v : Value), news[i]? = some v → cur'[n * sz + i]? = some v) :
    g.le (g.grow t nm b (n * sz) news (.at b e sz (n + m) cap)) ∧ WS B H (fun s => s = nm ∨ (T s ∧ s ≠ t)) (g.grow t nm b (n * sz) news (.at b e sz (n + m) cap)) w' := by
  obtain ⟨⟨cur0, fr0, h1, h2, hfr0⟩, h3, h4, h5, h6⟩ := k.inv.own t b e sz n cap hown
  have hne : t ≠ nm := by rintro rfl; rw [hf.2] at hown; cases hown
  have hle : g.le (g.grow t nm b (n * sz) news (.at b e sz (n + m) cap)) := ⟨fun b' i v hv => by
      simp only [Gh.grow]
      rw [if_neg (by rintro ⟨rfl, hi⟩; rw [h5 i hi] at hv; cases hv)]; exact hv,
    fun _ _ h => h, fun s hs => by
      simp only [Gh.grow]
      split
      · rename_i h; rw [h] at hs; exact absurd hf.2 hs
      · split
        · exact .inr rfl
        · exact .inl rfl⟩
  have hbM : B.M b ∨ B.w0.heap.size ≤ b := k.tM t ht b e sz n cap hown
  refine ⟨hle, ⟨⟨fun b' i v hv => ?_, fun i b' hi => ?_, k.inv.inj, fun s b' e' sz' n' cap' x => ?_, fun s s' b' e1 s1 n1 c1 e2 s2 n2 c2 x1 x2 => ?_, ?_, fun p hp => (by
      obtain ⟨⟨e', fr', q1⟩, q2, q3⟩ := k.inv.fix p hp
      have hpb : p.1 ≠ b := fun h => q3 t e sz n cap (h ▸ hown)
      refine ⟨⟨e', fr', by rw [ho.block p.1 hpb]; exact q1⟩, q2, fun s e1 sz' n' cap' x => ?_⟩
      simp only [Gh.grow] at x
      split at x
      · simp only [Own.at.injEq] at x; exact hpb x.1.symm
      · split at x
        · cases x
        · exact q3 _ _ _ _ _ x)⟩, fun p hp => ?_, fun s hs => ?_, ⟨ho.os.trans k.keeps.os, ho.tape.trans k.keeps.tape, ho.output.trans k.keeps.output, by rw [ho.size]; exact k.keeps.size, fun b' h1' h2' => ?_, fun b' h1' h2' o => ?_, k.keeps.mu, fun s h1' h2' => ?_⟩, k.hM, fun s hs b' e' sz' n' cap' x => ?_, fun s hs => ?_, k.le.trans hle⟩⟩
  · simp only [Gh.grow] at hv
    split at hv
    · rename_i h
      obtain ⟨rfl, hi⟩ := h
      have := hnew _ _ hv
      rw [show n * sz + (i - n * sz) = i by omega] at this
      simp only [World.cell?, hcur']
      exact this
    · rename_i h
      have hc := k.inv.imm b' i v hv
      by_cases hb : b' = b
      · subst hb
        have hi : i < n * sz := by omega
        simp only [World.cell?, hcur']
        simp only [World.cell?, hcur] at hc
        exact (hlow i hi).trans hc
      · rw [ho.cell hb]; exact hc
  · obtain ⟨a1, a2⟩ := k.inv.mu i b' hi
    refine ⟨by rw [ho.size]; exact a1, fun o => ?_⟩
    simp only [Gh.grow]
    rw [if_neg (by rintro ⟨rfl, _⟩; exact h6 i hi)]; exact a2 o
  · simp only [Gh.grow] at x
    split at x
    · cases x
      refine ⟨⟨cur', fr', hcur', ?_, hfr'⟩, hcap, h4, fun o ho' => ?_, h6⟩
      · rw [hsz]; rw [h1] at hcur; cases hcur; exact h2
      · simp only [Gh.grow]
        have hm : (n + m) * sz = n * sz + m * sz := Nat.add_mul ..
        rw [if_pos ⟨trivial, by omega⟩]
        exact List.getElem?_eq_none (by omega)
    · split at x
      · cases x
      · rename_i hst
        have hbb : b' ≠ b := by rintro rfl; exact hst (k.inv.inj2 _ _ _ _ _ _ _ _ _ _ _ x hown)
        obtain ⟨⟨c0, f0, a1, a2⟩, a3, a4, a5, a6⟩ := k.inv.own s b' e' sz' n' cap' x
        refine ⟨⟨c0, f0, by rw [ho.block b' hbb]; exact a1, a2⟩, a3, a4, fun o ho' => ?_, a6⟩
        simp only [Gh.grow]
        rw [if_neg (by rintro ⟨h, _⟩; exact hbb h)]; exact a5 o ho'
  · simp only [Gh.grow] at x1 x2
    have key : ∀ s e' sz' n' cap', s ≠ t → g.own s ≠ .at b e' sz' n' cap' := fun s e' sz' n' cap' hs h => hs (k.inv.inj2 _ _ _ _ _ _ _ _ _ _ _ h hown)
    split at x1 <;> split at x2
    · simp_all
    · split at x2
      · cases x2
      · cases x1; exact absurd x2 (key _ _ _ _ _ ‹_›)
    · split at x1
      · cases x1
      · cases x2; exact absurd x1 (key _ _ _ _ _ ‹_›)
    · split at x1
      · cases x1
      · split at x2
        · cases x2
        · exact k.inv.inj2 _ _ _ _ _ _ _ _ _ _ _ x1 x2
  · obtain ⟨G, g1, g2⟩ := k.inv.top
    refine ⟨max G (max (nm.1 + 1) (t.1 + 1)), by omega, fun n' hn => ?_⟩
    obtain ⟨e1, e2⟩ := g2 n' (by omega)
    refine ⟨e1, ?_⟩
    simp only [Gh.grow]
    rw [if_neg (by rintro rfl; omega), if_neg (by rintro rfl; omega)]; exact e2
  · obtain ⟨b', e', x⟩ := k.heap p hp
    exact ⟨b', e', (x.mono hle).of_block (ho.block b' (by rintro rfl; exact h6 _ e'))⟩
  · simp only [Gh.grow]
    rcases hs with rfl | ⟨hs, hst⟩
    · simp
    · rw [if_neg (by rintro rfl; exact (k.toks _ hs).2 hf.2), if_neg hst]; exact k.toks s hs
  · have hbb : b' ≠ b := by rintro rfl; rcases hbM with h | h; exact h2' h; omega
    rw [ho.block b' hbb]; exact k.keeps.block b' h1' h2'
  · have hbb : b' ≠ b := by rintro rfl; rcases hbM with h | h; exact h2' h; omega
    simp only [Gh.grow]
    rw [if_neg (by rintro ⟨h, _⟩; exact hbb h)]; exact k.keeps.imm b' h1' h2' o
  · simp only [Gh.grow]
    rw [if_neg (by rintro rfl; exact h1' (k.le.fresh hf.2)), if_neg (by rintro rfl; rcases k.tK _ ht with h | h; exact h2' h; exact h1' h)]; exact k.keeps.own s h1' h2'
  · simp only [Gh.grow] at x
    split at x
    · cases x; exact hbM
    · split at x
      · cases x
      · rcases hs with rfl | ⟨hs, _⟩
        · exact absurd rfl ‹_›
        · exact k.tM s hs b' e' sz' n' cap' x
  · rcases hs with rfl | ⟨hs, _⟩
    · exact .inr (k.le.fresh hf.2)
    · exact k.tK s hs

theorem grow_free {g : Gh} {t nm n : Nm} {b o : Nat} {news : List Value} {x : Own} (hn : n ≠ nm) (h : g.free n) (ht : g.own t ≠ .fresh) : (g.grow t nm b o news x).free n := ⟨h.1, by
  simp only [Gh.grow]
  rw [if_neg hn, if_neg (by rintro rfl; exact ht h.2)]; exact h.2⟩

def Gh.addNil (g : Gh) (nm : Nm) : Gh := { g with own := fun t => if t = nm then .nil else g.own t }
theorem WS.addNil {B : Base} {H : Hp} {T : Tk} {g : Gh} {w : World} (k : WS B H T g w) {nm : Nm} (hf : g.free nm) :
    g.le (g.addNil nm) ∧ WS B H (fun s => s = nm ∨ T s) (g.addNil nm) w := by
  have hle : g.le (g.addNil nm) := ⟨fun _ _ _ h => h, fun _ _ h => h, fun s hs => by
    simp only [Gh.addNil]
    rw [if_neg (by rintro rfl; exact hs hf.2)]; exact .inl rfl⟩
  refine ⟨hle, ⟨⟨k.inv.imm, k.inv.mu, k.inv.inj, fun s b e sz n cap x => ?_, fun s s' b e1 s1 n1 c1 e2 s2 n2 c2 x1 x2 => ?_, ?_, fun p hp => (by
      obtain ⟨q1, q2, q3⟩ := k.inv.fix p hp
      refine ⟨q1, q2, fun s e1 sz' n' cap' x => ?_⟩
      simp only [Gh.addNil] at x
      split at x
      · cases x
      · exact q3 _ _ _ _ _ x)⟩, fun p hp => ?_, fun s hs => ?_, ⟨k.keeps.os, k.keeps.tape, k.keeps.output, k.keeps.size, k.keeps.block, k.keeps.imm, k.keeps.mu, fun s h1 h2 => ?_⟩, k.hM, fun s hs b e sz n cap x => ?_, fun s hs => ?_, k.le.trans hle⟩⟩
  · simp only [Gh.addNil] at x
    split at x
    · cases x
    · exact k.inv.own s b e sz n cap x
  · simp only [Gh.addNil] at x1 x2
    split at x1
    · cases x1
    · split at x2
      · cases x2
      · exact k.inv.inj2 _ _ _ _ _ _ _ _ _ _ _ x1 x2
  · obtain ⟨G, g1, g2⟩ := k.inv.top
    refine ⟨max G (nm.1 + 1), by omega, fun n' hn => ?_⟩
    obtain ⟨e1, e2⟩ := g2 n' (by omega)
    refine ⟨e1, ?_⟩
    simp only [Gh.addNil]
    rw [if_neg (by rintro rfl; omega)]; exact e2
  · obtain ⟨b, e, x⟩ := k.heap p hp
    exact ⟨b, e, x.mono hle⟩
  · simp only [Gh.addNil]
    rcases hs with rfl | hs
    · simp
    · rw [if_neg (by rintro rfl; exact (k.toks _ hs).2 hf.2)]; exact k.toks s hs
  · simp only [Gh.addNil]
    rw [if_neg (by rintro rfl; exact h1 (k.le.fresh hf.2))]; exact k.keeps.own s h1 h2
  · simp only [Gh.addNil] at x
    split at x
    · cases x
    · rcases hs with rfl | hs
      · exact absurd rfl ‹_›
      · exact k.tM s hs b e sz n cap x
  · rcases hs with rfl | hs
    · exact .inr (k.le.fresh hf.2)
    · exact k.tK s hs
theorem addNil_free {g : Gh} {nm n : Nm} (hn : n ≠ nm) (h : g.free n) : (g.addNil nm).free n := ⟨h.1, by simp only [Gh.addNil]; rw [if_neg hn]; exact h.2⟩

end Go.Ab

