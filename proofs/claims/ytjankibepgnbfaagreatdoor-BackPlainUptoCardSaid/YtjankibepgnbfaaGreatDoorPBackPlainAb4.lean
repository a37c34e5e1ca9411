/- Each operation does on the machine what it does on abstract values. -/
import Derived.Test.YtjankibepgnbfaaGreatDoorPBackPlainAb3
import Derived.Deep.MidRow
set_option linter.unusedVariables false
set_option linter.unusedSimpArgs false
namespace Go.Ab

def OpOK (P : Program) (o : Oper) (a : Act) (w : World) (B : Base) (H : Hp) (T : Tk) (g : Gh) (nm : Nm) (v : AV) (e : Eff) : Prop :=
  ∃ nx cv w' g', (execOp a.eval o).run P w = .ok nx w' ∧ (nx = .value cv ∨ nx = .skip ∧ cv = undef) ∧ g.le g' ∧ WS B (e.H nm H) (e.T nm T) g' w' ∧ Rep g' v cv ∧ ∀ n, n ≠ nm → g.free n → g'.free n

section
variable {P : Program} {o : Oper} {a : Act} {w : World} {B : Base} {H : Hp} {T : Tk} {g : Gh} {nm : Nm} {F : Nat → AV}

theorem OpOK.pure {v : AV} {cv : Value} (hW : WS B H T g w) (hr : (execOp a.eval o).run P w = .ok (.value cv) w) (h : Rep g v cv) : OpOK P o a w B H T g nm v .no :=
  ⟨_, cv, w, g, hr, .inl rfl, .refl g, hW, h, fun _ _ h => h⟩

theorem stripL_eq : ∀ xs : List AV, AV.stripL xs = xs.map AV.strip
  | [] => rfl
  | x :: xs => by simp [AV.stripL, stripL_eq xs]
theorem closedL_iff : ∀ {xs : List AV}, AV.closedL xs = true ↔ ∀ x ∈ xs, x.closed = true
  | [] => by simp [AV.closedL]
  | x :: xs => by simp [AV.closedL, closedL_iff (xs := xs)]
theorem one_of_strip : ∀ {x : AV}, x.strip.closed = true → x.one = true
  | .int .., _ => rfl
  | .bool .., _ => rfl
  | .str .., _ => rfl
  | .nilp, _ => rfl
  | .el _, _ => rfl
  | .nils, _ => rfl
  | .sl .., _ => rfl
  | .nilf, _ => rfl
  | .fn .., _ => rfl
  | .und, h => by simp [AV.strip, AV.closed] at h
  | .ptr .., h => by simp [AV.strip, AV.closed] at h
  | .mp .., h => by simp [AV.strip, AV.closed] at h
  | .yl _, h => by simp [AV.strip, AV.closed] at h
  | .ms .., h => by simp [AV.strip, AV.closed] at h
  | .slr .., _ => rfl
  | .tup .., h => by simp [AV.strip, AV.closed] at h
  | .agg .., h => by simp [AV.strip, AV.closed] at h
  | .raw .., h => by simp [AV.strip, AV.closed] at h

theorem cells_of_one {v : Value} (h : v.oneCell' = true) : v.cells = #[v] := by cases v <;> first | rfl | simp [Value.oneCell'] at h

theorem rep_cells : ∀ {x : AV} {v : Value}, oneL x.cells → Rep g x v → RepL g x.cells v.cells.toList ∧ ∀ u ∈ v.cells.toList, u.oneCell' = true
  | .agg cs, v, h, ⟨vs, e, k⟩ => by
    subst e
    refine ⟨k, fun u hu => ?_⟩
    simp only [Value.cells] at hu
    obtain ⟨i, hi⟩ := List.getElem?_of_mem hu
    have hlen := RepL.length k
    have hlt : i < cs.length := by rw [← hlen]; exact (List.getElem?_eq_some_iff.1 hi).1
    obtain ⟨v', h1, h2⟩ := RepL.get k i _ (List.getElem?_eq_getElem hlt)
    rw [hi] at h1; cases h1
    exact Rep.one (h _ (List.getElem_mem hlt)) h2
  | x, v, h, k => by
    by_cases hx : ∃ cs, x = .agg cs
    · obtain ⟨cs, rfl⟩ := hx
      obtain ⟨vs, e, k⟩ := k
      subst e
      refine ⟨k, fun u hu => ?_⟩
      simp only [Value.cells] at hu
      obtain ⟨i, hi⟩ := List.getElem?_of_mem hu
      have hlen := RepL.length k
      have hlt : i < cs.length := by rw [← hlen]; exact (List.getElem?_eq_some_iff.1 hi).1
      obtain ⟨v', h1, h2⟩ := RepL.get k i _ (List.getElem?_eq_getElem hlt)
      rw [hi] at h1; cases h1
      exact Rep.one (h _ (List.getElem_mem hlt)) h2
    · have hc : x.cells = [x] := by cases x <;> first | rfl | exact absurd ⟨_, rfl⟩ hx
      rw [hc] at h ⊢
      have h1 := Rep.one (h x (by simp)) k
      rw [cells_of_one h1]
      exact ⟨⟨v, [], rfl, k, rfl⟩, by simpa using h1⟩

theorem rep_cells_strip {x : AV} {v : Value} (h : AV.closedL (AV.stripL x.cells) = true) (k : Rep g x v) : RepL g (AV.stripL x.cells) v.cells.toList ∧ ∀ u ∈ v.cells.toList, u.oneCell' = true := by
  have ho : oneL x.cells := fun y hy => one_of_strip (closedL_iff.1 h y.strip (by rw [stripL_eq]; exact List.mem_map_of_mem hy))
  obtain ⟨h1, h2⟩ := rep_cells ho k
  exact ⟨RepL.strip _ _ h1, h2⟩

/-! ### Types -/
theorem aggOf_some {t : TypeId} {n : Nat} (h : aggOf P t = some (some n)) : (isAgg t).run P w = .ok true w ∧ (sizeOf t).run P w = .ok n w := by
  unfold aggOf at h
  split at h <;> simp at h
  · rename_i fs i h1 h2; subst h; simp [isAgg, run_underlying h1, sizeOf, typeInfo, h2]
  · rename_i m e i h1 h2; subst h; simp [isAgg, run_underlying h1, sizeOf, typeInfo, h2]
theorem aggOf_none {t : TypeId} (h : aggOf P t = some none) : (isAgg t).run P w = .ok false w := by
  unfold aggOf at h
  split at h <;> simp at h
  rename_i d i hn1 hn2 h1 h2
  have : ∀ fs, d ≠ .struct fs := fun fs e => by subst e; exact absurd rfl (hn1 fs)
  have : ∀ m e, d ≠ .array m e := fun m e e' => by subst e'; exact absurd rfl (hn2 m e)
  simp [isAgg, run_underlying h1]

theorem add_lit (b o n : Nat) : (⟨b, o, none⟩ : Addr).add n = ⟨b, o + n, none⟩ := Addr.add_lit b o n

theorem run_loadVar_ab {t : TypeId} {n : Option Nat} (ha : aggOf P t = some n) {b off : Nat} {cs : List AV} {vs : List Value} (hv : RepL g cs vs) (hc : ∀ (i : Nat) (v : Value), vs[i]? = some v → w.cell? ⟨b, off + i, none⟩ = some v)
    {p : Prop} {x : AV} (hg : aggv n cs = some (p, x)) (hp : p) : ∃ cv, (loadVar t ⟨b, off, none⟩).run P w = .ok cv w ∧ Rep g x cv := by
  cases n with
  | none =>
    simp only [aggv] at hg
    cases cs with
    | nil => simp at hg
    | cons c cs =>
      simp only [Option.some.injEq, Prod.mk.injEq] at hg
      obtain ⟨_, rfl⟩ := hg
      obtain ⟨v, rest, rfl, h1, _⟩ := hv
      have h0 := hc 0 v rfl
      simp only [Nat.add_zero] at h0
      exact ⟨v, by simp [loadVar, aggOf_none (w := w) ha, h0], h1⟩
  | some m =>
    simp only [aggv, Option.some.injEq, Prod.mk.injEq] at hg
    obtain ⟨rfl, rfl⟩ := hg
    obtain ⟨h1, h2⟩ := aggOf_some (w := w) ha
    have hlen := RepL.length hv
    have hl : (vs.take m).length = m := by simp; omega
    have := run_loadCells_list (P := P) w ⟨b, off, none⟩ (vs.take m) (fun j v hj => by
      rw [add_lit]
      rw [List.getElem?_take] at hj
      split at hj
      · exact hc j v hj
      · cases hj)
    rw [hl] at this
    exact ⟨.agg (vs.take m).toArray, by simp [loadVar, h1, h2, this], _, rfl, by simpa using RepL.take m hv⟩

theorem cells_block {b : Nat} {vs : Array Value} {ty : TypeId} {fr : Nat × Nat} (h : w.heap[b]? = some (.cells vs ty fr)) (off i : Nat) (v : Value) (hv : (vs.toList.drop off)[i]? = some v) : w.cell? ⟨b, off + i, none⟩ = some v := by
  rw [cell_of_row w b (off + i) vs ty fr h]
  simpa using hv

theorem getH_ok (hW : WS B H T g w) {id : Nm} {hb : HB} (h : getH H id = some hb) : ∃ b, g.mu id = some b ∧ HBok g w b hb := hW.heap _ (getH_mem h)

theorem ok_ld {t : TypeId} {n : Option Nat} {x : Operand} (hop : o.op = .load t x) {y : X} (hy : Rep g (y.ev F) (a.eval x)) (ha : aggOf P t = some n) (hW : WS B H T g w) {r : SR}
    (hs : step (.ld n y) F H T nm = some r) (hp : r.pre) : OpOK P o a w B H T g nm r.v r.e := by
  simp only [step] at hs
  split at hs
  · rename_i cs hx
    rw [hx] at hy
    obtain ⟨b, off, e, k⟩ := hy
    split at hs
    · rename_i p v hg
      cases hs
      obtain ⟨vs, h1, _, h3⟩ := RepCells.vals (g := g) k
      obtain ⟨cv, hr, hrep⟩ := run_loadVar_ab (w := w) ha h1 (fun i v hv => hW.inv.imm _ _ _ (h3 i v hv)) hg hp
      exact .pure hW (by simp [execOp, hop, e, Instr.loadAt, Instr.sureAddr, hr]) hrep
    · cases hs
  · rename_i id off hx
    rw [hx] at hy
    obtain ⟨b, hm, e⟩ := hy
    split at hs
    · rename_i cs hH
      split at hs
      · rename_i p v hg
        cases hs
        obtain ⟨b', hm', vs, ty, hb, hv⟩ := getH_ok hW hH
        rw [hm] at hm'; cases hm'
        obtain ⟨cv, hr, hrep⟩ := run_loadVar_ab (w := w) ha (RepL.drop off hv) (fun i v hv' => cells_block hb off i v hv') hg hp
        exact .pure hW (by simp [execOp, hop, e, Instr.loadAt, Instr.sureAddr, hr]) hrep
      · cases hs
    · cases hs
  · cases hs

theorem ok_mov {x : Operand} (hop : o.op = .move x ∨ o.op = .assign x) {y : X} (hy : Rep g (y.ev F) (a.eval x)) (hW : WS B H T g w) {r : SR}
    (hs : step (.mov y) F H T nm = some r) : OpOK P o a w B H T g nm r.v r.e := by
  cases hs
  exact .pure hW (by rcases hop with h | h <;> simp [execOp, h]) hy

theorem ok_pick {c x y : Operand} (hop : o.op = .pick c x y) {c' x' y' : X} (hc : Rep g (c'.ev F) (a.eval c)) (hx : Rep g (x'.ev F) (a.eval x)) (hy : Rep g (y'.ev F) (a.eval y)) (hW : WS B H T g w) {r : SR}
    (hs : step (.pick c' x' y') F H T nm = some r) : OpOK P o a w B H T g nm r.v r.e := by
  simp only [step] at hs
  split at hs
  · rename_i t ht
    cases hs
    rw [ht] at hc
    have hc : a.eval c = .bool t := hc
    cases t
    · exact .pure hW (cv := a.eval y) (by simp [execOp, hop, hc, asBool]) (by simpa using hy)
    · exact .pure hW (cv := a.eval x) (by simp [execOp, hop, hc, asBool]) (by simpa using hx)
  · cases hs

theorem ok_new {x : Value} {t : TypeId} (hr : (execOp a.eval o).run P w = .ok (.value (.pointer (some ⟨w.heap.size, 0, none⟩))) (w.alloc (.cells x.cells t))) {y : AV} (hy : Rep g y x) (hone : oneL y.cells) (hW : WS B H T g w) (hf : g.free nm) :
    OpOK P o a w B H T g nm (.ptr nm 0) (.blk (.cells y.cells)) := by
  obtain ⟨h1, h2⟩ := rep_cells hone hy
  obtain ⟨k1, k2⟩ := hW.addBlock hf (.cells x.cells t) (.cells y.cells) (fun g' hg => ⟨x.cells, t, heap_new' w _, RepL.mono hg _ _ h1⟩)
  exact ⟨_, _, _, _, hr, .inl rfl, k1, k2, ⟨w.heap.size, by simp [Gh.addMu], rfl⟩, fun n hn hfn => addMu_free hn hfn⟩

theorem ok_box {x : Operand} {t : TypeId} (hop : o.op = .box t x) {y : X} (hy : Rep g (y.ev F) (a.eval x)) (hW : WS B H T g w) (hf : g.free nm) {r : SR}
    (hs : step (.box t y) F H T nm = some r) (hp : r.pre) : OpOK P o a w B H T g nm r.v r.e := by
  cases hs
  exact ok_new (x := a.eval x) (t := t) (by simp [execOp, hop, Instr.box, newVar, newRow]) hy hp hW hf

theorem ok_alloc {t : TypeId} {i : TypeInfo} {z : Value} (hop : o.op = .alloc t) (hi : P.info? t = some i) (hz : i.zero = some z) (hW : WS B H T g w) (hf : g.free nm) {r : SR}
    (hs : step (.box t (.c (ofV z))) F H T nm = some r) (hp : r.pre) : OpOK P o a w B H T g nm r.v r.e := by
  cases hs
  exact ok_new (x := z) (t := t) (by simp [execOp, hop, Instr.alloc, zeroValue, typeInfo, hi, hz, newVar, newRow]) (rep_ofV g z) hp hW hf

/-! ### Literals -/
theorem foldl_set (off : Nat) : ∀ (vs : List Value) (j : Nat) (cells : Array Value), off + j + vs.length ≤ cells.size →
    ((vs.zipIdx j).foldl (fun cs p => cs.setIfInBounds (off + p.2) p.1) cells).toList = cells.toList.take (off + j) ++ vs ++ cells.toList.drop (off + j + vs.length)
  | [], j, cells, _ => by simp
  | v :: vs, j, cells, h => by
    simp only [List.length_cons] at h
    simp only [List.zipIdx_cons, List.foldl_cons]
    rw [foldl_set off vs (j + 1) _ (by simp; omega)]
    have e := list_seg_step cells.toList (off + j) v vs (by simp; omega)
    simpa [Array.toList_setIfInBounds, Nat.add_assoc] using e

theorem fill_step (place : Nat → Option (Nat × Nat)) (cells : Array Value) (i : Nat) (v : Value) (rest : List (Nat × Value)) {off size : Nat} (hpl : place i = some (off, size)) (h1 : v.cells.size = size) (h2 : off + size ≤ cells.size) :
    Instr.fill place cells ((i, v) :: rest) = Instr.fill place (cells.toList.take off ++ v.cells.toList ++ cells.toList.drop (off + size)).toArray rest := by
  have hnot : (v.cells.size ≠ size || off + v.cells.size > cells.size) = false := by simp [h1]; omega
  simp only [Instr.fill, hpl]
  have e : (v.cells.zipIdx.foldl (fun cs (x : Value × Nat) => cs.setIfInBounds (off + x.2) x.1) cells) = (cells.toList.take off ++ v.cells.toList ++ cells.toList.drop (off + size)).toArray := by
    rw [← Array.foldl_toList]
    apply Array.ext'
    have := foldl_set off v.cells.toList 0 cells (by simp; omega)
    simp only [Nat.add_zero, Array.length_toList, h1] at this
    rw [← Array.toList_zipIdx] at this
    simpa using this
  simp only [hnot, Bool.false_eq_true, if_false]
  exact congrArg (fun c => Instr.fill place c rest) e

theorem compParts_ok (hF : FOK g F a) {places : List (Nat × Nat)} {pl : Nat → Option (Nat × Nat)} (hpl : ∀ (i : Nat) (f : Nat × Nat), places[i]? = some f → pl i = some f) : ∀ {ps : List (Nat × Operand)} {qs : List (Nat × Nat × X)} {z : List AV} {zs : Array Value} {cs : List AV},
    compParts places ps = some qs → RepL g z zs.toList → fillA z (qs.map fun p => (p.1, p.2.1, p.2.2.ev F)) = some cs → (∀ p ∈ qs, oneL (p.2.2.ev F).cells) →
    ∃ vs, Instr.fill pl zs (ps.map fun p => (p.1, a.eval p.2)) = some vs ∧ RepL g cs vs.toList
  | [], _, z, zs, cs, h, hz, hfl, _ => by
    simp only [compParts, Option.some.injEq] at h; subst h
    simp only [List.map_nil, fillA, Option.some.injEq] at hfl; subst hfl
    exact ⟨zs, rfl, hz⟩
  | (i, x) :: ps, _, z, zs, cs, h, hz, hfl, hone => by
    simp only [compParts] at h
    split at h
    · rename_i f y rest h1 h2 h3
      cases h
      simp only [List.map_cons, fillA] at hfl
      split at hfl
      · rename_i hc
        obtain ⟨c1, c2⟩ := hc
        obtain ⟨r1, r2⟩ := rep_cells (hone (f.1, f.2, y) (by simp)) (rep_compX hF h2)
        have hlen := RepL.length hz
        have hlv : (a.eval x).cells.size = f.2 := by have := RepL.length r1; simp at this; omega
        have hn : RepL g (z.take f.1 ++ (y.ev F).cells ++ z.drop (f.1 + f.2)) (zs.toList.take f.1 ++ (a.eval x).cells.toList ++ zs.toList.drop (f.1 + f.2)) := RepL.append (RepL.append (RepL.take _ hz) r1) (RepL.drop _ hz)
        obtain ⟨vs, e1, e2⟩ := compParts_ok hF hpl h3 (zs := (zs.toList.take f.1 ++ (a.eval x).cells.toList ++ zs.toList.drop (f.1 + f.2)).toArray) (by simpa using hn) hfl (fun p hp => hone p (by simp [hp]))
        refine ⟨vs, ?_, e2⟩
        simp only [List.map_cons]
        rw [fill_step _ zs i (a.eval x) _ (off := f.1) (size := f.2) (hpl _ _ h1) hlv (by simp at hlen; omega)]
        exact e1
      · cases hfl
    · cases h

theorem ok_bld (hF : FOK g F a) {t : TypeId} {ps : Array (Nat × Operand)} {fields : Array Field} {i : TypeInfo} {z : Value} {places : List (Nat × Nat)} {qs : List (Nat × Nat × X)}
    (hop : o.op = .build t ps) (hu : P.underlying t = some (.struct fields)) (hi : P.info? t = some i) (hz : i.zero = some z)
    (hpl : fields.toList.mapM (fun f => (P.info? f.type).map fun i => (f.offset, i.size)) = some places) (hq : compParts places ps.toList = some qs) (hW : WS B H T g w) {r : SR}
    (hs : step (.bld (z.cells.toList.map ofV1) qs) F H T nm = some r) (hp : r.pre) : OpOK P o a w B H T g nm r.v r.e := by
  simp only [step] at hs
  split at hs
  · rename_i cs hfl
    cases hs
    obtain ⟨vs, e1, e2⟩ := compParts_ok (pl := (places.toArray[·]?)) hF (fun i f h => by simpa using h) hq (repL_ofV1 g z.cells.toList) hfl hp
    have hb : P.built t (ps.map fun p => (p.1, a.eval p.2)).toList = some vs := by
      simp only [Program.built, hi, hu, hz, hpl, Array.toList_map]
      exact e1
    have hr := run_build (P := P) w t (ps.map fun p => (p.1, a.eval p.2)) vs hb
    exact .pure hW (cv := .agg vs) (by simp only [execOp, hop]; simp [hr]) ⟨vs, rfl, e2⟩
  · cases hs

theorem ok_bldA (hF : FOK g F a) {t e : TypeId} {n : Nat} {ps : Array (Nat × Operand)} {i ie : TypeInfo} {z : Value} {qs : List (Nat × Nat × X)}
    (hop : o.op = .build t ps) (hu : P.underlying t = some (.array n e)) (hi : P.info? t = some i) (hz : i.zero = some z) (hie : P.info? e = some ie)
    (hq : compParts ((List.range n).map fun k => (k * ie.size, ie.size)) ps.toList = some qs) (hW : WS B H T g w) {r : SR}
    (hs : step (.bld (z.cells.toList.map ofV1) qs) F H T nm = some r) (hp : r.pre) : OpOK P o a w B H T g nm r.v r.e := by
  simp only [step] at hs
  split at hs
  · rename_i cs hfl
    cases hs
    obtain ⟨vs, e1, e2⟩ := compParts_ok (pl := fun i => some (i * ie.size, ie.size)) hF (fun i f h => by
      rw [List.getElem?_map, Option.map_eq_some_iff] at h
      obtain ⟨k, hk, rfl⟩ := h
      rw [(List.getElem?_eq_some_iff.1 hk).2.symm]
      simp) hq (repL_ofV1 g z.cells.toList) hfl hp
    have hb : P.built t (ps.map fun p => (p.1, a.eval p.2)).toList = some vs := by
      simp only [Program.built, hi, hu, hz, hie, Array.toList_map]
      exact e1
    have hr := run_build (P := P) w t (ps.map fun p => (p.1, a.eval p.2)) vs hb
    exact .pure hW (cv := .agg vs) (by simp only [execOp, hop]; simp [hr]) ⟨vs, rfl, e2⟩
  · cases hs

theorem fill_row (size : Nat) : ∀ (vs : List Value) (k : Nat) (cells : Array Value), (∀ v ∈ vs, v.cells.size = size) → (k + vs.length) * size = cells.size →
    Instr.fill (fun i => some (i * size, size)) cells ((List.range' k vs.length).zip vs) = some (cells.toList.take (k * size) ++ (vs.flatMap fun v => v.cells.toList)).toArray
  | [], k, cells, _, h => by
    simp only [List.length_nil, Nat.add_zero] at h
    simp only [List.length_nil, List.range'_zero, List.zip_nil_left, Instr.fill, List.flatMap_nil, List.append_nil, h]
    rw [List.take_of_length_le (by simp)]
  | v :: vs, k, cells, hv, h => by
    have h1 := hv v (by simp)
    simp only [List.length_cons] at h
    have hsz : k * size + size + vs.length * size = cells.size := by rw [← h, ← Nat.add_assoc, Nat.add_mul, Nat.add_mul]; omega
    simp only [List.length_cons, List.range'_succ, List.zip_cons_cons]
    rw [fill_step _ cells k v _ (off := k * size) (size := size) rfl h1 (by omega)]
    have hl : (cells.toList.take (k * size) ++ v.cells.toList ++ cells.toList.drop (k * size + size)).length = cells.size := by simp [h1]; omega
    rw [fill_row size vs (k + 1) _ (fun u hu => hv u (by simp [hu])) (by rw [List.size_toArray, hl, ← h]; congr 1; omega)]
    have ht : (cells.toList.take (k * size) ++ v.cells.toList ++ cells.toList.drop (k * size + size)).take ((k + 1) * size) = cells.toList.take (k * size) ++ v.cells.toList := by
      apply List.take_left'
      simp [h1, Nat.add_mul]
      try omega
    simp only [ht]
    simp

theorem compXs_map : ∀ {xs : List Operand} {ys : List X}, compXs xs = some ys → ys.length = xs.length
  | [], _, h => by cases h; rfl
  | x :: xs, _, h => by
    unfold compXs at h
    split at h
    · rename_i y ys h1 h2; cases h; simp [compXs_map h2]
    · cases h

theorem rows_ok {imm : Nat → Nat → Option Value} {b sz : Nat} : ∀ {xs : List AV} {vs : List Value} {off : Nat}, RepL g xs vs → (∀ x ∈ xs.map (fun x => AV.stripL x.cells), x.length = sz ∧ AV.closedL x = true) →
    (∀ (i : Nat) (v : Value), (vs.flatMap fun v => v.cells.toList)[i]? = some v → imm b (off + i) = some v) → (∀ b o v, g.imm b o = some v → imm b o = some v) → RepRow imm b sz off (xs.map fun x => AV.stripL x.cells) ∧ ∀ v ∈ vs, v.cells.size = sz
  | [], _, off, h, _, _, _ => by cases h; exact ⟨trivial, by simp⟩
  | x :: xs, _, off, ⟨v, rest, e, k1, k2⟩, hc, hi, hm => by
    subst e
    simp only [List.map_cons, List.mem_cons, forall_eq_or_imp] at hc
    obtain ⟨⟨c1, c2⟩, c3⟩ := hc
    obtain ⟨r1, r2⟩ := rep_cells_strip c2 k1
    have hl := RepL.length r1
    have hsz : v.cells.size = sz := by simp at hl; omega
    have hg' : g.le ⟨imm, g.mu, g.own⟩ := ⟨hm, fun _ _ h => h, fun _ _ => .inl rfl⟩
    have hrec := rows_ok (off := off + sz) k2 c3 (fun i u hu => by
      have := hi (sz + i) u (by
        simp only [List.flatMap_cons]
        rw [List.getElem?_append_right (by simp; omega)]
        simpa [hsz] using hu)
      rwa [← Nat.add_assoc] at this) hm
    refine ⟨⟨?_, c1, hrec.1⟩, ?_⟩
    · refine RepCells.of_vals (g := ⟨imm, g.mu, g.own⟩) (vs := v.cells.toList) (RepL.mono hg' _ _ r1) c2 fun i u hu => ?_
      refine hi i u ?_
      simp only [List.flatMap_cons]
      rw [List.getElem?_append_left (by have := (List.getElem?_eq_some_iff.1 hu).1; exact this)]
      exact hu
    · intro u hu
      cases hu with
      | head => exact hsz
      | tail _ hu => exact hrec.2 u hu

theorem flat_length {sz : Nat} : ∀ {vs : List Value}, (∀ v ∈ vs, v.cells.size = sz) → (vs.flatMap fun v => v.cells.toList).length = vs.length * sz
  | [], _ => by simp
  | v :: vs, h => by
    simp only [List.flatMap_cons, List.length_append, Array.length_toList, List.length_cons]
    rw [h v (by simp), flat_length (fun u hu => h u (by simp [hu])), Nat.add_mul]
    omega

theorem ok_row (hF : FOK g F a) {t e : TypeId} {n : Nat} {ps : Array (Nat × Operand)} {i : TypeInfo} {z : Value} {xs : List X}
    (hop : o.op = .buildSlice t n ps) (hu : P.underlying t = some (.slice e)) (hi : P.info? e = some i) (hz : i.zero = some z) (hx : compXs (ps.toList.map (·.2)) = some xs)
    (hn : ps.toList.map (·.1) = List.range n) (hzs : z.cells.size = i.size) (hpos : 0 < i.size) (hbig : n * i.size ≤ 16777216) (hW : WS B H T g w) (hf : g.free nm) {r : SR}
    (hs : step (.row e i.size xs) F H T nm = some r) (hp : r.pre) : OpOK P o a w B H T g nm r.v r.e := by
  cases hs
  have hrep : RepL g (xs.map (X.ev F)) ((ps.toList.map (·.2)).map a.eval) := rep_compXs hF hx
  have hpn : ps.toList.length = n := by have := congrArg List.length hn; simpa using this
  have hxl : xs.length = n := by rw [compXs_map hx]; simpa using hpn
  have hmm : xs.map (fun x => AV.stripL (x.ev F).cells) = (xs.map (X.ev F)).map (fun x => AV.stripL x.cells) := by simp
  simp only [] at hp ⊢
  rw [hmm] at hp ⊢
  generalize hvs : (ps.toList.map (·.2)).map a.eval = vs at hrep
  have hvl : vs.length = n := by rw [← hvs]; simpa using hpn
  have hsz : ∀ v ∈ vs, v.cells.size = i.size := by
    intro v hv
    obtain ⟨j, hj⟩ := List.getElem?_of_mem hv
    have hlt : j < (xs.map (X.ev F)).length := by have := (List.getElem?_eq_some_iff.1 hj).1; simp; omega
    obtain ⟨v', h1, h2⟩ := RepL.get hrep j _ (List.getElem?_eq_getElem hlt)
    rw [hj] at h1; cases h1
    have hc := hp (AV.stripL ((xs.map (X.ev F))[j]).cells) (List.mem_map_of_mem (List.getElem_mem hlt))
    have := RepL.length (rep_cells_strip hc.2 h2).1
    rw [hc.1] at this
    simpa using this
  have hfl := flat_length hsz
  generalize hcs : (vs.flatMap fun v => v.cells.toList) = fs at hfl
  have hpz : ps.toList.map (fun p => (p.1, a.eval p.2)) = (List.range' 0 vs.length).zip vs := by
    have key : ∀ l : List (Nat × Operand), l.map (fun p => (p.1, a.eval p.2)) = (l.map (·.1)).zip ((l.map (·.2)).map a.eval) := by
      intro l
      induction l with
      | nil => rfl
      | cons p l ih => simp [ih]
    rw [key, hvs, hn, hvl, List.range_eq_range']
  have hfill : Instr.fill (fun j => some (j * i.size, i.size)) ((Array.range (n * i.size)).map (z.cells[· % z.cells.size]!)) (ps.map fun p => (p.1, a.eval p.2)).toList = some fs.toArray := by
    rw [Array.toList_map, hpz, fill_row i.size vs 0 _ hsz (by simp [hvl])]
    simp [hcs]
  have hrun : (execOp a.eval o).run P w = .ok (.value (.slice (some ⟨w.heap.size, 0, none⟩) n n)) (w.alloc (.cells fs.toArray e)) := by
    simp only [execOp, hop]
    by_cases h0 : n * i.size = 0
    · have hn0 : n = 0 := by rcases Nat.mul_eq_zero.1 h0 with h | h; exact h; omega
      have hfs : fs = [] := List.eq_nil_of_length_eq_zero (by rw [hfl, hvl, hn0]; simp)
      have hps : ps = #[] := by apply Array.ext'; apply List.eq_nil_of_length_eq_zero; omega
      subst hn0 hps
      simp [Instr.buildSlice, run_underlying hu, sizeOf, typeInfo, hi, newRow, Instr.fill, hfs]
      rw [Array.range_zero']
      simp
    · have hnot : ¬ (16777216 < n * i.size) := by omega
      simp [Instr.buildSlice, run_underlying hu, sizeOf, typeInfo, zeroValue, hi, hz, newRow, hnot, h0]
      have := hfill
      simp at this
      simp [this]
  have hcap : n ≤ maxLen := by
    have : n ≤ n * i.size := Nat.le_mul_of_pos_right n hpos
    simp only [maxLen]; omega
  obtain ⟨k1, k2⟩ := hW.addRow hf fs.toArray e (0, 0) fs (.at w.heap.size e i.size n n) (by simp) (.inr ⟨i.size, n, n, rfl, .inl rfl, by simp [hfl, hvl], Nat.le_refl _, hcap, by simp [hfl, hvl]⟩)
  refine ⟨_, _, _, _, hrun, .inl rfl, k1, k2.weaken (fun _ h => h) (fun s hs => by rcases hs with h | h; exact .inl ⟨h, by simp⟩; exact .inr h), ?_, fun m hm hfm => addRow_free hm hfm⟩
  have hrow := (rows_ok (imm := (g.addRow nm w.heap.size fs (.at w.heap.size e i.size n n)).imm) (b := w.heap.size) (sz := i.size) (off := 0) hrep hp (fun j v hj => by
    rw [hcs] at hj
    simp only [Gh.addRow, if_true, Nat.zero_add]; exact hj) k1.imm).1
  have hl2 : ((xs.map (X.ev F)).map fun x => AV.stripL x.cells).length = n := by simp [hxl]
  refine ⟨some ⟨w.heap.size, 0, none⟩, n, by rw [hl2], .inr ⟨_, _, rfl, hpos, by omega, hcap, hrow⟩, fun t' ht => ?_⟩
  cases ht
  simp [Gh.addRow, Own.fits, hl2]
  simpa using hxl.symm
end
end Go.Ab

