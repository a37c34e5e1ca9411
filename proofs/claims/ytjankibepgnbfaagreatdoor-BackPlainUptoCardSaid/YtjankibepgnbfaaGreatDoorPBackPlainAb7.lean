/- Each operation does on the machine what it does on abstract values: parts of strings and slices, append. -/
import Derived.Test.YtjankibepgnbfaaGreatDoorPBackPlainAb6
set_option linter.unusedVariables false
set_option linter.unusedSimpArgs false
namespace Go.Ab
section
variable {P : Program} {o : Oper} {a : Act} {w : World} {B : Base} {H : Hp} {T : Tk} {g : Gh} {nm : Nm} {F : Nat → AV}

theorem lo_cases (hF : FOK g F a) {lo : Option Operand} {lo' : Option X} {l : Int} (h : compO lo = some lo') (hl : loX F lo' = some l) : (lo = none ∧ l = 0) ∨ ∃ x k, lo = some x ∧ a.eval x = .int k l := by
  cases lo with
  | none => simp only [compO, Option.some.injEq] at h; subst h; simp only [loX, Option.some.injEq] at hl; exact .inl ⟨rfl, hl.symm⟩
  | some x =>
    simp only [compO, Option.map_eq_some_iff] at h
    obtain ⟨y, hy, rfl⟩ := h
    simp only [loX] at hl
    split at hl
    · rename_i k n hn
      cases hl
      have := rep_compX hF hy
      rw [hn] at this
      exact .inr ⟨x, k, rfl, this⟩
    · cases hl
theorem hi_cases (hF : FOK g F a) {hi : Option Operand} {hi' : Option X} {len : Nat} {h : Int} (hc : compO hi = some hi') (hh : hiX F len hi' = some h) : (hi = none ∧ h = len) ∨ ∃ x k, hi = some x ∧ a.eval x = .int k h := by
  cases hi with
  | none => simp only [compO, Option.some.injEq] at hc; subst hc; simp only [hiX, Option.some.injEq] at hh; exact .inl ⟨rfl, hh.symm⟩
  | some x =>
    simp only [compO, Option.map_eq_some_iff] at hc
    obtain ⟨y, hy, rfl⟩ := hc
    simp only [hiX] at hh
    split at hh
    · rename_i k n hn
      cases hh
      have := rep_compX hF hy
      rw [hn] at this
      exact .inr ⟨x, k, rfl, this⟩
    · cases hh

theorem ok_sls (hF : FOK g F a) {t : TypeId} {x : Operand} {lo hi : Option Operand} (hop : o.op = .slice t x lo hi none) (hu : P.underlying t = some .string) {y : X} {lo' hi' : Option X} (hy : Rep g (y.ev F) (a.eval x))
    (hlo : compO lo = some lo') (hhi : compO hi = some hi') (hW : WS B H T g w) {r : SR} (hs : step (.sls y lo' hi') F H T nm = some r) (hp : r.pre) : OpOK P o a w B H T g nm r.v r.e := by
  simp only [step] at hs
  split at hs
  · rename_i s hx
    rw [hx] at hy
    have hy : a.eval x = .string ⟨s.toArray⟩ := hy
    split at hs
    · rename_i l h h1 h2
      cases hs
      obtain ⟨p0, p1, p2⟩ := hp
      have hsz : (⟨s.toArray⟩ : ByteArray).size = s.length := by simp [ByteArray.size]
      have hrun : (Instr.slice t (.string ⟨s.toArray⟩) (lo.map a.eval) (hi.map a.eval) none).run P w = .ok (.string ((⟨s.toArray⟩ : ByteArray).extract l.toNat h.toNat)) w := by
        rcases lo_cases hF hlo h1 with ⟨rfl, rfl⟩ | ⟨xl, kl, rfl, el⟩ <;> rcases hi_cases hF hhi h2 with ⟨rfl, rfl⟩ | ⟨xh, kh, rfl, eh⟩
        · simp [Instr.slice, run_underlying hu, Instr.sliceBounds, hsz]
          apply WideShapes.bytes_inj
          rw [Lib.extract_data]
          simp
        · have hb := run_sliceBound (P := P) w kh h s.length .sliceAlen (by omega) p2
          simp [Instr.slice, run_underlying hu, Instr.sliceBounds, eh, hb, hsz]
        · have hb := run_sliceBound (P := P) w kl l s.length .sliceB p0 (by omega)
          simp [Instr.slice, run_underlying hu, Instr.sliceBounds, el, hb, hsz]
        · have hb := run_sliceBound (P := P) w kh h s.length .sliceAlen (by omega) p2
          have hb2 := run_sliceBound (P := P) w kl l h.toNat .sliceB p0 (by omega)
          simp [Instr.slice, run_underlying hu, Instr.sliceBounds, el, eh, hb, hb2, hsz]
      refine .pure hW (cv := .string ((⟨s.toArray⟩ : ByteArray).extract l.toNat h.toNat)) ?_ ?_
      · simp only [execOp, hop, hy]
        simp [Instr.sliceAt, run_underlying hu, hrun]
      · simp only [Rep, Value.string.injEq]
        apply WideShapes.bytes_inj
        rw [Lib.extract_data]
        simp [List.drop_take]
    · cases hs
  · cases hs

theorem ok_sll (hF : FOK g F a) {t e : TypeId} {inf : TypeInfo} {x : Operand} {lo hi mx : Option Operand} (hop : o.op = .slice t x lo hi mx) (hu : P.underlying t = some (.slice e)) (hi' : P.info? e = some inf) {y : X} {lo' hi'' mx' : Option X} (hy : Rep g (y.ev F) (a.eval x))
    (hlo : compO lo = some lo') (hhi : compO hi = some hi'') (hmx : compO mx = some mx') (hnm : mx.isSome = true → hi.isSome = true) (hW : WS B H T g w) {r : SR} (hs : step (.sll inf.size y lo' hi'' mx') F H T nm = some r) (hp : r.pre) : OpOK P o a w B H T g nm r.v r.e := by
  have key : ∀ (A : Option Addr) (len cap : Nat) (l h m : Int), len ≤ cap → loX F lo' = some l → hiX F len hi'' = some h → hiX F len mx' = some m → 0 ≤ l → l ≤ h → h ≤ len → h ≤ m → m ≤ len →
      ∃ m' : Nat, h.toNat ≤ m' ∧ m' ≤ cap ∧ (Instr.sliceAt t (.slice A len cap) (lo.map a.eval) (hi.map a.eval) (mx.map a.eval)).run P w = .ok (.slice (if m' = l.toNat then A else A.map (·.add (l.toNat * inf.size))) (h.toNat - l.toNat) (m' - l.toNat)) w := by
    intro A len cap l h m hlc h1 h2 h3 p0 p1 p2 p3 p4
    have hsz : (sizeOf e).run P w = .ok inf.size w := by simp [sizeOf, typeInfo, hi']
    rcases hi_cases hF hmx h3 with ⟨rfl, rfl⟩ | ⟨xm, km, rfl, em⟩
    · refine ⟨cap, by omega, Nat.le_refl _, ?_⟩
      rcases lo_cases hF hlo h1 with ⟨rfl, rfl⟩ | ⟨xl, kl, rfl, el⟩ <;> rcases hi_cases hF hhi h2 with ⟨rfl, rfl⟩ | ⟨xh, kh, rfl, eh⟩
      · simp [Instr.sliceAt, Instr.slice, run_underlying hu, Instr.sliceBounds, hsz]
      · have hb := run_sliceBound (P := P) w kh h cap .sliceAcap (by omega) (by omega)
        simp [Instr.sliceAt, Instr.slice, run_underlying hu, Instr.sliceBounds, eh, hb, hsz]
      · have hb := run_sliceBound (P := P) w kl l len .sliceB p0 (by omega)
        simp [Instr.sliceAt, Instr.slice, run_underlying hu, Instr.sliceBounds, el, hb, hsz]
      · have hb := run_sliceBound (P := P) w kh h cap .sliceAcap (by omega) (by omega)
        have hb2 := run_sliceBound (P := P) w kl l h.toNat .sliceB p0 (by omega)
        simp [Instr.sliceAt, Instr.slice, run_underlying hu, Instr.sliceBounds, el, eh, hb, hb2, hsz]
    · refine ⟨m.toNat, by omega, by omega, ?_⟩
      have hb0 := run_sliceBound (P := P) w km m cap .slice3Acap (by omega) (by omega)
      rcases hi_cases hF hhi h2 with ⟨rfl, rfl⟩ | ⟨xh, kh, rfl, eh⟩
      · simp at hnm
      · have hb := run_sliceBound (P := P) w kh h m.toNat .slice3B (by omega) (by omega)
        rcases lo_cases hF hlo h1 with ⟨rfl, rfl⟩ | ⟨xl, kl, rfl, el⟩
        · simp [Instr.sliceAt, Instr.slice, run_underlying hu, Instr.sliceBounds, em, eh, hb0, hb, hsz]
        · have hb2 := run_sliceBound (P := P) w kl l h.toNat .slice3C p0 (by omega)
          simp [Instr.sliceAt, Instr.slice, run_underlying hu, Instr.sliceBounds, em, eh, el, hb0, hb, hb2, hsz]
  simp only [step] at hs
  split at hs
  · rename_i tk sz' rows hx
    rw [hx] at hy
    obtain ⟨A, cap, he, hA, _⟩ := hy
    split at hs
    · rename_i l h m h1 h2 h3
      cases hs
      obtain ⟨rfl, p0, p1, p2, p3, p4⟩ := hp
      have hlc : rows.length ≤ cap := by rcases hA with ⟨_, rfl, rfl⟩ | ⟨_, _, _, _, h, _⟩; simp; exact h
      obtain ⟨m', q1, q2, hrun⟩ := key A rows.length cap l h m hlc h1 h2 h3 p0 p1 p2 p3 p4
      refine .pure hW (cv := .slice (if m' = l.toNat then A else A.map (·.add (l.toNat * inf.size))) (h.toNat - l.toNat) (m' - l.toNat)) (by simp only [execOp, hop, he]; simp [hrun]) ?_
      have hl : ((rows.take h.toNat).drop l.toNat).length = h.toNat - l.toNat := by simp; omega
      refine ⟨if m' = l.toNat then A else A.map (·.add (l.toNat * inf.size)), m' - l.toNat, by rw [hl], ?_, fun t' ht => by cases ht⟩
      rcases hA with ⟨_, rfl, rfl⟩ | ⟨b, off, rfl, hpos, _, hm, hrow⟩
      · left; exact ⟨.inr rfl, by omega, by simp⟩
      · right
        by_cases hml : m' = l.toNat
        · rw [if_pos hml]
          have : (rows.take h.toNat).drop l.toNat = [] := List.eq_nil_of_length_eq_zero (by omega)
          rw [this]
          exact ⟨b, off, rfl, hpos, by simp, by omega, trivial⟩
        · rw [if_neg hml]
          exact ⟨b, off + l.toNat * inf.size, by simp [add_lit], hpos, by rw [hl]; omega, by omega, RepRow.drop _ (RepRow.take _ hrow)⟩
    · cases hs
  · rename_i hx
    rw [hx] at hy
    have hy : a.eval x = .slice none 0 0 := hy
    split at hs
    · rename_i l h m h1 h2 h3
      cases hs
      obtain ⟨rfl, rfl, rfl⟩ := hp
      obtain ⟨m', q1, q2, hrun⟩ := key none 0 0 0 0 0 (Nat.le_refl _) h1 h2 h3 (by omega) (by omega) (by omega) (by omega) (by omega)
      obtain rfl : m' = 0 := by omega
      exact .pure hW (cv := .slice none 0 0) (by simp only [execOp, hop, hy]; simp at hrun; simp [hrun]) rfl
    · cases hs
  · rename_i room sz' rows hx
    rw [hx] at hy
    obtain ⟨A, cap, he, hA0, hA1, hA⟩ := hy
    split at hs
    · rename_i l h h1 h2
      cases hs
      obtain ⟨rfl, p0, p1, p2, p3⟩ := hp
      have hnone : mx = none := by
        cases mx with
        | none => rfl
        | some x => cases hcx : compX x with
          | none => simp [compO, hcx] at hmx
          | some y => simp [compO, hcx] at hmx
      subst hnone
      have hlc : rows.length ≤ cap := by omega
      have hsz : (sizeOf e).run P w = .ok inf.size w := by simp [sizeOf, typeInfo, hi']
      have hrun : (Instr.sliceAt t (.slice A rows.length cap) (lo.map a.eval) (hi.map a.eval) none).run P w = .ok (.slice (if cap = l.toNat then A else A.map (·.add (l.toNat * inf.size))) (h.toNat - l.toNat) (cap - l.toNat)) w := by
        rcases lo_cases hF hlo h1 with ⟨rfl, rfl⟩ | ⟨xl, kl, rfl, el⟩ <;> rcases hi_cases hF hhi h2 with ⟨rfl, rfl⟩ | ⟨xh, kh, rfl, eh⟩
        · simp [Instr.sliceAt, Instr.slice, run_underlying hu, Instr.sliceBounds, hsz]
        · have hb := run_sliceBound (P := P) w kh h cap .sliceAcap (by omega) (by omega)
          simp [Instr.sliceAt, Instr.slice, run_underlying hu, Instr.sliceBounds, eh, hb, hsz]
        · have hb := run_sliceBound (P := P) w kl l rows.length .sliceB p0 (by omega)
          simp [Instr.sliceAt, Instr.slice, run_underlying hu, Instr.sliceBounds, el, hb, hsz]
        · have hb := run_sliceBound (P := P) w kh h cap .sliceAcap (by omega) (by omega)
          have hb2 := run_sliceBound (P := P) w kl l h.toNat .sliceB p0 (by omega)
          simp [Instr.sliceAt, Instr.slice, run_underlying hu, Instr.sliceBounds, el, eh, hb, hb2, hsz]
      refine .pure hW (cv := .slice (if cap = l.toNat then A else A.map (·.add (l.toNat * inf.size))) (h.toNat - l.toNat) (cap - l.toNat)) (by simp only [execOp, hop, he]; simp [hrun]) ?_
      have hl : ((rows.take h.toNat).drop l.toNat).length = h.toNat - l.toNat := by simp; omega
      refine ⟨if cap = l.toNat then A else A.map (·.add (l.toNat * inf.size)), cap - l.toNat, by rw [hl], ?_, by rw [hl]; omega, ?_⟩
      · split
        · exact hA0
        · cases A with
          | none => exact absurd rfl hA0
          | some x => simp
      · rcases hA with hA | ⟨b, off, rfl, hpos, hm, hrow⟩
        · left; omega
        · by_cases hml : cap = l.toNat
          · left; omega
          · right
            rw [if_neg hml]
            exact ⟨b, off + l.toNat * inf.size, by simp [add_lit], hpos, by omega, RepRow.drop _ (RepRow.take _ hrow)⟩
    · cases hs
  · cases hs

/-! ### append -/
theorem slr_sl {g : Gh} {room sz : Nat} {rows : List (List AV)} {v : Value} (h : Rep g (.slr room sz rows) v) : Rep g (.sl none sz rows) v := by
  obtain ⟨A, cap, e, e0, e1, k⟩ := h
  refine ⟨A, cap, e, ?_, fun t' ht => by cases ht⟩
  rcases k with k | ⟨b, o, k1, k2, k3, k4⟩
  · exact .inl ⟨.inr rfl, k, List.eq_nil_of_length_eq_zero (by omega)⟩
  · exact .inr ⟨b, o, k1, k2, by omega, k3, k4⟩
theorem run_append_none {t ty e : TypeId} {i : TypeInfo} (ht : P.underlying t = some (.slice e)) (hi : P.info? e = some i) (base xa : Option Addr) (n cap xc : Nat) (h : n ≤ cap) :
    (Builtin.append_ #[t, t] ty #[.slice base n cap, .slice xa 0 xc]).run P w = .ok (.slice base n cap) w := by
  cases xa <;> cases base <;> simp [Builtin.append_, run_underlying ht, sizeOf, typeInfo, hi, Builtin.lenOf, h, Builtin.firstCells, loadCells, loadCellsFrom, storeCells]

theorem row_vals {b sz : Nat} {rows : List (List AV)} {off : Nat} (h : RepRow g.imm b sz off rows) : ∃ vs, RepL g rows.flatten vs ∧ vs.length = rows.length * sz ∧ (∀ v ∈ vs, v.oneCell' = true) ∧ ∀ i v, vs[i]? = some v → g.imm b (off + i) = some v := by
  obtain ⟨h1, h2⟩ := RepRow.flat h
  obtain ⟨vs, k1, k2, k3⟩ := RepCells.vals (g := g) h1
  exact ⟨vs, k1, by rw [RepL.length k1, h2], k2, k3⟩

theorem row_closed {b sz : Nat} : ∀ {rows : List (List AV)} {off : Nat}, RepRow g.imm b sz off rows → ∀ r ∈ rows, r.length = sz ∧ AV.closedL r = true
  | [], _, _, r, hr => by simp at hr
  | x :: xs, off, ⟨k1, k2, k3⟩, r, hr => by
    cases hr with
    | head =>
      refine ⟨k2, closedL_iff.2 fun y hy => ?_⟩
      obtain ⟨j, hj⟩ := List.getElem?_of_mem hy
      exact (RepCells.get k1 j y hj).choose_spec.2.1
    | tail _ hr => exact row_closed k3 r hr

theorem rep_new_row {imm : Nat → Nat → Option Value} {b sz : Nat} {rows : List (List AV)} {vs : List Value} {g' : Gh} (hg : g'.imm = imm) (hv : RepL g' rows.flatten vs) (hc : ∀ r ∈ rows, r.length = sz ∧ AV.closedL r = true) (hi : ∀ i v, vs[i]? = some v → imm b i = some v) :
    RepRow imm b sz 0 rows := by
  subst hg
  refine RepRow.of_flat (RepCells.of_vals hv (closedL_iff.2 fun x hx => ?_) (fun i v h => by rw [Nat.zero_add]; exact hi i v h)) fun r hr => (hc r hr).1
  obtain ⟨r, hr, hxr⟩ := List.mem_flatten.1 hx
  exact closedL_iff.1 (hc r hr).2 x hxr

theorem append_new {e : TypeId} {sz : Nat} {z : Value} {N cap : Nat} {rows : List (List AV)} {vs : List Value} (hW : WS B H T g w) (hf : g.free nm) (hpos : 0 < sz) (hz : z.cells.size = sz) (hv : RepL g rows.flatten vs) (hl : vs.length = N * sz) (hN : rows.length = N)
    (hc : ∀ r ∈ rows, r.length = sz ∧ AV.closedL r = true) (hcap : N ≤ cap) (hm : cap ≤ maxLen) (T' : Tk) (hT : ∀ s, T' s → s = nm ∨ T s) :
    ∃ g', g.le g' ∧ WS B H T' g' (w.drew.alloc (.cells (vs.toArray ++ Builtin.zeroCells z.cells (cap - N)) e)) ∧ Rep g' (.sl (some nm) sz rows) (.slice (some ⟨w.heap.size, 0, none⟩) N cap) ∧ ∀ n, n ≠ nm → g.free n → g'.free n := by
  obtain ⟨k1, k2⟩ := hW.drewW.addRow hf (vs.toArray ++ Builtin.zeroCells z.cells (cap - N)) e (0, 0) vs (.at w.heap.size e sz N cap) (fun i v h => by
      rw [Array.getElem?_append_left (by simpa using (List.getElem?_eq_some_iff.1 h).1)]; simpa using h)
    (.inr ⟨sz, N, cap, rfl, .inl rfl, by simp only [Array.size_append, List.size_toArray, size_zeroCells, hz, hl, ← Nat.add_mul]; congr 1; omega, hcap, hm, by omega⟩)
  refine ⟨_, k1, k2.weaken (fun _ h => h) (fun s hs => by rcases hT s hs with h | h; exact .inl ⟨h, by simp⟩; exact .inr h), ?_, fun n hn hfn => addRow_free hn hfn⟩
  refine ⟨some ⟨w.heap.size, 0, none⟩, cap, by rw [hN], .inr ⟨_, _, rfl, hpos, by omega, hm, rep_new_row rfl (RepL.mono k1 _ _ hv) hc fun i v h => ?_⟩, fun t' ht => ?_⟩
  · have hd' : w.drew.heap.size = w.heap.size := rfl
    simp only [Gh.addRow, hd', if_true]; exact h
  · cases ht
    simp [Gh.addRow, Own.fits, hN]

theorem frok_sz {fr : Nat × Nat} {n m : Nat} (h : m = n) (k : frok fr n) : frok fr m := by rw [h]; exact k
theorem run_storeCells_atB (P : Program) (g o : Nat) (t : TypeId) (fz : Nat × Nat) : ∀ (vs : List Value) (i : Nat) (cur : Array Value) (w : World), w.heap[g]? = some (.cells cur t fz) → frok fz cur.size → o + i + vs.length ≤ cur.size → (∀ v ∈ vs, v.oneCell' = true) →
    (storeCells ⟨g, o, none⟩ vs i).run P w = .ok () (w.setRow g (cur.toList.take (o + i) ++ vs ++ cur.toList.drop (o + i + vs.length)).toArray)
  | [], i, cur, w, hg, _, _, _ => by
    simp only [storeCells, List.append_nil, List.length_nil, Nat.add_zero, List.take_append_drop, Array.toArray_toList]
    rw [setRow_self w g cur t fz hg]
    rfl
  | v :: rest, i, cur, w, hg, hfz, hl, h1 => by
    have hi : o + i < cur.size := by simp at hl; omega
    have hadd : (⟨g, o, none⟩ : Addr).add i = ⟨g, o + i, none⟩ := by unfold Addr.add; split <;> simp_all
    have hcell : w.cell? ⟨g, o + i, none⟩ = some cur[o + i] := by simp [World.cell?, hg, hi]
    have hfro : w.frozen? ⟨g, o + i, none⟩ = false := by
      obtain ⟨lo, hi'⟩ := fz
      simp only [World.frozen?, hg, Bool.and_eq_false_iff, decide_eq_false_iff_not]
      rcases hfz with h | h
      · simp only [Prod.mk.injEq] at h; omega
      · simp only at h; omega
    have hst : (store ((⟨g, o, none⟩ : Addr).add i) v).run P w = .ok () (w.setRow g (cur.setIfInBounds (o + i) v)) := by
      rw [hadd, run_store P w _ v _ (h1 v (by simp)), hcell]
      simp [hfro, setCell_eq_setRow w g (o + i) cur t fz v hg]
    have ih := run_storeCells_atB P g o t fz rest (i + 1) (cur.setIfInBounds (o + i) v) (w.setRow g (cur.setIfInBounds (o + i) v)) (setRow_heap w g cur _ t _ hg) (frok_sz (by simp) hfz) (by simp at hl ⊢; omega) (fun x hx => h1 x (by simp [hx]))
    simp only [storeCells, Sem.run_bind, hst, Result.andThen_ok, ih, setRow_setRow]
    congr 3
    have e := list_seg_step cur.toList (o + i) v rest (by simp at hl ⊢; omega)
    simpa [Array.toList_setIfInBounds, Nat.add_assoc] using e

set_option maxHeartbeats 1000000 in
theorem append_core {t e ty : TypeId} {i : TypeInfo} {z : Value} (hu : P.underlying t = some (.slice e)) (hi : P.info? e = some i) (hz : i.zero = some z) (hzs : z.cells.size = i.size) (hpos : 0 < i.size)
    {vx vy : Value} {rows rows' : List (List AV)} {tk : Option Nm} {tky : Option Nm} (hW : WS B H T g w) (hf : g.free nm)
    (hx : (tk = none ∧ vx = .slice none 0 0 ∧ rows = []) ∨ ∃ t0, tk = some t0 ∧ T t0 ∧ Rep g (.sl (some t0) i.size rows) vx) (hy : Rep g (.sl tky i.size rows') vy) (hb : (rows.length + rows'.length) * i.bytes ≤ 140737488355328) (hml : rows.length + rows'.length ≤ maxLen) :
    ∃ cv w' g', (Builtin.append_ #[t, t] ty #[vx, vy]).run P w = .ok cv w' ∧ g.le g' ∧ WS B H ((Eff.app tk).T nm T) g' w' ∧ Rep g' (.sl (some nm) i.size (rows ++ rows')) cv ∧ ∀ n, n ≠ nm → g.free n → g'.free n := by
  have hT' : ∀ s, (Eff.app tk).T nm T s → s = nm ∨ T s := by
    intro s hs
    cases tk with
    | none => exact hs
    | some t0 => rcases hs with h | h; exact .inl h; exact .inr h.1
  obtain ⟨A', cap', rfl, hA', _⟩ := hy
  have hnil : ∀ (_ : vx = .slice none 0 0) (_ : rows = []), ∃ cv w' g', (Builtin.append_ #[t, t] ty #[vx, .slice A' rows'.length cap']).run P w = .ok cv w' ∧ g.le g' ∧ WS B H ((Eff.app tk).T nm T) g' w' ∧ Rep g' (.sl (some nm) i.size (rows ++ rows')) cv ∧ ∀ n, n ≠ nm → g.free n → g'.free n := by
    rintro rfl rfl
    by_cases h0 : rows' = []
    · subst h0
      obtain ⟨k1, k2⟩ := hW.addNil hf
      refine ⟨_, w, _, run_append_none hu hi none A' 0 0 cap' (Nat.le_refl _), k1, k2.weaken (fun _ h => h) hT', ⟨none, 0, rfl, .inl ⟨.inl rfl, rfl, rfl⟩, fun t' ht => by cases ht; simp [Gh.addNil, Own.fits]⟩, fun n hn hfn => addNil_free hn hfn⟩
    · rcases hA' with ⟨_, _, h⟩ | ⟨b, off, rfl, _, hlc, hm, hrow⟩
      · exact absurd h h0
      · obtain ⟨vs, v1, v2, v3, v4⟩ := row_vals hrow
        have hlen : 0 < rows'.length := List.length_pos_iff.2 h0
        simp only [List.length_nil, Nat.zero_add] at hb hml
        have hr := run_append_nil (P := P) w t ty e i z hu hi hz ⟨b, off, none⟩ rows'.length cap' vs v2 (fun j v hj => by rw [add_lit]; exact hW.inv.imm _ _ _ (v4 j v hj)) hlen (by simp only [maxLen] at hml; omega) (by omega)
        obtain ⟨g', k1, k2, k3, k4⟩ := append_new (e := e) (z := z) (rows := rows') hW hf hpos hzs v1 v2 rfl (row_closed hrow) (grownCap_ge w _ 0 e) (grownCap_le_maxLen w _ 0 e hml) _ hT'
        exact ⟨_, _, g', hr, k1, k2, by simpa using k3, k4⟩
  rcases hx with ⟨rfl, hx1, hx2⟩ | ⟨t0, rfl, ht0, hx⟩
  · exact hnil hx1 hx2
  · obtain ⟨A, cap, rfl, hA, htok⟩ := hx
    have hfit := htok t0 rfl
    have hto := hW.toks t0 ht0
    cases ho : g.own t0 with
    | fresh => exact absurd ho hto.2
    | dead => exact absurd ho hto.1
    | nil =>
      rw [ho] at hfit
      obtain rfl : A = none := hfit
      rcases hA with ⟨_, rfl, rfl⟩ | ⟨_, _, h, _⟩
      · exact hnil rfl rfl
      · cases h
    | «at» b e' sz' n' c' =>
      rw [ho] at hfit
      obtain ⟨rfl, hz', hn', hcc⟩ := hfit
      have hcc := hcc.symm
      subst hz' hn' hcc
      rcases hA with ⟨h | h, _⟩ | ⟨b', o', h, _, hlc, hm, hrow⟩
      · cases h
      · cases h
      · cases h
        obtain ⟨⟨cur, fr, hcur, hcs, hfr⟩, hn1, hn2, hn3, hn4⟩ := hW.inv.own t0 _ _ _ _ _ ho
        obtain ⟨us, u1, u2, u3, u4⟩ := row_vals hrow
        have hold : ∀ (j : Nat) (v : Value), us[j]? = some v → cur[j]? = some v := fun j v hj => by
          have := hW.inv.imm _ _ _ (u4 j v hj)
          rw [Nat.zero_add, cell_of_row w b j cur e' fr hcur] at this
          exact this
        by_cases h0 : rows' = []
        · subst h0
          obtain ⟨k1, k2⟩ := hW.grow (m := 0) hf ht0 ho [] (by simp) (by omega) hcur ⟨rfl, rfl, rfl, rfl, fun _ _ => rfl⟩ hcur hfr rfl (fun _ _ => rfl) (by simp)
          refine ⟨_, w, _, run_append_none hu hi _ A' rows.length cap cap' hlc, k1, k2, ?_, fun n hn hfn => grow_free hn hfn hto.2⟩
          simp only [List.append_nil]
          refine ⟨_, cap, rfl, .inr ⟨b, 0, rfl, hpos, hlc, hm, RepRow.mono k1.imm _ _ _ _ hrow⟩, fun t' ht => ?_⟩
          cases ht
          simp [Gh.grow, Own.fits]
        · rcases hA' with ⟨_, _, h⟩ | ⟨b2, off, rfl, _, hlc', hm', hrow'⟩
          · exact absurd h h0
          · obtain ⟨vs, v1, v2, v3, v4⟩ := row_vals hrow'
            have hnews : ∀ (j : Nat) (v : Value), vs[j]? = some v → w.cell? ((⟨b2, off, none⟩ : Addr).add j) = some v := fun j v hj => by rw [add_lit]; exact hW.inv.imm _ _ _ (v4 j v hj)
            by_cases hroom : rows.length + rows'.length ≤ cap
            · have hee : e' = e ∨ e' ≠ e := by by_cases h : e' = e; exact .inl h; exact .inr h
              have hfit2 : rows.length * i.size + vs.length ≤ cur.size := by rw [v2, hcs, ← Nat.add_mul]; exact Nat.mul_le_mul_right _ hroom
              have hf' := run_firstCells_some (P := P) w i.size rows'.length ⟨b2, off, none⟩ rows'.length cap' vs v2 hnews
              have hst := run_storeCells_atB P b (rows.length * i.size) e' fr vs 0 cur w hcur hfr (by simpa using hfit2) v3
              simp only [Nat.add_zero] at hst
              have hr : (Builtin.append_ #[t, t] ty #[.slice (some ⟨b, 0, none⟩) rows.length cap, .slice (some ⟨b2, off, none⟩) rows'.length cap']).run P w = .ok (.slice (some ⟨b, 0, none⟩) (rows.length + rows'.length) cap) (w.setRow b (cur.toList.take (rows.length * i.size) ++ vs ++ cur.toList.drop (rows.length * i.size + vs.length)).toArray) := by
                simp [Builtin.append_, run_underlying hu, sizeOf, typeInfo, hi, Builtin.lenOf, hroom, hf', Addr.add_lit, hst]
              have hcl : rows.length * i.size ≤ cur.size := by omega
              obtain ⟨k1, k2⟩ := hW.grow (w' := w.setRow b (cur.toList.take (rows.length * i.size) ++ vs ++ cur.toList.drop (rows.length * i.size + vs.length)).toArray) (cur' := (cur.toList.take (rows.length * i.size) ++ vs ++ cur.toList.drop (rows.length * i.size + vs.length)).toArray) (m := rows'.length) hf ht0 ho vs v2 hroom hcur (onlyAt_setRow hcur) (setRow_heap w b cur _ e' fr hcur) (frok_sz (by simp; omega) hfr) (by simp; omega)
                (fun j hj => by
                  simp only [List.getElem?_toArray, List.append_assoc]
                  rw [List.getElem?_append_left (by simp; omega), List.getElem?_take, if_pos hj]; simp)
                (fun j v hj => by
                  simp only [List.getElem?_toArray, List.append_assoc]
                  rw [List.getElem?_append_right (by rw [List.length_take, show cur.toList.length = cur.size from by simp]; omega)]
                  have : rows.length * i.size + j - (List.take (rows.length * i.size) cur.toList).length = j := by rw [List.length_take, show cur.toList.length = cur.size from by simp]; omega
                  rw [this, List.getElem?_append_left (List.getElem?_eq_some_iff.1 hj).1]; exact hj)
              refine ⟨_, _, _, hr, k1, k2, ⟨_, cap, by simp, .inr ⟨b, 0, rfl, hpos, by simpa using hroom, hm, ?_⟩, fun t' ht => by cases ht; simp [Gh.grow, Own.fits]⟩, fun n hn hfn => grow_free hn hfn hto.2⟩
              refine rep_new_row rfl (vs := us ++ vs) (by rw [List.flatten_append]; exact RepL.append (RepL.mono k1 _ _ u1) (RepL.mono k1 _ _ v1)) (fun r hr => by
                rcases List.mem_append.1 hr with h | h
                · exact row_closed hrow r h
                · exact row_closed hrow' r h) fun j v hj => ?_
              simp only [Gh.grow]
              by_cases hj2 : j < us.length
              · rw [List.getElem?_append_left hj2] at hj
                rw [if_neg (by rintro ⟨_, h⟩; omega)]
                have := u4 j v hj
                rwa [Nat.zero_add] at this
              · rw [List.getElem?_append_right (by omega)] at hj
                rw [if_pos ⟨trivial, by omega⟩, ← u2]; exact hj
            · have holds : ∀ (j : Nat) (v : Value), us[j]? = some v → w.cell? ((⟨b, 0, none⟩ : Addr).add j) = some v := fun j v hj => by
                rw [add_lit]; exact hW.inv.imm _ _ _ (u4 j v hj)
              have hr := run_append_grow (P := P) w t ty e i z hu hi hz ⟨b, 0, none⟩ rows.length cap us u2 holds ⟨b2, off, none⟩ rows'.length cap' vs v2 hnews (by omega) (by simp only [maxLen] at hml; omega) (growslice_fits (by omega) hb)
              obtain ⟨g', k1, k2, k3, k4⟩ := append_new (e := e) (z := z) (rows := rows ++ rows') (vs := us ++ vs) hW hf hpos hzs (by rw [List.flatten_append]; exact RepL.append u1 v1) (by rw [List.length_append, u2, v2, Nat.add_mul]) (by simp) (fun r hr => by
                rcases List.mem_append.1 hr with h | h
                · exact row_closed hrow r h
                · exact row_closed hrow' r h) (grownCap_ge w _ cap e) (grownCap_le_maxLen w _ cap e hml) _ hT'
              refine ⟨_, _, g', hr, k1, ?_, k3, k4⟩
              simpa using k2

theorem strCells_bytesAV (s : List UInt8) : RepL g (bytesAV s).flatten (Lib.strCells ⟨s.toArray⟩) := by
  have e : Lib.strCells ⟨s.toArray⟩ = s.map fun b => Value.int .u8 (b.toNat : Int) := by simp [Lib.strCells]
  rw [e]
  clear e
  induction s with
  | nil => exact rfl
  | cons c s ih => exact ⟨_, _, rfl, rfl, ih⟩
theorem bytesAV_closed (s : List UInt8) : ∀ r ∈ bytesAV s, r.length = 1 ∧ AV.closedL r = true := by
  intro r hr
  obtain ⟨c, _, rfl⟩ := List.mem_map.1 hr
  exact ⟨rfl, rfl⟩

set_option maxHeartbeats 1000000 in
theorem aps_core {t u e ty : TypeId} {i : TypeInfo} (hu : P.underlying t = some (.slice e)) (hus : P.underlying u = some .string) (hi : P.info? e = some i) (hz : i.zero = some (.int .u8 0)) (hs1 : i.size = 1) (hb1 : i.bytes = 1)
    {vx : Value} {rows : List (List AV)} {s : List UInt8} {tk : Option Nm} (hW : WS B H T g w) (hf : g.free nm)
    (hx : (tk = none ∧ vx = .slice none 0 0 ∧ rows = []) ∨ ∃ t0, tk = some t0 ∧ T t0 ∧ Rep g (.sl (some t0) 1 rows) vx) (hb : rows.length + s.length ≤ 140737488355328) :
    ∃ cv w' g', (Builtin.append_ #[t, u] ty #[vx, .string ⟨s.toArray⟩]).run P w = .ok cv w' ∧ g.le g' ∧ WS B H ((Eff.app tk).T nm T) g' w' ∧ Rep g' (.sl (some nm) 1 (rows ++ bytesAV s)) cv ∧ ∀ n, n ≠ nm → g.free n → g'.free n := by
  have hT' : ∀ s, (Eff.app tk).T nm T s → s = nm ∨ T s := by
    intro s hs
    cases tk with
    | none => exact hs
    | some t0 => rcases hs with h | h; exact .inl h; exact .inr h.1
  have hml : rows.length + s.length ≤ maxLen := by simp only [maxLen]; omega
  have hsz : (⟨s.toArray⟩ : ByteArray).size = s.length := by simp [ByteArray.size]
  have hsl : (Lib.strCells ⟨s.toArray⟩).length = s.length := by rw [Lib.strCells_length, hsz]
  have hnil : ∀ (_ : vx = .slice none 0 0) (_ : rows = []), ∃ cv w' g', (Builtin.append_ #[t, u] ty #[vx, .string ⟨s.toArray⟩]).run P w = .ok cv w' ∧ g.le g' ∧ WS B H ((Eff.app tk).T nm T) g' w' ∧ Rep g' (.sl (some nm) 1 (rows ++ bytesAV s)) cv ∧ ∀ n, n ≠ nm → g.free n → g'.free n := by
    rintro rfl rfl
    by_cases h0 : s = []
    · subst h0
      obtain ⟨k1, k2⟩ := hW.addNil hf
      have hr : (Builtin.append_ #[t, u] ty #[.slice none 0 0, .string ⟨([] : List UInt8).toArray⟩]).run P w = .ok (.slice none 0 0) w := by
        have h0 : (⟨([] : List UInt8).toArray⟩ : ByteArray) = ByteArray.empty := rfl
        rw [h0]
        simp [Builtin.append_, run_underlying hu, run_underlying hus, sizeOf, typeInfo, hi, Builtin.lenOf, Builtin.firstCells]
      refine ⟨_, w, _, hr, k1, k2.weaken (fun _ h => h) hT', ⟨none, 0, rfl, .inl ⟨.inl rfl, rfl, rfl⟩, fun t' ht => by cases ht; simp [Gh.addNil, Own.fits]⟩, fun n hn hfn => addNil_free hn hfn⟩
    · have hlen : 0 < s.length := List.length_pos_iff.2 h0
      have hr := run_append_nil_string (P := P) w t u ty e i _ hu hus hi hz ⟨s.toArray⟩ (by rw [hsz]; exact hlen) (by rw [hsz]; simp only [maxLen] at hml; omega) (by rw [hsz, hb1]; omega)
      rw [hsz] at hr
      have he : (Array.map (fun b : UInt8 => Value.int IntKind.u8 (b.toNat : Int)) s.toArray) = (Lib.strCells ⟨s.toArray⟩).toArray := by simp [Lib.strCells]
      obtain ⟨g', k1, k2, k3, k4⟩ := append_new (e := e) (z := .int .u8 0) (rows := bytesAV s) (sz := 1) hW hf (by omega) rfl (strCells_bytesAV s) (by rw [hsl, Nat.mul_one]) (bytesAV_length s) (bytesAV_closed s) (grownCap_ge w _ 0 e) (grownCap_le_maxLen w s.length 0 e (by simp only [List.length_nil] at hml; omega)) _ hT'
      refine ⟨_, _, g', hr, k1, ?_, by simpa using k3, k4⟩
      rw [← he] at k2; exact k2
  rcases hx with ⟨rfl, hx1, hx2⟩ | ⟨t0, rfl, ht0, hx⟩
  · exact hnil hx1 hx2
  · obtain ⟨A, cap, rfl, hA, htok⟩ := hx
    have hfit := htok t0 rfl
    have hto := hW.toks t0 ht0
    cases ho : g.own t0 with
    | fresh => exact absurd ho hto.2
    | dead => exact absurd ho hto.1
    | nil =>
      rw [ho] at hfit
      obtain rfl : A = none := hfit
      rcases hA with ⟨_, rfl, rfl⟩ | ⟨_, _, h, _⟩
      · exact hnil rfl rfl
      · cases h
    | «at» b e' sz' n' c' =>
      rw [ho] at hfit
      obtain ⟨rfl, hz', hn', hcc⟩ := hfit
      have hcc := hcc.symm
      subst hz' hn' hcc
      rcases hA with ⟨h | h, _⟩ | ⟨b', o', h, hpos, hlc, hm, hrow⟩
      · cases h
      · cases h
      · cases h
        obtain ⟨⟨cur, fr, hcur, hcs, hfr⟩, hn1, hn2, hn3, hn4⟩ := hW.inv.own t0 _ _ _ _ _ ho
        obtain ⟨us, u1, u2, u3, u4⟩ := row_vals hrow
        by_cases hroom : rows.length + s.length ≤ cap
        · have hf' := Lib.run_firstCells_string (P := P) w 1 ⟨s.toArray⟩
          rw [hsz] at hf'
          have hst := run_storeCells_atB P b rows.length e' fr (Lib.strCells ⟨s.toArray⟩) 0 cur w hcur hfr (by rw [hsl]; omega) (Lib.strCells_oneCell _)
          simp only [Nat.add_zero] at hst
          have hr : (Builtin.append_ #[t, u] ty #[.slice (some ⟨b, 0, none⟩) rows.length cap, .string ⟨s.toArray⟩]).run P w = .ok (.slice (some ⟨b, 0, none⟩) (rows.length + s.length) cap) (w.setRow b (cur.toList.take rows.length ++ Lib.strCells ⟨s.toArray⟩ ++ cur.toList.drop (rows.length + (Lib.strCells ⟨s.toArray⟩).length)).toArray) := by
            simp [Builtin.append_, run_underlying hu, run_underlying hus, sizeOf, typeInfo, hi, hs1, Builtin.lenOf, hsz, hroom, hf', Addr.add_lit, hst]
          obtain ⟨k1, k2⟩ := hW.grow (w' := w.setRow b (cur.toList.take rows.length ++ Lib.strCells ⟨s.toArray⟩ ++ cur.toList.drop (rows.length + (Lib.strCells ⟨s.toArray⟩).length)).toArray) (cur' := (cur.toList.take rows.length ++ Lib.strCells ⟨s.toArray⟩ ++ cur.toList.drop (rows.length + (Lib.strCells ⟨s.toArray⟩).length)).toArray) (m := s.length) hf ht0 ho (Lib.strCells ⟨s.toArray⟩) (by rw [hsl, Nat.mul_one]) hroom hcur (onlyAt_setRow hcur) (setRow_heap w b cur _ e' fr hcur) (frok_sz (by simp [hsl]; omega) hfr) (by simp [hsl]; omega)
            (fun j hj => by
              simp only [List.getElem?_toArray, List.append_assoc]
              rw [List.getElem?_append_left (by simp; omega), List.getElem?_take, if_pos (by omega)]; simp)
            (fun j v hj => by
              simp only [List.getElem?_toArray, List.append_assoc, Nat.mul_one]
              rw [List.getElem?_append_right (by rw [List.length_take, show cur.toList.length = cur.size from by simp]; omega)]
              have : rows.length + j - (List.take rows.length cur.toList).length = j := by rw [List.length_take, show cur.toList.length = cur.size from by simp]; omega
              rw [this, List.getElem?_append_left (List.getElem?_eq_some_iff.1 hj).1]; exact hj)
          refine ⟨_, _, _, hr, k1, k2, ⟨_, cap, by simp [bytesAV_length], .inr ⟨b, 0, rfl, by omega, by simpa [bytesAV_length] using hroom, hm, ?_⟩, fun t' ht => by cases ht; simp [Gh.grow, Own.fits, bytesAV_length]⟩, fun n hn hfn => grow_free hn hfn hto.2⟩
          refine rep_new_row rfl (vs := us ++ Lib.strCells ⟨s.toArray⟩) (by rw [List.flatten_append]; exact RepL.append (RepL.mono k1 _ _ u1) (strCells_bytesAV s)) (fun r hr => by
            rcases List.mem_append.1 hr with h | h
            · exact row_closed hrow r h
            · exact bytesAV_closed s r h) fun j v hj => ?_
          simp only [Gh.grow]
          by_cases hj2 : j < us.length
          · rw [List.getElem?_append_left hj2] at hj
            rw [if_neg (by rintro ⟨_, h⟩; omega)]
            have := u4 j v hj
            rwa [Nat.zero_add] at this
          · rw [List.getElem?_append_right (by omega)] at hj
            rw [if_pos ⟨trivial, by omega⟩, ← u2]; exact hj
        · have holds : ∀ (j : Nat) (v : Value), us[j]? = some v → w.cell? ((⟨b, 0, none⟩ : Addr).add j) = some v := fun j v hj => by
            rw [add_lit]; exact hW.inv.imm _ _ _ (u4 j v hj)
          have hr := Lib.run_append_grow_string (P := P) w t u ty e i _ hu hus hi hz ⟨b, 0, none⟩ rows.length cap us (by rw [hs1]; exact u2) holds ⟨s.toArray⟩ (by rw [hsz]; omega) (by rw [hsz]; simp only [maxLen] at hml; omega) (growslice_fits (by rw [hsz]; omega) (by rw [hsz, hb1]; omega))
          rw [hsz] at hr
          obtain ⟨g', k1, k2, k3, k4⟩ := append_new (e := e) (z := .int .u8 0) (sz := 1) (rows := rows ++ bytesAV s) (vs := us ++ Lib.strCells ⟨s.toArray⟩) hW hf (by omega) rfl (by rw [List.flatten_append]; exact RepL.append u1 (strCells_bytesAV s)) (by rw [List.length_append, u2, hsl]; omega) (by simp [bytesAV_length]) (fun r hr => by
            rcases List.mem_append.1 hr with h | h
            · exact row_closed hrow r h
            · exact bytesAV_closed s r h) (grownCap_ge w _ cap e) (grownCap_le_maxLen w _ cap e hml) _ hT'
          refine ⟨_, _, g', hr, k1, ?_, k3, k4⟩
          simpa using k2

theorem maxLen_of_bytes {n bytes : Nat} (h : n * bytes ≤ 140737488355328) (hb : 0 < bytes) : n ≤ maxLen := by
  have := Nat.le_mul_of_pos_right n hb
  simp only [maxLen]; omega

theorem ok_app {c : Call} {t e : TypeId} {x y : Operand} {i : TypeInfo} {z : Value} (hop : o.op = .call c) (hc : c.callee = .builtin .append) (hx' : c.args.toList = [x, y]) (hta : c.argTypes.toList = [t, t])
    (hu : P.underlying t = some (.slice e)) (hi : P.info? e = some i) (hz : i.zero = some z) (hzs : z.cells.size = i.size) (hpos : 0 < i.size) (hby : 0 < i.bytes) {x' y' : X} (hx : Rep g (x'.ev F) (a.eval x)) (hy : Rep g (y'.ev F) (a.eval y)) (hW : WS B H T g w) (hf : g.free nm) {r : SR}
    (hs : step (.app e i.size i.bytes x' y') F H T nm = some r) (hp : r.pre) : OpOK P o a w B H T g nm r.v r.e := by
  have ha : c.args = #[x, y] := by apply Array.ext'; simpa using hx'
  have hta : c.argTypes = #[t, t] := by apply Array.ext'; simpa using hta
  have run : ∀ {cv w'}, (Builtin.append_ #[t, t] o.type #[a.eval x, a.eval y]).run P w = .ok cv w' → (execOp a.eval o).run P w = .ok (.value cv) w' := fun h => by
    simp only [execOp, hop, resolve, hc, ha, hta]
    simp [invoke, builtin, h]
  simp only [step] at hs
  split at hs
  · rename_i tky sz' rows' h1 h2
    rw [h1] at hx
    rw [h2] at hy
    cases hs
    obtain ⟨rfl, hb⟩ := hp
    obtain ⟨cv, w', g', k1, k2, k3, k4, k5⟩ := append_core (rows := []) (tk := none) (ty := o.type) hu hi hz hzs hpos hW hf (.inl ⟨rfl, hx, rfl⟩) hy (by simpa using hb) (by simpa using maxLen_of_bytes hb hby)
    exact ⟨_, cv, w', g', run k1, .inl rfl, k2, k3, by simpa using k4, k5⟩
  · rename_i t0 sz0 rows tky sz' rows' h1 h2
    rw [h1] at hx
    rw [h2] at hy
    cases hs
    obtain ⟨ht, rfl, hsz, hb⟩ := hp
    subst hsz
    obtain ⟨cv, w', g', k1, k2, k3, k4, k5⟩ := append_core (rows := rows) (tk := some t0) (ty := o.type) hu hi hz hzs hpos hW hf (.inr ⟨t0, rfl, ht, hx⟩) hy hb (maxLen_of_bytes hb hby)
    exact ⟨_, cv, w', g', run k1, .inl rfl, k2, k3, k4, k5⟩
  · rename_i t0 sz0 rows h1 h2
    rw [h1] at hx
    rw [h2] at hy
    cases hs
    have hy : a.eval y = .slice none 0 0 := hy
    obtain ⟨A, cap, he, hA, hk⟩ := hx
    have hl : rows.length ≤ cap := by rcases hA with ⟨_, rfl, rfl⟩ | ⟨_, _, _, _, h, _⟩; simp; exact h
    exact .pure hW (run (by rw [he, hy]; exact run_append_none hu hi A none rows.length cap 0 hl)) ⟨A, cap, rfl, hA, hk⟩
  · rename_i h1 h2
    rw [h1] at hx
    rw [h2] at hy
    cases hs
    have hx : a.eval x = .slice none 0 0 := hx
    have hy : a.eval y = .slice none 0 0 := hy
    exact .pure hW (run (by rw [hx, hy]; exact run_append_none hu hi none none 0 0 0 (Nat.le_refl _))) rfl
  · rename_i room sz' rows' h1 h2
    rw [h1] at hx
    rw [h2] at hy
    have hy := slr_sl hy
    cases hs
    obtain ⟨rfl, hb⟩ := hp
    obtain ⟨cv, w', g', k1, k2, k3, k4, k5⟩ := append_core (rows := []) (tk := none) (ty := o.type) hu hi hz hzs hpos hW hf (.inl ⟨rfl, hx, rfl⟩) hy (by simpa using hb) (by simpa using maxLen_of_bytes hb hby)
    exact ⟨_, cv, w', g', run k1, .inl rfl, k2, k3, by simpa using k4, k5⟩
  · rename_i t0 sz0 rows room sz' rows' h1 h2
    rw [h1] at hx
    rw [h2] at hy
    have hy := slr_sl hy
    cases hs
    obtain ⟨ht, rfl, hsz, hb⟩ := hp
    subst hsz
    obtain ⟨cv, w', g', k1, k2, k3, k4, k5⟩ := append_core (rows := rows) (tk := some t0) (ty := o.type) hu hi hz hzs hpos hW hf (.inr ⟨t0, rfl, ht, hx⟩) hy hb (maxLen_of_bytes hb hby)
    exact ⟨_, cv, w', g', run k1, .inl rfl, k2, k3, k4, k5⟩
  · cases hs

theorem ok_aps {c : Call} {t u e : TypeId} {x y : Operand} {i : TypeInfo} (hop : o.op = .call c) (hc : c.callee = .builtin .append) (hx' : c.args.toList = [x, y]) (hta : c.argTypes.toList = [t, u])
    (hu : P.underlying t = some (.slice e)) (hus : P.underlying u = some .string) (hi : P.info? e = some i) (hz : i.zero = some (.int .u8 0)) (hs1 : i.size = 1) (hb1 : i.bytes = 1) {x' y' : X} (hx : Rep g (x'.ev F) (a.eval x)) (hy : Rep g (y'.ev F) (a.eval y)) (hW : WS B H T g w) (hf : g.free nm) {r : SR}
    (hs : step (.aps e x' y') F H T nm = some r) (hp : r.pre) : OpOK P o a w B H T g nm r.v r.e := by
  have ha : c.args = #[x, y] := by apply Array.ext'; simpa using hx'
  have hta : c.argTypes = #[t, u] := by apply Array.ext'; simpa using hta
  have run : ∀ {cv w'}, (Builtin.append_ #[t, u] o.type #[a.eval x, a.eval y]).run P w = .ok cv w' → (execOp a.eval o).run P w = .ok (.value cv) w' := fun h => by
    simp only [execOp, hop, resolve, hc, ha, hta]
    simp [invoke, builtin, h]
  simp only [step] at hs
  split at hs
  · rename_i s h1 h2
    rw [h1] at hx
    rw [h2] at hy
    cases hs
    have hy : a.eval y = .string ⟨s.toArray⟩ := hy
    obtain ⟨cv, w', g', k1, k2, k3, k4, k5⟩ := aps_core (rows := []) (s := s) (tk := none) (ty := o.type) hu hus hi hz hs1 hb1 hW hf (.inl ⟨rfl, hx, rfl⟩) (by simpa using hp)
    rw [← hy] at k1
    exact ⟨_, cv, w', g', run k1, .inl rfl, k2, k3, by simpa using k4, k5⟩
  · rename_i t0 sz0 rows s h1 h2
    rw [h1] at hx
    rw [h2] at hy
    cases hs
    obtain ⟨ht, rfl, hb⟩ := hp
    have hy : a.eval y = .string ⟨s.toArray⟩ := hy
    obtain ⟨cv, w', g', k1, k2, k3, k4, k5⟩ := aps_core (rows := rows) (s := s) (tk := some t0) (ty := o.type) hu hus hi hz hs1 hb1 hW hf (.inr ⟨t0, rfl, ht, hx⟩) hb
    rw [← hy] at k1
    exact ⟨_, cv, w', g', run k1, .inl rfl, k2, k3, k4, k5⟩
  · cases hs
end
end Go.Ab

