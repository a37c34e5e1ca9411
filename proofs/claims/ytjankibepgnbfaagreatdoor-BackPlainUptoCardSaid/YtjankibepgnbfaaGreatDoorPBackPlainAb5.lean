/- Each operation does on the machine what it does on abstract values: stores, places, numbers, strings, slices. -/
import Derived.Test.YtjankibepgnbfaaGreatDoorPBackPlainAb4
set_option linter.unusedVariables false
set_option linter.unusedSimpArgs false
namespace Go.Ab
section
variable {P : Program} {o : Oper} {a : Act} {w : World} {B : Base} {H : Hp} {T : Tk} {g : Gh} {nm : Nm} {F : Nat → AV}

theorem onlyAt_setRow {b : Nat} {cur cs : Array Value} {ty : TypeId} {fr : Nat × Nat} (h : w.heap[b]? = some (.cells cur ty fr)) : OnlyAt w (w.setRow b cs) b :=
  ⟨rfl, rfl, rfl, by simp [World.setRow], fun b' hb => setRow_other w b b' cs hb⟩

theorem ok_st {t : TypeId} {i : TypeInfo} {x v : Operand} (hop : o.op = .store t x v) (hi : P.info? t = some i) {y u : X} (hy : Rep g (y.ev F) (a.eval x)) (hu : Rep g (u.ev F) (a.eval v)) (hW : WS B H T g w) {r : SR}
    (hs : step (.st i.size y u) F H T nm = some r) (hp : r.pre) : OpOK P o a w B H T g nm r.v r.e := by
  simp only [step] at hs
  split at hs
  · rename_i id off hx
    rw [hx] at hy
    obtain ⟨b, hm, e⟩ := hy
    split at hs
    · rename_i cs hH
      cases hs
      obtain ⟨h1, h2, h3⟩ := hp
      obtain ⟨b', hm', vs, ty, hb, hv⟩ := getH_ok hW hH
      rw [hm] at hm'; cases hm'
      obtain ⟨r1, r2⟩ := rep_cells h3 hu
      have hl := RepL.length r1
      have hlv := RepL.length hv
      simp only [Array.length_toList] at hl hlv
      have hst := run_storeCells_at P b off ty (a.eval v).cells.toList 0 vs w hb (by simp; omega) r2
      simp only [Nat.add_zero, Array.length_toList] at hst
      have hsz : (a.eval v).cells.size = i.size := by omega
      rw [hsz] at hst
      refine ⟨.skip, undef, w.setRow b (List.take off vs.toList ++ (a.eval v).cells.toList ++ List.drop (off + i.size) vs.toList).toArray, g, by simp [execOp, hop, e, Instr.storeAt, Instr.sureAddr, storeVar, sizeOf, typeInfo, hi, hsz, hst], .inr ⟨rfl, rfl⟩, .refl g, ?_, trivial, fun _ _ h => h⟩
      refine hW.setBlock (getH_mem hH) hm (onlyAt_setRow hb) ⟨_, ty, setRow_heap w b vs _ ty _ hb, ?_⟩
      simpa using RepL.append (RepL.append (RepL.take off hv) r1) (RepL.drop (off + i.size) hv)
    · cases hs
  · cases hs

theorem ok_fa {s : TypeId} {x : Operand} {f : Nat} {fields : Array Field} {fd : Field} {i : TypeInfo} (hop : o.op = .fieldAddr s x f) (hu : P.underlying s = some (.struct fields)) (hf : fields[f]? = some fd)
    (hi : P.info? fd.type = some i) (h0 : i.size ≠ 0) {y : X} (hy : Rep g (y.ev F) (a.eval x)) (hW : WS B H T g w) {r : SR}
    (hs : step (.fa fd.offset y) F H T nm = some r) : OpOK P o a w B H T g nm r.v r.e := by
  have hpl : ∀ b off, (Instr.fieldAt s (.pointer (some ⟨b, off, none⟩)) f).run P w = .ok (.pointer (some ⟨b, off + fd.offset, none⟩)) w := fun b off => by
    simp [Instr.fieldAt, run_underlying hu, hf, Instr.sureAddr, fieldPlace, sizeOf, typeInfo, hi, h0, add_lit]
  simp only [step] at hs
  split at hs
  · rename_i id off hx
    rw [hx] at hy
    obtain ⟨b, hm, e⟩ := hy
    cases hs
    exact .pure hW (cv := .pointer (some ⟨b, off + fd.offset, none⟩)) (by simp [execOp, hop, e, hpl]) ⟨b, hm, rfl⟩
  · rename_i cs hx
    rw [hx] at hy
    obtain ⟨b, off, e, k⟩ := hy
    cases hs
    exact .pure hW (cv := .pointer (some ⟨b, off + fd.offset, none⟩)) (by simp [execOp, hop, e, hpl]) ⟨b, _, rfl, RepCells.drop _ k⟩
  · cases hs

theorem run_part_ab {t : TypeId} {n : Option Nat} (ha : aggOf P t = some n) {off : Nat} {cs : List AV} {vs : Array Value} (hv : RepL g cs vs.toList)
    {p : Prop} {x : AV} (hg : aggv n (cs.drop off) = some (p, x)) (hp : p) : ∃ cv, (part t vs off).run P w = .ok cv w ∧ Rep g x cv := by
  cases n with
  | none =>
    simp only [aggv] at hg
    split at hg
    · rename_i c rest hd
      simp only [Option.some.injEq, Prod.mk.injEq] at hg
      obtain ⟨_, rfl⟩ := hg
      have h0 : cs[off]? = some c := by
        have : (cs.drop off)[0]? = some c := by rw [hd]; rfl
        simpa using this
      obtain ⟨v, h1, h2⟩ := RepL.get hv off c h0
      exact ⟨v, by simp only [Array.getElem?_toList] at h1; simp [part, aggOf_none (w := w) ha, h1], h2⟩
    · cases hg
  | some m =>
    simp only [aggv, Option.some.injEq, Prod.mk.injEq] at hg
    obtain ⟨rfl, rfl⟩ := hg
    obtain ⟨h1, h2⟩ := aggOf_some (w := w) ha
    refine ⟨.agg (vs.extract off (off + m)), by simp [part, h1, h2], _, rfl, ?_⟩
    have := RepL.take m (RepL.drop off hv)
    have e : (vs.extract off (off + m)).toList = (vs.toList.drop off).take m := by simp
    rw [e]; exact this

theorem ok_fld {s : TypeId} {x : Operand} {f : Nat} {fields : Array Field} {fd : Field} {n : Option Nat} (hop : o.op = .field s x f) (hu : P.underlying s = some (.struct fields)) (hf : fields[f]? = some fd)
    (ha : aggOf P fd.type = some n) {y : X} (hy : Rep g (y.ev F) (a.eval x)) (hW : WS B H T g w) {r : SR}
    (hs : step (.fld fd.offset n y) F H T nm = some r) (hp : r.pre) : OpOK P o a w B H T g nm r.v r.e := by
  simp only [step] at hs
  split at hs
  · rename_i cs hx
    rw [hx] at hy
    obtain ⟨vs, e, k⟩ := hy
    split at hs
    · rename_i p v hg
      cases hs
      obtain ⟨cv, hr, hrep⟩ := run_part_ab (w := w) ha k hg hp
      exact .pure hW (by simp [execOp, hop, e, Instr.field, run_underlying hu, hf, asAgg, hr]) hrep
    · cases hs
  · cases hs

theorem ok_ia {t e : TypeId} {x i : Operand} {inf : TypeInfo} (hop : o.op = .indexAddr t x i) (hu : P.underlying t = some (.slice e)) (hi : P.info? e = some inf) {y j : X} (hy : Rep g (y.ev F) (a.eval x)) (hj : Rep g (j.ev F) (a.eval i)) (hW : WS B H T g w) {r : SR}
    (hs : step (.ia inf.size y j) F H T nm = some r) (hp : r.pre) : OpOK P o a w B H T g nm r.v r.e := by
  simp only [step] at hs
  split at hs
  · rename_i tk sz' rows k n hx hn
    rw [hx] at hy
    rw [hn] at hj
    cases hs
    obtain ⟨rfl, h0, h1⟩ := hp
    obtain ⟨A, cap, he, hA, _⟩ := hy
    have hj : a.eval i = .int k n := hj
    rcases hA with ⟨_, _, rfl⟩ | ⟨b, off, rfl, hpos, hl, hm, hrow⟩
    · simp at h1; omega
    · have hlt : n.toNat < rows.length := by omega
      have hg := RepRow.get hrow n.toNat _ (List.getElem?_eq_getElem hlt)
      refine .pure hW (cv := .pointer (some ⟨b, off + n.toNat * inf.size, none⟩)) ?_ ⟨b, _, rfl, ?_⟩
      · simp only [execOp, hop, he, hj]
        simp [Instr.indexAt, asIntOf, run_underlying hu, h0, h1, sizeOf, typeInfo, hi, add_lit]
      · simp only [List.getD_eq_getElem?_getD, List.getElem?_eq_getElem hlt, Option.getD_some]
        exact hg.1
  · rename_i id sz' m k n hx hn
    rw [hx] at hy
    rw [hn] at hj
    cases hs
    obtain ⟨rfl, h0, h1⟩ := hp
    obtain ⟨b, hm, he⟩ := hy
    have hj : a.eval i = .int k n := hj
    refine .pure hW (cv := .pointer (some ⟨b, 0 + n.toNat * inf.size, none⟩)) ?_ ⟨b, hm, by simp⟩
    simp only [execOp, hop, he, hj]
    simp [Instr.indexAt, asIntOf, run_underlying hu, h0, h1, sizeOf, typeInfo, hi, add_lit]
  · rename_i room sz' rows k n hx hn
    rw [hx] at hy
    rw [hn] at hj
    cases hs
    obtain ⟨rfl, h0, h1⟩ := hp
    obtain ⟨A, cap, he, hA0, hA1, hA⟩ := hy
    have hj : a.eval i = .int k n := hj
    rcases hA with hA | ⟨b, off, rfl, hpos, hm, hrow⟩
    · omega
    · have hlt : n.toNat < rows.length := by omega
      have hg := RepRow.get hrow n.toNat _ (List.getElem?_eq_getElem hlt)
      refine .pure hW (cv := .pointer (some ⟨b, off + n.toNat * inf.size, none⟩)) ?_ ⟨b, _, rfl, ?_⟩
      · simp only [execOp, hop, he, hj]
        simp [Instr.indexAt, asIntOf, run_underlying hu, h0, h1, sizeOf, typeInfo, hi, add_lit]
      · simp only [List.getD_eq_getElem?_getD, List.getElem?_eq_getElem hlt, Option.getD_some]
        exact hg.1
  · cases hs

theorem ok_iar {t e : TypeId} {len : Nat} {x i : Operand} {inf : TypeInfo} (hop : o.op = .indexAddr t x i) (hu : P.underlying t = some (.array len e)) (hi : P.info? e = some inf) {y j : X} (hy : Rep g (y.ev F) (a.eval x)) (hj : Rep g (j.ev F) (a.eval i)) (hW : WS B H T g w) {r : SR}
    (hs : step (.iar len inf.size y j) F H T nm = some r) (hp : r.pre) : OpOK P o a w B H T g nm r.v r.e := by
  simp only [step] at hs
  split at hs
  · rename_i id off k n hx hn
    rw [hx] at hy
    rw [hn] at hj
    cases hs
    obtain ⟨b, hm, he⟩ := hy
    have hj : a.eval i = .int k n := hj
    refine .pure hW (cv := .pointer (some ⟨b, off + n.toNat * inf.size, none⟩)) ?_ ⟨b, hm, rfl⟩
    simp only [execOp, hop, he, hj]
    simp [Instr.indexAt, asIntOf, run_underlying hu, Instr.sureAddr, hp.1, hp.2, sizeOf, typeInfo, hi, add_lit]
  · cases hs

theorem ok_ixs {t : TypeId} {x i : Operand} (hop : o.op = .index t x i) (hu : P.underlying t = some .string) {y j : X} (hy : Rep g (y.ev F) (a.eval x)) (hj : Rep g (j.ev F) (a.eval i)) (hW : WS B H T g w) {r : SR}
    (hs : step (.ixs y j) F H T nm = some r) (hp : r.pre) : OpOK P o a w B H T g nm r.v r.e := by
  simp only [step] at hs
  split at hs
  · rename_i s k n hx hn
    rw [hx] at hy
    rw [hn] at hj
    cases hs
    obtain ⟨h0, h1⟩ := hp
    have hy : a.eval x = .string ⟨s.toArray⟩ := hy
    have hj : a.eval i = .int k n := hj
    have hlt : n.toNat < s.length := by omega
    refine .pure hW (cv := .int .u8 ((s.getD n.toNat 0).toNat : Int)) ?_ rfl
    have hl2 : n.toNat < (⟨s.toArray⟩ : ByteArray).size := by simpa [ByteArray.size] using hlt
    have hb : (⟨s.toArray⟩ : ByteArray)[n.toNat]? = some (s.getD n.toNat 0) := by
      rw [ByteArray.getElem?_lt' _ _ hl2]
      simp only [Option.some.injEq, List.getD_eq_getElem?_getD, List.getElem?_eq_getElem hlt, Option.getD_some]
      rfl
    simp only [execOp, hop, hy, hj]
    simp [Instr.index, asIntOf, run_underlying hu, h0, hb]
  · cases hs

theorem ok_ixa {t e : TypeId} {len : Nat} {n : Option Nat} {x i : Operand} {inf : TypeInfo} (hop : o.op = .index t x i) (hu : P.underlying t = some (.array len e)) (hi : P.info? e = some inf) (ha : aggOf P e = some n) {y j : X} (hy : Rep g (y.ev F) (a.eval x)) (hj : Rep g (j.ev F) (a.eval i)) (hW : WS B H T g w) {r : SR}
    (hs : step (.ixa len inf.size n y j) F H T nm = some r) (hp : r.pre) : OpOK P o a w B H T g nm r.v r.e := by
  simp only [step] at hs
  split at hs
  · rename_i cs k m hx hn
    rw [hx] at hy
    rw [hn] at hj
    obtain ⟨vs, he, hk⟩ := hy
    have hj : a.eval i = .int k m := hj
    split at hs
    · rename_i p v hg
      cases hs
      obtain ⟨h0, h1, h2⟩ := hp
      obtain ⟨cv, hr, hrep⟩ := run_part_ab (w := w) ha hk hg h2
      refine .pure hW (cv := cv) ?_ hrep
      simp only [execOp, hop, he, hj]
      simp [Instr.index, asIntOf, run_underlying hu, h0, h1, sizeOf, typeInfo, hi, hr]
    · cases hs
  · cases hs

theorem clsOf_bool {t : TypeId} (h : clsOf P t = .bool) : P.underlying t = some .bool := by
  unfold clsOf at h; (repeat' split at h) <;> first | assumption | cases h
theorem clsOf_ptr {t : TypeId} (h : clsOf P t = .ptr) : ∃ e, P.underlying t = some (.pointer e) := by
  unfold clsOf at h; (repeat' split at h) <;> first | exact ⟨_, ‹_›⟩ | cases h
theorem clsOf_slice {t : TypeId} (h : clsOf P t = .slice) : ∃ e, P.underlying t = some (.slice e) := by
  unfold clsOf at h; (repeat' split at h) <;> first | exact ⟨_, ‹_›⟩ | cases h
theorem clsOf_func {t : TypeId} (h : clsOf P t = .func) : ∃ p r v, P.underlying t = some (.func p r v) := by
  unfold clsOf at h; (repeat' split at h) <;> first | exact ⟨_, _, _, ‹_›⟩ | cases h

theorem equal_of {t : TypeId} {x y : Value} {b : Bool} (h : ∀ d, (Op.equalIn (d + 1) t x y).run P w = .ok b w) : (Op.equal t x y).run P w = .ok b w := h 9999

theorem run_eql_bool {t : TypeId} (h : clsOf P t = .bool) (b c : Bool) : (Op.equal t (.bool b) (.bool c)).run P w = .ok (b == c) w := equal_of fun d => by simp [Op.equalIn, run_underlying (clsOf_bool h)]

theorem clsOf_flat {t : TypeId} {ks : List KC} (h : clsOf P t = .flat ks) : P.underlying t = some (.struct (P.fieldsOf t)) ∧ flatKs P (P.fieldsOf t).toList 0 = some ks ∧ P.stoodInHeld t = false ∧ P.eqGuardType P.depth t = false := by
  unfold clsOf at h
  unfold Program.fieldsOf
  cases hu : P.underlying t with
  | none => rw [hu] at h; cases h
  | some d =>
    rw [hu] at h
    cases d <;> simp only [reduceCtorEq] at h
    rename_i fs
    split at h
    · rename_i ks' hk
      split at h
      · cases h
      · rename_i hc
        simp only [Bool.or_eq_true, not_or, Bool.not_eq_true] at hc
        cases h
        exact ⟨rfl, hk, hc.1, hc.2⟩
    · cases h
theorem bytes_beq (a b : List UInt8) : ((⟨a.toArray⟩ : ByteArray) == ⟨b.toArray⟩) = decide (a = b) := by
  have : ((⟨a.toArray⟩ : ByteArray) == ⟨b.toArray⟩) = (a.toArray == b.toArray) := rfl
  rw [this, Bool.eq_iff_iff]; simp
theorem run_isAgg_flat {t : TypeId} {k : KC} (h : flatK P t = some k) (w : World) : (isAgg t).run P w = .ok false w := by
  unfold flatK at h
  cases hu : P.underlying t with
  | none => rw [hu] at h; cases h
  | some d => rw [hu] at h; cases d <;> simp_all [isAgg, run_underlying hu]
theorem run_part_flat {t : TypeId} {k : KC} (h : flatK P t = some k) {cs : Array Value} {off : Nat} {v : Value} (hv : cs[off]? = some v) (w : World) : (part t cs off).run P w = .ok v w := by
  unfold part
  simp [run_isAgg_flat h, hv]
theorem run_eqFlat {d : Nat} {g : Gh} {vs us : Array Value} {w : World} : ∀ (fs : List Field) (i : Nat) (ks : List KC) (xs ys : List AV) (r b : Bool), flatKs P fs i = some ks → RepL g xs (vs.toList.drop i) → RepL g ys (us.toList.drop i) → eqCells ks xs ys r = some b →
    ∃ c, (Op.eqFields (d + 1) vs us fs).run P w = .ok c w ∧ b = (r && c)
  | [], i, ks, xs, ys, r, b, hk, _, _, he => by
    cases hk
    cases xs <;> cases ys <;> simp only [eqCells, Option.some.injEq, reduceCtorEq] at he
    exact ⟨true, rfl, by rw [← he, Bool.and_true]⟩
  | f :: fs, i, ks, xs, ys, r, b, hf, hx, hy, he => by
    simp only [flatKs] at hf
    split at hf
    · rename_i hno
      simp only [Bool.and_eq_true, bne_iff_ne, beq_iff_eq] at hno
      obtain ⟨hn, ho⟩ := hno
      split at hf
      · rename_i k ks' hk hks
        cases hf
        have take : ∀ {x : AV} {xs : List AV} {vs : Array Value}, RepL g (x :: xs) (vs.toList.drop i) → ∃ v, vs[f.offset]? = some v ∧ Rep g x v ∧ RepL g xs (vs.toList.drop (i + 1)) := by
          rintro x xs vs ⟨v, vs', hv, hxv, hxs⟩
          refine ⟨v, ?_, hxv, ?_⟩
          · have := congrArg (fun l => l[0]?) hv
            simp only [List.getElem?_drop, List.getElem?_cons_zero, Nat.add_zero] at this
            rw [ho]; simpa using this
          · have := congrArg (List.drop 1) hv
            rw [List.drop_drop] at this
            rw [this]; simpa using hxs
        have fin : ∀ {x y : AV} {xs ys : List AV} {e : Bool} {v u : Value}, vs[f.offset]? = some v → us[f.offset]? = some u → (Op.equalIn (d + 1) f.type v u).run P w = .ok e w → RepL g xs (vs.toList.drop (i + 1)) → RepL g ys (us.toList.drop (i + 1)) → eqCells ks' xs ys (r && e) = some b →
            ∃ c, (Op.eqFields (d + 1) vs us (f :: fs)).run P w = .ok c w ∧ b = (r && c) := by
          intro x y xs ys e v u h1 h2 h3 hxs hys h4
          obtain ⟨c, h5, h6⟩ := run_eqFlat fs (i + 1) ks' xs ys (r && e) b hks hxs hys h4
          refine ⟨e && c, ?_, by rw [h6, Bool.and_assoc]⟩
          simp only [Op.eqFields, hn, ne_eq, not_false_eq_true, if_true, Sem.run_bind, run_part_flat hk h1, run_part_flat hk h2, h3, Result.andThen_ok]
          cases e
          · simp
          · simpa using h5
        unfold flatK at hk
        cases hun : P.underlying f.type with
        | none => rw [hun] at hk; cases hk
        | some dd =>
          rw [hun] at hk
          cases dd <;> simp only [reduceCtorEq, Option.some.injEq] at hk <;> subst hk
          all_goals
            cases xs with
            | nil => simp [eqCells] at he
            | cons x xs =>
              cases ys with
              | nil => cases x <;> simp [eqCells] at he
              | cons y ys =>
                obtain ⟨v, h1, hxv, hxs⟩ := take hx
                obtain ⟨u, h2, hyu, hys⟩ := take hy
                cases x <;> cases y <;> simp only [eqCells, reduceCtorEq] at he
                first
                | (split at he
                   · rename_i hkk
                     subst hkk
                     cases hxv; cases hyu
                     exact fin (x := .und) (y := .und) h1 h2 (by simp [Op.equalIn, run_underlying hun]) hxs hys he
                   · cases he)
                | (cases hxv; cases hyu
                   exact fin (x := .und) (y := .und) h1 h2 (by first | (simp [Op.equalIn, run_underlying hun]; done) | (simp [Op.equalIn, run_underlying hun]; exact bytes_beq _ _)) hxs hys he)
      · cases hf
    · cases hf
theorem ok_bin {op : BinOp} {t yt : TypeId} {x y : Operand} (hop : o.op = .binOp op t x y yt) {x' y' : X} (hx : Rep g (x'.ev F) (a.eval x)) (hy : Rep g (y'.ev F) (a.eval y)) (hW : WS B H T g w) {r : SR}
    (hs : step (.bin op (clsOf P t) x' y') F H T nm = some r) (hp : r.pre) : OpOK P o a w B H T g nm r.v r.e := by
  simp only [step] at hs
  split at hs
  · rename_i p v hb
    cases hs
    have key : ∃ cv, (do eqGuard op t x y (a.eval x) (a.eval y); binOp op t (a.eval x) (a.eval y) : Sem Value).run P w = .ok cv w ∧ Rep g v cv := by
      generalize x'.ev F = ax at *
      generalize y'.ev F = ay at *
      generalize a.eval x = vx at *
      generalize a.eval y = vy at *
      unfold binStep at hb
      split at hb
      · -- numbers
        rename_i k m k' n
        have hx : vx = .int k m := hx
        have hy : vy = .int k' n := hy
        subst hx hy
        rw [eqGuard_at_int]
        split at hb
        · rename_i hsh
          rcases hsh with rfl | rfl
          · simp only [shOp, Option.some.injEq, Prod.mk.injEq] at hb
            obtain ⟨rfl, rfl⟩ := hb
            exact ⟨_, by simp [binOp_shl, shift_shl k k' m n hp.1 hp.2], rfl⟩
          · simp only [shOp, Option.some.injEq, Prod.mk.injEq] at hb
            obtain ⟨rfl, rfl⟩ := hb
            exact ⟨_, by simp [binOp_shr, shift_shr k k' m n hp.1 hp.2], rfl⟩
        · split at hb
          · rename_i hk
            subst hk
            cases op <;> simp only [intOp, Option.some.injEq, Prod.mk.injEq, reduceCtorEq] at hb <;> (try obtain ⟨rfl, rfl⟩ := hb)
            all_goals (refine ⟨_, ?_, rfl⟩)
            all_goals first
              | (simp [Op.intArith, binOp_add, binOp_sub, binOp_mul, binOp_and, binOp_or, binOp_xor, binOp_andNot, intBits_and, intBits_or, intBits_xor, intBits_andNot, binOp_eql, binOp_neq, binOp_lss, binOp_leq, binOp_gtr, binOp_geq]; done)
              | (have hp' : n ≠ 0 := hp
                 simp [binOp_quo, binOp_rem, Op.intDiv, hp']; done)
          · cases hb
      · -- strings
        rename_i s u
        have hx : vx = .string ⟨s.toArray⟩ := hx
        have hy : vy = .string ⟨u.toArray⟩ := hy
        subst hx hy
        rw [eqGuard_at_string]
        split at hb <;> simp only [Option.some.injEq, Prod.mk.injEq, reduceCtorEq] at hb <;> obtain ⟨rfl, rfl⟩ := hb
        · refine ⟨.string ⟨(s ++ u).toArray⟩, ?_, rfl⟩
          have hn : ¬ (9223372036854775807 < (s.length : Int) + (u.length : Int)) := by
            have : s.length + u.length ≤ 9223372036854775807 := hp
            omega
          simp [binOp, Op.stringOp, ByteArray.size, hn]
          apply WideShapes.bytes_inj
          simp
        · refine ⟨_, ?_, rfl⟩
          have e : (s == u) = decide (s = u) := by rw [Bool.eq_iff_iff]; simp
          simp [binOp, Op.stringOp, e]
        · refine ⟨_, ?_, rfl⟩
          have e : (s == u) = decide (s = u) := by rw [Bool.eq_iff_iff]; simp
          simp [binOp, Op.stringOp, e]
      · -- bools
        rename_i b c
        have hx : vx = .bool b := hx
        have hy : vy = .bool c := hy
        subst hx hy
        rw [eqGuard_at_bool]
        split at hb
        · rename_i hc
          have he := run_eql_bool (w := w) hc b c
          split at hb <;> simp only [Option.some.injEq, Prod.mk.injEq, reduceCtorEq] at hb <;> obtain ⟨rfl, rfl⟩ := hb
          · exact ⟨.bool (b == c), by simp [binOp, he], rfl⟩
          · exact ⟨.bool (!(b == c)), by simp [binOp, he], rfl⟩
        · cases hb
      · obtain rfl : vx = .pointer none := hx
        obtain rfl : vy = .pointer none := hy
        rw [eqGuard_at_pointer]
        split at hb
        · rename_i hc
          obtain ⟨pe, hpe⟩ := clsOf_ptr hc
          have he : (Op.equal t (.pointer none) (.pointer none)).run P w = .ok true w := equal_of fun d => by simp [Op.equalIn, run_underlying hpe]
          split at hb <;> simp only [Option.some.injEq, Prod.mk.injEq, reduceCtorEq] at hb <;> obtain ⟨rfl, rfl⟩ := hb
          · exact ⟨_, by simp [binOp, he], rfl⟩
          · exact ⟨_, by simp [binOp, he], rfl⟩
        · cases hb
      · obtain ⟨b, _, rfl⟩ := hx
        obtain rfl : vy = .pointer none := hy
        rw [eqGuard_at_pointer]
        split at hb
        · rename_i hc
          obtain ⟨pe, hpe⟩ := clsOf_ptr hc
          have he : ∀ x : Addr, (Op.equal t (.pointer (some x)) (.pointer none)).run P w = .ok false w := fun x => equal_of fun d => by simp [Op.equalIn, run_underlying hpe]
          split at hb <;> simp only [Option.some.injEq, Prod.mk.injEq, reduceCtorEq] at hb <;> obtain ⟨rfl, rfl⟩ := hb
          · exact ⟨_, by simp [binOp, he], rfl⟩
          · exact ⟨_, by simp [binOp, he], rfl⟩
        · cases hb
      · obtain ⟨b, _, rfl, _⟩ := hx
        obtain rfl : vy = .pointer none := hy
        rw [eqGuard_at_pointer]
        split at hb
        · rename_i hc
          obtain ⟨pe, hpe⟩ := clsOf_ptr hc
          have he : ∀ x : Addr, (Op.equal t (.pointer (some x)) (.pointer none)).run P w = .ok false w := fun x => equal_of fun d => by simp [Op.equalIn, run_underlying hpe]
          split at hb <;> simp only [Option.some.injEq, Prod.mk.injEq, reduceCtorEq] at hb <;> obtain ⟨rfl, rfl⟩ := hb
          · exact ⟨_, by simp [binOp, he], rfl⟩
          · exact ⟨_, by simp [binOp, he], rfl⟩
        · cases hb
      · obtain rfl : vx = .pointer none := hx
        obtain ⟨b, _, rfl⟩ := hy
        rw [eqGuard_at_pointer]
        split at hb
        · rename_i hc
          obtain ⟨pe, hpe⟩ := clsOf_ptr hc
          have he : ∀ x : Addr, (Op.equal t (.pointer none) (.pointer (some x))).run P w = .ok false w := fun x => equal_of fun d => by simp [Op.equalIn, run_underlying hpe]
          split at hb <;> simp only [Option.some.injEq, Prod.mk.injEq, reduceCtorEq] at hb <;> obtain ⟨rfl, rfl⟩ := hb
          · exact ⟨_, by simp [binOp, he], rfl⟩
          · exact ⟨_, by simp [binOp, he], rfl⟩
        · cases hb
      · obtain rfl : vx = .pointer none := hx
        obtain ⟨b, _, rfl, _⟩ := hy
        rw [eqGuard_at_pointer]
        split at hb
        · rename_i hc
          obtain ⟨pe, hpe⟩ := clsOf_ptr hc
          have he : ∀ x : Addr, (Op.equal t (.pointer none) (.pointer (some x))).run P w = .ok false w := fun x => equal_of fun d => by simp [Op.equalIn, run_underlying hpe]
          split at hb <;> simp only [Option.some.injEq, Prod.mk.injEq, reduceCtorEq] at hb <;> obtain ⟨rfl, rfl⟩ := hb
          · exact ⟨_, by simp [binOp, he], rfl⟩
          · exact ⟨_, by simp [binOp, he], rfl⟩
        · cases hb
      · obtain rfl : vx = .slice none 0 0 := hx
        obtain rfl : vy = .slice none 0 0 := hy
        rw [eqGuard_at_slice]
        split at hb
        · rename_i hc
          obtain ⟨pe, hpe⟩ := clsOf_slice hc
          have he : (Op.equal t (.slice none 0 0) (.slice none 0 0)).run P w = .ok true w := equal_of fun d => by simp [Op.equalIn, run_underlying hpe]
          split at hb <;> simp only [Option.some.injEq, Prod.mk.injEq, reduceCtorEq] at hb <;> obtain ⟨rfl, rfl⟩ := hb
          · exact ⟨_, by simp [binOp, he], rfl⟩
          · exact ⟨_, by simp [binOp, he], rfl⟩
        · cases hb
      · obtain ⟨A, cap, rfl, hA, _⟩ := hx
        obtain rfl : vy = .slice none 0 0 := hy
        rw [eqGuard_at_slice]
        split at hb
        · rename_i hc
          obtain ⟨pe, hpe⟩ := clsOf_slice hc
          split at hb <;> simp only [Option.some.injEq, Prod.mk.injEq, reduceCtorEq] at hb <;> obtain ⟨rfl, rfl⟩ := hb
          all_goals
            rcases hA with ⟨_, _, h⟩ | ⟨b, off, rfl, _⟩
            · exact absurd h hp
            · have he : ∀ n m, (Op.equal t (.slice (some ⟨b, off, none⟩) n m) (.slice none 0 0)).run P w = .ok false w := fun n m => equal_of fun d => by simp [Op.equalIn, run_underlying hpe]
              exact ⟨_, by simp [binOp, he], rfl⟩
        · cases hb
      · obtain rfl : vx = .nilFunc := hx
        obtain rfl : vy = .nilFunc := hy
        rw [eqGuard_at_nilFunc]
        split at hb
        · rename_i hc
          obtain ⟨pa, pr, pv, hpe⟩ := clsOf_func hc
          have he : (Op.equal t .nilFunc .nilFunc).run P w = .ok true w := equal_of fun d => by simp [Op.equalIn, run_underlying hpe]
          split at hb <;> simp only [Option.some.injEq, Prod.mk.injEq, reduceCtorEq] at hb <;> obtain ⟨rfl, rfl⟩ := hb
          · exact ⟨_, by simp [binOp, he], rfl⟩
          · exact ⟨_, by simp [binOp, he], rfl⟩
        · cases hb
      · obtain ⟨fs, cs, rfl, _, _⟩ := hx
        obtain rfl : vy = .nilFunc := hy
        rw [eqGuard_at_func]
        split at hb
        · rename_i hc
          obtain ⟨pa, pr, pv, hpe⟩ := clsOf_func hc
          have he : ∀ f x y, (Op.equal t (.func f x y) .nilFunc).run P w = .ok false w := fun f x y => equal_of fun d => by simp [Op.equalIn, run_underlying hpe]
          split at hb <;> simp only [Option.some.injEq, Prod.mk.injEq, reduceCtorEq] at hb <;> obtain ⟨rfl, rfl⟩ := hb
          · exact ⟨_, by simp [binOp, he], rfl⟩
          · exact ⟨_, by simp [binOp, he], rfl⟩
        · cases hb
      · -- structs
        rename_i xs ys
        obtain ⟨vs, rfl, hvs⟩ := hx
        obtain ⟨us, rfl, hus⟩ := hy
        cases hc : clsOf P t with
        | flat ks =>
          obtain ⟨h1, h2, h3, h4⟩ := clsOf_flat hc
          rw [hc] at hb
          simp only [Cls.eqs] at hb
          cases he : eqCells ks xs ys true with
          | none => rw [he] at hb; cases hb
          | some b =>
            rw [he] at hb
            obtain ⟨c, h5, h6⟩ := run_eqFlat (d := 9998) (w := w) (P.fieldsOf t).toList 0 ks xs ys true b h2 (by simpa using hvs) (by simpa using hus) he
            have heq : (Op.equal t (.agg vs) (.agg us)).run P w = .ok b w := by
              have e := run_equalIn_struct w 9999 t vs us h1 h3
              rw [h6, Bool.true_and]
              exact e.trans h5
            have hg : (eqGuard op t x y (.agg vs) (.agg us)).run P w = .ok () w := by
              unfold eqGuard
              cases op <;> simp [h4]
            simp only [eqRes] at hb
            split at hb <;> simp only [Option.some.injEq, Prod.mk.injEq, reduceCtorEq] at hb <;> obtain ⟨rfl, rfl⟩ := hb
            · exact ⟨_, by simp [hg, binOp, heq], rfl⟩
            · exact ⟨_, by simp [hg, binOp, heq], rfl⟩
        | _ => rw [hc] at hb; cases hb
      · obtain ⟨A, cap, rfl, hA0, _⟩ := hx
        obtain rfl : vy = .slice none 0 0 := hy
        rw [eqGuard_at_slice]
        split at hb
        · rename_i hc
          obtain ⟨pe, hpe⟩ := clsOf_slice hc
          cases A with
          | none => exact absurd rfl hA0
          | some A =>
            have he : ∀ n m, (Op.equal t (.slice (some A) n m) (.slice none 0 0)).run P w = .ok false w := fun n m => equal_of fun d => by simp [Op.equalIn, run_underlying hpe]
            split at hb <;> simp only [Option.some.injEq, Prod.mk.injEq, reduceCtorEq] at hb <;> obtain ⟨rfl, rfl⟩ := hb
            · exact ⟨_, by simp [binOp, he], rfl⟩
            · exact ⟨_, by simp [binOp, he], rfl⟩
        · cases hb
      · cases hb
    obtain ⟨cv, hr, hrep⟩ := key
    exact .pure hW (by simp only [execOp, hop]; simp only [Sem.run_bind] at hr ⊢; rw [hr]; simp) hrep
  · cases hs
end
end Go.Ab

