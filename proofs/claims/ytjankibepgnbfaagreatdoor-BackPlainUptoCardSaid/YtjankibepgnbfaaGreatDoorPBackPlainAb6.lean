/- Each operation does on the machine what it does on abstract values: conversions, maps, parts of slices, append. -/
import Derived.Test.YtjankibepgnbfaaGreatDoorPBackPlainAb5
import Derived.Laws.IdiomStrings
import Derived.Laws.BytesArg
import Derived.Lib.Strings
import Derived.Lib.AppendStr
import Derived.Laws.StructEq
set_option linter.unusedVariables false
set_option linter.unusedSimpArgs false
namespace Go.Ab
section
variable {P : Program} {o : Oper} {a : Act} {w : World} {B : Base} {H : Hp} {T : Tk} {g : Gh} {nm : Nm} {F : Nat → AV}

theorem ok_un {op : UnOp} {t : TypeId} {x : Operand} (hop : o.op = .unOp op t x) {y : X} (hy : Rep g (y.ev F) (a.eval x)) (hW : WS B H T g w) {r : SR}
    (hs : step (.un op y) F H T nm = some r) : OpOK P o a w B H T g nm r.v r.e := by
  simp only [step] at hs
  split at hs
  · rename_i b hx
    rw [hx] at hy
    have hy : a.eval x = .bool b := hy
    cases hs
    exact .pure hW (cv := .bool (!b)) (by simp [execOp, hop, hy, Op.unary]) rfl
  · rename_i k n hx
    rw [hx] at hy
    have hy : a.eval x = .int k n := hy
    cases hs
    exact .pure hW (cv := .int k (k.wrap (0 - n))) (by simp [execOp, hop, hy, Op.unary, Op.intArith]) rfl
  · cases hs

theorem ok_cvi {s d : TypeId} {k ks : IntKind} {x : Operand} (hop : o.op = .convert s d x) (hs' : P.underlying s = some (.int ks)) (hd : P.underlying d = some (.int k)) {y : X} (hy : Rep g (y.ev F) (a.eval x)) (hW : WS B H T g w) {r : SR}
    (hs : step (.cvi k y) F H T nm = some r) : OpOK P o a w B H T g nm r.v r.e := by
  simp only [step] at hs
  split at hs
  · rename_i k' n hx
    rw [hx] at hy
    have hy : a.eval x = .int k' n := hy
    cases hs
    exact .pure hW (cv := .int k (k.wrap n)) (by simp [execOp, hop, hy, convert, run_underlying hs', run_underlying hd, Conv.intToInt]) rfl
  · cases hs

theorem isU8_eq {e : TypeId} (h : isU8 P e = true) : P.underlying e = some (.int .u8) := by
  unfold isU8 at h; split at h <;> first | assumption | cases h

theorem bytes_vals {b : Nat} : ∀ {rows : List (List AV)} {off : Nat}, RepRow g.imm b 1 off rows → (∀ r ∈ rows, isByte r) → ∃ xs : List Int, xs.length = rows.length ∧ rows.map unbyte = xs.map (fun n => UInt8.ofNat n.toNat) ∧
    ∀ i, i < rows.length → g.imm b (off + i) = some (.int .u8 (xs.getD i 0))
  | [], _, _, _ => ⟨[], rfl, rfl, by simp⟩
  | r :: rows, off, ⟨k1, k2, k3⟩, h => by
    obtain ⟨xs, h1, h2, h3⟩ := bytes_vals k3 (fun x hx => h x (by simp [hx]))
    have hr := h r (by simp)
    unfold isByte at hr
    split at hr
    · rename_i n
      obtain ⟨⟨v, e1, _, e2⟩, _⟩ := k1
      have e2 : v = .int .u8 n := e2
      subst e2
      refine ⟨n :: xs, by simp [h1], by simp [h2, unbyte], fun i hi => ?_⟩
      cases i with
      | zero => simpa using e1
      | succ i =>
        have := h3 i (by simpa using hi)
        rw [show off + 1 + i = off + (i + 1) by omega] at this
        simpa using this
    · exact hr.elim

theorem ok_b2s {s d e : TypeId} {x : Operand} (hop : o.op = .convert s d x) (hs' : P.underlying s = some (.slice e)) (he : isU8 P e = true) (hd : P.underlying d = some .string) {y : X} (hy : Rep g (y.ev F) (a.eval x)) (hW : WS B H T g w) {r : SR}
    (hs : step (.b2s y) F H T nm = some r) (hp : r.pre) : OpOK P o a w B H T g nm r.v r.e := by
  simp only [step] at hs
  split at hs
  · rename_i hx
    rw [hx] at hy
    have hy : a.eval x = .slice none 0 0 := hy
    cases hs
    have := run_convert_bytes_nil (P := P) w s e hs' (isU8_eq he) 0 0 d hd
    exact .pure hW (cv := .string ByteArray.empty) (by simp [execOp, hop, hy, this]) rfl
  · rename_i t sz rows hx
    rw [hx] at hy
    cases hs
    obtain ⟨rfl, hb⟩ := hp
    obtain ⟨A, cap, hv, hA, _⟩ := hy
    rcases hA with ⟨_, rfl, rfl⟩ | ⟨b, off, rfl, _, _, _, hrow⟩
    · have : (convert s d (.slice A 0 0)).run P w = .ok (.string ByteArray.empty) w := by
        rw [run_convert_bytes_string w s d e _ 0 0 hs' (isU8_eq he) hd]
        cases A <;> simp [Conv.bytesToString, loadCells, loadCellsFrom]
      exact .pure hW (cv := .string ByteArray.empty) (by simp [execOp, hop, hv, this]) rfl
    · obtain ⟨xs, h1, h2, h3⟩ := bytes_vals hrow hb
      have := run_convert_bytes_arg (P := P) w s e hs' (isU8_eq he) b off rows.length cap xs h1 (fun i hi => hW.inv.imm _ _ _ (h3 i hi)) d hd
      exact .pure hW (cv := .string (strOfNums xs)) (by simp [execOp, hop, hv, this]) (by simp only [Rep, h2]; rfl)
  · rename_i room sz rows hx
    rw [hx] at hy
    cases hs
    obtain ⟨rfl, hb⟩ := hp
    obtain ⟨A, cap, hv, hA0, hA1, hA⟩ := hy
    rcases hA with hA | ⟨b, off, rfl, _, _, hrow⟩
    · subst hA
      obtain rfl : rows = [] := List.eq_nil_of_length_eq_zero (by omega)
      have : (convert s d (.slice A 0 0)).run P w = .ok (.string ByteArray.empty) w := by
        rw [run_convert_bytes_string w s d e _ 0 0 hs' (isU8_eq he) hd]
        cases A <;> simp [Conv.bytesToString, loadCells, loadCellsFrom]
      exact .pure hW (cv := .string ByteArray.empty) (by simp [execOp, hop, hv, this]) rfl
    · obtain ⟨xs, h1, h2, h3⟩ := bytes_vals hrow hb
      have := run_convert_bytes_arg (P := P) w s e hs' (isU8_eq he) b off rows.length cap xs h1 (fun i hi => hW.inv.imm _ _ _ (h3 i hi)) d hd
      exact .pure hW (cv := .string (strOfNums xs)) (by simp [execOp, hop, hv, this]) (by simp only [Rep, h2]; rfl)
  · cases hs

theorem bytesAV_length (s : List UInt8) : (bytesAV s).length = s.length := by simp [bytesAV]
theorem bytesAV_row {imm : Nat → Nat → Option Value} {b : Nat} : ∀ (s : List UInt8) (off : Nat), (∀ (i : Nat) (c : UInt8), s[i]? = some c → imm b (off + i) = some (.int .u8 (c.toNat : Int))) → RepRow imm b 1 off (bytesAV s)
  | [], _, _ => trivial
  | c :: s, off, h => by
    refine ⟨⟨⟨_, by simpa using h 0 c rfl, rfl, rfl⟩, trivial⟩, rfl, bytesAV_row s (off + 1) fun i d hd => ?_⟩
    have := h (i + 1) d (by simpa using hd)
    rwa [show off + (i + 1) = off + 1 + i by omega] at this

theorem WS.drewW (hW : WS B H T g w) : WS B H T g w.drew := hW.of_same rfl rfl rfl rfl

theorem ok_s2b {s d e : TypeId} {x : Operand} (hop : o.op = .convert s d x) (hs' : P.underlying s = some .string) (he : isU8 P e = true) (hd : P.underlying d = some (.slice e)) {y : X} (hy : Rep g (y.ev F) (a.eval x)) (hW : WS B H T g w) (hf : g.free nm) {r : SR}
    (hs : step (.s2b e y) F H T nm = some r) (hp : r.pre) : OpOK P o a w B H T g nm r.v r.e := by
  simp only [step] at hs
  split at hs
  · rename_i u hx
    rw [hx] at hy
    have hy : a.eval x = .string ⟨u.toArray⟩ := hy
    cases hs
    have hsz : (⟨u.toArray⟩ : ByteArray).size = u.length := by simp [ByteArray.size]
    have hr := run_bytes_of_string (P := P) w s d e ⟨u.toArray⟩ hs' hd (isU8_eq he)
    rw [hsz] at hr
    have hcap := grownCap_ge w u.length 0 e
    have hcm := grownCap_le_maxLen w u.length 0 e hp
    have hvals : ∀ (i : Nat) (c : UInt8), u[i]? = some c → ((u.map fun c => Value.int .u8 (c.toNat : Int)))[i]? = some (.int .u8 (c.toNat : Int)) := fun i c hc => by simp [hc]
    obtain ⟨k1, k2⟩ := hW.drewW.addRow hf (bytesRow ⟨u.toArray⟩ (grownCap w u.length 0 e)) e ((bytesRow ⟨u.toArray⟩ (grownCap w u.length 0 e)).size, (bytesRow ⟨u.toArray⟩ (grownCap w u.length 0 e)).size + 1)
      (u.map fun c => Value.int .u8 (c.toNat : Int)) .dead (fun i v hv => by
        have hlt : i < u.length := by simpa using (List.getElem?_eq_some_iff.1 hv).1
        simp only [bytesRow]
        rw [Array.getElem?_append_left (by simpa using hlt)]
        simpa using hv) (.inl rfl)
    refine ⟨_, .slice (some ⟨w.heap.size, 0, none⟩) u.length (grownCap w u.length 0 e), _, _, by simp only [execOp, hop, hy]; simp only [Sem.run_bind, hr, Result.andThen_ok, Sem.run_pure], .inl rfl, k1, k2.weaken (fun _ h => h) (fun t ht => .inr ht), ?_, fun m hm hfm => addRow_free hm hfm⟩
    refine ⟨some ⟨w.heap.size, 0, none⟩, grownCap w u.length 0 e, by rw [bytesAV_length], .inr ⟨_, _, rfl, by omega, by rw [bytesAV_length]; exact hcap, hcm, ?_⟩, fun t' ht => by simp at ht⟩
    refine bytesAV_row u 0 fun i c hc => ?_
    have hd' : w.drew.heap.size = w.heap.size := rfl
    simp only [Gh.addRow, hd', if_true, Nat.zero_add]
    exact hvals i c hc
  · cases hs

theorem ok_cid {s d : TypeId} {x : Operand} (hop : o.op = .convert s d x) (hs' : P.underlying s = some .string) (hd : P.underlying d = some .string) {y : X} (hy : Rep g (y.ev F) (a.eval x)) (hW : WS B H T g w) {r : SR}
    (hs : step (.cid y) F H T nm = some r) : OpOK P o a w B H T g nm r.v r.e := by
  simp only [step] at hs
  split at hs
  · rename_i u hx
    rw [hx] at hy
    have hy : a.eval x = .string ⟨u.toArray⟩ := hy
    cases hs
    exact .pure hW (cv := .string ⟨u.toArray⟩) (by simp [execOp, hop, hy, convert, run_underlying hs', run_underlying hd]) rfl
  · cases hs

theorem getObj_run {b : Nat} {ob : Obj} (h : w.heap[b]? = some ob) (hc : ∀ vs e fr, ob ≠ .cells vs e fr) : (getObj b).run P w = .ok ob w := by
  simp only [getObj, Sem.run, h]
theorem setObj_run {b : Nat} {ob ob' : Obj} (h : w.heap[b]? = some ob) (hc : ∀ vs e fr, ob ≠ .cells vs e fr) : (setObj b ob').run P w = .ok () { w with heap := w.heap.setIfInBounds b ob' } := by
  simp only [setObj, Sem.run, h]

theorem ok_rng {t : TypeId} {x : Operand} (hop : o.op = .range t x) (hu : P.underlying t = some .string) {y : X} (hy : Rep g (y.ev F) (a.eval x)) (hW : WS B H T g w) (hf : g.free nm) {r : SR}
    (hs : step (.rng y) F H T nm = some r) : OpOK P o a w B H T g nm r.v r.e := by
  simp only [step] at hs
  split at hs
  · rename_i u hx
    rw [hx] at hy
    have hy : a.eval x = .string ⟨u.toArray⟩ := hy
    cases hs
    obtain ⟨k1, k2⟩ := hW.addBlock hf (.stringIter ⟨u.toArray⟩ 0) (.obj (.stringIter ⟨u.toArray⟩ 0)) (fun g' hg => heap_new' w _)
    refine ⟨_, .pointer (some ⟨w.heap.size, 0, none⟩), _, _, ?_, .inl rfl, k1, k2, ⟨w.heap.size, by simp [Gh.addMu], rfl⟩, fun n hn hfn => addMu_free hn hfn⟩
    simp [execOp, hop, hy, Instr.range, run_underlying hu, run_newObj_alloc]
  · cases hs

theorem ok_nxt {x : Operand} (hop : o.op = .next x true) {y : X} (hy : Rep g (y.ev F) (a.eval x)) (hW : WS B H T g w) {r : SR}
    (hs : step (.nxt y) F H T nm = some r) : OpOK P o a w B H T g nm r.v r.e := by
  simp only [step] at hs
  split at hs
  · rename_i id hx
    rw [hx] at hy
    obtain ⟨b, hb, hv⟩ := hy
    split at hs
    · rename_i s pos hg
      obtain ⟨b', hb', hk⟩ := hW.heap _ (getH_mem hg)
      simp only at hb'
      rw [hb] at hb'
      cases hb'
      have hk : w.heap[b]? = some (.stringIter s pos) := hk
      have hget := getObj_run (P := P) hk (by simp)
      split at hs
      · rename_i hlt
        cases hs
        have hset := setObj_run (P := P) (ob' := .stringIter s (pos + (Utf8.decode s pos).2)) hk (by simp)
        refine ⟨_, .tuple #[.bool true, .int .i64 pos, .int .i32 (Utf8.decode s pos).1], _, g, ?_, .inl rfl, .refl g, hW.setBlock (w' := { w with heap := w.heap.setIfInBounds b (.stringIter s (pos + (Utf8.decode s pos).2)) }) (getH_mem hg) hb ⟨rfl, rfl, rfl, by simp, fun b' hne => by simp [Array.getElem?_setIfInBounds_ne (Ne.symm hne)]⟩ ?_, ⟨_, rfl, _, _, rfl, rfl, _, _, rfl, rfl, _, _, rfl, rfl, rfl⟩, fun n _ hn => hn⟩
        · simp [execOp, hop, hv, Instr.next, hget, hlt, hset, goInt]
        · have := lt_of_some hk
          show (w.heap.setIfInBounds b (Obj.stringIter s (pos + (Utf8.decode s pos).2)))[b]? = _
          simp [this]
      · rename_i hlt
        cases hs
        exact .pure hW (cv := .tuple #[.bool false]) (by simp [execOp, hop, hv, Instr.next, hget, hlt]) ⟨_, rfl, _, _, rfl, rfl, rfl⟩
    · cases hs
  · cases hs

theorem ok_cvs {s d e' e : TypeId} {x : Operand} (hop : o.op = .convert s d x) (hs' : P.underlying s = some (.slice e')) (hd : P.underlying d = some (.slice e)) (he : isU8 P e = true) (hsd : s = d) {y : X} (hy : Rep g (y.ev F) (a.eval x)) (hW : WS B H T g w) (hf : g.free nm) {r : SR}
    (hs : step (.cvs y) F H T nm = some r) (hp : r.pre) : OpOK P o a w B H T g nm r.v r.e := by
  simp only [step] at hs
  split at hs
  · rename_i t sz rows hx
    rw [hx] at hy
    cases hs
    obtain ⟨hT, hne⟩ := hp
    obtain ⟨A, cap, hv, hA, ho⟩ := hy
    have hfit := ho t rfl
    have htk := hW.toks t hT
    cases hown : g.own t with
    | fresh => exact absurd hown htk.2
    | dead => exact absurd hown htk.1
    | nil =>
      rw [hown] at hfit
      have hfit : A = none := hfit
      rcases hA with ⟨_, _, h3⟩ | ⟨b, off, h1, _⟩
      · exact absurd h3 hne
      · rw [hfit] at h1; cases h1
    | «at» b e0 z m c =>
      rw [hown] at hfit
      obtain ⟨rfl, rfl, rfl, rfl⟩ := hfit
      obtain ⟨⟨cur, fr0, hcur, hcs, hfr0⟩, hn1, _⟩ := hW.inv.own t b e0 z rows.length c hown
      subst hsd
      have hfz : ∃ fr, (w.freeze { block := b, off := cur.size } 1).heap[b]? = some (.cells cur e0 fr) ∧ frok fr cur.size := by
        refine ⟨(if fr0.1 == fr0.2 then (cur.size, cur.size + 1) else (min fr0.1 cur.size, max fr0.2 (cur.size + 1))), ?_, ?_⟩
        · simp only [World.freeze]
          rw [if_neg (by decide)]
          simp only [Array.getElem?_modify, if_true, hcur, Option.map_some]
        · split
          · exact .inr (Nat.le_refl _)
          · rename_i h
            rcases hfr0 with rfl | h0
            · simp at h
            · right; simp only; omega
      obtain ⟨fr, hfz, hfr⟩ := hfz
      have hon : OnlyAt w (w.freeze { block := b, off := cur.size } 1) b := by
        simp only [World.freeze]
        rw [if_neg (by decide)]
        exact ⟨rfl, rfl, rfl, by simp, fun b' hne => by simp [Array.getElem?_modify, Ne.symm hne]⟩
      obtain ⟨k1, k2⟩ := hW.grow (m := 0) hf hT hown [] (by simp) (by omega) hcur hon hfz hfr rfl (fun _ _ => rfl) (by simp)
      refine ⟨_, .slice (some ⟨b, 0, none⟩) rows.length c, w.freeze { block := b, off := cur.size } 1, g.grow t nm b (rows.length * z) [] (.at b e0 z (rows.length + 0) c), ?_, .inl rfl, k1, k2, ⟨_, c, rfl, ?_, fun t' ht => ?_⟩, fun n hn hfn => grow_free hn hfn htk.2⟩
      · have hsh : w.shape? b = some (e0, cur.size) := by simp only [World.shape?, hcur]
        rw [hs'] at hd
        cases hd
        simp [execOp, hop, hv, convert, run_underlying hs', run_underlying (isU8_eq he), markStringish, hsh]
      · rcases hA with ⟨h1 | h1, _⟩ | ⟨b1, off, h1, h2, h3, h4, h5⟩
        · cases h1
        · cases h1
        · exact .inr ⟨b1, off, h1, h2, h3, h4, RepRow.mono k1.imm _ _ _ _ h5⟩
      · cases ht
        simp [Gh.grow, Own.fits]
  · cases hs

theorem ok_mkf (hF : FOK g F a) {f : Fn} {first caps : Array Operand} {xs ys : List X} (hop : o.op = .makeFunc f first caps) (hx : compXs first.toList = some xs) (hy : compXs caps.toList = some ys) (hW : WS B H T g w) {r : SR}
    (hs : step (.mkf f xs ys) F H T nm = some r) : OpOK P o a w B H T g nm r.v r.e := by
  cases hs
  refine .pure hW (cv := .func f (first.map a.eval) (caps.map a.eval)) (by simp [execOp, hop, Instr.makeFunc]) ⟨_, _, rfl, ?_, ?_⟩
  · simpa using rep_compXs hF hx
  · simpa using rep_compXs hF hy

theorem ok_mkm (hr : (execOp a.eval o).run P w = .ok (.value (.map (some w.heap.size))) (w.alloc (.map #[] 0))) (hW : WS B H T g w) (hf : g.free nm) {r : SR}
    (hs : step .mkm F H T nm = some r) : OpOK P o a w B H T g nm r.v r.e := by
  cases hs
  obtain ⟨k1, k2⟩ := hW.addBlock hf (.map #[] 0) (.mapp []) (fun g' hg => ⟨#[], 0, heap_new' w _, rfl, rfl⟩)
  exact ⟨_, _, _, _, hr, .inl rfl, k1, k2, ⟨w.heap.size, by simp [Gh.addMu], rfl⟩, fun n hn hfn => addMu_free hn hfn⟩

theorem same_eval {l c : Operand} {n : Int} {k : IntKind} (h : sameX l c = true) (hc : a.eval c = .int k n) : ∃ k', a.eval l = .int k' n := by
  cases l <;> cases c <;> simp only [sameX] at h <;> try (cases h; done)
  · simp only [beq_iff_eq] at h; subst h; exact ⟨k, hc⟩
  · rename_i v u
    cases v <;> cases u <;> simp only [sameX] at h <;> try (cases h; done)
    simp only [beq_iff_eq] at h
    subst h
    have hc : Value.int _ _ = Value.int k n := hc
    cases hc
    exact ⟨_, rfl⟩
theorem zero_eval {l : Operand} (h : zeroX l = true) : ∃ k', a.eval l = .int k' 0 := by
  cases l <;> simp only [zeroX] at h <;> try (cases h; done)
  rename_i v
  cases v <;> simp only at h <;> try (cases h; done)
  simp only [beq_iff_eq] at h
  subst h
  exact ⟨_, rfl⟩
theorem made_one {v : Value} (n : Nat) : (madeCells #[v] n).toList = List.replicate n v := by
  apply List.ext_getElem
  · simp [madeCells]
  · intro i h1 h2
    simp [madeCells, Nat.mod_one]
theorem repL_made {v : Value} : ∀ n : Nat, RepL g (List.replicate n [ofV1 v]).flatten (List.replicate n v)
  | 0 => rfl
  | n + 1 => ⟨v, _, rfl, rep_ofV1 g v, repL_made n⟩
theorem ok_mks {t e : TypeId} {l c : Operand} {i : TypeInfo} {z : Value} (hop : o.op = .makeSlice t l c) (hu : P.underlying t = some (.slice e)) (hi : P.info? e = some i) (hz : i.zero = some z) (hz1 : z.cells.size = i.size) (hs1 : i.size = 1) (hb : 0 < i.bytes) (hl : sameX l c = true)
    {y : X} (hy : Rep g (y.ev F) (a.eval c)) (hW : WS B H T g w) (hf : g.free nm) {r : SR} (hs : step (.mks e i.bytes (.agg (z.cells.toList.map ofV1)) y) F H T nm = some r) (hp : r.pre) : OpOK P o a w B H T g nm r.v r.e := by
  simp only [step] at hs
  split at hs
  · rename_i k n hx
    rw [hx] at hy
    have hy : a.eval c = .int k n := hy
    cases hs
    obtain ⟨h0, h1, h2⟩ := hp
    obtain ⟨k', hl'⟩ := same_eval hl hy
    have hbn : (i.bytes : Int) * n ≤ 140737488355328 := by rw [Int.mul_comm]; exact h1
    have hnb : n ≤ (i.bytes : Int) * n := by
      have : (1 : Int) * n ≤ (i.bytes : Int) * n := Int.mul_le_mul_of_nonneg_right (by omega) h0
      omega
    have hr := run_make w t e i z hu hi hz k' k n n h0 (Int.le_refl _) (by omega) (by omega)
    obtain ⟨v, hv⟩ : ∃ v, z.cells = #[v] := by
      rw [hs1] at hz1
      exact Array.size_eq_one_iff.1 hz1
    rw [hv, hs1, Nat.mul_one] at hr
    have hcell : HBok (g.addMu nm w.heap.size) (w.alloc (.cells (madeCells #[v] n.toNat) e)) w.heap.size (.cells (List.replicate n.toNat [ofV1 v]).flatten) :=
      ⟨_, e, heap_new' w _, by rw [made_one]; exact repL_made _⟩
    obtain ⟨k1, k2⟩ := hW.addBlock hf (.cells (madeCells #[v] n.toNat) e) (.cells (List.replicate n.toNat [ofV1 v]).flatten) (fun g' hg => ⟨_, e, heap_new' w _, by rw [made_one]; exact repL_made _⟩)
    have hcs : (AV.agg (z.cells.toList.map ofV1)).cells = [ofV1 v] := by rw [hv]; rfl
    rw [hcs]
    exact ⟨_, _, _, _, by simp only [execOp, hop, hl', hy]; simp [hr], .inl rfl, k1, k2, ⟨w.heap.size, by simp [Gh.addMu], rfl⟩, fun n hn hfn => addMu_free hn hfn⟩
  · cases hs
theorem rows_made {imm : Nat → Nat → Option Value} {b : Nat} {v : Value} (hcl : (ofV1 v).closed = true) : ∀ (n o : Nat), (∀ i, i < n → imm b (o + i) = some v) → RepRow imm b 1 o (List.replicate n [ofV1 v])
  | 0, _, _ => trivial
  | n + 1, o, h => ⟨⟨⟨v, by simpa using h 0 (by omega), hcl, rep_ofV1 _ v⟩, trivial⟩, rfl, rows_made hcl n (o + 1) fun i hi => by
      have := h (i + 1) (by omega)
      rwa [show o + (i + 1) = o + 1 + i by omega] at this⟩
theorem ok_mkr {t e : TypeId} {l c : Operand} {i : TypeInfo} {z : Value} (hop : o.op = .makeSlice t l c) (hu : P.underlying t = some (.slice e)) (hi : P.info? e = some i) (hz : i.zero = some z) (hz1 : z.cells.size = i.size) (hs1 : i.size = 1) (hb : 0 < i.bytes) (hl : sameX l c = true)
    {y : X} (hy : Rep g (y.ev F) (a.eval c)) (hW : WS B H T g w) (hf : g.free nm) {r : SR} (hs : step (.mkr e i.bytes (.agg (z.cells.toList.map ofV1)) y) F H T nm = some r) (hp : r.pre) : OpOK P o a w B H T g nm r.v r.e := by
  simp only [step] at hs
  split at hs
  · rename_i k n hx
    rw [hx] at hy
    have hy : a.eval c = .int k n := hy
    cases hs
    obtain ⟨h0, h1, h2⟩ := hp
    obtain ⟨k', hl'⟩ := same_eval hl hy
    have hbn : (i.bytes : Int) * n ≤ 140737488355328 := by rw [Int.mul_comm]; exact h1
    have hnb : n ≤ (i.bytes : Int) * n := by
      have : (1 : Int) * n ≤ (i.bytes : Int) * n := Int.mul_le_mul_of_nonneg_right (by omega) h0
      omega
    have hr := run_make w t e i z hu hi hz k' k n n h0 (Int.le_refl _) (by omega) (by omega)
    obtain ⟨v, hv⟩ : ∃ v, z.cells = #[v] := by
      rw [hs1] at hz1
      exact Array.size_eq_one_iff.1 hz1
    rw [hv, hs1, Nat.mul_one] at hr
    have hm : n.toNat ≤ maxLen := by simp only [maxLen]; omega
    have hcs : (AV.agg (z.cells.toList.map ofV1)).cells = [ofV1 v] := by rw [hv]; rfl
    simp only [hcs] at h2 ⊢
    have hcl : (ofV1 v).closed = true := by simpa [AV.closedL] using h2
    have hls : (madeCells #[v] n.toNat).size = n.toNat := by
      have := congrArg List.length (made_one (v := v) n.toNat)
      simpa using this
    obtain ⟨k1, k2⟩ := hW.addRow hf (madeCells #[v] n.toNat) e (0, 0) (List.replicate n.toNat v) (.at w.heap.size e 1 n.toNat n.toNat) (fun j u hj => by rw [← made_one] at hj; simpa using hj) (.inr ⟨1, n.toNat, n.toNat, rfl, .inl rfl, by rw [hls, Nat.mul_one], Nat.le_refl _, hm, by simp⟩)
    refine ⟨.value (.slice (some ⟨w.heap.size, 0, none⟩) n.toNat n.toNat), .slice (some ⟨w.heap.size, 0, none⟩) n.toNat n.toNat, _, _, by simp only [execOp, hop, hl', hy]; simp [hr], .inl rfl, k1, k2.weaken (fun _ h => h) (fun s hs => by rcases hs with h | h; exact .inl ⟨h, by simp⟩; exact .inr h), ?_, fun m hm hfm => addRow_free hm hfm⟩
    refine ⟨some ⟨w.heap.size, 0, none⟩, n.toNat, by simp, .inr ⟨_, _, rfl, by omega, by simp, hm, rows_made hcl _ _ fun j hj => by simp [Gh.addRow, hj]⟩, fun t' ht => ?_⟩
    cases ht
    simp [Gh.addRow, Own.fits]
  · cases hs
theorem ok_mkc {t e : TypeId} {l c : Operand} {i : TypeInfo} {z : Value} (hop : o.op = .makeSlice t l c) (hu : P.underlying t = some (.slice e)) (hi : P.info? e = some i) (hz : i.zero = some z) (hs1 : i.size = 1) (hb : 0 < i.bytes) (hl : zeroX l = true)
    {y : X} (hy : Rep g (y.ev F) (a.eval c)) (hW : WS B H T g w) (hf : g.free nm) {r : SR} (hs : step (.mkc e i.size i.bytes y) F H T nm = some r) (hp : r.pre) : OpOK P o a w B H T g nm r.v r.e := by
  simp only [step] at hs
  split at hs
  · rename_i k n hx
    rw [hx] at hy
    have hy : a.eval c = .int k n := hy
    cases hs
    obtain ⟨h0, h1⟩ := hp
    obtain ⟨k', hl'⟩ := zero_eval (a := a) hl
    have hbn : (i.bytes : Int) * n ≤ 140737488355328 := by rw [Int.mul_comm]; exact h1
    have hnb : n ≤ (i.bytes : Int) * n := by
      have : (1 : Int) * n ≤ (i.bytes : Int) * n := Int.mul_le_mul_of_nonneg_right (by omega) h0
      omega
    have hr := run_make w t e i z hu hi hz k' k 0 n (Int.le_refl _) h0 (by omega) (by omega)
    have hm : n.toNat ≤ maxLen := by simp only [maxLen]; omega
    obtain ⟨k1, k2⟩ := hW.addRow hf (madeCells z.cells (n.toNat * i.size)) e (0, 0) [] (.at w.heap.size e i.size 0 n.toNat) (by simp) (.inr ⟨i.size, 0, n.toNat, rfl, .inl rfl, by rw [size_madeCells], Nat.zero_le _, hm, by simp⟩)
    have hr : (Instr.makeSlice t (Value.int k' 0) (Value.int k n)).run P w = .ok (.slice (some ⟨w.heap.size, 0, none⟩) 0 n.toNat) (w.alloc (Obj.cells (madeCells z.cells (n.toNat * i.size)) e)) := hr
    refine ⟨.value (.slice (some ⟨w.heap.size, 0, none⟩) 0 n.toNat), .slice (some ⟨w.heap.size, 0, none⟩) 0 n.toNat, _, _, by simp only [execOp, hop, hl', hy]; simp [hr], .inl rfl, k1, k2.weaken (fun _ h => h) (fun s hs => by rcases hs with h | h; exact .inl ⟨h, by simp⟩; exact .inr h), ?_, fun m hm hfm => addRow_free hm hfm⟩
    refine ⟨some ⟨w.heap.size, 0, none⟩, n.toNat, by simp, .inr ⟨_, _, rfl, by omega, by simp, hm, trivial⟩, fun t' ht => ?_⟩
    cases ht
    simp [Gh.addRow, Own.fits]
  · cases hs

theorem ok_ext {x : Operand} {i : Nat} (hop : o.op = .extract x i) {y : X} (hy : Rep g (y.ev F) (a.eval x)) (hW : WS B H T g w) {r : SR}
    (hs : step (.ext y i) F H T nm = some r) : OpOK P o a w B H T g nm r.v r.e := by
  simp only [step] at hs
  split at hs
  · rename_i vs hx
    rw [hx] at hy
    obtain ⟨us, he, hk⟩ := hy
    split at hs
    · rename_i v hv
      cases hs
      obtain ⟨u, h1, h2⟩ := RepL.get hk i v hv
      simp only [Array.getElem?_toList] at h1
      exact .pure hW (cv := u) (by simp [execOp, hop, he, Instr.extract, h1]) h2
    · cases hs
  · cases hs

theorem ok_nck {x : Operand} (hop : o.op = .nilCheck x) {y : X} (hy : Rep g (y.ev F) (a.eval x)) (hW : WS B H T g w) {r : SR}
    (hs : step (.nck y) F H T nm = some r) : OpOK P o a w B H T g nm r.v r.e := by
  simp only [step] at hs
  split at hs
  · rename_i id off hx
    rw [hx] at hy
    obtain ⟨b, hm, he⟩ := hy
    cases hs
    exact .pure hW (cv := .pointer (some ⟨b, off, none⟩)) (by simp [execOp, hop, he]) ⟨b, hm, rfl⟩
  · rename_i cs hx
    rw [hx] at hy
    obtain ⟨b, off, he, hk⟩ := hy
    cases hs
    exact .pure hW (cv := .pointer (some ⟨b, off, none⟩)) (by simp [execOp, hop, he]) ⟨b, off, rfl, hk⟩
  · rename_i f xs ys hx
    rw [hx] at hy
    obtain ⟨fs, cs, he, h1, h2⟩ := hy
    cases hs
    exact .pure hW (cv := .func (.func f) fs cs) (by simp [execOp, hop, he]) ⟨fs, cs, rfl, h1, h2⟩
  · cases hs

theorem ok_lns {c : Call} {x : Operand} {t : TypeId} (hop : o.op = .call c) (hc : c.callee = .builtin .len) (hx' : c.args.toList = [x]) (ht : c.argTypes.toList = [t])
    (hu : P.underlying t = some .string) {y : X} (hy : Rep g (y.ev F) (a.eval x)) (hW : WS B H T g w) {r : SR}
    (hs : step (.lns y) F H T nm = some r) : OpOK P o a w B H T g nm r.v r.e := by
  have ha : c.args = #[x] := by apply Array.ext'; simpa using hx'
  have hta : c.argTypes = #[t] := by apply Array.ext'; simpa using ht
  simp only [step] at hs
  split at hs
  · rename_i u hx
    rw [hx] at hy
    have hy : a.eval x = .string ⟨u.toArray⟩ := hy
    cases hs
    have hsz : (⟨u.toArray⟩ : ByteArray).size = u.length := by simp [ByteArray.size]
    exact .pure hW (cv := .int .i64 u.length) (by simp only [execOp, hop, resolve, hc, ha, hta]; simp [invoke, builtin, hy, Builtin.len_, run_underlying hu, goInt, hsz]) rfl
  · cases hs

theorem ok_len {c : Call} {x : Operand} {t e : TypeId} (hop : o.op = .call c) (hc : c.callee = .builtin .len) (hx' : c.args.toList = [x]) (ht : c.argTypes.toList = [t])
    (hu : P.underlying t = some (.slice e)) {y : X} (hy : Rep g (y.ev F) (a.eval x)) (hW : WS B H T g w) {r : SR}
    (hs : step (.len y) F H T nm = some r) : OpOK P o a w B H T g nm r.v r.e := by
  have ha : c.args = #[x] := by apply Array.ext'; simpa using hx'
  have hta : c.argTypes = #[t] := by apply Array.ext'; simpa using ht
  simp only [step] at hs
  split at hs
  · rename_i tk sz rows hx
    rw [hx] at hy
    obtain ⟨A, cap, he, _⟩ := hy
    cases hs
    exact .pure hW (cv := .int .i64 rows.length) (by simp only [execOp, hop, resolve, hc, ha, hta]; simp [invoke, builtin, he, Builtin.len_, run_underlying hu, goInt]) rfl
  · rename_i id sz n hx
    rw [hx] at hy
    obtain ⟨b, _, he⟩ := hy
    cases hs
    exact .pure hW (cv := .int .i64 n) (by simp only [execOp, hop, resolve, hc, ha, hta]; simp [invoke, builtin, he, Builtin.len_, run_underlying hu, goInt]) rfl
  · rename_i room sz rows hx
    rw [hx] at hy
    obtain ⟨A, cap, he, _⟩ := hy
    cases hs
    exact .pure hW (cv := .int .i64 rows.length) (by simp only [execOp, hop, resolve, hc, ha, hta]; simp [invoke, builtin, he, Builtin.len_, run_underlying hu, goInt]) rfl
  · rename_i hx
    rw [hx] at hy
    have hy : a.eval x = .slice none 0 0 := hy
    cases hs
    exact .pure hW (cv := .int .i64 0) (by simp only [execOp, hop, resolve, hc, ha, hta]; simp [invoke, builtin, hy, Builtin.len_, run_underlying hu, goInt]) rfl
  · cases hs

theorem ok_mm {c : Call} {x y : Operand} {isMin : Bool} (hop : o.op = .call c) (hc : c.callee = .builtin (if isMin then .min else .max)) (hx' : c.args.toList = [x, y])
    {x' y' : X} (hx : Rep g (x'.ev F) (a.eval x)) (hy : Rep g (y'.ev F) (a.eval y)) (hW : WS B H T g w) {r : SR}
    (hs : step (.mm isMin x' y') F H T nm = some r) : OpOK P o a w B H T g nm r.v r.e := by
  have ha : c.args = #[x, y] := by apply Array.ext'; simpa using hx'
  simp only [step] at hs
  split at hs
  · rename_i k m k' n h1 h2
    rw [h1] at hx
    rw [h2] at hy
    have hx : a.eval x = .int k m := hx
    have hy : a.eval y = .int k' n := hy
    split at hs
    · rename_i hk
      subst hk
      cases hs
      cases isMin
      · exact .pure hW (cv := .int k (if n > m then n else m)) (by simp [execOp, hop, resolve, hc, ha, invoke, builtin, hx, hy, Builtin.max_, Builtin.max2]) rfl
      · exact .pure hW (cv := .int k (if n < m then n else m)) (by simp [execOp, hop, resolve, hc, ha, invoke, builtin, hx, hy, Builtin.min_, Builtin.min2]) rfl
    · cases hs
  · cases hs

/-! ### Maps -/
def KC.fits : KC → TypeDesc → Prop
  | .int, d => ∃ k, d = .int k
  | .str, d => d = .string
  | .bool, d => d = .bool
theorem kcOf_fits {t : TypeId} {kc : KC} (h : kcOf P t = some kc) : ∃ d, P.underlying t = some d ∧ kc.fits d := by
  unfold kcOf at h
  split at h <;> cases h
  · exact ⟨_, ‹_›, _, rfl⟩
  · exact ⟨_, ‹_›, rfl⟩
  · exact ⟨_, ‹_›, rfl⟩

theorem keyEq_rep {kc : KC} {x y : AV} {u v : Value} {b : Bool} (h1 : Rep g x u) (h2 : Rep g y v) (h : keyEq kc x y = some b) {kd : TypeDesc} (hk : kc.fits kd) : Instr.sameNow kd u v = some b := by
  unfold keyEq at h
  split at h
  · rename_i k m k' n
    have h1 : u = .int k m := h1
    have h2 : v = .int k' n := h2
    subst h1 h2
    obtain ⟨q, rfl⟩ := hk
    split at h
    · rename_i hkk
      simp only [Option.some.injEq] at h
      simp [Instr.sameNow, hkk, h]
    · cases h
  · rename_i s t
    have h1 : u = .string ⟨s.toArray⟩ := h1
    have h2 : v = .string ⟨t.toArray⟩ := h2
    subst h1 h2
    obtain rfl : kd = .string := hk
    simp only [Option.some.injEq] at h
    have e : ((⟨s.toArray⟩ : ByteArray) == ⟨t.toArray⟩) = decide (s = t) := by
      rw [beq_toListBytes, Bool.eq_iff_iff]
      simp
    simp [Instr.sameNow, e, h]
  · rename_i c d
    have h1 : u = .bool c := h1
    have h2 : v = .bool d := h2
    subst h1 h2
    obtain rfl : kd = .bool := hk
    simp only [Option.some.injEq] at h
    simp [Instr.sameNow, h]
  · cases h

theorem findNow_rep {kc : KC} {x : AV} {u : Value} (hx : Rep g x u) {kd : TypeDesc} (hk : kc.fits kd) : ∀ {es : List (AV × AV)} {vs : List MapEntry} {i : Nat} {r : Option AV},
    RepL g (es.map (·.1)) (vs.map (·.key)) → RepL g (es.map (·.2)) (vs.map (·.val)) → findE kc x es = some r →
    ∃ q, Instr.findNow kd u vs i = some q ∧ ((r = none ∧ q = none) ∨ ∃ y j v, r = some y ∧ q = some (j, v) ∧ Rep g y v)
  | [], vs, i, r, h1, _, h => by
    have : vs = [] := by cases vs with | nil => rfl | cons a l => simp [RepL] at h1
    subst this
    simp only [findE, Option.some.injEq] at h
    exact ⟨none, rfl, .inl ⟨h.symm, rfl⟩⟩
  | e :: es, vs, i, r, h1, h2, h => by
    cases vs with
    | nil => obtain ⟨v, rest, hh, _⟩ := h1; simp at hh
    | cons m vs =>
      obtain ⟨v, rest, hh, k1, k2⟩ := h1
      simp only [List.map_cons, List.cons.injEq] at hh
      obtain ⟨rfl, rfl⟩ := hh
      obtain ⟨v2, rest2, hh2, l1, l2⟩ := h2
      simp only [List.map_cons, List.cons.injEq] at hh2
      obtain ⟨rfl, rfl⟩ := hh2
      simp only [findE] at h
      split at h
      · rename_i hq
        have := keyEq_rep hx k1 hq hk
        simp only [Option.some.injEq] at h
        exact ⟨some (i, m.val), by simp [Instr.findNow, this], .inr ⟨e.2, i, m.val, h.symm, rfl, l1⟩⟩
      · rename_i hq
        have := keyEq_rep hx k1 hq hk
        obtain ⟨q, e1, e2⟩ := findNow_rep hx hk (i := i + 1) k2 l2 h
        exact ⟨q, by simp [Instr.findNow, this, e1], e2⟩
      · cases h

theorem run_checkKey {kc : KC} {x : AV} {u : Value} (hx : Rep g x u) (h : isKey kc x = true) {t : TypeId} {kd : TypeDesc} (hd : P.underlying t = some kd) (hk : kc.fits kd) (b : Bool) : (Instr.checkKey b 10000 t u).run P w = .ok () w := by
  have key : ∀ n, (Instr.checkKey b (n + 1) t u).run P w = .ok () w := fun n => by
    unfold isKey at h
    split at h
    · obtain rfl : u = .int _ _ := hx
      obtain ⟨q, rfl⟩ := hk
      simp [Instr.checkKey, run_underlying hd]
    · obtain rfl : u = .string _ := hx
      obtain rfl : kd = .string := hk
      simp [Instr.checkKey, run_underlying hd]
    · obtain rfl : u = .bool _ := hx
      obtain rfl : kd = .bool := hk
      simp [Instr.checkKey, run_underlying hd]
    · cases h
  exact key 9999

theorem run_getObj {b : Nat} {vs : Array MapEntry} {ck : Nat} (h : w.heap[b]? = some (.map vs ck)) : (getObj b).run P w = .ok (.map vs ck) w := by
  simp only [getObj, Sem.run, h]

def lkpV (q : Option (Nat × Value)) (z : Value) (ok : Bool) : Value :=
  match q with
  | some p => if ok then .tuple #[p.2, .bool true] else p.2
  | none => if ok then .tuple #[z, .bool false] else z

theorem ok_lkp {t kt e : TypeId} {m k : Operand} {ok : Bool} {kc : KC} {i : TypeInfo} {z : Value} (hop : o.op = .lookup t m k ok) (hu : P.underlying t = some (.map kt e)) (hkc : kcOf P kt = some kc) (hi : P.info? e = some i) (hz : i.zero = some z)
    {x y : X} (hx : Rep g (x.ev F) (a.eval m)) (hy : Rep g (y.ev F) (a.eval k)) (hW : WS B H T g w) {r : SR}
    (hs : step (.lkp kc (ofV z) ok x y) F H T nm = some r) (hp : r.pre) : OpOK P o a w B H T g nm r.v r.e := by
  obtain ⟨kd, hkd, hkf⟩ := kcOf_fits hkc
  simp only [step] at hs
  split at hs
  · rename_i id hid
    rw [hid] at hx
    obtain ⟨b, hm, he⟩ := hx
    split at hs
    · rename_i es hH
      split at hs
      · rename_i q hq
        cases hs
        obtain ⟨b', hm', vs, ck, hb, k1, k2⟩ := getH_ok hW hH
        rw [hm] at hm'; cases hm'
        obtain ⟨q', hq', hqq⟩ := findNow_rep hy hkf (i := 0) k1 k2 hq
        have hfk : (Instr.findKey kt (a.eval k) vs.toList).run P w = .ok q' w := by simp [Instr.findKey, run_underlying hkd, hq']
        have hck := run_checkKey (w := w) hy hp hkd hkf vs.isEmpty
        have hrun : (Instr.lookup t (.map (some b)) (a.eval k) ok).run P w = .ok (lkpV q' z ok) w := by
          rcases hqq with ⟨_, rfl⟩ | ⟨y', j, v, _, rfl, _⟩
          · cases ok <;> simp [lkpV, Instr.lookup, run_underlying hu, run_getObj hb, hck, hfk, zeroValue, typeInfo, hi, hz]
          · cases ok <;> simp [lkpV, Instr.lookup, run_underlying hu, run_getObj hb, hck, hfk, zeroValue, typeInfo, hi, hz]
        refine .pure hW (cv := lkpV q' z ok) (by simp [execOp, hop, he, hrun]) ?_
        rcases hqq with ⟨rfl, rfl⟩ | ⟨y', j, v, rfl, rfl, hv⟩
        · cases ok
          · exact rep_ofV g z
          · exact ⟨_, rfl, _, _, rfl, rep_ofV g z, _, _, rfl, rfl, rfl⟩
        · cases ok
          · exact hv
          · exact ⟨_, rfl, _, _, rfl, hv, _, _, rfl, rfl, rfl⟩
      · cases hs
    · cases hs
  · cases hs

theorem ok_ins {t kt e : TypeId} {m k v : Operand} {kc : KC} (hop : o.op = .insert t m k v ∨ o.op = .mapUpdate t m k v) (hu : P.underlying t = some (.map kt e)) (hkc : kcOf P kt = some kc)
    {x y u : X} (hx : Rep g (x.ev F) (a.eval m)) (hy : Rep g (y.ev F) (a.eval k)) (hv : Rep g (u.ev F) (a.eval v)) (hW : WS B H T g w) {r : SR}
    (hs : step (.ins kc x y u) F H T nm = some r) (hp : r.pre) : OpOK P o a w B H T g nm r.v r.e := by
  obtain ⟨kd, hkd, hkf⟩ := kcOf_fits hkc
  simp only [step] at hs
  split at hs
  · rename_i id hid
    rw [hid] at hx
    obtain ⟨b, hm, he⟩ := hx
    split at hs
    · rename_i es hH
      split at hs
      · rename_i hq
        cases hs
        obtain ⟨b', hm', vs, ck, hb, k1, k2⟩ := getH_ok hW hH
        rw [hm] at hm'; cases hm'
        obtain ⟨q', hq', hqq⟩ := findNow_rep hy hkf (i := 0) k1 k2 hq
        obtain rfl : q' = none := by rcases hqq with ⟨_, h⟩ | ⟨_, _, _, h, _⟩; exact h; cases h
        have hfk : (Instr.findKey kt (a.eval k) vs.toList).run P w = .ok none w := by simp [Instr.findKey, run_underlying hkd, hq']
        have hck := run_checkKey (w := w) hy hp hkd hkf false
        have hset : (setObj b (.map (vs.push { key := a.eval k, val := a.eval v, born := ck }) (ck + 1))).run P w = .ok () { w with heap := w.heap.setIfInBounds b (.map (vs.push { key := a.eval k, val := a.eval v, born := ck }) (ck + 1)) } := by
          simp only [setObj, Sem.run, hb]
        have hrun : (Instr.mapUpdate t (.map (some b)) (a.eval k) (a.eval v)).run P w = .ok () { w with heap := w.heap.setIfInBounds b (.map (vs.push { key := a.eval k, val := a.eval v, born := ck }) (ck + 1)) } := by
          simp [Instr.mapUpdate, run_underlying hu, run_getObj hb, hck, hfk, hset]
        refine ⟨.skip, undef, _, g, by rcases hop with h | h <;> simp only [execOp, h, he] <;> simp only [Sem.run_bind, hrun, Result.andThen_ok, Sem.run_pure] <;> rfl, .inr ⟨rfl, rfl⟩, .refl g, ?_, trivial, fun _ _ h => h⟩
        refine hW.setBlock (getH_mem hH) hm ⟨rfl, rfl, rfl, by simp, fun b' hb' => by simp [Array.getElem?_setIfInBounds, Ne.symm hb']⟩ ⟨vs.push { key := a.eval k, val := a.eval v, born := ck }, ck + 1, by simp [lt_of_some hb], ?_, ?_⟩
        · simpa using RepL.append k1 (RepL.cons hy (RepL.nil g))
        · simpa using RepL.append k2 (RepL.cons hv (RepL.nil g))
      · cases hs
    · cases hs
  · cases hs
end
end Go.Ab

