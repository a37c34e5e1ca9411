/- Whether a sequence may be (layer 3 of the program). -/
import Derived.Test.YtgdgfefojfgpaaaDoorA6
import Derived.Test.YtgdgfefojfgpaaaDoorA8
set_option linter.unusedVariables false
set_option linter.unusedSimpArgs false
set_option maxRecDepth 100000
namespace Go.Proofs.YtgdgfefojfgpaaaDoor
open Go Go.Ab
/-- slices.Equal[[]int,int] -/
def ir_slicesEqualintint : ICode :=
 (.seq
  (.reg [⟨some 4, none, .mov (.c (.bool false))⟩] (some [0, 1]))
  (.seq
   (.seq
    (.reg [⟨some 6, none, .mov (.t 0)⟩,
      ⟨some 7, none, .len (.t 6)⟩,
      ⟨some 8, none, .mov (.t 1)⟩,
      ⟨some 9, none, .len (.t 8)⟩,
      ⟨some 10, none, .bin .neq .none (.t 7) (.t 9)⟩] (some [0, 1, 10]))
    (.cond (.t 10)
     (.seq
      (.reg [⟨some 4, none, .mov (.c (.bool false))⟩] (some [4]))
      .ret)
     .skip))
   (.seq
    (.seq
     (.reg [⟨some 11, none, .mov (.t 0)⟩,
       ⟨some 12, none, .len (.t 11)⟩,
       ⟨some 13, none, .mov (.c (.int .i64 0))⟩] (some [0, 1, 12, 13]))
     (.blk 0
      (.loop
       (.seq
        (.reg [⟨some 14, none, .bin .lss .none (.t 13) (.t 12)⟩] (some [0, 1, 12, 13, 14]))
        (.seq
         (.cond (.t 14)
          .skip
          (.exit 0))
         (.seq
          (.blk 1
           (.seq
            (.reg [⟨some 15, none, .mov (.t 13)⟩,
              ⟨some 5, none, .mov (.t 15)⟩] (some [0, 1, 5, 12, 13]))
            (.seq
             (.drw [⟨⟨some 16, none, .mov (.t 0)⟩, []⟩,
               ⟨⟨some 17, none, .mov (.t 5)⟩, []⟩,
               ⟨⟨some 18, none, .ia 1 (.t 16) (.t 17)⟩, [0, 1]⟩,
               ⟨⟨some 19, none, .ld none (.t 18)⟩, [2]⟩,
               ⟨⟨some 20, none, .mov (.t 1)⟩, []⟩,
               ⟨⟨some 21, none, .mov (.t 5)⟩, []⟩,
               ⟨⟨some 22, none, .ia 1 (.t 20) (.t 21)⟩, [4, 5]⟩,
               ⟨⟨some 23, none, .ld none (.t 22)⟩, [6]⟩,
               ⟨⟨some 24, none, .bin .neq .none (.t 19) (.t 23)⟩, [3, 7]⟩]
               [] (some [0, 1, 12, 13, 24]))
             (.cond (.t 24)
              (.seq
               (.reg [⟨some 4, none, .mov (.c (.bool false))⟩] (some [4]))
               .ret)
              .skip))))
          (.reg [⟨some 25, none, .bin .add .none (.t 13) (.c (.int .i64 1))⟩,
            ⟨some 13, none, .mov (.t 25)⟩] (some [0, 1, 12, 13]))))))))
    (.seq
     (.reg [⟨some 4, none, .mov (.c (.bool true))⟩] (some [4]))
     .ret))))
theorem is_slicesEqualintint : IrOf Tryd.prog 53 26 ir_slicesEqualintint [.t 4] := ⟨_, Tryd.func53, rfl, by kernel_rfl, by kernel_rfl, by kernel_rfl⟩

/-- slices.IndexFunc[[]int,int] -/
def ir_slicesIndexFuncintint : ICode :=
 (.seq
  (.reg [⟨some 4, none, .mov (.c (.int .i64 0))⟩] (some [0, 1]))
  (.seq
   (.seq
    (.reg [⟨some 6, none, .mov (.t 0)⟩,
      ⟨some 7, none, .len (.t 6)⟩,
      ⟨some 8, none, .mov (.c (.int .i64 0))⟩] (some [0, 1, 7, 8]))
    (.blk 0
     (.loop
      (.seq
       (.reg [⟨some 9, none, .bin .lss .none (.t 8) (.t 7)⟩] (some [0, 1, 7, 8, 9]))
       (.seq
        (.cond (.t 9)
         .skip
         (.exit 0))
        (.seq
         (.blk 1
          (.seq
           (.reg [⟨some 10, none, .mov (.t 8)⟩,
             ⟨some 5, none, .mov (.t 10)⟩] (some [0, 1, 5, 7, 8]))
           (.seq
            (.reg [⟨some 11, none, .mov (.t 1)⟩,
              ⟨some 12, none, .mov (.t 0)⟩,
              ⟨some 13, none, .mov (.t 5)⟩,
              ⟨some 14, none, .ia 1 (.t 12) (.t 13)⟩,
              ⟨some 15, none, .ld none (.t 14)⟩,
              ⟨some 16, none, .call (.t 11) [(.t 15)]⟩] (some [0, 1, 5, 7, 8, 16]))
            (.cond (.t 16)
             (.seq
              (.reg [⟨some 17, none, .mov (.t 5)⟩,
                ⟨some 4, none, .mov (.t 17)⟩] (some [4]))
              .ret)
             .skip))))
         (.reg [⟨some 18, none, .bin .add .none (.t 8) (.c (.int .i64 1))⟩,
           ⟨some 8, none, .mov (.t 18)⟩] (some [0, 1, 7, 8]))))))))
   (.seq
    (.reg [⟨some 4, none, .mov (.c (.int .i64 (-1)))⟩] (some [4]))
    .ret)))
theorem is_slicesIndexFuncintint : IrOf Tryd.prog 60 19 ir_slicesIndexFuncintint [.t 4] := ⟨_, Tryd.func60, rfl, by kernel_rfl, by kernel_rfl, by kernel_rfl⟩

/-- slices.ContainsFunc[[]int,int] -/
def ir_slicesContainsFuncintint : ICode :=
 (.seq
  (.reg [⟨some 4, none, .mov (.c (.bool false))⟩] (some [0, 1]))
  (.seq
   (.reg [⟨some 5, none, .mov (.t 0)⟩,
     ⟨some 6, none, .mov (.t 1)⟩,
     ⟨some 7, none, .call (.c (.fn (.func 60) [] [])) [(.t 5), (.t 6)]⟩,
     ⟨some 8, none, .bin .geq .none (.t 7) (.c (.int .i64 0))⟩,
     ⟨some 4, none, .mov (.t 8)⟩] (some [4]))
   .ret))
theorem is_slicesContainsFuncintint : IrOf Tryd.prog 54 9 ir_slicesContainsFuncintint [.t 4] := ⟨_, Tryd.func54, rfl, by kernel_rfl, by kernel_rfl, by kernel_rfl⟩

/-- clavier/wire.listed$1 -/
def ir_wirelisted1 : ICode :=
 (.seq
  (.reg [⟨some 2, none, .mov (.c (.bool false))⟩] (some [0]))
  (.seq
   (.reg [⟨some 3, none, .mov (.t 0)⟩,
     ⟨some 4, none, .bin .lss .none (.t 3) (.c (.int .i64 (-1)))⟩,
     ⟨some 5, none, .mov (.t 4)⟩,
     ⟨some 6, some (5, false), .mov (.t 0)⟩,
     ⟨some 7, some (5, false), .bin .gtr .none (.t 6) (.c (.int .i64 1114111))⟩,
     ⟨some 8, none, .pick (.t 5) (.c (.bool true)) (.t 7)⟩,
     ⟨some 2, none, .mov (.t 8)⟩] (some [2]))
   .ret))
theorem is_wirelisted1 : IrOf Tryd.prog 55 9 ir_wirelisted1 [.t 2] := ⟨_, Tryd.func55, rfl, by kernel_rfl, by kernel_rfl, by kernel_rfl⟩

/- clavier/wire.listed -/
def ir_wirelisted_l0 : ICode :=
 (.seq
        (.reg [⟨some 24, none, .bin .lss .none (.t 23) (.t 22)⟩] (some [21, 22, 23, 24]))
        (.seq
         (.cond (.t 24)
          .skip
          (.exit 0))
         (.seq
          (.blk 1
           (.seq
            (.reg [⟨some 25, none, .ia 1 (.t 21) (.t 23)⟩,
              ⟨some 26, none, .ld none (.t 25)⟩,
              ⟨some 4, none, .mov (.t 26)⟩] (some [4, 21, 22, 23]))
            (.seq
             (.reg [⟨some 27, none, .mov (.t 4)⟩,
               ⟨some 28, none, .call (.c (.fn (.func 54) [] [])) [(.t 27), (.c (.fn (.func 55) [] []))]⟩,
               ⟨some 5, none, .mov (.t 28)⟩] (some [4, 5, 21, 22, 23]))
             (.seq
              (.reg [⟨some 29, none, .mov (.t 5)⟩,
                ⟨some 30, none, .mov (.t 29)⟩,
                ⟨some 31, some (30, false), .mov (.t 4)⟩,
                ⟨some 32, some (30, false), .len (.t 31)⟩,
                ⟨some 33, some (30, false), .bin .lss .none (.t 32) (.c (.int .i64 1))⟩,
                ⟨some 34, none, .pick (.t 30) (.c (.bool true)) (.t 33)⟩,
                ⟨some 35, none, .mov (.t 34)⟩,
                ⟨some 36, some (35, false), .mov (.t 4)⟩,
                ⟨some 37, some (35, false), .len (.t 36)⟩,
                ⟨some 38, some (35, false), .bin .gtr .none (.t 37) (.c (.int .i64 8))⟩,
                ⟨some 39, none, .pick (.t 35) (.c (.bool true)) (.t 38)⟩] (some [21, 22, 23, 39]))
              (.cond (.t 39)
               (.seq
                (.reg [⟨some 2, none, .mov (.c (.bool false))⟩] (some [2]))
                .ret)
               .skip)))))
          (.reg [⟨some 40, none, .bin .add .none (.t 23) (.c (.int .i64 1))⟩,
            ⟨some 23, none, .mov (.t 40)⟩] (some [21, 22, 23])))))
def ir_wirelisted : ICode :=
 (.seq
  (.reg [⟨some 2, none, .mov (.c (.bool false))⟩] (some [0]))
  (.seq
   (.seq
    (.reg [⟨some 6, none, .mov (.t 0)⟩,
      ⟨some 7, none, .len (.t 6)⟩,
      ⟨some 8, none, .bin .gtr .none (.t 7) (.c (.int .i64 16))⟩,
      ⟨some 9, none, .mov (.t 8)⟩,
      ⟨some 10, some (9, false), .mov (.t 0)⟩,
      ⟨some 11, some (9, false), .len (.t 10)⟩,
      ⟨some 12, some (9, false), .bin .eql .none (.t 11) (.c (.int .i64 1))⟩,
      ⟨some 13, some (9, false), .mov (.t 12)⟩,
      ⟨some 14, some (13, true), .mov (.t 0)⟩,
      ⟨some 15, some (13, true), .ia 1 (.t 14) (.c (.int .i64 0))⟩,
      ⟨some 16, some (13, true), .ld none (.t 15)⟩,
      ⟨some 17, some (13, true), .row 3 1 [(.c (.int .i64 (-1)))]⟩,
      ⟨some 18, some (13, true), .call (.c (.fn (.func 53) [] [])) [(.t 16), (.t 17)]⟩,
      ⟨some 19, some (9, false), .pick (.t 13) (.t 18) (.c (.bool false))⟩,
      ⟨some 20, none, .pick (.t 9) (.c (.bool true)) (.t 19)⟩] (some [0, 20]))
    (.cond (.t 20)
     (.seq
      (.reg [⟨some 2, none, .mov (.c (.bool false))⟩] (some [2]))
      .ret)
     .skip))
   (.seq
    (.seq
     (.reg [⟨some 21, none, .mov (.t 0)⟩,
       ⟨some 22, none, .len (.t 21)⟩,
       ⟨some 23, none, .mov (.c (.int .i64 0))⟩] (some [21, 22, 23]))
     (.blk 0
      (.loop
       ir_wirelisted_l0)))
    (.seq
     (.reg [⟨some 2, none, .mov (.c (.bool true))⟩] (some [2]))
     .ret))))
theorem is_wirelisted : IrOf Tryd.prog 41 41 ir_wirelisted [.t 2] := ⟨_, Tryd.func41, rfl, by kernel_rfl, by kernel_rfl, by kernel_rfl⟩


theorem fs_EqualInts {Gl : Gh → Prop} (hst : Stays Gl) {a b : List Int} {ta tb : Option Nm} (ha : a.length < 4611686018427387904) (hb : b.length < 4611686018427387904) : FS Tryd.prog Gl 53 [.sl ta 1 (intsAV a), .sl tb 1 (intsAV b)] [] [] (.bool (decide (a = b))) [] [] := by
  refine FS.of hm hst is_slicesEqualintint (by simp) fun γ hγ hfr => ?_
  (generalize hQ : (fun (ex : Ex) (_ _ : Nat) (s : St) => _) = Q; unfold ir_slicesEqualintint)
  simp +contextual (maxSteps := 1000000) only [intsAV_length, go_sem, reduceCtorEq, ↓reduceIte, Nat.reduceAdd, Nat.reduceEqDiff, Nat.reduceLeDiff, Nat.reduceMul, Nat.reduceBEq, Int.reduceBEq, Int.reduceBNe, Int.reduceLT, Int.reduceLE, Int.reduceGT, Int.reduceGE, Int.reduceToNat, Int.natCast_one, Int.natCast_zero, Int.cast_ofNat_Int]
  refine kCond_split (fun h => ?_) (fun h => ?_)
  · simp +contextual (maxSteps := 1000000) only [go_sem, reduceCtorEq, ↓reduceIte, Nat.reduceAdd, Nat.reduceEqDiff, Nat.reduceLeDiff, Nat.reduceMul, Nat.reduceBEq, Int.reduceBEq, Int.reduceBNe, Int.reduceLT, Int.reduceLE, Int.reduceGT, Int.reduceGE, Int.reduceToNat, Int.natCast_one, Int.natCast_zero, Int.cast_ofNat_Int]
    rw [← hQ]
    have : decide (a = b) = false := by
      simp only [bne_iff_ne, ne_eq] at h
      rw [decide_eq_false_iff_not]; intro e; subst e; simp at h
    rw [this]
    exact ⟨trivial, Ret.flat rfl rfl⟩
  · have hl : a.length = b.length := by simp at h; omega
    simp +contextual (maxSteps := 1000000) only [intsAV_length, go_sem, reduceCtorEq, ↓reduceIte, Nat.reduceAdd, Nat.reduceEqDiff, Nat.reduceLeDiff, Nat.reduceMul, Nat.reduceBEq, Int.reduceBEq, Int.reduceBNe, Int.reduceLT, Int.reduceLE, Int.reduceGT, Int.reduceGE, Int.reduceToNat, Int.natCast_one, Int.natCast_zero, Int.cast_ofNat_Int]
    refine kLoop_ix (fun i : Nat => ⟨lf [(0, .sl ta 1 (intsAV a)), (1, .sl tb 1 (intsAV b)), (12, .int .i64 a.length), (13, .int .i64 i)], [], fun x => x ∈ []⟩) (fun i => i ≤ a.length ∧ a.take i = b.take i) (fun i => a.length - i) 0 0 (Wk.same ?_) ?_ ?_
    · (simp only [lfOK, upd, initF]; repeat' first | exact AVle.refl _ _ | exact trivial | refine And.intro ?_ ?_ | exact AVle.int (by simp only [IntKind.wrap_i64]; omega))
    · simp
    · rintro γ' i hf ⟨hi, hinv⟩
      generalize hQ' : kIt _ _ _ _ _ = Q'
      by_cases hlt : i < a.length
      · have hd : decide ((i : Int) < (a.length : Int)) = true := by simp; omega
        have g1 : (intsAV a).getD (i : Int).toNat [] = [.int .i64 a[i]] := by rw [Int.toNat_natCast]; exact intsAV_get hlt
        have g2 : (intsAV b).getD (i : Int).toNat [] = [.int .i64 (b[i]'(by omega))] := by rw [Int.toNat_natCast]; exact intsAV_get (by omega)
        simp +contextual (maxSteps := 1000000) only [intsAV_length, hd, g1, g2, go_sem, reduceCtorEq, ↓reduceIte, Nat.reduceAdd, Nat.reduceEqDiff, Nat.reduceLeDiff, Nat.reduceMul, Nat.reduceBEq, Int.reduceBEq, Int.reduceBNe, Int.reduceLT, Int.reduceLE, Int.reduceGT, Int.reduceGE, Int.reduceToNat, Int.natCast_one, Int.natCast_zero, Int.cast_ofNat_Int]
        refine ⟨by omega, by omega, kCond_split (fun h1 => ?_) (fun h1 => ?_)⟩
        · simp +contextual (maxSteps := 1000000) only [go_sem, reduceCtorEq, ↓reduceIte, Nat.reduceAdd, Nat.reduceEqDiff, Nat.reduceLeDiff, Nat.reduceMul, Nat.reduceBEq, Int.reduceBEq, Int.reduceBNe, Int.reduceLT, Int.reduceLE, Int.reduceGT, Int.reduceGE, Int.reduceToNat, Int.natCast_one, Int.natCast_zero, Int.cast_ofNat_Int]
          rw [← hQ']
          simp only [w_kIt_r, w_kBlk_r, w_kSeq_r]
          have e : decide (a = b) = false := by
            simp only [bne_iff_ne, ne_eq] at h1
            rw [decide_eq_false_iff_not]; intro e; subst e; exact h1 rfl
          rw [← hQ, e]
          exact ⟨trivial, Ret.flat rfl rfl⟩
        · simp +contextual (maxSteps := 1000000) only [go_sem, reduceCtorEq, ↓reduceIte, Nat.reduceAdd, Nat.reduceEqDiff, Nat.reduceLeDiff, Nat.reduceMul, Nat.reduceBEq, Int.reduceBEq, Int.reduceBNe, Int.reduceLT, Int.reduceLE, Int.reduceGT, Int.reduceGE, Int.reduceToNat, Int.natCast_one, Int.natCast_zero, Int.cast_ofNat_Int]
          rw [← hQ']
          simp only [w_kIt_n]
          refine ⟨0, i + 1, Wk.same ?_, ⟨by omega, ?_⟩, by omega⟩
          · repeat' first | exact AVle.refl _ _ | exact trivial | refine And.intro ?_ ?_ | exact AVle.int (by simp only [IntKind.wrap_i64]; omega)
          · have h2 : a[i] = b[i]'(by omega) := by simpa using h1
            rw [List.take_add_one, List.take_add_one, hinv, List.getElem?_eq_getElem hlt, List.getElem?_eq_getElem (show i < b.length by omega), h2]
      · have hd : decide ((i : Int) < (a.length : Int)) = false := by simp; omega
        simp +contextual (maxSteps := 1000000) only [intsAV_length, hd, go_sem, reduceCtorEq, ↓reduceIte, Nat.reduceAdd, Nat.reduceEqDiff, Nat.reduceLeDiff, Nat.reduceMul, Nat.reduceBEq, Int.reduceBEq, Int.reduceBNe, Int.reduceLT, Int.reduceLE, Int.reduceGT, Int.reduceGE, Int.reduceToNat, Int.natCast_one, Int.natCast_zero, Int.cast_ofNat_Int]
        rw [← hQ']
        simp only [w_kIt_e, w_kBlk_e, ↓reduceIte]
        simp +contextual (maxSteps := 1000000) only [go_sem, reduceCtorEq, ↓reduceIte, Nat.reduceAdd, Nat.reduceEqDiff, Nat.reduceLeDiff, Nat.reduceMul, Nat.reduceBEq, Int.reduceBEq, Int.reduceBNe, Int.reduceLT, Int.reduceLE, Int.reduceGT, Int.reduceGE, Int.reduceToNat, Int.natCast_one, Int.natCast_zero, Int.cast_ofNat_Int]
        have e : decide (a = b) = true := by
          rw [decide_eq_true_eq]
          have h3 := hinv
          rw [List.take_of_length_le (by omega), List.take_of_length_le (by omega)] at h3
          exact h3
        rw [← hQ, e]
        exact ⟨trivial, Ret.flat rfl rfl⟩

/-- Where a number stands first of which something holds. -/
def idxP (q : Int → Bool) : List Int → Option Nat
  | [] => none
  | n :: l => if q n = true then some 0 else (idxP q l).map (· + 1)
theorem idxP_any (q : Int → Bool) : ∀ l, (idxP q l).isSome = l.any q
  | [] => rfl
  | n :: l => by
    simp only [idxP, List.any_cons]
    split
    · rename_i h; simp [h]
    · rename_i h
      have h : q n = false := by simpa using h
      simp [h, idxP_any q l]
theorem fs_IndexFuncInts {Gl : Gh → Prop} (hst : Stays Gl) {a : List Int} {ta : Option Nm} {k : Nat} {caps : List AV} {q : Int → Bool} (ha : a.length < 4611686018427387904) (hk : ∀ c, c ∈ a → FS Tryd.prog Gl k (.int .i64 c :: caps) [] [] (.bool (q c)) [] []) :
    FS Tryd.prog Gl 60 [.sl ta 1 (intsAV a), .fn (.func k) [] caps] [] [] (.int .i64 (match idxP q a with | some i => (i : Int) | none => -1)) [] [] := by
  refine FS.of hm hst is_slicesIndexFuncintint (by simp) fun γ hγ hfr => ?_
  (generalize hQ : (fun (ex : Ex) (_ _ : Nat) (s : St) => _) = Q; unfold ir_slicesIndexFuncintint)
  simp +contextual (maxSteps := 1000000) only [intsAV_length, go_sem, reduceCtorEq, ↓reduceIte, Nat.reduceAdd, Nat.reduceEqDiff, Nat.reduceLeDiff, Nat.reduceMul, Nat.reduceBEq, Int.reduceBEq, Int.reduceBNe, Int.reduceLT, Int.reduceLE, Int.reduceGT, Int.reduceGE, Int.reduceToNat, Int.natCast_one, Int.natCast_zero, Int.cast_ofNat_Int]
  refine kLoop_ix (fun i : Nat => ⟨lf [(0, .sl ta 1 (intsAV a)), (1, .fn (.func k) [] caps), (7, .int .i64 a.length), (8, .int .i64 i)], [], fun x => x ∈ []⟩) (fun i => i ≤ a.length ∧ idxP q a = (idxP q (a.drop i)).map (· + i)) (fun i => a.length - i) 0 0 (Wk.same ?_) ?_ ?_
  · (simp only [lfOK, upd, initF]; repeat' first | exact AVle.refl _ _ | exact trivial | refine And.intro ?_ ?_ | exact AVle.int (by simp only [IntKind.wrap_i64]; omega))
  · simp
  · rintro γ' i hf ⟨hi, hinv⟩
    generalize hQ' : kIt _ _ _ _ _ = Q'
    by_cases hlt : i < a.length
    · have hd : decide ((i : Int) < (a.length : Int)) = true := by simp; omega
      have g1 : (intsAV a).getD (i : Int).toNat [] = [.int .i64 a[i]] := by rw [Int.toNat_natCast]; exact intsAV_get hlt
      have hdrop : a.drop i = a[i] :: a.drop (i + 1) := List.drop_eq_getElem_cons hlt
      rw [hdrop] at hinv
      simp +contextual (maxSteps := 1000000) only [intsAV_length, hd, g1, go_sem, reduceCtorEq, ↓reduceIte, Nat.reduceAdd, Nat.reduceEqDiff, Nat.reduceLeDiff, Nat.reduceMul, Nat.reduceBEq, Int.reduceBEq, Int.reduceBNe, Int.reduceLT, Int.reduceLE, Int.reduceGT, Int.reduceGE, Int.reduceToNat, Int.natCast_one, Int.natCast_zero, Int.cast_ofNat_Int]
      refine ⟨by omega, CallP.pure (hk _ (List.getElem_mem hlt)) (fun _ => rfl) ?_⟩
      cases hq : q a[i] with
      | true =>
        simp +contextual (maxSteps := 1000000) only [go_sem, reduceCtorEq, ↓reduceIte, Nat.reduceAdd, Nat.reduceEqDiff, Nat.reduceLeDiff, Nat.reduceMul, Nat.reduceBEq, Int.reduceBEq, Int.reduceBNe, Int.reduceLT, Int.reduceLE, Int.reduceGT, Int.reduceGE, Int.reduceToNat, Int.natCast_one, Int.natCast_zero, Int.cast_ofNat_Int]
        rw [← hQ', ← hQ, hinv]
        simp only [w_kIt_r, w_kBlk_r, w_kSeq_r, idxP, hq, if_true]
        exact ⟨trivial, Ret.flat (by simp [resOf, getAll, IRes.get, lf]) rfl⟩
      | false =>
        simp +contextual (maxSteps := 1000000) only [go_sem, reduceCtorEq, ↓reduceIte, Nat.reduceAdd, Nat.reduceEqDiff, Nat.reduceLeDiff, Nat.reduceMul, Nat.reduceBEq, Int.reduceBEq, Int.reduceBNe, Int.reduceLT, Int.reduceLE, Int.reduceGT, Int.reduceGE, Int.reduceToNat, Int.natCast_one, Int.natCast_zero, Int.cast_ofNat_Int]
        rw [← hQ']
        simp only [w_kIt_n]
        refine ⟨0, i + 1, Wk.same ?_, ⟨by omega, ?_⟩, by omega⟩
        · repeat' first | exact AVle.refl _ _ | exact trivial | refine And.intro ?_ ?_ | exact AVle.int (by simp only [IntKind.wrap_i64]; omega)
        · rw [hinv]
          simp only [idxP, hq, Bool.false_eq_true, if_false, Option.map_map]
          congr 1
          funext x; simp; omega
    · have hd : decide ((i : Int) < (a.length : Int)) = false := by simp; omega
      simp +contextual (maxSteps := 1000000) only [intsAV_length, hd, go_sem, reduceCtorEq, ↓reduceIte, Nat.reduceAdd, Nat.reduceEqDiff, Nat.reduceLeDiff, Nat.reduceMul, Nat.reduceBEq, Int.reduceBEq, Int.reduceBNe, Int.reduceLT, Int.reduceLE, Int.reduceGT, Int.reduceGE, Int.reduceToNat, Int.natCast_one, Int.natCast_zero, Int.cast_ofNat_Int]
      rw [← hQ']
      simp only [w_kIt_e, w_kBlk_e, ↓reduceIte]
      simp +contextual (maxSteps := 1000000) only [go_sem, reduceCtorEq, ↓reduceIte, Nat.reduceAdd, Nat.reduceEqDiff, Nat.reduceLeDiff, Nat.reduceMul, Nat.reduceBEq, Int.reduceBEq, Int.reduceBNe, Int.reduceLT, Int.reduceLE, Int.reduceGT, Int.reduceGE, Int.reduceToNat, Int.natCast_one, Int.natCast_zero, Int.cast_ofNat_Int]
      rw [List.drop_of_length_le (by omega)] at hinv
      rw [← hQ, hinv]
      exact ⟨trivial, Ret.flat rfl rfl⟩

theorem fs_ContainsFuncInts {Gl : Gh → Prop} (hst : Stays Gl) {a : List Int} {ta : Option Nm} {k : Nat} {caps : List AV} {q : Int → Bool} (ha : a.length < 4611686018427387904) (hk : ∀ c, c ∈ a → FS Tryd.prog Gl k (.int .i64 c :: caps) [] [] (.bool (q c)) [] []) :
    FS Tryd.prog Gl 54 [.sl ta 1 (intsAV a), .fn (.func k) [] caps] [] [] (.bool (a.any q)) [] [] := by
  refine FS.of hm hst is_slicesContainsFuncintint (by simp) fun γ hγ hfr => ?_
  (generalize hQ : (fun (ex : Ex) (_ _ : Nat) (s : St) => _) = Q; unfold ir_slicesContainsFuncintint)
  simp +contextual (maxSteps := 1000000) only [go_sem, reduceCtorEq, ↓reduceIte, Nat.reduceAdd, Nat.reduceEqDiff, Nat.reduceLeDiff, Nat.reduceMul, Nat.reduceBEq, Int.reduceBEq, Int.reduceBNe, Int.reduceLT, Int.reduceLE, Int.reduceGT, Int.reduceGE, Int.reduceToNat, Int.natCast_one, Int.natCast_zero, Int.cast_ofNat_Int]
  refine CallP.pure (fs_IndexFuncInts hst ha hk) (fun _ => rfl) ?_
  have hi : decide ((match idxP q a with | some i => (i : Int) | none => -1) ≥ 0) = a.any q := by
    rw [← idxP_any]
    cases idxP q a with
    | none => rfl
    | some i => simp
  generalize (match idxP q a with | some i => (i : Int) | none => -1) = x at hi
  simp +contextual (maxSteps := 1000000) only [hi, go_sem, reduceCtorEq, ↓reduceIte, Nat.reduceAdd, Nat.reduceEqDiff, Nat.reduceLeDiff, Nat.reduceMul, Nat.reduceBEq, Int.reduceBEq, Int.reduceBNe, Int.reduceLT, Int.reduceLE, Int.reduceGT, Int.reduceGE, Int.reduceToNat, Int.natCast_one, Int.natCast_zero, Int.cast_ofNat_Int]
  rw [← hQ]
  exact ⟨trivial, Ret.flat rfl rfl⟩

theorem fs_listed1 {Gl : Gh → Prop} (hst : Stays Gl) {n : Int} : FS Tryd.prog Gl 55 [.int .i64 n] [] [] (.bool (decide (n < -1) || decide (n > 1114111))) [] [] := by
  refine FS.of hm hst is_wirelisted1 (by simp) fun γ hγ hfr => ?_
  (generalize hQ : (fun (ex : Ex) (_ _ : Nat) (s : St) => _) = Q; unfold ir_wirelisted1)
  simp +contextual (maxSteps := 1000000) only [go_sem, reduceCtorEq, ↓reduceIte, Nat.reduceAdd, Nat.reduceEqDiff, Nat.reduceLeDiff, Nat.reduceMul, Nat.reduceBEq, Int.reduceBEq, Int.reduceBNe, Int.reduceLT, Int.reduceLE, Int.reduceGT, Int.reduceGE, Int.reduceToNat, Int.natCast_one, Int.natCast_zero, Int.cast_ofNat_Int]
  rw [← hQ]
  exact ⟨trivial, Ret.flat rfl rfl⟩

/-- A parameter that may not be. -/
def parBad (p : List Int) : Bool := p.any (fun n => decide (n < -1) || decide (n > 1114111)) || (decide (p.length < 1) || decide (p.length > 8))
theorem lp_listed {Gl : Gh → Prop} (hst : Stays Gl) {l : List (List Int)} (ha : l.length < 4611686018427387904) (hb : ∀ p ∈ l, p.length < 4611686018427387904) {γ c : Nat} {F : Nat → AV} {T : Tk} {K : Ex → Nat → Nat → St → Prop}
    (hF : lfOK [] F [(21, .sl none 1 (parsAV l)), (22, .int .i64 l.length), (23, .int .i64 0)])
    (hret : l.any parBad = true → ∀ γ c F, F 2 = .bool false → K .ret γ c ⟨F, [], T⟩) (hex : l.any parBad = false → ∀ γ c F, K (.exit 0) γ c ⟨F, [], T⟩) : kLoop Tryd.prog Gl ir_wirelisted_l0 γ c ⟨F, [], T⟩ K := by
  refine kLoop_ix (fun i : Nat => ⟨lf [(21, .sl none 1 (parsAV l)), (22, .int .i64 l.length), (23, .int .i64 i)], [], T⟩) (fun i => i ≤ l.length ∧ l.any parBad = (l.drop i).any parBad) (fun i => l.length - i) 0 0 (Wk.same hF) (by simp) ?_
  rintro γ' i hf ⟨hi, hinv⟩
  generalize hK : kIt _ _ _ _ _ = K'
  unfold ir_wirelisted_l0
  by_cases hlt : i < l.length
  · have hd : decide ((i : Int) < (l.length : Int)) = true := by simp; omega
    have g1 : (parsAV l).getD (i : Int).toNat [] = [intsV l[i]] := by rw [Int.toNat_natCast]; exact parsAV_get hlt
    have hdrop : l.drop i = l[i] :: l.drop (i + 1) := List.drop_eq_getElem_cons hlt
    rw [hdrop, List.any_cons] at hinv
    have hm : l[i] ∈ l := List.getElem_mem hlt
    generalize l[i] = p at g1 hinv hm
    simp +contextual (maxSteps := 1000000) only [parsAV_length, hd, g1, go_sem, reduceCtorEq, ↓reduceIte, Nat.reduceAdd, Nat.reduceEqDiff, Nat.reduceLeDiff, Nat.reduceMul, Nat.reduceBEq, Int.reduceBEq, Int.reduceBNe, Int.reduceLT, Int.reduceLE, Int.reduceGT, Int.reduceGE, Int.reduceToNat, Int.natCast_one, Int.natCast_zero, Int.cast_ofNat_Int]
    refine ⟨by omega, CallP.pure (fs_ContainsFuncInts hst (hb p hm) (fun c _ => fs_listed1 hst)) (fun _ => rfl) ?_⟩
    have fin1 : parBad p = true → ∀ γ c F, F 2 = .bool false → K' .ret γ c ⟨F, [], T⟩ := fun h γ c F hF => by
      rw [← hK]; simp only [w_kIt_r]; exact hret (by rw [hinv, h]; rfl) γ c F hF
    have fin2 : parBad p = false → ∀ γ c F, F 21 = .sl none 1 (parsAV l) → F 22 = .int .i64 l.length → F 23 = .int .i64 (i + 1 : Nat) → K' .normal γ c ⟨F, [], T⟩ := fun h γ c F h1 h2 h3 => by
      rw [← hK]; simp only [w_kIt_n]
      refine ⟨0, i + 1, Wk.same ⟨.inl h1.symm, .inl h2.symm, .inl h3.symm, trivial⟩, ⟨by omega, ?_⟩, by omega⟩
      rw [hinv, h]; rfl
    have hw : IntKind.i64.wrap ((i : Int) + 1) = ((i + 1 : Nat) : Int) := by rw [IntKind.wrap_i64]; omega
    unfold parBad at fin1 fin2
    cases h1 : p.any (fun n => decide (n < -1) || decide (n > 1114111)) with
    | true =>
      rw [h1] at fin1
      simp +contextual (maxSteps := 1000000) only [go_sem, reduceCtorEq, ↓reduceIte, Nat.reduceAdd, Nat.reduceEqDiff, Nat.reduceLeDiff, Nat.reduceMul, Nat.reduceBEq, Int.reduceBEq, Int.reduceBNe, Int.reduceLT, Int.reduceLE, Int.reduceGT, Int.reduceGE, Int.reduceToNat, Int.natCast_one, Int.natCast_zero, Int.cast_ofNat_Int]
      exact fin1 rfl _ _ _ rfl
    | false =>
      rw [h1] at fin1 fin2
      have i1 : decide ((p.length : Int) < 1) = decide (p.length < 1) := by rw [decide_eq_decide]; omega
      have i2 : decide ((p.length : Int) > 8) = decide (p.length > 8) := by rw [decide_eq_decide]; omega
      cases h2 : decide (p.length < 1) with
      | true =>
        rw [h2] at fin1
        simp +contextual (maxSteps := 1000000) only [intsV, intsAV_length, i1, h2, go_sem, reduceCtorEq, ↓reduceIte, Nat.reduceAdd, Nat.reduceEqDiff, Nat.reduceLeDiff, Nat.reduceMul, Nat.reduceBEq, Int.reduceBEq, Int.reduceBNe, Int.reduceLT, Int.reduceLE, Int.reduceGT, Int.reduceGE, Int.reduceToNat, Int.natCast_one, Int.natCast_zero, Int.cast_ofNat_Int]
        exact fin1 rfl _ _ _ rfl
      | false =>
        rw [h2] at fin1 fin2
        cases h3 : decide (p.length > 8) with
        | true =>
          rw [h3] at fin1
          simp +contextual (maxSteps := 1000000) only [intsV, intsAV_length, i1, h2, i2, h3, go_sem, reduceCtorEq, ↓reduceIte, Nat.reduceAdd, Nat.reduceEqDiff, Nat.reduceLeDiff, Nat.reduceMul, Nat.reduceBEq, Int.reduceBEq, Int.reduceBNe, Int.reduceLT, Int.reduceLE, Int.reduceGT, Int.reduceGE, Int.reduceToNat, Int.natCast_one, Int.natCast_zero, Int.cast_ofNat_Int]
          exact fin1 rfl _ _ _ rfl
        | false =>
          rw [h3] at fin2
          simp +contextual (maxSteps := 1000000) only [intsV, intsAV_length, i1, h2, i2, h3, hw, go_sem, reduceCtorEq, ↓reduceIte, Nat.reduceAdd, Nat.reduceEqDiff, Nat.reduceLeDiff, Nat.reduceMul, Nat.reduceBEq, Int.reduceBEq, Int.reduceBNe, Int.reduceLT, Int.reduceLE, Int.reduceGT, Int.reduceGE, Int.reduceToNat, Int.natCast_one, Int.natCast_zero, Int.cast_ofNat_Int]
          exact fin2 rfl _ _ _ rfl rfl rfl
  · have hd : decide ((i : Int) < (l.length : Int)) = false := by simp; omega
    simp +contextual (maxSteps := 1000000) only [hd, go_sem, reduceCtorEq, ↓reduceIte, Nat.reduceAdd, Nat.reduceEqDiff, Nat.reduceLeDiff, Nat.reduceMul, Nat.reduceBEq, Int.reduceBEq, Int.reduceBNe, Int.reduceLT, Int.reduceLE, Int.reduceGT, Int.reduceGE, Int.reduceToNat, Int.natCast_one, Int.natCast_zero, Int.cast_ofNat_Int]
    rw [← hK]
    simp only [w_kIt_e]
    rw [List.drop_of_length_le (by omega)] at hinv
    exact hex hinv _ _ _

def parsOk (l : List (List Int)) : Bool := !(decide (l.length > 16) || decide (l = [[-1]])) && !l.any parBad
set_option maxHeartbeats 1000000 in
theorem fs_listed {Gl : Gh → Prop} (hst : Stays Gl) {l : List (List Int)} (ha : l.length < 4611686018427387904) (hb : ∀ p ∈ l, p.length < 4611686018427387904) : FS Tryd.prog Gl 41 [parsV l] [] [] (.bool (parsOk l)) [] [] := by
  refine FS.of hm hst is_wirelisted (by simp) fun γ hγ hfr => ?_
  (generalize hQ : (fun (ex : Ex) (_ _ : Nat) (s : St) => _) = Q; unfold ir_wirelisted)
  simp only [parsV]
  have i1 : decide ((l.length : Int) > 16) = decide (l.length > 16) := by rw [decide_eq_decide]; omega
  have i2 : ((l.length : Int) == 1) = decide (l.length = 1) := by rw [Bool.eq_iff_iff]; simp; omega
  have loop : ∀ c F T, lfOK [] F [(21, .sl none 1 (parsAV l)), (22, .int .i64 l.length), (23, .int .i64 0)] → decide (l.length > 16) = false → decide (l = [[-1]]) = false →
      kLoop Tryd.prog Gl ir_wirelisted_l0 γ c ⟨F, [], T⟩ (kBlk 0 (kSeq Tryd.prog Gl (.seq (.reg [⟨some 2, none, .mov (.c (.bool true))⟩] (some [2])) .ret) Q)) := fun c F T hF h16 h1 => by
    refine lp_listed hst ha hb hF (fun h γ c F hF => ?_) (fun h γ c F => ?_)
    · simp +contextual (maxSteps := 1000000) only [go_sem, reduceCtorEq, ↓reduceIte, Nat.reduceAdd, Nat.reduceEqDiff, Nat.reduceLeDiff, Nat.reduceMul, Nat.reduceBEq, Int.reduceBEq, Int.reduceBNe, Int.reduceLT, Int.reduceLE, Int.reduceGT, Int.reduceGE, Int.reduceToNat, Int.natCast_one, Int.natCast_zero, Int.cast_ofNat_Int]
      rw [← hQ, parsOk, h16, h1, h]
      exact ⟨trivial, Ret.flat (by simp [resOf, getAll, IRes.get, hF]) rfl⟩
    · simp +contextual (maxSteps := 1000000) only [go_sem, reduceCtorEq, ↓reduceIte, Nat.reduceAdd, Nat.reduceEqDiff, Nat.reduceLeDiff, Nat.reduceMul, Nat.reduceBEq, Int.reduceBEq, Int.reduceBNe, Int.reduceLT, Int.reduceLE, Int.reduceGT, Int.reduceGE, Int.reduceToNat, Int.natCast_one, Int.natCast_zero, Int.cast_ofNat_Int]
      rw [← hQ, parsOk, h16, h1, h]
      exact ⟨trivial, Ret.flat rfl rfl⟩
  cases h16 : decide (l.length > 16) with
  | true =>
    simp +contextual (maxSteps := 1000000) only [parsAV_length, i1, h16, go_sem, reduceCtorEq, ↓reduceIte, Nat.reduceAdd, Nat.reduceEqDiff, Nat.reduceLeDiff, Nat.reduceMul, Nat.reduceBEq, Int.reduceBEq, Int.reduceBNe, Int.reduceLT, Int.reduceLE, Int.reduceGT, Int.reduceGE, Int.reduceToNat, Int.natCast_one, Int.natCast_zero, Int.cast_ofNat_Int]
    rw [← hQ, parsOk, h16]
    exact ⟨trivial, Ret.flat rfl rfl⟩
  | false =>
    cases h1 : decide (l.length = 1) with
    | false =>
      simp +contextual (maxSteps := 1000000) only [parsAV_length, i1, h16, i2, h1, go_sem, reduceCtorEq, ↓reduceIte, Nat.reduceAdd, Nat.reduceEqDiff, Nat.reduceLeDiff, Nat.reduceMul, Nat.reduceBEq, Int.reduceBEq, Int.reduceBNe, Int.reduceLT, Int.reduceLE, Int.reduceGT, Int.reduceGE, Int.reduceToNat, Int.natCast_one, Int.natCast_zero, Int.cast_ofNat_Int]
      refine loop _ _ _ ?_ h16 ?_
      · (simp only [lfOK, upd, initF]; repeat' first | exact AVle.refl _ _ | exact trivial | refine And.intro ?_ ?_ | exact AVle.int (by simp only [IntKind.wrap_i64]; omega))
      · simp only [decide_eq_false_iff_not] at h1 ⊢
        intro e; subst e; exact h1 rfl
    | true =>
      obtain ⟨p, rfl⟩ : ∃ p, l = [p] := by
        match l, h1 with
        | [p], _ => exact ⟨p, rfl⟩
        | [], h => simp at h
        | _ :: _ :: _, h => simp at h
      have hp := hb p (by simp)
      have g1 : (parsAV [p]).getD 0 [] = [intsV p] := rfl
      simp +contextual (maxSteps := 1000000) only [parsAV_length, g1, go_sem, reduceCtorEq, ↓reduceIte, Nat.reduceAdd, Nat.reduceEqDiff, Nat.reduceLeDiff, Nat.reduceMul, Nat.reduceBEq, Int.reduceBEq, Int.reduceBNe, Int.reduceLT, Int.reduceLE, Int.reduceGT, Int.reduceGE, Int.reduceToNat, Int.natCast_one, Int.natCast_zero, Int.cast_ofNat_Int]
      have hfs : FS Tryd.prog Gl 53 [intsV p, .sl (some (γ, 12, 0)) 1 [[.int .i64 (-1)]]] [] [] (.bool (decide (p = [-1]))) [] [] := fs_EqualInts (ta := none) (b := [-1]) hst hp (by simp)
      refine CallP.pure hfs (fun _ => rfl) ?_
      cases h2 : decide (p = [-1]) with
      | true =>
        have hp1 : decide ([p] = [[-1]]) = true := by simpa using h2
        simp +contextual (maxSteps := 1000000) only [go_sem, reduceCtorEq, ↓reduceIte, Nat.reduceAdd, Nat.reduceEqDiff, Nat.reduceLeDiff, Nat.reduceMul, Nat.reduceBEq, Int.reduceBEq, Int.reduceBNe, Int.reduceLT, Int.reduceLE, Int.reduceGT, Int.reduceGE, Int.reduceToNat, Int.natCast_one, Int.natCast_zero, Int.cast_ofNat_Int]
        rw [← hQ, parsOk, h16, hp1]
        exact ⟨trivial, Ret.flat rfl rfl⟩
      | false =>
        have hp1 : decide ([p] = [[-1]]) = false := by simpa using h2
        simp +contextual (maxSteps := 1000000) only [go_sem, reduceCtorEq, ↓reduceIte, Nat.reduceAdd, Nat.reduceEqDiff, Nat.reduceLeDiff, Nat.reduceMul, Nat.reduceBEq, Int.reduceBEq, Int.reduceBNe, Int.reduceLT, Int.reduceLE, Int.reduceGT, Int.reduceGE, Int.reduceToNat, Int.natCast_one, Int.natCast_zero, Int.cast_ofNat_Int]
        refine loop _ _ _ ?_ h16 hp1
        (simp only [lfOK, upd, initF]; repeat' first | exact AVle.refl _ _ | exact trivial | refine And.intro ?_ ?_ | exact AVle.int (by simp only [IntKind.wrap_i64]; omega))
end Go.Proofs.YtgdgfefojfgpaaaDoor
