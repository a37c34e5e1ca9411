/- Lists of numbers held against each other, walked. -/
import Derived.Test.YtgdgfefojfgpaaaDoorA1
set_option linter.unusedVariables false
set_option linter.unusedSimpArgs false
set_option maxRecDepth 100000
namespace Go.Proofs.YtgdgfefojfgpaaaDoor
open Go Go.Ab
/-- clavier/clavierref02.Ints -/
def ir_clavierref02Ints : ICode :=
 (.seq
  (.reg [⟨some 4, none, .mov (.c (.bool false))⟩] (some [0, 1]))
  (.seq
   (.seq
    (.reg [⟨some 6, none, .mov (.t 0)⟩,
      ⟨some 7, none, .len (.t 6)⟩,
      ⟨some 8, none, .mov (.t 1)⟩,
      ⟨some 9, none, .len (.t 8)⟩,
      ⟨some 10, none, .bin .neq .none (.t 7) (.t 9)⟩] (some [0, 1, 10]))
    (.cond (.t 10)
     (.seq
      (.reg [⟨some 4, none, .mov (.c (.bool false))⟩] (some [4]))
      .ret)
     .skip))
   (.seq
    (.seq
     (.reg [⟨some 5, none, .mov (.c (.int .i64 0))⟩] (some [0, 1, 5]))
     (.blk 0
      (.loop
       (.seq
        (.seq
         (.reg [⟨some 11, none, .mov (.t 5)⟩,
           ⟨some 12, none, .mov (.t 0)⟩,
           ⟨some 13, none, .len (.t 12)⟩,
           ⟨some 14, none, .bin .lss .none (.t 11) (.t 13)⟩] (some [0, 1, 5, 14]))
         (.cond (.t 14)
          .skip
          (.exit 0)))
        (.seq
         (.blk 1
          (.seq
           (.drw [⟨⟨some 17, none, .mov (.t 0)⟩, []⟩,
             ⟨⟨some 18, none, .mov (.t 5)⟩, []⟩,
             ⟨⟨some 19, none, .ia 1 (.t 17) (.t 18)⟩, [0, 1]⟩,
             ⟨⟨some 20, none, .ld none (.t 19)⟩, [2]⟩,
             ⟨⟨some 21, none, .mov (.t 1)⟩, []⟩,
             ⟨⟨some 22, none, .mov (.t 5)⟩, []⟩,
             ⟨⟨some 23, none, .ia 1 (.t 21) (.t 22)⟩, [4, 5]⟩,
             ⟨⟨some 24, none, .ld none (.t 23)⟩, [6]⟩,
             ⟨⟨some 25, none, .bin .neq .none (.t 20) (.t 24)⟩, [3, 7]⟩]
             [] (some [0, 1, 5, 25]))
           (.cond (.t 25)
            (.seq
             (.reg [⟨some 4, none, .mov (.c (.bool false))⟩] (some [4]))
             .ret)
            .skip)))
         (.reg [⟨some 15, none, .mov (.t 5)⟩,
           ⟨some 16, none, .bin .add .none (.t 15) (.c (.int .i64 1))⟩,
           ⟨some 5, none, .mov (.t 16)⟩] (some [0, 1, 5])))))))
    (.seq
     (.reg [⟨some 4, none, .mov (.c (.bool true))⟩] (some [4]))
     .ret))))
theorem is_clavierref02Ints : IrOf Tryd.prog 21 26 ir_clavierref02Ints [.t 4] := ⟨_, Tryd.func21, rfl, by kernel_rfl, by kernel_rfl, by kernel_rfl⟩


theorem fs_Ints {Gl : Gh → Prop} (hst : Stays Gl) {a b : List Int} {ta tb : Option Nm} (ha : a.length < 4611686018427387904) (hb : b.length < 4611686018427387904) : FS Tryd.prog Gl 21 [.sl ta 1 (intsAV a), .sl tb 1 (intsAV b)] [] [] (.bool (decide (a = b))) [] [] := by
  refine FS.of hm hst is_clavierref02Ints (by simp) fun γ hγ hfr => ?_
  generalize hQ : (fun (ex : Ex) (_ _ : Nat) (s : St) => _) = Q
  unfold ir_clavierref02Ints
  simp +contextual (maxSteps := 1000000) only [intsAV_length, go_sem, reduceCtorEq, ↓reduceIte, Nat.reduceAdd, Nat.reduceEqDiff, Nat.reduceLeDiff, Nat.reduceMul, Nat.reduceBEq, Int.reduceBEq, Int.reduceBNe, Int.reduceLT, Int.reduceLE, Int.reduceGT, Int.reduceGE, Int.reduceToNat, Int.natCast_one, Int.natCast_zero, Int.cast_ofNat_Int]
  refine kCond_split (fun h => ?_) (fun h => ?_)
  · simp +contextual (maxSteps := 1000000) only [go_sem, reduceCtorEq, ↓reduceIte, Nat.reduceAdd, Nat.reduceEqDiff, Nat.reduceLeDiff, Nat.reduceMul, Nat.reduceBEq, Int.reduceBEq, Int.reduceBNe, Int.reduceLT, Int.reduceLE, Int.reduceGT, Int.reduceGE, Int.reduceToNat, Int.natCast_one, Int.natCast_zero, Int.cast_ofNat_Int]
    rw [← hQ]
    have : decide (a = b) = false := by
      simp only [bne_iff_ne, ne_eq] at h
      rw [decide_eq_false_iff_not]; intro e; subst e; simp at h
    rw [this]
    exact ⟨trivial, Ret.flat rfl rfl⟩
  · have hl : a.length = b.length := by simp at h; omega
    simp +contextual (maxSteps := 1000000) only [intsAV_length, go_sem, reduceCtorEq, ↓reduceIte, Nat.reduceAdd, Nat.reduceEqDiff, Nat.reduceLeDiff, Nat.reduceMul, Nat.reduceBEq, Int.reduceBEq, Int.reduceBNe, Int.reduceLT, Int.reduceLE, Int.reduceGT, Int.reduceGE, Int.reduceToNat, Int.natCast_one, Int.natCast_zero, Int.cast_ofNat_Int]
    refine kLoop_ix (fun i : Nat => ⟨lf [(0, .sl ta 1 (intsAV a)), (1, .sl tb 1 (intsAV b)), (5, .int .i64 i)], [], fun x => x ∈ []⟩) (fun i => i ≤ a.length ∧ a.take i = b.take i) (fun i => a.length - i) 0 0 (Wk.same ?_) ?_ ?_
    · simp only [lfOK, upd, initF]
      repeat' first | exact AVle.refl _ _ | exact trivial | refine And.intro ?_ ?_
    · simp
    · rintro γ' i hf ⟨hi, hinv⟩
      generalize hQ' : kIt _ _ _ _ _ = Q'
      by_cases hlt : i < a.length
      · have hd : decide ((i : Int) < (a.length : Int)) = true := by simp; omega
        have g1 : (intsAV a).getD (i : Int).toNat [] = [.int .i64 a[i]] := by rw [Int.toNat_natCast]; exact intsAV_get hlt
        have g2 : (intsAV b).getD (i : Int).toNat [] = [.int .i64 (b[i]'(by omega))] := by rw [Int.toNat_natCast]; exact intsAV_get (by omega)
        simp +contextual (maxSteps := 1000000) only [intsAV_length, hd, g1, g2, go_sem, reduceCtorEq, ↓reduceIte, Nat.reduceAdd, Nat.reduceEqDiff, Nat.reduceLeDiff, Nat.reduceMul, Nat.reduceBEq, Int.reduceBEq, Int.reduceBNe, Int.reduceLT, Int.reduceLE, Int.reduceGT, Int.reduceGE, Int.reduceToNat, Int.natCast_one, Int.natCast_zero, Int.cast_ofNat_Int]
        refine ⟨by omega, by omega, kCond_split (fun h1 => ?_) (fun h1 => ?_)⟩
        · simp +contextual (maxSteps := 1000000) only [go_sem, reduceCtorEq, ↓reduceIte, Nat.reduceAdd, Nat.reduceEqDiff, Nat.reduceLeDiff, Nat.reduceMul, Nat.reduceBEq, Int.reduceBEq, Int.reduceBNe, Int.reduceLT, Int.reduceLE, Int.reduceGT, Int.reduceGE, Int.reduceToNat, Int.natCast_one, Int.natCast_zero, Int.cast_ofNat_Int]
          rw [← hQ']
          simp only [w_kIt_r, w_kBlk_r, w_kSeq_r]
          have e : decide (a = b) = false := by
            simp only [bne_iff_ne, ne_eq] at h1
            rw [decide_eq_false_iff_not]; intro e; subst e; exact h1 rfl
          rw [← hQ, e]
          exact ⟨trivial, Ret.flat rfl rfl⟩
        · simp +contextual (maxSteps := 1000000) only [go_sem, reduceCtorEq, ↓reduceIte, Nat.reduceAdd, Nat.reduceEqDiff, Nat.reduceLeDiff, Nat.reduceMul, Nat.reduceBEq, Int.reduceBEq, Int.reduceBNe, Int.reduceLT, Int.reduceLE, Int.reduceGT, Int.reduceGE, Int.reduceToNat, Int.natCast_one, Int.natCast_zero, Int.cast_ofNat_Int]
          rw [← hQ']
          simp only [w_kIt_n]
          refine ⟨0, i + 1, Wk.same ?_, ⟨by omega, ?_⟩, by omega⟩
          · repeat' first | exact AVle.refl _ _ | exact trivial | refine And.intro ?_ ?_ | exact AVle.int (by simp only [IntKind.wrap_i64]; omega)
          · have h2 : a[i] = b[i]'(by omega) := by simpa using h1
            rw [List.take_add_one, List.take_add_one, hinv, List.getElem?_eq_getElem hlt, List.getElem?_eq_getElem (show i < b.length by omega), h2]
      · have hd : decide ((i : Int) < (a.length : Int)) = false := by simp; omega
        simp +contextual (maxSteps := 1000000) only [intsAV_length, hd, go_sem, reduceCtorEq, ↓reduceIte, Nat.reduceAdd, Nat.reduceEqDiff, Nat.reduceLeDiff, Nat.reduceMul, Nat.reduceBEq, Int.reduceBEq, Int.reduceBNe, Int.reduceLT, Int.reduceLE, Int.reduceGT, Int.reduceGE, Int.reduceToNat, Int.natCast_one, Int.natCast_zero, Int.cast_ofNat_Int]
        rw [← hQ']
        simp only [w_kIt_e, w_kBlk_e, ↓reduceIte]
        simp +contextual (maxSteps := 1000000) only [go_sem, reduceCtorEq, ↓reduceIte, Nat.reduceAdd, Nat.reduceEqDiff, Nat.reduceLeDiff, Nat.reduceMul, Nat.reduceBEq, Int.reduceBEq, Int.reduceBNe, Int.reduceLT, Int.reduceLE, Int.reduceGT, Int.reduceGE, Int.reduceToNat, Int.natCast_one, Int.natCast_zero, Int.cast_ofNat_Int]
        have e : decide (a = b) = true := by
          rw [decide_eq_true_eq]
          have h1 : i = a.length := by omega
          have h2 : i = b.length := by omega
          have h3 := hinv
          rw [List.take_of_length_le (by omega), List.take_of_length_le (by omega)] at h3
          exact h3
        rw [← hQ, e]
        exact ⟨trivial, Ret.flat rfl rfl⟩
end Go.Proofs.YtgdgfefojfgpaaaDoor
