/- Part 3 of 3 of a proof: the given statement WireNums, whatever the input that its row lets in. Conditions: those of the given row and card alone. -/
import Derived.Test.YtfnngjnfajnpaaaDoorPWireNums2
import Derived.Test.YtfnngjnfajnpaaaDoorPWireNumsAb13
import Derived.WalkKit
import Derived.ProofKit
import Derived.SizedLaws
import Derived.Test.YtfnngjnfajnpaaaDoorRows
import Derived.LaidSub
import Derived.Lib.LaidTab
import Derived.Lib.ItoaNum
import Derived.MakeChecks
import Derived.Test.YtfnngjnfajnpaaaDoorCards
import Derived.Test.YtfnngjnfajnpaaaDoorTie
import Derived.Deep.DeepHandedRow
import Derived.JoinedCond
import Derived.OpenShut
import Derived.ShutString
import Derived.ChangeOld
import Derived.Below
import Derived.Lay
import Derived.LaidOnce
import Derived.SevenTiedAt
set_option linter.unusedVariables false
set_option linter.unusedSimpArgs false
set_option maxRecDepth 100000
namespace Go.Proofs.YtfnngjnfajnpaaaDoor
open Go Go.Ab
def ir_wireArg : ICode :=
 (.seq
 (.reg [⟨some 3, none, .box 24 (.t 0)⟩,
 ⟨some 6, none, .mov (.c (.int .i64 0))⟩] (some [1, 2, 3]))
 (.seq
 (.seq
 (.reg [⟨some 7, none, .mov (.t 1)⟩,
 ⟨some 8, none, .bin .lss .none (.t 7) (.c (.int .i64 0))⟩,
 ⟨some 9, none, .mov (.t 8)⟩,
 ⟨some 10, some (9, false), .mov (.t 1)⟩,
 ⟨some 11, some (9, false), .fa 2 (.t 3)⟩,
 ⟨some 12, some (9, false), .ld none (.t 11)⟩,
 ⟨some 13, some (9, false), .len (.t 12)⟩,
 ⟨some 14, some (9, false), .bin .geq .none (.t 10) (.t 13)⟩,
 ⟨some 15, none, .pick (.t 9) (.c (.bool true)) (.t 14)⟩,
 ⟨some 16, none, .mov (.t 15)⟩,
 ⟨some 17, some (16, false), .fa 2 (.t 3)⟩,
 ⟨some 18, some (16, false), .ld none (.t 17)⟩,
 ⟨some 19, some (16, false), .mov (.t 1)⟩,
 ⟨some 20, some (16, false), .ia 1 (.t 18) (.t 19)⟩,
 ⟨some 21, some (16, false), .ld none (.t 20)⟩,
 ⟨some 22, some (16, false), .len (.t 21)⟩,
 ⟨some 23, some (16, false), .bin .eql .none (.t 22) (.c (.int .i64 0))⟩,
 ⟨some 24, none, .pick (.t 16) (.c (.bool true)) (.t 23)⟩,
 ⟨some 25, none, .mov (.t 24)⟩,
 ⟨some 26, some (25, false), .fa 2 (.t 3)⟩,
 ⟨some 27, some (25, false), .ld none (.t 26)⟩,
 ⟨some 28, some (25, false), .mov (.t 1)⟩,
 ⟨some 29, some (25, false), .ia 1 (.t 27) (.t 28)⟩,
 ⟨some 30, some (25, false), .ld none (.t 29)⟩,
 ⟨some 31, some (25, false), .ia 1 (.t 30) (.c (.int .i64 0))⟩,
 ⟨some 32, some (25, false), .ld none (.t 31)⟩,
 ⟨some 33, some (25, false), .bin .lss .none (.t 32) (.c (.int .i64 0))⟩,
 ⟨some 34, none, .pick (.t 25) (.c (.bool true)) (.t 33)⟩] (some [1, 2, 3, 34]))
 (.cond (.t 34)
 (.seq
 (.reg [⟨some 35, none, .mov (.t 2)⟩,
 ⟨some 6, none, .mov (.t 35)⟩] (some [6]))
 .ret)
 .skip))
 (.seq
 (.reg [⟨some 36, none, .fa 2 (.t 3)⟩,
 ⟨some 37, none, .ld none (.t 36)⟩,
 ⟨some 38, none, .mov (.t 1)⟩,
 ⟨some 39, none, .ia 1 (.t 37) (.t 38)⟩,
 ⟨some 40, none, .ld none (.t 39)⟩,
 ⟨some 41, none, .ia 1 (.t 40) (.c (.int .i64 0))⟩,
 ⟨some 42, none, .ld none (.t 41)⟩,
 ⟨some 6, none, .mov (.t 42)⟩] (some [6]))
 .ret)))
theorem is_wireArg : IrOf Tryd.prog 22 43 ir_wireArg [.t 6] := ⟨_, Tryd.func22, rfl, by kernel_rfl, by kernel_rfl, by kernel_rfl⟩

theorem dcs_of_len {b : List UInt8} (h : (readW b).2 ≤ b.length) : dcsOk b := by
  intro h1 h2
  unfold readW at h
  rw [if_neg (not_not_intro h1)] at h
  simp only at h
  rw [h2] at h
  rw [if_neg (by decide), if_neg (by decide), if_pos rfl] at h
  simp only at h
  omega
theorem fi_may {s : Sq} (h : mayP s = 0) : s.fi < 128 := by
  have h1 := (mayF h).sh
  unfold shapedP at h1
  repeat' split at h1
  all_goals simp only [Bool.and_eq_true, decide_eq_true_eq, beq_iff_eq, Bool.false_eq_true] at h1
  all_goals omega
theorem take_may {s : Sq} (h : mayP s = 0) (more : List UInt8) : dcsOk (putB s ++ more) ∧ (readW (putB s ++ more)).1.fi < 128 ∧ takeV (putB s ++ more) = .tup [.agg s.c, .int .i64 (putB s).length, .int .i64 0] := by
  have h1 := readW_put h more
  refine ⟨dcs_of_len (by rw [h1]; simp), by rw [h1]; exact fi_may h, ?_⟩
  unfold takeV
  rw [takeW_put h]
def argW (ps : List (List Int)) (i : Nat) (o : Int) : Int := match ps[i]? with
  | some (x :: _) => if x < 0 then o else x
  | _ => o
theorem fs_wArg {Gl : Gh → Prop} (hst : Stays Gl) {k pr fi o : Int} {ps : List (List Int)} {it da : List UInt8} {i : Nat} : FS Tryd.prog Gl 22 [.agg [.int .i64 k, .int .u8 pr, .sl none 1 (parsAV ps), .str it, .int .u8 fi, .str da], .int .i64 (i : Int), .int .i64 o] [] [] (.int .i64 (argW ps i o)) [] [] := by
  refine FS.of hm hst is_wireArg (by simp) fun γ hγ hfr => ?_
  (generalize hQ : (fun (ex : Ex) (_ _ : Nat) (s : St) => _) = Q; unfold ir_wireArg)
  have h0 : decide ((i : Int) < 0) = false := by simp
  by_cases hlt : i < ps.length
  · have h1 : decide ((i : Int) ≥ (ps.length : Int)) = false := by simp; omega
    have hg : (parsAV ps).getD i [] = [intsV ps[i]] := by
      rw [List.getD_eq_getElem?_getD]; simp [parsAV, hlt]
    have hi : intsV ps[i] = .sl none 1 (intsAV ps[i]) := rfl
    cases hp : ps[i] with
    | nil =>
      rw [hi, hp] at hg
      have ha : argW ps i o = o := by unfold argW; rw [List.getElem?_eq_getElem hlt, hp]
      have hl : (((intsAV ([] : List Int)).length : Int) == 0) = true := rfl
      simp +contextual (maxSteps := 1000000) only [h0, h1, hg, hl, parsAV_length, Int.toNat_natCast, go_sem, reduceCtorEq, ↓reduceIte, Nat.reduceAdd, Nat.reduceEqDiff, Nat.reduceLeDiff, Nat.reduceMul, Nat.reduceBEq, Int.reduceBEq, Int.reduceBNe, Int.reduceLT, Int.reduceLE, Int.reduceGT, Int.reduceGE, Int.reduceToNat]
      refine ⟨by omega, ?_⟩
      rw [← hQ, ha]
      exact ⟨trivial, Ret.flat rfl rfl⟩
    | cons x l =>
      rw [hi, hp] at hg
      have hg0 : (intsAV (x :: l)).getD 0 [] = [.int .i64 x] := rfl
      have hl : (((intsAV (x :: l)).length : Int) == 0) = false := by simp [intsAV]; omega
      have hl0 : (0 : Int) < ((intsAV (x :: l)).length : Int) := by rw [intsAV_length, List.length_cons]; omega
      by_cases hx : x < 0
      · have hd : decide (x < 0) = true := decide_eq_true hx
        have ha : argW ps i o = o := by unfold argW; rw [List.getElem?_eq_getElem hlt, hp]; exact if_pos hx
        simp +contextual (maxSteps := 1000000) only [h0, h1, hg, hg0, hl, hd, parsAV_length, Int.toNat_natCast, Int.toNat_zero, go_sem, reduceCtorEq, ↓reduceIte, Nat.reduceAdd, Nat.reduceEqDiff, Nat.reduceLeDiff, Nat.reduceMul, Nat.reduceBEq, Int.reduceBEq, Int.reduceBNe, Int.reduceLT, Int.reduceLE, Int.reduceGT, Int.reduceGE, Int.reduceToNat]
        refine ⟨⟨by omega, by omega⟩, ⟨by omega, by omega⟩, hl0, ?_⟩
        rw [← hQ, ha]
        exact ⟨trivial, Ret.flat rfl rfl⟩
      · have hd : decide (x < 0) = false := decide_eq_false hx
        have ha : argW ps i o = x := by unfold argW; rw [List.getElem?_eq_getElem hlt, hp]; exact if_neg hx
        simp +contextual (maxSteps := 1000000) only [h0, h1, hg, hg0, hl, hd, parsAV_length, Int.toNat_natCast, Int.toNat_zero, go_sem, reduceCtorEq, ↓reduceIte, Nat.reduceAdd, Nat.reduceEqDiff, Nat.reduceLeDiff, Nat.reduceMul, Nat.reduceBEq, Int.reduceBEq, Int.reduceBNe, Int.reduceLT, Int.reduceLE, Int.reduceGT, Int.reduceGE, Int.reduceToNat]
        refine ⟨⟨by omega, by omega⟩, ⟨by omega, by omega⟩, hl0, ⟨by omega, by omega⟩, hl0, ?_⟩
        rw [← hQ, ha]
        exact ⟨trivial, Ret.flat rfl rfl⟩
  · have h1 : decide ((i : Int) ≥ (ps.length : Int)) = true := by simp; omega
    have ha : argW ps i o = o := by unfold argW; rw [List.getElem?_eq_none (by omega)]
    simp +contextual (maxSteps := 1000000) only [h0, h1, parsAV_length, go_sem, reduceCtorEq, ↓reduceIte, Nat.reduceAdd, Nat.reduceEqDiff, Nat.reduceLeDiff, Nat.reduceMul, Nat.reduceBEq, Int.reduceBEq, Int.reduceBNe, Int.reduceLT, Int.reduceLE, Int.reduceGT, Int.reduceGE, Int.reduceToNat]
    rw [← hQ, ha]
    exact ⟨trivial, Ret.flat rfl rfl⟩
end Go.Proofs.YtfnngjnfajnpaaaDoor

namespace Go.Proofs.YtfnngjnfajnpaaaDoor
open Go Go.Ab
def ir_clavierref02Ints : ICode :=
 (.seq
 (.reg [⟨some 4, none, .mov (.c (.bool false))⟩] (some [0, 1]))
 (.seq
 (.seq
 (.reg [⟨some 6, none, .mov (.t 0)⟩,
 ⟨some 7, none, .len (.t 6)⟩,
 ⟨some 8, none, .mov (.t 1)⟩,
 ⟨some 9, none, .len (.t 8)⟩,
 ⟨some 10, none, .bin .neq .none (.t 7) (.t 9)⟩] (some [0, 1, 10]))
 (.cond (.t 10)
 (.seq
 (.reg [⟨some 4, none, .mov (.c (.bool false))⟩] (some [4]))
 .ret)
 .skip))
 (.seq
 (.seq
 (.reg [⟨some 5, none, .mov (.c (.int .i64 0))⟩] (some [0, 1, 5]))
 (.blk 0
 (.loop
 (.seq
 (.seq
 (.reg [⟨some 11, none, .mov (.t 5)⟩,
 ⟨some 12, none, .mov (.t 0)⟩,
 ⟨some 13, none, .len (.t 12)⟩,
 ⟨some 14, none, .bin .lss .none (.t 11) (.t 13)⟩] (some [0, 1, 5, 14]))
 (.cond (.t 14)
 .skip
 (.exit 0)))
 (.seq
 (.blk 1
 (.seq
 (.drw [⟨⟨some 17, none, .mov (.t 0)⟩, []⟩,
 ⟨⟨some 18, none, .mov (.t 5)⟩, []⟩,
 ⟨⟨some 19, none, .ia 1 (.t 17) (.t 18)⟩, [0, 1]⟩,
 ⟨⟨some 20, none, .ld none (.t 19)⟩, [2]⟩,
 ⟨⟨some 21, none, .mov (.t 1)⟩, []⟩,
 ⟨⟨some 22, none, .mov (.t 5)⟩, []⟩,
 ⟨⟨some 23, none, .ia 1 (.t 21) (.t 22)⟩, [4, 5]⟩,
 ⟨⟨some 24, none, .ld none (.t 23)⟩, [6]⟩,
 ⟨⟨some 25, none, .bin .neq .none (.t 20) (.t 24)⟩, [3, 7]⟩]
 [] (some [0, 1, 5, 25]))
 (.cond (.t 25)
 (.seq
 (.reg [⟨some 4, none, .mov (.c (.bool false))⟩] (some [4]))
 .ret)
 .skip)))
 (.reg [⟨some 15, none, .mov (.t 5)⟩,
 ⟨some 16, none, .bin .add .none (.t 15) (.c (.int .i64 1))⟩,
 ⟨some 5, none, .mov (.t 16)⟩] (some [0, 1, 5])))))))
 (.seq
 (.reg [⟨some 4, none, .mov (.c (.bool true))⟩] (some [4]))
 .ret))))
theorem is_clavierref02Ints : IrOf Tryd.prog 42 26 ir_clavierref02Ints [.t 4] := ⟨_, Tryd.func42, rfl, by kernel_rfl, by kernel_rfl, by kernel_rfl⟩

theorem fs_Ints {Gl : Gh → Prop} (hst : Stays Gl) {a b : List Int} {ta tb : Option Nm} (ha : a.length < 9223372036854775808) (hb : b.length < 9223372036854775808) : FS Tryd.prog Gl 42 [.sl ta 1 (intsAV a), .sl tb 1 (intsAV b)] [] [] (.bool (decide (a = b))) [] [] := by
  refine FS.of hm hst is_clavierref02Ints (by simp) fun γ hγ hfr => ?_
  generalize hQ : (fun (ex : Ex) (_ _ : Nat) (s : St) => _) = Q
  unfold ir_clavierref02Ints
  simp +contextual (maxSteps := 1000000) only [intsAV_length, go_sem, reduceCtorEq, ↓reduceIte, Nat.reduceAdd, Nat.reduceEqDiff, Nat.reduceLeDiff, Nat.reduceMul, Nat.reduceBEq, Int.reduceBEq, Int.reduceBNe, Int.reduceLT, Int.reduceLE, Int.reduceGT, Int.reduceGE, Int.reduceToNat]
  refine kCond_split (fun h => ?_) (fun h => ?_)
  · simp +contextual (maxSteps := 1000000) only [go_sem, reduceCtorEq, ↓reduceIte, Nat.reduceAdd, Nat.reduceEqDiff, Nat.reduceLeDiff, Nat.reduceMul, Nat.reduceBEq, Int.reduceBEq, Int.reduceBNe, Int.reduceLT, Int.reduceLE, Int.reduceGT, Int.reduceGE, Int.reduceToNat]
    rw [← hQ]
    have : decide (a = b) = false := by
      simp only [bne_iff_ne, ne_eq] at h
      rw [decide_eq_false_iff_not]; intro e; subst e; simp at h
    rw [this]
    exact ⟨trivial, Ret.flat rfl rfl⟩
  · have hl : a.length = b.length := by simp at h; omega
    simp +contextual (maxSteps := 1000000) only [intsAV_length, go_sem, reduceCtorEq, ↓reduceIte, Nat.reduceAdd, Nat.reduceEqDiff, Nat.reduceLeDiff, Nat.reduceMul, Nat.reduceBEq, Int.reduceBEq, Int.reduceBNe, Int.reduceLT, Int.reduceLE, Int.reduceGT, Int.reduceGE, Int.reduceToNat]
    refine kLoop_ix (fun i : Nat => ⟨lf [(0, .sl ta 1 (intsAV a)), (1, .sl tb 1 (intsAV b)), (5, .int .i64 i)], [], fun x => x ∈ []⟩) (fun i => i ≤ a.length ∧ a.take i = b.take i) (fun i => a.length - i) 0 0 (Wk.same ?_) ?_ ?_
    · simp only [lfOK, upd, initF]
      repeat' first | exact AVle.refl _ _ | exact trivial | refine And.intro ?_ ?_
    · simp
    · rintro γ' i hf ⟨hi, hinv⟩
      generalize hQ' : kIt _ _ _ _ _ = Q'
      by_cases hlt : i < a.length
      · have hd : decide ((i : Int) < (a.length : Int)) = true := by simp; omega
        have g1 : (intsAV a).getD (i : Int).toNat [] = [.int .i64 a[i]] := by rw [Int.toNat_natCast]; exact intsAV_get hlt
        have g2 : (intsAV b).getD (i : Int).toNat [] = [.int .i64 (b[i]'(by omega))] := by rw [Int.toNat_natCast]; exact intsAV_get (by omega)
        simp +contextual (maxSteps := 1000000) only [intsAV_length, hd, g1, g2, go_sem, reduceCtorEq, ↓reduceIte, Nat.reduceAdd, Nat.reduceEqDiff, Nat.reduceLeDiff, Nat.reduceMul, Nat.reduceBEq, Int.reduceBEq, Int.reduceBNe, Int.reduceLT, Int.reduceLE, Int.reduceGT, Int.reduceGE, Int.reduceToNat]
        refine ⟨by omega, by omega, kCond_split (fun h1 => ?_) (fun h1 => ?_)⟩
        · simp +contextual (maxSteps := 1000000) only [go_sem, reduceCtorEq, ↓reduceIte, Nat.reduceAdd, Nat.reduceEqDiff, Nat.reduceLeDiff, Nat.reduceMul, Nat.reduceBEq, Int.reduceBEq, Int.reduceBNe, Int.reduceLT, Int.reduceLE, Int.reduceGT, Int.reduceGE, Int.reduceToNat]
          rw [← hQ']
          simp only [w_kIt_r, w_kBlk_r, w_kSeq_r]
          have e : decide (a = b) = false := by
            simp only [bne_iff_ne, ne_eq] at h1
            rw [decide_eq_false_iff_not]; intro e; subst e; exact h1 rfl
          rw [← hQ, e]
          exact ⟨trivial, Ret.flat rfl rfl⟩
        · simp +contextual (maxSteps := 1000000) only [go_sem, reduceCtorEq, ↓reduceIte, Nat.reduceAdd, Nat.reduceEqDiff, Nat.reduceLeDiff, Nat.reduceMul, Nat.reduceBEq, Int.reduceBEq, Int.reduceBNe, Int.reduceLT, Int.reduceLE, Int.reduceGT, Int.reduceGE, Int.reduceToNat]
          rw [← hQ']
          simp only [w_kIt_n]
          refine ⟨0, i + 1, Wk.same ?_, ⟨by omega, ?_⟩, by omega⟩
          · repeat' first | exact AVle.refl _ _ | exact trivial | refine And.intro ?_ ?_ | exact AVle.int (by simp only [IntKind.wrap_i64]; omega)
          · have h2 : a[i] = b[i]'(by omega) := by simpa using h1
            rw [List.take_add_one, List.take_add_one, hinv, List.getElem?_eq_getElem hlt, List.getElem?_eq_getElem (show i < b.length by omega), h2]
      · have hd : decide ((i : Int) < (a.length : Int)) = false := by simp; omega
        simp +contextual (maxSteps := 1000000) only [intsAV_length, hd, go_sem, reduceCtorEq, ↓reduceIte, Nat.reduceAdd, Nat.reduceEqDiff, Nat.reduceLeDiff, Nat.reduceMul, Nat.reduceBEq, Int.reduceBEq, Int.reduceBNe, Int.reduceLT, Int.reduceLE, Int.reduceGT, Int.reduceGE, Int.reduceToNat]
        rw [← hQ']
        simp only [w_kIt_e, w_kBlk_e, ↓reduceIte]
        simp +contextual (maxSteps := 1000000) only [go_sem, reduceCtorEq, ↓reduceIte, Nat.reduceAdd, Nat.reduceEqDiff, Nat.reduceLeDiff, Nat.reduceMul, Nat.reduceBEq, Int.reduceBEq, Int.reduceBNe, Int.reduceLT, Int.reduceLE, Int.reduceGT, Int.reduceGE, Int.reduceToNat]
        have e : decide (a = b) = true := by
          rw [decide_eq_true_eq]
          have h1 : i = a.length := by omega
          have h2 : i = b.length := by omega
          have h3 := hinv
          rw [List.take_of_length_le (by omega), List.take_of_length_le (by omega)] at h3
          exact h3
        rw [← hQ, e]
        exact ⟨trivial, Ret.flat rfl rfl⟩
end Go.Proofs.YtfnngjnfajnpaaaDoor

namespace Go.Proofs.YtfnngjnfajnpaaaDoor
open Go Go.Ab
/- clavier/clavierref03.Same -/
def ir_clavierref03Same_l0 : ICode :=
 (.seq
 (.seq
 (.reg [⟨some 48, none, .mov (.t 5)⟩,
 ⟨some 49, none, .fa 2 (.t 2)⟩,
 ⟨some 50, none, .ld none (.t 49)⟩,
 ⟨some 51, none, .len (.t 50)⟩,
 ⟨some 52, none, .bin .lss .none (.t 48) (.t 51)⟩] (some [2, 3, 5, 52]))
 (.cond (.t 52)
 .skip
 (.exit 0)))
 (.seq
 (.blk 1
 (.seq
 (.drw [⟨⟨some 55, none, .fa 2 (.t 2)⟩, []⟩,
 ⟨⟨some 56, none, .ld none (.t 55)⟩, [0]⟩,
 ⟨⟨some 57, none, .mov (.t 5)⟩, []⟩,
 ⟨⟨some 58, none, .ia 1 (.t 56) (.t 57)⟩, [1, 2]⟩,
 ⟨⟨some 59, none, .ld none (.t 58)⟩, [3]⟩,
 ⟨⟨some 60, none, .fa 2 (.t 3)⟩, []⟩,
 ⟨⟨some 61, none, .ld none (.t 60)⟩, [5]⟩,
 ⟨⟨some 62, none, .mov (.t 5)⟩, []⟩,
 ⟨⟨some 63, none, .ia 1 (.t 61) (.t 62)⟩, [6, 7]⟩,
 ⟨⟨some 64, none, .ld none (.t 63)⟩, [8]⟩,
 ⟨⟨some 65, none, .call (.c (.fn (.func 42) [] [])) [(.t 59), (.t 64)]⟩, [4, 9]⟩,
 ⟨⟨some 66, none, .un .not (.t 65)⟩, [10]⟩]
 [] (some [2, 3, 5, 66]))
 (.cond (.t 66)
 (.seq
 (.reg [⟨some 4, none, .mov (.c (.bool false))⟩] (some [4]))
 .ret)
 .skip)))
 (.reg [⟨some 53, none, .mov (.t 5)⟩,
 ⟨some 54, none, .bin .add .none (.t 53) (.c (.int .i64 1))⟩,
 ⟨some 5, none, .mov (.t 54)⟩] (some [2, 3, 5]))))
def ir_clavierref03Same_t3 : ICode :=
 (.seq
 (.reg [⟨some 4, none, .mov (.c (.bool true))⟩] (some [4]))
 .ret)
def ir_clavierref03Same_t2 : ICode :=
 (.seq
 (.seq
 (.reg [⟨some 5, none, .mov (.c (.int .i64 0))⟩] (some [2, 3, 5]))
 (.blk 0
 (.loop
 ir_clavierref03Same_l0)))
 ir_clavierref03Same_t3)
def ir_clavierref03Same_t1 : ICode :=
 (.seq
 (.seq
 (.reg [⟨some 6, none, .fa 0 (.t 2)⟩,
 ⟨some 7, none, .ld none (.t 6)⟩,
 ⟨some 8, none, .fa 0 (.t 3)⟩,
 ⟨some 9, none, .ld none (.t 8)⟩,
 ⟨some 10, none, .bin .neq .none (.t 7) (.t 9)⟩,
 ⟨some 11, none, .mov (.t 10)⟩,
 ⟨some 12, some (11, false), .fa 1 (.t 2)⟩,
 ⟨some 13, some (11, false), .ld none (.t 12)⟩,
 ⟨some 14, some (11, false), .fa 1 (.t 3)⟩,
 ⟨some 15, some (11, false), .ld none (.t 14)⟩,
 ⟨some 16, some (11, false), .bin .neq .none (.t 13) (.t 15)⟩,
 ⟨some 17, none, .pick (.t 11) (.c (.bool true)) (.t 16)⟩,
 ⟨some 18, none, .mov (.t 17)⟩,
 ⟨some 19, some (18, false), .fa 3 (.t 2)⟩,
 ⟨some 20, some (18, false), .ld none (.t 19)⟩,
 ⟨some 21, some (18, false), .fa 3 (.t 3)⟩,
 ⟨some 22, some (18, false), .ld none (.t 21)⟩,
 ⟨some 23, some (18, false), .bin .neq .none (.t 20) (.t 22)⟩,
 ⟨some 24, none, .pick (.t 18) (.c (.bool true)) (.t 23)⟩,
 ⟨some 25, none, .mov (.t 24)⟩,
 ⟨some 26, some (25, false), .fa 4 (.t 2)⟩,
 ⟨some 27, some (25, false), .ld none (.t 26)⟩,
 ⟨some 28, some (25, false), .fa 4 (.t 3)⟩,
 ⟨some 29, some (25, false), .ld none (.t 28)⟩,
 ⟨some 30, some (25, false), .bin .neq .none (.t 27) (.t 29)⟩,
 ⟨some 31, none, .pick (.t 25) (.c (.bool true)) (.t 30)⟩,
 ⟨some 32, none, .mov (.t 31)⟩,
 ⟨some 33, some (32, false), .fa 5 (.t 2)⟩,
 ⟨some 34, some (32, false), .ld none (.t 33)⟩,
 ⟨some 35, some (32, false), .fa 5 (.t 3)⟩,
 ⟨some 36, some (32, false), .ld none (.t 35)⟩,
 ⟨some 37, some (32, false), .bin .neq .none (.t 34) (.t 36)⟩,
 ⟨some 38, none, .pick (.t 32) (.c (.bool true)) (.t 37)⟩,
 ⟨some 39, none, .mov (.t 38)⟩,
 ⟨some 40, some (39, false), .fa 2 (.t 2)⟩,
 ⟨some 41, some (39, false), .ld none (.t 40)⟩,
 ⟨some 42, some (39, false), .len (.t 41)⟩,
 ⟨some 43, some (39, false), .fa 2 (.t 3)⟩,
 ⟨some 44, some (39, false), .ld none (.t 43)⟩,
 ⟨some 45, some (39, false), .len (.t 44)⟩,
 ⟨some 46, some (39, false), .bin .neq .none (.t 42) (.t 45)⟩,
 ⟨some 47, none, .pick (.t 39) (.c (.bool true)) (.t 46)⟩] (some [2, 3, 47]))
 (.cond (.t 47)
 (.seq
 (.reg [⟨some 4, none, .mov (.c (.bool false))⟩] (some [4]))
 .ret)
 .skip))
 ir_clavierref03Same_t2)
def ir_clavierref03Same : ICode :=
 (.seq
 (.reg [⟨some 2, none, .box 24 (.t 0)⟩,
 ⟨some 3, none, .box 24 (.t 1)⟩,
 ⟨some 4, none, .mov (.c (.bool false))⟩] (some [2, 3]))
 ir_clavierref03Same_t1)
theorem is_clavierref03Same : IrOf Tryd.prog 20 67 ir_clavierref03Same [.t 4] := ⟨_, Tryd.func20, rfl, by kernel_rfl, by kernel_rfl, by kernel_rfl⟩

theorem fs_Same {Gl : Gh → Prop} (hst : Stays Gl) {a b : Sq} (ha : a.ps.length < 9223372036854775808) (hb : b.ps.length < 9223372036854775808) (ha2 : ∀ p ∈ a.ps, p.length < 9223372036854775808) (hb2 : ∀ p ∈ b.ps, p.length < 9223372036854775808) : FS Tryd.prog Gl 20 [.agg a.c, .agg b.c] [] [] (.bool (decide (a = b))) [] [] := by
  obtain ⟨k, pr, ps, it, fi, da⟩ := a
  obtain ⟨k', pr', ps', it', fi', da'⟩ := b
  simp only at ha hb ha2 hb2
  refine FS.of hm hst is_clavierref03Same (by simp) fun γ hγ hfr => ?_
  simp only [Sq.c, parsV] at hfr ⊢
  have cl : AV.closedL [AV.int .i64 k, .int .u8 pr, .sl none 1 (parsAV ps), .str it, .int .u8 fi, .str da] = true := rfl
  have cl' : AV.closedL [AV.int .i64 k', .int .u8 pr', .sl none 1 (parsAV ps'), .str it', .int .u8 fi', .str da'] = true := rfl
  (generalize hQ : (fun (ex : Ex) (_ _ : Nat) (s : St) => _) = Q; unfold ir_clavierref03Same)
  simp +contextual (maxSteps := 1000000) only [parsAV_length, go_sem, reduceCtorEq, ↓reduceIte, Nat.reduceAdd, Nat.reduceEqDiff, Nat.reduceLeDiff, Nat.reduceMul, Nat.reduceBEq, Int.reduceBEq, Int.reduceBNe, Int.reduceLT, Int.reduceLE, Int.reduceGT, Int.reduceGE, Int.reduceToNat]
  unfold ir_clavierref03Same_t1
  simp +contextual (maxSteps := 1000000) only [parsAV_length, go_sem, reduceCtorEq, ↓reduceIte, Nat.reduceAdd, Nat.reduceEqDiff, Nat.reduceLeDiff, Nat.reduceMul, Nat.reduceBEq, Int.reduceBEq, Int.reduceBNe, Int.reduceLT, Int.reduceLE, Int.reduceGT, Int.reduceGE, Int.reduceToNat]
  refine kCond_split (fun h => ?_) (fun h => ?_)
  · simp +contextual (maxSteps := 1000000) only [go_sem, reduceCtorEq, ↓reduceIte, Nat.reduceAdd, Nat.reduceEqDiff, Nat.reduceLeDiff, Nat.reduceMul, Nat.reduceBEq, Int.reduceBEq, Int.reduceBNe, Int.reduceLT, Int.reduceLE, Int.reduceGT, Int.reduceGE, Int.reduceToNat]
    rw [← hQ]
    have e : decide ((⟨k, pr, ps, it, fi, da⟩ : Sq) = ⟨k', pr', ps', it', fi', da'⟩) = false := by
      rw [decide_eq_false_iff_not]; intro e; injection e with e1 e2 e3 e4 e5 e6; subst e1 e2 e3 e4 e5 e6; simp at h
    rw [e]
    exact ⟨trivial, Ret.flat rfl rfl⟩
  · simp +contextual (maxSteps := 1000000) only [go_sem, reduceCtorEq, ↓reduceIte, Nat.reduceAdd, Nat.reduceEqDiff, Nat.reduceLeDiff, Nat.reduceMul, Nat.reduceBEq, Int.reduceBEq, Int.reduceBNe, Int.reduceLT, Int.reduceLE, Int.reduceGT, Int.reduceGE, Int.reduceToNat]
    unfold ir_clavierref03Same_t2
    simp +contextual (maxSteps := 1000000) only [go_sem, reduceCtorEq, ↓reduceIte, Nat.reduceAdd, Nat.reduceEqDiff, Nat.reduceLeDiff, Nat.reduceMul, Nat.reduceBEq, Int.reduceBEq, Int.reduceBNe, Int.reduceLT, Int.reduceLE, Int.reduceGT, Int.reduceGE, Int.reduceToNat]
    refine kLoop_ix (fun i : Nat => ⟨lf [(2, .ptr (γ, 0, 0) 0), (3, .ptr (γ, 1, 0) 0), (5, .int .i64 i)], [((γ, 1, 0), .cells [.int .i64 k', .int .u8 pr', .sl none 1 (parsAV ps'), .str it', .int .u8 fi', .str da']), ((γ, 0, 0), .cells [.int .i64 k, .int .u8 pr, .sl none 1 (parsAV ps), .str it, .int .u8 fi, .str da])], fun x => x ∈ []⟩) (fun i => i ≤ ps.length ∧ ps.take i = ps'.take i) (fun i => ps.length - i) 0 0 (Wk.same ?_) ?_ ?_
    · (simp only [lfOK, upd, initF]; repeat' first | exact AVle.refl _ _ | exact trivial | refine And.intro ?_ ?_ | exact AVle.int (by simp only [IntKind.wrap_i64]; omega))
    · simp
    · rintro γ' i hf ⟨hi, hinv⟩
      generalize hQ' : kIt _ _ _ _ _ = Q'
      unfold ir_clavierref03Same_l0
      by_cases hlt : i < ps.length
      · have hd : decide ((i : Int) < (ps.length : Int)) = true := by simp; omega
        have hlt' : i < ps'.length := by simp at h; omega
        have g1 : (parsAV ps).getD (i : Int).toNat [] = [intsV ps[i]] := by rw [Int.toNat_natCast]; exact parsAV_get hlt
        have g2 : (parsAV ps').getD (i : Int).toNat [] = [intsV ps'[i]] := by rw [Int.toNat_natCast]; exact parsAV_get hlt'
        simp +contextual (maxSteps := 1000000) only [parsAV_length, hd, g1, g2, go_sem, reduceCtorEq, ↓reduceIte, Nat.reduceAdd, Nat.reduceEqDiff, Nat.reduceLeDiff, Nat.reduceMul, Nat.reduceBEq, Int.reduceBEq, Int.reduceBNe, Int.reduceLT, Int.reduceLE, Int.reduceGT, Int.reduceGE, Int.reduceToNat]
        refine ⟨by omega, by omega, DCall.new (fs_Ints hst (ha2 _ (List.getElem_mem hlt)) (hb2 _ (List.getElem_mem hlt'))) ?_⟩
        simp +contextual (maxSteps := 1000000) only [go_sem, reduceCtorEq, ↓reduceIte, Nat.reduceAdd, Nat.reduceEqDiff, Nat.reduceLeDiff, Nat.reduceMul, Nat.reduceBEq, Int.reduceBEq, Int.reduceBNe, Int.reduceLT, Int.reduceLE, Int.reduceGT, Int.reduceGE, Int.reduceToNat]
        refine kCond_split (fun h1 => ?_) (fun h1 => ?_)
        · simp +contextual (maxSteps := 1000000) only [go_sem, reduceCtorEq, ↓reduceIte, Nat.reduceAdd, Nat.reduceEqDiff, Nat.reduceLeDiff, Nat.reduceMul, Nat.reduceBEq, Int.reduceBEq, Int.reduceBNe, Int.reduceLT, Int.reduceLE, Int.reduceGT, Int.reduceGE, Int.reduceToNat]
          rw [← hQ']
          simp only [w_kIt_r, w_kBlk_r, w_kSeq_r]
          have e : decide ((⟨k, pr, ps, it, fi, da⟩ : Sq) = ⟨k', pr', ps', it', fi', da'⟩) = false := by
            rw [decide_eq_false_iff_not]; intro e; injection e with e1 e2 e3 e4 e5 e6; subst e3; simp at h1
          rw [← hQ, e]
          exact ⟨trivial, Ret.flat rfl rfl⟩
        · simp +contextual (maxSteps := 1000000) only [go_sem, reduceCtorEq, ↓reduceIte, Nat.reduceAdd, Nat.reduceEqDiff, Nat.reduceLeDiff, Nat.reduceMul, Nat.reduceBEq, Int.reduceBEq, Int.reduceBNe, Int.reduceLT, Int.reduceLE, Int.reduceGT, Int.reduceGE, Int.reduceToNat]
          rw [← hQ']
          simp only [w_kIt_n]
          have h2 : ps[i] = ps'[i] := by simpa using h1
          refine ⟨0, i + 1, Wk.same ?_, ⟨by omega, ?_⟩, by omega⟩
          · repeat' first | exact AVle.refl _ _ | exact trivial | refine And.intro ?_ ?_ | exact AVle.int (by simp only [IntKind.wrap_i64]; omega)
          · rw [List.take_add_one, List.take_add_one, hinv, List.getElem?_eq_getElem hlt, List.getElem?_eq_getElem hlt', h2]
      · have hd : decide ((i : Int) < (ps.length : Int)) = false := by simp; omega
        simp +contextual (maxSteps := 1000000) only [parsAV_length, hd, go_sem, reduceCtorEq, ↓reduceIte, Nat.reduceAdd, Nat.reduceEqDiff, Nat.reduceLeDiff, Nat.reduceMul, Nat.reduceBEq, Int.reduceBEq, Int.reduceBNe, Int.reduceLT, Int.reduceLE, Int.reduceGT, Int.reduceGE, Int.reduceToNat]
        rw [← hQ']
        simp only [w_kIt_e, w_kBlk_e, ↓reduceIte]
        unfold ir_clavierref03Same_t3
        simp +contextual (maxSteps := 1000000) only [go_sem, reduceCtorEq, ↓reduceIte, Nat.reduceAdd, Nat.reduceEqDiff, Nat.reduceLeDiff, Nat.reduceMul, Nat.reduceBEq, Int.reduceBEq, Int.reduceBNe, Int.reduceLT, Int.reduceLE, Int.reduceGT, Int.reduceGE, Int.reduceToNat]
        have h4 : ps.length = ps'.length := by simp at h; omega
        have h3 := hinv
        rw [List.take_of_length_le (by omega), List.take_of_length_le (by omega)] at h3
        have e : decide ((⟨k, pr, ps, it, fi, da⟩ : Sq) = ⟨k', pr', ps', it', fi', da'⟩) = true := by
          subst h3; simp at h; simp [h]
        rw [← hQ, e]
        exact ⟨trivial, Ret.flat rfl rfl⟩
end Go.Proofs.YtfnngjnfajnpaaaDoor

namespace Go.Proofs.YtfnngjnfajnpaaaDoor
open Go Go.Ab
def ir_slicesEqualFuncintintintint : ICode :=
 (.seq
 (.reg [⟨some 6, none, .mov (.c (.bool false))⟩] (some [0, 1, 2]))
 (.seq
 (.seq
 (.reg [⟨some 10, none, .mov (.t 0)⟩,
 ⟨some 11, none, .len (.t 10)⟩,
 ⟨some 12, none, .mov (.t 1)⟩,
 ⟨some 13, none, .len (.t 12)⟩,
 ⟨some 14, none, .bin .neq .none (.t 11) (.t 13)⟩] (some [0, 1, 2, 14]))
 (.cond (.t 14)
 (.seq
 (.reg [⟨some 6, none, .mov (.c (.bool false))⟩] (some [6]))
 .ret)
 .skip))
 (.seq
 (.seq
 (.reg [⟨some 15, none, .mov (.t 0)⟩,
 ⟨some 16, none, .len (.t 15)⟩,
 ⟨some 17, none, .mov (.c (.int .i64 0))⟩] (some [1, 2, 15, 16, 17]))
 (.blk 0
 (.loop
 (.seq
 (.reg [⟨some 18, none, .bin .lss .none (.t 17) (.t 16)⟩] (some [1, 2, 15, 16, 17, 18]))
 (.seq
 (.cond (.t 18)
 .skip
 (.exit 0))
 (.seq
 (.blk 1
 (.seq
 (.reg [⟨some 19, none, .mov (.t 17)⟩,
 ⟨some 20, none, .ia 1 (.t 15) (.t 17)⟩,
 ⟨some 21, none, .ld none (.t 20)⟩,
 ⟨some 7, none, .mov (.t 19)⟩,
 ⟨some 8, none, .mov (.t 21)⟩] (some [1, 2, 7, 8, 15, 16, 17]))
 (.seq
 (.reg [⟨some 22, none, .mov (.t 1)⟩,
 ⟨some 23, none, .mov (.t 7)⟩,
 ⟨some 24, none, .ia 1 (.t 22) (.t 23)⟩,
 ⟨some 25, none, .ld none (.t 24)⟩,
 ⟨some 9, none, .mov (.t 25)⟩] (some [1, 2, 8, 9, 15, 16, 17]))
 (.seq
 (.reg [⟨some 26, none, .mov (.t 2)⟩,
 ⟨some 27, none, .mov (.t 8)⟩,
 ⟨some 28, none, .mov (.t 9)⟩,
 ⟨some 29, none, .call (.t 26) [(.t 27), (.t 28)]⟩,
 ⟨some 30, none, .un .not (.t 29)⟩] (some [1, 2, 15, 16, 17, 30]))
 (.cond (.t 30)
 (.seq
 (.reg [⟨some 6, none, .mov (.c (.bool false))⟩] (some [6]))
 .ret)
 .skip)))))
 (.reg [⟨some 31, none, .bin .add .none (.t 17) (.c (.int .i64 1))⟩,
 ⟨some 17, none, .mov (.t 31)⟩] (some [1, 2, 15, 16, 17]))))))))
 (.seq
 (.reg [⟨some 6, none, .mov (.c (.bool true))⟩] (some [6]))
 .ret))))
theorem is_slicesEqualFuncintintintint : IrOf Tryd.prog 40 32 ir_slicesEqualFuncintintintint [.t 6] := ⟨_, Tryd.func40, rfl, by kernel_rfl, by kernel_rfl, by kernel_rfl⟩

def ir_wireSame : ICode :=
 (.seq
 (.reg [⟨some 2, none, .box 24 (.t 0)⟩,
 ⟨some 3, none, .box 24 (.t 1)⟩,
 ⟨some 4, none, .mov (.c (.bool false))⟩] (some [2, 3]))
 (.seq
 (.seq
 (.reg [⟨some 6, none, .fa 2 (.t 2)⟩,
 ⟨some 7, none, .ld none (.t 6)⟩,
 ⟨some 8, none, .fa 2 (.t 3)⟩,
 ⟨some 9, none, .ld none (.t 8)⟩,
 ⟨some 10, none, .call (.c (.fn (.func 40) [] [])) [(.t 7), (.t 9), (.c (.fn (.func 41) [] []))]⟩,
 ⟨some 11, none, .un .not (.t 10)⟩] (some [2, 3, 11]))
 (.cond (.t 11)
 (.seq
 (.reg [⟨some 4, none, .mov (.c (.bool false))⟩] (some [4]))
 .ret)
 .skip))
 (.seq
 (.reg [⟨some 12, none, .fa 0 (.t 2)⟩,
 ⟨some 13, none, .ld none (.t 12)⟩,
 ⟨some 14, none, .fa 0 (.t 3)⟩,
 ⟨some 15, none, .ld none (.t 14)⟩,
 ⟨some 16, none, .bin .eql .none (.t 13) (.t 15)⟩,
 ⟨some 17, none, .mov (.t 16)⟩,
 ⟨some 18, some (17, true), .fa 1 (.t 2)⟩,
 ⟨some 19, some (17, true), .ld none (.t 18)⟩,
 ⟨some 20, some (17, true), .fa 1 (.t 3)⟩,
 ⟨some 21, some (17, true), .ld none (.t 20)⟩,
 ⟨some 22, some (17, true), .bin .eql .none (.t 19) (.t 21)⟩,
 ⟨some 23, none, .pick (.t 17) (.t 22) (.c (.bool false))⟩,
 ⟨some 24, none, .mov (.t 23)⟩,
 ⟨some 25, some (24, true), .fa 4 (.t 2)⟩,
 ⟨some 26, some (24, true), .ld none (.t 25)⟩,
 ⟨some 27, some (24, true), .fa 4 (.t 3)⟩,
 ⟨some 28, some (24, true), .ld none (.t 27)⟩,
 ⟨some 29, some (24, true), .bin .eql .none (.t 26) (.t 28)⟩,
 ⟨some 30, none, .pick (.t 24) (.t 29) (.c (.bool false))⟩,
 ⟨some 5, none, .mov (.t 30)⟩] (some [2, 3, 5]))
 (.seq
 (.reg [⟨some 31, none, .mov (.t 5)⟩,
 ⟨some 32, none, .mov (.t 31)⟩,
 ⟨some 33, some (32, true), .fa 3 (.t 2)⟩,
 ⟨some 34, some (32, true), .ld none (.t 33)⟩,
 ⟨some 35, some (32, true), .fa 3 (.t 3)⟩,
 ⟨some 36, some (32, true), .ld none (.t 35)⟩,
 ⟨some 37, some (32, true), .bin .eql .none (.t 34) (.t 36)⟩,
 ⟨some 38, none, .pick (.t 32) (.t 37) (.c (.bool false))⟩,
 ⟨some 39, none, .mov (.t 38)⟩,
 ⟨some 40, some (39, true), .fa 5 (.t 2)⟩,
 ⟨some 41, some (39, true), .ld none (.t 40)⟩,
 ⟨some 42, some (39, true), .fa 5 (.t 3)⟩,
 ⟨some 43, some (39, true), .ld none (.t 42)⟩,
 ⟨some 44, some (39, true), .bin .eql .none (.t 41) (.t 43)⟩,
 ⟨some 45, none, .pick (.t 39) (.t 44) (.c (.bool false))⟩,
 ⟨some 4, none, .mov (.t 45)⟩] (some [4]))
 .ret))))
theorem is_wireSame : IrOf Tryd.prog 19 46 ir_wireSame [.t 4] := ⟨_, Tryd.func19, rfl, by kernel_rfl, by kernel_rfl, by kernel_rfl⟩

theorem fs_EqualPars {Gl : Gh → Prop} (hst : Stays Gl) {a b : List (List Int)} {ta tb : Option Nm} (ha : a.length < 9223372036854775808) (hb : b.length < 9223372036854775808) (hpa : ∀ p ∈ a, p.length < 9223372036854775808) (hpb : ∀ p ∈ b, p.length < 9223372036854775808) : FS Tryd.prog Gl 40 [.sl ta 1 (parsAV a), .sl tb 1 (parsAV b), .fn (.func 41) [] []] [] [] (.bool (decide (a = b))) [] [] := by
  refine FS.of hm hst is_slicesEqualFuncintintintint (by simp) fun γ hγ hfr => ?_
  (generalize hQ : (fun (ex : Ex) (_ _ : Nat) (s : St) => _) = Q; unfold ir_slicesEqualFuncintintintint)
  simp +contextual (maxSteps := 1000000) only [parsAV_length, go_sem, reduceCtorEq, ↓reduceIte, Nat.reduceAdd, Nat.reduceEqDiff]
  refine kCond_split (fun h => ?_) (fun h => ?_)
  · simp +contextual (maxSteps := 1000000) only [go_sem, reduceCtorEq, ↓reduceIte, Nat.reduceAdd, Nat.reduceEqDiff]
    rw [← hQ]
    have : decide (a = b) = false := by
      simp only [bne_iff_ne, ne_eq] at h
      rw [decide_eq_false_iff_not]; intro e; subst e; simp at h
    rw [this]
    exact ⟨trivial, Ret.flat rfl rfl⟩
  · have hl : a.length = b.length := by simp at h; omega
    simp +contextual (maxSteps := 1000000) only [parsAV_length, go_sem, reduceCtorEq, ↓reduceIte, Nat.reduceAdd, Nat.reduceEqDiff]
    refine kLoop_ix (fun i : Nat => ⟨lf [(1, .sl tb 1 (parsAV b)), (2, .fn (.func 41) [] []), (15, .sl ta 1 (parsAV a)), (16, .int .i64 a.length), (17, .int .i64 i)], [], fun x => x ∈ []⟩) (fun i => i ≤ a.length ∧ a.take i = b.take i) (fun i => a.length - i) 0 0 (Wk.same ?_) ?_ ?_
    · (simp only [lfOK, upd, initF]; repeat' first | exact AVle.refl _ _ | exact trivial | refine And.intro ?_ ?_ | exact AVle.int (by simp only [IntKind.wrap_i64]; omega))
    · simp
    · rintro γ' i hf ⟨hi, hinv⟩
      generalize hQ' : kIt _ _ _ _ _ = Q'
      by_cases hlt : i < a.length
      · have hd : decide ((i : Int) < (a.length : Int)) = true := by simp; omega
        have hi2 : intsV a[i] = .sl none 1 (intsAV a[i]) := rfl
        have hi3 : intsV (b[i]'(by omega)) = .sl none 1 (intsAV (b[i]'(by omega))) := rfl
        have g1 : (parsAV a).getD (i : Int).toNat [] = [intsV a[i]] := by rw [Int.toNat_natCast]; exact parsAV_get hlt
        have g2 : (parsAV b).getD (i : Int).toNat [] = [intsV (b[i]'(by omega))] := by rw [Int.toNat_natCast]; exact parsAV_get (by omega)
        rw [hi2] at g1
        rw [hi3] at g2
        have c1 := fs_EqualInts (Gl := Gl) hst (a := a[i]) (b := b[i]'(by omega)) (ta := none) (tb := none) (hpa _ (List.getElem_mem _)) (hpb _ (List.getElem_mem _))
        simp +contextual (maxSteps := 1000000) only [parsAV_length, hd, g1, g2, go_sem, reduceCtorEq, ↓reduceIte, Nat.reduceAdd, Nat.reduceEqDiff]
        refine ⟨by omega, by omega, ?_⟩
        (refine CallP.pure (c1) (fun _ => rfl) ?_; simp +contextual (maxSteps := 1000000) only [go_sem, reduceCtorEq, ↓reduceIte, Nat.reduceAdd, Nat.reduceEqDiff])
        cases hc : decide (a[i] = b[i]'(by omega)) with
        | false =>
          simp +contextual (maxSteps := 1000000) only [hc, go_sem, reduceCtorEq, ↓reduceIte, Nat.reduceAdd, Nat.reduceEqDiff]
          rw [← hQ']
          simp only [w_kIt_r, w_kBlk_r, w_kSeq_r]
          have e : decide (a = b) = false := by
            rw [decide_eq_false_iff_not]; intro e; subst e; exact of_decide_eq_false hc rfl
          rw [← hQ, e]
          exact ⟨trivial, Ret.flat rfl rfl⟩
        | true =>
          simp +contextual (maxSteps := 1000000) only [hc, go_sem, reduceCtorEq, ↓reduceIte, Nat.reduceAdd, Nat.reduceEqDiff]
          rw [← hQ']
          simp only [w_kIt_n]
          refine ⟨0, i + 1, Wk.same ?_, ⟨by omega, ?_⟩, by omega⟩
          · repeat' first | exact AVle.refl _ _ | exact trivial | refine And.intro ?_ ?_ | exact AVle.int (by simp only [IntKind.wrap_i64]; omega)
          · have h2 : a[i] = b[i]'(by omega) := of_decide_eq_true hc
            rw [List.take_add_one, List.take_add_one, hinv, List.getElem?_eq_getElem hlt, List.getElem?_eq_getElem (show i < b.length by omega), h2]
      · have hd : decide ((i : Int) < (a.length : Int)) = false := by simp; omega
        simp +contextual (maxSteps := 1000000) only [parsAV_length, hd, go_sem, reduceCtorEq, ↓reduceIte, Nat.reduceAdd, Nat.reduceEqDiff]
        rw [← hQ']
        simp only [w_kIt_e, w_kBlk_e, ↓reduceIte]
        simp +contextual (maxSteps := 1000000) only [go_sem, reduceCtorEq, ↓reduceIte, Nat.reduceAdd, Nat.reduceEqDiff]
        have e : decide (a = b) = true := by
          rw [decide_eq_true_eq]
          have h3 := hinv
          rw [List.take_of_length_le (by omega), List.take_of_length_le (by omega)] at h3
          exact h3
        rw [← hQ, e]
        exact ⟨trivial, Ret.flat rfl rfl⟩
structure Sq.szP (s : Sq) : Prop where
  ps : s.ps.length < 9223372036854775808
  pp : ∀ p ∈ s.ps, p.length < 9223372036854775808
theorem fs_wSame {Gl : Gh → Prop} (hst : Stays Gl) {a b : Sq} (ha : a.szP) (hb : b.szP) : FS Tryd.prog Gl 19 [.agg a.c, .agg b.c] [] [] (.bool (decide (a = b))) [] [] := by
  refine FS.of hm hst is_wireSame (by simp) fun γ hγ hfr => ?_
  obtain ⟨k, pr, ps, it, fi, da⟩ := a
  obtain ⟨k2, pr2, ps2, it2, fi2, da2⟩ := b
  have c1 := fs_EqualPars (Gl := Gl) hst (a := ps) (b := ps2) (ta := none) (tb := none) ha.ps hb.ps ha.pp hb.pp
  have hcc : ∀ (k pr : Int) ps it fi da, Sq.c ⟨k, pr, ps, it, fi, da⟩ = [.int .i64 k, .int .u8 pr, .sl none 1 (parsAV ps), .str it, .int .u8 fi, .str da] := fun _ _ _ _ _ _ => rfl
  have hz : decide ((⟨k, pr, ps, it, fi, da⟩ : Sq) = ⟨k2, pr2, ps2, it2, fi2, da2⟩) = (decide (ps = ps2) && ((((k == k2) && (pr == pr2)) && (fi == fi2)) && decide (it = it2) && decide (da = da2))) := by
    rw [Bool.eq_iff_iff]
    simp only [Sq.mk.injEq, decide_eq_true_eq, Bool.and_eq_true, beq_iff_eq]
    constructor
    · rintro ⟨a, b, c, d, e, f⟩; exact ⟨c, ⟨⟨⟨a, b⟩, e⟩, d⟩, f⟩
    · rintro ⟨c, ⟨⟨⟨a, b⟩, e⟩, d⟩, f⟩; exact ⟨a, b, c, d, e, f⟩
  (generalize hQ : (fun (ex : Ex) (_ _ : Nat) (s : St) => _) = Q; unfold ir_wireSame)
  simp +contextual (maxSteps := 1000000) only [hcc, go_sem, reduceCtorEq, ↓reduceIte, Nat.reduceAdd, Nat.reduceEqDiff]
  (refine CallP.pure (c1) (fun _ => rfl) ?_; simp +contextual (maxSteps := 1000000) only [go_sem, reduceCtorEq, ↓reduceIte, Nat.reduceAdd, Nat.reduceEqDiff])
  cases hc : decide (ps = ps2) with
  | false =>
    simp +contextual (maxSteps := 1000000) only [hc, go_sem, reduceCtorEq, ↓reduceIte, Nat.reduceAdd, Nat.reduceEqDiff]
    rw [← hQ, hz, hc]
    exact ⟨trivial, Ret.flat rfl rfl⟩
  | true =>
    simp +contextual (maxSteps := 1000000) only [hc, go_sem, reduceCtorEq, ↓reduceIte, Nat.reduceAdd, Nat.reduceEqDiff]
    rw [← hQ, hz, hc]
    exact ⟨trivial, Ret.flat rfl rfl⟩
end Go.Proofs.YtfnngjnfajnpaaaDoor

namespace Go.Proofs.YtfnngjnfajnpaaaDoor
open Go Go.Ab
structure Sq.ok (s : Sq) : Prop where
  sm : s.sm
  pr : 0 ≤ s.pr ∧ s.pr < 256
  fi : 0 ≤ s.fi ∧ s.fi < 256
end Go.Proofs.YtfnngjnfajnpaaaDoor

namespace Go.Proofs.YtfnngjnfajnpaaaDoor
open Go Go.Ab
def ir_clavierlaw03awake : ICode :=
 (.seq
 (.reg [⟨some 0, none, .mov (.c (.bool false))⟩] (some []))
 (.seq
 (.reg [⟨some 7, none, .row 3 1 [(.c (.int .i64 1)), (.c (.int .i64 2))]⟩,
 ⟨some 8, none, .call (.c (.fn (.func 21) [] [])) [(.c (.int .u8 63)), (.c (.int .u8 99)), (.t 7)]⟩,
 ⟨some 1, none, .box 24 (.c (.agg [(.int .i64 0), (.int .u8 0), .nils, (.str []), (.int .u8 0), (.str [])]))⟩,
 ⟨none, none, .st 6 (.t 1) (.t 8)⟩] (some [1]))
 (.seq
 (.reg [⟨some 10, none, .ld (some 6) (.t 1)⟩,
 ⟨some 11, none, .call (.c (.fn (.func 14) [] [])) [(.t 10)]⟩,
 ⟨some 9, none, .mov (.t 11)⟩,
 ⟨some 12, none, .ext (.t 9) 0⟩,
 ⟨some 13, none, .ext (.t 9) 1⟩,
 ⟨some 2, none, .mov (.t 12)⟩,
 ⟨some 3, none, .mov (.t 13)⟩] (some [1, 2, 3]))
 (.seq
 (.reg [⟨some 15, none, .row 5 1 [(.c (.int .u8 27)), (.c (.int .u8 91)), (.c (.int .u8 63)), (.c (.int .u8 49)), (.c (.int .u8 59)), (.c (.int .u8 50)), (.c (.int .u8 99)), (.c (.int .u8 120))]⟩,
 ⟨some 16, none, .cvs (.t 15)⟩,
 ⟨some 17, none, .call (.c (.fn (.func 18) [] [])) [(.t 16)]⟩,
 ⟨some 14, none, .mov (.t 17)⟩,
 ⟨some 18, none, .ext (.t 14) 0⟩,
 ⟨some 19, none, .ext (.t 14) 1⟩,
 ⟨some 20, none, .ext (.t 14) 2⟩,
 ⟨some 4, none, .box 24 (.c (.agg [(.int .i64 0), (.int .u8 0), .nils, (.str []), (.int .u8 0), (.str [])]))⟩,
 ⟨none, none, .st 6 (.t 4) (.t 18)⟩,
 ⟨some 5, none, .mov (.t 19)⟩,
 ⟨some 6, none, .mov (.t 20)⟩] (some [1, 2, 3, 4, 5, 6]))
 (.seq
 (.reg [⟨some 21, none, .mov (.t 3)⟩,
 ⟨some 22, none, .bin .eql .none (.t 21) (.c (.int .i64 0))⟩,
 ⟨some 23, none, .mov (.t 22)⟩,
 ⟨some 24, some (23, true), .mov (.t 2)⟩,
 ⟨some 25, some (23, true), .b2s (.t 24)⟩,
 ⟨some 26, some (23, true), .bin .eql .none (.t 25) (.c (.str [27, 91, 63, 49, 59, 50, 99]))⟩,
 ⟨some 27, none, .pick (.t 23) (.t 26) (.c (.bool false))⟩,
 ⟨some 28, none, .mov (.t 27)⟩,
 ⟨some 29, some (28, true), .mov (.t 6)⟩,
 ⟨some 30, some (28, true), .bin .eql .none (.t 29) (.c (.int .i64 0))⟩,
 ⟨some 31, none, .pick (.t 28) (.t 30) (.c (.bool false))⟩,
 ⟨some 32, none, .mov (.t 31)⟩,
 ⟨some 33, some (32, true), .mov (.t 5)⟩,
 ⟨some 34, some (32, true), .bin .eql .none (.t 33) (.c (.int .i64 7))⟩,
 ⟨some 35, none, .pick (.t 32) (.t 34) (.c (.bool false))⟩,
 ⟨some 36, none, .mov (.t 35)⟩,
 ⟨some 37, some (36, true), .ld (some 6) (.t 1)⟩,
 ⟨some 38, some (36, true), .ld (some 6) (.t 4)⟩,
 ⟨some 39, some (36, true), .call (.c (.fn (.func 19) [] [])) [(.t 37), (.t 38)]⟩,
 ⟨some 40, none, .pick (.t 36) (.t 39) (.c (.bool false))⟩,
 ⟨some 41, none, .mov (.t 40)⟩,
 ⟨some 42, some (41, true), .ld (some 6) (.t 1)⟩,
 ⟨some 43, some (41, true), .call (.c (.fn (.func 22) [] [])) [(.t 42), (.c (.int .i64 1)), (.c (.int .i64 9))]⟩,
 ⟨some 44, some (41, true), .bin .eql .none (.t 43) (.c (.int .i64 2))⟩,
 ⟨some 45, none, .pick (.t 41) (.t 44) (.c (.bool false))⟩,
 ⟨some 46, none, .mov (.t 45)⟩,
 ⟨some 47, some (46, true), .ld (some 6) (.t 1)⟩,
 ⟨some 48, some (46, true), .call (.c (.fn (.func 22) [] [])) [(.t 47), (.c (.int .i64 2)), (.c (.int .i64 9))]⟩,
 ⟨some 49, some (46, true), .bin .eql .none (.t 48) (.c (.int .i64 9))⟩,
 ⟨some 50, none, .pick (.t 46) (.t 49) (.c (.bool false))⟩,
 ⟨some 0, none, .mov (.t 50)⟩] (some [0]))
 .ret)))))
theorem is_clavierlaw03awake : IrOf Tryd.prog 12 51 ir_clavierlaw03awake [.t 0] := ⟨_, Tryd.func12, rfl, by kernel_rfl, by kernel_rfl, by kernel_rfl⟩

/- clavier/clavierlaw03.few -/
theorem w3_a : mayP (numSq 1 63 99 [1, 2]) = 0 ∧ putB (numSq 1 63 99 [1, 2]) = [27, 91, 63, 49, 59, 50, 99] := by decide +kernel
theorem fs_wPutL {Gl : Gh → Prop} (hst : Stays Gl) {s : Sq} (h : s.ok) : FS Tryd.prog Gl 14 [.agg s.c] [] [] (.tup [.sl none 1 (bytesAV (putX s)), .int .i64 (mayP s)]) [] [] := by
  have := fs_wPut (Gl := Gl) hst h.pr.1 h.pr.2 h.fi.1 h.fi.2 h.sm
  refine FSR.res this ?_
  rintro r H T ⟨rfl, h2, h3⟩
  exact ⟨.tup [.sl none 1 (bytesAV (putX s)), .int .i64 (mayP s)], fun f => by
    have hrn : Ab.rn f (putV s) = putV s := by unfold putV; split <;> rfl
    simp only [Ab.rn, rnL, hrn]
    exact RepLe.tupL ⟨putV_le s, RepLe.refl _, trivial⟩, rfl, h2, h3⟩
theorem fs_awake03 {Gl : Gh → Prop} (hst : Stays Gl) : FS Tryd.prog Gl 12 [] [] [] (.bool true) [] [] := by
  refine FS.of hm hst is_clavierlaw03awake (by simp) fun γ hγ hfr => ?_
  obtain ⟨m1, m2⟩ := w3_a
  have hc : (numSq 1 63 99 [1, 2]).c = [.int .i64 1, .int .u8 63, .sl none 1 (parsAV [[1], [2]]), .str [], .int .u8 99, .str []] := rfl
  have hi : intsAV [1, 2] = [[.int .i64 1], [.int .i64 2]] := rfl
  have c1 := fun t : Option Nm => fs_Num (Gl := Gl) hst (pr := 63) (fi := 99) (nums := [1, 2]) (tn := t) (by simp)
  rw [hi, hc] at c1
  have c2 := fs_wPutL (Gl := Gl) hst (s := numSq 1 63 99 [1, 2]) ⟨⟨by simp [numSq], by simp [numSq], by simp [numSq], by simp [numSq]⟩, by simp [numSq], by simp [numSq]⟩
  rw [show putX (numSq 1 63 99 [1, 2]) = [27, 91, 63, 49, 59, 50, 99] by unfold putX; rw [m1, m2]; rfl, m1, hc] at c2
  obtain ⟨t1, t2, t3⟩ := take_may m1 [120]
  rw [m2] at t1 t2 t3
  rw [hc] at t3
  have c3 := fun t : Option Nm => fs_wTake (Gl := Gl) hst (b := [27, 91, 63, 49, 59, 50, 99, 120]) (tb := t) (by simp) t1 t2
  rw [show takeV [27, 91, 63, 49, 59, 50, 99, 120] = .tup [.agg [.int .i64 1, .int .u8 63, .sl none 1 (parsAV [[1], [2]]), .str [], .int .u8 99, .str []], .int .i64 7, .int .i64 0] from t3] at c3
  rw [show bytesAV [27, 91, 63, 49, 59, 50, 99, 120] = [[.int .u8 27], [.int .u8 91], [.int .u8 63], [.int .u8 49], [.int .u8 59], [.int .u8 50], [.int .u8 99], [.int .u8 120]] from rfl] at c3
  have c4 := fs_wSame (Gl := Gl) hst (a := numSq 1 63 99 [1, 2]) (b := numSq 1 63 99 [1, 2]) ⟨by simp [numSq], by simp [numSq]⟩ ⟨by simp [numSq], by simp [numSq]⟩
  rw [decide_eq_true rfl, hc] at c4
  have c5 := fs_wArg (Gl := Gl) hst (k := 1) (pr := 63) (fi := 99) (o := 9) (ps := [[1], [2]]) (it := []) (da := []) (i := 1)
  have c6 := fs_wArg (Gl := Gl) hst (k := 1) (pr := 63) (fi := 99) (o := 9) (ps := [[1], [2]]) (it := []) (da := []) (i := 2)
  rw [show argW [[1], [2]] 1 9 = 2 from rfl] at c5
  rw [show argW [[1], [2]] 2 9 = 9 from rfl] at c6
  clear t1 t2 t3 m1 m2 hc hi
  generalize parsAV [[1], [2]] = rows at *
  (generalize hQ : (fun (ex : Ex) (_ _ : Nat) (s : St) => _) = Q; unfold ir_clavierlaw03awake)
  simp +contextual (maxSteps := 1000000) only [go_sem, reduceCtorEq, ↓reduceIte, Nat.reduceAdd, Nat.reduceEqDiff, Nat.reduceLeDiff, Nat.reduceMul, Nat.reduceBEq, Int.reduceBEq, Int.reduceBNe, Int.reduceLT, Int.reduceLE, Int.reduceGT, Int.reduceGE, Int.reduceToNat]
  (refine CallP.pure (c1 _) (fun _ => rfl) ?_; simp +contextual (maxSteps := 1000000) only [go_sem, reduceCtorEq, ↓reduceIte, Nat.reduceAdd, Nat.reduceEqDiff, Nat.reduceLeDiff, Nat.reduceMul, Nat.reduceBEq, Int.reduceBEq, Int.reduceBNe, Int.reduceLT, Int.reduceLE, Int.reduceGT, Int.reduceGE, Int.reduceToNat])
  (refine CallP.pure (c2) (fun _ => rfl) ?_; simp +contextual (maxSteps := 1000000) only [go_sem, reduceCtorEq, ↓reduceIte, Nat.reduceAdd, Nat.reduceEqDiff, Nat.reduceLeDiff, Nat.reduceMul, Nat.reduceBEq, Int.reduceBEq, Int.reduceBNe, Int.reduceLT, Int.reduceLE, Int.reduceGT, Int.reduceGE, Int.reduceToNat])
  refine ⟨⟨.inl trivial, by simp⟩, ?_⟩
  (refine CallP.pure (c3 _) (fun _ => rfl) ?_; simp +contextual (maxSteps := 1000000) only [bb_un, bb_is, go_sem, reduceCtorEq, ↓reduceIte, Nat.reduceAdd, Nat.reduceEqDiff, Nat.reduceLeDiff, Nat.reduceMul, Nat.reduceBEq, Int.reduceBEq, Int.reduceBNe, Int.reduceLT, Int.reduceLE, Int.reduceGT, Int.reduceGE, Int.reduceToNat])
  (refine CallP.pure (c4) (fun _ => rfl) ?_; simp +contextual (maxSteps := 1000000) only [go_sem, reduceCtorEq, ↓reduceIte, Nat.reduceAdd, Nat.reduceEqDiff, Nat.reduceLeDiff, Nat.reduceMul, Nat.reduceBEq, Int.reduceBEq, Int.reduceBNe, Int.reduceLT, Int.reduceLE, Int.reduceGT, Int.reduceGE, Int.reduceToNat])
  (refine CallP.pure (c5) (fun _ => rfl) ?_; simp +contextual (maxSteps := 1000000) only [go_sem, reduceCtorEq, ↓reduceIte, Nat.reduceAdd, Nat.reduceEqDiff, Nat.reduceLeDiff, Nat.reduceMul, Nat.reduceBEq, Int.reduceBEq, Int.reduceBNe, Int.reduceLT, Int.reduceLE, Int.reduceGT, Int.reduceGE, Int.reduceToNat])
  (refine CallP.pure (c6) (fun _ => rfl) ?_; simp +contextual (maxSteps := 1000000) only [go_sem, reduceCtorEq, ↓reduceIte, Nat.reduceAdd, Nat.reduceEqDiff, Nat.reduceLeDiff, Nat.reduceMul, Nat.reduceBEq, Int.reduceBEq, Int.reduceBNe, Int.reduceLT, Int.reduceLE, Int.reduceGT, Int.reduceGE, Int.reduceToNat])
  rw [← hQ]
  exact ⟨trivial, Ret.flat rfl rfl⟩
structure Few (s : Sq) : Prop where
  ps : s.ps.length ≤ 30
  pp : ∀ p ∈ s.ps, p.length ≤ 20
  it : s.it.length ≤ 10
  da : s.da.length ≤ 200
end Go.Proofs.YtfnngjnfajnpaaaDoor

namespace Go.Proofs.YtfnngjnfajnpaaaDoor
open Go Go.Ab
def ir_clavierref03Arg : ICode :=
 (.seq
 (.reg [⟨some 3, none, .box 24 (.t 0)⟩,
 ⟨some 6, none, .mov (.c (.int .i64 0))⟩] (some [1, 2, 3]))
 (.seq
 (.seq
 (.reg [⟨some 7, none, .mov (.t 1)⟩,
 ⟨some 8, none, .bin .lss .none (.t 7) (.c (.int .i64 0))⟩,
 ⟨some 9, none, .mov (.t 8)⟩,
 ⟨some 10, some (9, false), .mov (.t 1)⟩,
 ⟨some 11, some (9, false), .fa 2 (.t 3)⟩,
 ⟨some 12, some (9, false), .ld none (.t 11)⟩,
 ⟨some 13, some (9, false), .len (.t 12)⟩,
 ⟨some 14, some (9, false), .bin .geq .none (.t 10) (.t 13)⟩,
 ⟨some 15, none, .pick (.t 9) (.c (.bool true)) (.t 14)⟩,
 ⟨some 16, none, .mov (.t 15)⟩,
 ⟨some 17, some (16, false), .fa 2 (.t 3)⟩,
 ⟨some 18, some (16, false), .ld none (.t 17)⟩,
 ⟨some 19, some (16, false), .mov (.t 1)⟩,
 ⟨some 20, some (16, false), .ia 1 (.t 18) (.t 19)⟩,
 ⟨some 21, some (16, false), .ld none (.t 20)⟩,
 ⟨some 22, some (16, false), .len (.t 21)⟩,
 ⟨some 23, some (16, false), .bin .eql .none (.t 22) (.c (.int .i64 0))⟩,
 ⟨some 24, none, .pick (.t 16) (.c (.bool true)) (.t 23)⟩,
 ⟨some 25, none, .mov (.t 24)⟩,
 ⟨some 26, some (25, false), .fa 2 (.t 3)⟩,
 ⟨some 27, some (25, false), .ld none (.t 26)⟩,
 ⟨some 28, some (25, false), .mov (.t 1)⟩,
 ⟨some 29, some (25, false), .ia 1 (.t 27) (.t 28)⟩,
 ⟨some 30, some (25, false), .ld none (.t 29)⟩,
 ⟨some 31, some (25, false), .ia 1 (.t 30) (.c (.int .i64 0))⟩,
 ⟨some 32, some (25, false), .ld none (.t 31)⟩,
 ⟨some 33, some (25, false), .bin .lss .none (.t 32) (.c (.int .i64 0))⟩,
 ⟨some 34, none, .pick (.t 25) (.c (.bool true)) (.t 33)⟩] (some [1, 2, 3, 34]))
 (.cond (.t 34)
 (.seq
 (.reg [⟨some 35, none, .mov (.t 2)⟩,
 ⟨some 6, none, .mov (.t 35)⟩] (some [6]))
 .ret)
 .skip))
 (.seq
 (.reg [⟨some 36, none, .fa 2 (.t 3)⟩,
 ⟨some 37, none, .ld none (.t 36)⟩,
 ⟨some 38, none, .mov (.t 1)⟩,
 ⟨some 39, none, .ia 1 (.t 37) (.t 38)⟩,
 ⟨some 40, none, .ld none (.t 39)⟩,
 ⟨some 41, none, .ia 1 (.t 40) (.c (.int .i64 0))⟩,
 ⟨some 42, none, .ld none (.t 41)⟩,
 ⟨some 6, none, .mov (.t 42)⟩] (some [6]))
 .ret)))
theorem is_clavierref03Arg : IrOf Tryd.prog 23 43 ir_clavierref03Arg [.t 6] := ⟨_, Tryd.func23, rfl, by kernel_rfl, by kernel_rfl, by kernel_rfl⟩

/- clavier/clavierlaw03.WireNums -/
def ir_clavierlaw03WireNums_l0 : ICode :=
 (.seq
 (.seq
 (.reg [⟨some 27, none, .mov (.t 10)⟩,
 ⟨some 28, none, .mov (.t 1)⟩,
 ⟨some 29, none, .len (.t 28)⟩,
 ⟨some 30, none, .bin .lss .none (.t 27) (.t 29)⟩] (some [1, 5, 7, 8, 9, 10, 30]))
 (.cond (.t 30)
 .skip
 (.exit 0)))
 (.seq
 (.blk 1
 (.drw [⟨⟨some 33, none, .fa 2 (.t 9)⟩, []⟩,
 ⟨⟨some 34, none, .ld none (.t 33)⟩, [0]⟩,
 ⟨⟨some 35, none, .mov (.t 1)⟩, []⟩,
 ⟨⟨some 36, none, .mov (.t 10)⟩, []⟩,
 ⟨⟨some 37, none, .ia 1 (.t 35) (.t 36)⟩, [2, 3]⟩,
 ⟨⟨some 38, none, .ld none (.t 37)⟩, [4]⟩,
 ⟨⟨some 39, none, .row 3 1 [(.t 38)]⟩, [5]⟩,
 ⟨⟨some 40, none, .row 44 1 [(.t 39)]⟩, [6]⟩,
 ⟨⟨some 41, none, .app 44 1 24 (.t 34) (.t 40)⟩, [1, 7]⟩]
 [⟨some 42, none, .fa 2 (.t 9)⟩,
 ⟨none, none, .st 1 (.t 42) (.t 41)⟩] (some [1, 5, 7, 8, 9, 10])))
 (.reg [⟨some 31, none, .mov (.t 10)⟩,
 ⟨some 32, none, .bin .add .none (.t 31) (.c (.int .i64 1))⟩,
 ⟨some 10, none, .mov (.t 32)⟩] (some [1, 5, 7, 8, 9, 10]))))
def ir_clavierlaw03WireNums : ICode :=
 (.seq
 (.reg [⟨some 3, none, .box 43 (.t 0)⟩,
 ⟨some 5, none, .box 45 (.t 2)⟩,
 ⟨some 6, none, .mov (.c (.bool false))⟩] (some [1, 3, 5]))
 (.seq
 (.reg [⟨some 11, none, .call (.c (.fn (.func 12) [] [])) []⟩,
 ⟨some 7, none, .mov (.t 11)⟩] (some [1, 3, 5, 7]))
 (.seq
 (.seq
 (.reg [⟨some 12, none, .mov (.t 1)⟩,
 ⟨some 13, none, .len (.t 12)⟩,
 ⟨some 14, none, .bin .gtr .none (.t 13) (.c (.int .i64 30))⟩] (some [1, 3, 5, 7, 14]))
 (.cond (.t 14)
 (.seq
 (.reg [⟨some 15, none, .mov (.t 7)⟩,
 ⟨some 6, none, .mov (.t 15)⟩] (some [6]))
 .ret)
 .skip))
 (.seq
 (.reg [⟨some 16, none, .iar 2 1 (.t 3) (.c (.int .i64 0))⟩,
 ⟨some 17, none, .ld none (.t 16)⟩,
 ⟨some 18, none, .iar 2 1 (.t 3) (.c (.int .i64 1))⟩,
 ⟨some 19, none, .ld none (.t 18)⟩,
 ⟨some 20, none, .mov (.t 1)⟩,
 ⟨some 21, none, .call (.c (.fn (.func 21) [] [])) [(.t 17), (.t 19), (.t 20)]⟩,
 ⟨some 8, none, .box 24 (.c (.agg [(.int .i64 0), (.int .u8 0), .nils, (.str []), (.int .u8 0), (.str [])]))⟩,
 ⟨none, none, .st 6 (.t 8) (.t 21)⟩] (some [1, 3, 5, 7, 8]))
 (.seq
 (.reg [⟨some 22, none, .iar 2 1 (.t 3) (.c (.int .i64 0))⟩,
 ⟨some 23, none, .ld none (.t 22)⟩,
 ⟨some 24, none, .iar 2 1 (.t 3) (.c (.int .i64 1))⟩,
 ⟨some 25, none, .ld none (.t 24)⟩,
 ⟨some 26, none, .bld [(.int .i64 0), (.int .u8 0), .nils, (.str []), (.int .u8 0), (.str [])] [(0, 1, (.c (.int .i64 1))), (1, 1, (.t 23)), (4, 1, (.t 25))]⟩,
 ⟨some 9, none, .box 24 (.c (.agg [(.int .i64 0), (.int .u8 0), .nils, (.str []), (.int .u8 0), (.str [])]))⟩,
 ⟨none, none, .st 6 (.t 9) (.t 26)⟩] (some [1, 5, 7, 8, 9]))
 (.seq
 (.seq
 (.reg [⟨some 10, none, .mov (.c (.int .i64 0))⟩] (some [1, 5, 7, 8, 9, 10]))
 (.blk 0
 (.loop
 ir_clavierlaw03WireNums_l0)))
 (.seq
 (.drw [⟨⟨some 43, none, .mov (.t 7)⟩, []⟩,
 ⟨⟨some 44, none, .mov (.t 43)⟩, [0]⟩,
 ⟨⟨some 45, some (44, true), .ld (some 6) (.t 8)⟩, [1]⟩,
 ⟨⟨some 46, some (44, true), .ld (some 6) (.t 9)⟩, [1]⟩,
 ⟨⟨some 47, some (44, true), .call (.c (.fn (.func 20) [] [])) [(.t 45), (.t 46)]⟩, [2, 3, 1, 1]⟩,
 ⟨⟨some 48, none, .pick (.t 44) (.t 47) (.c (.bool false))⟩, [1, 4]⟩,
 ⟨⟨some 49, none, .mov (.t 48)⟩, [5, 4]⟩,
 ⟨⟨some 50, some (49, true), .ld (some 6) (.t 8)⟩, [6]⟩,
 ⟨⟨some 51, some (49, true), .iar 2 1 (.t 5) (.c (.int .i64 0))⟩, [6]⟩,
 ⟨⟨some 52, some (49, true), .ld none (.t 51)⟩, [8, 6]⟩,
 ⟨⟨some 53, some (49, true), .iar 2 1 (.t 5) (.c (.int .i64 1))⟩, [6]⟩,
 ⟨⟨some 54, some (49, true), .ld none (.t 53)⟩, [10, 6]⟩,
 ⟨⟨some 55, some (49, true), .call (.c (.fn (.func 22) [] [])) [(.t 50), (.t 52), (.t 54)]⟩, [7, 9, 11, 6, 6]⟩,
 ⟨⟨some 56, some (49, true), .ld (some 6) (.t 9)⟩, [6]⟩,
 ⟨⟨some 57, some (49, true), .iar 2 1 (.t 5) (.c (.int .i64 0))⟩, [6]⟩,
 ⟨⟨some 58, some (49, true), .ld none (.t 57)⟩, [14, 6]⟩,
 ⟨⟨some 59, some (49, true), .iar 2 1 (.t 5) (.c (.int .i64 1))⟩, [6]⟩,
 ⟨⟨some 60, some (49, true), .ld none (.t 59)⟩, [16, 6]⟩,
 ⟨⟨some 61, some (49, true), .call (.c (.fn (.func 23) [] [])) [(.t 56), (.t 58), (.t 60)]⟩, [13, 15, 17, 12, 6]⟩,
 ⟨⟨some 62, some (49, true), .bin .eql .none (.t 55) (.t 61)⟩, [12, 18, 6]⟩,
 ⟨⟨some 63, none, .pick (.t 49) (.t 62) (.c (.bool false))⟩, [6, 19]⟩]
 [⟨some 6, none, .mov (.t 63)⟩] (some [6]))
 .ret)))))))
theorem is_clavierlaw03WireNums : IrOf Tryd.prog 7 64 ir_clavierlaw03WireNums [.t 6] := ⟨_, Tryd.func7, rfl, by kernel_rfl, by kernel_rfl, by kernel_rfl⟩

theorem fs_rArg {Gl : Gh → Prop} (hst : Stays Gl) {k pr fi o : Int} {ps : List (List Int)} {it da : List UInt8} {i : Nat} : FS Tryd.prog Gl 23 [.agg [.int .i64 k, .int .u8 pr, .sl none 1 (parsAV ps), .str it, .int .u8 fi, .str da], .int .i64 (i : Int), .int .i64 o] [] [] (.int .i64 (argW ps i o)) [] [] := by
  refine FS.of hm hst is_clavierref03Arg (by simp) fun γ hγ hfr => ?_
  (generalize hQ : (fun (ex : Ex) (_ _ : Nat) (s : St) => _) = Q; unfold ir_clavierref03Arg)
  have h0 : decide ((i : Int) < 0) = false := by simp
  by_cases hlt : i < ps.length
  · have h1 : decide ((i : Int) ≥ (ps.length : Int)) = false := by simp; omega
    have hg : (parsAV ps).getD i [] = [intsV ps[i]] := by
      rw [List.getD_eq_getElem?_getD]; simp [parsAV, hlt]
    have hi : intsV ps[i] = .sl none 1 (intsAV ps[i]) := rfl
    cases hp : ps[i] with
    | nil =>
      rw [hi, hp] at hg
      have ha : argW ps i o = o := by unfold argW; rw [List.getElem?_eq_getElem hlt, hp]
      have hl : (((intsAV ([] : List Int)).length : Int) == 0) = true := rfl
      simp +contextual (maxSteps := 1000000) only [h0, h1, hg, hl, parsAV_length, Int.toNat_natCast, go_sem, reduceCtorEq, ↓reduceIte, Nat.reduceAdd, Nat.reduceEqDiff, Nat.reduceLeDiff, Nat.reduceMul, Nat.reduceBEq, Int.reduceBEq, Int.reduceBNe, Int.reduceLT, Int.reduceLE, Int.reduceGT, Int.reduceGE, Int.reduceToNat]
      refine ⟨by omega, ?_⟩
      rw [← hQ, ha]
      exact ⟨trivial, Ret.flat rfl rfl⟩
    | cons x l =>
      rw [hi, hp] at hg
      have hg0 : (intsAV (x :: l)).getD 0 [] = [.int .i64 x] := rfl
      have hl : (((intsAV (x :: l)).length : Int) == 0) = false := by simp [intsAV]; omega
      have hl0 : (0 : Int) < ((intsAV (x :: l)).length : Int) := by rw [intsAV_length, List.length_cons]; omega
      by_cases hx : x < 0
      · have hd : decide (x < 0) = true := decide_eq_true hx
        have ha : argW ps i o = o := by unfold argW; rw [List.getElem?_eq_getElem hlt, hp]; exact if_pos hx
        simp +contextual (maxSteps := 1000000) only [h0, h1, hg, hg0, hl, hd, parsAV_length, Int.toNat_natCast, Int.toNat_zero, go_sem, reduceCtorEq, ↓reduceIte, Nat.reduceAdd, Nat.reduceEqDiff, Nat.reduceLeDiff, Nat.reduceMul, Nat.reduceBEq, Int.reduceBEq, Int.reduceBNe, Int.reduceLT, Int.reduceLE, Int.reduceGT, Int.reduceGE, Int.reduceToNat]
        refine ⟨⟨by omega, by omega⟩, ⟨by omega, by omega⟩, hl0, ?_⟩
        rw [← hQ, ha]
        exact ⟨trivial, Ret.flat rfl rfl⟩
      · have hd : decide (x < 0) = false := decide_eq_false hx
        have ha : argW ps i o = x := by unfold argW; rw [List.getElem?_eq_getElem hlt, hp]; exact if_neg hx
        simp +contextual (maxSteps := 1000000) only [h0, h1, hg, hg0, hl, hd, parsAV_length, Int.toNat_natCast, Int.toNat_zero, go_sem, reduceCtorEq, ↓reduceIte, Nat.reduceAdd, Nat.reduceEqDiff, Nat.reduceLeDiff, Nat.reduceMul, Nat.reduceBEq, Int.reduceBEq, Int.reduceBNe, Int.reduceLT, Int.reduceLE, Int.reduceGT, Int.reduceGE, Int.reduceToNat]
        refine ⟨⟨by omega, by omega⟩, ⟨by omega, by omega⟩, hl0, ⟨by omega, by omega⟩, hl0, ?_⟩
        rw [← hQ, ha]
        exact ⟨trivial, Ret.flat rfl rfl⟩
  · have h1 : decide ((i : Int) ≥ (ps.length : Int)) = true := by simp; omega
    have ha : argW ps i o = o := by unfold argW; rw [List.getElem?_eq_none (by omega)]
    simp +contextual (maxSteps := 1000000) only [h0, h1, parsAV_length, go_sem, reduceCtorEq, ↓reduceIte, Nat.reduceAdd, Nat.reduceEqDiff, Nat.reduceLeDiff, Nat.reduceMul, Nat.reduceBEq, Int.reduceBEq, Int.reduceBNe, Int.reduceLT, Int.reduceLE, Int.reduceGT, Int.reduceGE, Int.reduceToNat]
    rw [← hQ, ha]
    exact ⟨trivial, Ret.flat rfl rfl⟩

def argZ (ps : List (List Int)) (i o : Int) : Int := if i < 0 then o else argW ps i.toNat o
theorem fs_rArgZ {Gl : Gh → Prop} (hst : Stays Gl) {k pr fi o : Int} {ps : List (List Int)} {it da : List UInt8} {i : Int} : FS Tryd.prog Gl 23 [.agg [.int .i64 k, .int .u8 pr, .sl none 1 (parsAV ps), .str it, .int .u8 fi, .str da], .int .i64 i, .int .i64 o] [] [] (.int .i64 (argZ ps i o)) [] [] := by
  by_cases h : i < 0
  · refine FS.of hm hst is_clavierref03Arg (by simp) fun γ hγ hfr => ?_
    have h0 : decide (i < 0) = true := decide_eq_true h
    have hz : argZ ps i o = o := if_pos h
    (generalize hQ : (fun (ex : Ex) (_ _ : Nat) (s : St) => _) = Q; unfold ir_clavierref03Arg)
    simp +contextual (maxSteps := 1000000) only [h0, go_sem, reduceCtorEq, ↓reduceIte, Nat.reduceAdd, Nat.reduceEqDiff, Nat.reduceLeDiff, Nat.reduceMul, Nat.reduceBEq, Int.reduceBEq, Int.reduceBNe, Int.reduceLT, Int.reduceLE, Int.reduceGT, Int.reduceGE, Int.reduceToNat]
    rw [← hQ, hz]
    exact ⟨trivial, Ret.flat rfl rfl⟩
  · have hz : argZ ps i o = argW ps i.toNat o := if_neg h
    have := fs_rArg (Gl := Gl) hst (k := k) (pr := pr) (fi := fi) (o := o) (ps := ps) (it := it) (da := da) (i := i.toNat)
    rw [hz]
    rw [show ((i.toNat : Nat) : Int) = i by omega] at this
    exact this
theorem fs_wArgZ {Gl : Gh → Prop} (hst : Stays Gl) {k pr fi o : Int} {ps : List (List Int)} {it da : List UInt8} {i : Int} : FS Tryd.prog Gl 22 [.agg [.int .i64 k, .int .u8 pr, .sl none 1 (parsAV ps), .str it, .int .u8 fi, .str da], .int .i64 i, .int .i64 o] [] [] (.int .i64 (argZ ps i o)) [] [] := by
  by_cases h : i < 0
  · refine FS.of hm hst is_wireArg (by simp) fun γ hγ hfr => ?_
    have h0 : decide (i < 0) = true := decide_eq_true h
    have hz : argZ ps i o = o := if_pos h
    (generalize hQ : (fun (ex : Ex) (_ _ : Nat) (s : St) => _) = Q; unfold ir_wireArg)
    simp +contextual (maxSteps := 1000000) only [h0, go_sem, reduceCtorEq, ↓reduceIte, Nat.reduceAdd, Nat.reduceEqDiff, Nat.reduceLeDiff, Nat.reduceMul, Nat.reduceBEq, Int.reduceBEq, Int.reduceBNe, Int.reduceLT, Int.reduceLE, Int.reduceGT, Int.reduceGE, Int.reduceToNat]
    rw [← hQ, hz]
    exact ⟨trivial, Ret.flat rfl rfl⟩
  · have hz : argZ ps i o = argW ps i.toNat o := if_neg h
    have := fs_wArg (Gl := Gl) hst (k := k) (pr := pr) (fi := fi) (o := o) (ps := ps) (it := it) (da := da) (i := i.toNat)
    rw [hz]
    rw [show ((i.toNat : Nat) : Int) = i by omega] at this
    exact this
set_option maxHeartbeats 4000000 in
theorem fs_WireNums {Gl : Gh → Prop} (hst : Stays Gl) {marks : UInt8 × UInt8} {nums : List Int} {at2 : Int × Int} (_ : True) (hn : nums.length ≤ maxLen) (_ : True) : FS Tryd.prog Gl 7 [.agg [.int .u8 (marks.1.toNat : Int), .int .u8 (marks.2.toNat : Int)], intsV nums, .agg [.int .i64 at2.1, .int .i64 at2.2]] [] [] (.bool true) [] [] := by
  refine FS.of hm hst is_clavierlaw03WireNums (by simp) fun γ hγ hfr => ?_
  obtain ⟨p, f⟩ := marks
  obtain ⟨i0, o0⟩ := at2
  simp only [intsV] at hfr ⊢
  obtain ⟨pr, hpr⟩ : ∃ pr : Int, pr = (p.toNat : Int) := ⟨_, rfl⟩
  obtain ⟨fi, hfi⟩ : ∃ fi : Int, fi = (f.toNat : Int) := ⟨_, rfl⟩
  rw [← hpr, ← hfi] at hfr ⊢
  (generalize hQ : (fun (ex : Ex) (_ _ : Nat) (s : St) => _) = Q; unfold ir_clavierlaw03WireNums)
  simp +contextual (maxSteps := 1000000) only [go_sem, reduceCtorEq, ↓reduceIte, Nat.reduceAdd, Nat.reduceEqDiff, Nat.reduceLeDiff, Nat.reduceMul, Nat.reduceBEq, Int.reduceBEq, Int.reduceBNe, Int.reduceLT, Int.reduceLE, Int.reduceGT, Int.reduceGE, Int.reduceToNat]
  (refine CallP.pure (fs_awake03 hst) (fun _ => rfl) ?_; simp +contextual (maxSteps := 1000000) only [intsAV_length, go_sem, reduceCtorEq, ↓reduceIte, Nat.reduceAdd, Nat.reduceEqDiff, Nat.reduceLeDiff, Nat.reduceMul, Nat.reduceBEq, Int.reduceBEq, Int.reduceBNe, Int.reduceLT, Int.reduceLE, Int.reduceGT, Int.reduceGE, Int.reduceToNat])
  by_cases h30 : (nums.length : Int) > 30
  · have hd : decide ((nums.length : Int) > 30) = true := decide_eq_true h30
    simp +contextual (maxSteps := 1000000) only [hd, go_sem, reduceCtorEq, ↓reduceIte, Nat.reduceAdd, Nat.reduceEqDiff, Nat.reduceLeDiff, Nat.reduceMul, Nat.reduceBEq, Int.reduceBEq, Int.reduceBNe, Int.reduceLT, Int.reduceLE, Int.reduceGT, Int.reduceGE, Int.reduceToNat]
    rw [← hQ]
    exact ⟨trivial, Ret.flat rfl rfl⟩
  have hd : decide ((nums.length : Int) > 30) = false := decide_eq_false h30
  have c1 := fs_Num (Gl := Gl) hst (pr := pr) (fi := fi) (nums := nums) (tn := none) (by omega)
  have hc : (numSq 1 pr fi nums).c = [.int .i64 1, .int .u8 pr, .sl none 1 (parsAV (nums.map fun n => [n])), .str [], .int .u8 fi, .str []] := rfl
  have c2 := fs_Same (Gl := Gl) hst (a := numSq 1 pr fi nums) (b := numSq 1 pr fi nums) (by simp [numSq]; omega) (by simp [numSq]; omega) (by simp [numSq]) (by simp [numSq])
  have c3 := fs_wArgZ (Gl := Gl) hst (k := 1) (pr := pr) (fi := fi) (o := o0) (ps := nums.map fun n => [n]) (it := []) (da := []) (i := i0)
  have c4 := fs_rArgZ (Gl := Gl) hst (k := 1) (pr := pr) (fi := fi) (o := o0) (ps := nums.map fun n => [n]) (it := []) (da := []) (i := i0)
  rw [decide_eq_true rfl, hc] at c2
  rw [hc] at c1
  simp +contextual (maxSteps := 1000000) only [hd, go_sem, reduceCtorEq, ↓reduceIte, Nat.reduceAdd, Nat.reduceEqDiff, Nat.reduceLeDiff, Nat.reduceMul, Nat.reduceBEq, Int.reduceBEq, Int.reduceBNe, Int.reduceLT, Int.reduceLE, Int.reduceGT, Int.reduceGE, Int.reduceToNat]
  (refine CallP.pure (c1) (fun _ => rfl) ?_; simp +contextual (maxSteps := 1000000) only [go_sem, reduceCtorEq, ↓reduceIte, Nat.reduceAdd, Nat.reduceEqDiff, Nat.reduceLeDiff, Nat.reduceMul, Nat.reduceBEq, Int.reduceBEq, Int.reduceBNe, Int.reduceLT, Int.reduceLE, Int.reduceGT, Int.reduceGE, Int.reduceToNat])
  refine kLoop_ix (fun q : Nat × Option Nm => ⟨lf [(1, .sl none 1 (intsAV nums)), (5, .ptr (γ, 1, 0) 0), (7, .bool true), (8, .ptr (γ, 14, 0) 0), (9, .ptr (γ, 21, 0) 0), (10, .int .i64 q.1)], [((γ, 21, 0), .cells [.int .i64 1, .int .u8 pr, sv q.2 1 (parsAV ((nums.take q.1).map fun n => [n])), .str [], .int .u8 fi, .str []]), ((γ, 14, 0), .cells [.int .i64 1, .int .u8 pr, .sl none 1 (parsAV (nums.map fun n => [n])), .str [], .int .u8 fi, .str []]), ((γ, 1, 0), .cells [.int .i64 i0, .int .i64 o0]), ((γ, 0, 0), .cells [.int .u8 pr, .int .u8 fi])], fun x => q.2 = some x⟩)
    (fun q => q.1 ≤ nums.length ∧ (q.2 = none → q.1 = 0)) (fun q => nums.length - q.1) 0 (0, none) ?_ ⟨by simp, by simp⟩ ?_
  · refine Wk.perm' ?_ (fun p hp => hp) (fun t ht => by cases ht)
    simp only [lfOK, intsAV_length]
    repeat' first | exact AVle.refl _ _ | exact trivial | refine And.intro ?_ ?_ | exact AVle.int (by simp only [IntKind.wrap_i64]; omega)
  rintro γ' ⟨i, tk⟩ hf ⟨hi, htk⟩
  simp only at hi htk hf
  generalize hQ' : kIt _ _ _ _ _ = Q'
  unfold ir_clavierlaw03WireNums_l0
  by_cases hlt : i < nums.length
  · have hd : decide ((i : Int) < (nums.length : Int)) = true := decide_eq_true (by omega)
    have hg1 : (intsAV nums).getD i [] = [.int .i64 nums[i]] := intsAV_get hlt
    have hw : IntKind.i64.wrap ((i : Int) + 1) = ((i + 1 : Nat) : Int) := by rw [IntKind.wrap_i64]; omega
    have hsn : parsAV ((nums.take (i + 1)).map fun n => [n]) = parsAV ((nums.take i).map fun n => [n]) ++ [[intsV [nums[i]]]] := by
      rw [List.take_add_one, List.getElem?_eq_getElem hlt, List.map_append]
      unfold parsAV
      rw [List.map_append]; rfl
    have hln : (parsAV ((nums.take i).map fun n => [n])).length = i := by rw [parsAV_length, List.length_map, List.length_take]; omega
    cases tk with
    | none =>
      obtain rfl := htk rfl
      have hd0 : decide (0 < (nums.length : Int)) = true := decide_eq_true (by omega)
      have hg0 : (intsAV nums).getD 0 [] = [.int .i64 nums[0]] := hg1
      simp +contextual (maxSteps := 1000000) only [hd0, hg0, Int.toNat_natCast, intsAV_length, Int.toNat_zero, go_sem, reduceCtorEq, ↓reduceIte, Nat.reduceAdd, Nat.reduceEqDiff, Nat.reduceLeDiff, Nat.reduceMul, Nat.reduceBEq, Int.reduceBEq, Int.reduceBNe, Int.reduceLT, Int.reduceLE, Int.reduceGT, Int.reduceGE, Int.reduceToNat]
      refine ⟨by omega, ?_⟩
      rw [← hQ']
      simp only [w_kIt_n]
      refine ⟨0, (1, some (γ', 12, 0)), Wk.perm' ?_ (fun p hp => ?_) (fun t ht => ?_), ⟨by simp only; omega, by simp⟩, by simp only; omega⟩
      · repeat' first | exact AVle.refl _ _ | exact trivial | refine And.intro ?_ ?_ | exact AVle.int (by simp only [IntKind.wrap_i64]; omega)
      · have e : sv (some ((γ', 12, 0) : Nm)) 1 (parsAV ((nums.take 1).map fun n => [n])) = .sl (some (γ', 12, 0)) 1 [[.sl none 1 [[.int .i64 nums[0]]]]] := by
          rw [show nums.take 1 = [nums[0]] by cases nums with | nil => simp at hlt | cons x l => rfl]; rfl
        simp only [e] at hp
        exact hp
      · simp only [Option.some.injEq] at ht
        subst ht
        simp
    | some t0 =>
      simp +contextual (maxSteps := 1000000) only [hd, hg1, Int.toNat_natCast, intsAV_length, hln, go_sem, reduceCtorEq, ↓reduceIte, Nat.reduceAdd, Nat.reduceEqDiff, Nat.reduceLeDiff, Nat.reduceMul, Nat.reduceBEq, Int.reduceBEq, Int.reduceBNe, Int.reduceLT, Int.reduceLE, Int.reduceGT, Int.reduceGE, Int.reduceToNat]
      refine ⟨⟨by omega, by omega⟩, .inl trivial, by omega, by simp, ?_⟩
      rw [← hQ']
      simp only [w_kIt_n]
      refine ⟨0, (i + 1, some (γ', 12, 0)), Wk.perm' ?_ (fun p hp => ?_) (fun t ht => ?_), ⟨by simp only; omega, by simp⟩, by simp only; omega⟩
      · rw [hw]
        repeat' first | exact AVle.refl _ _ | exact trivial | refine And.intro ?_ ?_ | exact AVle.int (by simp only [IntKind.wrap_i64]; omega)
      · simp only [sv_some, hsn] at hp
        exact hp
      · simp only [Option.some.injEq] at ht
        subst ht
        refine ⟨.inl (by simp), fun e => ?_⟩
        exact hf.2.2 t0 (by simp) (by rw [← e])
  · have hd : decide ((i : Int) < (nums.length : Int)) = false := decide_eq_false (by omega)
    simp +contextual (maxSteps := 1000000) only [hd, intsAV_length, go_sem, reduceCtorEq, ↓reduceIte, Nat.reduceAdd, Nat.reduceEqDiff, Nat.reduceLeDiff, Nat.reduceMul, Nat.reduceBEq, Int.reduceBEq, Int.reduceBNe, Int.reduceLT, Int.reduceLE, Int.reduceGT, Int.reduceGE, Int.reduceToNat]
    rw [← hQ']
    simp only [w_kIt_e, w_kBlk_e, ↓reduceIte]
    have hall : nums.take i = nums := List.take_of_length_le (by omega)
    have qs : ∀ n : Int, (n == n) = true := by simp
    cases tk with
    | none =>
      obtain rfl := htk rfl
      have hn0 : nums = [] := List.length_eq_zero_iff.1 (by omega)
      subst hn0
      have d2 := c2.args (args := [.agg [.int .i64 1, .int .u8 pr, .sl none 1 (parsAV (([] : List Int).map fun n => [n])), .str [], .int .u8 fi, .str []], .agg [.int .i64 1, .int .u8 pr, .nils, .str [], .int .u8 fi, .str []]]) ⟨.refl _, RepLe.agg ⟨.refl _, .refl _, .nils 1, .refl _, .refl _, .refl _, trivial⟩, trivial⟩
      have d4 := c4.args (args := [.agg [.int .i64 1, .int .u8 pr, .nils, .str [], .int .u8 fi, .str []], .int .i64 i0, .int .i64 o0]) ⟨RepLe.agg ⟨.refl _, .refl _, .nils 1, .refl _, .refl _, .refl _, trivial⟩, .refl _, .refl _, trivial⟩
      generalize argZ _ i0 o0 = z at *
      generalize parsAV (([] : List Int).map fun n => [n]) = rows at *
      simp +contextual (maxSteps := 1000000) only [go_sem, reduceCtorEq, ↓reduceIte, Nat.reduceAdd, Nat.reduceEqDiff, Nat.reduceLeDiff, Nat.reduceMul, Nat.reduceBEq, Int.reduceBEq, Int.reduceBNe, Int.reduceLT, Int.reduceLE, Int.reduceGT, Int.reduceGE, Int.reduceToNat]
      refine DCall.new d2 ?_
      simp +contextual (maxSteps := 1000000) only [go_sem, reduceCtorEq, ↓reduceIte, Nat.reduceAdd, Nat.reduceEqDiff, Nat.reduceLeDiff, Nat.reduceMul, Nat.reduceBEq, Int.reduceBEq, Int.reduceBNe, Int.reduceLT, Int.reduceLE, Int.reduceGT, Int.reduceGE, Int.reduceToNat]
      refine DCall.new c3 ?_
      simp +contextual (maxSteps := 1000000) only [go_sem, reduceCtorEq, ↓reduceIte, Nat.reduceAdd, Nat.reduceEqDiff, Nat.reduceLeDiff, Nat.reduceMul, Nat.reduceBEq, Int.reduceBEq, Int.reduceBNe, Int.reduceLT, Int.reduceLE, Int.reduceGT, Int.reduceGE, Int.reduceToNat]
      refine DCall.new d4 ?_
      simp +contextual (maxSteps := 1000000) only [qs, go_sem, reduceCtorEq, ↓reduceIte, Nat.reduceAdd, Nat.reduceEqDiff, Nat.reduceLeDiff, Nat.reduceMul, Nat.reduceBEq, Int.reduceBEq, Int.reduceBNe, Int.reduceLT, Int.reduceLE, Int.reduceGT, Int.reduceGE, Int.reduceToNat]
      rw [← hQ]
      exact ⟨trivial, Ret.flat rfl rfl⟩
    | some t0 =>
      have d2 := c2.args (args := [.agg [.int .i64 1, .int .u8 pr, .sl none 1 (parsAV (nums.map fun n => [n])), .str [], .int .u8 fi, .str []], .agg [.int .i64 1, .int .u8 pr, .sl (some t0) 1 (parsAV (nums.map fun n => [n])), .str [], .int .u8 fi, .str []]]) ⟨.refl _, RepLe.agg ⟨.refl _, .refl _, .anon' rfl, .refl _, .refl _, .refl _, trivial⟩, trivial⟩
      have d4 := c4.args (args := [.agg [.int .i64 1, .int .u8 pr, .sl (some t0) 1 (parsAV (nums.map fun n => [n])), .str [], .int .u8 fi, .str []], .int .i64 i0, .int .i64 o0]) ⟨RepLe.agg ⟨.refl _, .refl _, .anon' rfl, .refl _, .refl _, .refl _, trivial⟩, .refl _, .refl _, trivial⟩
      rw [hall]
      generalize argZ _ i0 o0 = z at *
      generalize parsAV (nums.map fun n => [n]) = rows at *
      simp +contextual (maxSteps := 1000000) only [go_sem, reduceCtorEq, ↓reduceIte, Nat.reduceAdd, Nat.reduceEqDiff, Nat.reduceLeDiff, Nat.reduceMul, Nat.reduceBEq, Int.reduceBEq, Int.reduceBNe, Int.reduceLT, Int.reduceLE, Int.reduceGT, Int.reduceGE, Int.reduceToNat]
      refine DCall.new d2 ?_
      simp +contextual (maxSteps := 1000000) only [go_sem, reduceCtorEq, ↓reduceIte, Nat.reduceAdd, Nat.reduceEqDiff, Nat.reduceLeDiff, Nat.reduceMul, Nat.reduceBEq, Int.reduceBEq, Int.reduceBNe, Int.reduceLT, Int.reduceLE, Int.reduceGT, Int.reduceGE, Int.reduceToNat]
      refine DCall.new c3 ?_
      simp +contextual (maxSteps := 1000000) only [go_sem, reduceCtorEq, ↓reduceIte, Nat.reduceAdd, Nat.reduceEqDiff, Nat.reduceLeDiff, Nat.reduceMul, Nat.reduceBEq, Int.reduceBEq, Int.reduceBNe, Int.reduceLT, Int.reduceLE, Int.reduceGT, Int.reduceGE, Int.reduceToNat]
      refine DCall.new d4 ?_
      simp +contextual (maxSteps := 1000000) only [qs, go_sem, reduceCtorEq, ↓reduceIte, Nat.reduceAdd, Nat.reduceEqDiff, Nat.reduceLeDiff, Nat.reduceMul, Nat.reduceBEq, Int.reduceBEq, Int.reduceBNe, Int.reduceLT, Int.reduceLE, Int.reduceGT, Int.reduceGE, Int.reduceToNat]
      rw [← hQ]
      exact ⟨trivial, Ret.flat rfl rfl⟩
end Go.Proofs.YtfnngjnfajnpaaaDoor

namespace Go.Proofs.YtfnngjnfajnpaaaDoor
open Go Go.Ab Go.WideShapes Go.RowKit
theorem seat_own : ownKnob Tryd.prog.godebug = none := by kernel_rfl
theorem seat_laidOut : laidOutB Tryd.prog = true := by kernel_rfl
section
variable {H : Type} {enc : TypeId × Value → H} {W : World} {base : Nat} {v : Value} {d : DataW H} {p : List MemPlace}
theorem u8_of {n : Int} (h1 : IntKind.u8.min ≤ n) (h2 : n ≤ IntKind.u8.max) : ∃ c : UInt8, (c.toNat : Int) = n := by
  have h1' : 0 ≤ n := by simpa [IntKind.min, IntKind.signed] using h1
  have h2' : n ≤ 255 := by simpa [IntKind.max, IntKind.signed, IntKind.bits] using h2
  refine ⟨UInt8.ofNat n.toNat, ?_⟩
  rw [UInt8.toNat_ofNat', Nat.mod_eq_of_lt (by omega)]; omega
end
end Go.Proofs.YtfnngjnfajnpaaaDoor

namespace Go.Proofs.YtfnngjnfajnpaaaDoor
open Go Go.Ab
end Go.Proofs.YtfnngjnfajnpaaaDoor

namespace Go.Proofs.YtfnngjnfajnpaaaDoor
open Go Go.Ab
theorem fixW_of5 {W : World} (h : laidMetH Tryd.prog [("math/bits.deBruijn32tab", Rows.laid_math_bits_deBruijn32tab), ("math/bits.deBruijn64tab", Rows.laid_math_bits_deBruijn64tab), ("internal/strconv.uint64pow10", Rows.laid_internal_strconv_uint64pow10), ("unicode/utf8.acceptRanges", Rows.laid_unicode_utf8_acceptRanges), ("unicode/utf8.first", Rows.laid_unicode_utf8_first)] W) : FixW W := by
  rw [MakeChecks.laidMetH_plain _ _ _ (by kernel_rfl)] at h
  have h2 := laidMet.filter (fun x => x.1 == "internal/strconv.uint64pow10") h
  have h3 : laidMet Tryd.prog [("internal/strconv.uint64pow10", Lib.tabData .u64 Lib.pow10Tab)] W := h2
  have h4 := Lib.tabIs_of_head (g := 3) (t := 140) (e := 130) (n := 20) (by kernel_rfl) (by kernel_rfl) (by kernel_rfl) (by kernel_rfl) (by kernel_rfl) (by kernel_rfl) h3
  intro p hp
  obtain rfl := List.mem_singleton.1 hp
  unfold Lib.TabIs World.var? at h4
  rw [show Program.globalNamed Tryd.prog "internal/strconv.uint64pow10" = some 3 from by kernel_rfl] at h4
  simp only [Option.bind_some] at h4
  split at h4
  · rename_i cs e fr hh
    simp only [Option.some.injEq] at h4
    refine ⟨e, fr, ?_⟩
    rw [hh, h4]
    simp [Lib.pow10Tab]
  · cases h4
end Go.Proofs.YtfnngjnfajnpaaaDoor

namespace Go.Proofs.YtfnngjnfajnpaaaDoor
open Go Go.Ab Go.WideShapes Go.RowKit
section
variable {H : Type} {enc : TypeId × Value → H} {W : World} {base : Nat} {v : Value} {d : DataW H} {p : List MemPlace}
theorem ints_of : ∀ {rows : List (List AV)}, (∀ r ∈ rows, ∃ n : Int, r = [.int .i64 n] ∧ IntKind.i64.min ≤ n ∧ n ≤ IntKind.i64.max) → ∃ l : List Int, rows = intsAV l
  | [], _ => ⟨[], rfl⟩
  | r :: rows, h => by
    obtain ⟨n, rfl, _⟩ := h r List.mem_cons_self
    obtain ⟨l, rfl⟩ := ints_of (rows := rows) fun r hr => h r (List.mem_cons_of_mem _ hr)
    exact ⟨n :: l, rfl⟩
theorem tr_ints : TR enc Tryd.prog W 44 fun xs => ∃ l : List Int, xs = [intsV l] ∧ l.length ≤ maxLen := by
  refine (TR.slice (e := 3) (sz := 1) (by kernel_rfl) (by kernel_rfl) (by omega) (TR.int (k := .i64) (by kernel_rfl))).mono ?_
  rintro xs ⟨rows, rfl, h1, h2⟩
  obtain ⟨l, rfl⟩ := ints_of fun r hr => (h2 r hr).1
  exact ⟨l, rfl, by rwa [intsAV_length] at h1⟩
end
end Go.Proofs.YtfnngjnfajnpaaaDoor

namespace Go.Proofs.YtfnngjnfajnpaaaDoor
open Go Go.Ab Go.WideShapes Go.RowKit
def zero_2int : Value := .agg #[.int .i64 0, .int .i64 0]
def zero_2uint8 : Value := .agg #[.int .u8 0, .int .u8 0]
section
variable {H : Type} {enc : TypeId × Value → H} {W : World} {base : Nat} {v : Value} {d : DataW H} {p : List MemPlace}
theorem op_ints (hv : Value.okWide Tryd.prog W .any base 44 v) (hd : DataW.Trod enc Tryd.prog W 0 (fun _ => true) true 44 v d p) : ∃ l : List Int, l.length ≤ maxLen ∧ Rep (gh0 W) (intsV l) v := by
  obtain ⟨a, len, cap, rfl⟩ := okWide_slice (P := Tryd.prog) (e := 3) (by kernel_rfl) hv
  obtain ⟨x, ⟨l, h1, h2⟩, hr⟩ := tr_ints.arg1 rfl hd
  simp only [List.cons.injEq, and_true] at h1
  subst h1
  exact ⟨l, h2, hr⟩
theorem okWide_arr {t e : TypeId} {n base : Nat} {v : Value} {r : Reach} (h : Tryd.prog.underlying t = some (.array n e)) (hv : Value.okWide Tryd.prog W r base t v) : ∃ cs, v = .agg cs := by
  simp only [Value.okWide, h] at hv
  obtain ⟨cs, h, _⟩ := hv
  exact ⟨cs, h⟩
theorem tr_u8' : TR enc Tryd.prog W 5 fun xs => ∃ c : UInt8, xs = [.int .u8 (c.toNat : Int)] := by
  refine (TR.int (k := .u8) (by kernel_rfl)).mono ?_
  rintro xs ⟨n, rfl, h1, h2⟩
  obtain ⟨c, rfl⟩ := u8_of h1 h2
  exact ⟨c, rfl⟩
theorem op_2uint8 (hv : Value.okWide Tryd.prog W .any base 43 v) (hd : DataW.Trod enc Tryd.prog W 0 (fun _ => true) true 43 v d p) : ∃ ab : UInt8 × UInt8, True ∧ Rep (gh0 W) (.agg [.int .u8 (ab.1.toNat : Int), .int .u8 (ab.2.toNat : Int)]) v := by
  obtain ⟨cs, rfl⟩ := okWide_arr (n := 2) (e := 5) (by kernel_rfl) hv
  obtain ⟨xs, ⟨_, _, ⟨a, rfl⟩, ⟨_, _, ⟨b, rfl⟩, h, rfl⟩, rfl⟩, hr⟩ := (TR.array (n := 2) (e := 5) (sz := 1) (by kernel_rfl) (by kernel_rfl) (by kernel_rfl) tr_u8').argN hd
  have h : _ = [] := h
  subst h
  exact ⟨(a, b), trivial, hr⟩
theorem op_2int (hv : Value.okWide Tryd.prog W .any base 45 v) (hd : DataW.Trod enc Tryd.prog W 0 (fun _ => true) true 45 v d p) : ∃ ab : Int × Int, True ∧ Rep (gh0 W) (.agg [.int .i64 ab.1, .int .i64 ab.2]) v := by
  obtain ⟨cs, rfl⟩ := okWide_arr (n := 2) (e := 3) (by kernel_rfl) hv
  obtain ⟨xs, ⟨_, _, ⟨a, rfl, _⟩, ⟨_, _, ⟨b, rfl, _⟩, h, rfl⟩, rfl⟩, hr⟩ := (TR.array (n := 2) (e := 3) (sz := 1) (by kernel_rfl) (by kernel_rfl) (by kernel_rfl) (TR.int (k := .i64) (by kernel_rfl))).argN hd
  have h : _ = [] := h
  subst h
  exact ⟨(a, b), trivial, hr⟩
end
end Go.Proofs.YtfnngjnfajnpaaaDoor

namespace Go.Proofs.YtfnngjnfajnpaaaDoor
open Go Go.Ab Go.ChangeShapes Go.WideShapes Go.ChangeAt Go.RowKit
theorem wireNums_lifted (os : Os) (started : os.Started) (H : Type) (enc : TypeId × Value → H) (F : Stop.Interp) :
    ReturnsInHanded {} Tryd.checked os 7 .any ((OpenSpec.ofChange Rows.wireNumsSpec).preRow enc Tryd.prog Tryd.f7 Rows.wireNumsRow.domain false Rows.wireNumsRow.laid) (((OpenSpec.ofChange Rows.wireNumsSpec).at F).post enc Tryd.prog Tryd.f7 false true false false) := by
  have hw : (DataW.whole enc Tryd.prog ((World.laidAll Tryd.prog os [("math/bits.deBruijn32tab", Rows.laid_math_bits_deBruijn32tab), ("math/bits.deBruijn64tab", Rows.laid_math_bits_deBruijn64tab), ("internal/strconv.uint64pow10", Rows.laid_internal_strconv_uint64pow10), ("unicode/utf8.acceptRanges", Rows.laid_unicode_utf8_acceptRanges), ("unicode/utf8.first", Rows.laid_unicode_utf8_first)]).forCall (fun _ _ => 0) ⟨#[], #[zero_2uint8, .slice none 0 0, zero_2int], []⟩).memory Tryd.f7.params.toList (OpenSpec.ofChange Rows.wireNumsSpec).vars false (#[zero_2uint8, .slice none 0 0, zero_2int] : Array Value).toList 8).any (fun x => true) = true := by kernel_rfl
  cases hx : DataW.whole enc Tryd.prog ((World.laidAll Tryd.prog os [("math/bits.deBruijn32tab", Rows.laid_math_bits_deBruijn32tab), ("math/bits.deBruijn64tab", Rows.laid_math_bits_deBruijn64tab), ("internal/strconv.uint64pow10", Rows.laid_internal_strconv_uint64pow10), ("unicode/utf8.acceptRanges", Rows.laid_unicode_utf8_acceptRanges), ("unicode/utf8.first", Rows.laid_unicode_utf8_first)]).forCall (fun _ _ => 0) ⟨#[], #[zero_2uint8, .slice none 0 0, zero_2int], []⟩).memory Tryd.f7.params.toList (OpenSpec.ofChange Rows.wireNumsSpec).vars false (#[zero_2uint8, .slice none 0 0, zero_2int] : Array Value).toList 8 with
  | none => rw [hx] at hw; cases hw
  | some x =>
  rw [hx] at hw
  have hok : Input.okWideB Tryd.checked.prog ((World.laidAll Tryd.prog os [("math/bits.deBruijn32tab", Rows.laid_math_bits_deBruijn32tab), ("math/bits.deBruijn64tab", Rows.laid_math_bits_deBruijn64tab), ("internal/strconv.uint64pow10", Rows.laid_internal_strconv_uint64pow10), ("unicode/utf8.acceptRanges", Rows.laid_unicode_utf8_acceptRanges), ("unicode/utf8.first", Rows.laid_unicode_utf8_first)]).forCall (fun _ _ => 0) ⟨#[], #[zero_2uint8, .slice none 0 0, zero_2int], []⟩) 7 ⟨#[], #[zero_2uint8, .slice none 0 0, zero_2int], []⟩ = true := by kernel_rfl
  refine returnsInHanded_of_row (C := Tryd.checked) (s := (OpenSpec.ofChange Rows.wireNumsSpec)) seat_own started (by kernel_rfl) Tryd.func7
    ⟨World.laidAll Tryd.prog os [("math/bits.deBruijn32tab", Rows.laid_math_bits_deBruijn32tab), ("math/bits.deBruijn64tab", Rows.laid_math_bits_deBruijn64tab), ("internal/strconv.uint64pow10", Rows.laid_internal_strconv_uint64pow10), ("unicode/utf8.acceptRanges", Rows.laid_unicode_utf8_acceptRanges), ("unicode/utf8.first", Rows.laid_unicode_utf8_first)], fun _ _ => 0, ⟨#[], #[zero_2uint8, .slice none 0 0, zero_2int], []⟩, World.laidAll_os _ _ _, World.shaped_of_ZipB (by kernel_rfl) (by kernel_rfl), (Input.okWide_of_okWideB (base := 0) hok).1, (Input.okWide_of_okWideB hok).2,
      OpenSpec.preRow_of_cond 8 hx (by kernel_rfl) (fun k hk => by cases hk) (by kernel_rfl) (by rw [show Rows.wireNumsRow.laid = [("math/bits.deBruijn32tab", Rows.laid_math_bits_deBruijn32tab), ("math/bits.deBruijn64tab", Rows.laid_math_bits_deBruijn64tab), ("internal/strconv.uint64pow10", Rows.laid_internal_strconv_uint64pow10), ("unicode/utf8.acceptRanges", Rows.laid_unicode_utf8_acceptRanges), ("unicode/utf8.first", Rows.laid_unicode_utf8_first)] from rfl, MakeChecks.laidMetH_plain _ _ _ (by kernel_rfl)]; exact laidMet_laidAll _ (by kernel_rfl) (by kernel_rfl)),
      by simp only [Assume.holds]; exact ⟨by simp, by simp, fun _ => Modest.zero, by simp, by simp⟩⟩ ?_
  intro W base args ds gs before hval0 hW _ hcond hreach hL _ _
  have hval : ∀ (j : Nat) t v, Tryd.f7.params[j]? = some t → args[j]? = some v → Value.okWide Tryd.prog W .any base t v := hval0
  have hW' := hW
  obtain ⟨p, q, hA0, hV, rfl, _, _⟩ := hW
  have hA : DataW.TrodAll enc Tryd.prog W 0 (fun _ => true) true Tryd.f7.params.toList args.toList ds p := hA0
  rw [Tryd.params7] at hA hval
  obtain ⟨v0, vs0, d0, ds0, p0, q0, hargs, rfl, rfl, h0, r0⟩ := trodAll_cons hA
  obtain ⟨v1, vs1, d1, ds1, p1, q1, rfl, rfl, rfl, h1, r1⟩ := trodAll_cons r0
  obtain ⟨v2, vs2, d2, ds2, p2, q2, rfl, rfl, rfl, h2, r2⟩ := trodAll_cons r1
  obtain ⟨rfl, rfl, rfl⟩ := trodAll_nil r2
  obtain rfl : args = #[v0, v1, v2] := by cases args; simp_all
  obtain ⟨rfl, rfl⟩ := trodVars_none hV
  have lt0 : ∀ x ∈ p0, x.block < W.heap.size := by obtain ⟨m, hm⟩ := h0; exact DataW.trod_lt m _ _ _ hm
  obtain ⟨x0, c0, e0⟩ := op_2uint8 (hval 0 43 v0 rfl rfl) h0
  have lt1 : ∀ x ∈ p1, x.block < W.heap.size := by obtain ⟨m, hm⟩ := h1; exact DataW.trod_lt m _ _ _ hm
  obtain ⟨x1, c1, e1⟩ := op_ints (hval 1 44 v1 rfl rfl) h1
  have lt2 : ∀ x ∈ p2, x.block < W.heap.size := by obtain ⟨m, hm⟩ := h2; exact DataW.trod_lt m _ _ _ hm
  obtain ⟨x2, c2, e2⟩ := op_2int (hval 2 45 v2 rfl rfl) h2
  clear hA0 hval0
  refine ((fs_WireNums (Gl := fun _ => True) (fun _ _ _ _ => trivial) c0 c1 c2).row (fixW_of5 hL) trivial ⟨_, _, rfl, e0, ⟨_, _, rfl, e1, ⟨_, _, rfl, e2, rfl⟩⟩⟩).mono fun e W' ⟨v, g', he, hr, bel⟩ => ?_
  obtain rfl : v = .bool true := hr
  subst he
  exact ⟨_, rfl, _, _, _, [], _, [], hW', trodAll_mk1 (shut_bool (show Tryd.prog.underlying 4 = some .bool by kernel_rfl) _), (trodAll_cons_mk (Below.trod seat_laidOut (by kernel_rfl) (of_decide_eq_true (by kernel_rfl)) h0 bel lt0) (trodAll_cons_mk (Below.trod seat_laidOut (by kernel_rfl) (of_decide_eq_true (by kernel_rfl)) h1 bel lt1) (trodAll_cons_mk (Below.trod seat_laidOut (by kernel_rfl) (of_decide_eq_true (by kernel_rfl)) h2 bel lt2) trodAll_mk0))), rfl, bel.frame _, fun h => by cases h⟩
theorem wireNums_holds : Rows.WireNumsSaid :=
  OpenClaim.holds_of_cond 7 Tryd.f7 rfl rfl rfl rfl rfl rfl rfl ⟨rfl, rfl, rfl, rfl, rfl⟩ rfl rfl rfl rfl rfl (by kernel_rfl) Tryd.func7 (by kernel_rfl)
    (of_decide_eq_true (by kernel_rfl)) (by unfold Func.isWrapper; first | (rw [if_pos (by decide +kernel)]; kernel_rfl) | (rw [if_neg (by decide +kernel)]; exact ⟨rfl, rfl⟩))
    (fun os started H enc _ F => by rw [OpenClaim.pre_eq_preRow]; exact wireNums_lifted os started H enc F)
theorem wireNums_card : Rows.WireNumsCardSaid :=
  Claim7.holds_tied_plain_at .later [] [.data, .data, .data, .data, .pinned] true (true, "113f882a1d9b5ae28fc18c7513d7d140d4f0d31d64ac4f6eb536983bb8a1d247") false wireNums_holds (fun _ h => by cases h) (by kernel_rfl) (fun _ h => by cases h) wireNums_row_tie rfl ⟨rfl, rfl⟩ (by kernel_rfl) rfl
    (fun f fn hf hfn => by
      obtain rfl : f = 7 := Option.some.inj ((show Tryd.prog.funcNamed "clavier/clavierlaw03.WireNums" = some 7 by kernel_rfl).symm.trans hf) |>.symm
      obtain rfl : fn = Tryd.f7 := (Option.some.inj (Tryd.func7.symm.trans hfn)).symm
      exact ⟨by kernel_rfl, fun j t ht => by
        rw [Tryd.params7] at ht
        have hm : t ∈ ([43, 44, 45] : List Nat) := by simpa using Array.mem_of_getElem? ht
        have hall : (([43, 44, 45] : List Nat).all fun u => !Tryd.prog.wantsStandIn u) = true := by kernel_rfl
        exact (show Tryd.prog.wantsStandIn t = false by simpa using List.all_eq_true.1 hall t hm)⟩)
    (by kernel_rfl)
#print axioms wireNums_card
end Go.Proofs.YtfnngjnfajnpaaaDoor

