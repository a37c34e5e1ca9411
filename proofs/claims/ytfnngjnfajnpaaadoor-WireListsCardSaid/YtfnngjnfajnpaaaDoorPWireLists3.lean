/- Part 3 of 3 of a proof: the given statement WireLists, whatever the input that its row lets in. Conditions: those of the given row and card alone. -/
import Derived.Test.YtfnngjnfajnpaaaDoorPWireLists2
import Derived.Test.YtfnngjnfajnpaaaDoorPWireListsAb13
import Derived.WalkKit
import Derived.ProofKit
import Derived.SizedLaws
import Derived.Test.YtfnngjnfajnpaaaDoorRows
import Derived.LaidSub
import Derived.Lib.LaidTab
import Derived.Lib.ItoaNum
import Derived.MakeChecks
import Derived.Test.YtfnngjnfajnpaaaDoorCards
import Derived.Test.YtfnngjnfajnpaaaDoorTie
import Derived.Deep.DeepHandedRow
import Derived.JoinedCond
import Derived.OpenShut
import Derived.ShutString
import Derived.ChangeOld
import Derived.Below
import Derived.Lay
import Derived.LaidOnce
import Derived.SevenTiedAt
set_option linter.unusedVariables false
set_option linter.unusedSimpArgs false
set_option maxRecDepth 100000
namespace Go.Proofs.YtfnngjnfajnpaaaDoor
open Go Go.Ab
def ir_wireArg : ICode :=
 (.seq
 (.reg [⟨some 3, none, .box 24 (.t 0)⟩,
 ⟨some 6, none, .mov (.c (.int .i64 0))⟩] (some [1, 2, 3]))
 (.seq
 (.seq
 (.reg [⟨some 7, none, .mov (.t 1)⟩,
 ⟨some 8, none, .bin .lss .none (.t 7) (.c (.int .i64 0))⟩,
 ⟨some 9, none, .mov (.t 8)⟩,
 ⟨some 10, some (9, false), .mov (.t 1)⟩,
 ⟨some 11, some (9, false), .fa 2 (.t 3)⟩,
 ⟨some 12, some (9, false), .ld none (.t 11)⟩,
 ⟨some 13, some (9, false), .len (.t 12)⟩,
 ⟨some 14, some (9, false), .bin .geq .none (.t 10) (.t 13)⟩,
 ⟨some 15, none, .pick (.t 9) (.c (.bool true)) (.t 14)⟩,
 ⟨some 16, none, .mov (.t 15)⟩,
 ⟨some 17, some (16, false), .fa 2 (.t 3)⟩,
 ⟨some 18, some (16, false), .ld none (.t 17)⟩,
 ⟨some 19, some (16, false), .mov (.t 1)⟩,
 ⟨some 20, some (16, false), .ia 1 (.t 18) (.t 19)⟩,
 ⟨some 21, some (16, false), .ld none (.t 20)⟩,
 ⟨some 22, some (16, false), .len (.t 21)⟩,
 ⟨some 23, some (16, false), .bin .eql .none (.t 22) (.c (.int .i64 0))⟩,
 ⟨some 24, none, .pick (.t 16) (.c (.bool true)) (.t 23)⟩,
 ⟨some 25, none, .mov (.t 24)⟩,
 ⟨some 26, some (25, false), .fa 2 (.t 3)⟩,
 ⟨some 27, some (25, false), .ld none (.t 26)⟩,
 ⟨some 28, some (25, false), .mov (.t 1)⟩,
 ⟨some 29, some (25, false), .ia 1 (.t 27) (.t 28)⟩,
 ⟨some 30, some (25, false), .ld none (.t 29)⟩,
 ⟨some 31, some (25, false), .ia 1 (.t 30) (.c (.int .i64 0))⟩,
 ⟨some 32, some (25, false), .ld none (.t 31)⟩,
 ⟨some 33, some (25, false), .bin .lss .none (.t 32) (.c (.int .i64 0))⟩,
 ⟨some 34, none, .pick (.t 25) (.c (.bool true)) (.t 33)⟩] (some [1, 2, 3, 34]))
 (.cond (.t 34)
 (.seq
 (.reg [⟨some 35, none, .mov (.t 2)⟩,
 ⟨some 6, none, .mov (.t 35)⟩] (some [6]))
 .ret)
 .skip))
 (.seq
 (.reg [⟨some 36, none, .fa 2 (.t 3)⟩,
 ⟨some 37, none, .ld none (.t 36)⟩,
 ⟨some 38, none, .mov (.t 1)⟩,
 ⟨some 39, none, .ia 1 (.t 37) (.t 38)⟩,
 ⟨some 40, none, .ld none (.t 39)⟩,
 ⟨some 41, none, .ia 1 (.t 40) (.c (.int .i64 0))⟩,
 ⟨some 42, none, .ld none (.t 41)⟩,
 ⟨some 6, none, .mov (.t 42)⟩] (some [6]))
 .ret)))
theorem is_wireArg : IrOf Tryd.prog 22 43 ir_wireArg [.t 6] := ⟨_, Tryd.func22, rfl, by kernel_rfl, by kernel_rfl, by kernel_rfl⟩

theorem dcs_of_len {b : List UInt8} (h : (readW b).2 ≤ b.length) : dcsOk b := by
  intro h1 h2
  unfold readW at h
  rw [if_neg (not_not_intro h1)] at h
  simp only at h
  rw [h2] at h
  rw [if_neg (by decide), if_neg (by decide), if_pos rfl] at h
  simp only at h
  omega
theorem fi_may {s : Sq} (h : mayP s = 0) : s.fi < 128 := by
  have h1 := (mayF h).sh
  unfold shapedP at h1
  repeat' split at h1
  all_goals simp only [Bool.and_eq_true, decide_eq_true_eq, beq_iff_eq, Bool.false_eq_true] at h1
  all_goals omega
theorem take_may {s : Sq} (h : mayP s = 0) (more : List UInt8) : dcsOk (putB s ++ more) ∧ (readW (putB s ++ more)).1.fi < 128 ∧ takeV (putB s ++ more) = .tup [.agg s.c, .int .i64 (putB s).length, .int .i64 0] := by
  have h1 := readW_put h more
  refine ⟨dcs_of_len (by rw [h1]; simp), by rw [h1]; exact fi_may h, ?_⟩
  unfold takeV
  rw [takeW_put h]
theorem putX_may {s : Sq} (h : mayP s = 0) : putX s = putB s := by unfold putX; rw [h]; rfl
def argW (ps : List (List Int)) (i : Nat) (o : Int) : Int := match ps[i]? with
  | some (x :: _) => if x < 0 then o else x
  | _ => o
theorem fs_wArg {Gl : Gh → Prop} (hst : Stays Gl) {k pr fi o : Int} {ps : List (List Int)} {it da : List UInt8} {i : Nat} : FS Tryd.prog Gl 22 [.agg [.int .i64 k, .int .u8 pr, .sl none 1 (parsAV ps), .str it, .int .u8 fi, .str da], .int .i64 (i : Int), .int .i64 o] [] [] (.int .i64 (argW ps i o)) [] [] := by
  refine FS.of hm hst is_wireArg (by simp) fun γ hγ hfr => ?_
  (generalize hQ : (fun (ex : Ex) (_ _ : Nat) (s : St) => _) = Q; unfold ir_wireArg)
  have h0 : decide ((i : Int) < 0) = false := by simp
  by_cases hlt : i < ps.length
  · have h1 : decide ((i : Int) ≥ (ps.length : Int)) = false := by simp; omega
    have hg : (parsAV ps).getD i [] = [intsV ps[i]] := by
      rw [List.getD_eq_getElem?_getD]; simp [parsAV, hlt]
    have hi : intsV ps[i] = .sl none 1 (intsAV ps[i]) := rfl
    cases hp : ps[i] with
    | nil =>
      rw [hi, hp] at hg
      have ha : argW ps i o = o := by unfold argW; rw [List.getElem?_eq_getElem hlt, hp]
      have hl : (((intsAV ([] : List Int)).length : Int) == 0) = true := rfl
      simp +contextual (maxSteps := 1000000) only [h0, h1, hg, hl, parsAV_length, Int.toNat_natCast, go_sem, reduceCtorEq, ↓reduceIte, Nat.reduceAdd, Nat.reduceEqDiff, Nat.reduceLeDiff, Nat.reduceMul, Nat.reduceBEq, Int.reduceBEq, Int.reduceBNe, Int.reduceLT, Int.reduceLE, Int.reduceGT, Int.reduceGE, Int.reduceToNat]
      refine ⟨by omega, ?_⟩
      rw [← hQ, ha]
      exact ⟨trivial, Ret.flat rfl rfl⟩
    | cons x l =>
      rw [hi, hp] at hg
      have hg0 : (intsAV (x :: l)).getD 0 [] = [.int .i64 x] := rfl
      have hl : (((intsAV (x :: l)).length : Int) == 0) = false := by simp [intsAV]; omega
      have hl0 : (0 : Int) < ((intsAV (x :: l)).length : Int) := by rw [intsAV_length, List.length_cons]; omega
      by_cases hx : x < 0
      · have hd : decide (x < 0) = true := decide_eq_true hx
        have ha : argW ps i o = o := by unfold argW; rw [List.getElem?_eq_getElem hlt, hp]; exact if_pos hx
        simp +contextual (maxSteps := 1000000) only [h0, h1, hg, hg0, hl, hd, parsAV_length, Int.toNat_natCast, Int.toNat_zero, go_sem, reduceCtorEq, ↓reduceIte, Nat.reduceAdd, Nat.reduceEqDiff, Nat.reduceLeDiff, Nat.reduceMul, Nat.reduceBEq, Int.reduceBEq, Int.reduceBNe, Int.reduceLT, Int.reduceLE, Int.reduceGT, Int.reduceGE, Int.reduceToNat]
        refine ⟨⟨by omega, by omega⟩, ⟨by omega, by omega⟩, hl0, ?_⟩
        rw [← hQ, ha]
        exact ⟨trivial, Ret.flat rfl rfl⟩
      · have hd : decide (x < 0) = false := decide_eq_false hx
        have ha : argW ps i o = x := by unfold argW; rw [List.getElem?_eq_getElem hlt, hp]; exact if_neg hx
        simp +contextual (maxSteps := 1000000) only [h0, h1, hg, hg0, hl, hd, parsAV_length, Int.toNat_natCast, Int.toNat_zero, go_sem, reduceCtorEq, ↓reduceIte, Nat.reduceAdd, Nat.reduceEqDiff, Nat.reduceLeDiff, Nat.reduceMul, Nat.reduceBEq, Int.reduceBEq, Int.reduceBNe, Int.reduceLT, Int.reduceLE, Int.reduceGT, Int.reduceGE, Int.reduceToNat]
        refine ⟨⟨by omega, by omega⟩, ⟨by omega, by omega⟩, hl0, ⟨by omega, by omega⟩, hl0, ?_⟩
        rw [← hQ, ha]
        exact ⟨trivial, Ret.flat rfl rfl⟩
  · have h1 : decide ((i : Int) ≥ (ps.length : Int)) = true := by simp; omega
    have ha : argW ps i o = o := by unfold argW; rw [List.getElem?_eq_none (by omega)]
    simp +contextual (maxSteps := 1000000) only [h0, h1, parsAV_length, go_sem, reduceCtorEq, ↓reduceIte, Nat.reduceAdd, Nat.reduceEqDiff, Nat.reduceLeDiff, Nat.reduceMul, Nat.reduceBEq, Int.reduceBEq, Int.reduceBNe, Int.reduceLT, Int.reduceLE, Int.reduceGT, Int.reduceGE, Int.reduceToNat]
    rw [← hQ, ha]
    exact ⟨trivial, Ret.flat rfl rfl⟩
end Go.Proofs.YtfnngjnfajnpaaaDoor

namespace Go.Proofs.YtfnngjnfajnpaaaDoor
open Go Go.Ab
end Go.Proofs.YtfnngjnfajnpaaaDoor

namespace Go.Proofs.YtfnngjnfajnpaaaDoor
open Go Go.Ab
/- clavier/clavierref03.Same -/
end Go.Proofs.YtfnngjnfajnpaaaDoor

namespace Go.Proofs.YtfnngjnfajnpaaaDoor
open Go Go.Ab
def ir_slicesEqualFuncintintintint : ICode :=
 (.seq
 (.reg [⟨some 6, none, .mov (.c (.bool false))⟩] (some [0, 1, 2]))
 (.seq
 (.seq
 (.reg [⟨some 10, none, .mov (.t 0)⟩,
 ⟨some 11, none, .len (.t 10)⟩,
 ⟨some 12, none, .mov (.t 1)⟩,
 ⟨some 13, none, .len (.t 12)⟩,
 ⟨some 14, none, .bin .neq .none (.t 11) (.t 13)⟩] (some [0, 1, 2, 14]))
 (.cond (.t 14)
 (.seq
 (.reg [⟨some 6, none, .mov (.c (.bool false))⟩] (some [6]))
 .ret)
 .skip))
 (.seq
 (.seq
 (.reg [⟨some 15, none, .mov (.t 0)⟩,
 ⟨some 16, none, .len (.t 15)⟩,
 ⟨some 17, none, .mov (.c (.int .i64 0))⟩] (some [1, 2, 15, 16, 17]))
 (.blk 0
 (.loop
 (.seq
 (.reg [⟨some 18, none, .bin .lss .none (.t 17) (.t 16)⟩] (some [1, 2, 15, 16, 17, 18]))
 (.seq
 (.cond (.t 18)
 .skip
 (.exit 0))
 (.seq
 (.blk 1
 (.seq
 (.reg [⟨some 19, none, .mov (.t 17)⟩,
 ⟨some 20, none, .ia 1 (.t 15) (.t 17)⟩,
 ⟨some 21, none, .ld none (.t 20)⟩,
 ⟨some 7, none, .mov (.t 19)⟩,
 ⟨some 8, none, .mov (.t 21)⟩] (some [1, 2, 7, 8, 15, 16, 17]))
 (.seq
 (.reg [⟨some 22, none, .mov (.t 1)⟩,
 ⟨some 23, none, .mov (.t 7)⟩,
 ⟨some 24, none, .ia 1 (.t 22) (.t 23)⟩,
 ⟨some 25, none, .ld none (.t 24)⟩,
 ⟨some 9, none, .mov (.t 25)⟩] (some [1, 2, 8, 9, 15, 16, 17]))
 (.seq
 (.reg [⟨some 26, none, .mov (.t 2)⟩,
 ⟨some 27, none, .mov (.t 8)⟩,
 ⟨some 28, none, .mov (.t 9)⟩,
 ⟨some 29, none, .call (.t 26) [(.t 27), (.t 28)]⟩,
 ⟨some 30, none, .un .not (.t 29)⟩] (some [1, 2, 15, 16, 17, 30]))
 (.cond (.t 30)
 (.seq
 (.reg [⟨some 6, none, .mov (.c (.bool false))⟩] (some [6]))
 .ret)
 .skip)))))
 (.reg [⟨some 31, none, .bin .add .none (.t 17) (.c (.int .i64 1))⟩,
 ⟨some 17, none, .mov (.t 31)⟩] (some [1, 2, 15, 16, 17]))))))))
 (.seq
 (.reg [⟨some 6, none, .mov (.c (.bool true))⟩] (some [6]))
 .ret))))
theorem is_slicesEqualFuncintintintint : IrOf Tryd.prog 40 32 ir_slicesEqualFuncintintintint [.t 6] := ⟨_, Tryd.func40, rfl, by kernel_rfl, by kernel_rfl, by kernel_rfl⟩

def ir_wireSame : ICode :=
 (.seq
 (.reg [⟨some 2, none, .box 24 (.t 0)⟩,
 ⟨some 3, none, .box 24 (.t 1)⟩,
 ⟨some 4, none, .mov (.c (.bool false))⟩] (some [2, 3]))
 (.seq
 (.seq
 (.reg [⟨some 6, none, .fa 2 (.t 2)⟩,
 ⟨some 7, none, .ld none (.t 6)⟩,
 ⟨some 8, none, .fa 2 (.t 3)⟩,
 ⟨some 9, none, .ld none (.t 8)⟩,
 ⟨some 10, none, .call (.c (.fn (.func 40) [] [])) [(.t 7), (.t 9), (.c (.fn (.func 41) [] []))]⟩,
 ⟨some 11, none, .un .not (.t 10)⟩] (some [2, 3, 11]))
 (.cond (.t 11)
 (.seq
 (.reg [⟨some 4, none, .mov (.c (.bool false))⟩] (some [4]))
 .ret)
 .skip))
 (.seq
 (.reg [⟨some 12, none, .fa 0 (.t 2)⟩,
 ⟨some 13, none, .ld none (.t 12)⟩,
 ⟨some 14, none, .fa 0 (.t 3)⟩,
 ⟨some 15, none, .ld none (.t 14)⟩,
 ⟨some 16, none, .bin .eql .none (.t 13) (.t 15)⟩,
 ⟨some 17, none, .mov (.t 16)⟩,
 ⟨some 18, some (17, true), .fa 1 (.t 2)⟩,
 ⟨some 19, some (17, true), .ld none (.t 18)⟩,
 ⟨some 20, some (17, true), .fa 1 (.t 3)⟩,
 ⟨some 21, some (17, true), .ld none (.t 20)⟩,
 ⟨some 22, some (17, true), .bin .eql .none (.t 19) (.t 21)⟩,
 ⟨some 23, none, .pick (.t 17) (.t 22) (.c (.bool false))⟩,
 ⟨some 24, none, .mov (.t 23)⟩,
 ⟨some 25, some (24, true), .fa 4 (.t 2)⟩,
 ⟨some 26, some (24, true), .ld none (.t 25)⟩,
 ⟨some 27, some (24, true), .fa 4 (.t 3)⟩,
 ⟨some 28, some (24, true), .ld none (.t 27)⟩,
 ⟨some 29, some (24, true), .bin .eql .none (.t 26) (.t 28)⟩,
 ⟨some 30, none, .pick (.t 24) (.t 29) (.c (.bool false))⟩,
 ⟨some 5, none, .mov (.t 30)⟩] (some [2, 3, 5]))
 (.seq
 (.reg [⟨some 31, none, .mov (.t 5)⟩,
 ⟨some 32, none, .mov (.t 31)⟩,
 ⟨some 33, some (32, true), .fa 3 (.t 2)⟩,
 ⟨some 34, some (32, true), .ld none (.t 33)⟩,
 ⟨some 35, some (32, true), .fa 3 (.t 3)⟩,
 ⟨some 36, some (32, true), .ld none (.t 35)⟩,
 ⟨some 37, some (32, true), .bin .eql .none (.t 34) (.t 36)⟩,
 ⟨some 38, none, .pick (.t 32) (.t 37) (.c (.bool false))⟩,
 ⟨some 39, none, .mov (.t 38)⟩,
 ⟨some 40, some (39, true), .fa 5 (.t 2)⟩,
 ⟨some 41, some (39, true), .ld none (.t 40)⟩,
 ⟨some 42, some (39, true), .fa 5 (.t 3)⟩,
 ⟨some 43, some (39, true), .ld none (.t 42)⟩,
 ⟨some 44, some (39, true), .bin .eql .none (.t 41) (.t 43)⟩,
 ⟨some 45, none, .pick (.t 39) (.t 44) (.c (.bool false))⟩,
 ⟨some 4, none, .mov (.t 45)⟩] (some [4]))
 .ret))))
theorem is_wireSame : IrOf Tryd.prog 19 46 ir_wireSame [.t 4] := ⟨_, Tryd.func19, rfl, by kernel_rfl, by kernel_rfl, by kernel_rfl⟩

theorem fs_EqualPars {Gl : Gh → Prop} (hst : Stays Gl) {a b : List (List Int)} {ta tb : Option Nm} (ha : a.length < 9223372036854775808) (hb : b.length < 9223372036854775808) (hpa : ∀ p ∈ a, p.length < 9223372036854775808) (hpb : ∀ p ∈ b, p.length < 9223372036854775808) : FS Tryd.prog Gl 40 [.sl ta 1 (parsAV a), .sl tb 1 (parsAV b), .fn (.func 41) [] []] [] [] (.bool (decide (a = b))) [] [] := by
  refine FS.of hm hst is_slicesEqualFuncintintintint (by simp) fun γ hγ hfr => ?_
  (generalize hQ : (fun (ex : Ex) (_ _ : Nat) (s : St) => _) = Q; unfold ir_slicesEqualFuncintintintint)
  simp +contextual (maxSteps := 1000000) only [parsAV_length, go_sem, reduceCtorEq, ↓reduceIte, Nat.reduceAdd, Nat.reduceEqDiff]
  refine kCond_split (fun h => ?_) (fun h => ?_)
  · simp +contextual (maxSteps := 1000000) only [go_sem, reduceCtorEq, ↓reduceIte, Nat.reduceAdd, Nat.reduceEqDiff]
    rw [← hQ]
    have : decide (a = b) = false := by
      simp only [bne_iff_ne, ne_eq] at h
      rw [decide_eq_false_iff_not]; intro e; subst e; simp at h
    rw [this]
    exact ⟨trivial, Ret.flat rfl rfl⟩
  · have hl : a.length = b.length := by simp at h; omega
    simp +contextual (maxSteps := 1000000) only [parsAV_length, go_sem, reduceCtorEq, ↓reduceIte, Nat.reduceAdd, Nat.reduceEqDiff]
    refine kLoop_ix (fun i : Nat => ⟨lf [(1, .sl tb 1 (parsAV b)), (2, .fn (.func 41) [] []), (15, .sl ta 1 (parsAV a)), (16, .int .i64 a.length), (17, .int .i64 i)], [], fun x => x ∈ []⟩) (fun i => i ≤ a.length ∧ a.take i = b.take i) (fun i => a.length - i) 0 0 (Wk.same ?_) ?_ ?_
    · (simp only [lfOK, upd, initF]; repeat' first | exact AVle.refl _ _ | exact trivial | refine And.intro ?_ ?_ | exact AVle.int (by simp only [IntKind.wrap_i64]; omega))
    · simp
    · rintro γ' i hf ⟨hi, hinv⟩
      generalize hQ' : kIt _ _ _ _ _ = Q'
      by_cases hlt : i < a.length
      · have hd : decide ((i : Int) < (a.length : Int)) = true := by simp; omega
        have hi2 : intsV a[i] = .sl none 1 (intsAV a[i]) := rfl
        have hi3 : intsV (b[i]'(by omega)) = .sl none 1 (intsAV (b[i]'(by omega))) := rfl
        have g1 : (parsAV a).getD (i : Int).toNat [] = [intsV a[i]] := by rw [Int.toNat_natCast]; exact parsAV_get hlt
        have g2 : (parsAV b).getD (i : Int).toNat [] = [intsV (b[i]'(by omega))] := by rw [Int.toNat_natCast]; exact parsAV_get (by omega)
        rw [hi2] at g1
        rw [hi3] at g2
        have c1 := fs_EqualInts (Gl := Gl) hst (a := a[i]) (b := b[i]'(by omega)) (ta := none) (tb := none) (hpa _ (List.getElem_mem _)) (hpb _ (List.getElem_mem _))
        simp +contextual (maxSteps := 1000000) only [parsAV_length, hd, g1, g2, go_sem, reduceCtorEq, ↓reduceIte, Nat.reduceAdd, Nat.reduceEqDiff]
        refine ⟨by omega, by omega, ?_⟩
        (refine CallP.pure (c1) (fun _ => rfl) ?_; simp +contextual (maxSteps := 1000000) only [go_sem, reduceCtorEq, ↓reduceIte, Nat.reduceAdd, Nat.reduceEqDiff])
        cases hc : decide (a[i] = b[i]'(by omega)) with
        | false =>
          simp +contextual (maxSteps := 1000000) only [hc, go_sem, reduceCtorEq, ↓reduceIte, Nat.reduceAdd, Nat.reduceEqDiff]
          rw [← hQ']
          simp only [w_kIt_r, w_kBlk_r, w_kSeq_r]
          have e : decide (a = b) = false := by
            rw [decide_eq_false_iff_not]; intro e; subst e; exact of_decide_eq_false hc rfl
          rw [← hQ, e]
          exact ⟨trivial, Ret.flat rfl rfl⟩
        | true =>
          simp +contextual (maxSteps := 1000000) only [hc, go_sem, reduceCtorEq, ↓reduceIte, Nat.reduceAdd, Nat.reduceEqDiff]
          rw [← hQ']
          simp only [w_kIt_n]
          refine ⟨0, i + 1, Wk.same ?_, ⟨by omega, ?_⟩, by omega⟩
          · repeat' first | exact AVle.refl _ _ | exact trivial | refine And.intro ?_ ?_ | exact AVle.int (by simp only [IntKind.wrap_i64]; omega)
          · have h2 : a[i] = b[i]'(by omega) := of_decide_eq_true hc
            rw [List.take_add_one, List.take_add_one, hinv, List.getElem?_eq_getElem hlt, List.getElem?_eq_getElem (show i < b.length by omega), h2]
      · have hd : decide ((i : Int) < (a.length : Int)) = false := by simp; omega
        simp +contextual (maxSteps := 1000000) only [parsAV_length, hd, go_sem, reduceCtorEq, ↓reduceIte, Nat.reduceAdd, Nat.reduceEqDiff]
        rw [← hQ']
        simp only [w_kIt_e, w_kBlk_e, ↓reduceIte]
        simp +contextual (maxSteps := 1000000) only [go_sem, reduceCtorEq, ↓reduceIte, Nat.reduceAdd, Nat.reduceEqDiff]
        have e : decide (a = b) = true := by
          rw [decide_eq_true_eq]
          have h3 := hinv
          rw [List.take_of_length_le (by omega), List.take_of_length_le (by omega)] at h3
          exact h3
        rw [← hQ, e]
        exact ⟨trivial, Ret.flat rfl rfl⟩
structure Sq.szP (s : Sq) : Prop where
  ps : s.ps.length < 9223372036854775808
  pp : ∀ p ∈ s.ps, p.length < 9223372036854775808
theorem fs_wSame {Gl : Gh → Prop} (hst : Stays Gl) {a b : Sq} (ha : a.szP) (hb : b.szP) : FS Tryd.prog Gl 19 [.agg a.c, .agg b.c] [] [] (.bool (decide (a = b))) [] [] := by
  refine FS.of hm hst is_wireSame (by simp) fun γ hγ hfr => ?_
  obtain ⟨k, pr, ps, it, fi, da⟩ := a
  obtain ⟨k2, pr2, ps2, it2, fi2, da2⟩ := b
  have c1 := fs_EqualPars (Gl := Gl) hst (a := ps) (b := ps2) (ta := none) (tb := none) ha.ps hb.ps ha.pp hb.pp
  have hcc : ∀ (k pr : Int) ps it fi da, Sq.c ⟨k, pr, ps, it, fi, da⟩ = [.int .i64 k, .int .u8 pr, .sl none 1 (parsAV ps), .str it, .int .u8 fi, .str da] := fun _ _ _ _ _ _ => rfl
  have hz : decide ((⟨k, pr, ps, it, fi, da⟩ : Sq) = ⟨k2, pr2, ps2, it2, fi2, da2⟩) = (decide (ps = ps2) && ((((k == k2) && (pr == pr2)) && (fi == fi2)) && decide (it = it2) && decide (da = da2))) := by
    rw [Bool.eq_iff_iff]
    simp only [Sq.mk.injEq, decide_eq_true_eq, Bool.and_eq_true, beq_iff_eq]
    constructor
    · rintro ⟨a, b, c, d, e, f⟩; exact ⟨c, ⟨⟨⟨a, b⟩, e⟩, d⟩, f⟩
    · rintro ⟨c, ⟨⟨⟨a, b⟩, e⟩, d⟩, f⟩; exact ⟨a, b, c, d, e, f⟩
  (generalize hQ : (fun (ex : Ex) (_ _ : Nat) (s : St) => _) = Q; unfold ir_wireSame)
  simp +contextual (maxSteps := 1000000) only [hcc, go_sem, reduceCtorEq, ↓reduceIte, Nat.reduceAdd, Nat.reduceEqDiff]
  (refine CallP.pure (c1) (fun _ => rfl) ?_; simp +contextual (maxSteps := 1000000) only [go_sem, reduceCtorEq, ↓reduceIte, Nat.reduceAdd, Nat.reduceEqDiff])
  cases hc : decide (ps = ps2) with
  | false =>
    simp +contextual (maxSteps := 1000000) only [hc, go_sem, reduceCtorEq, ↓reduceIte, Nat.reduceAdd, Nat.reduceEqDiff]
    rw [← hQ, hz, hc]
    exact ⟨trivial, Ret.flat rfl rfl⟩
  | true =>
    simp +contextual (maxSteps := 1000000) only [hc, go_sem, reduceCtorEq, ↓reduceIte, Nat.reduceAdd, Nat.reduceEqDiff]
    rw [← hQ, hz, hc]
    exact ⟨trivial, Ret.flat rfl rfl⟩
end Go.Proofs.YtfnngjnfajnpaaaDoor

namespace Go.Proofs.YtfnngjnfajnpaaaDoor
open Go Go.Ab
structure Sq.ok (s : Sq) : Prop where
  sm : s.sm
  pr : 0 ≤ s.pr ∧ s.pr < 256
  fi : 0 ≤ s.fi ∧ s.fi < 256
def sqsAV (l : List Sq) : List (List AV) := l.map Sq.c
theorem sqsAV_length (l : List Sq) : (sqsAV l).length = l.length := by simp [sqsAV]
theorem sqsAV_get {l : List Sq} {i : Nat} (h : i < l.length) : (sqsAV l).getD i [] = l[i].c := by
  rw [List.getD_eq_getElem?_getD]; simp [sqsAV, h]
end Go.Proofs.YtfnngjnfajnpaaaDoor

namespace Go.Proofs.YtfnngjnfajnpaaaDoor
open Go Go.Ab
def ir_clavierlaw03awake : ICode :=
 (.seq
 (.reg [⟨some 0, none, .mov (.c (.bool false))⟩] (some []))
 (.seq
 (.reg [⟨some 7, none, .row 3 1 [(.c (.int .i64 1)), (.c (.int .i64 2))]⟩,
 ⟨some 8, none, .call (.c (.fn (.func 21) [] [])) [(.c (.int .u8 63)), (.c (.int .u8 99)), (.t 7)]⟩,
 ⟨some 1, none, .box 24 (.c (.agg [(.int .i64 0), (.int .u8 0), .nils, (.str []), (.int .u8 0), (.str [])]))⟩,
 ⟨none, none, .st 6 (.t 1) (.t 8)⟩] (some [1]))
 (.seq
 (.reg [⟨some 10, none, .ld (some 6) (.t 1)⟩,
 ⟨some 11, none, .call (.c (.fn (.func 14) [] [])) [(.t 10)]⟩,
 ⟨some 9, none, .mov (.t 11)⟩,
 ⟨some 12, none, .ext (.t 9) 0⟩,
 ⟨some 13, none, .ext (.t 9) 1⟩,
 ⟨some 2, none, .mov (.t 12)⟩,
 ⟨some 3, none, .mov (.t 13)⟩] (some [1, 2, 3]))
 (.seq
 (.reg [⟨some 15, none, .row 5 1 [(.c (.int .u8 27)), (.c (.int .u8 91)), (.c (.int .u8 63)), (.c (.int .u8 49)), (.c (.int .u8 59)), (.c (.int .u8 50)), (.c (.int .u8 99)), (.c (.int .u8 120))]⟩,
 ⟨some 16, none, .cvs (.t 15)⟩,
 ⟨some 17, none, .call (.c (.fn (.func 18) [] [])) [(.t 16)]⟩,
 ⟨some 14, none, .mov (.t 17)⟩,
 ⟨some 18, none, .ext (.t 14) 0⟩,
 ⟨some 19, none, .ext (.t 14) 1⟩,
 ⟨some 20, none, .ext (.t 14) 2⟩,
 ⟨some 4, none, .box 24 (.c (.agg [(.int .i64 0), (.int .u8 0), .nils, (.str []), (.int .u8 0), (.str [])]))⟩,
 ⟨none, none, .st 6 (.t 4) (.t 18)⟩,
 ⟨some 5, none, .mov (.t 19)⟩,
 ⟨some 6, none, .mov (.t 20)⟩] (some [1, 2, 3, 4, 5, 6]))
 (.seq
 (.reg [⟨some 21, none, .mov (.t 3)⟩,
 ⟨some 22, none, .bin .eql .none (.t 21) (.c (.int .i64 0))⟩,
 ⟨some 23, none, .mov (.t 22)⟩,
 ⟨some 24, some (23, true), .mov (.t 2)⟩,
 ⟨some 25, some (23, true), .b2s (.t 24)⟩,
 ⟨some 26, some (23, true), .bin .eql .none (.t 25) (.c (.str [27, 91, 63, 49, 59, 50, 99]))⟩,
 ⟨some 27, none, .pick (.t 23) (.t 26) (.c (.bool false))⟩,
 ⟨some 28, none, .mov (.t 27)⟩,
 ⟨some 29, some (28, true), .mov (.t 6)⟩,
 ⟨some 30, some (28, true), .bin .eql .none (.t 29) (.c (.int .i64 0))⟩,
 ⟨some 31, none, .pick (.t 28) (.t 30) (.c (.bool false))⟩,
 ⟨some 32, none, .mov (.t 31)⟩,
 ⟨some 33, some (32, true), .mov (.t 5)⟩,
 ⟨some 34, some (32, true), .bin .eql .none (.t 33) (.c (.int .i64 7))⟩,
 ⟨some 35, none, .pick (.t 32) (.t 34) (.c (.bool false))⟩,
 ⟨some 36, none, .mov (.t 35)⟩,
 ⟨some 37, some (36, true), .ld (some 6) (.t 1)⟩,
 ⟨some 38, some (36, true), .ld (some 6) (.t 4)⟩,
 ⟨some 39, some (36, true), .call (.c (.fn (.func 19) [] [])) [(.t 37), (.t 38)]⟩,
 ⟨some 40, none, .pick (.t 36) (.t 39) (.c (.bool false))⟩,
 ⟨some 41, none, .mov (.t 40)⟩,
 ⟨some 42, some (41, true), .ld (some 6) (.t 1)⟩,
 ⟨some 43, some (41, true), .call (.c (.fn (.func 22) [] [])) [(.t 42), (.c (.int .i64 1)), (.c (.int .i64 9))]⟩,
 ⟨some 44, some (41, true), .bin .eql .none (.t 43) (.c (.int .i64 2))⟩,
 ⟨some 45, none, .pick (.t 41) (.t 44) (.c (.bool false))⟩,
 ⟨some 46, none, .mov (.t 45)⟩,
 ⟨some 47, some (46, true), .ld (some 6) (.t 1)⟩,
 ⟨some 48, some (46, true), .call (.c (.fn (.func 22) [] [])) [(.t 47), (.c (.int .i64 2)), (.c (.int .i64 9))]⟩,
 ⟨some 49, some (46, true), .bin .eql .none (.t 48) (.c (.int .i64 9))⟩,
 ⟨some 50, none, .pick (.t 46) (.t 49) (.c (.bool false))⟩,
 ⟨some 0, none, .mov (.t 50)⟩] (some [0]))
 .ret)))))
theorem is_clavierlaw03awake : IrOf Tryd.prog 12 51 ir_clavierlaw03awake [.t 0] := ⟨_, Tryd.func12, rfl, by kernel_rfl, by kernel_rfl, by kernel_rfl⟩

/- clavier/clavierlaw03.few -/
def ir_clavierlaw03few_l0 : ICode :=
 (.seq
 (.seq
 (.reg [⟨some 4, none, .mov (.t 3)⟩,
 ⟨some 5, none, .fa 2 (.t 1)⟩,
 ⟨some 6, none, .ld none (.t 5)⟩,
 ⟨some 7, none, .len (.t 6)⟩,
 ⟨some 8, none, .bin .lss .none (.t 4) (.t 7)⟩,
 ⟨some 9, none, .mov (.t 8)⟩,
 ⟨some 10, some (9, true), .mov (.t 3)⟩,
 ⟨some 11, some (9, true), .bin .lss .none (.t 10) (.c (.int .i64 31))⟩,
 ⟨some 12, none, .pick (.t 9) (.t 11) (.c (.bool false))⟩] (some [1, 3, 12]))
 (.cond (.t 12)
 .skip
 (.exit 0)))
 (.seq
 (.blk 1
 (.seq
 (.reg [⟨some 15, none, .fa 2 (.t 1)⟩,
 ⟨some 16, none, .ld none (.t 15)⟩,
 ⟨some 17, none, .mov (.t 3)⟩,
 ⟨some 18, none, .ia 1 (.t 16) (.t 17)⟩,
 ⟨some 19, none, .ld none (.t 18)⟩,
 ⟨some 20, none, .len (.t 19)⟩,
 ⟨some 21, none, .bin .gtr .none (.t 20) (.c (.int .i64 20))⟩] (some [1, 3, 21]))
 (.cond (.t 21)
 (.seq
 (.reg [⟨some 2, none, .mov (.c (.bool false))⟩] (some [2]))
 .ret)
 .skip)))
 (.reg [⟨some 13, none, .mov (.t 3)⟩,
 ⟨some 14, none, .bin .add .none (.t 13) (.c (.int .i64 1))⟩,
 ⟨some 3, none, .mov (.t 14)⟩] (some [1, 3]))))
def ir_clavierlaw03few : ICode :=
 (.seq
 (.reg [⟨some 1, none, .box 24 (.t 0)⟩,
 ⟨some 2, none, .mov (.c (.bool false))⟩] (some [1]))
 (.seq
 (.seq
 (.reg [⟨some 3, none, .mov (.c (.int .i64 0))⟩] (some [1, 3]))
 (.blk 0
 (.loop
 ir_clavierlaw03few_l0)))
 (.seq
 (.reg [⟨some 22, none, .fa 2 (.t 1)⟩,
 ⟨some 23, none, .ld none (.t 22)⟩,
 ⟨some 24, none, .len (.t 23)⟩,
 ⟨some 25, none, .bin .leq .none (.t 24) (.c (.int .i64 30))⟩,
 ⟨some 26, none, .mov (.t 25)⟩,
 ⟨some 27, some (26, true), .fa 3 (.t 1)⟩,
 ⟨some 28, some (26, true), .ld none (.t 27)⟩,
 ⟨some 29, some (26, true), .lns (.t 28)⟩,
 ⟨some 30, some (26, true), .bin .leq .none (.t 29) (.c (.int .i64 10))⟩,
 ⟨some 31, none, .pick (.t 26) (.t 30) (.c (.bool false))⟩,
 ⟨some 32, none, .mov (.t 31)⟩,
 ⟨some 33, some (32, true), .fa 5 (.t 1)⟩,
 ⟨some 34, some (32, true), .ld none (.t 33)⟩,
 ⟨some 35, some (32, true), .lns (.t 34)⟩,
 ⟨some 36, some (32, true), .bin .leq .none (.t 35) (.c (.int .i64 200))⟩,
 ⟨some 37, none, .pick (.t 32) (.t 36) (.c (.bool false))⟩,
 ⟨some 2, none, .mov (.t 37)⟩] (some [2]))
 .ret)))
theorem is_clavierlaw03few : IrOf Tryd.prog 13 38 ir_clavierlaw03few [.t 2] := ⟨_, Tryd.func13, rfl, by kernel_rfl, by kernel_rfl, by kernel_rfl⟩

theorem w3_a : mayP (numSq 1 63 99 [1, 2]) = 0 ∧ putB (numSq 1 63 99 [1, 2]) = [27, 91, 63, 49, 59, 50, 99] := by decide +kernel
theorem fs_wPutL {Gl : Gh → Prop} (hst : Stays Gl) {s : Sq} (h : s.ok) : FS Tryd.prog Gl 14 [.agg s.c] [] [] (.tup [.sl none 1 (bytesAV (putX s)), .int .i64 (mayP s)]) [] [] := by
  have := fs_wPut (Gl := Gl) hst h.pr.1 h.pr.2 h.fi.1 h.fi.2 h.sm
  refine FSR.res this ?_
  rintro r H T ⟨rfl, h2, h3⟩
  exact ⟨.tup [.sl none 1 (bytesAV (putX s)), .int .i64 (mayP s)], fun f => by
    have hrn : Ab.rn f (putV s) = putV s := by unfold putV; split <;> rfl
    simp only [Ab.rn, rnL, hrn]
    exact RepLe.tupL ⟨putV_le s, RepLe.refl _, trivial⟩, rfl, h2, h3⟩
theorem fs_awake03 {Gl : Gh → Prop} (hst : Stays Gl) : FS Tryd.prog Gl 12 [] [] [] (.bool true) [] [] := by
  refine FS.of hm hst is_clavierlaw03awake (by simp) fun γ hγ hfr => ?_
  obtain ⟨m1, m2⟩ := w3_a
  have hc : (numSq 1 63 99 [1, 2]).c = [.int .i64 1, .int .u8 63, .sl none 1 (parsAV [[1], [2]]), .str [], .int .u8 99, .str []] := rfl
  have hi : intsAV [1, 2] = [[.int .i64 1], [.int .i64 2]] := rfl
  have c1 := fun t : Option Nm => fs_Num (Gl := Gl) hst (pr := 63) (fi := 99) (nums := [1, 2]) (tn := t) (by simp)
  rw [hi, hc] at c1
  have c2 := fs_wPutL (Gl := Gl) hst (s := numSq 1 63 99 [1, 2]) ⟨⟨by simp [numSq], by simp [numSq], by simp [numSq], by simp [numSq]⟩, by simp [numSq], by simp [numSq]⟩
  rw [show putX (numSq 1 63 99 [1, 2]) = [27, 91, 63, 49, 59, 50, 99] by unfold putX; rw [m1, m2]; rfl, m1, hc] at c2
  obtain ⟨t1, t2, t3⟩ := take_may m1 [120]
  rw [m2] at t1 t2 t3
  rw [hc] at t3
  have c3 := fun t : Option Nm => fs_wTake (Gl := Gl) hst (b := [27, 91, 63, 49, 59, 50, 99, 120]) (tb := t) (by simp) t1 t2
  rw [show takeV [27, 91, 63, 49, 59, 50, 99, 120] = .tup [.agg [.int .i64 1, .int .u8 63, .sl none 1 (parsAV [[1], [2]]), .str [], .int .u8 99, .str []], .int .i64 7, .int .i64 0] from t3] at c3
  rw [show bytesAV [27, 91, 63, 49, 59, 50, 99, 120] = [[.int .u8 27], [.int .u8 91], [.int .u8 63], [.int .u8 49], [.int .u8 59], [.int .u8 50], [.int .u8 99], [.int .u8 120]] from rfl] at c3
  have c4 := fs_wSame (Gl := Gl) hst (a := numSq 1 63 99 [1, 2]) (b := numSq 1 63 99 [1, 2]) ⟨by simp [numSq], by simp [numSq]⟩ ⟨by simp [numSq], by simp [numSq]⟩
  rw [decide_eq_true rfl, hc] at c4
  have c5 := fs_wArg (Gl := Gl) hst (k := 1) (pr := 63) (fi := 99) (o := 9) (ps := [[1], [2]]) (it := []) (da := []) (i := 1)
  have c6 := fs_wArg (Gl := Gl) hst (k := 1) (pr := 63) (fi := 99) (o := 9) (ps := [[1], [2]]) (it := []) (da := []) (i := 2)
  rw [show argW [[1], [2]] 1 9 = 2 from rfl] at c5
  rw [show argW [[1], [2]] 2 9 = 9 from rfl] at c6
  clear t1 t2 t3 m1 m2 hc hi
  generalize parsAV [[1], [2]] = rows at *
  (generalize hQ : (fun (ex : Ex) (_ _ : Nat) (s : St) => _) = Q; unfold ir_clavierlaw03awake)
  simp +contextual (maxSteps := 1000000) only [go_sem, reduceCtorEq, ↓reduceIte, Nat.reduceAdd, Nat.reduceEqDiff, Nat.reduceLeDiff, Nat.reduceMul, Nat.reduceBEq, Int.reduceBEq, Int.reduceBNe, Int.reduceLT, Int.reduceLE, Int.reduceGT, Int.reduceGE, Int.reduceToNat]
  (refine CallP.pure (c1 _) (fun _ => rfl) ?_; simp +contextual (maxSteps := 1000000) only [go_sem, reduceCtorEq, ↓reduceIte, Nat.reduceAdd, Nat.reduceEqDiff, Nat.reduceLeDiff, Nat.reduceMul, Nat.reduceBEq, Int.reduceBEq, Int.reduceBNe, Int.reduceLT, Int.reduceLE, Int.reduceGT, Int.reduceGE, Int.reduceToNat])
  (refine CallP.pure (c2) (fun _ => rfl) ?_; simp +contextual (maxSteps := 1000000) only [go_sem, reduceCtorEq, ↓reduceIte, Nat.reduceAdd, Nat.reduceEqDiff, Nat.reduceLeDiff, Nat.reduceMul, Nat.reduceBEq, Int.reduceBEq, Int.reduceBNe, Int.reduceLT, Int.reduceLE, Int.reduceGT, Int.reduceGE, Int.reduceToNat])
  refine ⟨⟨.inl trivial, by simp⟩, ?_⟩
  (refine CallP.pure (c3 _) (fun _ => rfl) ?_; simp +contextual (maxSteps := 1000000) only [bb_un, bb_is, go_sem, reduceCtorEq, ↓reduceIte, Nat.reduceAdd, Nat.reduceEqDiff, Nat.reduceLeDiff, Nat.reduceMul, Nat.reduceBEq, Int.reduceBEq, Int.reduceBNe, Int.reduceLT, Int.reduceLE, Int.reduceGT, Int.reduceGE, Int.reduceToNat])
  (refine CallP.pure (c4) (fun _ => rfl) ?_; simp +contextual (maxSteps := 1000000) only [go_sem, reduceCtorEq, ↓reduceIte, Nat.reduceAdd, Nat.reduceEqDiff, Nat.reduceLeDiff, Nat.reduceMul, Nat.reduceBEq, Int.reduceBEq, Int.reduceBNe, Int.reduceLT, Int.reduceLE, Int.reduceGT, Int.reduceGE, Int.reduceToNat])
  (refine CallP.pure (c5) (fun _ => rfl) ?_; simp +contextual (maxSteps := 1000000) only [go_sem, reduceCtorEq, ↓reduceIte, Nat.reduceAdd, Nat.reduceEqDiff, Nat.reduceLeDiff, Nat.reduceMul, Nat.reduceBEq, Int.reduceBEq, Int.reduceBNe, Int.reduceLT, Int.reduceLE, Int.reduceGT, Int.reduceGE, Int.reduceToNat])
  (refine CallP.pure (c6) (fun _ => rfl) ?_; simp +contextual (maxSteps := 1000000) only [go_sem, reduceCtorEq, ↓reduceIte, Nat.reduceAdd, Nat.reduceEqDiff, Nat.reduceLeDiff, Nat.reduceMul, Nat.reduceBEq, Int.reduceBEq, Int.reduceBNe, Int.reduceLT, Int.reduceLE, Int.reduceGT, Int.reduceGE, Int.reduceToNat])
  rw [← hQ]
  exact ⟨trivial, Ret.flat rfl rfl⟩
def fewB (s : Sq) : Bool := if (s.ps.take 31).any (fun p => decide (p.length > 20)) = true then false else (decide (s.ps.length ≤ 30) && decide (s.it.length ≤ 10)) && decide (s.da.length ≤ 200)
structure Few (s : Sq) : Prop where
  ps : s.ps.length ≤ 30
  pp : ∀ p ∈ s.ps, p.length ≤ 20
  it : s.it.length ≤ 10
  da : s.da.length ≤ 200
theorem fs_few {Gl : Gh → Prop} (hst : Stays Gl) {s : Sq} (h1 : s.ps.length < 9223372036854775808) : FS Tryd.prog Gl 13 [.agg s.c] [] [] (.bool (fewB s)) [] [] := by
  refine FS.of hm hst is_clavierlaw03few (by simp) fun γ hγ hfr => ?_
  have hz : fewB s = if (s.ps.take 31).any (fun p => decide (p.length > 20)) = true then false else (decide (s.ps.length ≤ 30) && decide (s.it.length ≤ 10)) && decide (s.da.length ≤ 200) := rfl
  obtain ⟨k, pr, ps, it, fi, da⟩ := s
  have hcc : Sq.c ⟨k, pr, ps, it, fi, da⟩ = [.int .i64 k, .int .u8 pr, .sl none 1 (parsAV ps), .str it, .int .u8 fi, .str da] := rfl
  simp only at h1 hz
  rw [hcc]
  (generalize hQ : (fun (ex : Ex) (_ _ : Nat) (s : St) => _) = Q; unfold ir_clavierlaw03few)
  simp +contextual (maxSteps := 1000000) only [go_sem, reduceCtorEq, ↓reduceIte, Nat.reduceAdd, Nat.reduceEqDiff, Nat.reduceLeDiff, Nat.reduceMul, Nat.reduceBEq, Int.reduceBEq, Int.reduceBNe, Int.reduceLT, Int.reduceLE, Int.reduceGT, Int.reduceGE, Int.reduceToNat]
  refine kLoop_ix (fun i : Nat => ⟨lf [(1, .ptr (γ, 0, 0) 0), (3, .int .i64 i)], [((γ, 0, 0), .cells [.int .i64 k, .int .u8 pr, .sl none 1 (parsAV ps), .str it, .int .u8 fi, .str da])], fun x => x ∈ []⟩) (fun i => i ≤ ps.length ∧ i ≤ 31 ∧ (ps.take i).any (fun p => decide (p.length > 20)) = false) (fun i => ps.length - i) 0 0 (Wk.same ?_) (by simp) ?_
  · (simp only [lfOK, upd, initF]; repeat' first | exact AVle.refl _ _ | exact trivial | refine And.intro ?_ ?_ | exact AVle.int (by simp only [IntKind.wrap_i64]; omega))
  rintro γ' i hf ⟨hi, hi31, hinv⟩
  generalize hQ' : kIt _ _ _ _ _ = Q'
  unfold ir_clavierlaw03few_l0
  by_cases hlt : i < ps.length ∧ i < 31
  · have hd : (decide ((i : Int) < (ps.length : Int)) && decide ((i : Int) < 31)) = true := by simp; omega
    have hg : (parsAV ps).getD i [] = [intsV (ps[i]'(by omega))] := parsAV_get (by omega)
    have hw : IntKind.i64.wrap ((i : Int) + 1) = ((i + 1 : Nat) : Int) := by rw [IntKind.wrap_i64]; omega
    by_cases hb : (ps[i]'(by omega)).length > 20
    · have hd2 : decide (((ps[i]'(by omega)).length : Int) > 20) = true := decide_eq_true (by omega)
      simp +contextual (maxSteps := 1000000) only [hd, hg, Int.toNat_natCast, parsAV_length, intsAV_length, hd2, intsV, go_sem, reduceCtorEq, ↓reduceIte, Nat.reduceAdd, Nat.reduceEqDiff, Nat.reduceLeDiff, Nat.reduceMul, Nat.reduceBEq, Int.reduceBEq, Int.reduceBNe, Int.reduceLT, Int.reduceLE, Int.reduceGT, Int.reduceGE, Int.reduceToNat]
      refine ⟨by omega, ?_⟩
      rw [← hQ']
      simp only [w_kIt_r, w_kBlk_r]
      simp +contextual (maxSteps := 1000000) only [go_sem, reduceCtorEq, ↓reduceIte, Nat.reduceAdd, Nat.reduceEqDiff, Nat.reduceLeDiff, Nat.reduceMul, Nat.reduceBEq, Int.reduceBEq, Int.reduceBNe, Int.reduceLT, Int.reduceLE, Int.reduceGT, Int.reduceGE, Int.reduceToNat]
      have : (ps.take 31).any (fun p => decide (p.length > 20)) = true := by
        rw [List.any_eq_true]
        exact ⟨ps[i]'(by omega), List.mem_iff_getElem.2 ⟨i, by simp; omega, by simp⟩, decide_eq_true hb⟩
      rw [← hQ, hz, if_pos this]
      exact ⟨trivial, Ret.flat rfl rfl⟩
    · have hd2 : decide (((ps[i]'(by omega)).length : Int) > 20) = false := decide_eq_false (by omega)
      simp +contextual (maxSteps := 1000000) only [hd, hg, Int.toNat_natCast, parsAV_length, intsAV_length, hd2, intsV, go_sem, reduceCtorEq, ↓reduceIte, Nat.reduceAdd, Nat.reduceEqDiff, Nat.reduceLeDiff, Nat.reduceMul, Nat.reduceBEq, Int.reduceBEq, Int.reduceBNe, Int.reduceLT, Int.reduceLE, Int.reduceGT, Int.reduceGE, Int.reduceToNat]
      refine ⟨by omega, ?_⟩
      rw [← hQ']
      simp only [w_kIt_n]
      refine ⟨0, i + 1, Wk.same ?_, ⟨by omega, by omega, ?_⟩, by omega⟩
      · rw [hw]
        (simp only [lfOK, upd, initF]; repeat' first | exact AVle.refl _ _ | exact trivial | refine And.intro ?_ ?_ | exact AVle.int (by simp only [IntKind.wrap_i64]; omega))
      · rw [List.take_add_one, List.getElem?_eq_getElem (by omega), List.any_append, hinv]
        simp; omega
  · have hd : (decide ((i : Int) < (ps.length : Int)) && decide ((i : Int) < 31)) = false := by
      rw [Bool.eq_false_iff]; simp; omega
    simp +contextual (maxSteps := 1000000) only [hd, parsAV_length, go_sem, reduceCtorEq, ↓reduceIte, Nat.reduceAdd, Nat.reduceEqDiff, Nat.reduceLeDiff, Nat.reduceMul, Nat.reduceBEq, Int.reduceBEq, Int.reduceBNe, Int.reduceLT, Int.reduceLE, Int.reduceGT, Int.reduceGE, Int.reduceToNat]
    rw [← hQ']
    simp only [w_kIt_e, w_kBlk_e, ↓reduceIte]
    have e1 : decide ((ps.length : Int) ≤ 30) = decide (ps.length ≤ 30) := by rw [decide_eq_decide]; omega
    have e2 : decide ((it.length : Int) ≤ 10) = decide (it.length ≤ 10) := by rw [decide_eq_decide]; omega
    have e3 : decide ((da.length : Int) ≤ 200) = decide (da.length ≤ 200) := by rw [decide_eq_decide]; omega
    have hany : (ps.take 31).any (fun p => decide (p.length > 20)) = false := by
      rcases (by omega : i = ps.length ∨ i = 31) with e | e
      · rw [List.take_of_length_le (by omega)]
        rw [List.take_of_length_le (by omega)] at hinv
        exact hinv
      · subst e; exact hinv
    simp +contextual (maxSteps := 1000000) only [parsAV_length, e1, e2, e3, go_sem, reduceCtorEq, ↓reduceIte, Nat.reduceAdd, Nat.reduceEqDiff, Nat.reduceLeDiff, Nat.reduceMul, Nat.reduceBEq, Int.reduceBEq, Int.reduceBNe, Int.reduceLT, Int.reduceLE, Int.reduceGT, Int.reduceGE, Int.reduceToNat]
    rw [← hQ, hz, if_neg (by rw [hany]; simp)]
    exact ⟨trivial, Ret.flat rfl rfl⟩
end Go.Proofs.YtfnngjnfajnpaaaDoor

namespace Go.Proofs.YtfnngjnfajnpaaaDoor
open Go Go.Ab
/- clavier/clavierlaw03.WireLists -/
def ir_clavierlaw03WireLists_l0 : ICode :=
 (.seq
 (.seq
 (.reg [⟨some 44, none, .mov (.t 8)⟩,
 ⟨some 45, none, .mov (.t 0)⟩,
 ⟨some 46, none, .len (.t 45)⟩,
 ⟨some 47, none, .bin .lss .none (.t 44) (.t 46)⟩] (some [0, 3, 4, 8, 47]))
 (.cond (.t 47)
 .skip
 (.exit 2)))
 (.seq
 (.blk 3
 (.seq
 (.reg [⟨some 51, none, .mov (.t 4)⟩,
 ⟨some 52, none, .call (.c (.fn (.func 18) [] [])) [(.t 51)]⟩,
 ⟨some 50, none, .mov (.t 52)⟩,
 ⟨some 53, none, .ext (.t 50) 0⟩,
 ⟨some 54, none, .ext (.t 50) 1⟩,
 ⟨some 55, none, .ext (.t 50) 2⟩,
 ⟨some 9, none, .box 24 (.c (.agg [(.int .i64 0), (.int .u8 0), .nils, (.str []), (.int .u8 0), (.str [])]))⟩,
 ⟨none, none, .st 6 (.t 9) (.t 53)⟩,
 ⟨some 10, none, .mov (.t 54)⟩,
 ⟨some 11, none, .mov (.t 55)⟩] (some [0, 3, 4, 8, 9, 10, 11]))
 (.seq
 (.seq
 (.drw [⟨⟨some 56, none, .mov (.t 11)⟩, []⟩,
 ⟨⟨some 57, none, .bin .neq .none (.t 56) (.c (.int .i64 0))⟩, [0]⟩,
 ⟨⟨some 58, none, .mov (.t 57)⟩, [1]⟩,
 ⟨⟨some 59, some (58, false), .ld (some 6) (.t 9)⟩, [2]⟩,
 ⟨⟨some 60, some (58, false), .mov (.t 0)⟩, [2]⟩,
 ⟨⟨some 61, some (58, false), .mov (.t 8)⟩, [2]⟩,
 ⟨⟨some 62, some (58, false), .ia 6 (.t 60) (.t 61)⟩, [4, 5, 2]⟩,
 ⟨⟨some 63, some (58, false), .ld (some 6) (.t 62)⟩, [6, 2]⟩,
 ⟨⟨some 64, some (58, false), .call (.c (.fn (.func 19) [] [])) [(.t 59), (.t 63)]⟩, [3, 7, 2, 2]⟩,
 ⟨⟨some 65, some (58, false), .un .not (.t 64)⟩, [8, 2]⟩,
 ⟨⟨some 66, none, .pick (.t 58) (.c (.bool true)) (.t 65)⟩, [2, 9]⟩]
 [] (some [0, 3, 4, 8, 10, 66]))
 (.cond (.t 66)
 (.seq
 (.reg [⟨some 2, none, .mov (.c (.bool false))⟩] (some [2]))
 .ret)
 .skip))
 (.reg [⟨some 67, none, .mov (.t 4)⟩,
 ⟨some 68, none, .mov (.t 10)⟩,
 ⟨some 69, none, .sll 1 (.t 67) (some (.t 68)) none none⟩,
 ⟨some 4, none, .mov (.t 69)⟩] (some [0, 3, 4, 8])))))
 (.reg [⟨some 48, none, .mov (.t 8)⟩,
 ⟨some 49, none, .bin .add .none (.t 48) (.c (.int .i64 1))⟩,
 ⟨some 8, none, .mov (.t 49)⟩] (some [0, 3, 4, 8]))))
def ir_clavierlaw03WireLists_l1 : ICode :=
 (.seq
 (.seq
 (.reg [⟨some 17, none, .mov (.t 5)⟩,
 ⟨some 18, none, .mov (.t 0)⟩,
 ⟨some 19, none, .len (.t 18)⟩,
 ⟨some 20, none, .bin .lss .none (.t 17) (.t 19)⟩] (some [0, 3, 4, 5, 20]))
 (.cond (.t 20)
 .skip
 (.exit 0)))
 (.seq
 (.blk 1
 (.seq
 (.seq
 (.reg [⟨some 23, none, .mov (.t 0)⟩,
 ⟨some 24, none, .mov (.t 5)⟩,
 ⟨some 25, none, .ia 6 (.t 23) (.t 24)⟩,
 ⟨some 26, none, .ld (some 6) (.t 25)⟩,
 ⟨some 27, none, .call (.c (.fn (.func 13) [] [])) [(.t 26)]⟩,
 ⟨some 28, none, .un .not (.t 27)⟩] (some [0, 3, 4, 5, 28]))
 (.cond (.t 28)
 (.seq
 (.reg [⟨some 29, none, .mov (.t 3)⟩,
 ⟨some 2, none, .mov (.t 29)⟩] (some [2]))
 .ret)
 .skip))
 (.seq
 (.reg [⟨some 31, none, .mov (.t 0)⟩,
 ⟨some 32, none, .mov (.t 5)⟩,
 ⟨some 33, none, .ia 6 (.t 31) (.t 32)⟩,
 ⟨some 34, none, .ld (some 6) (.t 33)⟩,
 ⟨some 35, none, .call (.c (.fn (.func 14) [] [])) [(.t 34)]⟩,
 ⟨some 30, none, .mov (.t 35)⟩,
 ⟨some 36, none, .ext (.t 30) 0⟩,
 ⟨some 37, none, .ext (.t 30) 1⟩,
 ⟨some 6, none, .mov (.t 36)⟩,
 ⟨some 7, none, .mov (.t 37)⟩] (some [0, 3, 4, 5, 6, 7]))
 (.seq
 (.seq
 (.reg [⟨some 38, none, .mov (.t 7)⟩,
 ⟨some 39, none, .bin .neq .none (.t 38) (.c (.int .i64 0))⟩] (some [0, 3, 4, 5, 6, 39]))
 (.cond (.t 39)
 (.seq
 (.reg [⟨some 40, none, .mov (.t 3)⟩,
 ⟨some 2, none, .mov (.t 40)⟩] (some [2]))
 .ret)
 .skip))
 (.reg [⟨some 41, none, .mov (.t 4)⟩,
 ⟨some 42, none, .mov (.t 6)⟩,
 ⟨some 43, none, .app 5 1 1 (.t 41) (.t 42)⟩,
 ⟨some 4, none, .mov (.t 43)⟩] (some [0, 3, 4, 5]))))))
 (.reg [⟨some 21, none, .mov (.t 5)⟩,
 ⟨some 22, none, .bin .add .none (.t 21) (.c (.int .i64 1))⟩,
 ⟨some 5, none, .mov (.t 22)⟩] (some [0, 3, 4, 5]))))
def ir_clavierlaw03WireLists : ICode :=
 (.seq
 (.reg [⟨some 2, none, .mov (.c (.bool false))⟩] (some [0]))
 (.seq
 (.reg [⟨some 12, none, .call (.c (.fn (.func 12) [] [])) []⟩,
 ⟨some 3, none, .mov (.t 12)⟩] (some [0, 3]))
 (.seq
 (.seq
 (.reg [⟨some 13, none, .mov (.t 0)⟩,
 ⟨some 14, none, .len (.t 13)⟩,
 ⟨some 15, none, .bin .gtr .none (.t 14) (.c (.int .i64 8))⟩] (some [0, 3, 15]))
 (.cond (.t 15)
 (.seq
 (.reg [⟨some 16, none, .mov (.t 3)⟩,
 ⟨some 2, none, .mov (.t 16)⟩] (some [2]))
 .ret)
 .skip))
 (.seq
 (.reg [⟨some 4, none, .mov (.c .nils)⟩] (some [0, 3, 4]))
 (.seq
 (.seq
 (.reg [⟨some 5, none, .mov (.c (.int .i64 0))⟩] (some [0, 3, 4, 5]))
 (.blk 0
 (.loop
 ir_clavierlaw03WireLists_l1)))
 (.seq
 (.seq
 (.reg [⟨some 8, none, .mov (.c (.int .i64 0))⟩] (some [0, 3, 4, 8]))
 (.blk 2
 (.loop
 ir_clavierlaw03WireLists_l0)))
 (.seq
 (.reg [⟨some 70, none, .mov (.t 3)⟩,
 ⟨some 71, none, .mov (.t 70)⟩,
 ⟨some 72, some (71, true), .mov (.t 4)⟩,
 ⟨some 73, some (71, true), .len (.t 72)⟩,
 ⟨some 74, some (71, true), .bin .eql .none (.t 73) (.c (.int .i64 0))⟩,
 ⟨some 75, none, .pick (.t 71) (.t 74) (.c (.bool false))⟩,
 ⟨some 2, none, .mov (.t 75)⟩] (some [2]))
 .ret)))))))
theorem is_clavierlaw03WireLists : IrOf Tryd.prog 6 76 ir_clavierlaw03WireLists [.t 2] := ⟨_, Tryd.func6, rfl, by kernel_rfl, by kernel_rfl, by kernel_rfl⟩

theorem putB_len {s : Sq} (h : mayP s = 0) : (putB s).length ≤ 8000 := by
  have h1 := bodyB_len h
  obtain ⟨_, h2, h3, h4, h5⟩ := mayP_sm h
  unfold putB
  simp only
  repeat' split
  all_goals simp only [List.length_append, List.length_cons, List.length_nil]; omega
theorem puts_len : ∀ {l : List Sq}, (∀ s ∈ l, mayP s = 0) → (l.flatMap putB).length ≤ 8000 * l.length
  | [], _ => by simp
  | s :: l, h => by
    have h1 := putB_len (h s List.mem_cons_self)
    have h2 := puts_len (l := l) fun t ht => h t (List.mem_cons_of_mem _ ht)
    simp only [List.flatMap_cons, List.length_append, List.length_cons]; omega
theorem bytesAV_dropP (a b : List UInt8) : (bytesAV (a ++ b)).drop a.length = bytesAV b := by
  unfold bytesAV
  rw [List.map_append, List.drop_append_of_le_length (by simp), List.drop_of_length_le (by simp), List.nil_append]
set_option maxHeartbeats 4000000 in
theorem fs_WireLists {Gl : Gh → Prop} (hst : Stays Gl) {l : List Sq} (hl : l.length ≤ maxLen ∧ ∀ s ∈ l, s.ok) : FS Tryd.prog Gl 6 [.sl none 6 (sqsAV l)] [] [] (.bool true) [] [] := by
  refine FS.of hm hst is_clavierlaw03WireLists (by simp) fun γ hγ hfr => ?_
  obtain ⟨hl1, hok⟩ := hl
  have hcc : ∀ s : Sq, s.c = [.int .i64 s.k, .int .u8 s.pr, .sl none 1 (parsAV s.ps), .str s.it, .int .u8 s.fi, .str s.da] := fun _ => rfl
  (generalize hQ : (fun (ex : Ex) (_ _ : Nat) (s : St) => _) = Q; unfold ir_clavierlaw03WireLists)
  simp +contextual (maxSteps := 1000000) only [go_sem, reduceCtorEq, ↓reduceIte, Nat.reduceAdd, Nat.reduceEqDiff, Nat.reduceLeDiff, Nat.reduceMul, Nat.reduceBEq, Int.reduceBEq, Int.reduceBNe, Int.reduceLT, Int.reduceLE, Int.reduceGT, Int.reduceGE, Int.reduceToNat]
  (refine CallP.pure (fs_awake03 hst) (fun _ => rfl) ?_; simp +contextual (maxSteps := 1000000) only [sqsAV_length, go_sem, reduceCtorEq, ↓reduceIte, Nat.reduceAdd, Nat.reduceEqDiff, Nat.reduceLeDiff, Nat.reduceMul, Nat.reduceBEq, Int.reduceBEq, Int.reduceBNe, Int.reduceLT, Int.reduceLE, Int.reduceGT, Int.reduceGE, Int.reduceToNat])
  by_cases h8 : (l.length : Int) > 8
  · have hd : decide ((l.length : Int) > 8) = true := decide_eq_true h8
    simp +contextual (maxSteps := 1000000) only [hd, go_sem, reduceCtorEq, ↓reduceIte, Nat.reduceAdd, Nat.reduceEqDiff, Nat.reduceLeDiff, Nat.reduceMul, Nat.reduceBEq, Int.reduceBEq, Int.reduceBNe, Int.reduceLT, Int.reduceLE, Int.reduceGT, Int.reduceGE, Int.reduceToNat]
    rw [← hQ]
    exact ⟨trivial, Ret.flat rfl rfl⟩
  have hd : decide ((l.length : Int) > 8) = false := decide_eq_false h8
  simp +contextual (maxSteps := 1000000) only [hd, go_sem, reduceCtorEq, ↓reduceIte, Nat.reduceAdd, Nat.reduceEqDiff, Nat.reduceLeDiff, Nat.reduceMul, Nat.reduceBEq, Int.reduceBEq, Int.reduceBNe, Int.reduceLT, Int.reduceLE, Int.reduceGT, Int.reduceGE, Int.reduceToNat]
  refine kLoop_ix (fun q : Nat × Option Nm => ⟨lf [(0, .sl none 6 (sqsAV l)), (3, .bool true), (4, sv q.2 1 (bytesAV ((l.take q.1).flatMap putB))), (5, .int .i64 q.1)], [], fun x => q.2 = some x⟩) (fun q => q.1 ≤ l.length ∧ (q.2 = none → q.1 = 0) ∧ ∀ s ∈ l.take q.1, mayP s = 0) (fun q => l.length - q.1) 0 (0, none) (Wk.perm' ?_ (fun p hp => hp) (fun t ht => by cases ht)) (by simp) ?_
  · simp only [lfOK]
    repeat' first | exact AVle.refl _ _ | exact trivial | refine And.intro ?_ ?_ | exact AVle.int (by simp only [IntKind.wrap_i64]; omega)
  rintro γ' ⟨i, tk⟩ hf ⟨hi, htk, hall⟩
  simp only at hi htk hf hall
  generalize hQ' : kIt _ _ _ _ _ = Q'
  unfold ir_clavierlaw03WireLists_l1
  by_cases hlt : i < l.length
  · have hd : decide ((i : Int) < (l.length : Int)) = true := decide_eq_true (by omega)
    have hg : (sqsAV l).getD i [] = l[i].c := sqsAV_get hlt
    have hw : IntKind.i64.wrap ((i : Int) + 1) = ((i + 1 : Nat) : Int) := by rw [IntKind.wrap_i64]; omega
    have ho := hok l[i] (List.getElem_mem _)
    have c1 := fs_few (Gl := Gl) hst (s := l[i]) ho.sm.ps
    have c2 := fs_wPutL (Gl := Gl) hst ho
    rw [hcc] at c1 c2 hg
    simp +contextual (maxSteps := 1000000) only [hd, hg, Int.toNat_natCast, sqsAV_length, go_sem, reduceCtorEq, ↓reduceIte, Nat.reduceAdd, Nat.reduceEqDiff, Nat.reduceLeDiff, Nat.reduceMul, Nat.reduceBEq, Int.reduceBEq, Int.reduceBNe, Int.reduceLT, Int.reduceLE, Int.reduceGT, Int.reduceGE, Int.reduceToNat]
    refine ⟨⟨by omega, by omega⟩, ?_⟩
    (refine CallP.pure (c1) (fun _ => rfl) ?_; simp +contextual (maxSteps := 1000000) only [go_sem, reduceCtorEq, ↓reduceIte, Nat.reduceAdd, Nat.reduceEqDiff, Nat.reduceLeDiff, Nat.reduceMul, Nat.reduceBEq, Int.reduceBEq, Int.reduceBNe, Int.reduceLT, Int.reduceLE, Int.reduceGT, Int.reduceGE, Int.reduceToNat])
    cases hF : fewB l[i] with
    | false =>
      simp +contextual (maxSteps := 1000000) only [hF, go_sem, reduceCtorEq, ↓reduceIte, Nat.reduceAdd, Nat.reduceEqDiff, Nat.reduceLeDiff, Nat.reduceMul, Nat.reduceBEq, Int.reduceBEq, Int.reduceBNe, Int.reduceLT, Int.reduceLE, Int.reduceGT, Int.reduceGE, Int.reduceToNat]
      rw [← hQ']
      simp only [w_kIt_r, w_kBlk_r, w_kSeq_r]
      rw [← hQ]
      exact ⟨trivial, Ret.flat rfl rfl⟩
    | true =>
    simp +contextual (maxSteps := 1000000) only [hF, hg, Int.toNat_natCast, sqsAV_length, go_sem, reduceCtorEq, ↓reduceIte, Nat.reduceAdd, Nat.reduceEqDiff, Nat.reduceLeDiff, Nat.reduceMul, Nat.reduceBEq, Int.reduceBEq, Int.reduceBNe, Int.reduceLT, Int.reduceLE, Int.reduceGT, Int.reduceGE, Int.reduceToNat]
    refine ⟨⟨by omega, by omega⟩, ?_⟩
    by_cases hm' : mayP l[i] = 0
    · have hq : (mayP l[i] != 0) = false := by rw [hm']; rfl
      rw [putX_may hm', hm'] at c2
      have hsn : (l.take (i + 1)).flatMap putB = (l.take i).flatMap putB ++ putB l[i] := by
        rw [List.take_add_one, List.getElem?_eq_getElem hlt, List.flatMap_append]; simp
      have hall' : ∀ s ∈ l.take (i + 1), mayP s = 0 := by
        intro s hs
        rw [List.take_add_one, List.getElem?_eq_getElem hlt, List.mem_append] at hs
        rcases hs with hs | hs
        · exact hall s hs
        · simp at hs; rw [hs]; exact hm'
      have hn1 := putB_len hm'
      have hn2 := puts_len hall
      have hn3 := List.length_take_le i l
      cases tk with
      | none =>
        obtain rfl := htk rfl
        (refine CallP.pure (c2) (fun _ => rfl) ?_; simp +contextual (maxSteps := 1000000) only [bytesAV_length', hq, go_sem, reduceCtorEq, ↓reduceIte, Nat.reduceAdd, Nat.reduceEqDiff, Nat.reduceLeDiff, Nat.reduceMul, Nat.reduceBEq, Int.reduceBEq, Int.reduceBNe, Int.reduceLT, Int.reduceLE, Int.reduceGT, Int.reduceGE, Int.reduceToNat])
        refine ⟨by omega, ?_⟩
        rw [← hQ']
        simp only [w_kIt_n]
        refine ⟨0, (1, some (γ', 24, 0)), Wk.perm' ?_ (fun p hp => hp) (fun t ht => ?_), ⟨by simp only; omega, by simp, hall'⟩, by simp only; omega⟩
        · rw [show (l.take 1).flatMap putB = putB l[0] from hsn]
          repeat' first | exact AVle.refl _ _ | exact trivial | refine And.intro ?_ ?_ | exact AVle.int (by simp only [IntKind.wrap_i64]; omega)
        · simp only [Option.some.injEq] at ht
          exact ht.symm
      | some t0 =>
        (refine CallP.pure (c2) (fun _ => rfl) ?_; simp +contextual (maxSteps := 1000000) only [bytesAV_length', hq, go_sem, reduceCtorEq, ↓reduceIte, Nat.reduceAdd, Nat.reduceEqDiff, Nat.reduceLeDiff, Nat.reduceMul, Nat.reduceBEq, Int.reduceBEq, Int.reduceBNe, Int.reduceLT, Int.reduceLE, Int.reduceGT, Int.reduceGE, Int.reduceToNat])
        refine ⟨by omega, ?_⟩
        rw [← hQ']
        simp only [w_kIt_n]
        refine ⟨0, (i + 1, some (γ', 24, 0)), Wk.perm' ?_ (fun p hp => hp) (fun t ht => ?_), ⟨by simp only; omega, by simp, hall'⟩, by simp only; omega⟩
        · rw [hw, hsn, show bytesAV ((l.take i).flatMap putB ++ putB l[i]) = bytesAV ((l.take i).flatMap putB) ++ bytesAV (putB l[i]) by simp [bytesAV]]
          repeat' first | exact AVle.refl _ _ | exact trivial | refine And.intro ?_ ?_ | exact AVle.int (by simp only [IntKind.wrap_i64]; omega)
        · simp only [Option.some.injEq] at ht
          exact .inl ht.symm
    · have hq : (mayP l[i] != 0) = true := by rw [bne_iff_ne]; exact hm'
      (refine CallP.pure (c2) (fun _ => rfl) ?_; simp +contextual (maxSteps := 1000000) only [hq, go_sem, reduceCtorEq, ↓reduceIte, Nat.reduceAdd, Nat.reduceEqDiff, Nat.reduceLeDiff, Nat.reduceMul, Nat.reduceBEq, Int.reduceBEq, Int.reduceBNe, Int.reduceLT, Int.reduceLE, Int.reduceGT, Int.reduceGE, Int.reduceToNat])
      rw [← hQ']
      simp only [w_kIt_r, w_kBlk_r, w_kSeq_r]
      rw [← hQ]
      exact ⟨trivial, Ret.flat rfl rfl⟩
  · have hd : decide ((i : Int) < (l.length : Int)) = false := decide_eq_false (by omega)
    simp +contextual (maxSteps := 1000000) only [hd, sqsAV_length, go_sem, reduceCtorEq, ↓reduceIte, Nat.reduceAdd, Nat.reduceEqDiff, Nat.reduceLeDiff, Nat.reduceMul, Nat.reduceBEq, Int.reduceBEq, Int.reduceBNe, Int.reduceLT, Int.reduceLE, Int.reduceGT, Int.reduceGE, Int.reduceToNat]
    rw [← hQ']
    simp only [w_kIt_e, w_kBlk_e, ↓reduceIte]
    simp +contextual (maxSteps := 1000000) only [go_sem, reduceCtorEq, ↓reduceIte, Nat.reduceAdd, Nat.reduceEqDiff, Nat.reduceLeDiff, Nat.reduceMul, Nat.reduceBEq, Int.reduceBEq, Int.reduceBNe, Int.reduceLT, Int.reduceLE, Int.reduceGT, Int.reduceGE, Int.reduceToNat]
    have htl : l.take i = l := List.take_of_length_le (by omega)
    have hsv : RepLe (sv tk 1 (bytesAV ((l.take i).flatMap putB))) (.sl none 1 (bytesAV (l.flatMap putB))) := by
      cases tk with
      | none =>
        obtain rfl := htk rfl
        rw [← htl]; exact RepLe.nils 1
      | some t0 => rw [htl]; exact RepLe.anon _ _ _
    rw [htl] at hall
    refine kLoop_ix (fun j : Nat => ⟨lf [(0, .sl none 6 (sqsAV l)), (3, .bool true), (4, .sl none 1 (bytesAV ((l.drop j).flatMap putB))), (8, .int .i64 j)], [], fun x => x ∈ []⟩) (fun j => j ≤ l.length) (fun j => l.length - j) 0 0 (Wk.perm' ?_ (fun p hp => hp) (fun t ht => by cases ht)) (by simp) ?_
    · simp only [lfOK]
      refine ⟨AVle.refl _ _, AVle.refl _ _, AVle.le hsv, AVle.refl _ _, trivial⟩
    rintro γ2 j hf2 hj
    generalize hQ2 : kIt _ _ _ _ _ = Q2
    unfold ir_clavierlaw03WireLists_l0
    by_cases hlt2 : j < l.length
    · have hd : decide ((j : Int) < (l.length : Int)) = true := decide_eq_true (by omega)
      have hg : (sqsAV l).getD j [] = l[j].c := sqsAV_get hlt2
      have hw : IntKind.i64.wrap ((j : Int) + 1) = ((j + 1 : Nat) : Int) := by rw [IntKind.wrap_i64]; omega
      have ho := hok l[j] (List.getElem_mem _)
      have hm2 := hall l[j] (List.getElem_mem _)
      have hdr : (l.drop j).flatMap putB = putB l[j] ++ (l.drop (j + 1)).flatMap putB := by rw [List.drop_eq_getElem_cons hlt2, List.flatMap_cons]
      obtain ⟨t1, t2, t3⟩ := take_may hm2 ((l.drop (j + 1)).flatMap putB)
      rw [← hdr] at t1 t2 t3
      have hn1 := puts_len (l := l.drop j) fun s hs => hall s (List.mem_of_mem_drop hs)
      rw [List.length_drop] at hn1
      have c3 := fs_wTake (Gl := Gl) hst (b := (l.drop j).flatMap putB) (tb := none) (by omega) t1 t2
      rw [t3] at c3
      have c4 := fs_wSame (Gl := Gl) hst (a := l[j]) (b := l[j]) ⟨ho.sm.ps, ho.sm.pp⟩ ⟨ho.sm.ps, ho.sm.pp⟩
      rw [decide_eq_true rfl] at c4
      rw [hcc] at c3 c4 hg
      have hbd := bytesAV_dropP (putB l[j]) ((l.drop (j + 1)).flatMap putB)
      rw [← hdr] at hbd
      have hlp : (putB l[j]).length ≤ ((l.drop j).flatMap putB).length := by rw [hdr, List.length_append]; omega
      simp +contextual (maxSteps := 1000000) only [hd, sqsAV_length, go_sem, reduceCtorEq, ↓reduceIte, Nat.reduceAdd, Nat.reduceEqDiff, Nat.reduceLeDiff, Nat.reduceMul, Nat.reduceBEq, Int.reduceBEq, Int.reduceBNe, Int.reduceLT, Int.reduceLE, Int.reduceGT, Int.reduceGE, Int.reduceToNat]
      (refine CallP.pure (c3) (fun _ => rfl) ?_; simp +contextual (maxSteps := 1000000) only [hg, Int.toNat_natCast, sqsAV_length, go_sem, reduceCtorEq, ↓reduceIte, Nat.reduceAdd, Nat.reduceEqDiff, Nat.reduceLeDiff, Nat.reduceMul, Nat.reduceBEq, Int.reduceBEq, Int.reduceBNe, Int.reduceLT, Int.reduceLE, Int.reduceGT, Int.reduceGE, Int.reduceToNat])
      refine ⟨⟨by omega, by omega⟩, DCall.new c4 ?_⟩
      have htk2 : (bytesAV ((l.drop j).flatMap putB)).take ((l.drop j).flatMap putB).length = bytesAV ((l.drop j).flatMap putB) := List.take_of_length_le (by rw [bytesAV_length']; omega)
      simp +contextual (maxSteps := 1000000) only [bytesAV_length', hbd, htk2, Int.toNat_natCast, go_sem, reduceCtorEq, ↓reduceIte, Nat.reduceAdd, Nat.reduceEqDiff, Nat.reduceLeDiff, Nat.reduceMul, Nat.reduceBEq, Int.reduceBEq, Int.reduceBNe, Int.reduceLT, Int.reduceLE, Int.reduceGT, Int.reduceGE, Int.reduceToNat]
      refine ⟨⟨by omega, by omega, by omega⟩, ?_⟩
      rw [← hQ2]
      simp only [w_kIt_n]
      refine ⟨0, j + 1, Wk.perm' ?_ (fun p hp => by cases hp) (fun t ht => ht), by omega, by omega⟩
      rw [hw]
      repeat' first | exact AVle.refl _ _ | exact trivial | refine And.intro ?_ ?_ | exact AVle.int (by simp only [IntKind.wrap_i64]; omega)
    · have hd : decide ((j : Int) < (l.length : Int)) = false := decide_eq_false (by omega)
      have hdn : l.drop j = [] := List.drop_of_length_le (by omega)
      rw [hdn]
      simp +contextual (maxSteps := 1000000) only [hd, sqsAV_length, go_sem, reduceCtorEq, ↓reduceIte, Nat.reduceAdd, Nat.reduceEqDiff, Nat.reduceLeDiff, Nat.reduceMul, Nat.reduceBEq, Int.reduceBEq, Int.reduceBNe, Int.reduceLT, Int.reduceLE, Int.reduceGT, Int.reduceGE, Int.reduceToNat]
      rw [← hQ2]
      simp only [w_kIt_e, w_kBlk_e, ↓reduceIte]
      have hz0 : bytesAV (([] : List Sq).flatMap putB) = [] := rfl
      simp +contextual (maxSteps := 1000000) only [hz0, go_sem, reduceCtorEq, ↓reduceIte, Nat.reduceAdd, Nat.reduceEqDiff, Nat.reduceLeDiff, Nat.reduceMul, Nat.reduceBEq, Int.reduceBEq, Int.reduceBNe, Int.reduceLT, Int.reduceLE, Int.reduceGT, Int.reduceGE, Int.reduceToNat]
      rw [← hQ]
      exact ⟨trivial, Ret.flat rfl rfl⟩
end Go.Proofs.YtfnngjnfajnpaaaDoor

namespace Go.Proofs.YtfnngjnfajnpaaaDoor
open Go Go.Ab Go.WideShapes Go.RowKit
theorem seat_own : ownKnob Tryd.prog.godebug = none := by kernel_rfl
theorem seat_laidOut : laidOutB Tryd.prog = true := by kernel_rfl
section
variable {H : Type} {enc : TypeId × Value → H} {W : World} {base : Nat} {v : Value} {d : DataW H} {p : List MemPlace}
end
end Go.Proofs.YtfnngjnfajnpaaaDoor

namespace Go.Proofs.YtfnngjnfajnpaaaDoor
open Go Go.Ab
end Go.Proofs.YtfnngjnfajnpaaaDoor

namespace Go.Proofs.YtfnngjnfajnpaaaDoor
open Go Go.Ab
theorem fixW_of5 {W : World} (h : laidMetH Tryd.prog [("math/bits.deBruijn32tab", Rows.laid_math_bits_deBruijn32tab), ("math/bits.deBruijn64tab", Rows.laid_math_bits_deBruijn64tab), ("internal/strconv.uint64pow10", Rows.laid_internal_strconv_uint64pow10), ("unicode/utf8.acceptRanges", Rows.laid_unicode_utf8_acceptRanges), ("unicode/utf8.first", Rows.laid_unicode_utf8_first)] W) : FixW W := by
  rw [MakeChecks.laidMetH_plain _ _ _ (by kernel_rfl)] at h
  have h2 := laidMet.filter (fun x => x.1 == "internal/strconv.uint64pow10") h
  have h3 : laidMet Tryd.prog [("internal/strconv.uint64pow10", Lib.tabData .u64 Lib.pow10Tab)] W := h2
  have h4 := Lib.tabIs_of_head (g := 3) (t := 140) (e := 130) (n := 20) (by kernel_rfl) (by kernel_rfl) (by kernel_rfl) (by kernel_rfl) (by kernel_rfl) (by kernel_rfl) h3
  intro p hp
  obtain rfl := List.mem_singleton.1 hp
  unfold Lib.TabIs World.var? at h4
  rw [show Program.globalNamed Tryd.prog "internal/strconv.uint64pow10" = some 3 from by kernel_rfl] at h4
  simp only [Option.bind_some] at h4
  split at h4
  · rename_i cs e fr hh
    simp only [Option.some.injEq] at h4
    refine ⟨e, fr, ?_⟩
    rw [hh, h4]
    simp [Lib.pow10Tab]
  · cases h4
end Go.Proofs.YtfnngjnfajnpaaaDoor

namespace Go.Proofs.YtfnngjnfajnpaaaDoor
open Go Go.Ab Go.WideShapes Go.RowKit
section
variable {H : Type} {enc : TypeId × Value → H} {W : World} {base : Nat} {v : Value} {d : DataW H} {p : List MemPlace}
theorem ints_of : ∀ {rows : List (List AV)}, (∀ r ∈ rows, ∃ n : Int, r = [.int .i64 n] ∧ IntKind.i64.min ≤ n ∧ n ≤ IntKind.i64.max) → ∃ l : List Int, rows = intsAV l
  | [], _ => ⟨[], rfl⟩
  | r :: rows, h => by
    obtain ⟨n, rfl, _⟩ := h r List.mem_cons_self
    obtain ⟨l, rfl⟩ := ints_of (rows := rows) fun r hr => h r (List.mem_cons_of_mem _ hr)
    exact ⟨n :: l, rfl⟩
theorem tr_ints : TR enc Tryd.prog W 44 fun xs => ∃ l : List Int, xs = [intsV l] ∧ l.length ≤ maxLen := by
  refine (TR.slice (e := 3) (sz := 1) (by kernel_rfl) (by kernel_rfl) (by omega) (TR.int (k := .i64) (by kernel_rfl))).mono ?_
  rintro xs ⟨rows, rfl, h1, h2⟩
  obtain ⟨l, rfl⟩ := ints_of fun r hr => (h2 r hr).1
  exact ⟨l, rfl, by rwa [intsAV_length] at h1⟩
theorem pars_of : ∀ {rows : List (List AV)}, (∀ r ∈ rows, ∃ l : List Int, r = [intsV l] ∧ l.length ≤ maxLen) → ∃ l : List (List Int), rows = parsAV l ∧ ∀ p ∈ l, p.length ≤ maxLen
  | [], _ => ⟨[], rfl, by simp⟩
  | r :: rows, h => by
    obtain ⟨n, rfl, h1⟩ := h r List.mem_cons_self
    obtain ⟨l, rfl, h2⟩ := pars_of (rows := rows) fun r hr => h r (List.mem_cons_of_mem _ hr)
    exact ⟨n :: l, rfl, fun p hp => (List.mem_cons.1 hp).elim (fun e => by rw [e]; exact h1) (h2 p)⟩
theorem tr_pars : TR enc Tryd.prog W 22 fun xs => ∃ l : List (List Int), xs = [parsV l] ∧ l.length ≤ maxLen ∧ ∀ p ∈ l, p.length ≤ maxLen := by
  refine (TR.slice (e := 44) (sz := 1) (by kernel_rfl) (by kernel_rfl) (by omega) tr_ints).mono ?_
  rintro xs ⟨rows, rfl, h1, h2⟩
  obtain ⟨l, rfl, h3⟩ := pars_of fun r hr => (h2 r hr).1
  exact ⟨l, rfl, by rwa [parsAV_length] at h1, h3⟩
theorem u8r {n : Int} (h : IntKind.u8.min ≤ n ∧ n ≤ IntKind.u8.max) : 0 ≤ n ∧ n < 256 := by
  have h1' : 0 ≤ n := by simpa [IntKind.min, IntKind.signed] using h.1
  have h2' : n ≤ 255 := by simpa [IntKind.max, IntKind.signed, IntKind.bits] using h.2
  omega
theorem seq_is : structIs Tryd.prog 24 [(0, 3), (1, 5), (2, 22), (3, 9), (4, 5), (5, 9)] = true := by kernel_rfl
theorem tr_Seq : TR enc Tryd.prog W 24 fun xs => ∃ s : Sq, xs = s.c ∧ s.ok := by
  refine (TR.structL (Rs := [fun xs => ∃ n, xs = [.int .i64 n] ∧ IntKind.i64.min ≤ n ∧ n ≤ IntKind.i64.max, fun xs => ∃ n, xs = [.int .u8 n] ∧ IntKind.u8.min ≤ n ∧ n ≤ IntKind.u8.max, fun xs => ∃ l : List (List Int), xs = [parsV l] ∧ l.length ≤ maxLen ∧ ∀ p ∈ l, p.length ≤ maxLen, fun xs => ∃ s, xs = [.str s] ∧ s.length ≤ maxLen, fun xs => ∃ n, xs = [.int .u8 n] ∧ IntKind.u8.min ≤ n ∧ n ≤ IntKind.u8.max, fun xs => ∃ s, xs = [.str s] ∧ s.length ≤ maxLen]) 6 seq_is (by kernel_rfl) ?_).mono ?_
  · exact ⟨rfl, TR.int (by kernel_rfl), 1, by kernel_rfl, rfl, TR.int (by kernel_rfl), 1, by kernel_rfl, rfl, tr_pars, 1, by kernel_rfl, rfl, TR.str (by kernel_rfl), 1, by kernel_rfl, rfl, TR.int (by kernel_rfl), 1, by kernel_rfl, rfl, TR.str (by kernel_rfl), 1, by kernel_rfl, rfl⟩
  · rintro xs ⟨_, _, ⟨k, rfl, _⟩, ⟨_, _, ⟨pr, rfl, hpr⟩, ⟨_, _, ⟨ps, rfl, hp1, hp2⟩, ⟨_, _, ⟨it, rfl, hi⟩, ⟨_, _, ⟨fi, rfl, hfi⟩, ⟨_, _, ⟨da, rfl, hd⟩, h, rfl⟩, rfl⟩, rfl⟩, rfl⟩, rfl⟩, rfl⟩
    have h : _ = [] := h
    subst h
    simp only [maxLen] at hp1 hp2 hi hd
    exact ⟨⟨k, pr, ps, it, fi, da⟩, rfl, ⟨⟨by simp only; omega, fun p hp => by have := hp2 p hp; omega, by simp only; omega, by simp only; omega⟩, u8r hpr, u8r hfi⟩⟩
theorem sqs_of : ∀ {rows : List (List AV)}, (∀ r ∈ rows, ∃ s : Sq, r = s.c ∧ s.ok) → ∃ l : List Sq, rows = sqsAV l ∧ ∀ s ∈ l, s.ok
  | [], _ => ⟨[], rfl, by simp⟩
  | r :: rows, h => by
    obtain ⟨n, rfl, h1⟩ := h r List.mem_cons_self
    obtain ⟨l, rfl, h2⟩ := sqs_of (rows := rows) fun r hr => h r (List.mem_cons_of_mem _ hr)
    exact ⟨n :: l, rfl, fun p hp => (List.mem_cons.1 hp).elim (fun e => by rw [e]; exact h1) (h2 p)⟩
theorem op_apiSeqs (hv : Value.okWide Tryd.prog W .any base 41 v) (hd : DataW.Trod enc Tryd.prog W 0 (fun _ => true) true 41 v d p) : ∃ l : List Sq, (l.length ≤ maxLen ∧ ∀ s ∈ l, s.ok) ∧ Rep (gh0 W) (.sl none 6 (sqsAV l)) v := by
  obtain ⟨a, len, cap, rfl⟩ := okWide_slice (P := Tryd.prog) (e := 24) (by kernel_rfl) hv
  obtain ⟨x, ⟨rows, h1, h2, h3⟩, hr⟩ := (TR.slice (e := 24) (sz := 6) (by kernel_rfl) (by kernel_rfl) (by omega) tr_Seq).arg1 rfl hd
  simp only [List.cons.injEq, and_true] at h1
  subst h1
  obtain ⟨l, rfl, h4⟩ := sqs_of fun r hr => (h3 r hr).1
  exact ⟨l, ⟨by rwa [sqsAV_length] at h2, h4⟩, hr⟩
end
end Go.Proofs.YtfnngjnfajnpaaaDoor

namespace Go.Proofs.YtfnngjnfajnpaaaDoor
open Go Go.Ab Go.ChangeShapes Go.WideShapes Go.ChangeAt Go.RowKit
theorem wireLists_lifted (os : Os) (started : os.Started) (H : Type) (enc : TypeId × Value → H) (F : Stop.Interp) :
    ReturnsInHanded {} Tryd.checked os 6 .any ((OpenSpec.ofChange Rows.wireListsSpec).preRow enc Tryd.prog Tryd.f6 Rows.wireListsRow.domain false Rows.wireListsRow.laid) (((OpenSpec.ofChange Rows.wireListsSpec).at F).post enc Tryd.prog Tryd.f6 false true false false) := by
  have hw : (DataW.whole enc Tryd.prog ((World.laidAll Tryd.prog os [("math/bits.deBruijn32tab", Rows.laid_math_bits_deBruijn32tab), ("math/bits.deBruijn64tab", Rows.laid_math_bits_deBruijn64tab), ("internal/strconv.uint64pow10", Rows.laid_internal_strconv_uint64pow10), ("unicode/utf8.acceptRanges", Rows.laid_unicode_utf8_acceptRanges), ("unicode/utf8.first", Rows.laid_unicode_utf8_first)]).forCall (fun _ _ => 0) ⟨#[], #[.slice none 0 0], []⟩).memory Tryd.f6.params.toList (OpenSpec.ofChange Rows.wireListsSpec).vars false (#[.slice none 0 0] : Array Value).toList 8).any (fun x => true) = true := by kernel_rfl
  cases hx : DataW.whole enc Tryd.prog ((World.laidAll Tryd.prog os [("math/bits.deBruijn32tab", Rows.laid_math_bits_deBruijn32tab), ("math/bits.deBruijn64tab", Rows.laid_math_bits_deBruijn64tab), ("internal/strconv.uint64pow10", Rows.laid_internal_strconv_uint64pow10), ("unicode/utf8.acceptRanges", Rows.laid_unicode_utf8_acceptRanges), ("unicode/utf8.first", Rows.laid_unicode_utf8_first)]).forCall (fun _ _ => 0) ⟨#[], #[.slice none 0 0], []⟩).memory Tryd.f6.params.toList (OpenSpec.ofChange Rows.wireListsSpec).vars false (#[.slice none 0 0] : Array Value).toList 8 with
  | none => rw [hx] at hw; cases hw
  | some x =>
  rw [hx] at hw
  have hok : Input.okWideB Tryd.checked.prog ((World.laidAll Tryd.prog os [("math/bits.deBruijn32tab", Rows.laid_math_bits_deBruijn32tab), ("math/bits.deBruijn64tab", Rows.laid_math_bits_deBruijn64tab), ("internal/strconv.uint64pow10", Rows.laid_internal_strconv_uint64pow10), ("unicode/utf8.acceptRanges", Rows.laid_unicode_utf8_acceptRanges), ("unicode/utf8.first", Rows.laid_unicode_utf8_first)]).forCall (fun _ _ => 0) ⟨#[], #[.slice none 0 0], []⟩) 6 ⟨#[], #[.slice none 0 0], []⟩ = true := by kernel_rfl
  refine returnsInHanded_of_row (C := Tryd.checked) (s := (OpenSpec.ofChange Rows.wireListsSpec)) seat_own started (by kernel_rfl) Tryd.func6
    ⟨World.laidAll Tryd.prog os [("math/bits.deBruijn32tab", Rows.laid_math_bits_deBruijn32tab), ("math/bits.deBruijn64tab", Rows.laid_math_bits_deBruijn64tab), ("internal/strconv.uint64pow10", Rows.laid_internal_strconv_uint64pow10), ("unicode/utf8.acceptRanges", Rows.laid_unicode_utf8_acceptRanges), ("unicode/utf8.first", Rows.laid_unicode_utf8_first)], fun _ _ => 0, ⟨#[], #[.slice none 0 0], []⟩, World.laidAll_os _ _ _, World.shaped_of_ZipB (by kernel_rfl) (by kernel_rfl), (Input.okWide_of_okWideB (base := 0) hok).1, (Input.okWide_of_okWideB hok).2,
      OpenSpec.preRow_of_cond 8 hx (by kernel_rfl) (fun k hk => by cases hk) (by kernel_rfl) (by rw [show Rows.wireListsRow.laid = [("math/bits.deBruijn32tab", Rows.laid_math_bits_deBruijn32tab), ("math/bits.deBruijn64tab", Rows.laid_math_bits_deBruijn64tab), ("internal/strconv.uint64pow10", Rows.laid_internal_strconv_uint64pow10), ("unicode/utf8.acceptRanges", Rows.laid_unicode_utf8_acceptRanges), ("unicode/utf8.first", Rows.laid_unicode_utf8_first)] from rfl, MakeChecks.laidMetH_plain _ _ _ (by kernel_rfl)]; exact laidMet_laidAll _ (by kernel_rfl) (by kernel_rfl)),
      by simp only [Assume.holds]; exact ⟨by simp, by simp, fun _ => Modest.zero, by simp, by simp⟩⟩ ?_
  intro W base args ds gs before hval0 hW _ hcond hreach hL _ _
  have hval : ∀ (j : Nat) t v, Tryd.f6.params[j]? = some t → args[j]? = some v → Value.okWide Tryd.prog W .any base t v := hval0
  have hW' := hW
  obtain ⟨p, q, hA0, hV, rfl, _, _⟩ := hW
  have hA : DataW.TrodAll enc Tryd.prog W 0 (fun _ => true) true Tryd.f6.params.toList args.toList ds p := hA0
  rw [Tryd.params6] at hA hval
  obtain ⟨v0, vs0, d0, ds0, p0, q0, hargs, rfl, rfl, h0, r0⟩ := trodAll_cons hA
  obtain ⟨rfl, rfl, rfl⟩ := trodAll_nil r0
  obtain rfl : args = #[v0] := by cases args; simp_all
  obtain ⟨rfl, rfl⟩ := trodVars_none hV
  have lt0 : ∀ x ∈ p0, x.block < W.heap.size := by obtain ⟨m, hm⟩ := h0; exact DataW.trod_lt m _ _ _ hm
  obtain ⟨x0, c0, e0⟩ := op_apiSeqs (hval 0 41 v0 rfl rfl) h0
  clear hA0 hval0
  refine ((fs_WireLists (Gl := fun _ => True) (fun _ _ _ _ => trivial) c0).row (fixW_of5 hL) trivial ⟨_, _, rfl, e0, rfl⟩).mono fun e W' ⟨v, g', he, hr, bel⟩ => ?_
  obtain rfl : v = .bool true := hr
  subst he
  exact ⟨_, rfl, _, _, _, [], _, [], hW', trodAll_mk1 (shut_bool (show Tryd.prog.underlying 4 = some .bool by kernel_rfl) _), (trodAll_cons_mk (Below.trod seat_laidOut (by kernel_rfl) (of_decide_eq_true (by kernel_rfl)) h0 bel lt0) trodAll_mk0), rfl, bel.frame _, fun h => by cases h⟩
theorem wireLists_holds : Rows.WireListsSaid :=
  OpenClaim.holds_of_cond 6 Tryd.f6 rfl rfl rfl rfl rfl rfl rfl ⟨rfl, rfl, rfl, rfl, rfl⟩ rfl rfl rfl rfl rfl (by kernel_rfl) Tryd.func6 (by kernel_rfl)
    (of_decide_eq_true (by kernel_rfl)) (by unfold Func.isWrapper; first | (rw [if_pos (by decide +kernel)]; kernel_rfl) | (rw [if_neg (by decide +kernel)]; exact ⟨rfl, rfl⟩))
    (fun os started H enc _ F => by rw [OpenClaim.pre_eq_preRow]; exact wireLists_lifted os started H enc F)
theorem wireLists_card : Rows.WireListsCardSaid :=
  Claim7.holds_tied_plain_at .later [] [.data, .data, .data, .data, .pinned] true (true, "113f882a1d9b5ae28fc18c7513d7d140d4f0d31d64ac4f6eb536983bb8a1d247") false wireLists_holds (fun _ h => by cases h) (by kernel_rfl) (fun _ h => by cases h) wireLists_row_tie rfl ⟨rfl, rfl⟩ (by kernel_rfl) rfl
    (fun f fn hf hfn => by
      obtain rfl : f = 6 := Option.some.inj ((show Tryd.prog.funcNamed "clavier/clavierlaw03.WireLists" = some 6 by kernel_rfl).symm.trans hf) |>.symm
      obtain rfl : fn = Tryd.f6 := (Option.some.inj (Tryd.func6.symm.trans hfn)).symm
      exact ⟨by kernel_rfl, fun j t ht => by
        rw [Tryd.params6] at ht
        have hm : t ∈ ([41] : List Nat) := by simpa using Array.mem_of_getElem? ht
        have hall : (([41] : List Nat).all fun u => !Tryd.prog.wantsStandIn u) = true := by kernel_rfl
        exact (show Tryd.prog.wantsStandIn t = false by simpa using List.all_eq_true.1 hall t hm)⟩)
    (by kernel_rfl)
#print axioms wireLists_card
end Go.Proofs.YtfnngjnfajnpaaaDoor

