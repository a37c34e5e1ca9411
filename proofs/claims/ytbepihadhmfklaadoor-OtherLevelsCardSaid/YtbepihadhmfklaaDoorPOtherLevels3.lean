/- Part 3 of 3 of a proof: the given statement OtherLevels, whatever the input that its row lets in. Conditions: those of the given row and card alone. -/
import Derived.Test.YtbepihadhmfklaaDoorPOtherLevels2
import Derived.Test.YtbepihadhmfklaaDoorPOtherLevels1
import Derived.Test.YtbepihadhmfklaaDoorPOtherLevelsAb13
import Derived.WalkKit
import Derived.ProofKit
import Derived.SizedLaws
import Derived.Test.YtbepihadhmfklaaDoorRows
import Derived.LaidSub
import Derived.Lib.LaidTab
import Derived.Lib.ItoaNum
import Derived.MakeChecks
import Derived.Test.YtbepihadhmfklaaDoorCards
import Derived.Test.YtbepihadhmfklaaDoorTie
import Derived.Deep.DeepHandedRow
import Derived.JoinedCond
import Derived.OpenShut
import Derived.ShutString
import Derived.ChangeOld
import Derived.Below
import Derived.Lay
import Derived.LaidOnce
import Derived.SevenTiedAt
set_option linter.unusedVariables false
set_option linter.unusedSimpArgs false
set_option maxRecDepth 100000
namespace Go.Proofs.YtbepihadhmfklaaDoor
open Go Go.Ab
/-- clavier/other.plain -/
def ir_otherplain : ICode :=
 (.seq
  (.reg [⟨some 1, none, .box 27 (.t 0)⟩,
    ⟨some 2, none, .mov (.c (.bool false))⟩] (some [1]))
  (.seq
   (.reg [⟨some 3, none, .fa 0 (.t 1)⟩,
     ⟨some 4, none, .ld none (.t 3)⟩,
     ⟨some 5, none, .call (.c (.fn (.func 23) [] [])) [(.t 4)]⟩,
     ⟨some 6, none, .fld 0 none (.t 5)⟩,
     ⟨some 7, none, .bin .eql .none (.t 6) (.c (.int .i64 2))⟩,
     ⟨some 2, none, .mov (.t 7)⟩] (some [2]))
   .ret))
theorem is_otherplain : IrOf Tryd.prog 39 8 ir_otherplain [.t 2] := ⟨_, Tryd.func39, rfl, by kernel_rfl, by kernel_rfl, by kernel_rfl⟩

/-- clavier/other.char -/
def ir_otherchar : ICode :=
 (.seq
  (.reg [⟨some 1, none, .box 27 (.t 0)⟩,
    ⟨some 2, none, .mov (.c (.int .i64 0))⟩,
    ⟨some 3, none, .mov (.c (.bool false))⟩] (some [1]))
  (.seq
   (.seq
    (.reg [⟨some 4, none, .fa 0 (.t 1)⟩,
      ⟨some 5, none, .ld none (.t 4)⟩,
      ⟨some 6, none, .call (.c (.fn (.func 23) [] [])) [(.t 5)]⟩,
      ⟨some 7, none, .fld 0 none (.t 6)⟩] (some [1, 7]))
    (.blk 0
     (.seq
      (.reg [⟨some 9, none, .bin .eql .none (.t 7) (.c (.int .i64 1))⟩,
        ⟨some 8, none, .mov (.t 9)⟩] (some [1, 7, 8]))
      (.cond (.t 8)
       (.seq
        (.reg [⟨some 10, none, .ld (some 6) (.t 1)⟩,
          ⟨some 11, none, .call (.c (.fn (.func 41) [] [])) [(.t 10)]⟩,
          ⟨some 2, none, .mov (.t 11)⟩,
          ⟨some 3, none, .mov (.c (.bool true))⟩] (some [2, 3]))
        .ret)
       (.seq
        (.reg [⟨some 13, none, .bin .eql .none (.t 7) (.c (.int .i64 2))⟩,
          ⟨some 12, none, .mov (.t 13)⟩] (some [1, 12]))
        (.cond (.t 12)
         (.seq
          (.reg [⟨some 14, none, .fa 0 (.t 1)⟩,
            ⟨some 15, none, .ld none (.t 14)⟩,
            ⟨some 2, none, .mov (.t 15)⟩,
            ⟨some 3, none, .mov (.c (.bool true))⟩] (some [2, 3]))
          .ret)
         .skip))))))
   (.seq
    (.reg [⟨some 2, none, .mov (.c (.int .i64 0))⟩,
      ⟨some 3, none, .mov (.c (.bool false))⟩] (some [2, 3]))
    .ret)))
theorem is_otherchar : IrOf Tryd.prog 17 16 ir_otherchar [.t 2, .t 3] := ⟨_, Tryd.func17, rfl, by kernel_rfl, by kernel_rfl, by kernel_rfl⟩

/-- clavier/other.all -/
def ir_otherall : ICode :=
 (.seq
  (.reg [⟨some 1, none, .box 27 (.t 0)⟩,
    ⟨some 2, none, .mov (.c (.bool false))⟩] (some [1]))
  (.seq
   (.reg [⟨some 4, none, .fa 1 (.t 1)⟩,
     ⟨some 5, none, .ld none (.t 4)⟩,
     ⟨some 6, none, .call (.c (.fn (.func 22) [] [])) [(.t 5)]⟩,
     ⟨some 3, none, .mov (.t 6)⟩] (some [1, 3]))
   (.seq
    (.reg [⟨some 7, none, .mov (.t 3)⟩,
      ⟨some 8, none, .bin .neq .none (.t 7) (.c (.int .i64 0))⟩,
      ⟨some 9, none, .mov (.t 8)⟩,
      ⟨some 10, some (9, true), .ld (some 6) (.t 1)⟩,
      ⟨some 11, some (9, true), .call (.c (.fn (.func 39) [] [])) [(.t 10)]⟩,
      ⟨some 12, some (9, true), .mov (.t 11)⟩,
      ⟨some 13, some (12, false), .mov (.t 3)⟩,
      ⟨some 14, some (12, false), .bin .neq .none (.t 13) (.c (.int .i64 1))⟩,
      ⟨some 15, some (9, true), .pick (.t 12) (.c (.bool true)) (.t 14)⟩,
      ⟨some 16, none, .pick (.t 9) (.t 15) (.c (.bool false))⟩,
      ⟨some 2, none, .mov (.t 16)⟩] (some [2]))
    .ret)))
theorem is_otherall : IrOf Tryd.prog 16 17 ir_otherall [.t 2] := ⟨_, Tryd.func16, rfl, by kernel_rfl, by kernel_rfl, by kernel_rfl⟩

/-- clavier/other.few -/
def ir_otherfew : ICode :=
 (.seq
  (.reg [⟨some 1, none, .box 27 (.t 0)⟩,
    ⟨some 2, none, .mov (.c (.bool false))⟩] (some [1]))
  (.seq
   (.seq
    (.reg [⟨some 5, none, .ld (some 6) (.t 1)⟩,
      ⟨some 6, none, .call (.c (.fn (.func 16) [] [])) [(.t 5)]⟩,
      ⟨some 7, none, .un .not (.t 6)⟩,
      ⟨some 8, none, .mov (.t 7)⟩,
      ⟨some 9, some (8, false), .fa 1 (.t 1)⟩,
      ⟨some 10, some (8, false), .ld none (.t 9)⟩,
      ⟨some 11, some (8, false), .bin .and .none (.t 10) (.c (.int .i64 4))⟩,
      ⟨some 12, some (8, false), .bin .eql .none (.t 11) (.c (.int .i64 0))⟩,
      ⟨some 13, none, .pick (.t 8) (.c (.bool true)) (.t 12)⟩] (some [1, 13]))
    (.cond (.t 13)
     (.seq
      (.reg [⟨some 2, none, .mov (.c (.bool false))⟩] (some [2]))
      .ret)
     .skip))
   (.seq
    (.seq
     (.reg [⟨some 14, none, .ld (some 6) (.t 1)⟩,
       ⟨some 15, none, .call (.c (.fn (.func 39) [] [])) [(.t 14)]⟩] (some [1, 15]))
     (.cond (.t 15)
      (.seq
       (.reg [⟨some 16, none, .fa 0 (.t 1)⟩,
         ⟨some 17, none, .ld none (.t 16)⟩,
         ⟨some 18, none, .bin .eql .none (.t 17) (.c (.int .i64 9))⟩,
         ⟨some 19, none, .mov (.t 18)⟩,
         ⟨some 20, some (19, false), .fa 0 (.t 1)⟩,
         ⟨some 21, some (19, false), .ld none (.t 20)⟩,
         ⟨some 22, some (19, false), .bin .eql .none (.t 21) (.c (.int .i64 13))⟩,
         ⟨some 23, none, .pick (.t 19) (.c (.bool true)) (.t 22)⟩,
         ⟨some 2, none, .mov (.t 23)⟩] (some [2]))
       .ret)
      .skip))
    (.seq
     (.reg [⟨some 25, none, .ld (some 6) (.t 1)⟩,
       ⟨some 26, none, .call (.c (.fn (.func 41) [] [])) [(.t 25)]⟩,
       ⟨some 27, none, .call (.c (.fn (.func 40) [] [])) [(.t 26)]⟩,
       ⟨some 24, none, .mov (.t 27)⟩,
       ⟨some 28, none, .ext (.t 24) 0⟩,
       ⟨some 29, none, .ext (.t 24) 1⟩,
       ⟨some 3, none, .mov (.t 28)⟩,
       ⟨some 4, none, .mov (.t 29)⟩] (some [1, 4]))
     (.seq
      (.reg [⟨some 30, none, .fa 1 (.t 1)⟩,
        ⟨some 31, none, .ld none (.t 30)⟩,
        ⟨some 32, none, .bin .and .none (.t 31) (.c (.int .i64 1))⟩,
        ⟨some 33, none, .bin .neq .none (.t 32) (.c (.int .i64 0))⟩,
        ⟨some 34, none, .mov (.t 33)⟩,
        ⟨some 35, some (34, false), .mov (.t 4)⟩,
        ⟨some 36, some (34, false), .un .not (.t 35)⟩,
        ⟨some 37, none, .pick (.t 34) (.c (.bool true)) (.t 36)⟩,
        ⟨some 2, none, .mov (.t 37)⟩] (some [2]))
      .ret)))))
theorem is_otherfew : IrOf Tryd.prog 15 38 ir_otherfew [.t 2] := ⟨_, Tryd.func15, rfl, by kernel_rfl, by kernel_rfl, by kernel_rfl⟩

/-- clavier/other.Key -/
def ir_otherKey : ICode :=
 (.seq
  (.reg [⟨some 2, none, .box 23 (.t 0)⟩,
    ⟨some 3, none, .box 27 (.t 1)⟩,
    ⟨some 4, none, .mov (.c .nils)⟩,
    ⟨some 5, none, .mov (.c (.bool false))⟩] (some [2, 3]))
  (.seq
   (.reg [⟨some 12, none, .bld [.nilf, .nilf] [(0, 1, (.c (.fn (.func 15) [] []))), (1, 1, (.c (.fn (.func 16) [] [])))]⟩,
     ⟨some 6, none, .box 43 (.c (.agg [.nilf, .nilf]))⟩,
     ⟨none, none, .st 2 (.t 6) (.t 12)⟩] (some [2, 3, 6]))
   (.seq
    (.reg [⟨some 14, none, .ld (some 6) (.t 3)⟩,
      ⟨some 15, none, .call (.c (.fn (.func 17) [] [])) [(.t 14)]⟩,
      ⟨some 13, none, .mov (.t 15)⟩,
      ⟨some 16, none, .ext (.t 13) 0⟩,
      ⟨some 17, none, .ext (.t 13) 1⟩,
      ⟨some 7, none, .mov (.t 16)⟩,
      ⟨some 8, none, .mov (.t 17)⟩] (some [2, 3, 6, 7, 8]))
    (.seq
     (.seq
      (.reg [⟨some 18, none, .mov (.t 8)⟩,
        ⟨some 19, none, .un .not (.t 18)⟩,
        ⟨some 20, none, .mov (.t 19)⟩,
        ⟨some 21, some (20, false), .fa 9 (.t 2)⟩,
        ⟨some 22, some (20, false), .ld none (.t 21)⟩,
        ⟨some 23, some (20, false), .bin .lss .none (.t 22) (.c (.int .i64 1))⟩,
        ⟨some 24, none, .pick (.t 20) (.c (.bool true)) (.t 23)⟩,
        ⟨some 25, none, .mov (.t 24)⟩,
        ⟨some 26, some (25, false), .fa 9 (.t 2)⟩,
        ⟨some 27, some (25, false), .ld none (.t 26)⟩,
        ⟨some 28, some (25, false), .bin .gtr .none (.t 27) (.c (.int .i64 2))⟩,
        ⟨some 29, none, .pick (.t 25) (.c (.bool true)) (.t 28)⟩,
        ⟨some 30, none, .mov (.t 29)⟩,
        ⟨some 31, some (30, false), .ld (some 6) (.t 3)⟩,
        ⟨some 32, some (30, false), .call (.c (.fn (.func 18) [] [])) [(.t 31)]⟩,
        ⟨some 33, some (30, false), .un .not (.t 32)⟩,
        ⟨some 34, none, .pick (.t 30) (.c (.bool true)) (.t 33)⟩,
        ⟨some 35, none, .mov (.t 34)⟩,
        ⟨some 36, some (35, false), .fa 2 (.t 3)⟩,
        ⟨some 37, some (35, false), .ld none (.t 36)⟩,
        ⟨some 38, some (35, false), .bin .eql .none (.t 37) (.c (.int .i64 3))⟩,
        ⟨some 39, none, .pick (.t 35) (.c (.bool true)) (.t 38)⟩] (some [2, 3, 6, 7, 39]))
      (.cond (.t 39)
       (.seq
        (.reg [⟨some 4, none, .mov (.c .nils)⟩,
          ⟨some 5, none, .mov (.c (.bool false))⟩] (some [4, 5]))
        .ret)
       .skip))
     (.seq
      (.seq
       (.reg [⟨some 40, none, .fa 9 (.t 2)⟩,
         ⟨some 41, none, .ld none (.t 40)⟩,
         ⟨some 42, none, .bin .sub .none (.t 41) (.c (.int .i64 1))⟩,
         ⟨some 43, none, .iar 2 1 (.t 6) (.t 42)⟩,
         ⟨some 44, none, .ld none (.t 43)⟩,
         ⟨some 9, none, .mov (.t 44)⟩] (some [3, 7, 9]))
       (.seq
        (.reg [⟨some 45, none, .mov (.t 9)⟩,
          ⟨some 46, none, .ld (some 6) (.t 3)⟩,
          ⟨some 47, none, .call (.t 45) [(.t 46)]⟩,
          ⟨some 48, none, .un .not (.t 47)⟩] (some [3, 7, 48]))
        (.cond (.t 48)
         (.seq
          (.reg [⟨some 4, none, .mov (.c .nils)⟩,
            ⟨some 5, none, .mov (.c (.bool false))⟩] (some [4, 5]))
          .ret)
         .skip)))
      (.seq
       (.reg [⟨some 50, none, .fa 1 (.t 3)⟩,
         ⟨some 51, none, .ld none (.t 50)⟩,
         ⟨some 52, none, .call (.c (.fn (.func 22) [] [])) [(.t 51)]⟩,
         ⟨some 53, none, .call (.c (.fn (.func 21) [] [])) [(.t 52)]⟩,
         ⟨some 54, none, .mov (.t 7)⟩,
         ⟨some 55, none, .row 3 1 [(.c (.int .i64 27)), (.t 53), (.t 54)]⟩,
         ⟨some 56, none, .call (.c (.fn (.func 20) [] [])) [(.c (.int .u8 0)), (.c (.int .u8 126)), (.t 55)]⟩,
         ⟨some 57, none, .call (.c (.fn (.func 19) [] [])) [(.t 56)]⟩,
         ⟨some 49, none, .mov (.t 57)⟩,
         ⟨some 58, none, .ext (.t 49) 0⟩,
         ⟨some 59, none, .ext (.t 49) 1⟩,
         ⟨some 10, none, .mov (.t 58)⟩,
         ⟨some 11, none, .mov (.t 59)⟩] (some [10, 11]))
       (.seq
        (.reg [⟨some 60, none, .mov (.t 10)⟩,
          ⟨some 61, none, .mov (.t 11)⟩,
          ⟨some 62, none, .bin .eql .none (.t 61) (.c (.int .i64 0))⟩,
          ⟨some 4, none, .mov (.t 60)⟩,
          ⟨some 5, none, .mov (.t 62)⟩] (some [4, 5]))
        .ret)))))))
theorem is_otherKey : IrOf Tryd.prog 9 63 ir_otherKey [.t 4, .t 5] := ⟨_, Tryd.func9, rfl, by kernel_rfl, by kernel_rfl, by kernel_rfl⟩


theorem fs_oPlain {Gl : Gh → Prop} (hst : Stays Gl) {k : Ky} : FS Tryd.prog Gl 39 [.agg (kyAV k)] [] [] (.bool (kindK k.code == 2)) [] [] := by
  refine FS.of hm hst is_otherplain (by simp) fun γ hγ hfr => ?_
  have hky : kyAV k = [.int .i64 k.code, .int .i64 k.mods, .int .i64 k.type, .int .i64 k.shifted, .int .i64 k.base, .str k.text] := rfl
  have c1 := fs_Look (Gl := Gl) hst (c := k.code)
  have hkd : (lookR k.code).kind = kindK k.code := rfl
  rw [ent_eq, hkd] at c1
  simp only [hky]
  (generalize hQ : (fun (ex : Ex) (_ _ : Nat) (s : St) => _) = Q; unfold ir_otherplain)
  simp +contextual (maxSteps := 1000000) only [go_sem, reduceCtorEq, ↓reduceIte, Nat.reduceAdd, Nat.reduceEqDiff, Nat.reduceLeDiff, Nat.reduceMul, Nat.reduceBEq, Int.reduceBEq, Int.reduceBNe, Int.reduceLT, Int.reduceLE, Int.reduceGT, Int.reduceGE, Int.reduceToNat, Int.natCast_one, Int.natCast_zero, Int.cast_ofNat_Int]
  (refine CallP.pure (c1) (fun _ => rfl) ?_; simp +contextual (maxSteps := 1000000) only [go_sem, reduceCtorEq, ↓reduceIte, Nat.reduceAdd, Nat.reduceEqDiff, Nat.reduceLeDiff, Nat.reduceMul, Nat.reduceBEq, Int.reduceBEq, Int.reduceBNe, Int.reduceLT, Int.reduceLE, Int.reduceGT, Int.reduceGE, Int.reduceToNat, Int.natCast_one, Int.natCast_zero, Int.cast_ofNat_Int])
  rw [← hQ]
  exact ⟨trivial, Ret.flat rfl rfl⟩
theorem fs_oChar {Gl : Gh → Prop} (hst : Stays Gl) {k : Ky} (hmm : k.mods ≤ 9223372036854775807) : FS Tryd.prog Gl 17 [.agg (kyAV k)] [] [] (.tup [.int .i64 (if kindK k.code = 1 ∨ kindK k.code = 2 then charK k else 0), .bool ((kindK k.code == 1) || (kindK k.code == 2))]) [] [] := by
  refine FS.of hm hst is_otherchar (by simp) fun γ hγ hfr => ?_
  have hky : kyAV k = [.int .i64 k.code, .int .i64 k.mods, .int .i64 k.type, .int .i64 k.shifted, .int .i64 k.base, .str k.text] := rfl
  have c1 := fs_Look (Gl := Gl) hst (c := k.code)
  have hkd : (lookR k.code).kind = kindK k.code := rfl
  rw [ent_eq, hkd] at c1
  have c2 := fs_Shown (Gl := Gl) hst (k := k) hmm
  rw [hky] at c2
  simp only [hky]
  (generalize hQ : (fun (ex : Ex) (_ _ : Nat) (s : St) => _) = Q; unfold ir_otherchar)
  simp +contextual (maxSteps := 1000000) only [go_sem, reduceCtorEq, ↓reduceIte, Nat.reduceAdd, Nat.reduceEqDiff, Nat.reduceLeDiff, Nat.reduceMul, Nat.reduceBEq, Int.reduceBEq, Int.reduceBNe, Int.reduceLT, Int.reduceLE, Int.reduceGT, Int.reduceGE, Int.reduceToNat, Int.natCast_one, Int.natCast_zero, Int.cast_ofNat_Int]
  (refine CallP.pure (c1) (fun _ => rfl) ?_; simp +contextual (maxSteps := 1000000) only [go_sem, reduceCtorEq, ↓reduceIte, Nat.reduceAdd, Nat.reduceEqDiff, Nat.reduceLeDiff, Nat.reduceMul, Nat.reduceBEq, Int.reduceBEq, Int.reduceBNe, Int.reduceLT, Int.reduceLE, Int.reduceGT, Int.reduceGE, Int.reduceToNat, Int.natCast_one, Int.natCast_zero, Int.cast_ofNat_Int])
  by_cases h1 : kindK k.code = 1
  · have q1 : (kindK k.code == 1) = true := beq_iff_eq.2 h1
    have hc : charK k = shownK k := if_pos h1
    simp +contextual (maxSteps := 1000000) only [q1, go_sem, reduceCtorEq, ↓reduceIte, Nat.reduceAdd, Nat.reduceEqDiff, Nat.reduceLeDiff, Nat.reduceMul, Nat.reduceBEq, Int.reduceBEq, Int.reduceBNe, Int.reduceLT, Int.reduceLE, Int.reduceGT, Int.reduceGE, Int.reduceToNat, Int.natCast_one, Int.natCast_zero, Int.cast_ofNat_Int]
    (refine CallP.pure (c2) (fun _ => rfl) ?_; simp +contextual (maxSteps := 1000000) only [go_sem, reduceCtorEq, ↓reduceIte, Nat.reduceAdd, Nat.reduceEqDiff, Nat.reduceLeDiff, Nat.reduceMul, Nat.reduceBEq, Int.reduceBEq, Int.reduceBNe, Int.reduceLT, Int.reduceLE, Int.reduceGT, Int.reduceGE, Int.reduceToNat, Int.natCast_one, Int.natCast_zero, Int.cast_ofNat_Int])
    rw [← hQ, if_pos (.inl h1), hc, q1]
    exact ⟨trivial, Ret.flatT rfl rfl⟩
  · have q1 : (kindK k.code == 1) = false := beq_eq_false_iff_ne.2 h1
    by_cases h2 : kindK k.code = 2
    · have q2 : (kindK k.code == 2) = true := beq_iff_eq.2 h2
      have hc : charK k = k.code := if_neg h1
      simp +contextual (maxSteps := 1000000) only [q1, q2, go_sem, reduceCtorEq, ↓reduceIte, Nat.reduceAdd, Nat.reduceEqDiff, Nat.reduceLeDiff, Nat.reduceMul, Nat.reduceBEq, Int.reduceBEq, Int.reduceBNe, Int.reduceLT, Int.reduceLE, Int.reduceGT, Int.reduceGE, Int.reduceToNat, Int.natCast_one, Int.natCast_zero, Int.cast_ofNat_Int]
      rw [← hQ, if_pos (.inr h2), hc, q1, q2]
      exact ⟨trivial, Ret.flatT rfl rfl⟩
    · have q2 : (kindK k.code == 2) = false := beq_eq_false_iff_ne.2 h2
      simp +contextual (maxSteps := 1000000) only [q1, q2, go_sem, reduceCtorEq, ↓reduceIte, Nat.reduceAdd, Nat.reduceEqDiff, Nat.reduceLeDiff, Nat.reduceMul, Nat.reduceBEq, Int.reduceBEq, Int.reduceBNe, Int.reduceLT, Int.reduceLE, Int.reduceGT, Int.reduceGE, Int.reduceToNat, Int.natCast_one, Int.natCast_zero, Int.cast_ofNat_Int]
      rw [← hQ, if_neg (by omega), q1, q2]
      exact ⟨trivial, Ret.flatT rfl rfl⟩
theorem fs_oAll {Gl : Gh → Prop} (hst : Stays Gl) {k : Ky} (h1 : k.mods ≤ 9223372036854775807) : FS Tryd.prog Gl 16 [.agg (kyAV k)] [] [] (.bool (allO k)) [] [] := by
  refine FS.of hm hst is_otherall (by simp) fun γ hγ hfr => ?_
  have hky : kyAV k = [.int .i64 k.code, .int .i64 k.mods, .int .i64 k.type, .int .i64 k.shifted, .int .i64 k.base, .str k.text] := rfl
  have c1 := fs_Old (Gl := Gl) hst (m := k.mods) h1
  have c2 := fs_oPlain (Gl := Gl) hst (k := k)
  have hz : allO k = ((oldK k.mods != 0) && ((kindK k.code == 2) || (oldK k.mods != 1))) := rfl
  rw [hky] at c2
  simp only [hky]
  (generalize hQ : (fun (ex : Ex) (_ _ : Nat) (s : St) => _) = Q; unfold ir_otherall)
  simp +contextual (maxSteps := 1000000) only [go_sem, reduceCtorEq, ↓reduceIte, Nat.reduceAdd, Nat.reduceEqDiff, Nat.reduceLeDiff, Nat.reduceMul, Nat.reduceBEq, Int.reduceBEq, Int.reduceBNe, Int.reduceLT, Int.reduceLE, Int.reduceGT, Int.reduceGE, Int.reduceToNat, Int.natCast_one, Int.natCast_zero, Int.cast_ofNat_Int]
  (refine CallP.pure (c1) (fun _ => rfl) ?_; simp +contextual (maxSteps := 1000000) only [go_sem, reduceCtorEq, ↓reduceIte, Nat.reduceAdd, Nat.reduceEqDiff, Nat.reduceLeDiff, Nat.reduceMul, Nat.reduceBEq, Int.reduceBEq, Int.reduceBNe, Int.reduceLT, Int.reduceLE, Int.reduceGT, Int.reduceGE, Int.reduceToNat, Int.natCast_one, Int.natCast_zero, Int.cast_ofNat_Int])
  (refine kGc_call (c2) (fun _ => rfl) (fun hgc => ?_) ?_; (focus (first | (rw [Bool.not_eq_true'] at hgc; simp only [List.map_cons, List.map_nil, List.nil_append, List.append_nil, List.cons_append, Xev_t, Xev_c, upd_app, lf_cons, lf_nil, Nat.reduceEqDiff, ↓reduceIte, hgc, Bool.false_eq_true, Bool.true_eq_false, reduceCtorEq]; done) | (simp only [List.map_cons, List.map_nil, List.nil_append, List.append_nil, List.cons_append, Xev_t, Xev_c, upd_app, lf_cons, lf_nil, Nat.reduceEqDiff, ↓reduceIte, hgc, Bool.false_eq_true, Bool.true_eq_false, reduceCtorEq]; done) | (revert hgc; simp +contextual [Xev_t, Xev_c, upd_app, lf_cons, lf_nil]; done) | simp [Xev_t, Xev_c, upd_app, lf_cons, lf_nil])); simp +contextual (maxSteps := 1000000) only [go_sem, reduceCtorEq, ↓reduceIte, Nat.reduceAdd, Nat.reduceEqDiff, Nat.reduceLeDiff, Nat.reduceMul, Nat.reduceBEq, Int.reduceBEq, Int.reduceBNe, Int.reduceLT, Int.reduceLE, Int.reduceGT, Int.reduceGE, Int.reduceToNat, Int.natCast_one, Int.natCast_zero, Int.cast_ofNat_Int])
  rw [← hQ, hz]
  exact ⟨trivial, Ret.flat rfl rfl⟩
theorem fs_oFew {Gl : Gh → Prop} (hst : Stays Gl) {k : Ky} (h0 : 0 ≤ k.mods) (h1 : k.mods ≤ 255) : FS Tryd.prog Gl 15 [.agg (kyAV k)] [] [] (.bool (fewO k)) [] [] := by
  refine FS.of hm hst is_otherfew (by simp) fun γ hγ hfr => ?_
  have hky : kyAV k = [.int .i64 k.code, .int .i64 k.mods, .int .i64 k.type, .int .i64 k.shifted, .int .i64 k.base, .str k.text] := rfl
  have c1 := fs_oAll (Gl := Gl) hst (k := k) (by omega)
  have c2 := fs_oPlain (Gl := Gl) hst (k := k)
  have c3 := fs_Shown (Gl := Gl) hst (k := k) (by omega)
  have c4 : FS Tryd.prog Gl 40 [.int .i64 (shownK k)] [] [] (.tup [.int .i64 ((foldK (shownK k)).getD 0), .bool (foldK (shownK k)).isSome]) [] [] := fs_Fold (Gl := Gl) hst
  have q4 : (bits .and .i64 k.mods 4 != 0) = hasK k.mods 4 := hasB h0 h1 2 (by omega)
  have q4' : (bits .and .i64 k.mods 4 == 0) = !hasK k.mods 4 := by rw [← q4, bne, Bool.not_not]
  have q1 : (bits .and .i64 k.mods 1 != 0) = hasK k.mods 1 := hasB h0 h1 0 (by omega)
  have hz : fewO k = (allO k && hasK k.mods 4 && (if kindK k.code = 2 then (k.code == 9) || (k.code == 13) else hasK k.mods 1 || !(foldK (shownK k)).isSome)) := rfl
  rw [hky] at c1 c2 c3
  simp only [hky]
  (generalize hQ : (fun (ex : Ex) (_ _ : Nat) (s : St) => _) = Q; unfold ir_otherfew)
  simp +contextual (maxSteps := 1000000) only [go_sem, reduceCtorEq, ↓reduceIte, Nat.reduceAdd, Nat.reduceEqDiff, Nat.reduceLeDiff, Nat.reduceMul, Nat.reduceBEq, Int.reduceBEq, Int.reduceBNe, Int.reduceLT, Int.reduceLE, Int.reduceGT, Int.reduceGE, Int.reduceToNat, Int.natCast_one, Int.natCast_zero, Int.cast_ofNat_Int]
  (refine CallP.pure (c1) (fun _ => rfl) ?_; simp +contextual (maxSteps := 1000000) only [q4', go_sem, reduceCtorEq, ↓reduceIte, Nat.reduceAdd, Nat.reduceEqDiff, Nat.reduceLeDiff, Nat.reduceMul, Nat.reduceBEq, Int.reduceBEq, Int.reduceBNe, Int.reduceLT, Int.reduceLE, Int.reduceGT, Int.reduceGE, Int.reduceToNat, Int.natCast_one, Int.natCast_zero, Int.cast_ofNat_Int])
  cases hA : allO k with
  | false =>
    simp +contextual (maxSteps := 1000000) only [hA, go_sem, reduceCtorEq, ↓reduceIte, Nat.reduceAdd, Nat.reduceEqDiff, Nat.reduceLeDiff, Nat.reduceMul, Nat.reduceBEq, Int.reduceBEq, Int.reduceBNe, Int.reduceLT, Int.reduceLE, Int.reduceGT, Int.reduceGE, Int.reduceToNat, Int.natCast_one, Int.natCast_zero, Int.cast_ofNat_Int]
    rw [← hQ, hz, hA]
    exact ⟨trivial, Ret.flat rfl rfl⟩
  | true =>
    cases hB : hasK k.mods 4 with
    | false =>
      simp +contextual (maxSteps := 1000000) only [hA, hB, go_sem, reduceCtorEq, ↓reduceIte, Nat.reduceAdd, Nat.reduceEqDiff, Nat.reduceLeDiff, Nat.reduceMul, Nat.reduceBEq, Int.reduceBEq, Int.reduceBNe, Int.reduceLT, Int.reduceLE, Int.reduceGT, Int.reduceGE, Int.reduceToNat, Int.natCast_one, Int.natCast_zero, Int.cast_ofNat_Int]
      rw [← hQ, hz, hA, hB]
      exact ⟨trivial, Ret.flat rfl rfl⟩
    | true =>
      simp +contextual (maxSteps := 1000000) only [hA, hB, go_sem, reduceCtorEq, ↓reduceIte, Nat.reduceAdd, Nat.reduceEqDiff, Nat.reduceLeDiff, Nat.reduceMul, Nat.reduceBEq, Int.reduceBEq, Int.reduceBNe, Int.reduceLT, Int.reduceLE, Int.reduceGT, Int.reduceGE, Int.reduceToNat, Int.natCast_one, Int.natCast_zero, Int.cast_ofNat_Int]
      (refine CallP.pure (c2) (fun _ => rfl) ?_; simp +contextual (maxSteps := 1000000) only [go_sem, reduceCtorEq, ↓reduceIte, Nat.reduceAdd, Nat.reduceEqDiff, Nat.reduceLeDiff, Nat.reduceMul, Nat.reduceBEq, Int.reduceBEq, Int.reduceBNe, Int.reduceLT, Int.reduceLE, Int.reduceGT, Int.reduceGE, Int.reduceToNat, Int.natCast_one, Int.natCast_zero, Int.cast_ofNat_Int])
      by_cases h2 : kindK k.code = 2
      · have q2 : (kindK k.code == 2) = true := beq_iff_eq.2 h2
        simp +contextual (maxSteps := 1000000) only [q2, go_sem, reduceCtorEq, ↓reduceIte, Nat.reduceAdd, Nat.reduceEqDiff, Nat.reduceLeDiff, Nat.reduceMul, Nat.reduceBEq, Int.reduceBEq, Int.reduceBNe, Int.reduceLT, Int.reduceLE, Int.reduceGT, Int.reduceGE, Int.reduceToNat, Int.natCast_one, Int.natCast_zero, Int.cast_ofNat_Int]
        rw [← hQ, hz, hA, hB, if_pos h2]
        exact ⟨trivial, Ret.flat rfl rfl⟩
      · have q2 : (kindK k.code == 2) = false := beq_eq_false_iff_ne.2 h2
        simp +contextual (maxSteps := 1000000) only [q2, go_sem, reduceCtorEq, ↓reduceIte, Nat.reduceAdd, Nat.reduceEqDiff, Nat.reduceLeDiff, Nat.reduceMul, Nat.reduceBEq, Int.reduceBEq, Int.reduceBNe, Int.reduceLT, Int.reduceLE, Int.reduceGT, Int.reduceGE, Int.reduceToNat, Int.natCast_one, Int.natCast_zero, Int.cast_ofNat_Int]
        (refine CallP.pure (c3) (fun _ => rfl) ?_; simp +contextual (maxSteps := 1000000) only [go_sem, reduceCtorEq, ↓reduceIte, Nat.reduceAdd, Nat.reduceEqDiff, Nat.reduceLeDiff, Nat.reduceMul, Nat.reduceBEq, Int.reduceBEq, Int.reduceBNe, Int.reduceLT, Int.reduceLE, Int.reduceGT, Int.reduceGE, Int.reduceToNat, Int.natCast_one, Int.natCast_zero, Int.cast_ofNat_Int])
        (refine CallP.pure (c4) (fun _ => rfl) ?_; simp +contextual (maxSteps := 1000000) only [q1, go_sem, reduceCtorEq, ↓reduceIte, Nat.reduceAdd, Nat.reduceEqDiff, Nat.reduceLeDiff, Nat.reduceMul, Nat.reduceBEq, Int.reduceBEq, Int.reduceBNe, Int.reduceLT, Int.reduceLE, Int.reduceGT, Int.reduceGE, Int.reduceToNat, Int.natCast_one, Int.natCast_zero, Int.cast_ofNat_Int])
        rw [← hQ, hz, hA, hB, if_neg h2]
        exact ⟨trivial, Ret.flat rfl rfl⟩
theorem isO_prog (o : Int) (k : Ky) : isO o k = (!((((!((kindK k.code == 1) || (kindK k.code == 2)) || decide (o < 1)) || decide (o > 2)) || !mayK k) || (k.type == 3)) && lvO o k) := by
  have hl : (o < 1 ∨ o > 2) → lvO o k = false := fun h => by unfold lvO; rw [if_neg (by omega), if_neg (by omega)]
  unfold isO
  by_cases h1 : o < 1
  · rw [hl (.inl h1)]; simp
  · by_cases h2 : o > 2
    · rw [hl (.inr h2)]; simp
    · rw [decide_eq_false h1, decide_eq_false h2]
      simp only [bne]
      cases (kindK k.code == 1) <;> cases (kindK k.code == 2) <;> cases mayK k <;> cases (k.type == 3) <;> rfl
set_option maxHeartbeats 4000000 in
theorem fs_oKey {Gl : Gh → Prop} (hst : Stays Gl) {m : Md} {k : Ky} (hmm : k.mods ≤ 9223372036854775807) (ht : k.text.length ≤ 1000000000000) : FS Tryd.prog Gl 9 [.agg (mdAV m), .agg (kyAV k)] [] [] (.tup [.sl none 1 (bytesAV (othK m.other k)), .bool (isO m.other k)]) [] [] := by
  refine FS.ofW hm hst is_otherKey rfl (by simp) fun γ hγ hfr => ?_
  have hky : kyAV k = [.int .i64 k.code, .int .i64 k.mods, .int .i64 k.type, .int .i64 k.shifted, .int .i64 k.base, .str k.text] := rfl
  have hmd : mdAV m = [.bool m.cursor, .bool m.keypad, .bool m.back, .bool m.focus, .bool m.paste, .bool m.lock, .bool m.line, .int .i64 m.mouse, .int .i64 m.coding, .int .i64 m.other] := rfl
  have c1 := fs_oChar (Gl := Gl) hst (k := k) hmm
  have c2 := fs_MayK (Gl := Gl) hst ht
  have c3 := fs_oAll (Gl := Gl) hst (k := k) hmm
  have c4 := fun (M : MayK k) => fs_oFew (Gl := Gl) hst (k := k) M.m0 M.m1
  have c5 := fs_Old (Gl := Gl) hst (m := k.mods) hmm
  have c6 := fs_Param (Gl := Gl) hst (m := oldK k.mods)
  have hold := old_lt k.mods
  rw [show paramK (oldK k.mods) = 1 + oldK k.mods by unfold paramK; split <;> omega] at c6
  have c7 := fun t : Option Nm => fs_NumV (Gl := Gl) hst (pr := 0) (fi := 126) (nums := [27, 1 + oldK k.mods, charK k]) (tn := t) (by simp)
  have hi3 : intsAV [27, 1 + oldK k.mods, charK k] = [[.int .i64 27], [.int .i64 (1 + oldK k.mods)], [.int .i64 (charK k)]] := rfl
  rw [hi3] at c7
  have c8 : MayK k → FS Tryd.prog Gl 19 [.agg [.int .i64 1, .int .u8 0, .sl none 1 (parsAV (([27, 1 + oldK k.mods, charK k] : List Int).map fun n => [n])), .str [], .int .u8 126, .str []]] [] [] (.tup [.sl none 1 (bytesAV (putB (othSq k))), .int .i64 0]) [] [] := fun M => by
    have h := oth_may M
    have := fs_wPut (Gl := Gl) hst (s := othSq k) (by simp [othSq, numSq]) (by simp [othSq, numSq]) (by simp [othSq, numSq]) (by simp [othSq, numSq]) (sm_num (by simp))
    rw [show putV (othSq k) = .sl none 1 (bytesAV (putB (othSq k))) by unfold putV; rw [h]; rfl, h] at this
    exact this
  have hz := isO_prog m.other k
  have hw : othK m.other k = if isO m.other k = true then putB (othSq k) else [] := rfl
  rw [hky] at c1 c2 c3 c4
  simp only [hky, hmd]
  (generalize hQ : (fun (ex : Ex) (_ _ : Nat) (s : St) => _) = Q; unfold ir_otherKey)
  have no : ∀ {γ' c' : Nat} {st : St}, isO m.other k = false → st.F 4 = .nils → st.F 5 = .bool false → Q .ret γ' c' st := by
    intro γ' c' st h h4 h5
    rw [← hQ, hw, h]
    exact ⟨trivial, .inl ⟨.tup [.nils, .bool false], by simp only [resOf, getAll, IRes.get, h4, h5], RepLe.tupL ⟨.nils 1, .refl _, trivial⟩⟩⟩
  simp +contextual (maxSteps := 1000000) only [go_sem, reduceCtorEq, ↓reduceIte, Nat.reduceAdd, Nat.reduceEqDiff, Nat.reduceLeDiff, Nat.reduceMul, Nat.reduceBEq, Int.reduceBEq, Int.reduceBNe, Int.reduceLT, Int.reduceLE, Int.reduceGT, Int.reduceGE, Int.reduceToNat, Int.natCast_one, Int.natCast_zero, Int.cast_ofNat_Int]
  (refine CallP.pure (c1) (fun _ => rfl) ?_; simp +contextual (maxSteps := 1000000) only [go_sem, reduceCtorEq, ↓reduceIte, Nat.reduceAdd, Nat.reduceEqDiff, Nat.reduceLeDiff, Nat.reduceMul, Nat.reduceBEq, Int.reduceBEq, Int.reduceBNe, Int.reduceLT, Int.reduceLE, Int.reduceGT, Int.reduceGE, Int.reduceToNat, Int.natCast_one, Int.natCast_zero, Int.cast_ofNat_Int])
  (refine kGc_call (c2) (fun _ => rfl) (fun hgc => ?_) ?_; (focus (first | (rw [Bool.not_eq_true'] at hgc; simp only [List.map_cons, List.map_nil, List.nil_append, List.append_nil, List.cons_append, Xev_t, Xev_c, upd_app, lf_cons, lf_nil, Nat.reduceEqDiff, ↓reduceIte, hgc, Bool.false_eq_true, Bool.true_eq_false, reduceCtorEq]; done) | (simp only [List.map_cons, List.map_nil, List.nil_append, List.append_nil, List.cons_append, Xev_t, Xev_c, upd_app, lf_cons, lf_nil, Nat.reduceEqDiff, ↓reduceIte, hgc, Bool.false_eq_true, Bool.true_eq_false, reduceCtorEq]; done) | (revert hgc; simp +contextual [Xev_t, Xev_c, upd_app, lf_cons, lf_nil]; done) | simp [Xev_t, Xev_c, upd_app, lf_cons, lf_nil])); simp +contextual (maxSteps := 1000000) only [go_sem, reduceCtorEq, ↓reduceIte, Nat.reduceAdd, Nat.reduceEqDiff, Nat.reduceLeDiff, Nat.reduceMul, Nat.reduceBEq, Int.reduceBEq, Int.reduceBNe, Int.reduceLT, Int.reduceLE, Int.reduceGT, Int.reduceGE, Int.reduceToNat, Int.natCast_one, Int.natCast_zero, Int.cast_ofNat_Int])
  cases hB : ((((!((kindK k.code == 1) || (kindK k.code == 2)) || decide (m.other < 1)) || decide (m.other > 2)) || !mayK k) || (k.type == 3)) with
  | true =>
    simp +contextual (maxSteps := 1000000) only [hB, go_sem, reduceCtorEq, ↓reduceIte, Nat.reduceAdd, Nat.reduceEqDiff, Nat.reduceLeDiff, Nat.reduceMul, Nat.reduceBEq, Int.reduceBEq, Int.reduceBNe, Int.reduceLT, Int.reduceLE, Int.reduceGT, Int.reduceGE, Int.reduceToNat, Int.natCast_one, Int.natCast_zero, Int.cast_ofNat_Int]
    exact no (by rw [hz, hB]; rfl) rfl rfl
  | false =>
    have hB' := hB
    simp only [Bool.or_eq_false_iff, Bool.not_eq_false', decide_eq_false_iff_not, beq_eq_false_iff_ne, Bool.or_eq_true, beq_iff_eq] at hB'
    obtain ⟨⟨⟨⟨hk, ho1⟩, ho2⟩, hmk⟩, ht3⟩ := hB'
    have M := mayK_iff.1 hmk
    have c4 := c4 M
    have c8 := c8 M
    have hz' : isO m.other k = lvO m.other k := by rw [hz, hB]; rfl
    have yes : ∀ {γ' c' : Nat} {st : St}, isO m.other k = true → st.F 4 = .sl none 1 (bytesAV (putB (othSq k))) → st.F 5 = .bool true → Q .ret γ' c' st := by
      intro γ' c' st h h4 h5
      rw [← hQ, hw, h]
      exact ⟨trivial, .inl ⟨.tup [.sl none 1 (bytesAV (putB (othSq k))), .bool true], by simp only [resOf, getAll, IRes.get, h4, h5], RepLe.refl _⟩⟩
    have hch : (if kindK k.code = 1 ∨ kindK k.code = 2 then charK k else 0) = charK k := if_pos hk
    rcases (show m.other = 1 ∨ m.other = 2 by omega) with e | e
    · have hl : lvO m.other k = fewO k := by rw [e]; rfl
      have hwr : IntKind.i64.wrap (m.other - 1) = 0 := by rw [e]; rfl
      cases hC : fewO k with
      | false =>
        rw [hC] at c4
        simp +contextual (maxSteps := 1000000) only [hB, hwr, hch, go_sem, reduceCtorEq, ↓reduceIte, Nat.reduceAdd, Nat.reduceEqDiff, Nat.reduceLeDiff, Nat.reduceMul, Nat.reduceBEq, Int.reduceBEq, Int.reduceBNe, Int.reduceLT, Int.reduceLE, Int.reduceGT, Int.reduceGE, Int.reduceToNat, Int.natCast_one, Int.natCast_zero, Int.cast_ofNat_Int]
        (refine CallP.pure (c4) (fun _ => rfl) ?_; simp +contextual (maxSteps := 1000000) only [go_sem, reduceCtorEq, ↓reduceIte, Nat.reduceAdd, Nat.reduceEqDiff, Nat.reduceLeDiff, Nat.reduceMul, Nat.reduceBEq, Int.reduceBEq, Int.reduceBNe, Int.reduceLT, Int.reduceLE, Int.reduceGT, Int.reduceGE, Int.reduceToNat, Int.natCast_one, Int.natCast_zero, Int.cast_ofNat_Int])
        exact no (by rw [hz', hl, hC]) rfl rfl
      | true =>
        rw [hC] at c4
        simp +contextual (maxSteps := 1000000) only [hB, hwr, hch, go_sem, reduceCtorEq, ↓reduceIte, Nat.reduceAdd, Nat.reduceEqDiff, Nat.reduceLeDiff, Nat.reduceMul, Nat.reduceBEq, Int.reduceBEq, Int.reduceBNe, Int.reduceLT, Int.reduceLE, Int.reduceGT, Int.reduceGE, Int.reduceToNat, Int.natCast_one, Int.natCast_zero, Int.cast_ofNat_Int]
        (refine CallP.pure (c4) (fun _ => rfl) ?_; simp +contextual (maxSteps := 1000000) only [go_sem, reduceCtorEq, ↓reduceIte, Nat.reduceAdd, Nat.reduceEqDiff, Nat.reduceLeDiff, Nat.reduceMul, Nat.reduceBEq, Int.reduceBEq, Int.reduceBNe, Int.reduceLT, Int.reduceLE, Int.reduceGT, Int.reduceGE, Int.reduceToNat, Int.natCast_one, Int.natCast_zero, Int.cast_ofNat_Int])
        (refine CallP.pure (c5) (fun _ => rfl) ?_; simp +contextual (maxSteps := 1000000) only [go_sem, reduceCtorEq, ↓reduceIte, Nat.reduceAdd, Nat.reduceEqDiff, Nat.reduceLeDiff, Nat.reduceMul, Nat.reduceBEq, Int.reduceBEq, Int.reduceBNe, Int.reduceLT, Int.reduceLE, Int.reduceGT, Int.reduceGE, Int.reduceToNat, Int.natCast_one, Int.natCast_zero, Int.cast_ofNat_Int])
        (refine CallP.pure (c6) (fun _ => rfl) ?_; simp +contextual (maxSteps := 1000000) only [go_sem, reduceCtorEq, ↓reduceIte, Nat.reduceAdd, Nat.reduceEqDiff, Nat.reduceLeDiff, Nat.reduceMul, Nat.reduceBEq, Int.reduceBEq, Int.reduceBNe, Int.reduceLT, Int.reduceLE, Int.reduceGT, Int.reduceGE, Int.reduceToNat, Int.natCast_one, Int.natCast_zero, Int.cast_ofNat_Int])
        (refine CallP.pure (c7 _) (fun _ => rfl) ?_; simp +contextual (maxSteps := 1000000) only [go_sem, reduceCtorEq, ↓reduceIte, Nat.reduceAdd, Nat.reduceEqDiff, Nat.reduceLeDiff, Nat.reduceMul, Nat.reduceBEq, Int.reduceBEq, Int.reduceBNe, Int.reduceLT, Int.reduceLE, Int.reduceGT, Int.reduceGE, Int.reduceToNat, Int.natCast_one, Int.natCast_zero, Int.cast_ofNat_Int])
        (refine CallP.pure (c8) (fun _ => rfl) ?_; simp +contextual (maxSteps := 1000000) only [go_sem, reduceCtorEq, ↓reduceIte, Nat.reduceAdd, Nat.reduceEqDiff, Nat.reduceLeDiff, Nat.reduceMul, Nat.reduceBEq, Int.reduceBEq, Int.reduceBNe, Int.reduceLT, Int.reduceLE, Int.reduceGT, Int.reduceGE, Int.reduceToNat, Int.natCast_one, Int.natCast_zero, Int.cast_ofNat_Int])
        exact yes (by rw [hz', hl, hC]) rfl rfl
    · have hl : lvO m.other k = allO k := by rw [e]; rfl
      have hwr : IntKind.i64.wrap (m.other - 1) = 1 := by rw [e]; rfl
      cases hC : allO k with
      | false =>
        rw [hC] at c3
        simp +contextual (maxSteps := 1000000) only [hB, hwr, hch, go_sem, reduceCtorEq, ↓reduceIte, Nat.reduceAdd, Nat.reduceEqDiff, Nat.reduceLeDiff, Nat.reduceMul, Nat.reduceBEq, Int.reduceBEq, Int.reduceBNe, Int.reduceLT, Int.reduceLE, Int.reduceGT, Int.reduceGE, Int.reduceToNat, Int.natCast_one, Int.natCast_zero, Int.cast_ofNat_Int]
        (refine CallP.pure (c3) (fun _ => rfl) ?_; simp +contextual (maxSteps := 1000000) only [go_sem, reduceCtorEq, ↓reduceIte, Nat.reduceAdd, Nat.reduceEqDiff, Nat.reduceLeDiff, Nat.reduceMul, Nat.reduceBEq, Int.reduceBEq, Int.reduceBNe, Int.reduceLT, Int.reduceLE, Int.reduceGT, Int.reduceGE, Int.reduceToNat, Int.natCast_one, Int.natCast_zero, Int.cast_ofNat_Int])
        exact no (by rw [hz', hl, hC]) rfl rfl
      | true =>
        rw [hC] at c3
        simp +contextual (maxSteps := 1000000) only [hB, hwr, hch, go_sem, reduceCtorEq, ↓reduceIte, Nat.reduceAdd, Nat.reduceEqDiff, Nat.reduceLeDiff, Nat.reduceMul, Nat.reduceBEq, Int.reduceBEq, Int.reduceBNe, Int.reduceLT, Int.reduceLE, Int.reduceGT, Int.reduceGE, Int.reduceToNat, Int.natCast_one, Int.natCast_zero, Int.cast_ofNat_Int]
        (refine CallP.pure (c3) (fun _ => rfl) ?_; simp +contextual (maxSteps := 1000000) only [go_sem, reduceCtorEq, ↓reduceIte, Nat.reduceAdd, Nat.reduceEqDiff, Nat.reduceLeDiff, Nat.reduceMul, Nat.reduceBEq, Int.reduceBEq, Int.reduceBNe, Int.reduceLT, Int.reduceLE, Int.reduceGT, Int.reduceGE, Int.reduceToNat, Int.natCast_one, Int.natCast_zero, Int.cast_ofNat_Int])
        (refine CallP.pure (c5) (fun _ => rfl) ?_; simp +contextual (maxSteps := 1000000) only [go_sem, reduceCtorEq, ↓reduceIte, Nat.reduceAdd, Nat.reduceEqDiff, Nat.reduceLeDiff, Nat.reduceMul, Nat.reduceBEq, Int.reduceBEq, Int.reduceBNe, Int.reduceLT, Int.reduceLE, Int.reduceGT, Int.reduceGE, Int.reduceToNat, Int.natCast_one, Int.natCast_zero, Int.cast_ofNat_Int])
        (refine CallP.pure (c6) (fun _ => rfl) ?_; simp +contextual (maxSteps := 1000000) only [go_sem, reduceCtorEq, ↓reduceIte, Nat.reduceAdd, Nat.reduceEqDiff, Nat.reduceLeDiff, Nat.reduceMul, Nat.reduceBEq, Int.reduceBEq, Int.reduceBNe, Int.reduceLT, Int.reduceLE, Int.reduceGT, Int.reduceGE, Int.reduceToNat, Int.natCast_one, Int.natCast_zero, Int.cast_ofNat_Int])
        (refine CallP.pure (c7 _) (fun _ => rfl) ?_; simp +contextual (maxSteps := 1000000) only [go_sem, reduceCtorEq, ↓reduceIte, Nat.reduceAdd, Nat.reduceEqDiff, Nat.reduceLeDiff, Nat.reduceMul, Nat.reduceBEq, Int.reduceBEq, Int.reduceBNe, Int.reduceLT, Int.reduceLE, Int.reduceGT, Int.reduceGE, Int.reduceToNat, Int.natCast_one, Int.natCast_zero, Int.cast_ofNat_Int])
        (refine CallP.pure (c8) (fun _ => rfl) ?_; simp +contextual (maxSteps := 1000000) only [go_sem, reduceCtorEq, ↓reduceIte, Nat.reduceAdd, Nat.reduceEqDiff, Nat.reduceLeDiff, Nat.reduceMul, Nat.reduceBEq, Int.reduceBEq, Int.reduceBNe, Int.reduceLT, Int.reduceLE, Int.reduceGT, Int.reduceGE, Int.reduceToNat, Int.natCast_one, Int.natCast_zero, Int.cast_ofNat_Int])
        exact yes (by rw [hz', hl, hC]) rfl rfl
end Go.Proofs.YtbepihadhmfklaaDoor

set_option linter.unusedVariables false
set_option linter.unusedSimpArgs false
set_option maxRecDepth 100000
namespace Go.Proofs.YtbepihadhmfklaaDoor
open Go Go.Ab
/-- slices.EqualFunc[[][]int,[][]int,[]int,[]int] -/
def ir_slicesEqualFuncintintintint : ICode :=
 (.seq
  (.reg [⟨some 6, none, .mov (.c (.bool false))⟩] (some [0, 1, 2]))
  (.seq
   (.seq
    (.reg [⟨some 10, none, .mov (.t 0)⟩,
      ⟨some 11, none, .len (.t 10)⟩,
      ⟨some 12, none, .mov (.t 1)⟩,
      ⟨some 13, none, .len (.t 12)⟩,
      ⟨some 14, none, .bin .neq .none (.t 11) (.t 13)⟩] (some [0, 1, 2, 14]))
    (.cond (.t 14)
     (.seq
      (.reg [⟨some 6, none, .mov (.c (.bool false))⟩] (some [6]))
      .ret)
     .skip))
   (.seq
    (.seq
     (.reg [⟨some 15, none, .mov (.t 0)⟩,
       ⟨some 16, none, .len (.t 15)⟩,
       ⟨some 17, none, .mov (.c (.int .i64 0))⟩] (some [1, 2, 15, 16, 17]))
     (.blk 0
      (.loop
       (.seq
        (.reg [⟨some 18, none, .bin .lss .none (.t 17) (.t 16)⟩] (some [1, 2, 15, 16, 17, 18]))
        (.seq
         (.cond (.t 18)
          .skip
          (.exit 0))
         (.seq
          (.blk 1
           (.seq
            (.reg [⟨some 19, none, .mov (.t 17)⟩,
              ⟨some 20, none, .ia 1 (.t 15) (.t 17)⟩,
              ⟨some 21, none, .ld none (.t 20)⟩,
              ⟨some 7, none, .mov (.t 19)⟩,
              ⟨some 8, none, .mov (.t 21)⟩] (some [1, 2, 7, 8, 15, 16, 17]))
            (.seq
             (.reg [⟨some 22, none, .mov (.t 1)⟩,
               ⟨some 23, none, .mov (.t 7)⟩,
               ⟨some 24, none, .ia 1 (.t 22) (.t 23)⟩,
               ⟨some 25, none, .ld none (.t 24)⟩,
               ⟨some 9, none, .mov (.t 25)⟩] (some [1, 2, 8, 9, 15, 16, 17]))
             (.seq
              (.reg [⟨some 26, none, .mov (.t 2)⟩,
                ⟨some 27, none, .mov (.t 8)⟩,
                ⟨some 28, none, .mov (.t 9)⟩,
                ⟨some 29, none, .call (.t 26) [(.t 27), (.t 28)]⟩,
                ⟨some 30, none, .un .not (.t 29)⟩] (some [1, 2, 15, 16, 17, 30]))
              (.cond (.t 30)
               (.seq
                (.reg [⟨some 6, none, .mov (.c (.bool false))⟩] (some [6]))
                .ret)
               .skip)))))
          (.reg [⟨some 31, none, .bin .add .none (.t 17) (.c (.int .i64 1))⟩,
            ⟨some 17, none, .mov (.t 31)⟩] (some [1, 2, 15, 16, 17]))))))))
    (.seq
     (.reg [⟨some 6, none, .mov (.c (.bool true))⟩] (some [6]))
     .ret))))
theorem is_slicesEqualFuncintintintint : IrOf Tryd.prog 58 32 ir_slicesEqualFuncintintintint [.t 6] := ⟨_, Tryd.func58, rfl, by kernel_rfl, by kernel_rfl, by kernel_rfl⟩

/-- clavier/wire.Same -/
def ir_wireSame : ICode :=
 (.seq
  (.reg [⟨some 2, none, .box 51 (.t 0)⟩,
    ⟨some 3, none, .box 51 (.t 1)⟩,
    ⟨some 4, none, .mov (.c (.bool false))⟩] (some [2, 3]))
  (.seq
   (.seq
    (.reg [⟨some 6, none, .fa 2 (.t 2)⟩,
      ⟨some 7, none, .ld none (.t 6)⟩,
      ⟨some 8, none, .fa 2 (.t 3)⟩,
      ⟨some 9, none, .ld none (.t 8)⟩,
      ⟨some 10, none, .call (.c (.fn (.func 58) [] [])) [(.t 7), (.t 9), (.c (.fn (.func 59) [] []))]⟩,
      ⟨some 11, none, .un .not (.t 10)⟩] (some [2, 3, 11]))
    (.cond (.t 11)
     (.seq
      (.reg [⟨some 4, none, .mov (.c (.bool false))⟩] (some [4]))
      .ret)
     .skip))
   (.seq
    (.reg [⟨some 12, none, .fa 0 (.t 2)⟩,
      ⟨some 13, none, .ld none (.t 12)⟩,
      ⟨some 14, none, .fa 0 (.t 3)⟩,
      ⟨some 15, none, .ld none (.t 14)⟩,
      ⟨some 16, none, .bin .eql .none (.t 13) (.t 15)⟩,
      ⟨some 17, none, .mov (.t 16)⟩,
      ⟨some 18, some (17, true), .fa 1 (.t 2)⟩,
      ⟨some 19, some (17, true), .ld none (.t 18)⟩,
      ⟨some 20, some (17, true), .fa 1 (.t 3)⟩,
      ⟨some 21, some (17, true), .ld none (.t 20)⟩,
      ⟨some 22, some (17, true), .bin .eql .none (.t 19) (.t 21)⟩,
      ⟨some 23, none, .pick (.t 17) (.t 22) (.c (.bool false))⟩,
      ⟨some 24, none, .mov (.t 23)⟩,
      ⟨some 25, some (24, true), .fa 4 (.t 2)⟩,
      ⟨some 26, some (24, true), .ld none (.t 25)⟩,
      ⟨some 27, some (24, true), .fa 4 (.t 3)⟩,
      ⟨some 28, some (24, true), .ld none (.t 27)⟩,
      ⟨some 29, some (24, true), .bin .eql .none (.t 26) (.t 28)⟩,
      ⟨some 30, none, .pick (.t 24) (.t 29) (.c (.bool false))⟩,
      ⟨some 5, none, .mov (.t 30)⟩] (some [2, 3, 5]))
    (.seq
     (.reg [⟨some 31, none, .mov (.t 5)⟩,
       ⟨some 32, none, .mov (.t 31)⟩,
       ⟨some 33, some (32, true), .fa 3 (.t 2)⟩,
       ⟨some 34, some (32, true), .ld none (.t 33)⟩,
       ⟨some 35, some (32, true), .fa 3 (.t 3)⟩,
       ⟨some 36, some (32, true), .ld none (.t 35)⟩,
       ⟨some 37, some (32, true), .bin .eql .none (.t 34) (.t 36)⟩,
       ⟨some 38, none, .pick (.t 32) (.t 37) (.c (.bool false))⟩,
       ⟨some 39, none, .mov (.t 38)⟩,
       ⟨some 40, some (39, true), .fa 5 (.t 2)⟩,
       ⟨some 41, some (39, true), .ld none (.t 40)⟩,
       ⟨some 42, some (39, true), .fa 5 (.t 3)⟩,
       ⟨some 43, some (39, true), .ld none (.t 42)⟩,
       ⟨some 44, some (39, true), .bin .eql .none (.t 41) (.t 43)⟩,
       ⟨some 45, none, .pick (.t 39) (.t 44) (.c (.bool false))⟩,
       ⟨some 4, none, .mov (.t 45)⟩] (some [4]))
     .ret))))
theorem is_wireSame : IrOf Tryd.prog 38 46 ir_wireSame [.t 4] := ⟨_, Tryd.func38, rfl, by kernel_rfl, by kernel_rfl, by kernel_rfl⟩


theorem fs_EqualPars {Gl : Gh → Prop} (hst : Stays Gl) {a b : List (List Int)} {ta tb : Option Nm} (ha : a.length < 9223372036854775808) (hb : b.length < 9223372036854775808) (hpa : ∀ p ∈ a, p.length < 9223372036854775808) (hpb : ∀ p ∈ b, p.length < 9223372036854775808) : FS Tryd.prog Gl 58 [.sl ta 1 (parsAV a), .sl tb 1 (parsAV b), .fn (.func 59) [] []] [] [] (.bool (decide (a = b))) [] [] := by
  refine FS.of hm hst is_slicesEqualFuncintintintint (by simp) fun γ hγ hfr => ?_
  (generalize hQ : (fun (ex : Ex) (_ _ : Nat) (s : St) => _) = Q; unfold ir_slicesEqualFuncintintintint)
  simp +contextual (maxSteps := 1000000) only [parsAV_length, go_sem, reduceCtorEq, ↓reduceIte, Nat.reduceAdd, Nat.reduceEqDiff, Nat.reduceLeDiff, Nat.reduceMul, Nat.reduceBEq, Int.reduceBEq, Int.reduceBNe, Int.reduceLT, Int.reduceLE, Int.reduceGT, Int.reduceGE, Int.reduceToNat, Int.natCast_one, Int.natCast_zero, Int.cast_ofNat_Int]
  refine kCond_split (fun h => ?_) (fun h => ?_)
  · simp +contextual (maxSteps := 1000000) only [go_sem, reduceCtorEq, ↓reduceIte, Nat.reduceAdd, Nat.reduceEqDiff, Nat.reduceLeDiff, Nat.reduceMul, Nat.reduceBEq, Int.reduceBEq, Int.reduceBNe, Int.reduceLT, Int.reduceLE, Int.reduceGT, Int.reduceGE, Int.reduceToNat, Int.natCast_one, Int.natCast_zero, Int.cast_ofNat_Int]
    rw [← hQ]
    have : decide (a = b) = false := by
      simp only [bne_iff_ne, ne_eq] at h
      rw [decide_eq_false_iff_not]; intro e; subst e; simp at h
    rw [this]
    exact ⟨trivial, Ret.flat rfl rfl⟩
  · have hl : a.length = b.length := by simp at h; omega
    simp +contextual (maxSteps := 1000000) only [parsAV_length, go_sem, reduceCtorEq, ↓reduceIte, Nat.reduceAdd, Nat.reduceEqDiff, Nat.reduceLeDiff, Nat.reduceMul, Nat.reduceBEq, Int.reduceBEq, Int.reduceBNe, Int.reduceLT, Int.reduceLE, Int.reduceGT, Int.reduceGE, Int.reduceToNat, Int.natCast_one, Int.natCast_zero, Int.cast_ofNat_Int]
    refine kLoop_ix (fun i : Nat => ⟨lf [(1, .sl tb 1 (parsAV b)), (2, .fn (.func 59) [] []), (15, .sl ta 1 (parsAV a)), (16, .int .i64 a.length), (17, .int .i64 i)], [], fun x => x ∈ []⟩) (fun i => i ≤ a.length ∧ a.take i = b.take i) (fun i => a.length - i) 0 0 (Wk.same ?_) ?_ ?_
    · (simp only [lfOK, upd, initF]; repeat' first | exact AVle.refl _ _ | exact trivial | refine And.intro ?_ ?_ | exact AVle.int (by simp only [IntKind.wrap_i64]; omega))
    · simp
    · rintro γ' i hf ⟨hi, hinv⟩
      generalize hQ' : kIt _ _ _ _ _ = Q'
      by_cases hlt : i < a.length
      · have hd : decide ((i : Int) < (a.length : Int)) = true := by simp; omega
        have hi2 : intsV a[i] = .sl none 1 (intsAV a[i]) := rfl
        have hi3 : intsV (b[i]'(by omega)) = .sl none 1 (intsAV (b[i]'(by omega))) := rfl
        have g1 : (parsAV a).getD (i : Int).toNat [] = [intsV a[i]] := by rw [Int.toNat_natCast]; exact parsAV_get hlt
        have g2 : (parsAV b).getD (i : Int).toNat [] = [intsV (b[i]'(by omega))] := by rw [Int.toNat_natCast]; exact parsAV_get (by omega)
        rw [hi2] at g1
        rw [hi3] at g2
        have c1 := fs_EqualInts (Gl := Gl) hst (a := a[i]) (b := b[i]'(by omega)) (ta := none) (tb := none) (hpa _ (List.getElem_mem _)) (hpb _ (List.getElem_mem _))
        simp +contextual (maxSteps := 1000000) only [parsAV_length, hd, g1, g2, go_sem, reduceCtorEq, ↓reduceIte, Nat.reduceAdd, Nat.reduceEqDiff, Nat.reduceLeDiff, Nat.reduceMul, Nat.reduceBEq, Int.reduceBEq, Int.reduceBNe, Int.reduceLT, Int.reduceLE, Int.reduceGT, Int.reduceGE, Int.reduceToNat, Int.natCast_one, Int.natCast_zero, Int.cast_ofNat_Int]
        refine ⟨by omega, by omega, ?_⟩
        (refine CallP.pure (c1) (fun _ => rfl) ?_; simp +contextual (maxSteps := 1000000) only [go_sem, reduceCtorEq, ↓reduceIte, Nat.reduceAdd, Nat.reduceEqDiff, Nat.reduceLeDiff, Nat.reduceMul, Nat.reduceBEq, Int.reduceBEq, Int.reduceBNe, Int.reduceLT, Int.reduceLE, Int.reduceGT, Int.reduceGE, Int.reduceToNat, Int.natCast_one, Int.natCast_zero, Int.cast_ofNat_Int])
        cases hc : decide (a[i] = b[i]'(by omega)) with
        | false =>
          simp +contextual (maxSteps := 1000000) only [hc, go_sem, reduceCtorEq, ↓reduceIte, Nat.reduceAdd, Nat.reduceEqDiff, Nat.reduceLeDiff, Nat.reduceMul, Nat.reduceBEq, Int.reduceBEq, Int.reduceBNe, Int.reduceLT, Int.reduceLE, Int.reduceGT, Int.reduceGE, Int.reduceToNat, Int.natCast_one, Int.natCast_zero, Int.cast_ofNat_Int]
          rw [← hQ']
          simp only [w_kIt_r, w_kBlk_r, w_kSeq_r]
          have e : decide (a = b) = false := by
            rw [decide_eq_false_iff_not]; intro e; subst e; exact of_decide_eq_false hc rfl
          rw [← hQ, e]
          exact ⟨trivial, Ret.flat rfl rfl⟩
        | true =>
          simp +contextual (maxSteps := 1000000) only [hc, go_sem, reduceCtorEq, ↓reduceIte, Nat.reduceAdd, Nat.reduceEqDiff, Nat.reduceLeDiff, Nat.reduceMul, Nat.reduceBEq, Int.reduceBEq, Int.reduceBNe, Int.reduceLT, Int.reduceLE, Int.reduceGT, Int.reduceGE, Int.reduceToNat, Int.natCast_one, Int.natCast_zero, Int.cast_ofNat_Int]
          rw [← hQ']
          simp only [w_kIt_n]
          refine ⟨0, i + 1, Wk.same ?_, ⟨by omega, ?_⟩, by omega⟩
          · repeat' first | exact AVle.refl _ _ | exact trivial | refine And.intro ?_ ?_ | exact AVle.int (by simp only [IntKind.wrap_i64]; omega)
          · have h2 : a[i] = b[i]'(by omega) := of_decide_eq_true hc
            rw [List.take_add_one, List.take_add_one, hinv, List.getElem?_eq_getElem hlt, List.getElem?_eq_getElem (show i < b.length by omega), h2]
      · have hd : decide ((i : Int) < (a.length : Int)) = false := by simp; omega
        simp +contextual (maxSteps := 1000000) only [parsAV_length, hd, go_sem, reduceCtorEq, ↓reduceIte, Nat.reduceAdd, Nat.reduceEqDiff, Nat.reduceLeDiff, Nat.reduceMul, Nat.reduceBEq, Int.reduceBEq, Int.reduceBNe, Int.reduceLT, Int.reduceLE, Int.reduceGT, Int.reduceGE, Int.reduceToNat, Int.natCast_one, Int.natCast_zero, Int.cast_ofNat_Int]
        rw [← hQ']
        simp only [w_kIt_e, w_kBlk_e, ↓reduceIte]
        simp +contextual (maxSteps := 1000000) only [go_sem, reduceCtorEq, ↓reduceIte, Nat.reduceAdd, Nat.reduceEqDiff, Nat.reduceLeDiff, Nat.reduceMul, Nat.reduceBEq, Int.reduceBEq, Int.reduceBNe, Int.reduceLT, Int.reduceLE, Int.reduceGT, Int.reduceGE, Int.reduceToNat, Int.natCast_one, Int.natCast_zero, Int.cast_ofNat_Int]
        have e : decide (a = b) = true := by
          rw [decide_eq_true_eq]
          have h3 := hinv
          rw [List.take_of_length_le (by omega), List.take_of_length_le (by omega)] at h3
          exact h3
        rw [← hQ, e]
        exact ⟨trivial, Ret.flat rfl rfl⟩
/-- Sizes that a slice may have. -/
structure Sq.szP (s : Sq) : Prop where
  ps : s.ps.length < 9223372036854775808
  pp : ∀ p ∈ s.ps, p.length < 9223372036854775808
theorem fs_wSame {Gl : Gh → Prop} (hst : Stays Gl) {a b : Sq} (ha : a.szP) (hb : b.szP) : FS Tryd.prog Gl 38 [.agg a.c, .agg b.c] [] [] (.bool (decide (a = b))) [] [] := by
  refine FS.of hm hst is_wireSame (by simp) fun γ hγ hfr => ?_
  obtain ⟨k, pr, ps, it, fi, da⟩ := a
  obtain ⟨k2, pr2, ps2, it2, fi2, da2⟩ := b
  have c1 := fs_EqualPars (Gl := Gl) hst (a := ps) (b := ps2) (ta := none) (tb := none) ha.ps hb.ps ha.pp hb.pp
  have hcc : ∀ (k pr : Int) ps it fi da, Sq.c ⟨k, pr, ps, it, fi, da⟩ = [.int .i64 k, .int .u8 pr, .sl none 1 (parsAV ps), .str it, .int .u8 fi, .str da] := fun _ _ _ _ _ _ => rfl
  have hz : decide ((⟨k, pr, ps, it, fi, da⟩ : Sq) = ⟨k2, pr2, ps2, it2, fi2, da2⟩) = (decide (ps = ps2) && ((((k == k2) && (pr == pr2)) && (fi == fi2)) && decide (it = it2) && decide (da = da2))) := by
    rw [Bool.eq_iff_iff]
    simp only [Sq.mk.injEq, decide_eq_true_eq, Bool.and_eq_true, beq_iff_eq]
    constructor
    · rintro ⟨a, b, c, d, e, f⟩; exact ⟨c, ⟨⟨⟨a, b⟩, e⟩, d⟩, f⟩
    · rintro ⟨c, ⟨⟨⟨a, b⟩, e⟩, d⟩, f⟩; exact ⟨a, b, c, d, e, f⟩
  (generalize hQ : (fun (ex : Ex) (_ _ : Nat) (s : St) => _) = Q; unfold ir_wireSame)
  simp +contextual (maxSteps := 1000000) only [hcc, go_sem, reduceCtorEq, ↓reduceIte, Nat.reduceAdd, Nat.reduceEqDiff, Nat.reduceLeDiff, Nat.reduceMul, Nat.reduceBEq, Int.reduceBEq, Int.reduceBNe, Int.reduceLT, Int.reduceLE, Int.reduceGT, Int.reduceGE, Int.reduceToNat, Int.natCast_one, Int.natCast_zero, Int.cast_ofNat_Int]
  (refine CallP.pure (c1) (fun _ => rfl) ?_; simp +contextual (maxSteps := 1000000) only [go_sem, reduceCtorEq, ↓reduceIte, Nat.reduceAdd, Nat.reduceEqDiff, Nat.reduceLeDiff, Nat.reduceMul, Nat.reduceBEq, Int.reduceBEq, Int.reduceBNe, Int.reduceLT, Int.reduceLE, Int.reduceGT, Int.reduceGE, Int.reduceToNat, Int.natCast_one, Int.natCast_zero, Int.cast_ofNat_Int])
  cases hc : decide (ps = ps2) with
  | false =>
    simp +contextual (maxSteps := 1000000) only [hc, go_sem, reduceCtorEq, ↓reduceIte, Nat.reduceAdd, Nat.reduceEqDiff, Nat.reduceLeDiff, Nat.reduceMul, Nat.reduceBEq, Int.reduceBEq, Int.reduceBNe, Int.reduceLT, Int.reduceLE, Int.reduceGT, Int.reduceGE, Int.reduceToNat, Int.natCast_one, Int.natCast_zero, Int.cast_ofNat_Int]
    rw [← hQ, hz, hc]
    exact ⟨trivial, Ret.flat rfl rfl⟩
  | true =>
    simp +contextual (maxSteps := 1000000) only [hc, go_sem, reduceCtorEq, ↓reduceIte, Nat.reduceAdd, Nat.reduceEqDiff, Nat.reduceLeDiff, Nat.reduceMul, Nat.reduceBEq, Int.reduceBEq, Int.reduceBNe, Int.reduceLT, Int.reduceLE, Int.reduceGT, Int.reduceGE, Int.reduceToNat, Int.natCast_one, Int.natCast_zero, Int.cast_ofNat_Int]
    rw [← hQ, hz, hc]
    exact ⟨trivial, Ret.flat rfl rfl⟩
end Go.Proofs.YtbepihadhmfklaaDoor

set_option linter.unusedVariables false
set_option linter.unusedSimpArgs false
set_option maxRecDepth 100000
namespace Go.Proofs.YtbepihadhmfklaaDoor
open Go Go.Ab
/-- clavier/other.Back -/
def ir_otherBack : ICode :=
 (.seq
  (.reg [⟨some 2, none, .mov (.c (.int .i64 0))⟩,
    ⟨some 3, none, .mov (.c (.int .i64 0))⟩,
    ⟨some 4, none, .mov (.c (.bool false))⟩] (some [0]))
  (.seq
   (.reg [⟨some 12, none, .mov (.t 0)⟩,
     ⟨some 13, none, .call (.c (.fn (.func 36) [] [])) [(.t 12)]⟩,
     ⟨some 11, none, .mov (.t 13)⟩,
     ⟨some 14, none, .ext (.t 11) 0⟩,
     ⟨some 15, none, .ext (.t 11) 1⟩,
     ⟨some 16, none, .ext (.t 11) 2⟩,
     ⟨some 5, none, .box 51 (.c (.agg [(.int .i64 0), (.int .u8 0), .nils, (.str []), (.int .u8 0), (.str [])]))⟩,
     ⟨none, none, .st 6 (.t 5) (.t 14)⟩,
     ⟨some 6, none, .mov (.t 15)⟩,
     ⟨some 7, none, .mov (.t 16)⟩] (some [0, 5, 6, 7]))
   (.seq
    (.seq
     (.reg [⟨some 17, none, .mov (.t 7)⟩,
       ⟨some 18, none, .bin .neq .none (.t 17) (.c (.int .i64 0))⟩,
       ⟨some 19, none, .mov (.t 18)⟩,
       ⟨some 20, some (19, false), .mov (.t 6)⟩,
       ⟨some 21, some (19, false), .mov (.t 0)⟩,
       ⟨some 22, some (19, false), .len (.t 21)⟩,
       ⟨some 23, some (19, false), .bin .neq .none (.t 20) (.t 22)⟩,
       ⟨some 24, none, .pick (.t 19) (.c (.bool true)) (.t 23)⟩,
       ⟨some 25, none, .mov (.t 24)⟩,
       ⟨some 26, some (25, false), .fa 2 (.t 5)⟩,
       ⟨some 27, some (25, false), .ld none (.t 26)⟩,
       ⟨some 28, some (25, false), .len (.t 27)⟩,
       ⟨some 29, some (25, false), .bin .neq .none (.t 28) (.c (.int .i64 3))⟩,
       ⟨some 30, none, .pick (.t 25) (.c (.bool true)) (.t 29)⟩] (some [5, 30]))
     (.cond (.t 30)
      (.seq
       (.reg [⟨some 2, none, .mov (.c (.int .i64 0))⟩,
         ⟨some 3, none, .mov (.c (.int .i64 0))⟩,
         ⟨some 4, none, .mov (.c (.bool false))⟩] (some [2, 3, 4]))
       .ret)
      .skip))
    (.seq
     (.drw [⟨⟨some 31, none, .ld (some 6) (.t 5)⟩, []⟩,
       ⟨⟨some 32, none, .call (.c (.fn (.func 37) [] [])) [(.t 31), (.c (.int .i64 1)), (.c (.int .i64 0))]⟩, [0]⟩,
       ⟨⟨some 33, none, .ld (some 6) (.t 5)⟩, []⟩,
       ⟨⟨some 34, none, .call (.c (.fn (.func 37) [] [])) [(.t 33), (.c (.int .i64 2)), (.c (.int .i64 (-1)))]⟩, [2, 1]⟩,
       ⟨⟨some 8, none, .mov (.t 32)⟩, [1, 3, 0, 1]⟩]
       [⟨some 9, none, .mov (.t 34)⟩] (some [5, 8, 9]))
     (.seq
      (.drw [⟨⟨some 35, none, .ld (some 6) (.t 5)⟩, []⟩,
        ⟨⟨some 36, none, .mov (.t 8)⟩, []⟩,
        ⟨⟨some 37, none, .mov (.t 9)⟩, []⟩,
        ⟨⟨some 38, none, .row 3 1 [(.c (.int .i64 27)), (.t 36), (.t 37)]⟩, [1, 2]⟩,
        ⟨⟨some 39, none, .call (.c (.fn (.func 20) [] [])) [(.c (.int .u8 0)), (.c (.int .u8 126)), (.t 38)]⟩, [3]⟩,
        ⟨⟨some 40, none, .call (.c (.fn (.func 38) [] [])) [(.t 35), (.t 39)]⟩, [0, 4, 4]⟩]
        [⟨some 10, none, .mov (.t 40)⟩] (some [8, 9, 10]))
      (.seq
       (.seq
        (.reg [⟨some 41, none, .mov (.t 10)⟩,
          ⟨some 42, none, .un .not (.t 41)⟩,
          ⟨some 43, none, .mov (.t 42)⟩,
          ⟨some 44, some (43, false), .mov (.t 8)⟩,
          ⟨some 45, some (43, false), .bin .lss .none (.t 44) (.c (.int .i64 2))⟩,
          ⟨some 46, none, .pick (.t 43) (.c (.bool true)) (.t 45)⟩,
          ⟨some 47, none, .mov (.t 46)⟩,
          ⟨some 48, some (47, false), .mov (.t 8)⟩,
          ⟨some 49, some (47, false), .bin .gtr .none (.t 48) (.c (.int .i64 8))⟩,
          ⟨some 50, none, .pick (.t 47) (.c (.bool true)) (.t 49)⟩,
          ⟨some 51, none, .mov (.t 50)⟩,
          ⟨some 52, some (51, false), .mov (.t 9)⟩,
          ⟨some 53, some (51, false), .bin .lss .none (.t 52) (.c (.int .i64 0))⟩,
          ⟨some 54, none, .pick (.t 51) (.c (.bool true)) (.t 53)⟩] (some [8, 9, 54]))
        (.cond (.t 54)
         (.seq
          (.reg [⟨some 2, none, .mov (.c (.int .i64 0))⟩,
            ⟨some 3, none, .mov (.c (.int .i64 0))⟩,
            ⟨some 4, none, .mov (.c (.bool false))⟩] (some [2, 3, 4]))
          .ret)
         .skip))
       (.seq
        (.reg [⟨some 55, none, .mov (.t 9)⟩,
          ⟨some 56, none, .mov (.t 8)⟩,
          ⟨some 57, none, .bin .sub .none (.t 56) (.c (.int .i64 1))⟩,
          ⟨some 2, none, .mov (.t 55)⟩,
          ⟨some 3, none, .mov (.t 57)⟩,
          ⟨some 4, none, .mov (.c (.bool true))⟩] (some [2, 3, 4]))
        .ret)))))))
theorem is_otherBack : IrOf Tryd.prog 14 58 ir_otherBack [.t 2, .t 3, .t 4] := ⟨_, Tryd.func14, rfl, by kernel_rfl, by kernel_rfl, by kernel_rfl⟩


set_option maxHeartbeats 4000000 in
theorem fs_oBack {Gl : Gh → Prop} (hst : Stays Gl) {p c : Int} {tb : Option Nm} (h2 : 2 ≤ p) (h8 : p ≤ 8) (h0 : 0 ≤ c) (h1 : c ≤ 1114111) : FS Tryd.prog Gl 14 [.sl tb 1 (bytesAV (putB (numSq 1 0 126 [27, p, c])))] [] [] (.tup [.int .i64 c, .int .i64 (p - 1), .bool true]) [] [] := by
  refine FS.args (args' := [.sl none 1 (bytesAV (putB (numSq 1 0 126 [27, p, c])))]) ?_ ⟨RepLe.anon _ _ _, trivial⟩
  have hmy : mayP (numSq 1 0 126 [27, p, c]) = 0 := may3 (by omega) (by omega) (by omega)
  obtain ⟨t1, t2, t3⟩ := take_may hmy []
  rw [List.append_nil] at t1 t2 t3
  have hlen : (putB (numSq 1 0 126 [27, p, c])).length ≤ 4000 := by
    have := bodyB_len hmy
    unfold putB
    rw [if_pos (by rfl)]
    simp only [List.length_append, List.length_cons, List.length_nil]
    omega
  refine FS.of hm hst is_otherBack (by simp) fun γ hγ hfr => ?_
  have c1 := fs_wTake (Gl := Gl) hst (b := putB (numSq 1 0 126 [27, p, c])) (tb := none) (by omega) t1 t2
  rw [t3] at c1
  have c2 := fs_wArg (Gl := Gl) hst (k := 1) (pr := 0) (fi := 126) (o := 0) (ps := [[27], [p], [c]]) (it := []) (da := []) (i := 1)
  have c3 := fs_wArg (Gl := Gl) hst (k := 1) (pr := 0) (fi := 126) (o := -1) (ps := [[27], [p], [c]]) (it := []) (da := []) (i := 2)
  have a1 : argW [[27], [p], [c]] 1 0 = p := by unfold argW; simp; omega
  have a2 : argW [[27], [p], [c]] 2 (-1) = c := by unfold argW; simp; omega
  rw [a1] at c2
  rw [a2] at c3
  have hq : numSq 1 0 126 [27, p, c] = ⟨1, 0, [[27], [p], [c]], [], 126, []⟩ := rfl
  have c4 := fun t : Option Nm => fs_NumV (Gl := Gl) hst (pr := 0) (fi := 126) (nums := [27, p, c]) (tn := t) (by simp)
  have hsz : Sq.szP ⟨1, 0, [[27], [p], [c]], [], 126, []⟩ := ⟨by simp, by simp⟩
  have c5 := fs_wSame (Gl := Gl) hst hsz hsz
  rw [decide_eq_true rfl] at c5
  have hcc : Sq.c ⟨1, 0, [[27], [p], [c]], [], 126, []⟩ = [.int .i64 1, .int .u8 0, .sl none 1 (parsAV [[27], [p], [c]]), .str [], .int .u8 126, .str []] := rfl
  have hi3 : intsAV [27, p, c] = [[.int .i64 27], [.int .i64 p], [.int .i64 c]] := rfl
  have hl3 : ((parsAV [[27], [p], [c]]).length : Int) = 3 := rfl
  have hw : IntKind.i64.wrap (p - 1) = p - 1 := by rw [IntKind.wrap_i64]; omega
  have q1 : decide (p < 2) = false := decide_eq_false (by omega)
  have q2 : decide (p > 8) = false := decide_eq_false (by omega)
  have q3 : decide (c < 0) = false := decide_eq_false (by omega)
  rw [hq, hcc] at c1
  rw [hcc] at c5
  rw [hi3] at c4
  simp only [List.map_cons, List.map_nil] at c4
  generalize parsAV [[27], [p], [c]] = rows at *
  rw [hq]
  generalize putB ⟨1, 0, [[27], [p], [c]], [], 126, []⟩ = b at *
  have q0 : ∀ x : Int, (x != x) = false := by simp
  (generalize hQ : (fun (ex : Ex) (_ _ : Nat) (s : St) => _) = Q; unfold ir_otherBack)
  simp +contextual (maxSteps := 1000000) only [go_sem, reduceCtorEq, ↓reduceIte, Nat.reduceAdd, Nat.reduceEqDiff, Nat.reduceLeDiff, Nat.reduceMul, Nat.reduceBEq, Int.reduceBEq, Int.reduceBNe, Int.reduceLT, Int.reduceLE, Int.reduceGT, Int.reduceGE, Int.reduceToNat, Int.natCast_one, Int.natCast_zero, Int.cast_ofNat_Int]
  (refine CallP.pure (c1) (fun _ => rfl) ?_; simp +contextual (maxSteps := 1000000) only [bytesAV_length', hl3, q0, go_sem, reduceCtorEq, ↓reduceIte, Nat.reduceAdd, Nat.reduceEqDiff, Nat.reduceLeDiff, Nat.reduceMul, Nat.reduceBEq, Int.reduceBEq, Int.reduceBNe, Int.reduceLT, Int.reduceLE, Int.reduceGT, Int.reduceGE, Int.reduceToNat, Int.natCast_one, Int.natCast_zero, Int.cast_ofNat_Int])
  refine DCall.new c2 ?_
  simp +contextual (maxSteps := 1000000) only [go_sem, reduceCtorEq, ↓reduceIte, Nat.reduceAdd, Nat.reduceEqDiff, Nat.reduceLeDiff, Nat.reduceMul, Nat.reduceBEq, Int.reduceBEq, Int.reduceBNe, Int.reduceLT, Int.reduceLE, Int.reduceGT, Int.reduceGE, Int.reduceToNat, Int.natCast_one, Int.natCast_zero, Int.cast_ofNat_Int]
  refine DCall.new c3 ?_
  simp +contextual (maxSteps := 1000000) only [go_sem, reduceCtorEq, ↓reduceIte, Nat.reduceAdd, Nat.reduceEqDiff, Nat.reduceLeDiff, Nat.reduceMul, Nat.reduceBEq, Int.reduceBEq, Int.reduceBNe, Int.reduceLT, Int.reduceLE, Int.reduceGT, Int.reduceGE, Int.reduceToNat, Int.natCast_one, Int.natCast_zero, Int.cast_ofNat_Int]
  refine ⟨by simp [AV.closedL, AV.closed], DCall.new (c4 _) ?_⟩
  simp +contextual (maxSteps := 1000000) only [go_sem, reduceCtorEq, ↓reduceIte, Nat.reduceAdd, Nat.reduceEqDiff, Nat.reduceLeDiff, Nat.reduceMul, Nat.reduceBEq, Int.reduceBEq, Int.reduceBNe, Int.reduceLT, Int.reduceLE, Int.reduceGT, Int.reduceGE, Int.reduceToNat, Int.natCast_one, Int.natCast_zero, Int.cast_ofNat_Int]
  refine DCall.new c5 ?_
  simp +contextual (maxSteps := 1000000) only [q1, q2, q3, hw, go_sem, reduceCtorEq, ↓reduceIte, Nat.reduceAdd, Nat.reduceEqDiff, Nat.reduceLeDiff, Nat.reduceMul, Nat.reduceBEq, Int.reduceBEq, Int.reduceBNe, Int.reduceLT, Int.reduceLE, Int.reduceGT, Int.reduceGE, Int.reduceToNat, Int.natCast_one, Int.natCast_zero, Int.cast_ofNat_Int]
  rw [← hQ]
  exact ⟨trivial, Ret.flatT rfl rfl⟩
end Go.Proofs.YtbepihadhmfklaaDoor

set_option linter.unusedVariables false
set_option linter.unusedSimpArgs false
set_option maxRecDepth 100000
namespace Go.Proofs.YtbepihadhmfklaaDoor
open Go Go.Ab
/-- clavier/clavierlaw12.awake -/
def ir_clavierlaw12awake : ICode :=
 (.seq
  (.reg [⟨some 0, none, .mov (.c (.bool false))⟩] (some []))
  (.seq
   (.reg [⟨some 9, none, .bld [(.bool false), (.bool false), (.bool false), (.bool false), (.bool false), (.bool false), (.bool false), (.int .i64 0), (.int .i64 0), (.int .i64 0)] [(9, 1, (.c (.int .i64 2)))]⟩,
     ⟨some 10, none, .bld [(.int .i64 0), (.int .i64 0), (.int .i64 0), (.int .i64 0), (.int .i64 0), (.str [])] [(0, 1, (.c (.int .i64 105))), (1, 1, (.c (.int .i64 4))), (2, 1, (.c (.int .i64 1)))]⟩,
     ⟨some 11, none, .call (.c (.fn (.func 9) [] [])) [(.t 9), (.t 10)]⟩,
     ⟨some 8, none, .mov (.t 11)⟩,
     ⟨some 12, none, .ext (.t 8) 0⟩,
     ⟨some 13, none, .ext (.t 8) 1⟩,
     ⟨some 1, none, .mov (.t 12)⟩,
     ⟨some 2, none, .mov (.t 13)⟩] (some [1, 2]))
   (.seq
    (.reg [⟨some 15, none, .row 5 1 [(.c (.int .u8 27)), (.c (.int .u8 91)), (.c (.int .u8 50)), (.c (.int .u8 55)), (.c (.int .u8 59)), (.c (.int .u8 53)), (.c (.int .u8 59)), (.c (.int .u8 49)), (.c (.int .u8 48)), (.c (.int .u8 53)), (.c (.int .u8 126))]⟩,
      ⟨some 16, none, .cvs (.t 15)⟩,
      ⟨some 17, none, .call (.c (.fn (.func 14) [] [])) [(.t 16)]⟩,
      ⟨some 14, none, .mov (.t 17)⟩,
      ⟨some 18, none, .ext (.t 14) 0⟩,
      ⟨some 19, none, .ext (.t 14) 1⟩,
      ⟨some 20, none, .ext (.t 14) 2⟩,
      ⟨some 3, none, .mov (.t 18)⟩,
      ⟨some 4, none, .mov (.t 19)⟩,
      ⟨some 5, none, .mov (.t 20)⟩] (some [1, 2, 3, 4, 5]))
    (.seq
     (.reg [⟨some 22, none, .bld [(.bool false), (.bool false), (.bool false), (.bool false), (.bool false), (.bool false), (.bool false), (.int .i64 0), (.int .i64 0), (.int .i64 0)] [(9, 1, (.c (.int .i64 1)))]⟩,
       ⟨some 23, none, .bld [(.int .i64 0), (.int .i64 0), (.int .i64 0), (.int .i64 0), (.int .i64 0), (.str [])] [(0, 1, (.c (.int .i64 105))), (1, 1, (.c (.int .i64 4))), (2, 1, (.c (.int .i64 1)))]⟩,
       ⟨some 24, none, .call (.c (.fn (.func 9) [] [])) [(.t 22), (.t 23)]⟩,
       ⟨some 21, none, .mov (.t 24)⟩,
       ⟨some 25, none, .ext (.t 21) 0⟩,
       ⟨some 26, none, .ext (.t 21) 1⟩,
       ⟨some 6, none, .mov (.t 25)⟩,
       ⟨some 7, none, .mov (.t 26)⟩] (some [1, 2, 3, 4, 5, 7]))
     (.seq
      (.reg [⟨some 27, none, .mov (.t 2)⟩,
        ⟨some 28, none, .mov (.t 27)⟩,
        ⟨some 29, some (28, true), .mov (.t 1)⟩,
        ⟨some 30, some (28, true), .b2s (.t 29)⟩,
        ⟨some 31, some (28, true), .bin .eql .none (.t 30) (.c (.str [27, 91, 50, 55, 59, 53, 59, 49, 48, 53, 126]))⟩,
        ⟨some 32, none, .pick (.t 28) (.t 31) (.c (.bool false))⟩,
        ⟨some 33, none, .mov (.t 32)⟩,
        ⟨some 34, some (33, true), .mov (.t 5)⟩,
        ⟨some 35, none, .pick (.t 33) (.t 34) (.c (.bool false))⟩,
        ⟨some 36, none, .mov (.t 35)⟩,
        ⟨some 37, some (36, true), .mov (.t 3)⟩,
        ⟨some 38, some (36, true), .bin .eql .none (.t 37) (.c (.int .i64 105))⟩,
        ⟨some 39, none, .pick (.t 36) (.t 38) (.c (.bool false))⟩,
        ⟨some 40, none, .mov (.t 39)⟩,
        ⟨some 41, some (40, true), .mov (.t 4)⟩,
        ⟨some 42, some (40, true), .bin .eql .none (.t 41) (.c (.int .i64 4))⟩,
        ⟨some 43, none, .pick (.t 40) (.t 42) (.c (.bool false))⟩,
        ⟨some 44, none, .mov (.t 43)⟩,
        ⟨some 45, some (44, true), .mov (.t 7)⟩,
        ⟨some 46, some (44, true), .un .not (.t 45)⟩,
        ⟨some 47, none, .pick (.t 44) (.t 46) (.c (.bool false))⟩,
        ⟨some 0, none, .mov (.t 47)⟩] (some [0]))
      .ret)))))
theorem is_clavierlaw12awake : IrOf Tryd.prog 8 48 ir_clavierlaw12awake [.t 0] := ⟨_, Tryd.func8, rfl, by kernel_rfl, by kernel_rfl, by kernel_rfl⟩

/-- clavier/clavierlaw12.OtherLevels -/
def ir_clavierlaw12OtherLevels : ICode :=
 (.seq
  (.reg [⟨some 2, none, .box 23 (.t 0)⟩,
    ⟨some 3, none, .box 27 (.t 1)⟩,
    ⟨some 4, none, .mov (.c (.bool false))⟩] (some [2, 3]))
  (.seq
   (.reg [⟨some 12, none, .call (.c (.fn (.func 8) [] [])) []⟩,
     ⟨some 5, none, .mov (.t 12)⟩] (some [2, 3, 5]))
   (.seq
    (.seq
     (.reg [⟨some 13, none, .fa 5 (.t 3)⟩,
       ⟨some 14, none, .ld none (.t 13)⟩,
       ⟨some 15, none, .lns (.t 14)⟩,
       ⟨some 16, none, .bin .gtr .none (.t 15) (.c (.int .i64 100))⟩] (some [2, 3, 5, 16]))
     (.cond (.t 16)
      (.seq
       (.reg [⟨some 17, none, .mov (.t 5)⟩,
         ⟨some 4, none, .mov (.t 17)⟩] (some [4]))
       .ret)
      .skip))
    (.seq
     (.reg [⟨some 18, none, .fa 9 (.t 2)⟩,
       ⟨none, none, .st 1 (.t 18) (.c (.int .i64 1))⟩] (some [2, 3, 5]))
     (.seq
      (.reg [⟨some 20, none, .ld (some 10) (.t 2)⟩,
        ⟨some 21, none, .ld (some 6) (.t 3)⟩,
        ⟨some 22, none, .call (.c (.fn (.func 9) [] [])) [(.t 20), (.t 21)]⟩,
        ⟨some 19, none, .mov (.t 22)⟩,
        ⟨some 23, none, .ext (.t 19) 0⟩,
        ⟨some 24, none, .ext (.t 19) 1⟩,
        ⟨some 6, none, .mov (.t 23)⟩,
        ⟨some 7, none, .mov (.t 24)⟩] (some [2, 3, 5, 6, 7]))
      (.seq
       (.reg [⟨some 25, none, .fa 9 (.t 2)⟩,
         ⟨none, none, .st 1 (.t 25) (.c (.int .i64 2))⟩] (some [2, 3, 5, 6, 7]))
       (.seq
        (.reg [⟨some 27, none, .ld (some 10) (.t 2)⟩,
          ⟨some 28, none, .ld (some 6) (.t 3)⟩,
          ⟨some 29, none, .call (.c (.fn (.func 9) [] [])) [(.t 27), (.t 28)]⟩,
          ⟨some 26, none, .mov (.t 29)⟩,
          ⟨some 30, none, .ext (.t 26) 0⟩,
          ⟨some 31, none, .ext (.t 26) 1⟩,
          ⟨some 8, none, .mov (.t 30)⟩,
          ⟨some 9, none, .mov (.t 31)⟩] (some [2, 3, 5, 6, 7, 8, 9]))
        (.seq
         (.reg [⟨some 32, none, .fa 9 (.t 2)⟩,
           ⟨none, none, .st 1 (.t 32) (.c (.int .i64 0))⟩] (some [2, 3, 5, 6, 7, 8, 9]))
         (.seq
          (.reg [⟨some 34, none, .ld (some 10) (.t 2)⟩,
            ⟨some 35, none, .ld (some 6) (.t 3)⟩,
            ⟨some 36, none, .call (.c (.fn (.func 9) [] [])) [(.t 34), (.t 35)]⟩,
            ⟨some 33, none, .mov (.t 36)⟩,
            ⟨some 37, none, .ext (.t 33) 0⟩,
            ⟨some 38, none, .ext (.t 33) 1⟩,
            ⟨some 10, none, .mov (.t 37)⟩,
            ⟨some 11, none, .mov (.t 38)⟩] (some [5, 6, 7, 8, 9, 11]))
          (.seq
           (.reg [⟨some 39, none, .mov (.t 5)⟩,
             ⟨some 40, none, .mov (.t 39)⟩,
             ⟨some 41, some (40, true), .mov (.t 11)⟩,
             ⟨some 42, some (40, true), .un .not (.t 41)⟩,
             ⟨some 43, none, .pick (.t 40) (.t 42) (.c (.bool false))⟩,
             ⟨some 44, none, .mov (.t 43)⟩,
             ⟨some 45, some (44, true), .mov (.t 7)⟩,
             ⟨some 46, some (44, true), .un .not (.t 45)⟩,
             ⟨some 47, some (44, true), .mov (.t 46)⟩,
             ⟨some 48, some (47, false), .mov (.t 9)⟩,
             ⟨some 49, some (47, false), .mov (.t 48)⟩,
             ⟨some 50, some (49, true), .mov (.t 6)⟩,
             ⟨some 51, some (49, true), .b2s (.t 50)⟩,
             ⟨some 52, some (49, true), .mov (.t 8)⟩,
             ⟨some 53, some (49, true), .b2s (.t 52)⟩,
             ⟨some 54, some (49, true), .bin .eql .none (.t 51) (.t 53)⟩,
             ⟨some 55, some (47, false), .pick (.t 49) (.t 54) (.c (.bool false))⟩,
             ⟨some 56, some (44, true), .pick (.t 47) (.c (.bool true)) (.t 55)⟩,
             ⟨some 57, none, .pick (.t 44) (.t 56) (.c (.bool false))⟩,
             ⟨some 4, none, .mov (.t 57)⟩] (some [4]))
           .ret))))))))))
theorem is_clavierlaw12OtherLevels : IrOf Tryd.prog 4 58 ir_clavierlaw12OtherLevels [.t 4] := ⟨_, Tryd.func4, rfl, by kernel_rfl, by kernel_rfl, by kernel_rfl⟩

def MdO : Md := ⟨false, false, false, false, false, false, false, 0, 0, 0⟩
theorem oth_a : othK 2 ⟨105, 4, 1, 0, 0, []⟩ = [27, 91, 50, 55, 59, 53, 59, 49, 48, 53, 126] ∧ isO 2 ⟨105, 4, 1, 0, 0, []⟩ = true := by decide +kernel
theorem oth_b : othK 1 ⟨105, 4, 1, 0, 0, []⟩ = [] ∧ isO 1 ⟨105, 4, 1, 0, 0, []⟩ = false := by decide +kernel
theorem oth_c : putB (numSq 1 0 126 [27, 5, 105]) = [27, 91, 50, 55, 59, 53, 59, 49, 48, 53, 126] := by decide +kernel
theorem fs_awake12 {Gl : Gh → Prop} (hst : Stays Gl) : FS Tryd.prog Gl 8 [] [] [] (.bool true) [] [] := by
  refine FS.of hm hst is_clavierlaw12awake (by simp) fun γ hγ hfr => ?_
  have c1 := fs_oKey (Gl := Gl) hst (m := { MdO with other := 2 }) (k := ⟨105, 4, 1, 0, 0, []⟩) (by simp) (by simp)
  have c2 := fs_oKey (Gl := Gl) hst (m := { MdO with other := 1 }) (k := ⟨105, 4, 1, 0, 0, []⟩) (by simp) (by simp)
  have c3 := fun t : Option Nm => fs_oBack (Gl := Gl) hst (p := 5) (c := 105) (tb := t) (by omega) (by omega) (by omega) (by omega)
  rw [oth_c] at c3
  simp only [oth_a.1, oth_a.2, kyAV, mdAV, MdO] at c1
  simp only [oth_b.1, oth_b.2, kyAV, mdAV, MdO] at c2
  (generalize hQ : (fun (ex : Ex) (_ _ : Nat) (s : St) => _) = Q; unfold ir_clavierlaw12awake)
  simp +contextual (maxSteps := 1000000) only [go_sem, reduceCtorEq, ↓reduceIte, Nat.reduceAdd, Nat.reduceEqDiff, Nat.reduceLeDiff, Nat.reduceMul, Nat.reduceBEq, Int.reduceBEq, Int.reduceBNe, Int.reduceLT, Int.reduceLE, Int.reduceGT, Int.reduceGE, Int.reduceToNat, Int.natCast_one, Int.natCast_zero, Int.cast_ofNat_Int]
  (refine CallP.pure (c1) (fun _ => rfl) ?_; simp +contextual (maxSteps := 1000000) only [go_sem, reduceCtorEq, ↓reduceIte, Nat.reduceAdd, Nat.reduceEqDiff, Nat.reduceLeDiff, Nat.reduceMul, Nat.reduceBEq, Int.reduceBEq, Int.reduceBNe, Int.reduceLT, Int.reduceLE, Int.reduceGT, Int.reduceGE, Int.reduceToNat, Int.natCast_one, Int.natCast_zero, Int.cast_ofNat_Int])
  refine ⟨⟨.inl trivial, by simp⟩, ?_⟩
  (refine CallP.pure (c3 _) (fun _ => rfl) ?_; simp +contextual (maxSteps := 1000000) only [go_sem, reduceCtorEq, ↓reduceIte, Nat.reduceAdd, Nat.reduceEqDiff, Nat.reduceLeDiff, Nat.reduceMul, Nat.reduceBEq, Int.reduceBEq, Int.reduceBNe, Int.reduceLT, Int.reduceLE, Int.reduceGT, Int.reduceGE, Int.reduceToNat, Int.natCast_one, Int.natCast_zero, Int.cast_ofNat_Int])
  (refine CallP.pure (c2) (fun _ => rfl) ?_; simp +contextual (maxSteps := 1000000) only [bb_un, bb_is, go_sem, reduceCtorEq, ↓reduceIte, Nat.reduceAdd, Nat.reduceEqDiff, Nat.reduceLeDiff, Nat.reduceMul, Nat.reduceBEq, Int.reduceBEq, Int.reduceBNe, Int.reduceLT, Int.reduceLE, Int.reduceGT, Int.reduceGE, Int.reduceToNat, Int.natCast_one, Int.natCast_zero, Int.cast_ofNat_Int])
  rw [← hQ]
  exact ⟨trivial, Ret.flat rfl rfl⟩
set_option maxHeartbeats 4000000 in
theorem fs_OtherLevels {Gl : Gh → Prop} (hst : Stays Gl) {m : Md} {k : Ky} (_ : True) (h : k.text.length ≤ maxLen ∧ k.mods ≤ 9223372036854775807) : FS Tryd.prog Gl 4 [.agg (mdAV m), .agg (kyAV k)] [] [] (.bool true) [] [] := by
  refine FS.of hm hst is_clavierlaw12OtherLevels (by simp) fun γ hγ hfr => ?_
  obtain ⟨ht, hmm⟩ := h
  have hky : kyAV k = [.int .i64 k.code, .int .i64 k.mods, .int .i64 k.type, .int .i64 k.shifted, .int .i64 k.base, .str k.text] := rfl
  have hmd : mdAV m = [.bool m.cursor, .bool m.keypad, .bool m.back, .bool m.focus, .bool m.paste, .bool m.lock, .bool m.line, .int .i64 m.mouse, .int .i64 m.coding, .int .i64 m.other] := rfl
  simp only [hky, hmd]
  (generalize hQ : (fun (ex : Ex) (_ _ : Nat) (s : St) => _) = Q; unfold ir_clavierlaw12OtherLevels)
  simp +contextual (maxSteps := 1000000) only [go_sem, reduceCtorEq, ↓reduceIte, Nat.reduceAdd, Nat.reduceEqDiff, Nat.reduceLeDiff, Nat.reduceMul, Nat.reduceBEq, Int.reduceBEq, Int.reduceBNe, Int.reduceLT, Int.reduceLE, Int.reduceGT, Int.reduceGE, Int.reduceToNat, Int.natCast_one, Int.natCast_zero, Int.cast_ofNat_Int]
  (refine CallP.pure (fs_awake12 hst) (fun _ => rfl) ?_; simp +contextual (maxSteps := 1000000) only [go_sem, reduceCtorEq, ↓reduceIte, Nat.reduceAdd, Nat.reduceEqDiff, Nat.reduceLeDiff, Nat.reduceMul, Nat.reduceBEq, Int.reduceBEq, Int.reduceBNe, Int.reduceLT, Int.reduceLE, Int.reduceGT, Int.reduceGE, Int.reduceToNat, Int.natCast_one, Int.natCast_zero, Int.cast_ofNat_Int])
  by_cases h : (k.text.length : Int) > 100
  · have q : decide ((k.text.length : Int) > 100) = true := decide_eq_true h
    simp +contextual (maxSteps := 1000000) only [q, go_sem, reduceCtorEq, ↓reduceIte, Nat.reduceAdd, Nat.reduceEqDiff, Nat.reduceLeDiff, Nat.reduceMul, Nat.reduceBEq, Int.reduceBEq, Int.reduceBNe, Int.reduceLT, Int.reduceLE, Int.reduceGT, Int.reduceGE, Int.reduceToNat, Int.natCast_one, Int.natCast_zero, Int.cast_ofNat_Int]
    rw [← hQ]
    exact ⟨trivial, Ret.flat rfl rfl⟩
  · have q : decide ((k.text.length : Int) > 100) = false := decide_eq_false h
    have c1 := fs_oKey (Gl := Gl) hst (m := { m with other := 1 }) (k := k) hmm (by omega)
    have c2 := fs_oKey (Gl := Gl) hst (m := { m with other := 2 }) (k := k) hmm (by omega)
    have c3 := fs_oKey (Gl := Gl) hst (m := { m with other := 0 }) (k := k) hmm (by omega)
    have h12 := isO_12 (k := k)
    have hk1 : othK 1 k = if isO 1 k = true then putB (othSq k) else [] := rfl
    have hk2 : othK 2 k = if isO 2 k = true then putB (othSq k) else [] := rfl
    simp only [hky, mdAV] at c1 c2 c3
    simp only [isO_0] at c3
    simp +contextual (maxSteps := 1000000) only [q, go_sem, reduceCtorEq, ↓reduceIte, Nat.reduceAdd, Nat.reduceEqDiff, Nat.reduceLeDiff, Nat.reduceMul, Nat.reduceBEq, Int.reduceBEq, Int.reduceBNe, Int.reduceLT, Int.reduceLE, Int.reduceGT, Int.reduceGE, Int.reduceToNat, Int.natCast_one, Int.natCast_zero, Int.cast_ofNat_Int]
    (refine CallP.pure (c1) (fun _ => rfl) ?_; simp +contextual (maxSteps := 1000000) only [go_sem, reduceCtorEq, ↓reduceIte, Nat.reduceAdd, Nat.reduceEqDiff, Nat.reduceLeDiff, Nat.reduceMul, Nat.reduceBEq, Int.reduceBEq, Int.reduceBNe, Int.reduceLT, Int.reduceLE, Int.reduceGT, Int.reduceGE, Int.reduceToNat, Int.natCast_one, Int.natCast_zero, Int.cast_ofNat_Int])
    (refine CallP.pure (c2) (fun _ => rfl) ?_; simp +contextual (maxSteps := 1000000) only [go_sem, reduceCtorEq, ↓reduceIte, Nat.reduceAdd, Nat.reduceEqDiff, Nat.reduceLeDiff, Nat.reduceMul, Nat.reduceBEq, Int.reduceBEq, Int.reduceBNe, Int.reduceLT, Int.reduceLE, Int.reduceGT, Int.reduceGE, Int.reduceToNat, Int.natCast_one, Int.natCast_zero, Int.cast_ofNat_Int])
    (refine CallP.pure (c3) (fun _ => rfl) ?_; simp +contextual (maxSteps := 1000000) only [bb_un, bb_is, go_sem, reduceCtorEq, ↓reduceIte, Nat.reduceAdd, Nat.reduceEqDiff, Nat.reduceLeDiff, Nat.reduceMul, Nat.reduceBEq, Int.reduceBEq, Int.reduceBNe, Int.reduceLT, Int.reduceLE, Int.reduceGT, Int.reduceGE, Int.reduceToNat, Int.natCast_one, Int.natCast_zero, Int.cast_ofNat_Int])
    rw [← hQ]
    refine ⟨trivial, Ret.flat (show some (AV.bool _) = some (AV.bool _) from congrArg (fun z => some (AV.bool z)) ?_) rfl⟩
    cases h1 : isO 1 k with
    | false => rfl
    | true =>
      rw [h1, if_pos rfl] at hk1
      rw [h12 h1, if_pos rfl] at hk2
      rw [h12 h1, hk1, hk2, decide_eq_true rfl]; rfl
end Go.Proofs.YtbepihadhmfklaaDoor

set_option linter.unusedVariables false
set_option linter.unusedSimpArgs false
set_option maxRecDepth 100000
namespace Go.Proofs.YtbepihadhmfklaaDoor
open Go Go.Ab Go.WideShapes Go.RowKit
theorem seat_own : ownKnob Tryd.prog.godebug = none := by kernel_rfl
theorem seat_laidOut : laidOutB Tryd.prog = true := by kernel_rfl
section
variable {H : Type} {enc : TypeId × Value → H} {W : World} {base : Nat} {v : Value} {d : DataW H} {p : List MemPlace}
end
end Go.Proofs.YtbepihadhmfklaaDoor

set_option linter.unusedVariables false
set_option maxRecDepth 100000
namespace Go.Proofs.YtbepihadhmfklaaDoor
open Go Go.Ab
end Go.Proofs.YtbepihadhmfklaaDoor

set_option linter.unusedVariables false
set_option maxRecDepth 100000
namespace Go.Proofs.YtbepihadhmfklaaDoor
open Go Go.Ab
theorem fixW_of5 {W : World} (h : laidMetH Tryd.prog [("math/bits.deBruijn32tab", Rows.laid_math_bits_deBruijn32tab), ("math/bits.deBruijn64tab", Rows.laid_math_bits_deBruijn64tab), ("internal/strconv.uint64pow10", Rows.laid_internal_strconv_uint64pow10), ("unicode/utf8.acceptRanges", Rows.laid_unicode_utf8_acceptRanges), ("unicode/utf8.first", Rows.laid_unicode_utf8_first)] W) : FixW W := by
  rw [MakeChecks.laidMetH_plain _ _ _ (by kernel_rfl)] at h
  have h2 := laidMet.filter (fun x => x.1 == "internal/strconv.uint64pow10") h
  have h3 : laidMet Tryd.prog [("internal/strconv.uint64pow10", Lib.tabData .u64 Lib.pow10Tab)] W := h2
  have h4 := Lib.tabIs_of_head (g := 3) (t := 165) (e := 155) (n := 20) (by kernel_rfl) (by kernel_rfl) (by kernel_rfl) (by kernel_rfl) (by kernel_rfl) (by kernel_rfl) h3
  intro p hp
  obtain rfl := List.mem_singleton.1 hp
  unfold Lib.TabIs World.var? at h4
  rw [show Program.globalNamed Tryd.prog "internal/strconv.uint64pow10" = some 3 from by kernel_rfl] at h4
  simp only [Option.bind_some] at h4
  split at h4
  · rename_i cs e fr hh
    simp only [Option.some.injEq] at h4
    refine ⟨e, fr, ?_⟩
    rw [hh, h4]
    simp [Lib.pow10Tab]
  · cases h4
end Go.Proofs.YtbepihadhmfklaaDoor

set_option linter.unusedVariables false
set_option linter.unusedSimpArgs false
set_option maxRecDepth 100000
namespace Go.Proofs.YtbepihadhmfklaaDoor
open Go Go.Ab Go.WideShapes Go.RowKit
def zero_apiKey : Value := .agg #[.int .i64 0, .int .i64 0, .int .i64 0, .int .i64 0, .int .i64 0, .string ByteArray.empty]
section
variable {H : Type} {enc : TypeId × Value → H} {W : World} {base : Nat} {v : Value} {d : DataW H} {p : List MemPlace}
theorem key_is : structIs Tryd.prog 27 [(0, 3), (1, 3), (2, 3), (3, 3), (4, 3), (5, 9)] = true := by kernel_rfl
end
end Go.Proofs.YtbepihadhmfklaaDoor

set_option linter.unusedVariables false
set_option linter.unusedSimpArgs false
set_option maxRecDepth 100000
namespace Go.Proofs.YtbepihadhmfklaaDoor
open Go Go.Ab Go.WideShapes Go.RowKit
section
variable {H : Type} {enc : TypeId × Value → H} {W : World} {base : Nat} {v : Value} {d : DataW H} {p : List MemPlace}
theorem tr_KeyI : TR enc Tryd.prog W 27 fun xs => ∃ k : Ky, xs = kyAV k ∧ k.text.length ≤ maxLen ∧ k.mods ≤ 9223372036854775807 := by
  refine (TR.structL (Rs := [fun xs => ∃ n, xs = [.int .i64 n] ∧ IntKind.i64.min ≤ n ∧ n ≤ IntKind.i64.max, fun xs => ∃ n, xs = [.int .i64 n] ∧ IntKind.i64.min ≤ n ∧ n ≤ IntKind.i64.max, fun xs => ∃ n, xs = [.int .i64 n] ∧ IntKind.i64.min ≤ n ∧ n ≤ IntKind.i64.max, fun xs => ∃ n, xs = [.int .i64 n] ∧ IntKind.i64.min ≤ n ∧ n ≤ IntKind.i64.max, fun xs => ∃ n, xs = [.int .i64 n] ∧ IntKind.i64.min ≤ n ∧ n ≤ IntKind.i64.max, fun xs => ∃ s, xs = [.str s] ∧ s.length ≤ maxLen]) 6 key_is (by kernel_rfl) ?_).mono ?_
  · exact ⟨rfl, TR.int (by kernel_rfl), 1, by kernel_rfl, rfl, TR.int (by kernel_rfl), 1, by kernel_rfl, rfl, TR.int (by kernel_rfl), 1, by kernel_rfl, rfl, TR.int (by kernel_rfl), 1, by kernel_rfl, rfl, TR.int (by kernel_rfl), 1, by kernel_rfl, rfl, TR.str (by kernel_rfl), 1, by kernel_rfl, rfl⟩
  · rintro xs ⟨_, _, ⟨a, rfl, _⟩, ⟨_, _, ⟨b, rfl, hb⟩, ⟨_, _, ⟨c, rfl, _⟩, ⟨_, _, ⟨e, rfl, _⟩, ⟨_, _, ⟨f, rfl, _⟩, ⟨_, _, ⟨t, rfl, ht⟩, h, rfl⟩, rfl⟩, rfl⟩, rfl⟩, rfl⟩, rfl⟩
    have h : _ = [] := h
    subst h
    exact ⟨⟨a, b, c, e, f, t⟩, rfl, ht, by simpa [IntKind.max, IntKind.signed, IntKind.bits] using hb.2⟩
theorem op_apiKeyI (hv : Value.okWide Tryd.prog W .any base 27 v) (hd : DataW.Trod enc Tryd.prog W 0 (fun _ => true) true 27 v d p) : ∃ k : Ky, (k.text.length ≤ maxLen ∧ k.mods ≤ 9223372036854775807) ∧ Rep (gh0 W) (.agg (kyAV k)) v := by
  obtain ⟨cs, rfl⟩ := okWide_struct key_is hv
  obtain ⟨xs, ⟨k, rfl, h⟩, hr⟩ := tr_KeyI.argN hd
  exact ⟨k, h, hr⟩
end
end Go.Proofs.YtbepihadhmfklaaDoor

set_option linter.unusedVariables false
set_option linter.unusedSimpArgs false
set_option maxRecDepth 100000
namespace Go.Proofs.YtbepihadhmfklaaDoor
open Go Go.Ab Go.WideShapes Go.RowKit
def zero_apiModes : Value := .agg #[.bool false, .bool false, .bool false, .bool false, .bool false, .bool false, .bool false, .int .i64 0, .int .i64 0, .int .i64 0]
section
variable {H : Type} {enc : TypeId × Value → H} {W : World} {base : Nat} {v : Value} {d : DataW H} {p : List MemPlace}
theorem modes_is : structIs Tryd.prog 23 [(0, 4), (1, 4), (2, 4), (3, 4), (4, 4), (5, 4), (6, 4), (7, 3), (8, 3), (9, 3)] = true := by kernel_rfl
theorem tr_Modes : TR enc Tryd.prog W 23 fun xs => ∃ m : Md, xs = mdAV m := by
  refine (TR.structL (Rs := [fun xs => ∃ b, xs = [.bool b], fun xs => ∃ b, xs = [.bool b], fun xs => ∃ b, xs = [.bool b], fun xs => ∃ b, xs = [.bool b], fun xs => ∃ b, xs = [.bool b], fun xs => ∃ b, xs = [.bool b], fun xs => ∃ b, xs = [.bool b], fun xs => ∃ n, xs = [.int .i64 n] ∧ IntKind.i64.min ≤ n ∧ n ≤ IntKind.i64.max, fun xs => ∃ n, xs = [.int .i64 n] ∧ IntKind.i64.min ≤ n ∧ n ≤ IntKind.i64.max, fun xs => ∃ n, xs = [.int .i64 n] ∧ IntKind.i64.min ≤ n ∧ n ≤ IntKind.i64.max]) 10 modes_is (by kernel_rfl) ?_).mono ?_
  · exact ⟨rfl, TR.bool (by kernel_rfl), 1, by kernel_rfl, rfl, TR.bool (by kernel_rfl), 1, by kernel_rfl, rfl, TR.bool (by kernel_rfl), 1, by kernel_rfl, rfl, TR.bool (by kernel_rfl), 1, by kernel_rfl, rfl, TR.bool (by kernel_rfl), 1, by kernel_rfl, rfl, TR.bool (by kernel_rfl), 1, by kernel_rfl, rfl, TR.bool (by kernel_rfl), 1, by kernel_rfl, rfl, TR.int (by kernel_rfl), 1, by kernel_rfl, rfl, TR.int (by kernel_rfl), 1, by kernel_rfl, rfl, TR.int (by kernel_rfl), 1, by kernel_rfl, rfl⟩
  · rintro xs ⟨_, _, ⟨a, rfl⟩, ⟨_, _, ⟨b, rfl⟩, ⟨_, _, ⟨c, rfl⟩, ⟨_, _, ⟨e, rfl⟩, ⟨_, _, ⟨f, rfl⟩, ⟨_, _, ⟨g, rfl⟩, ⟨_, _, ⟨i, rfl⟩, ⟨_, _, ⟨j, rfl, _⟩, ⟨_, _, ⟨k, rfl, _⟩, ⟨_, _, ⟨l, rfl, _⟩, h, rfl⟩, rfl⟩, rfl⟩, rfl⟩, rfl⟩, rfl⟩, rfl⟩, rfl⟩, rfl⟩, rfl⟩
    have h : _ = [] := h
    subst h
    exact ⟨⟨a, b, c, e, f, g, i, j, k, l⟩, rfl⟩
theorem op_apiModes (hv : Value.okWide Tryd.prog W .any base 23 v) (hd : DataW.Trod enc Tryd.prog W 0 (fun _ => true) true 23 v d p) : ∃ m : Md, True ∧ Rep (gh0 W) (.agg (mdAV m)) v := by
  obtain ⟨cs, rfl⟩ := okWide_struct modes_is hv
  obtain ⟨xs, ⟨m, rfl⟩, hr⟩ := tr_Modes.argN hd
  exact ⟨m, trivial, hr⟩
end
end Go.Proofs.YtbepihadhmfklaaDoor

set_option linter.unusedVariables false
set_option linter.unusedSimpArgs false
set_option maxRecDepth 100000
namespace Go.Proofs.YtbepihadhmfklaaDoor
open Go Go.Ab Go.ChangeShapes Go.WideShapes Go.ChangeAt Go.RowKit
theorem otherLevels_lifted (os : Os) (started : os.Started) (H : Type) (enc : TypeId × Value → H) (F : Stop.Interp) :
    ReturnsInHanded {} Tryd.checked os 4 .any ((OpenSpec.ofChange Rows.otherLevelsSpec).preRow enc Tryd.prog Tryd.f4 Rows.otherLevelsRow.domain false Rows.otherLevelsRow.laid) (((OpenSpec.ofChange Rows.otherLevelsSpec).at F).post enc Tryd.prog Tryd.f4 false true false false) := by
  have hw : (DataW.whole enc Tryd.prog ((World.laidAll Tryd.prog os [("math/bits.deBruijn32tab", Rows.laid_math_bits_deBruijn32tab), ("math/bits.deBruijn64tab", Rows.laid_math_bits_deBruijn64tab), ("internal/strconv.uint64pow10", Rows.laid_internal_strconv_uint64pow10), ("unicode/utf8.acceptRanges", Rows.laid_unicode_utf8_acceptRanges), ("unicode/utf8.first", Rows.laid_unicode_utf8_first)]).forCall (fun _ _ => 0) ⟨#[], #[zero_apiModes, zero_apiKey], []⟩).memory Tryd.f4.params.toList (OpenSpec.ofChange Rows.otherLevelsSpec).vars false (#[zero_apiModes, zero_apiKey] : Array Value).toList 8).any (fun x => true) = true := by kernel_rfl
  cases hx : DataW.whole enc Tryd.prog ((World.laidAll Tryd.prog os [("math/bits.deBruijn32tab", Rows.laid_math_bits_deBruijn32tab), ("math/bits.deBruijn64tab", Rows.laid_math_bits_deBruijn64tab), ("internal/strconv.uint64pow10", Rows.laid_internal_strconv_uint64pow10), ("unicode/utf8.acceptRanges", Rows.laid_unicode_utf8_acceptRanges), ("unicode/utf8.first", Rows.laid_unicode_utf8_first)]).forCall (fun _ _ => 0) ⟨#[], #[zero_apiModes, zero_apiKey], []⟩).memory Tryd.f4.params.toList (OpenSpec.ofChange Rows.otherLevelsSpec).vars false (#[zero_apiModes, zero_apiKey] : Array Value).toList 8 with
  | none => rw [hx] at hw; cases hw
  | some x =>
  rw [hx] at hw
  have hok : Input.okWideB Tryd.checked.prog ((World.laidAll Tryd.prog os [("math/bits.deBruijn32tab", Rows.laid_math_bits_deBruijn32tab), ("math/bits.deBruijn64tab", Rows.laid_math_bits_deBruijn64tab), ("internal/strconv.uint64pow10", Rows.laid_internal_strconv_uint64pow10), ("unicode/utf8.acceptRanges", Rows.laid_unicode_utf8_acceptRanges), ("unicode/utf8.first", Rows.laid_unicode_utf8_first)]).forCall (fun _ _ => 0) ⟨#[], #[zero_apiModes, zero_apiKey], []⟩) 4 ⟨#[], #[zero_apiModes, zero_apiKey], []⟩ = true := by kernel_rfl
  refine returnsInHanded_of_row (C := Tryd.checked) (s := (OpenSpec.ofChange Rows.otherLevelsSpec)) seat_own started (by kernel_rfl) Tryd.func4
    ⟨World.laidAll Tryd.prog os [("math/bits.deBruijn32tab", Rows.laid_math_bits_deBruijn32tab), ("math/bits.deBruijn64tab", Rows.laid_math_bits_deBruijn64tab), ("internal/strconv.uint64pow10", Rows.laid_internal_strconv_uint64pow10), ("unicode/utf8.acceptRanges", Rows.laid_unicode_utf8_acceptRanges), ("unicode/utf8.first", Rows.laid_unicode_utf8_first)], fun _ _ => 0, ⟨#[], #[zero_apiModes, zero_apiKey], []⟩, World.laidAll_os _ _ _, World.shaped_of_ZipB (by kernel_rfl) (by kernel_rfl), (Input.okWide_of_okWideB (base := 0) hok).1, (Input.okWide_of_okWideB hok).2,
      OpenSpec.preRow_of_cond 8 hx (by kernel_rfl) (fun k hk => by cases hk) (by kernel_rfl) (by rw [show Rows.otherLevelsRow.laid = [("math/bits.deBruijn32tab", Rows.laid_math_bits_deBruijn32tab), ("math/bits.deBruijn64tab", Rows.laid_math_bits_deBruijn64tab), ("internal/strconv.uint64pow10", Rows.laid_internal_strconv_uint64pow10), ("unicode/utf8.acceptRanges", Rows.laid_unicode_utf8_acceptRanges), ("unicode/utf8.first", Rows.laid_unicode_utf8_first)] from rfl, MakeChecks.laidMetH_plain _ _ _ (by kernel_rfl)]; exact laidMet_laidAll _ (by kernel_rfl) (by kernel_rfl)),
      by simp only [Assume.holds]; exact ⟨by simp, by simp, fun _ => Modest.zero, by simp, by simp⟩⟩ ?_
  intro W base args ds gs before hval0 hW _ hcond hreach hL _ _
  have hval : ∀ (j : Nat) t v, Tryd.f4.params[j]? = some t → args[j]? = some v → Value.okWide Tryd.prog W .any base t v := hval0
  have hW' := hW
  obtain ⟨p, q, hA0, hV, rfl, _, _⟩ := hW
  have hA : DataW.TrodAll enc Tryd.prog W 0 (fun _ => true) true Tryd.f4.params.toList args.toList ds p := hA0
  rw [Tryd.params4] at hA hval
  obtain ⟨v0, vs0, d0, ds0, p0, q0, hargs, rfl, rfl, h0, r0⟩ := trodAll_cons hA
  obtain ⟨v1, vs1, d1, ds1, p1, q1, rfl, rfl, rfl, h1, r1⟩ := trodAll_cons r0
  obtain ⟨rfl, rfl, rfl⟩ := trodAll_nil r1
  obtain rfl : args = #[v0, v1] := by cases args; simp_all
  obtain ⟨rfl, rfl⟩ := trodVars_none hV
  have lt0 : ∀ x ∈ p0, x.block < W.heap.size := by obtain ⟨m, hm⟩ := h0; exact DataW.trod_lt m _ _ _ hm
  obtain ⟨x0, c0, e0⟩ := op_apiModes (hval 0 23 v0 rfl rfl) h0
  have lt1 : ∀ x ∈ p1, x.block < W.heap.size := by obtain ⟨m, hm⟩ := h1; exact DataW.trod_lt m _ _ _ hm
  obtain ⟨x1, c1, e1⟩ := op_apiKeyI (hval 1 27 v1 rfl rfl) h1
  clear hA0 hval0
  refine ((fs_OtherLevels (Gl := fun _ => True) (fun _ _ _ _ => trivial) c0 c1).row (fixW_of5 hL) trivial ⟨_, _, rfl, e0, ⟨_, _, rfl, e1, rfl⟩⟩).mono fun e W' ⟨v, g', he, hr, bel⟩ => ?_
  obtain rfl : v = .bool true := hr
  subst he
  exact ⟨_, rfl, _, _, _, [], _, [], hW', trodAll_mk1 (shut_bool (show Tryd.prog.underlying 4 = some .bool by kernel_rfl) _), (trodAll_cons_mk (Below.trod seat_laidOut (by kernel_rfl) (of_decide_eq_true (by kernel_rfl)) h0 bel lt0) (trodAll_cons_mk (Below.trod seat_laidOut (by kernel_rfl) (of_decide_eq_true (by kernel_rfl)) h1 bel lt1) trodAll_mk0)), rfl, bel.frame _, fun h => by cases h⟩
theorem otherLevels_holds : Rows.OtherLevelsSaid :=
  OpenClaim.holds_of_cond 4 Tryd.f4 rfl rfl rfl rfl rfl rfl rfl ⟨rfl, rfl, rfl, rfl, rfl⟩ rfl rfl rfl rfl rfl (by kernel_rfl) Tryd.func4 (by kernel_rfl)
    (of_decide_eq_true (by kernel_rfl)) (by unfold Func.isWrapper; first | (rw [if_pos (by decide +kernel)]; kernel_rfl) | (rw [if_neg (by decide +kernel)]; exact ⟨rfl, rfl⟩))
    (fun os started H enc _ F => by rw [OpenClaim.pre_eq_preRow]; exact otherLevels_lifted os started H enc F)
theorem otherLevels_card : Rows.OtherLevelsCardSaid :=
  Claim7.holds_tied_plain_at .later [] [.data, .data, .data, .data, .pinned] true (true, "d624e823a66aede2ea6935ea24edc0b3b6ab35dd73e48fa07233969014ef5ca3") false otherLevels_holds (fun _ h => by cases h) (by kernel_rfl) (fun _ h => by cases h) otherLevels_row_tie rfl ⟨rfl, rfl⟩ (by kernel_rfl) rfl
    (fun f fn hf hfn => by
      obtain rfl : f = 4 := Option.some.inj ((show Tryd.prog.funcNamed "clavier/clavierlaw12.OtherLevels" = some 4 by kernel_rfl).symm.trans hf) |>.symm
      obtain rfl : fn = Tryd.f4 := (Option.some.inj (Tryd.func4.symm.trans hfn)).symm
      exact ⟨by kernel_rfl, fun j t ht => by
        rw [Tryd.params4] at ht
        have hm : t ∈ ([23, 27] : List Nat) := by simpa using Array.mem_of_getElem? ht
        have hall : (([23, 27] : List Nat).all fun u => !Tryd.prog.wantsStandIn u) = true := by kernel_rfl
        exact (show Tryd.prog.wantsStandIn t = false by simpa using List.all_eq_true.1 hall t hm)⟩)
    (by kernel_rfl)
#print axioms otherLevels_card
end Go.Proofs.YtbepihadhmfklaaDoor

