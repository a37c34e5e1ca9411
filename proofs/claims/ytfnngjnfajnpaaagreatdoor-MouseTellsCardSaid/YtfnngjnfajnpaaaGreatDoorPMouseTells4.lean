/- Part 4 of 4 of a proof: the given statement MouseTells, whatever the input that its row lets in. Conditions: those of the given row and card alone. -/
import Derived.Test.YtfnngjnfajnpaaaGreatDoorPMouseTells3
import Derived.Test.YtfnngjnfajnpaaaGreatDoorPMouseTellsAb13
import Derived.Test.YtfnngjnfajnpaaaGreatDoorPMouseTells2
import Derived.WalkKit
import Derived.ProofKit
import Derived.SizedLaws
import Derived.Test.YtfnngjnfajnpaaaGreatDoorRows
import Derived.LaidSub
import Derived.Lib.LaidTab
import Derived.Lib.ItoaNum
import Derived.MakeChecks
import Derived.Test.YtfnngjnfajnpaaaGreatDoorCards
import Derived.Test.YtfnngjnfajnpaaaGreatDoorTie
import Derived.Deep.DeepHandedRow
import Derived.JoinedCond
import Derived.OpenShut
import Derived.ShutString
import Derived.ChangeOld
import Derived.Below
import Derived.Lay
import Derived.LaidOnce
import Derived.SevenTiedAt
set_option linter.unusedVariables false
set_option linter.unusedSimpArgs false
set_option maxRecDepth 100000
namespace Go.Proofs.YtfnngjnfajnpaaaGreatDoor
open Go Go.Ab
def ir_clavierref16number : ICode :=
 (.seq
 (.reg [⟨some 2, none, .mov (.c (.int .i64 0))⟩] (some [0]))
 (.seq
 (.blk 0
 (.seq
 (.reg [⟨some 4, none, .mov (.t 0)⟩,
 ⟨some 5, none, .bin .eql .none (.t 4) (.c (.int .i64 0))⟩,
 ⟨some 3, none, .mov (.t 5)⟩] (some [0, 3]))
 (.cond (.t 3)
 (.seq
 (.reg [⟨some 2, none, .mov (.c (.int .i64 3))⟩] (some [2]))
 .ret)
 (.seq
 (.reg [⟨some 7, none, .mov (.t 0)⟩,
 ⟨some 8, none, .bin .leq .none (.t 7) (.c (.int .i64 3))⟩,
 ⟨some 6, none, .mov (.t 8)⟩] (some [0, 6]))
 (.cond (.t 6)
 (.seq
 (.reg [⟨some 9, none, .mov (.t 0)⟩,
 ⟨some 10, none, .bin .sub .none (.t 9) (.c (.int .i64 1))⟩,
 ⟨some 2, none, .mov (.t 10)⟩] (some [2]))
 .ret)
 (.seq
 (.reg [⟨some 12, none, .mov (.t 0)⟩,
 ⟨some 13, none, .bin .leq .none (.t 12) (.c (.int .i64 7))⟩,
 ⟨some 11, none, .mov (.t 13)⟩] (some [0, 11]))
 (.cond (.t 11)
 (.seq
 (.reg [⟨some 14, none, .mov (.t 0)⟩,
 ⟨some 15, none, .bin .add .none (.c (.int .i64 60)) (.t 14)⟩,
 ⟨some 2, none, .mov (.t 15)⟩] (some [2]))
 .ret)
 .skip)))))))
 (.seq
 (.reg [⟨some 16, none, .mov (.t 0)⟩,
 ⟨some 17, none, .bin .add .none (.c (.int .i64 120)) (.t 16)⟩,
 ⟨some 2, none, .mov (.t 17)⟩] (some [2]))
 .ret)))
theorem is_clavierref16number : IrOf Tryz.prog 25 18 ir_clavierref16number [.t 2] := ⟨_, Tryz.func25, rfl, by kernel_rfl, by kernel_rfl, by kernel_rfl⟩

def ir_clavierref16marks : ICode :=
 (.seq
 (.reg [⟨some 3, none, .box 23 (.t 1)⟩,
 ⟨some 4, none, .mov (.c (.int .i64 0))⟩] (some [0, 3]))
 (.seq
 (.reg [⟨some 5, none, .mov (.c (.int .i64 0))⟩] (some [0, 3, 5]))
 (.seq
 (.seq
 (.reg [⟨some 6, none, .fa 1 (.t 3)⟩,
 ⟨some 7, none, .ld none (.t 6)⟩,
 ⟨some 8, none, .bin .eql .none (.t 7) (.c (.int .i64 4))⟩] (some [0, 3, 5, 8]))
 (.cond (.t 8)
 (.reg [⟨some 5, none, .mov (.c (.int .i64 32))⟩] (some [0, 3, 5]))
 .skip))
 (.seq
 (.seq
 (.reg [⟨some 9, none, .mov (.t 0)⟩,
 ⟨some 10, none, .bin .neq .none (.t 9) (.c (.int .i64 9))⟩] (some [3, 5, 10]))
 (.cond (.t 10)
 (.reg [⟨some 11, none, .mov (.t 5)⟩,
 ⟨some 12, none, .fa 4 (.t 3)⟩,
 ⟨some 13, none, .ld none (.t 12)⟩,
 ⟨some 14, none, .bin .rem .none (.t 13) (.c (.int .i64 8))⟩,
 ⟨some 15, none, .bin .mul .none (.c (.int .i64 4)) (.t 14)⟩,
 ⟨some 16, none, .bin .add .none (.t 11) (.t 15)⟩,
 ⟨some 5, none, .mov (.t 16)⟩] (some [5]))
 .skip))
 (.seq
 (.reg [⟨some 17, none, .mov (.t 5)⟩,
 ⟨some 4, none, .mov (.t 17)⟩] (some [4]))
 .ret)))))
theorem is_clavierref16marks : IrOf Tryz.prog 26 18 ir_clavierref16marks [.t 4] := ⟨_, Tryz.func26, rfl, by kernel_rfl, by kernel_rfl, by kernel_rfl⟩

def ir_clavierref16Code : ICode :=
 (.seq
 (.reg [⟨some 3, none, .box 23 (.t 1)⟩,
 ⟨some 4, none, .mov (.c (.int .i64 0))⟩] (some [0, 3]))
 (.seq
 (.seq
 (.reg [⟨some 5, none, .ld (some 5) (.t 3)⟩,
 ⟨some 6, none, .call (.c (.fn (.func 20) [] [])) [(.t 5)]⟩,
 ⟨some 7, none, .un .not (.t 6)⟩] (some [0, 3, 7]))
 (.cond (.t 7)
 (.seq
 (.reg [⟨some 4, none, .mov (.c (.int .i64 0))⟩] (some [4]))
 .ret)
 .skip))
 (.seq
 (.drw [⟨⟨some 8, none, .fa 0 (.t 3)⟩, []⟩,
 ⟨⟨some 9, none, .ld none (.t 8)⟩, [0]⟩,
 ⟨⟨some 10, none, .call (.c (.fn (.func 25) [] [])) [(.t 9)]⟩, [1]⟩,
 ⟨⟨some 11, none, .mov (.t 0)⟩, []⟩,
 ⟨⟨some 12, none, .ld (some 5) (.t 3)⟩, []⟩,
 ⟨⟨some 13, none, .call (.c (.fn (.func 26) [] [])) [(.t 11), (.t 12)]⟩, [3, 4, 2]⟩,
 ⟨⟨some 14, none, .bin .add .none (.t 10) (.t 13)⟩, [2, 5]⟩]
 [⟨some 4, none, .mov (.t 14)⟩] (some [4]))
 .ret)))
theorem is_clavierref16Code : IrOf Tryz.prog 8 15 ir_clavierref16Code [.t 4] := ⟨_, Tryz.func8, rfl, by kernel_rfl, by kernel_rfl, by kernel_rfl⟩

def ir_clavierref16lost : ICode :=
 (.seq
 (.reg [⟨some 3, none, .box 23 (.t 1)⟩,
 ⟨some 4, none, .mov (.c (.int .i64 0))⟩] (some [0, 3]))
 (.seq
 (.seq
 (.reg [⟨some 5, none, .fa 1 (.t 3)⟩,
 ⟨some 6, none, .ld none (.t 5)⟩,
 ⟨some 7, none, .bin .eql .none (.t 6) (.c (.int .i64 3))⟩] (some [0, 3, 7]))
 (.cond (.t 7)
 (.seq
 (.reg [⟨some 8, none, .mov (.t 0)⟩,
 ⟨some 9, none, .ld (some 5) (.t 3)⟩,
 ⟨some 10, none, .call (.c (.fn (.func 26) [] [])) [(.t 8), (.t 9)]⟩,
 ⟨some 11, none, .bin .add .none (.c (.int .i64 3)) (.t 10)⟩,
 ⟨some 4, none, .mov (.t 11)⟩] (some [4]))
 .ret)
 .skip))
 (.seq
 (.reg [⟨some 12, none, .mov (.t 0)⟩,
 ⟨some 13, none, .ld (some 5) (.t 3)⟩,
 ⟨some 14, none, .call (.c (.fn (.func 8) [] [])) [(.t 12), (.t 13)]⟩,
 ⟨some 4, none, .mov (.t 14)⟩] (some [4]))
 .ret)))
theorem is_clavierref16lost : IrOf Tryz.prog 22 15 ir_clavierref16lost [.t 4] := ⟨_, Tryz.func22, rfl, by kernel_rfl, by kernel_rfl, by kernel_rfl⟩

/- clavier/clavierref16.nums -/
def ir_clavierref16nums_l0 : ICode :=
 (.seq
 (.seq
 (.reg [⟨some 14, none, .mov (.t 8)⟩,
 ⟨some 15, none, .mov (.t 2)⟩,
 ⟨some 16, none, .len (.t 15)⟩,
 ⟨some 17, none, .bin .lss .none (.t 14) (.t 16)⟩] (some [2, 7, 8, 17]))
 (.cond (.t 17)
 .skip
 (.exit 0)))
 (.seq
 (.blk 1
 (.drw [⟨⟨some 20, none, .fa 2 (.t 7)⟩, []⟩,
 ⟨⟨some 21, none, .ld none (.t 20)⟩, [0]⟩,
 ⟨⟨some 22, none, .mov (.t 2)⟩, []⟩,
 ⟨⟨some 23, none, .mov (.t 8)⟩, []⟩,
 ⟨⟨some 24, none, .ia 1 (.t 22) (.t 23)⟩, [2, 3]⟩,
 ⟨⟨some 25, none, .ld none (.t 24)⟩, [4]⟩,
 ⟨⟨some 26, none, .row 3 1 [(.t 25)]⟩, [5]⟩,
 ⟨⟨some 27, none, .row 44 1 [(.t 26)]⟩, [6]⟩,
 ⟨⟨some 28, none, .app 44 1 24 (.t 21) (.t 27)⟩, [1, 7]⟩]
 [⟨some 29, none, .fa 2 (.t 7)⟩,
 ⟨none, none, .st 1 (.t 29) (.t 28)⟩] (some [2, 7, 8])))
 (.reg [⟨some 18, none, .mov (.t 8)⟩,
 ⟨some 19, none, .bin .add .none (.t 18) (.c (.int .i64 1))⟩,
 ⟨some 8, none, .mov (.t 19)⟩] (some [2, 7, 8]))))
def ir_clavierref16nums : ICode :=
 (.seq
 (.reg [⟨some 6, none, .mov (.c .nils)⟩] (some [0, 1, 2]))
 (.seq
 (.reg [⟨some 11, none, .mov (.t 0)⟩,
 ⟨some 12, none, .mov (.t 1)⟩,
 ⟨some 13, none, .bld [(.int .i64 0), (.int .u8 0), .nils, (.str []), (.int .u8 0), (.str [])] [(0, 1, (.c (.int .i64 1))), (1, 1, (.t 11)), (4, 1, (.t 12))]⟩,
 ⟨some 7, none, .box 37 (.c (.agg [(.int .i64 0), (.int .u8 0), .nils, (.str []), (.int .u8 0), (.str [])]))⟩,
 ⟨none, none, .st 6 (.t 7) (.t 13)⟩] (some [2, 7]))
 (.seq
 (.seq
 (.reg [⟨some 8, none, .mov (.c (.int .i64 0))⟩] (some [2, 7, 8]))
 (.blk 0
 (.loop
 ir_clavierref16nums_l0)))
 (.seq
 (.reg [⟨some 31, none, .ld (some 6) (.t 7)⟩,
 ⟨some 32, none, .call (.c (.fn (.func 39) [] [])) [(.t 31)]⟩,
 ⟨some 30, none, .mov (.t 32)⟩,
 ⟨some 33, none, .ext (.t 30) 0⟩,
 ⟨some 34, none, .ext (.t 30) 1⟩,
 ⟨some 9, none, .mov (.t 33)⟩,
 ⟨some 10, none, .mov (.t 34)⟩] (some [9]))
 (.seq
 (.reg [⟨some 35, none, .mov (.t 9)⟩,
 ⟨some 6, none, .mov (.t 35)⟩] (some [6]))
 .ret)))))
theorem is_clavierref16nums : IrOf Tryz.prog 21 36 ir_clavierref16nums [.t 6] := ⟨_, Tryz.func21, rfl, by kernel_rfl, by kernel_rfl, by kernel_rfl⟩

def ir_clavierref16Encode : ICode :=
 (.seq
 (.reg [⟨some 5, none, .box 23 (.t 2)⟩,
 ⟨some 6, none, .mov (.c .nils)⟩] (some [0, 1, 5]))
 (.seq
 (.seq
 (.reg [⟨some 8, none, .ld (some 5) (.t 5)⟩,
 ⟨some 9, none, .call (.c (.fn (.func 20) [] [])) [(.t 8)]⟩,
 ⟨some 10, none, .un .not (.t 9)⟩] (some [0, 1, 5, 10]))
 (.cond (.t 10)
 (.seq
 (.reg [⟨some 6, none, .mov (.c .nils)⟩] (some [6]))
 .ret)
 .skip))
 (.seq
 (.seq
 (.reg [⟨some 11, none, .mov (.t 1)⟩] (some [0, 5, 11]))
 (.blk 0
 (.seq
 (.reg [⟨some 13, none, .bin .eql .none (.t 11) (.c (.int .i64 1006))⟩,
 ⟨some 12, none, .mov (.t 13)⟩] (some [0, 5, 11, 12]))
 (.cond (.t 12)
 (.seq
 (.seq
 (.reg [⟨some 14, none, .fa 1 (.t 5)⟩,
 ⟨some 15, none, .ld none (.t 14)⟩,
 ⟨some 16, none, .bin .eql .none (.t 15) (.c (.int .i64 3))⟩] (some [0, 5, 16]))
 (.cond (.t 16)
 (.seq
 (.drw [⟨⟨some 17, none, .mov (.t 0)⟩, []⟩,
 ⟨⟨some 18, none, .ld (some 5) (.t 5)⟩, []⟩,
 ⟨⟨some 19, none, .call (.c (.fn (.func 8) [] [])) [(.t 17), (.t 18)]⟩, [0, 1]⟩,
 ⟨⟨some 20, none, .fa 2 (.t 5)⟩, []⟩,
 ⟨⟨some 21, none, .ld none (.t 20)⟩, [3]⟩,
 ⟨⟨some 22, none, .fa 3 (.t 5)⟩, []⟩,
 ⟨⟨some 23, none, .ld none (.t 22)⟩, [5]⟩,
 ⟨⟨some 24, none, .row 3 1 [(.t 19), (.t 21), (.t 23)]⟩, [2, 4, 6]⟩,
 ⟨⟨some 25, none, .call (.c (.fn (.func 21) [] [])) [(.c (.int .u8 60)), (.c (.int .u8 109)), (.t 24)]⟩, [7, 2]⟩]
 [⟨some 6, none, .mov (.t 25)⟩] (some [6]))
 .ret)
 .skip))
 (.seq
 (.drw [⟨⟨some 26, none, .mov (.t 0)⟩, []⟩,
 ⟨⟨some 27, none, .ld (some 5) (.t 5)⟩, []⟩,
 ⟨⟨some 28, none, .call (.c (.fn (.func 8) [] [])) [(.t 26), (.t 27)]⟩, [0, 1]⟩,
 ⟨⟨some 29, none, .fa 2 (.t 5)⟩, []⟩,
 ⟨⟨some 30, none, .ld none (.t 29)⟩, [3]⟩,
 ⟨⟨some 31, none, .fa 3 (.t 5)⟩, []⟩,
 ⟨⟨some 32, none, .ld none (.t 31)⟩, [5]⟩,
 ⟨⟨some 33, none, .row 3 1 [(.t 28), (.t 30), (.t 32)]⟩, [2, 4, 6]⟩,
 ⟨⟨some 34, none, .call (.c (.fn (.func 21) [] [])) [(.c (.int .u8 60)), (.c (.int .u8 77)), (.t 33)]⟩, [7, 2]⟩]
 [⟨some 6, none, .mov (.t 34)⟩] (some [6]))
 .ret))
 (.seq
 (.reg [⟨some 36, none, .bin .eql .none (.t 11) (.c (.int .i64 1015))⟩,
 ⟨some 35, none, .mov (.t 36)⟩] (some [0, 5, 11, 35]))
 (.cond (.t 35)
 (.seq
 (.drw [⟨⟨some 37, none, .mov (.t 0)⟩, []⟩,
 ⟨⟨some 38, none, .ld (some 5) (.t 5)⟩, []⟩,
 ⟨⟨some 39, none, .call (.c (.fn (.func 22) [] [])) [(.t 37), (.t 38)]⟩, [0, 1]⟩,
 ⟨⟨some 40, none, .bin .add .none (.c (.int .i64 32)) (.t 39)⟩, [2]⟩,
 ⟨⟨some 41, none, .fa 2 (.t 5)⟩, []⟩,
 ⟨⟨some 42, none, .ld none (.t 41)⟩, [4]⟩,
 ⟨⟨some 43, none, .fa 3 (.t 5)⟩, []⟩,
 ⟨⟨some 44, none, .ld none (.t 43)⟩, [6]⟩,
 ⟨⟨some 45, none, .row 3 1 [(.t 40), (.t 42), (.t 44)]⟩, [3, 5, 7]⟩,
 ⟨⟨some 46, none, .call (.c (.fn (.func 21) [] [])) [(.c (.int .u8 0)), (.c (.int .u8 77)), (.t 45)]⟩, [8, 2]⟩]
 [⟨some 6, none, .mov (.t 46)⟩] (some [6]))
 .ret)
 (.seq
 (.reg [⟨some 48, none, .bin .eql .none (.t 11) (.c (.int .i64 1005))⟩,
 ⟨some 47, none, .mov (.t 48)⟩] (some [0, 5, 47]))
 (.cond (.t 47)
 (.seq
 (.seq
 (.reg [⟨some 49, none, .fa 2 (.t 5)⟩,
 ⟨some 50, none, .ld none (.t 49)⟩,
 ⟨some 51, none, .bin .gtr .none (.t 50) (.c (.int .i64 2015))⟩,
 ⟨some 52, none, .mov (.t 51)⟩,
 ⟨some 53, some (52, false), .fa 3 (.t 5)⟩,
 ⟨some 54, some (52, false), .ld none (.t 53)⟩,
 ⟨some 55, some (52, false), .bin .gtr .none (.t 54) (.c (.int .i64 2015))⟩,
 ⟨some 56, none, .pick (.t 52) (.c (.bool true)) (.t 55)⟩] (some [0, 5, 56]))
 (.cond (.t 56)
 (.seq
 (.reg [⟨some 6, none, .mov (.c .nils)⟩] (some [6]))
 .ret)
 .skip))
 (.seq
 (.reg [⟨some 57, none, .row 5 1 [(.c (.int .u8 27)), (.c (.int .u8 91)), (.c (.int .u8 77))]⟩,
 ⟨some 58, none, .cvs (.t 57)⟩,
 ⟨some 7, none, .mov (.t 58)⟩] (some [0, 5, 7]))
 (.seq
 (.reg [⟨some 59, none, .mov (.t 7)⟩,
 ⟨some 60, none, .mov (.t 0)⟩,
 ⟨some 61, none, .ld (some 5) (.t 5)⟩,
 ⟨some 62, none, .call (.c (.fn (.func 22) [] [])) [(.t 60), (.t 61)]⟩,
 ⟨some 63, none, .bin .add .none (.c (.int .i64 32)) (.t 62)⟩,
 ⟨some 64, none, .call (.c (.fn (.func 23) [] [])) [(.t 63)]⟩,
 ⟨some 65, none, .app 5 1 1 (.t 59) (.t 64)⟩,
 ⟨some 7, none, .mov (.t 65)⟩] (some [5, 7]))
 (.seq
 (.reg [⟨some 66, none, .mov (.t 7)⟩,
 ⟨some 67, none, .fa 2 (.t 5)⟩,
 ⟨some 68, none, .ld none (.t 67)⟩,
 ⟨some 69, none, .bin .add .none (.c (.int .i64 32)) (.t 68)⟩,
 ⟨some 70, none, .call (.c (.fn (.func 23) [] [])) [(.t 69)]⟩,
 ⟨some 71, none, .app 5 1 1 (.t 66) (.t 70)⟩,
 ⟨some 7, none, .mov (.t 71)⟩] (some [5, 7]))
 (.seq
 (.reg [⟨some 72, none, .mov (.t 7)⟩,
 ⟨some 73, none, .fa 3 (.t 5)⟩,
 ⟨some 74, none, .ld none (.t 73)⟩,
 ⟨some 75, none, .bin .add .none (.c (.int .i64 32)) (.t 74)⟩,
 ⟨some 76, none, .call (.c (.fn (.func 23) [] [])) [(.t 75)]⟩,
 ⟨some 77, none, .app 5 1 1 (.t 72) (.t 76)⟩,
 ⟨some 7, none, .mov (.t 77)⟩] (some [7]))
 (.seq
 (.reg [⟨some 78, none, .mov (.t 7)⟩,
 ⟨some 6, none, .mov (.t 78)⟩] (some [6]))
 .ret))))))
 .skip))))))))
 (.seq
 (.seq
 (.reg [⟨some 79, none, .fa 2 (.t 5)⟩,
 ⟨some 80, none, .ld none (.t 79)⟩,
 ⟨some 81, none, .bin .gtr .none (.t 80) (.c (.int .i64 223))⟩,
 ⟨some 82, none, .mov (.t 81)⟩,
 ⟨some 83, some (82, false), .fa 3 (.t 5)⟩,
 ⟨some 84, some (82, false), .ld none (.t 83)⟩,
 ⟨some 85, some (82, false), .bin .gtr .none (.t 84) (.c (.int .i64 223))⟩,
 ⟨some 86, none, .pick (.t 82) (.c (.bool true)) (.t 85)⟩] (some [0, 5, 86]))
 (.cond (.t 86)
 (.seq
 (.reg [⟨some 6, none, .mov (.c .nils)⟩] (some [6]))
 .ret)
 .skip))
 (.seq
 (.drw [⟨⟨some 87, none, .mov (.t 0)⟩, []⟩,
 ⟨⟨some 88, none, .ld (some 5) (.t 5)⟩, []⟩,
 ⟨⟨some 89, none, .call (.c (.fn (.func 22) [] [])) [(.t 87), (.t 88)]⟩, [0, 1]⟩,
 ⟨⟨some 90, none, .bin .add .none (.c (.int .i64 32)) (.t 89)⟩, [2]⟩,
 ⟨⟨some 91, none, .cvi .u8 (.t 90)⟩, [3]⟩,
 ⟨⟨some 92, none, .fa 2 (.t 5)⟩, []⟩,
 ⟨⟨some 93, none, .ld none (.t 92)⟩, [5]⟩,
 ⟨⟨some 94, none, .bin .add .none (.c (.int .i64 32)) (.t 93)⟩, [6]⟩,
 ⟨⟨some 95, none, .cvi .u8 (.t 94)⟩, [7]⟩,
 ⟨⟨some 96, none, .fa 3 (.t 5)⟩, []⟩,
 ⟨⟨some 97, none, .ld none (.t 96)⟩, [9]⟩,
 ⟨⟨some 98, none, .bin .add .none (.c (.int .i64 32)) (.t 97)⟩, [10]⟩,
 ⟨⟨some 99, none, .cvi .u8 (.t 98)⟩, [11]⟩,
 ⟨⟨some 100, none, .row 5 1 [(.c (.int .u8 27)), (.c (.int .u8 91)), (.c (.int .u8 77)), (.t 91), (.t 95), (.t 99)]⟩, [4, 8, 12]⟩]
 [⟨some 6, none, .mov (.t 100)⟩] (some [6]))
 .ret)))))
theorem is_clavierref16Encode : IrOf Tryz.prog 6 101 ir_clavierref16Encode [.t 6] := ⟨_, Tryz.func6, rfl, by kernel_rfl, by kernel_rfl, by kernel_rfl⟩

def ir_clavierlaw16MouseTells : ICode :=
 (.seq
 (.reg [⟨some 5, none, .box 23 (.t 2)⟩,
 ⟨some 6, none, .mov (.c (.bool false))⟩] (some [0, 1, 5]))
 (.seq
 (.reg [⟨some 8, none, .call (.c (.fn (.func 4) [] [])) []⟩,
 ⟨some 7, none, .mov (.t 8)⟩] (some [0, 1, 5, 7]))
 (.seq
 (.drw [⟨⟨some 9, none, .mov (.t 7)⟩, []⟩,
 ⟨⟨some 10, none, .mov (.t 9)⟩, [0]⟩,
 ⟨⟨some 11, some (10, true), .mov (.t 0)⟩, [1]⟩,
 ⟨⟨some 12, some (10, true), .mov (.t 1)⟩, [1]⟩,
 ⟨⟨some 13, some (10, true), .ld (some 5) (.t 5)⟩, [1]⟩,
 ⟨⟨some 14, some (10, true), .call (.c (.fn (.func 5) [] [])) [(.t 11), (.t 12), (.t 13)]⟩, [2, 3, 4, 1, 1]⟩,
 ⟨⟨some 15, some (10, true), .b2s (.t 14)⟩, [5, 1]⟩,
 ⟨⟨some 16, some (10, true), .mov (.t 0)⟩, [1]⟩,
 ⟨⟨some 17, some (10, true), .mov (.t 1)⟩, [1]⟩,
 ⟨⟨some 18, some (10, true), .ld (some 5) (.t 5)⟩, [1]⟩,
 ⟨⟨some 19, some (10, true), .call (.c (.fn (.func 6) [] [])) [(.t 16), (.t 17), (.t 18)]⟩, [7, 8, 9, 5, 1]⟩,
 ⟨⟨some 20, some (10, true), .b2s (.t 19)⟩, [10, 1]⟩,
 ⟨⟨some 21, some (10, true), .bin .eql .none (.t 15) (.t 20)⟩, [6, 11, 1]⟩,
 ⟨⟨some 22, none, .pick (.t 10) (.t 21) (.c (.bool false))⟩, [1, 12]⟩,
 ⟨⟨some 23, none, .mov (.t 22)⟩, [13, 10]⟩,
 ⟨⟨some 24, some (23, true), .mov (.t 0)⟩, [14]⟩,
 ⟨⟨some 25, some (23, true), .ld (some 5) (.t 5)⟩, [14]⟩,
 ⟨⟨some 26, some (23, true), .call (.c (.fn (.func 7) [] [])) [(.t 24), (.t 25)]⟩, [15, 16, 14, 14]⟩,
 ⟨⟨some 27, some (23, true), .mov (.t 0)⟩, [14]⟩,
 ⟨⟨some 28, some (23, true), .ld (some 5) (.t 5)⟩, [14]⟩,
 ⟨⟨some 29, some (23, true), .call (.c (.fn (.func 8) [] [])) [(.t 27), (.t 28)]⟩, [18, 19, 17, 14]⟩,
 ⟨⟨some 30, some (23, true), .bin .eql .none (.t 26) (.t 29)⟩, [17, 20, 14]⟩,
 ⟨⟨some 31, none, .pick (.t 23) (.t 30) (.c (.bool false))⟩, [14, 21]⟩]
 [⟨some 6, none, .mov (.t 31)⟩] (some [6]))
 .ret)))
theorem is_clavierlaw16MouseTells : IrOf Tryz.prog 3 32 ir_clavierlaw16MouseTells [.t 6] := ⟨_, Tryz.func3, rfl, by kernel_rfl, by kernel_rfl, by kernel_rfl⟩

theorem fs_rNum16 {Gl : Gh → Prop} (hst : Stays Gl) {n : Int} (h0 : 0 ≤ n) (h1 : n ≤ 1000) : FS Tryz.prog Gl 25 [.int .i64 n] [] [] (.int .i64 (numM n)) [] [] := by
  refine FS.of hm hst is_clavierref16number (by simp) fun γ hγ hfr => ?_
  have hz : numM n = if n = 0 then 3 else if n ≤ 3 then n - 1 else if n ≤ 7 then 60 + n else 120 + n := rfl
  have w1 : IntKind.i64.wrap (n - 1) = n - 1 := by rw [IntKind.wrap_i64]; omega
  have w2 : IntKind.i64.wrap (60 + n) = 60 + n := by rw [IntKind.wrap_i64]; omega
  have w3 : IntKind.i64.wrap (120 + n) = 120 + n := by rw [IntKind.wrap_i64]; omega
  (generalize hQ : (fun (ex : Ex) (_ _ : Nat) (s : St) => _) = Q; unfold ir_clavierref16number)
  by_cases c0 : n = 0
  · have q0 : (n == 0) = true := beq_iff_eq.2 c0
    simp +contextual (maxSteps := 1000000) only [q0, go_sem, reduceCtorEq, ↓reduceIte, Nat.reduceAdd, Nat.reduceEqDiff, Nat.reduceLeDiff, Nat.reduceMul, Nat.reduceBEq, Int.reduceBEq, Int.reduceBNe, Int.reduceLT, Int.reduceLE, Int.reduceGT, Int.reduceGE, Int.reduceToNat]
    rw [← hQ, hz, if_pos c0]
    exact ⟨trivial, Ret.flat rfl rfl⟩
  · have q0 : (n == 0) = false := beq_eq_false_iff_ne.2 c0
    by_cases c1 : n ≤ 3
    · have q1 : decide (n ≤ 3) = true := decide_eq_true c1
      simp +contextual (maxSteps := 1000000) only [q0, q1, w1, go_sem, reduceCtorEq, ↓reduceIte, Nat.reduceAdd, Nat.reduceEqDiff, Nat.reduceLeDiff, Nat.reduceMul, Nat.reduceBEq, Int.reduceBEq, Int.reduceBNe, Int.reduceLT, Int.reduceLE, Int.reduceGT, Int.reduceGE, Int.reduceToNat]
      rw [← hQ, hz, if_neg c0, if_pos c1]
      exact ⟨trivial, Ret.flat rfl rfl⟩
    · have q1 : decide (n ≤ 3) = false := decide_eq_false c1
      by_cases c2 : n ≤ 7
      · have q2 : decide (n ≤ 7) = true := decide_eq_true c2
        simp +contextual (maxSteps := 1000000) only [q0, q1, q2, w2, go_sem, reduceCtorEq, ↓reduceIte, Nat.reduceAdd, Nat.reduceEqDiff, Nat.reduceLeDiff, Nat.reduceMul, Nat.reduceBEq, Int.reduceBEq, Int.reduceBNe, Int.reduceLT, Int.reduceLE, Int.reduceGT, Int.reduceGE, Int.reduceToNat]
        rw [← hQ, hz, if_neg c0, if_neg c1, if_pos c2]
        exact ⟨trivial, Ret.flat rfl rfl⟩
      · have q2 : decide (n ≤ 7) = false := decide_eq_false c2
        simp +contextual (maxSteps := 1000000) only [q0, q1, q2, w3, go_sem, reduceCtorEq, ↓reduceIte, Nat.reduceAdd, Nat.reduceEqDiff, Nat.reduceLeDiff, Nat.reduceMul, Nat.reduceBEq, Int.reduceBEq, Int.reduceBNe, Int.reduceLT, Int.reduceLE, Int.reduceGT, Int.reduceGE, Int.reduceToNat]
        rw [← hQ, hz, if_neg c0, if_neg c1, if_neg c2]
        exact ⟨trivial, Ret.flat rfl rfl⟩
theorem fs_rMarks16 {Gl : Gh → Prop} (hst : Stays Gl) {mode : Int} {e : Mo} (h0 : 0 ≤ e.mods) (h1 : e.mods ≤ 255) : FS Tryz.prog Gl 26 [.int .i64 mode, .agg (moAV e)] [] [] (.int .i64 (marksM mode e)) [] [] := by
  refine FS.of hm hst is_clavierref16marks (by simp) fun γ hγ hfr => ?_
  have hmo : moAV e = [.int .i64 e.button, .int .i64 e.type, .int .i64 e.x, .int .i64 e.y, .int .i64 e.mods] := rfl
  have hz : marksM mode e = (if e.type = 4 then 32 else 0) + (if mode = 9 then 0 else 4 * (e.mods % 8)) := rfl
  have w1 : e.mods.tmod 8 = e.mods % 8 := Int.tmod_eq_emod_of_nonneg h0
  have w2 : IntKind.i64.wrap (4 * (e.mods % 8)) = 4 * (e.mods % 8) := by rw [IntKind.wrap_i64]; omega
  have w3 : IntKind.i64.wrap (32 + 4 * (e.mods % 8)) = 32 + 4 * (e.mods % 8) := by rw [IntKind.wrap_i64]; omega
  have w4 : IntKind.i64.wrap (0 + 4 * (e.mods % 8)) = 0 + 4 * (e.mods % 8) := by rw [IntKind.wrap_i64]; omega
  simp only [hmo]
  (generalize hQ : (fun (ex : Ex) (_ _ : Nat) (s : St) => _) = Q; unfold ir_clavierref16marks)
  by_cases t4 : e.type = 4
  · have q4 : (e.type == 4) = true := beq_iff_eq.2 t4
    by_cases h9 : mode = 9
    · have q : (mode != 9) = false := by rw [h9]; rfl
      simp +contextual (maxSteps := 1000000) only [q4, q, go_sem, reduceCtorEq, ↓reduceIte, Nat.reduceAdd, Nat.reduceEqDiff, Nat.reduceLeDiff, Nat.reduceMul, Nat.reduceBEq, Int.reduceBEq, Int.reduceBNe, Int.reduceLT, Int.reduceLE, Int.reduceGT, Int.reduceGE, Int.reduceToNat]
      rw [← hQ, hz, if_pos t4, if_pos h9]
      exact ⟨trivial, Ret.flat rfl rfl⟩
    · have q : (mode != 9) = true := bne_iff_ne.2 h9
      simp +contextual (maxSteps := 1000000) only [q4, q, w1, w2, w3, go_sem, reduceCtorEq, ↓reduceIte, Nat.reduceAdd, Nat.reduceEqDiff, Nat.reduceLeDiff, Nat.reduceMul, Nat.reduceBEq, Int.reduceBEq, Int.reduceBNe, Int.reduceLT, Int.reduceLE, Int.reduceGT, Int.reduceGE, Int.reduceToNat]
      refine ⟨by decide, ?_⟩
      rw [← hQ, hz, if_pos t4, if_neg h9]
      exact ⟨trivial, Ret.flat rfl rfl⟩
  · have q4 : (e.type == 4) = false := beq_eq_false_iff_ne.2 t4
    by_cases h9 : mode = 9
    · have q : (mode != 9) = false := by rw [h9]; rfl
      simp +contextual (maxSteps := 1000000) only [q4, q, go_sem, reduceCtorEq, ↓reduceIte, Nat.reduceAdd, Nat.reduceEqDiff, Nat.reduceLeDiff, Nat.reduceMul, Nat.reduceBEq, Int.reduceBEq, Int.reduceBNe, Int.reduceLT, Int.reduceLE, Int.reduceGT, Int.reduceGE, Int.reduceToNat]
      rw [← hQ, hz, if_neg t4, if_pos h9]
      exact ⟨trivial, Ret.flat rfl rfl⟩
    · have q : (mode != 9) = true := bne_iff_ne.2 h9
      simp +contextual (maxSteps := 1000000) only [q4, q, w1, w2, w4, go_sem, reduceCtorEq, ↓reduceIte, Nat.reduceAdd, Nat.reduceEqDiff, Nat.reduceLeDiff, Nat.reduceMul, Nat.reduceBEq, Int.reduceBEq, Int.reduceBNe, Int.reduceLT, Int.reduceLE, Int.reduceGT, Int.reduceGE, Int.reduceToNat]
      refine ⟨by decide, ?_⟩
      rw [← hQ, hz, if_neg t4, if_neg h9]
      exact ⟨trivial, Ret.flat rfl rfl⟩
theorem fs_rCode16 {Gl : Gh → Prop} (hst : Stays Gl) {mode : Int} {e : Mo} : FS Tryz.prog Gl 8 [.int .i64 mode, .agg (moAV e)] [] [] (.int .i64 (codeM mode e)) [] [] := by
  refine FS.of hm hst is_clavierref16Code (by simp) fun γ hγ hfr => ?_
  have hmo : moAV e = [.int .i64 e.button, .int .i64 e.type, .int .i64 e.x, .int .i64 e.y, .int .i64 e.mods] := rfl
  have hz : codeM mode e = if mayM e = true then numM e.button + marksM mode e else 0 := rfl
  have c1 := fs_rMMay (Gl := Gl) hst (e := e)
  rw [hmo] at c1
  simp only [hmo]
  (generalize hQ : (fun (ex : Ex) (_ _ : Nat) (s : St) => _) = Q; unfold ir_clavierref16Code)
  simp +contextual (maxSteps := 1000000) only [go_sem, reduceCtorEq, ↓reduceIte, Nat.reduceAdd, Nat.reduceEqDiff, Nat.reduceLeDiff, Nat.reduceMul, Nat.reduceBEq, Int.reduceBEq, Int.reduceBNe, Int.reduceLT, Int.reduceLE, Int.reduceGT, Int.reduceGE, Int.reduceToNat]
  (refine CallP.pure (c1) (fun _ => rfl) ?_; simp +contextual (maxSteps := 1000000) only [go_sem, reduceCtorEq, ↓reduceIte, Nat.reduceAdd, Nat.reduceEqDiff, Nat.reduceLeDiff, Nat.reduceMul, Nat.reduceBEq, Int.reduceBEq, Int.reduceBNe, Int.reduceLT, Int.reduceLE, Int.reduceGT, Int.reduceGE, Int.reduceToNat])
  cases hM : mayM e with
  | false =>
    simp +contextual (maxSteps := 1000000) only [hM, go_sem, reduceCtorEq, ↓reduceIte, Nat.reduceAdd, Nat.reduceEqDiff, Nat.reduceLeDiff, Nat.reduceMul, Nat.reduceBEq, Int.reduceBEq, Int.reduceBNe, Int.reduceLT, Int.reduceLE, Int.reduceGT, Int.reduceGE, Int.reduceToNat]
    rw [← hQ, hz, hM]
    exact ⟨trivial, Ret.flat rfl rfl⟩
  | true =>
    have M := mayM_iff.1 hM
    have hk := M.kd
    have c2 := fs_rNum16 (Gl := Gl) hst (n := e.button) (by omega) (by omega)
    have c3 := fs_rMarks16 (Gl := Gl) hst (mode := mode) (e := e) M.m0 M.m1
    have r1 := num_range M
    have r2 := marks_range mode e
    have hw : IntKind.i64.wrap (numM e.button + marksM mode e) = numM e.button + marksM mode e := by rw [IntKind.wrap_i64]; omega
    rw [hmo] at c3
    simp +contextual (maxSteps := 1000000) only [hM, go_sem, reduceCtorEq, ↓reduceIte, Nat.reduceAdd, Nat.reduceEqDiff, Nat.reduceLeDiff, Nat.reduceMul, Nat.reduceBEq, Int.reduceBEq, Int.reduceBNe, Int.reduceLT, Int.reduceLE, Int.reduceGT, Int.reduceGE, Int.reduceToNat]
    refine DCall.new c2 ?_
    simp +contextual (maxSteps := 1000000) only [go_sem, reduceCtorEq, ↓reduceIte, Nat.reduceAdd, Nat.reduceEqDiff, Nat.reduceLeDiff, Nat.reduceMul, Nat.reduceBEq, Int.reduceBEq, Int.reduceBNe, Int.reduceLT, Int.reduceLE, Int.reduceGT, Int.reduceGE, Int.reduceToNat]
    refine DCall.new c3 ?_
    simp +contextual (maxSteps := 1000000) only [hw, go_sem, reduceCtorEq, ↓reduceIte, Nat.reduceAdd, Nat.reduceEqDiff, Nat.reduceLeDiff, Nat.reduceMul, Nat.reduceBEq, Int.reduceBEq, Int.reduceBNe, Int.reduceLT, Int.reduceLE, Int.reduceGT, Int.reduceGE, Int.reduceToNat]
    rw [← hQ, hz, hM, if_pos rfl]
    exact ⟨trivial, Ret.flat rfl rfl⟩
theorem fs_rLost16 {Gl : Gh → Prop} (hst : Stays Gl) {mode : Int} {e : Mo} (M : MayM e) : FS Tryz.prog Gl 22 [.int .i64 mode, .agg (moAV e)] [] [] (.int .i64 (blindM mode e)) [] [] := by
  refine FS.of hm hst is_clavierref16lost (by simp) fun γ hγ hfr => ?_
  have hmo : moAV e = [.int .i64 e.button, .int .i64 e.type, .int .i64 e.x, .int .i64 e.y, .int .i64 e.mods] := rfl
  have hz : blindM mode e = if e.type = 3 then 3 + marksM mode e else codeM mode e := rfl
  have c1 := fs_rCode16 (Gl := Gl) hst (mode := mode) (e := e)
  have c2 := fs_rMarks16 (Gl := Gl) hst (mode := mode) (e := e) M.m0 M.m1
  have r2 := marks_range mode e
  have hw : IntKind.i64.wrap (3 + marksM mode e) = 3 + marksM mode e := by rw [IntKind.wrap_i64]; omega
  rw [hmo] at c1 c2
  simp only [hmo]
  (generalize hQ : (fun (ex : Ex) (_ _ : Nat) (s : St) => _) = Q; unfold ir_clavierref16lost)
  by_cases t3 : e.type = 3
  · have q3 : (e.type == 3) = true := beq_iff_eq.2 t3
    simp +contextual (maxSteps := 1000000) only [q3, go_sem, reduceCtorEq, ↓reduceIte, Nat.reduceAdd, Nat.reduceEqDiff, Nat.reduceLeDiff, Nat.reduceMul, Nat.reduceBEq, Int.reduceBEq, Int.reduceBNe, Int.reduceLT, Int.reduceLE, Int.reduceGT, Int.reduceGE, Int.reduceToNat]
    (refine CallP.pure (c2) (fun _ => rfl) ?_; simp +contextual (maxSteps := 1000000) only [hw, go_sem, reduceCtorEq, ↓reduceIte, Nat.reduceAdd, Nat.reduceEqDiff, Nat.reduceLeDiff, Nat.reduceMul, Nat.reduceBEq, Int.reduceBEq, Int.reduceBNe, Int.reduceLT, Int.reduceLE, Int.reduceGT, Int.reduceGE, Int.reduceToNat])
    rw [← hQ, hz, if_pos t3]
    exact ⟨trivial, Ret.flat rfl rfl⟩
  · have q3 : (e.type == 3) = false := beq_eq_false_iff_ne.2 t3
    simp +contextual (maxSteps := 1000000) only [q3, go_sem, reduceCtorEq, ↓reduceIte, Nat.reduceAdd, Nat.reduceEqDiff, Nat.reduceLeDiff, Nat.reduceMul, Nat.reduceBEq, Int.reduceBEq, Int.reduceBNe, Int.reduceLT, Int.reduceLE, Int.reduceGT, Int.reduceGE, Int.reduceToNat]
    (refine CallP.pure (c1) (fun _ => rfl) ?_; simp +contextual (maxSteps := 1000000) only [go_sem, reduceCtorEq, ↓reduceIte, Nat.reduceAdd, Nat.reduceEqDiff, Nat.reduceLeDiff, Nat.reduceMul, Nat.reduceBEq, Int.reduceBEq, Int.reduceBNe, Int.reduceLT, Int.reduceLE, Int.reduceGT, Int.reduceGE, Int.reduceToNat])
    rw [← hQ, hz, if_neg t3]
    exact ⟨trivial, Ret.flat rfl rfl⟩
theorem fs_rPutX {Gl : Gh → Prop} (hst : Stays Gl) {s : Sq} (hp0 : 0 ≤ s.pr) (hp1 : s.pr < 256) (hf0 : 0 ≤ s.fi) (hf1 : s.fi < 256) (h : s.sm) : FS Tryz.prog Gl 39 [.agg s.c] [] [] (.tup [.sl none 1 (bytesAV (putX s)), .int .i64 (mayP s)]) [] [] := by
  have := fs_rPut (Gl := Gl) hst hp0 hp1 hf0 hf1 h
  exact FSR.res this fun r H T ⟨h1, h2, h3⟩ => ⟨_, fun f => by
    subst h1
    have hrn : Ab.rn f (putV s) = putV s := by unfold putV; split <;> rfl
    simp only [Ab.rn, rnL, hrn]
    exact RepLe.tupL ⟨putV_le s, RepLe.refl _, trivial⟩, rfl, h2, h3⟩
set_option maxHeartbeats 1000000 in
theorem fs_rNumsX {Gl : Gh → Prop} (hst : Stays Gl) {pr fi : Int} {nums : List Int} {tn : Option Nm} (hn : nums.length ≤ 1000) (hp0 : 0 ≤ pr) (hp1 : pr < 256) (hf0 : 0 ≤ fi) (hf1 : fi < 256) : FS Tryz.prog Gl 21 [.int .u8 pr, .int .u8 fi, .sl tn 1 (intsAV nums)] [] [] (.sl none 1 (bytesAV (putX (numSq 1 pr fi nums)))) [] [] := by
  refine FS.ofW hm hst is_clavierref16nums rfl (by simp) fun γ hγ hfr => ?_
  have c1 := fs_rPutX (Gl := Gl) hst (s := numSq 1 pr fi nums) hp0 hp1 hf0 hf1 ⟨by simp [numSq]; omega, by simp [numSq], by simp [numSq], by simp [numSq]⟩
  have hc : (numSq 1 pr fi nums).c = [.int .i64 1, .int .u8 pr, .sl none 1 (parsAV (nums.map fun n => [n])), .str [], .int .u8 fi, .str []] := rfl
  rw [hc] at c1
  (generalize hQ : (fun (ex : Ex) (_ _ : Nat) (s : St) => _) = Q; unfold ir_clavierref16nums)
  simp +contextual (maxSteps := 1000000) only [go_sem, reduceCtorEq, ↓reduceIte, Nat.reduceAdd, Nat.reduceEqDiff, Nat.reduceLeDiff, Nat.reduceMul, Nat.reduceBEq, Int.reduceBEq, Int.reduceBNe, Int.reduceLT, Int.reduceLE, Int.reduceGT, Int.reduceGE, Int.reduceToNat]
  refine kLoop_ix (fun q : Nat × Option Nm => ⟨lf [(2, .sl tn 1 (intsAV nums)), (7, .ptr (γ, 4, 0) 0), (8, .int .i64 q.1)], [((γ, 4, 0), .cells [.int .i64 1, .int .u8 pr, sv q.2 1 (parsAV ((nums.take q.1).map fun n => [n])), .str [], .int .u8 fi, .str []])], fun x => q.2 = some x⟩)
    (fun q => q.1 ≤ nums.length ∧ (q.2 = none → q.1 = 0)) (fun q => nums.length - q.1) 0 (0, none) ?_ ⟨by simp, by simp⟩ ?_
  · refine Wk.perm' ?_ (fun p hp => hp) (fun t ht => by cases ht)
    simp only [lfOK, intsAV_length]
    repeat' first | exact AVle.refl _ _ | exact trivial | refine And.intro ?_ ?_ | exact AVle.int (by simp only [IntKind.wrap_i64]; omega)
  rintro γ' ⟨i, tk⟩ hf ⟨hi, htk⟩
  simp only at hi htk hf
  generalize hQ' : kIt _ _ _ _ _ = Q'
  unfold ir_clavierref16nums_l0
  by_cases hlt : i < nums.length
  · have hd : decide ((i : Int) < (nums.length : Int)) = true := decide_eq_true (by omega)
    have hg1 : (intsAV nums).getD i [] = [.int .i64 nums[i]] := intsAV_get hlt
    have hw : IntKind.i64.wrap ((i : Int) + 1) = ((i + 1 : Nat) : Int) := by rw [IntKind.wrap_i64]; omega
    have hsn : parsAV ((nums.take (i + 1)).map fun n => [n]) = parsAV ((nums.take i).map fun n => [n]) ++ [[intsV [nums[i]]]] := by
      rw [List.take_add_one, List.getElem?_eq_getElem hlt, List.map_append]
      unfold parsAV
      rw [List.map_append]; rfl
    have hln : (parsAV ((nums.take i).map fun n => [n])).length = i := by rw [parsAV_length, List.length_map, List.length_take]; omega
    cases tk with
    | none =>
      obtain rfl := htk rfl
      have hd0 : decide (0 < (nums.length : Int)) = true := decide_eq_true (by omega)
      have hg0 : (intsAV nums).getD 0 [] = [.int .i64 nums[0]] := hg1
      simp +contextual (maxSteps := 1000000) only [hd0, hg0, Int.toNat_natCast, intsAV_length, Int.toNat_zero, go_sem, reduceCtorEq, ↓reduceIte, Nat.reduceAdd, Nat.reduceEqDiff, Nat.reduceLeDiff, Nat.reduceMul, Nat.reduceBEq, Int.reduceBEq, Int.reduceBNe, Int.reduceLT, Int.reduceLE, Int.reduceGT, Int.reduceGE, Int.reduceToNat]
      refine ⟨by omega, ?_⟩
      rw [← hQ']
      simp only [w_kIt_n]
      refine ⟨0, (1, some (γ', 12, 0)), Wk.perm' ?_ (fun p hp => ?_) (fun t ht => ?_), ⟨by simp only; omega, by simp⟩, by simp only; omega⟩
      · repeat' first | exact AVle.refl _ _ | exact trivial | refine And.intro ?_ ?_ | exact AVle.int (by simp only [IntKind.wrap_i64]; omega)
      · have e : sv (some ((γ', 12, 0) : Nm)) 1 (parsAV ((nums.take 1).map fun n => [n])) = .sl (some (γ', 12, 0)) 1 [[.sl none 1 [[.int .i64 nums[0]]]]] := by
          rw [show nums.take 1 = [nums[0]] by cases nums with | nil => simp at hlt | cons x l => rfl]; rfl
        simp only [e] at hp
        exact hp
      · simp only [Option.some.injEq] at ht
        subst ht
        simp
    | some t0 =>
      simp +contextual (maxSteps := 1000000) only [hd, hg1, Int.toNat_natCast, intsAV_length, hln, go_sem, reduceCtorEq, ↓reduceIte, Nat.reduceAdd, Nat.reduceEqDiff, Nat.reduceLeDiff, Nat.reduceMul, Nat.reduceBEq, Int.reduceBEq, Int.reduceBNe, Int.reduceLT, Int.reduceLE, Int.reduceGT, Int.reduceGE, Int.reduceToNat]
      refine ⟨⟨by omega, by omega⟩, .inl trivial, by omega, by simp, ?_⟩
      rw [← hQ']
      simp only [w_kIt_n]
      refine ⟨0, (i + 1, some (γ', 12, 0)), Wk.perm' ?_ (fun p hp => ?_) (fun t ht => ?_), ⟨by simp only; omega, by simp⟩, by simp only; omega⟩
      · rw [hw]
        repeat' first | exact AVle.refl _ _ | exact trivial | refine And.intro ?_ ?_ | exact AVle.int (by simp only [IntKind.wrap_i64]; omega)
      · simp only [sv_some, hsn] at hp
        exact hp
      · simp only [Option.some.injEq] at ht
        subst ht
        refine ⟨.inl (by simp), fun e => ?_⟩
        exact hf.2.2 t0 (by simp) (by rw [← e])
  · have hd : decide ((i : Int) < (nums.length : Int)) = false := decide_eq_false (by omega)
    simp +contextual (maxSteps := 1000000) only [hd, intsAV_length, go_sem, reduceCtorEq, ↓reduceIte, Nat.reduceAdd, Nat.reduceEqDiff, Nat.reduceLeDiff, Nat.reduceMul, Nat.reduceBEq, Int.reduceBEq, Int.reduceBNe, Int.reduceLT, Int.reduceLE, Int.reduceGT, Int.reduceGE, Int.reduceToNat]
    rw [← hQ']
    simp only [w_kIt_e, w_kBlk_e, ↓reduceIte]
    have hall : nums.take i = nums := List.take_of_length_le (by omega)
    cases tk with
    | none =>
      obtain rfl := htk rfl
      have hn0 : nums = [] := List.length_eq_zero_iff.1 (by omega)
      subst hn0
      have c2 := c1.args (args := [.agg [.int .i64 1, .int .u8 pr, .nils, .str [], .int .u8 fi, .str []]]) ⟨RepLe.agg ⟨.refl _, .refl _, .nils 1, .refl _, .refl _, .refl _, trivial⟩, trivial⟩
      simp +contextual (maxSteps := 1000000) only [go_sem, reduceCtorEq, ↓reduceIte, Nat.reduceAdd, Nat.reduceEqDiff, Nat.reduceLeDiff, Nat.reduceMul, Nat.reduceBEq, Int.reduceBEq, Int.reduceBNe, Int.reduceLT, Int.reduceLE, Int.reduceGT, Int.reduceGE, Int.reduceToNat]
      (refine CallP.pure (c2) (fun _ => rfl) ?_; simp +contextual (maxSteps := 1000000) only [go_sem, reduceCtorEq, ↓reduceIte, Nat.reduceAdd, Nat.reduceEqDiff, Nat.reduceLeDiff, Nat.reduceMul, Nat.reduceBEq, Int.reduceBEq, Int.reduceBNe, Int.reduceLT, Int.reduceLE, Int.reduceGT, Int.reduceGE, Int.reduceToNat])
      rw [← hQ]
      exact ⟨trivial, .inl ⟨_, rfl, RepLe.refl _⟩⟩
    | some t0 =>
      have c2 := c1.args (args := [.agg [.int .i64 1, .int .u8 pr, .sl (some t0) 1 (parsAV (nums.map fun n => [n])), .str [], .int .u8 fi, .str []]]) ⟨RepLe.agg ⟨.refl _, .refl _, .anon' rfl, .refl _, .refl _, .refl _, trivial⟩, trivial⟩
      simp +contextual (maxSteps := 1000000) only [hall, go_sem, reduceCtorEq, ↓reduceIte, Nat.reduceAdd, Nat.reduceEqDiff, Nat.reduceLeDiff, Nat.reduceMul, Nat.reduceBEq, Int.reduceBEq, Int.reduceBNe, Int.reduceLT, Int.reduceLE, Int.reduceGT, Int.reduceGE, Int.reduceToNat]
      (refine CallP.pure (c2) (fun _ => rfl) ?_; simp +contextual (maxSteps := 1000000) only [go_sem, reduceCtorEq, ↓reduceIte, Nat.reduceAdd, Nat.reduceEqDiff, Nat.reduceLeDiff, Nat.reduceMul, Nat.reduceBEq, Int.reduceBEq, Int.reduceBNe, Int.reduceLT, Int.reduceLE, Int.reduceGT, Int.reduceGE, Int.reduceToNat])
      rw [← hQ]
      exact ⟨trivial, .inl ⟨_, rfl, RepLe.refl _⟩⟩
theorem fs_rNums16 {Gl : Gh → Prop} (hst : Stays Gl) {pr fi : Int} {nums : List Int} {tn : Option Nm} (hn : nums.length ≤ 10) (hp : 0 ≤ pr ∧ pr < 256) (hf' : 0 ≤ fi ∧ fi < 256) (hmay : mayP (numSq 1 pr fi nums) = 0) : FS Tryz.prog Gl 21 [.int .u8 pr, .int .u8 fi, .sl tn 1 (intsAV nums)] [] [] (.sl none 1 (bytesAV (putB (numSq 1 pr fi nums)))) [] [] := by
  have := fs_rNumsX (Gl := Gl) hst (tn := tn) (nums := nums) (by omega) hp.1 hp.2 hf'.1 hf'.2
  rw [show putX (numSq 1 pr fi nums) = putB (numSq 1 pr fi nums) by unfold putX; rw [hmay]; rfl] at this
  exact this
theorem fs_rEnc16 {Gl : Gh → Prop} (hst : Stays Gl) {mode coding : Int} {e : Mo} : FS Tryz.prog Gl 6 [.int .i64 mode, .int .i64 coding, .agg (moAV e)] [] [] (.sl none 1 (bytesAV (encM mode coding e))) [] [] := by
  refine FS.ofW hm hst is_clavierref16Encode rfl (by simp) fun γ hγ hfr => ?_
  have hmo : moAV e = [.int .i64 e.button, .int .i64 e.type, .int .i64 e.x, .int .i64 e.y, .int .i64 e.mods] := rfl
  have hz : encM mode coding e = if mayM e = false then [] else if coding = 1006 then putB (exactQ mode e) else if coding = 1015 then putB (wordsQ mode e) else if coding = 1005 then wideB mode e else plainM mode e := rfl
  have c1 := fs_rMMay (Gl := Gl) hst (e := e)
  have c2 := fs_rCode16 (Gl := Gl) hst (mode := mode) (e := e)
  rw [hmo] at c1 c2
  simp only [hmo]
  (generalize hQ : (fun (ex : Ex) (_ _ : Nat) (s : St) => _) = Q; unfold ir_clavierref16Encode)
  simp +contextual (maxSteps := 1000000) only [go_sem, reduceCtorEq, ↓reduceIte, Nat.reduceAdd, Nat.reduceEqDiff, Nat.reduceLeDiff, Nat.reduceMul, Nat.reduceBEq, Int.reduceBEq, Int.reduceBNe, Int.reduceLT, Int.reduceLE, Int.reduceGT, Int.reduceGE, Int.reduceToNat]
  (refine CallP.pure (c1) (fun _ => rfl) ?_; simp +contextual (maxSteps := 1000000) only [go_sem, reduceCtorEq, ↓reduceIte, Nat.reduceAdd, Nat.reduceEqDiff, Nat.reduceLeDiff, Nat.reduceMul, Nat.reduceBEq, Int.reduceBEq, Int.reduceBNe, Int.reduceLT, Int.reduceLE, Int.reduceGT, Int.reduceGE, Int.reduceToNat])
  cases hM : mayM e with
  | false =>
    simp +contextual (maxSteps := 1000000) only [hM, go_sem, reduceCtorEq, ↓reduceIte, Nat.reduceAdd, Nat.reduceEqDiff, Nat.reduceLeDiff, Nat.reduceMul, Nat.reduceBEq, Int.reduceBEq, Int.reduceBNe, Int.reduceLT, Int.reduceLE, Int.reduceGT, Int.reduceGE, Int.reduceToNat]
    rw [← hQ, hz, if_pos hM]
    exact ⟨trivial, .inl ⟨_, rfl, RepLe.nils 1⟩⟩
  | true =>
    rw [if_neg (by rw [hM]; simp)] at hz
    have M := mayM_iff.1 hM
    have hbl := blind_range (mode := mode) M
    have hx0 := M.x0
    have hx1 := M.x1
    have hy0 := M.y0
    have hy1 := M.y1
    have hcr := code_range (mode := mode) M
    have c3 := fs_rLost16 (Gl := Gl) hst (mode := mode) (e := e) M
    rw [hmo] at c3
    have m6 := exact_may (mode := mode) M
    have m15 := words_may (mode := mode) M
    have g6 : exactQ mode e = numSq 1 60 (if e.type = 3 then 109 else 77) [codeM mode e, e.x, e.y] := rfl
    have g15 : wordsQ mode e = numSq 1 0 77 [32 + blindM mode e, e.x, e.y] := rfl
    have hi3 : ∀ a b c : Int, intsAV [a, b, c] = [[.int .i64 a], [.int .i64 b], [.int .i64 c]] := fun _ _ _ => rfl
    have wl : IntKind.i64.wrap (32 + blindM mode e) = 32 + blindM mode e := by rw [IntKind.wrap_i64]; omega
    have wx : IntKind.i64.wrap (32 + e.x) = 32 + e.x := by rw [IntKind.wrap_i64]; omega
    have wy : IntKind.i64.wrap (32 + e.y) = 32 + e.y := by rw [IntKind.wrap_i64]; omega
    by_cases e6 : coding = 1006
    · have q6 : (coding == 1006) = true := beq_iff_eq.2 e6
      rw [g6] at m6
      rw [if_pos e6, g6] at hz
      by_cases t3 : e.type = 3
      · have q3 : (e.type == 3) = true := beq_iff_eq.2 t3
        rw [if_pos t3] at m6 hz
        have d1 := fun t : Option Nm => fs_rNums16 (Gl := Gl) hst (tn := t) (by simp) (by omega) (by omega) m6
        simp only [hi3] at d1
        simp +contextual (maxSteps := 1000000) only [hM, q6, q3, go_sem, reduceCtorEq, ↓reduceIte, Nat.reduceAdd, Nat.reduceEqDiff, Nat.reduceLeDiff, Nat.reduceMul, Nat.reduceBEq, Int.reduceBEq, Int.reduceBNe, Int.reduceLT, Int.reduceLE, Int.reduceGT, Int.reduceGE, Int.reduceToNat]
        refine DCall.new c2 ?_
        simp +contextual (maxSteps := 1000000) only [go_sem, reduceCtorEq, ↓reduceIte, Nat.reduceAdd, Nat.reduceEqDiff, Nat.reduceLeDiff, Nat.reduceMul, Nat.reduceBEq, Int.reduceBEq, Int.reduceBNe, Int.reduceLT, Int.reduceLE, Int.reduceGT, Int.reduceGE, Int.reduceToNat]
        refine ⟨by simp [AV.closedL, AV.closed], DCall.new (d1 _) ?_⟩
        simp +contextual (maxSteps := 1000000) only [go_sem, reduceCtorEq, ↓reduceIte, Nat.reduceAdd, Nat.reduceEqDiff, Nat.reduceLeDiff, Nat.reduceMul, Nat.reduceBEq, Int.reduceBEq, Int.reduceBNe, Int.reduceLT, Int.reduceLE, Int.reduceGT, Int.reduceGE, Int.reduceToNat]
        rw [← hQ, hz]
        exact ⟨trivial, .inl ⟨_, rfl, RepLe.refl _⟩⟩
      · have q3 : (e.type == 3) = false := beq_eq_false_iff_ne.2 t3
        rw [if_neg t3] at m6 hz
        have d1 := fun t : Option Nm => fs_rNums16 (Gl := Gl) hst (tn := t) (by simp) (by omega) (by omega) m6
        simp only [hi3] at d1
        simp +contextual (maxSteps := 1000000) only [hM, q6, q3, go_sem, reduceCtorEq, ↓reduceIte, Nat.reduceAdd, Nat.reduceEqDiff, Nat.reduceLeDiff, Nat.reduceMul, Nat.reduceBEq, Int.reduceBEq, Int.reduceBNe, Int.reduceLT, Int.reduceLE, Int.reduceGT, Int.reduceGE, Int.reduceToNat]
        refine DCall.new c2 ?_
        simp +contextual (maxSteps := 1000000) only [go_sem, reduceCtorEq, ↓reduceIte, Nat.reduceAdd, Nat.reduceEqDiff, Nat.reduceLeDiff, Nat.reduceMul, Nat.reduceBEq, Int.reduceBEq, Int.reduceBNe, Int.reduceLT, Int.reduceLE, Int.reduceGT, Int.reduceGE, Int.reduceToNat]
        refine ⟨by simp [AV.closedL, AV.closed], DCall.new (d1 _) ?_⟩
        simp +contextual (maxSteps := 1000000) only [go_sem, reduceCtorEq, ↓reduceIte, Nat.reduceAdd, Nat.reduceEqDiff, Nat.reduceLeDiff, Nat.reduceMul, Nat.reduceBEq, Int.reduceBEq, Int.reduceBNe, Int.reduceLT, Int.reduceLE, Int.reduceGT, Int.reduceGE, Int.reduceToNat]
        rw [← hQ, hz]
        exact ⟨trivial, .inl ⟨_, rfl, RepLe.refl _⟩⟩
    have q6 : (coding == 1006) = false := beq_eq_false_iff_ne.2 e6
    rw [if_neg e6] at hz
    by_cases e15 : coding = 1015
    · have q15 : (coding == 1015) = true := beq_iff_eq.2 e15
      rw [g15] at m15
      rw [if_pos e15, g15] at hz
      have d1 := fun t : Option Nm => fs_rNums16 (Gl := Gl) hst (tn := t) (by simp) (by omega) (by omega) m15
      simp only [hi3] at d1
      simp +contextual (maxSteps := 1000000) only [hM, q6, q15, go_sem, reduceCtorEq, ↓reduceIte, Nat.reduceAdd, Nat.reduceEqDiff, Nat.reduceLeDiff, Nat.reduceMul, Nat.reduceBEq, Int.reduceBEq, Int.reduceBNe, Int.reduceLT, Int.reduceLE, Int.reduceGT, Int.reduceGE, Int.reduceToNat]
      refine DCall.new c3 ?_
      simp +contextual (maxSteps := 1000000) only [wl, go_sem, reduceCtorEq, ↓reduceIte, Nat.reduceAdd, Nat.reduceEqDiff, Nat.reduceLeDiff, Nat.reduceMul, Nat.reduceBEq, Int.reduceBEq, Int.reduceBNe, Int.reduceLT, Int.reduceLE, Int.reduceGT, Int.reduceGE, Int.reduceToNat]
      refine ⟨by simp [AV.closedL, AV.closed], DCall.new (d1 _) ?_⟩
      simp +contextual (maxSteps := 1000000) only [go_sem, reduceCtorEq, ↓reduceIte, Nat.reduceAdd, Nat.reduceEqDiff, Nat.reduceLeDiff, Nat.reduceMul, Nat.reduceBEq, Int.reduceBEq, Int.reduceBNe, Int.reduceLT, Int.reduceLE, Int.reduceGT, Int.reduceGE, Int.reduceToNat]
      rw [← hQ, hz]
      exact ⟨trivial, .inl ⟨_, rfl, RepLe.refl _⟩⟩
    have q15 : (coding == 1015) = false := beq_eq_false_iff_ne.2 e15
    rw [if_neg e15] at hz
    by_cases e5 : coding = 1005
    · have q5 : (coding == 1005) = true := beq_iff_eq.2 e5
      rw [if_pos e5] at hz
      have gw : wideB mode e = if e.x > 2015 ∨ e.y > 2015 then [] else [27, 91, 77] ++ (putU (32 + blindM mode e) ++ (putU (32 + e.x) ++ putU (32 + e.y))) := rfl
      rw [gw] at hz
      by_cases hf : e.x > 2015 ∨ e.y > 2015
      · have qf : (decide (e.x > 2015) || decide (e.y > 2015)) = true := by simpa using hf
        rw [if_pos hf] at hz
        simp +contextual (maxSteps := 1000000) only [hM, q6, q15, q5, qf, go_sem, reduceCtorEq, ↓reduceIte, Nat.reduceAdd, Nat.reduceEqDiff, Nat.reduceLeDiff, Nat.reduceMul, Nat.reduceBEq, Int.reduceBEq, Int.reduceBNe, Int.reduceLT, Int.reduceLE, Int.reduceGT, Int.reduceGE, Int.reduceToNat]
        rw [← hQ, hz]
        exact ⟨trivial, .inl ⟨_, rfl, RepLe.nils 1⟩⟩
      · have qf : (decide (e.x > 2015) || decide (e.y > 2015)) = false := by
          rw [Bool.eq_false_iff]; simpa using hf
        rw [if_neg hf] at hz
        have u1 := fs_rPutU (Gl := Gl) hst (r := 32 + blindM mode e)
        have u2 := fs_rPutU (Gl := Gl) hst (r := 32 + e.x)
        have u3 := fs_rPutU (Gl := Gl) hst (r := 32 + e.y)
        have l1 := putU_len (32 + blindM mode e)
        have l2 := putU_len (32 + e.x)
        have l3 := putU_len (32 + e.y)
        simp +contextual (maxSteps := 1000000) only [hM, q6, q15, q5, qf, go_sem, reduceCtorEq, ↓reduceIte, Nat.reduceAdd, Nat.reduceEqDiff, Nat.reduceLeDiff, Nat.reduceMul, Nat.reduceBEq, Int.reduceBEq, Int.reduceBNe, Int.reduceLT, Int.reduceLE, Int.reduceGT, Int.reduceGE, Int.reduceToNat]
        refine ⟨⟨.inl trivial, by simp⟩, ?_⟩
        (refine CallP.pure (c3) (fun _ => rfl) ?_; simp +contextual (maxSteps := 1000000) only [wl, go_sem, reduceCtorEq, ↓reduceIte, Nat.reduceAdd, Nat.reduceEqDiff, Nat.reduceLeDiff, Nat.reduceMul, Nat.reduceBEq, Int.reduceBEq, Int.reduceBNe, Int.reduceLT, Int.reduceLE, Int.reduceGT, Int.reduceGE, Int.reduceToNat])
        (refine CallP.pure (u1) (fun _ => rfl) ?_; simp +contextual (maxSteps := 1000000) only [wx, bytesAV_length', go_sem, reduceCtorEq, ↓reduceIte, Nat.reduceAdd, Nat.reduceEqDiff, Nat.reduceLeDiff, Nat.reduceMul, Nat.reduceBEq, Int.reduceBEq, Int.reduceBNe, Int.reduceLT, Int.reduceLE, Int.reduceGT, Int.reduceGE, Int.reduceToNat])
        refine ⟨⟨.inl trivial, by omega⟩, ?_⟩
        (refine CallP.pure (u2) (fun _ => rfl) ?_; simp +contextual (maxSteps := 1000000) only [wy, bytesAV_length', List.length_append, go_sem, reduceCtorEq, ↓reduceIte, Nat.reduceAdd, Nat.reduceEqDiff, Nat.reduceLeDiff, Nat.reduceMul, Nat.reduceBEq, Int.reduceBEq, Int.reduceBNe, Int.reduceLT, Int.reduceLE, Int.reduceGT, Int.reduceGE, Int.reduceToNat])
        refine ⟨⟨.inl trivial, by omega⟩, ?_⟩
        (refine CallP.pure (u3) (fun _ => rfl) ?_; simp +contextual (maxSteps := 1000000) only [wy, bytesAV_length', List.length_append, go_sem, reduceCtorEq, ↓reduceIte, Nat.reduceAdd, Nat.reduceEqDiff, Nat.reduceLeDiff, Nat.reduceMul, Nat.reduceBEq, Int.reduceBEq, Int.reduceBNe, Int.reduceLT, Int.reduceLE, Int.reduceGT, Int.reduceGE, Int.reduceToNat])
        refine ⟨⟨.inl trivial, by omega⟩, ?_⟩
        rw [← hQ, hz]
        refine ⟨trivial, .inl ⟨_, rfl, RepLe.anon' ?_⟩⟩
        simp [bytesAV]
    have q5 : (coding == 1005) = false := beq_eq_false_iff_ne.2 e5
    rw [if_neg e5] at hz
    have gp : plainM mode e = if e.x > 223 ∨ e.y > 223 then [] else [27, 91, 77, byteM (32 + blindM mode e), byteM (32 + e.x), byteM (32 + e.y)] := rfl
    rw [gp] at hz
    by_cases hf : e.x > 223 ∨ e.y > 223
    · have qf : (decide (e.x > 223) || decide (e.y > 223)) = true := by simpa using hf
      rw [if_pos hf] at hz
      simp +contextual (maxSteps := 1000000) only [hM, q6, q15, q5, qf, go_sem, reduceCtorEq, ↓reduceIte, Nat.reduceAdd, Nat.reduceEqDiff, Nat.reduceLeDiff, Nat.reduceMul, Nat.reduceBEq, Int.reduceBEq, Int.reduceBNe, Int.reduceLT, Int.reduceLE, Int.reduceGT, Int.reduceGE, Int.reduceToNat]
      rw [← hQ, hz]
      exact ⟨trivial, .inl ⟨_, rfl, RepLe.nils 1⟩⟩
    · have qf : (decide (e.x > 223) || decide (e.y > 223)) = false := by
        rw [Bool.eq_false_iff]; simpa using hf
      rw [if_neg hf] at hz
      have hb8 : ∀ n : Int, ((byteM n).toNat : Int) = IntKind.u8.wrap n := fun n => by
        unfold byteM
        rw [IntKind.wrap_u8, UInt8.toNat_ofNat', Nat.mod_eq_of_lt (by omega)]; omega
      simp +contextual (maxSteps := 1000000) only [hM, q6, q15, q5, qf, go_sem, reduceCtorEq, ↓reduceIte, Nat.reduceAdd, Nat.reduceEqDiff, Nat.reduceLeDiff, Nat.reduceMul, Nat.reduceBEq, Int.reduceBEq, Int.reduceBNe, Int.reduceLT, Int.reduceLE, Int.reduceGT, Int.reduceGE, Int.reduceToNat]
      refine DCall.new c3 ?_
      simp +contextual (maxSteps := 1000000) only [wl, wx, wy, go_sem, reduceCtorEq, ↓reduceIte, Nat.reduceAdd, Nat.reduceEqDiff, Nat.reduceLeDiff, Nat.reduceMul, Nat.reduceBEq, Int.reduceBEq, Int.reduceBNe, Int.reduceLT, Int.reduceLE, Int.reduceGT, Int.reduceGE, Int.reduceToNat]
      refine ⟨by simp [AV.closedL, AV.closed], ?_⟩
      rw [← hQ, hz]
      refine ⟨trivial, .inl ⟨_, rfl, RepLe.anon' ?_⟩⟩
      simp only [bytesAV, List.map_cons, List.map_nil, hb8]
      rfl
theorem fs_MouseTells {Gl : Gh → Prop} (hst : Stays Gl) {mode coding : Int} {e : Mo} (_ : -9223372036854775808 ≤ mode ∧ mode ≤ 9223372036854775807) (_ : -9223372036854775808 ≤ coding ∧ coding ≤ 9223372036854775807) (_ : True) : FS Tryz.prog Gl 3 [.int .i64 mode, .int .i64 coding, .agg (moAV e)] [] [] (.bool true) [] [] := by
  refine FS.of hm hst is_clavierlaw16MouseTells (by simp) fun γ hγ hfr => ?_
  have hmo : moAV e = [.int .i64 e.button, .int .i64 e.type, .int .i64 e.x, .int .i64 e.y, .int .i64 e.mods] := rfl
  have c1 := fs_Enc (Gl := Gl) hst (mode := mode) (coding := coding) (e := e)
  have c2 := fs_rEnc16 (Gl := Gl) hst (mode := mode) (coding := coding) (e := e)
  have c3 := fs_mCode (Gl := Gl) hst (mode := mode) (e := e)
  have c4 := fs_rCode16 (Gl := Gl) hst (mode := mode) (e := e)
  rw [hmo] at c1 c2 c3 c4
  simp only [hmo]
  generalize encM mode coding e = bs at *
  generalize codeM mode e = n at *
  (generalize hQ : (fun (ex : Ex) (_ _ : Nat) (s : St) => _) = Q; unfold ir_clavierlaw16MouseTells)
  simp +contextual (maxSteps := 1000000) only [go_sem, reduceCtorEq, ↓reduceIte, Nat.reduceAdd, Nat.reduceEqDiff, Nat.reduceLeDiff, Nat.reduceMul, Nat.reduceBEq, Int.reduceBEq, Int.reduceBNe, Int.reduceLT, Int.reduceLE, Int.reduceGT, Int.reduceGE, Int.reduceToNat]
  (refine CallP.pure (fs_awake16 hst) (fun _ => rfl) ?_; simp +contextual (maxSteps := 1000000) only [go_sem, reduceCtorEq, ↓reduceIte, Nat.reduceAdd, Nat.reduceEqDiff, Nat.reduceLeDiff, Nat.reduceMul, Nat.reduceBEq, Int.reduceBEq, Int.reduceBNe, Int.reduceLT, Int.reduceLE, Int.reduceGT, Int.reduceGE, Int.reduceToNat])
  refine DCall.new c1 ?_
  simp +contextual (maxSteps := 1000000) only [bb_un, bb_is, go_sem, reduceCtorEq, ↓reduceIte, Nat.reduceAdd, Nat.reduceEqDiff, Nat.reduceLeDiff, Nat.reduceMul, Nat.reduceBEq, Int.reduceBEq, Int.reduceBNe, Int.reduceLT, Int.reduceLE, Int.reduceGT, Int.reduceGE, Int.reduceToNat]
  refine DCall.new c2 ?_
  simp +contextual (maxSteps := 1000000) only [bb_un, bb_is, go_sem, reduceCtorEq, ↓reduceIte, Nat.reduceAdd, Nat.reduceEqDiff, Nat.reduceLeDiff, Nat.reduceMul, Nat.reduceBEq, Int.reduceBEq, Int.reduceBNe, Int.reduceLT, Int.reduceLE, Int.reduceGT, Int.reduceGE, Int.reduceToNat]
  refine DCall.new c3 ?_
  simp +contextual (maxSteps := 1000000) only [go_sem, reduceCtorEq, ↓reduceIte, Nat.reduceAdd, Nat.reduceEqDiff, Nat.reduceLeDiff, Nat.reduceMul, Nat.reduceBEq, Int.reduceBEq, Int.reduceBNe, Int.reduceLT, Int.reduceLE, Int.reduceGT, Int.reduceGE, Int.reduceToNat]
  refine DCall.new c4 ?_
  simp +contextual (maxSteps := 1000000) only [go_sem, reduceCtorEq, ↓reduceIte, Nat.reduceAdd, Nat.reduceEqDiff, Nat.reduceLeDiff, Nat.reduceMul, Nat.reduceBEq, Int.reduceBEq, Int.reduceBNe, Int.reduceLT, Int.reduceLE, Int.reduceGT, Int.reduceGE, Int.reduceToNat]
  rw [← hQ]
  exact ⟨trivial, Ret.flat rfl rfl⟩
end Go.Proofs.YtfnngjnfajnpaaaGreatDoor

namespace Go.Proofs.YtfnngjnfajnpaaaGreatDoor
open Go Go.Ab Go.WideShapes Go.RowKit
theorem seat_own : ownKnob Tryz.prog.godebug = none := by kernel_rfl
theorem seat_laidOut : laidOutB Tryz.prog = true := by kernel_rfl
section
variable {H : Type} {enc : TypeId × Value → H} {W : World} {base : Nat} {v : Value} {d : DataW H} {p : List MemPlace}
theorem op_int (hv : Value.okWide Tryz.prog W .any base 3 v) (hd : DataW.Trod enc Tryz.prog W 0 (fun _ => true) true 3 v d p) : ∃ n : Int, (-9223372036854775808 ≤ n ∧ n ≤ 9223372036854775807) ∧ Rep (gh0 W) (.int .i64 n) v := by
  obtain ⟨n, rfl⟩ := okWide_int (P := Tryz.prog) (k := .i64) (by kernel_rfl) hv
  obtain ⟨x, ⟨m, h1, h2, h3⟩, hr⟩ := (TR.int (P := Tryz.prog) (k := .i64) (by kernel_rfl)).arg1 rfl hd
  simp only [List.cons.injEq, and_true] at h1
  subst h1
  exact ⟨m, ⟨by simpa [IntKind.min, IntKind.signed, IntKind.bits] using h2, by simpa [IntKind.max, IntKind.signed, IntKind.bits] using h3⟩, hr⟩
end
end Go.Proofs.YtfnngjnfajnpaaaGreatDoor

namespace Go.Proofs.YtfnngjnfajnpaaaGreatDoor
open Go Go.Ab
end Go.Proofs.YtfnngjnfajnpaaaGreatDoor

namespace Go.Proofs.YtfnngjnfajnpaaaGreatDoor
open Go Go.Ab
theorem fixW_of5 {W : World} (h : laidMetH Tryz.prog [("math/bits.deBruijn32tab", Rows.laid_math_bits_deBruijn32tab), ("math/bits.deBruijn64tab", Rows.laid_math_bits_deBruijn64tab), ("internal/strconv.uint64pow10", Rows.laid_internal_strconv_uint64pow10), ("unicode/utf8.acceptRanges", Rows.laid_unicode_utf8_acceptRanges), ("unicode/utf8.first", Rows.laid_unicode_utf8_first)] W) : FixW W := by
  rw [MakeChecks.laidMetH_plain _ _ _ (by kernel_rfl)] at h
  have h2 := laidMet.filter (fun x => x.1 == "internal/strconv.uint64pow10") h
  have h3 : laidMet Tryz.prog [("internal/strconv.uint64pow10", Lib.tabData .u64 Lib.pow10Tab)] W := h2
  have h4 := Lib.tabIs_of_head (g := 3) (t := 128) (e := 118) (n := 20) (by kernel_rfl) (by kernel_rfl) (by kernel_rfl) (by kernel_rfl) (by kernel_rfl) (by kernel_rfl) h3
  intro p hp
  obtain rfl := List.mem_singleton.1 hp
  unfold Lib.TabIs World.var? at h4
  rw [show Program.globalNamed Tryz.prog "internal/strconv.uint64pow10" = some 3 from by kernel_rfl] at h4
  simp only [Option.bind_some] at h4
  split at h4
  · rename_i cs e fr hh
    simp only [Option.some.injEq] at h4
    refine ⟨e, fr, ?_⟩
    rw [hh, h4]
    simp [Lib.pow10Tab]
  · cases h4
end Go.Proofs.YtfnngjnfajnpaaaGreatDoor

namespace Go.Proofs.YtfnngjnfajnpaaaGreatDoor
open Go Go.Ab Go.WideShapes Go.RowKit
def zero_apiMouse : Value := .agg #[.int .i64 0, .int .i64 0, .int .i64 0, .int .i64 0, .int .i64 0]
section
variable {H : Type} {enc : TypeId × Value → H} {W : World} {base : Nat} {v : Value} {d : DataW H} {p : List MemPlace}
theorem mouse_is : structIs Tryz.prog 23 [(0, 3), (1, 3), (2, 3), (3, 3), (4, 3)] = true := by kernel_rfl
theorem tr_Mouse : TR enc Tryz.prog W 23 fun xs => ∃ e : Mo, xs = moAV e := by
  refine (TR.structL (Rs := [fun xs => ∃ n, xs = [.int .i64 n] ∧ IntKind.i64.min ≤ n ∧ n ≤ IntKind.i64.max, fun xs => ∃ n, xs = [.int .i64 n] ∧ IntKind.i64.min ≤ n ∧ n ≤ IntKind.i64.max, fun xs => ∃ n, xs = [.int .i64 n] ∧ IntKind.i64.min ≤ n ∧ n ≤ IntKind.i64.max, fun xs => ∃ n, xs = [.int .i64 n] ∧ IntKind.i64.min ≤ n ∧ n ≤ IntKind.i64.max, fun xs => ∃ n, xs = [.int .i64 n] ∧ IntKind.i64.min ≤ n ∧ n ≤ IntKind.i64.max]) 5 mouse_is (by kernel_rfl) ?_).mono ?_
  · exact ⟨rfl, TR.int (by kernel_rfl), 1, by kernel_rfl, rfl, TR.int (by kernel_rfl), 1, by kernel_rfl, rfl, TR.int (by kernel_rfl), 1, by kernel_rfl, rfl, TR.int (by kernel_rfl), 1, by kernel_rfl, rfl, TR.int (by kernel_rfl), 1, by kernel_rfl, rfl⟩
  · rintro xs ⟨_, _, ⟨a, rfl, _⟩, ⟨_, _, ⟨b, rfl, _⟩, ⟨_, _, ⟨c, rfl, _⟩, ⟨_, _, ⟨e, rfl, _⟩, ⟨_, _, ⟨f, rfl, _⟩, h, rfl⟩, rfl⟩, rfl⟩, rfl⟩, rfl⟩
    have h : _ = [] := h
    subst h
    exact ⟨⟨a, b, c, e, f⟩, rfl⟩
theorem op_apiMouse (hv : Value.okWide Tryz.prog W .any base 23 v) (hd : DataW.Trod enc Tryz.prog W 0 (fun _ => true) true 23 v d p) : ∃ e : Mo, True ∧ Rep (gh0 W) (.agg (moAV e)) v := by
  obtain ⟨cs, rfl⟩ := okWide_struct mouse_is hv
  obtain ⟨xs, ⟨e, rfl⟩, hr⟩ := tr_Mouse.argN hd
  exact ⟨e, trivial, hr⟩
end
end Go.Proofs.YtfnngjnfajnpaaaGreatDoor

namespace Go.Proofs.YtfnngjnfajnpaaaGreatDoor
open Go Go.Ab Go.ChangeShapes Go.WideShapes Go.ChangeAt Go.RowKit
theorem mouseTells_lifted (os : Os) (started : os.Started) (H : Type) (enc : TypeId × Value → H) (F : Stop.Interp) :
    ReturnsInHanded {} Tryz.checked os 3 .any ((OpenSpec.ofChange Rows.mouseTellsSpec).preRow enc Tryz.prog Tryz.f3 Rows.mouseTellsRow.domain false Rows.mouseTellsRow.laid) (((OpenSpec.ofChange Rows.mouseTellsSpec).at F).post enc Tryz.prog Tryz.f3 false true false false) := by
  have hw : (DataW.whole enc Tryz.prog ((World.laidAll Tryz.prog os [("math/bits.deBruijn32tab", Rows.laid_math_bits_deBruijn32tab), ("math/bits.deBruijn64tab", Rows.laid_math_bits_deBruijn64tab), ("internal/strconv.uint64pow10", Rows.laid_internal_strconv_uint64pow10), ("unicode/utf8.acceptRanges", Rows.laid_unicode_utf8_acceptRanges), ("unicode/utf8.first", Rows.laid_unicode_utf8_first)]).forCall (fun _ _ => 0) ⟨#[], #[.int .i64 0, .int .i64 0, zero_apiMouse], []⟩).memory Tryz.f3.params.toList (OpenSpec.ofChange Rows.mouseTellsSpec).vars false (#[.int .i64 0, .int .i64 0, zero_apiMouse] : Array Value).toList 8).any (fun x => true) = true := by kernel_rfl
  cases hx : DataW.whole enc Tryz.prog ((World.laidAll Tryz.prog os [("math/bits.deBruijn32tab", Rows.laid_math_bits_deBruijn32tab), ("math/bits.deBruijn64tab", Rows.laid_math_bits_deBruijn64tab), ("internal/strconv.uint64pow10", Rows.laid_internal_strconv_uint64pow10), ("unicode/utf8.acceptRanges", Rows.laid_unicode_utf8_acceptRanges), ("unicode/utf8.first", Rows.laid_unicode_utf8_first)]).forCall (fun _ _ => 0) ⟨#[], #[.int .i64 0, .int .i64 0, zero_apiMouse], []⟩).memory Tryz.f3.params.toList (OpenSpec.ofChange Rows.mouseTellsSpec).vars false (#[.int .i64 0, .int .i64 0, zero_apiMouse] : Array Value).toList 8 with
  | none => rw [hx] at hw; cases hw
  | some x =>
  rw [hx] at hw
  have hok : Input.okWideB Tryz.checked.prog ((World.laidAll Tryz.prog os [("math/bits.deBruijn32tab", Rows.laid_math_bits_deBruijn32tab), ("math/bits.deBruijn64tab", Rows.laid_math_bits_deBruijn64tab), ("internal/strconv.uint64pow10", Rows.laid_internal_strconv_uint64pow10), ("unicode/utf8.acceptRanges", Rows.laid_unicode_utf8_acceptRanges), ("unicode/utf8.first", Rows.laid_unicode_utf8_first)]).forCall (fun _ _ => 0) ⟨#[], #[.int .i64 0, .int .i64 0, zero_apiMouse], []⟩) 3 ⟨#[], #[.int .i64 0, .int .i64 0, zero_apiMouse], []⟩ = true := by kernel_rfl
  refine returnsInHanded_of_row (C := Tryz.checked) (s := (OpenSpec.ofChange Rows.mouseTellsSpec)) seat_own started (by kernel_rfl) Tryz.func3
    ⟨World.laidAll Tryz.prog os [("math/bits.deBruijn32tab", Rows.laid_math_bits_deBruijn32tab), ("math/bits.deBruijn64tab", Rows.laid_math_bits_deBruijn64tab), ("internal/strconv.uint64pow10", Rows.laid_internal_strconv_uint64pow10), ("unicode/utf8.acceptRanges", Rows.laid_unicode_utf8_acceptRanges), ("unicode/utf8.first", Rows.laid_unicode_utf8_first)], fun _ _ => 0, ⟨#[], #[.int .i64 0, .int .i64 0, zero_apiMouse], []⟩, World.laidAll_os _ _ _, World.shaped_of_ZipB (by kernel_rfl) (by kernel_rfl), (Input.okWide_of_okWideB (base := 0) hok).1, (Input.okWide_of_okWideB hok).2,
      OpenSpec.preRow_of_cond 8 hx (by kernel_rfl) (fun k hk => by cases hk) (by kernel_rfl) (by rw [show Rows.mouseTellsRow.laid = [("math/bits.deBruijn32tab", Rows.laid_math_bits_deBruijn32tab), ("math/bits.deBruijn64tab", Rows.laid_math_bits_deBruijn64tab), ("internal/strconv.uint64pow10", Rows.laid_internal_strconv_uint64pow10), ("unicode/utf8.acceptRanges", Rows.laid_unicode_utf8_acceptRanges), ("unicode/utf8.first", Rows.laid_unicode_utf8_first)] from rfl, MakeChecks.laidMetH_plain _ _ _ (by kernel_rfl)]; exact laidMet_laidAll _ (by kernel_rfl) (by kernel_rfl)),
      by simp only [Assume.holds]; exact ⟨by simp, by simp, fun _ => Modest.zero, by simp, by simp⟩⟩ ?_
  intro W base args ds gs before hval0 hW _ hcond hreach hL _ _
  have hval : ∀ (j : Nat) t v, Tryz.f3.params[j]? = some t → args[j]? = some v → Value.okWide Tryz.prog W .any base t v := hval0
  have hW' := hW
  obtain ⟨p, q, hA0, hV, rfl, _, _⟩ := hW
  have hA : DataW.TrodAll enc Tryz.prog W 0 (fun _ => true) true Tryz.f3.params.toList args.toList ds p := hA0
  rw [Tryz.params3] at hA hval
  obtain ⟨v0, vs0, d0, ds0, p0, q0, hargs, rfl, rfl, h0, r0⟩ := trodAll_cons hA
  obtain ⟨v1, vs1, d1, ds1, p1, q1, rfl, rfl, rfl, h1, r1⟩ := trodAll_cons r0
  obtain ⟨v2, vs2, d2, ds2, p2, q2, rfl, rfl, rfl, h2, r2⟩ := trodAll_cons r1
  obtain ⟨rfl, rfl, rfl⟩ := trodAll_nil r2
  obtain rfl : args = #[v0, v1, v2] := by cases args; simp_all
  obtain ⟨rfl, rfl⟩ := trodVars_none hV
  have lt0 : ∀ x ∈ p0, x.block < W.heap.size := by obtain ⟨m, hm⟩ := h0; exact DataW.trod_lt m _ _ _ hm
  obtain ⟨x0, c0, e0⟩ := op_int (hval 0 3 v0 rfl rfl) h0
  have lt1 : ∀ x ∈ p1, x.block < W.heap.size := by obtain ⟨m, hm⟩ := h1; exact DataW.trod_lt m _ _ _ hm
  obtain ⟨x1, c1, e1⟩ := op_int (hval 1 3 v1 rfl rfl) h1
  have lt2 : ∀ x ∈ p2, x.block < W.heap.size := by obtain ⟨m, hm⟩ := h2; exact DataW.trod_lt m _ _ _ hm
  obtain ⟨x2, c2, e2⟩ := op_apiMouse (hval 2 23 v2 rfl rfl) h2
  clear hA0 hval0
  refine ((fs_MouseTells (Gl := fun _ => True) (fun _ _ _ _ => trivial) c0 c1 c2).row (fixW_of5 hL) trivial ⟨_, _, rfl, e0, ⟨_, _, rfl, e1, ⟨_, _, rfl, e2, rfl⟩⟩⟩).mono fun e W' ⟨v, g', he, hr, bel⟩ => ?_
  obtain rfl : v = .bool true := hr
  subst he
  exact ⟨_, rfl, _, _, _, [], _, [], hW', trodAll_mk1 (shut_bool (show Tryz.prog.underlying 4 = some .bool by kernel_rfl) _), (trodAll_cons_mk (Below.trod seat_laidOut (by kernel_rfl) (of_decide_eq_true (by kernel_rfl)) h0 bel lt0) (trodAll_cons_mk (Below.trod seat_laidOut (by kernel_rfl) (of_decide_eq_true (by kernel_rfl)) h1 bel lt1) (trodAll_cons_mk (Below.trod seat_laidOut (by kernel_rfl) (of_decide_eq_true (by kernel_rfl)) h2 bel lt2) trodAll_mk0))), rfl, bel.frame _, fun h => by cases h⟩
theorem mouseTells_holds : Rows.MouseTellsSaid :=
  OpenClaim.holds_of_cond 3 Tryz.f3 rfl rfl rfl rfl rfl rfl rfl ⟨rfl, rfl, rfl, rfl, rfl⟩ rfl rfl rfl rfl rfl (by kernel_rfl) Tryz.func3 (by kernel_rfl)
    (of_decide_eq_true (by kernel_rfl)) (by unfold Func.isWrapper; first | (rw [if_pos (by decide +kernel)]; kernel_rfl) | (rw [if_neg (by decide +kernel)]; exact ⟨rfl, rfl⟩))
    (fun os started H enc _ F => by rw [OpenClaim.pre_eq_preRow]; exact mouseTells_lifted os started H enc F)
theorem mouseTells_card : Rows.MouseTellsCardSaid :=
  Claim7.holds_tied_plain_at .later [] [.data, .data, .data, .data, .pinned] true (true, "715ddadf719795774c22bcdccab85b1173f2fb3bd7712983167ccdad950ea996") false mouseTells_holds (fun _ h => by cases h) (by kernel_rfl) (fun _ h => by cases h) mouseTells_row_tie rfl ⟨rfl, rfl⟩ (by kernel_rfl) rfl
    (fun f fn hf hfn => by
      obtain rfl : f = 3 := Option.some.inj ((show Tryz.prog.funcNamed "clavier/clavierlaw16.MouseTells" = some 3 by kernel_rfl).symm.trans hf) |>.symm
      obtain rfl : fn = Tryz.f3 := (Option.some.inj (Tryz.func3.symm.trans hfn)).symm
      exact ⟨by kernel_rfl, fun j t ht => by
        rw [Tryz.params3] at ht
        have hm : t ∈ ([3, 3, 23] : List Nat) := by simpa using Array.mem_of_getElem? ht
        have hall : (([3, 3, 23] : List Nat).all fun u => !Tryz.prog.wantsStandIn u) = true := by kernel_rfl
        exact (show Tryz.prog.wantsStandIn t = false by simpa using List.all_eq_true.1 hall t hm)⟩)
    (by kernel_rfl)
#print axioms mouseTells_card
end Go.Proofs.YtfnngjnfajnpaaaGreatDoor

