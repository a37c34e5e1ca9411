/- Part 4 of 4 of a proof: the given statement BoardTells, whatever the input that its row lets in. Conditions: those of the given row and card alone. -/
import Derived.Test.YtbepihadhmfklaaGreatDoorPBoardTells3
import Derived.Test.YtbepihadhmfklaaGreatDoorPBoardTells2
import Derived.Test.YtbepihadhmfklaaGreatDoorPBoardTellsAb13
import Derived.Test.YtbepihadhmfklaaGreatDoorPBoardTells1
import Derived.WalkKit
import Derived.ProofKit
import Derived.SizedLaws
import Derived.Test.YtbepihadhmfklaaGreatDoorRows
import Derived.LaidSub
import Derived.Lib.LaidTab
import Derived.Lib.ItoaNum
import Derived.MakeChecks
import Derived.Test.YtbepihadhmfklaaGreatDoorCards
import Derived.Test.YtbepihadhmfklaaGreatDoorTie
import Derived.Deep.DeepHandedRow
import Derived.JoinedCond
import Derived.OpenShut
import Derived.ShutString
import Derived.ChangeOld
import Derived.Below
import Derived.Lay
import Derived.LaidOnce
import Derived.SevenTiedAt
set_option linter.unusedVariables false
set_option linter.unusedSimpArgs false
set_option maxRecDepth 100000
namespace Go.Proofs.YtbepihadhmfklaaGreatDoor
open Go Go.Ab
/- clavier/clavierref11.seq -/
def ir_clavierref11seq_l0 : ICode :=
 (.seq
 (.seq
 (.reg [⟨some 14, none, .mov (.t 8)⟩,
 ⟨some 15, none, .mov (.t 2)⟩,
 ⟨some 16, none, .len (.t 15)⟩,
 ⟨some 17, none, .bin .lss .none (.t 14) (.t 16)⟩] (some [2, 7, 8, 17]))
 (.cond (.t 17)
 .skip
 (.exit 0)))
 (.seq
 (.blk 1
 (.drw [⟨⟨some 20, none, .fa 2 (.t 7)⟩, []⟩,
 ⟨⟨some 21, none, .ld none (.t 20)⟩, [0]⟩,
 ⟨⟨some 22, none, .mov (.t 2)⟩, []⟩,
 ⟨⟨some 23, none, .mov (.t 8)⟩, []⟩,
 ⟨⟨some 24, none, .ia 1 (.t 22) (.t 23)⟩, [2, 3]⟩,
 ⟨⟨some 25, none, .ld none (.t 24)⟩, [4]⟩,
 ⟨⟨some 26, none, .row 3 1 [(.t 25)]⟩, [5]⟩,
 ⟨⟨some 27, none, .row 64 1 [(.t 26)]⟩, [6]⟩,
 ⟨⟨some 28, none, .app 64 1 24 (.t 21) (.t 27)⟩, [1, 7]⟩]
 [⟨some 29, none, .fa 2 (.t 7)⟩,
 ⟨none, none, .st 1 (.t 29) (.t 28)⟩] (some [2, 7, 8])))
 (.reg [⟨some 18, none, .mov (.t 8)⟩,
 ⟨some 19, none, .bin .add .none (.t 18) (.c (.int .i64 1))⟩,
 ⟨some 8, none, .mov (.t 19)⟩] (some [2, 7, 8]))))
def ir_clavierref11seq : ICode :=
 (.seq
 (.reg [⟨some 6, none, .mov (.c .nils)⟩] (some [0, 1, 2]))
 (.seq
 (.reg [⟨some 11, none, .mov (.t 0)⟩,
 ⟨some 12, none, .mov (.t 1)⟩,
 ⟨some 13, none, .bld [(.int .i64 0), (.int .u8 0), .nils, (.str []), (.int .u8 0), (.str [])] [(0, 1, (.t 11)), (4, 1, (.t 12))]⟩,
 ⟨some 7, none, .box 47 (.c (.agg [(.int .i64 0), (.int .u8 0), .nils, (.str []), (.int .u8 0), (.str [])]))⟩,
 ⟨none, none, .st 6 (.t 7) (.t 13)⟩] (some [2, 7]))
 (.seq
 (.seq
 (.reg [⟨some 8, none, .mov (.c (.int .i64 0))⟩] (some [2, 7, 8]))
 (.blk 0
 (.loop
 ir_clavierref11seq_l0)))
 (.seq
 (.reg [⟨some 31, none, .ld (some 6) (.t 7)⟩,
 ⟨some 32, none, .call (.c (.fn (.func 46) [] [])) [(.t 31)]⟩,
 ⟨some 30, none, .mov (.t 32)⟩,
 ⟨some 33, none, .ext (.t 30) 0⟩,
 ⟨some 34, none, .ext (.t 30) 1⟩,
 ⟨some 9, none, .mov (.t 33)⟩,
 ⟨some 10, none, .mov (.t 34)⟩] (some [9]))
 (.seq
 (.reg [⟨some 35, none, .mov (.t 9)⟩,
 ⟨some 6, none, .mov (.t 35)⟩] (some [6]))
 .ret)))))
theorem is_clavierref11seq : IrOf Tryz.prog 72 36 ir_clavierref11seq [.t 6] := ⟨_, Tryz.func72, rfl, by kernel_rfl, by kernel_rfl, by kernel_rfl⟩

def ir_clavierref11shown : ICode :=
 (.seq
 (.reg [⟨some 1, none, .box 25 (.t 0)⟩,
 ⟨some 2, none, .mov (.c .nils)⟩] (some [1]))
 (.seq
 (.reg [⟨some 7, none, .fa 1 (.t 1)⟩,
 ⟨some 8, none, .ld none (.t 7)⟩,
 ⟨some 9, none, .call (.c (.fn (.func 49) [] [])) [(.t 8), (.c (.int .i64 4))]⟩,
 ⟨some 3, none, .mov (.t 9)⟩] (some [1, 3]))
 (.seq
 (.seq
 (.reg [⟨some 10, none, .mov (.t 3)⟩,
 ⟨some 11, none, .un .not (.t 10)⟩,
 ⟨some 12, none, .mov (.t 11)⟩,
 ⟨some 13, some (12, true), .fa 5 (.t 1)⟩,
 ⟨some 14, some (12, true), .ld none (.t 13)⟩,
 ⟨some 15, some (12, true), .bin .neq .none (.t 14) (.c (.str []))⟩,
 ⟨some 16, none, .pick (.t 12) (.t 15) (.c (.bool false))⟩] (some [1, 3, 16]))
 (.cond (.t 16)
 (.seq
 (.reg [⟨some 17, none, .fa 5 (.t 1)⟩,
 ⟨some 18, none, .ld none (.t 17)⟩,
 ⟨some 19, none, .s2b 5 (.t 18)⟩,
 ⟨some 2, none, .mov (.t 19)⟩] (some [2]))
 .ret)
 .skip))
 (.seq
 (.reg [⟨some 20, none, .ld (some 6) (.t 1)⟩,
 ⟨some 21, none, .call (.c (.fn (.func 23) [] [])) [(.t 20)]⟩,
 ⟨some 4, none, .mov (.t 21)⟩] (some [3, 4]))
 (.seq
 (.reg [⟨some 23, none, .mov (.t 4)⟩,
 ⟨some 24, none, .call (.c (.fn (.func 90) [] [])) [(.t 23)]⟩,
 ⟨some 22, none, .mov (.t 24)⟩,
 ⟨some 25, none, .ext (.t 22) 0⟩,
 ⟨some 26, none, .ext (.t 22) 1⟩,
 ⟨some 5, none, .mov (.t 25)⟩,
 ⟨some 6, none, .mov (.t 26)⟩] (some [3, 4, 5, 6]))
 (.seq
 (.seq
 (.reg [⟨some 27, none, .mov (.t 3)⟩,
 ⟨some 28, none, .mov (.t 27)⟩,
 ⟨some 29, some (28, true), .mov (.t 6)⟩,
 ⟨some 30, none, .pick (.t 28) (.t 29) (.c (.bool false))⟩] (some [4, 5, 30]))
 (.cond (.t 30)
 (.seq
 (.reg [⟨some 31, none, .mov (.t 5)⟩,
 ⟨some 32, none, .cvi .u8 (.t 31)⟩,
 ⟨some 33, none, .row 5 1 [(.t 32)]⟩,
 ⟨some 2, none, .mov (.t 33)⟩] (some [2]))
 .ret)
 .skip))
 (.seq
 (.reg [⟨some 34, none, .mov (.t 4)⟩,
 ⟨some 35, none, .call (.c (.fn (.func 70) [] [])) [(.t 34)]⟩,
 ⟨some 2, none, .mov (.t 35)⟩] (some [2]))
 .ret)))))))
theorem is_clavierref11shown : IrOf Tryz.prog 74 36 ir_clavierref11shown [.t 2] := ⟨_, Tryz.func74, rfl, by kernel_rfl, by kernel_rfl, by kernel_rfl⟩

def ir_clavierref11plain : ICode :=
 (.seq
 (.reg [⟨some 2, none, .box 23 (.t 0)⟩,
 ⟨some 3, none, .box 25 (.t 1)⟩,
 ⟨some 4, none, .mov (.c .nils)⟩] (some [2, 3]))
 (.seq
 (.seq
 (.reg [⟨some 5, none, .fa 0 (.t 3)⟩,
 ⟨some 6, none, .ld none (.t 5)⟩] (some [2, 3, 6]))
 (.blk 0
 (.seq
 (.reg [⟨some 8, none, .bin .eql .none (.t 6) (.c (.int .i64 9))⟩,
 ⟨some 7, none, .mov (.t 8)⟩] (some [2, 3, 6, 7]))
 (.cond (.t 7)
 (.seq
 (.seq
 (.reg [⟨some 9, none, .fa 1 (.t 3)⟩,
 ⟨some 10, none, .ld none (.t 9)⟩,
 ⟨some 11, none, .call (.c (.fn (.func 49) [] [])) [(.t 10), (.c (.int .i64 1))]⟩] (some [11]))
 (.cond (.t 11)
 (.seq
 (.reg [⟨some 12, none, .call (.c (.fn (.func 72) [] [])) [(.c (.int .i64 1)), (.c (.int .u8 90)), (.c .nils)]⟩,
 ⟨some 4, none, .mov (.t 12)⟩] (some [4]))
 .ret)
 .skip))
 (.seq
 (.reg [⟨some 13, none, .row 5 1 [(.c (.int .u8 9))]⟩,
 ⟨some 4, none, .mov (.t 13)⟩] (some [4]))
 .ret))
 (.seq
 (.reg [⟨some 15, none, .bin .eql .none (.t 6) (.c (.int .i64 13))⟩,
 ⟨some 14, none, .mov (.t 15)⟩] (some [2, 3, 6, 14]))
 (.cond (.t 14)
 (.seq
 (.seq
 (.reg [⟨some 16, none, .fa 6 (.t 2)⟩,
 ⟨some 17, none, .ld none (.t 16)⟩] (some [17]))
 (.cond (.t 17)
 (.seq
 (.reg [⟨some 18, none, .row 5 1 [(.c (.int .u8 13)), (.c (.int .u8 10))]⟩,
 ⟨some 4, none, .mov (.t 18)⟩] (some [4]))
 .ret)
 .skip))
 (.seq
 (.reg [⟨some 19, none, .row 5 1 [(.c (.int .u8 13))]⟩,
 ⟨some 4, none, .mov (.t 19)⟩] (some [4]))
 .ret))
 (.seq
 (.reg [⟨some 21, none, .bin .eql .none (.t 6) (.c (.int .i64 27))⟩,
 ⟨some 20, none, .mov (.t 21)⟩] (some [2, 3, 20]))
 (.cond (.t 20)
 (.seq
 (.reg [⟨some 22, none, .row 5 1 [(.c (.int .u8 27))]⟩,
 ⟨some 4, none, .mov (.t 22)⟩] (some [4]))
 .ret)
 .skip))))))))
 (.seq
 (.seq
 (.drw [⟨⟨some 23, none, .fa 2 (.t 2)⟩, []⟩,
 ⟨⟨some 24, none, .ld none (.t 23)⟩, [0]⟩,
 ⟨⟨some 25, none, .fa 1 (.t 3)⟩, []⟩,
 ⟨⟨some 26, none, .ld none (.t 25)⟩, [2]⟩,
 ⟨⟨some 27, none, .call (.c (.fn (.func 49) [] [])) [(.t 26), (.c (.int .i64 4))]⟩, [3]⟩,
 ⟨⟨some 28, none, .bin .neq .bool (.t 24) (.t 27)⟩, [1, 4]⟩]
 [] (some [28]))
 (.cond (.t 28)
 (.seq
 (.reg [⟨some 29, none, .row 5 1 [(.c (.int .u8 8))]⟩,
 ⟨some 4, none, .mov (.t 29)⟩] (some [4]))
 .ret)
 .skip))
 (.seq
 (.reg [⟨some 30, none, .row 5 1 [(.c (.int .u8 127))]⟩,
 ⟨some 4, none, .mov (.t 30)⟩] (some [4]))
 .ret))))
theorem is_clavierref11plain : IrOf Tryz.prog 75 31 ir_clavierref11plain [.t 4] := ⟨_, Tryz.func75, rfl, by kernel_rfl, by kernel_rfl, by kernel_rfl⟩

def ir_clavierref11ahead : ICode :=
 (.seq
 (.reg [⟨some 2, none, .box 25 (.t 0)⟩,
 ⟨some 4, none, .mov (.c .nils)⟩] (some [1, 2]))
 (.seq
 (.seq
 (.reg [⟨some 6, none, .fa 1 (.t 2)⟩,
 ⟨some 7, none, .ld none (.t 6)⟩,
 ⟨some 8, none, .call (.c (.fn (.func 49) [] [])) [(.t 7), (.c (.int .i64 2))]⟩,
 ⟨some 9, none, .un .not (.t 8)⟩] (some [1, 9]))
 (.cond (.t 9)
 (.seq
 (.reg [⟨some 10, none, .mov (.t 1)⟩,
 ⟨some 4, none, .mov (.t 10)⟩] (some [4]))
 .ret)
 .skip))
 (.seq
 (.reg [⟨some 11, none, .row 5 1 [(.c (.int .u8 27))]⟩,
 ⟨some 12, none, .mov (.t 1)⟩,
 ⟨some 13, none, .app 5 1 1 (.t 11) (.t 12)⟩,
 ⟨some 5, none, .mov (.t 13)⟩] (some [5]))
 (.seq
 (.reg [⟨some 14, none, .mov (.t 5)⟩,
 ⟨some 4, none, .mov (.t 14)⟩] (some [4]))
 .ret))))
theorem is_clavierref11ahead : IrOf Tryz.prog 73 15 ir_clavierref11ahead [.t 4] := ⟨_, Tryz.func73, rfl, by kernel_rfl, by kernel_rfl, by kernel_rfl⟩

def ir_clavierref11functional : ICode :=
 (.seq
 (.reg [⟨some 3, none, .box 23 (.t 0)⟩,
 ⟨some 4, none, .box 55 (.t 1)⟩,
 ⟨some 6, none, .mov (.c .nils)⟩] (some [2, 3, 4]))
 (.seq
 (.seq
 (.reg [⟨some 7, none, .fa 0 (.t 4)⟩,
 ⟨some 8, none, .ld none (.t 7)⟩,
 ⟨some 9, none, .bin .eql .none (.t 8) (.c (.int .i64 4))⟩] (some [2, 3, 4, 9]))
 (.cond (.t 9)
 (.seq
 (.seq
 (.reg [⟨some 10, none, .mov (.t 2)⟩,
 ⟨some 11, none, .bin .eql .none (.t 10) (.c (.int .i64 0))⟩] (some [2, 4, 11]))
 (.cond (.t 11)
 (.seq
 (.reg [⟨some 12, none, .fa 2 (.t 4)⟩,
 ⟨some 13, none, .ld none (.t 12)⟩,
 ⟨some 14, none, .row 3 1 [(.t 13)]⟩,
 ⟨some 15, none, .call (.c (.fn (.func 72) [] [])) [(.c (.int .i64 1)), (.c (.int .u8 126)), (.t 14)]⟩,
 ⟨some 6, none, .mov (.t 15)⟩] (some [6]))
 .ret)
 .skip))
 (.seq
 (.reg [⟨some 16, none, .fa 2 (.t 4)⟩,
 ⟨some 17, none, .ld none (.t 16)⟩,
 ⟨some 18, none, .mov (.t 2)⟩,
 ⟨some 19, none, .bin .add .none (.c (.int .i64 1)) (.t 18)⟩,
 ⟨some 20, none, .row 3 1 [(.t 17), (.t 19)]⟩,
 ⟨some 21, none, .call (.c (.fn (.func 72) [] [])) [(.c (.int .i64 1)), (.c (.int .u8 126)), (.t 20)]⟩,
 ⟨some 6, none, .mov (.t 21)⟩] (some [6]))
 .ret))
 .skip))
 (.seq
 (.seq
 (.reg [⟨some 22, none, .mov (.t 2)⟩,
 ⟨some 23, none, .bin .gtr .none (.t 22) (.c (.int .i64 0))⟩] (some [2, 3, 4, 23]))
 (.cond (.t 23)
 (.seq
 (.reg [⟨some 24, none, .fa 1 (.t 4)⟩,
 ⟨some 25, none, .ld none (.t 24)⟩,
 ⟨some 26, none, .mov (.t 2)⟩,
 ⟨some 27, none, .bin .add .none (.c (.int .i64 1)) (.t 26)⟩,
 ⟨some 28, none, .row 3 1 [(.c (.int .i64 1)), (.t 27)]⟩,
 ⟨some 29, none, .call (.c (.fn (.func 72) [] [])) [(.c (.int .i64 1)), (.t 25), (.t 28)]⟩,
 ⟨some 6, none, .mov (.t 29)⟩] (some [6]))
 .ret)
 .skip))
 (.seq
 (.seq
 (.reg [⟨some 30, none, .fa 0 (.t 3)⟩,
 ⟨some 31, none, .ld none (.t 30)⟩,
 ⟨some 32, none, .mov (.t 31)⟩,
 ⟨some 33, some (32, false), .fa 1 (.t 4)⟩,
 ⟨some 34, some (32, false), .ld none (.t 33)⟩,
 ⟨some 35, some (32, false), .bin .geq .none (.t 34) (.c (.int .u8 80))⟩,
 ⟨some 36, none, .pick (.t 32) (.c (.bool true)) (.t 35)⟩] (some [4, 36]))
 (.cond (.t 36)
 (.seq
 (.reg [⟨some 37, none, .fa 1 (.t 4)⟩,
 ⟨some 38, none, .ld none (.t 37)⟩,
 ⟨some 39, none, .call (.c (.fn (.func 72) [] [])) [(.c (.int .i64 2)), (.t 38), (.c .nils)]⟩,
 ⟨some 6, none, .mov (.t 39)⟩] (some [6]))
 .ret)
 .skip))
 (.seq
 (.reg [⟨some 40, none, .fa 1 (.t 4)⟩,
 ⟨some 41, none, .ld none (.t 40)⟩,
 ⟨some 42, none, .call (.c (.fn (.func 72) [] [])) [(.c (.int .i64 1)), (.t 41), (.c .nils)]⟩,
 ⟨some 6, none, .mov (.t 42)⟩] (some [6]))
 .ret)))))
theorem is_clavierref11functional : IrOf Tryz.prog 76 43 ir_clavierref11functional [.t 6] := ⟨_, Tryz.func76, rfl, by kernel_rfl, by kernel_rfl, by kernel_rfl⟩

def ir_clavierref11Key : ICode :=
 (.seq
 (.reg [⟨some 2, none, .box 23 (.t 0)⟩,
 ⟨some 3, none, .box 25 (.t 1)⟩,
 ⟨some 4, none, .mov (.c .nils)⟩] (some [2, 3]))
 (.seq
 (.seq
 (.reg [⟨some 7, none, .ld (some 6) (.t 3)⟩,
 ⟨some 8, none, .call (.c (.fn (.func 17) [] [])) [(.t 7)]⟩,
 ⟨some 9, none, .un .not (.t 8)⟩,
 ⟨some 10, none, .mov (.t 9)⟩,
 ⟨some 11, some (10, false), .fa 2 (.t 3)⟩,
 ⟨some 12, some (10, false), .ld none (.t 11)⟩,
 ⟨some 13, some (10, false), .bin .eql .none (.t 12) (.c (.int .i64 3))⟩,
 ⟨some 14, none, .pick (.t 10) (.c (.bool true)) (.t 13)⟩] (some [2, 3, 14]))
 (.cond (.t 14)
 (.seq
 (.reg [⟨some 4, none, .mov (.c .nils)⟩] (some [4]))
 .ret)
 .skip))
 (.seq
 (.reg [⟨some 15, none, .fa 0 (.t 3)⟩,
 ⟨some 16, none, .ld none (.t 15)⟩,
 ⟨some 17, none, .call (.c (.fn (.func 33) [] [])) [(.t 16)]⟩,
 ⟨some 5, none, .box 55 (.c (.agg [(.int .i64 0), (.int .u8 0), (.int .i64 0), (.int .i64 0), (.bool false)]))⟩,
 ⟨none, none, .st 5 (.t 5) (.t 17)⟩] (some [2, 3, 5]))
 (.seq
 (.reg [⟨some 18, none, .fa 1 (.t 3)⟩,
 ⟨some 19, none, .ld none (.t 18)⟩,
 ⟨some 20, none, .call (.c (.fn (.func 25) [] [])) [(.t 19)]⟩,
 ⟨some 6, none, .mov (.t 20)⟩] (some [2, 3, 5, 6]))
 (.seq
 (.seq
 (.reg [⟨some 21, none, .fa 0 (.t 5)⟩,
 ⟨some 22, none, .ld none (.t 21)⟩,
 ⟨some 23, none, .bin .eql .none (.t 22) (.c (.int .i64 5))⟩,
 ⟨some 24, none, .mov (.t 23)⟩,
 ⟨some 25, some (24, true), .fa 1 (.t 2)⟩,
 ⟨some 26, some (24, true), .ld none (.t 25)⟩,
 ⟨some 27, none, .pick (.t 24) (.t 26) (.c (.bool false))⟩,
 ⟨some 28, none, .mov (.t 27)⟩,
 ⟨some 29, some (28, true), .mov (.t 6)⟩,
 ⟨some 30, some (28, true), .bin .eql .none (.t 29) (.c (.int .i64 0))⟩,
 ⟨some 31, none, .pick (.t 28) (.t 30) (.c (.bool false))⟩] (some [2, 3, 5, 6, 31]))
 (.cond (.t 31)
 (.seq
 (.reg [⟨some 32, none, .fa 1 (.t 5)⟩,
 ⟨some 33, none, .ld none (.t 32)⟩,
 ⟨some 34, none, .call (.c (.fn (.func 72) [] [])) [(.c (.int .i64 2)), (.t 33), (.c .nils)]⟩,
 ⟨some 4, none, .mov (.t 34)⟩] (some [4]))
 .ret)
 .skip))
 (.seq
 (.seq
 (.reg [⟨some 35, none, .fa 0 (.t 5)⟩,
 ⟨some 36, none, .ld none (.t 35)⟩,
 ⟨some 37, none, .bin .eql .none (.t 36) (.c (.int .i64 5))⟩] (some [2, 3, 5, 6, 37]))
 (.cond (.t 37)
 (.seq
 (.reg [⟨some 38, none, .fa 3 (.t 5)⟩,
 ⟨some 39, none, .ld none (.t 38)⟩,
 ⟨some 40, none, .fa 0 (.t 3)⟩,
 ⟨none, none, .st 1 (.t 40) (.t 39)⟩] (some [2, 3, 5, 6]))
 (.seq
 (.reg [⟨some 41, none, .fa 3 (.t 3)⟩,
 ⟨none, none, .st 1 (.t 41) (.c (.int .i64 0))⟩] (some [2, 3, 5, 6]))
 (.reg [⟨some 42, none, .fa 3 (.t 5)⟩,
 ⟨some 43, none, .ld none (.t 42)⟩,
 ⟨some 44, none, .call (.c (.fn (.func 33) [] [])) [(.t 43)]⟩,
 ⟨none, none, .st 5 (.t 5) (.t 44)⟩] (some [2, 3, 5, 6]))))
 .skip))
 (.seq
 (.seq
 (.reg [⟨some 45, none, .fa 0 (.t 5)⟩,
 ⟨some 46, none, .ld none (.t 45)⟩] (some [2, 3, 5, 6, 46]))
 (.blk 0
 (.seq
 (.reg [⟨some 48, none, .bin .eql .none (.t 46) (.c (.int .i64 1))⟩,
 ⟨some 47, none, .mov (.t 48)⟩] (some [2, 3, 5, 6, 46, 47]))
 (.cond (.t 47)
 (.seq
 (.drw [⟨⟨some 49, none, .ld (some 6) (.t 3)⟩, []⟩,
 ⟨⟨some 50, none, .ld (some 6) (.t 3)⟩, []⟩,
 ⟨⟨some 51, none, .call (.c (.fn (.func 74) [] [])) [(.t 50)]⟩, [1]⟩,
 ⟨⟨some 52, none, .call (.c (.fn (.func 73) [] [])) [(.t 49), (.t 51)]⟩, [0, 2, 2]⟩]
 [⟨some 4, none, .mov (.t 52)⟩] (some [4]))
 .ret)
 (.seq
 (.reg [⟨some 54, none, .bin .eql .none (.t 46) (.c (.int .i64 2))⟩,
 ⟨some 53, none, .mov (.t 54)⟩] (some [2, 3, 5, 6, 46, 53]))
 (.cond (.t 53)
 (.seq
 (.drw [⟨⟨some 55, none, .ld (some 6) (.t 3)⟩, []⟩,
 ⟨⟨some 56, none, .ld (some 10) (.t 2)⟩, []⟩,
 ⟨⟨some 57, none, .ld (some 6) (.t 3)⟩, []⟩,
 ⟨⟨some 58, none, .call (.c (.fn (.func 75) [] [])) [(.t 56), (.t 57)]⟩, [1, 2]⟩,
 ⟨⟨some 59, none, .call (.c (.fn (.func 73) [] [])) [(.t 55), (.t 58)]⟩, [0, 3, 3]⟩]
 [⟨some 4, none, .mov (.t 59)⟩] (some [4]))
 .ret)
 (.seq
 (.seq
 (.reg [⟨some 61, none, .bin .eql .none (.t 46) (.c (.int .i64 3))⟩,
 ⟨some 60, none, .mov (.t 61)⟩] (some [2, 5, 6, 46, 60]))
 (.cond (.t 60)
 .skip
 (.reg [⟨some 62, none, .bin .eql .none (.t 46) (.c (.int .i64 4))⟩,
 ⟨some 60, none, .mov (.t 62)⟩] (some [2, 5, 6, 60]))))
 (.cond (.t 60)
 (.seq
 (.reg [⟨some 63, none, .ld (some 10) (.t 2)⟩,
 ⟨some 64, none, .ld (some 5) (.t 5)⟩,
 ⟨some 65, none, .mov (.t 6)⟩,
 ⟨some 66, none, .call (.c (.fn (.func 76) [] [])) [(.t 63), (.t 64), (.t 65)]⟩,
 ⟨some 4, none, .mov (.t 66)⟩] (some [4]))
 .ret)
 .skip))))))))
 (.seq
 (.reg [⟨some 4, none, .mov (.c .nils)⟩] (some [4]))
 .ret))))))))
theorem is_clavierref11Key : IrOf Tryz.prog 32 67 ir_clavierref11Key [.t 4] := ⟨_, Tryz.func32, rfl, by kernel_rfl, by kernel_rfl, by kernel_rfl⟩

theorem fs_rPutX {Gl : Gh → Prop} (hst : Stays Gl) {s : Sq} (hp0 : 0 ≤ s.pr) (hp1 : s.pr < 256) (hf0 : 0 ≤ s.fi) (hf1 : s.fi < 256) (h : s.sm) : FS Tryz.prog Gl 46 [.agg s.c] [] [] (.tup [.sl none 1 (bytesAV (putX s)), .int .i64 (mayP s)]) [] [] := by
  have := fs_rPut (Gl := Gl) hst hp0 hp1 hf0 hf1 h
  exact FSR.res this fun r H T ⟨h1, h2, h3⟩ => ⟨_, fun f => by
    subst h1
    have hrn : Ab.rn f (putV s) = putV s := by unfold putV; split <;> rfl
    simp only [Ab.rn, rnL, hrn]
    exact RepLe.tup ⟨putV_le s, RepLe.refl _, trivial⟩, rfl, h2, h3⟩
theorem fs_rSeqN {Gl : Gh → Prop} (hst : Stays Gl) {k fi : Int} {nums : List Int} {tn : Option Nm} (hn : nums.length ≤ 1000) (hf0 : 0 ≤ fi) (hf1 : fi < 256) : FS Tryz.prog Gl 72 [.int .i64 k, .int .u8 fi, .sl tn 1 (intsAV nums)] [] [] (.sl none 1 (bytesAV (putX (numSq k 0 fi nums)))) [] [] := by
  refine FS.ofW hm hst is_clavierref11seq rfl (by simp) fun γ hγ hfr => ?_
  have c1 := fs_rPutX (Gl := Gl) hst (s := numSq k 0 fi nums) (by simp [numSq]) (by simp [numSq]) hf0 hf1 (sm_num hn)
  have hc : (numSq k 0 fi nums).c = [.int .i64 k, .int .u8 0, .sl none 1 (parsAV (nums.map fun n => [n])), .str [], .int .u8 fi, .str []] := rfl
  rw [hc] at c1
  (generalize hQ : (fun (ex : Ex) (_ _ : Nat) (s : St) => _) = Q; unfold ir_clavierref11seq)
  simp +contextual (maxSteps := 1000000) only [go_sem, reduceCtorEq, ↓reduceIte, Nat.reduceAdd, Nat.reduceEqDiff, Nat.reduceLeDiff, Nat.reduceMul, Nat.reduceBEq, Int.reduceBEq, Int.reduceBNe, Int.reduceLT, Int.reduceLE, Int.reduceGT, Int.reduceGE, Int.reduceToNat]
  refine kLoop_ix (fun q : Nat × Option Nm => ⟨lf [(2, .sl tn 1 (intsAV nums)), (7, .ptr (γ, 4, 0) 0), (8, .int .i64 q.1)], [((γ, 4, 0), .cells [.int .i64 k, .int .u8 0, sv q.2 1 (parsAV ((nums.take q.1).map fun n => [n])), .str [], .int .u8 fi, .str []])], fun x => q.2 = some x⟩)
    (fun q => q.1 ≤ nums.length ∧ (q.2 = none → q.1 = 0)) (fun q => nums.length - q.1) 0 (0, none) ?_ ⟨by simp, by simp⟩ ?_
  · refine Wk.perm' ?_ (fun p hp => hp) (fun t ht => by cases ht)
    simp only [lfOK, intsAV_length]
    repeat' first | exact AVle.refl _ _ | exact trivial | refine And.intro ?_ ?_ | exact AVle.int (by simp only [IntKind.wrap_i64]; omega)
  rintro γ' ⟨i, tk⟩ hf ⟨hi, htk⟩
  simp only at hi htk hf
  generalize hQ' : kIt _ _ _ _ _ = Q'
  unfold ir_clavierref11seq_l0
  by_cases hlt : i < nums.length
  · have hd : decide ((i : Int) < (nums.length : Int)) = true := decide_eq_true (by omega)
    have hg1 : (intsAV nums).getD i [] = [.int .i64 nums[i]] := intsAV_get hlt
    have hw : IntKind.i64.wrap ((i : Int) + 1) = ((i + 1 : Nat) : Int) := by rw [IntKind.wrap_i64]; omega
    have hsn : parsAV ((nums.take (i + 1)).map fun n => [n]) = parsAV ((nums.take i).map fun n => [n]) ++ [[intsV [nums[i]]]] := by
      rw [List.take_add_one, List.getElem?_eq_getElem hlt, List.map_append]
      unfold parsAV
      rw [List.map_append]; rfl
    have hln : (parsAV ((nums.take i).map fun n => [n])).length = i := by rw [parsAV_length, List.length_map, List.length_take]; omega
    cases tk with
    | none =>
      obtain rfl := htk rfl
      have hd0 : decide (0 < (nums.length : Int)) = true := decide_eq_true (by omega)
      have hg0 : (intsAV nums).getD 0 [] = [.int .i64 nums[0]] := hg1
      simp +contextual (maxSteps := 1000000) only [hd0, hg0, Int.toNat_natCast, intsAV_length, Int.toNat_zero, go_sem, reduceCtorEq, ↓reduceIte, Nat.reduceAdd, Nat.reduceEqDiff, Nat.reduceLeDiff, Nat.reduceMul, Nat.reduceBEq, Int.reduceBEq, Int.reduceBNe, Int.reduceLT, Int.reduceLE, Int.reduceGT, Int.reduceGE, Int.reduceToNat]
      refine ⟨by omega, ?_⟩
      rw [← hQ']
      simp only [w_kIt_n]
      refine ⟨0, (1, some (γ', 12, 0)), Wk.perm' ?_ (fun p hp => ?_) (fun t ht => ?_), ⟨by simp only; omega, by simp⟩, by simp only; omega⟩
      · repeat' first | exact AVle.refl _ _ | exact trivial | refine And.intro ?_ ?_ | exact AVle.int (by simp only [IntKind.wrap_i64]; omega)
      · have e : sv (some ((γ', 12, 0) : Nm)) 1 (parsAV ((nums.take 1).map fun n => [n])) = .sl (some (γ', 12, 0)) 1 [[.sl none 1 [[.int .i64 nums[0]]]]] := by
          rw [show nums.take 1 = [nums[0]] by cases nums with | nil => simp at hlt | cons x l => rfl]; rfl
        simp only [e] at hp
        exact hp
      · simp only [Option.some.injEq] at ht
        subst ht
        simp
    | some t0 =>
      simp +contextual (maxSteps := 1000000) only [hd, hg1, Int.toNat_natCast, intsAV_length, hln, go_sem, reduceCtorEq, ↓reduceIte, Nat.reduceAdd, Nat.reduceEqDiff, Nat.reduceLeDiff, Nat.reduceMul, Nat.reduceBEq, Int.reduceBEq, Int.reduceBNe, Int.reduceLT, Int.reduceLE, Int.reduceGT, Int.reduceGE, Int.reduceToNat]
      refine ⟨⟨by omega, by omega⟩, .inl trivial, by omega, by simp, ?_⟩
      rw [← hQ']
      simp only [w_kIt_n]
      refine ⟨0, (i + 1, some (γ', 12, 0)), Wk.perm' ?_ (fun p hp => ?_) (fun t ht => ?_), ⟨by simp only; omega, by simp⟩, by simp only; omega⟩
      · rw [hw]
        repeat' first | exact AVle.refl _ _ | exact trivial | refine And.intro ?_ ?_ | exact AVle.int (by simp only [IntKind.wrap_i64]; omega)
      · simp only [sv_some, hsn] at hp
        exact hp
      · simp only [Option.some.injEq] at ht
        subst ht
        refine ⟨.inl (by simp), fun e => ?_⟩
        exact hf.2.2 t0 (by simp) (by rw [← e])
  · have hd : decide ((i : Int) < (nums.length : Int)) = false := decide_eq_false (by omega)
    simp +contextual (maxSteps := 1000000) only [hd, intsAV_length, go_sem, reduceCtorEq, ↓reduceIte, Nat.reduceAdd, Nat.reduceEqDiff, Nat.reduceLeDiff, Nat.reduceMul, Nat.reduceBEq, Int.reduceBEq, Int.reduceBNe, Int.reduceLT, Int.reduceLE, Int.reduceGT, Int.reduceGE, Int.reduceToNat]
    rw [← hQ']
    simp only [w_kIt_e, w_kBlk_e, ↓reduceIte]
    have hall : nums.take i = nums := List.take_of_length_le (by omega)
    cases tk with
    | none =>
      obtain rfl := htk rfl
      have hn0 : nums = [] := List.length_eq_zero_iff.1 (by omega)
      subst hn0
      have c2 := c1.args (args := [.agg [.int .i64 k, .int .u8 0, .nils, .str [], .int .u8 fi, .str []]]) ⟨RepLe.agg ⟨.refl _, .refl _, .nils 1, .refl _, .refl _, .refl _, trivial⟩, trivial⟩
      simp +contextual (maxSteps := 1000000) only [go_sem, reduceCtorEq, ↓reduceIte, Nat.reduceAdd, Nat.reduceEqDiff, Nat.reduceLeDiff, Nat.reduceMul, Nat.reduceBEq, Int.reduceBEq, Int.reduceBNe, Int.reduceLT, Int.reduceLE, Int.reduceGT, Int.reduceGE, Int.reduceToNat]
      (refine CallP.pure (c2) (fun _ => rfl) ?_; simp +contextual (maxSteps := 1000000) only [go_sem, reduceCtorEq, ↓reduceIte, Nat.reduceAdd, Nat.reduceEqDiff, Nat.reduceLeDiff, Nat.reduceMul, Nat.reduceBEq, Int.reduceBEq, Int.reduceBNe, Int.reduceLT, Int.reduceLE, Int.reduceGT, Int.reduceGE, Int.reduceToNat])
      rw [← hQ]
      exact ⟨trivial, .inl ⟨_, rfl, RepLe.refl _⟩⟩
    | some t0 =>
      have c2 := c1.args (args := [.agg [.int .i64 k, .int .u8 0, .sl (some t0) 1 (parsAV (nums.map fun n => [n])), .str [], .int .u8 fi, .str []]]) ⟨RepLe.agg ⟨.refl _, .refl _, .anon' rfl, .refl _, .refl _, .refl _, trivial⟩, trivial⟩
      simp +contextual (maxSteps := 1000000) only [hall, go_sem, reduceCtorEq, ↓reduceIte, Nat.reduceAdd, Nat.reduceEqDiff, Nat.reduceLeDiff, Nat.reduceMul, Nat.reduceBEq, Int.reduceBEq, Int.reduceBNe, Int.reduceLT, Int.reduceLE, Int.reduceGT, Int.reduceGE, Int.reduceToNat]
      (refine CallP.pure (c2) (fun _ => rfl) ?_; simp +contextual (maxSteps := 1000000) only [go_sem, reduceCtorEq, ↓reduceIte, Nat.reduceAdd, Nat.reduceEqDiff, Nat.reduceLeDiff, Nat.reduceMul, Nat.reduceBEq, Int.reduceBEq, Int.reduceBNe, Int.reduceLT, Int.reduceLE, Int.reduceGT, Int.reduceGE, Int.reduceToNat])
      rw [← hQ]
      exact ⟨trivial, .inl ⟨_, rfl, RepLe.refl _⟩⟩
theorem fs_rSeq0 {Gl : Gh → Prop} (hst : Stays Gl) {k fi : Int} (hf0 : 0 ≤ fi) (hf1 : fi < 256) : FS Tryz.prog Gl 72 [.int .i64 k, .int .u8 fi, .nils] [] [] (.sl none 1 (bytesAV (putX (numSq k 0 fi [])))) [] [] :=
  (fs_rSeqN hst (nums := []) (tn := none) (by simp) hf0 hf1).args ⟨.refl _, .refl _, .nils 1, trivial⟩
set_option maxHeartbeats 4000000 in
theorem fs_rShownL {Gl : Gh → Prop} (hst : Stays Gl) {k : Ky} (h1 : k.mods ≤ 255) (ht : k.text.length ≤ 1000000000000) : FS Tryz.prog Gl 74 [.agg (kyAV k)] [] [] (.sl none 1 (bytesAV (shownL k))) [] [] := by
  refine FS.ofW hm hst is_clavierref11shown rfl (by simp) fun γ hγ hfr => ?_
  have hky : kyAV k = [.int .i64 k.code, .int .i64 k.mods, .int .i64 k.type, .int .i64 k.shifted, .int .i64 k.base, .str k.text] := rfl
  have c0 := fs_Has (Gl := Gl) hst (m := k.mods) (one := 4) (by omega) (by omega)
  have c1 := fs_rShown (Gl := Gl) hst (k := k) (by omega)
  have c2 : FS Tryz.prog Gl 90 [.int .i64 (shownK k)] [] [] (.tup [.int .i64 ((foldK (shownK k)).getD 0), .bool (foldK (shownK k)).isSome]) [] [] := fs_rFold (Gl := Gl) hst
  rw [hky] at c1
  have hsh : shownL k = if (!hasK k.mods 4 && !decide (k.text = [])) = true then k.text
    else if ((foldK (shownK k)).isSome && hasK k.mods 4) = true then [UInt8.ofNat ((foldK (shownK k)).getD 0).toNat] else putU (shownK k) := rfl
  simp only [hky]
  (generalize hQ : (fun (ex : Ex) (_ _ : Nat) (s : St) => _) = Q; unfold ir_clavierref11shown)
  simp +contextual (maxSteps := 1000000) only [go_sem, reduceCtorEq, ↓reduceIte, Nat.reduceAdd, Nat.reduceEqDiff]
  (refine CallP.pure (c0) (fun _ => rfl) ?_; simp +contextual (maxSteps := 1000000) only [go_sem, reduceCtorEq, ↓reduceIte, Nat.reduceAdd, Nat.reduceEqDiff])
  cases hA : (!hasK k.mods 4 && !decide (k.text = [])) with
  | true =>
    simp +contextual (maxSteps := 1000000) only [hA, go_sem, reduceCtorEq, ↓reduceIte, Nat.reduceAdd, Nat.reduceEqDiff]
    refine ⟨by simp only [maxLen]; omega, ?_⟩
    rw [← hQ, hsh, if_pos hA]
    exact ⟨trivial, .inl ⟨_, rfl, RepLe.refl _⟩⟩
  | false =>
    simp +contextual (maxSteps := 1000000) only [hA, go_sem, reduceCtorEq, ↓reduceIte, Nat.reduceAdd, Nat.reduceEqDiff]
    (refine CallP.pure (c1) (fun _ => rfl) ?_; simp +contextual (maxSteps := 1000000) only [go_sem, reduceCtorEq, ↓reduceIte, Nat.reduceAdd, Nat.reduceEqDiff])
    (refine CallP.pure (c2) (fun _ => rfl) ?_; simp +contextual (maxSteps := 1000000) only [go_sem, reduceCtorEq, ↓reduceIte, Nat.reduceAdd, Nat.reduceEqDiff])
    have hcomm : (hasK k.mods 4 && (foldK (shownK k)).isSome) = ((foldK (shownK k)).isSome && hasK k.mods 4) := Bool.and_comm _ _
    cases hB : ((foldK (shownK k)).isSome && hasK k.mods 4) with
    | true =>
      rw [hB] at hcomm
      simp +contextual (maxSteps := 1000000) only [hcomm, go_sem, reduceCtorEq, ↓reduceIte, Nat.reduceAdd, Nat.reduceEqDiff]
      have hrow : [[AV.int IntKind.u8 (IntKind.u8.wrap ((foldK (shownK k)).getD 0))]] = bytesAV [UInt8.ofNat ((foldK (shownK k)).getD 0).toNat] := by
        obtain ⟨f0, f1⟩ := fold_range (shownK k)
        generalize (foldK (shownK k)).getD 0 = f at *
        have : ((UInt8.ofNat f.toNat).toNat : Int) = IntKind.u8.wrap f := by
          rw [IntKind.wrap_u8, UInt8.toNat_ofNat', Nat.mod_eq_of_lt (by omega)]; omega
        simp only [bytesAV, List.map_cons, List.map_nil, this]
      rw [hrow, ← hQ, hsh, if_neg (by rw [hA]; simp), if_pos hB]
      exact ⟨trivial, .inl ⟨_, rfl, RepLe.anon _ _ _⟩⟩
    | false =>
      rw [hB] at hcomm
      simp +contextual (maxSteps := 1000000) only [hcomm, go_sem, reduceCtorEq, ↓reduceIte, Nat.reduceAdd, Nat.reduceEqDiff]
      (refine CallP.pure (fs_rPutU hst) (fun _ => rfl) ?_; simp +contextual (maxSteps := 1000000) only [go_sem, reduceCtorEq, ↓reduceIte, Nat.reduceAdd, Nat.reduceEqDiff])
      rw [← hQ, hsh, if_neg (by rw [hA]; simp), if_neg (by rw [hB]; simp)]
      exact ⟨trivial, .inl ⟨_, rfl, RepLe.refl _⟩⟩
set_option maxHeartbeats 4000000 in
theorem fs_rPlainB {Gl : Gh → Prop} (hst : Stays Gl) {m : Md} {k : Ky} (h1 : k.mods ≤ 255) (hc : k.code = 9 ∨ k.code = 13 ∨ k.code = 27 ∨ k.code = 127) : FS Tryz.prog Gl 75 [.agg (mdAV m), .agg (kyAV k)] [] [] (.sl none 1 (bytesAV (plainB m k))) [] [] := by
  refine FS.ofW hm hst is_clavierref11plain rfl (by simp) fun γ hγ hfr => ?_
  have hky : kyAV k = [.int .i64 k.code, .int .i64 k.mods, .int .i64 k.type, .int .i64 k.shifted, .int .i64 k.base, .str k.text] := rfl
  have hmd : mdAV m = [.bool m.cursor, .bool m.keypad, .bool m.back, .bool m.focus, .bool m.paste, .bool m.lock, .bool m.line, .int .i64 m.mouse, .int .i64 m.coding, .int .i64 m.other] := rfl
  have c0 := fs_Has (Gl := Gl) hst (m := k.mods) (one := 4) (by omega) (by omega)
  have c1 := fs_Has (Gl := Gl) hst (m := k.mods) (one := 1) (by omega) (by omega)
  have c2 := fs_rSeq0 (Gl := Gl) hst (k := 1) (fi := 90) (by omega) (by omega)
  have hpl : plainB m k = if ((k.code == 9) && hasK k.mods 1) = true then putX (numSq 1 0 90 []) else if ((k.code == 13) && m.line) = true then [13, 10] else if ((k.code == 127) && !(m.back == hasK k.mods 4)) = true then [8] else [UInt8.ofNat (k.code % 256).toNat] := rfl
  simp only [hky, hmd]
  (generalize hQ : (fun (ex : Ex) (_ _ : Nat) (s : St) => _) = Q; unfold ir_clavierref11plain)
  simp +contextual (maxSteps := 1000000) only [go_sem, reduceCtorEq, ↓reduceIte, Nat.reduceAdd, Nat.reduceEqDiff, Nat.reduceLeDiff, Nat.reduceMul, Nat.reduceBEq, Int.reduceBEq, Int.reduceBNe, Int.reduceLT, Int.reduceLE, Int.reduceGT, Int.reduceGE, Int.reduceToNat]
  rcases hc with hc | hc | hc | hc
  · simp +contextual (maxSteps := 1000000) only [hc, go_sem, reduceCtorEq, ↓reduceIte, Nat.reduceAdd, Nat.reduceEqDiff, Nat.reduceLeDiff, Nat.reduceMul, Nat.reduceBEq, Int.reduceBEq, Int.reduceBNe, Int.reduceLT, Int.reduceLE, Int.reduceGT, Int.reduceGE, Int.reduceToNat]
    (refine CallP.pure (c1) (fun _ => rfl) ?_; simp +contextual (maxSteps := 1000000) only [go_sem, reduceCtorEq, ↓reduceIte, Nat.reduceAdd, Nat.reduceEqDiff, Nat.reduceLeDiff, Nat.reduceMul, Nat.reduceBEq, Int.reduceBEq, Int.reduceBNe, Int.reduceLT, Int.reduceLE, Int.reduceGT, Int.reduceGE, Int.reduceToNat])
    cases hA : hasK k.mods 1 with
    | true =>
      simp +contextual (maxSteps := 1000000) only [hA, go_sem, reduceCtorEq, ↓reduceIte, Nat.reduceAdd, Nat.reduceEqDiff, Nat.reduceLeDiff, Nat.reduceMul, Nat.reduceBEq, Int.reduceBEq, Int.reduceBNe, Int.reduceLT, Int.reduceLE, Int.reduceGT, Int.reduceGE, Int.reduceToNat]
      (refine CallP.pure (c2) (fun _ => rfl) ?_; simp +contextual (maxSteps := 1000000) only [go_sem, reduceCtorEq, ↓reduceIte, Nat.reduceAdd, Nat.reduceEqDiff, Nat.reduceLeDiff, Nat.reduceMul, Nat.reduceBEq, Int.reduceBEq, Int.reduceBNe, Int.reduceLT, Int.reduceLE, Int.reduceGT, Int.reduceGE, Int.reduceToNat])
      rw [← hQ, hpl, hc, hA]
      exact ⟨trivial, .inl ⟨_, rfl, RepLe.refl _⟩⟩
    | false =>
      simp +contextual (maxSteps := 1000000) only [hA, go_sem, reduceCtorEq, ↓reduceIte, Nat.reduceAdd, Nat.reduceEqDiff, Nat.reduceLeDiff, Nat.reduceMul, Nat.reduceBEq, Int.reduceBEq, Int.reduceBNe, Int.reduceLT, Int.reduceLE, Int.reduceGT, Int.reduceGE, Int.reduceToNat]
      rw [← hQ, hpl, hc, hA]
      exact ⟨trivial, .inl ⟨_, rfl, RepLe.anon _ _ _⟩⟩
  · cases hA : m.line with
    | true =>
      simp +contextual (maxSteps := 1000000) only [hc, hA, go_sem, reduceCtorEq, ↓reduceIte, Nat.reduceAdd, Nat.reduceEqDiff, Nat.reduceLeDiff, Nat.reduceMul, Nat.reduceBEq, Int.reduceBEq, Int.reduceBNe, Int.reduceLT, Int.reduceLE, Int.reduceGT, Int.reduceGE, Int.reduceToNat]
      rw [← hQ, hpl, hc, hA]
      exact ⟨trivial, .inl ⟨_, rfl, RepLe.anon _ _ _⟩⟩
    | false =>
      simp +contextual (maxSteps := 1000000) only [hc, hA, go_sem, reduceCtorEq, ↓reduceIte, Nat.reduceAdd, Nat.reduceEqDiff, Nat.reduceLeDiff, Nat.reduceMul, Nat.reduceBEq, Int.reduceBEq, Int.reduceBNe, Int.reduceLT, Int.reduceLE, Int.reduceGT, Int.reduceGE, Int.reduceToNat]
      rw [← hQ, hpl, hc, hA]
      exact ⟨trivial, .inl ⟨_, rfl, RepLe.anon _ _ _⟩⟩
  · simp +contextual (maxSteps := 1000000) only [hc, go_sem, reduceCtorEq, ↓reduceIte, Nat.reduceAdd, Nat.reduceEqDiff, Nat.reduceLeDiff, Nat.reduceMul, Nat.reduceBEq, Int.reduceBEq, Int.reduceBNe, Int.reduceLT, Int.reduceLE, Int.reduceGT, Int.reduceGE, Int.reduceToNat]
    rw [← hQ, hpl, hc]
    exact ⟨trivial, .inl ⟨_, rfl, RepLe.anon _ _ _⟩⟩
  · simp +contextual (maxSteps := 1000000) only [hc, go_sem, reduceCtorEq, ↓reduceIte, Nat.reduceAdd, Nat.reduceEqDiff, Nat.reduceLeDiff, Nat.reduceMul, Nat.reduceBEq, Int.reduceBEq, Int.reduceBNe, Int.reduceLT, Int.reduceLE, Int.reduceGT, Int.reduceGE, Int.reduceToNat]
    refine DCall.new c0 ?_
    simp +contextual (maxSteps := 1000000) only [go_sem, reduceCtorEq, ↓reduceIte, Nat.reduceAdd, Nat.reduceEqDiff, Nat.reduceLeDiff, Nat.reduceMul, Nat.reduceBEq, Int.reduceBEq, Int.reduceBNe, Int.reduceLT, Int.reduceLE, Int.reduceGT, Int.reduceGE, Int.reduceToNat]
    cases hA : (m.back == hasK k.mods 4) with
    | true =>
      simp +contextual (maxSteps := 1000000) only [hA, go_sem, reduceCtorEq, ↓reduceIte, Nat.reduceAdd, Nat.reduceEqDiff, Nat.reduceLeDiff, Nat.reduceMul, Nat.reduceBEq, Int.reduceBEq, Int.reduceBNe, Int.reduceLT, Int.reduceLE, Int.reduceGT, Int.reduceGE, Int.reduceToNat]
      rw [← hQ, hpl, hc, hA]
      exact ⟨trivial, .inl ⟨_, rfl, RepLe.anon _ _ _⟩⟩
    | false =>
      simp +contextual (maxSteps := 1000000) only [hA, go_sem, reduceCtorEq, ↓reduceIte, Nat.reduceAdd, Nat.reduceEqDiff, Nat.reduceLeDiff, Nat.reduceMul, Nat.reduceBEq, Int.reduceBEq, Int.reduceBNe, Int.reduceLT, Int.reduceLE, Int.reduceGT, Int.reduceGE, Int.reduceToNat]
      rw [← hQ, hpl, hc, hA]
      exact ⟨trivial, .inl ⟨_, rfl, RepLe.anon _ _ _⟩⟩
theorem fs_rAhead {Gl : Gh → Prop} (hst : Stays Gl) {k : Ky} {b : List UInt8} {t : Option Nm} (h1 : k.mods ≤ 255) (hb : b.length ≤ 10000000000000) : FS Tryz.prog Gl 73 [.agg (kyAV k), .sl t 1 (bytesAV b)] [] [] (.sl none 1 (bytesAV (aheadK k b))) [] [] := by
  refine FS.ofW hm hst is_clavierref11ahead rfl (by simp) fun γ hγ hfr => ?_
  have hky : kyAV k = [.int .i64 k.code, .int .i64 k.mods, .int .i64 k.type, .int .i64 k.shifted, .int .i64 k.base, .str k.text] := rfl
  have c0 := fs_Has (Gl := Gl) hst (m := k.mods) (one := 2) (by omega) (by omega)
  have hz : aheadK k b = if hasK k.mods 2 = true then 27 :: b else b := rfl
  simp only [hky]
  (generalize hQ : (fun (ex : Ex) (_ _ : Nat) (s : St) => _) = Q; unfold ir_clavierref11ahead)
  simp +contextual (maxSteps := 1000000) only [go_sem, reduceCtorEq, ↓reduceIte, Nat.reduceAdd, Nat.reduceEqDiff]
  (refine CallP.pure (c0) (fun _ => rfl) ?_; simp +contextual (maxSteps := 1000000) only [go_sem, reduceCtorEq, ↓reduceIte, Nat.reduceAdd, Nat.reduceEqDiff])
  cases hB : hasK k.mods 2 with
  | false =>
    simp +contextual (maxSteps := 1000000) only [hB, go_sem, reduceCtorEq, ↓reduceIte, Nat.reduceAdd, Nat.reduceEqDiff]
    rw [← hQ, hz, hB]
    exact ⟨trivial, .inl ⟨_, rfl, RepLe.anon _ _ _⟩⟩
  | true =>
    simp +contextual (maxSteps := 1000000) only [hB, bytesAV_length', go_sem, reduceCtorEq, ↓reduceIte, Nat.reduceAdd, Nat.reduceEqDiff]
    refine ⟨⟨.inl trivial, by omega⟩, ?_⟩
    rw [← hQ, hz, hB]
    exact ⟨trivial, .inl ⟨_, rfl, RepLe.anon' rfl⟩⟩
set_option maxHeartbeats 4000000 in
theorem fs_rFunctional {Gl : Gh → Prop} (hst : Stays Gl) {m : Md} {e : Ent} {k : Ky} (h0 : 0 ≤ k.mods) (h1 : k.mods ≤ 255) (hk : e.kind = 3 ∨ e.kind = 4) : FS Tryz.prog Gl 76 [.agg (mdAV m), .agg (entAV e), .int .i64 (oldK k.mods)] [] [] (.sl none 1 (bytesAV (if e.kind = 3 then letterL m k e else numberL k e))) [] [] := by
  refine FS.ofW hm hst is_clavierref11functional rfl (by simp) fun γ hγ hfr => ?_
  have hmd : mdAV m = [.bool m.cursor, .bool m.keypad, .bool m.back, .bool m.focus, .bool m.paste, .bool m.lock, .bool m.line, .int .i64 m.mouse, .int .i64 m.coding, .int .i64 m.other] := rfl
  have hent : entAV e = [.int .i64 e.kind, .int .u8 (e.final.toNat : Int), .int .i64 e.num, .int .i64 e.char, .bool e.keys] := rfl
  have ho : 0 ≤ oldK k.mods ∧ oldK k.mods < 8 := by unfold oldK; omega
  have hp : paramK (oldK k.mods) = oldK k.mods + 1 := by unfold paramK; rw [if_neg (by omega)]
  have hw : IntKind.i64.wrap (1 + oldK k.mods) = paramK (oldK k.mods) := by rw [hp, IntKind.wrap_i64]; omega
  have hfin := e.final.toNat_lt
  have hl : letterL m k e = if (oldK k.mods != 0) = true then putX (numSq 1 0 e.final.toNat [1, paramK (oldK k.mods)]) else if (m.cursor || decide ((e.final.toNat : Int) ≥ 80)) = true then putX (numSq 2 0 e.final.toNat []) else putX (numSq 1 0 e.final.toNat []) := rfl
  have hn : numberL k e = putX (numSq 1 0 126 (if (oldK k.mods != 0) = true then [e.num, paramK (oldK k.mods)] else [e.num])) := rfl
  have i1 : intsAV [e.num] = [[.int .i64 e.num]] := rfl
  have i2 : intsAV [e.num, paramK (oldK k.mods)] = [[.int .i64 e.num], [.int .i64 (paramK (oldK k.mods))]] := rfl
  have i3 : intsAV [1, paramK (oldK k.mods)] = [[.int .i64 1], [.int .i64 (paramK (oldK k.mods))]] := rfl
  have c1 := fun t : Option Nm => fs_rSeqN (Gl := Gl) hst (k := 1) (fi := 126) (nums := [e.num]) (tn := t) (by simp) (by omega) (by omega)
  have c2 := fun t : Option Nm => fs_rSeqN (Gl := Gl) hst (k := 1) (fi := 126) (nums := [e.num, paramK (oldK k.mods)]) (tn := t) (by simp) (by omega) (by omega)
  have c3 := fun t : Option Nm => fs_rSeqN (Gl := Gl) hst (k := 1) (fi := e.final.toNat) (nums := [1, paramK (oldK k.mods)]) (tn := t) (by simp) (by omega) (by omega)
  have c4 := fs_rSeq0 (Gl := Gl) hst (k := 2) (fi := e.final.toNat) (by omega) (by omega)
  have c5 := fs_rSeq0 (Gl := Gl) hst (k := 1) (fi := e.final.toNat) (by omega) (by omega)
  rw [i1] at c1
  rw [i2] at c2
  rw [i3] at c3
  have hb : (oldK k.mods != 0) = !(oldK k.mods == 0) := rfl
  simp only [hmd, hent]
  (generalize hQ : (fun (ex : Ex) (_ _ : Nat) (s : St) => _) = Q; unfold ir_clavierref11functional)
  simp +contextual (maxSteps := 1000000) only [go_sem, reduceCtorEq, ↓reduceIte, Nat.reduceAdd, Nat.reduceEqDiff, Nat.reduceLeDiff, Nat.reduceMul, Nat.reduceBEq, Int.reduceBEq, Int.reduceBNe, Int.reduceLT, Int.reduceLE, Int.reduceGT, Int.reduceGE, Int.reduceToNat]
  rcases hk with hk | hk
  · simp +contextual (maxSteps := 1000000) only [hk, go_sem, reduceCtorEq, ↓reduceIte, Nat.reduceAdd, Nat.reduceEqDiff, Nat.reduceLeDiff, Nat.reduceMul, Nat.reduceBEq, Int.reduceBEq, Int.reduceBNe, Int.reduceLT, Int.reduceLE, Int.reduceGT, Int.reduceGE, Int.reduceToNat]
    by_cases hz : oldK k.mods = 0
    · have q1 : decide (oldK k.mods > 0) = false := decide_eq_false (by omega)
      have q2 : (oldK k.mods != 0) = false := by rw [hz]; rfl
      simp +contextual (maxSteps := 1000000) only [q1, go_sem, reduceCtorEq, ↓reduceIte, Nat.reduceAdd, Nat.reduceEqDiff, Nat.reduceLeDiff, Nat.reduceMul, Nat.reduceBEq, Int.reduceBEq, Int.reduceBNe, Int.reduceLT, Int.reduceLE, Int.reduceGT, Int.reduceGE, Int.reduceToNat]
      cases hB : (m.cursor || decide ((e.final.toNat : Int) ≥ 80)) with
      | true =>
        simp +contextual (maxSteps := 1000000) only [hB, go_sem, reduceCtorEq, ↓reduceIte, Nat.reduceAdd, Nat.reduceEqDiff, Nat.reduceLeDiff, Nat.reduceMul, Nat.reduceBEq, Int.reduceBEq, Int.reduceBNe, Int.reduceLT, Int.reduceLE, Int.reduceGT, Int.reduceGE, Int.reduceToNat]
        (refine CallP.pure (c4) (fun _ => rfl) ?_; simp +contextual (maxSteps := 1000000) only [go_sem, reduceCtorEq, ↓reduceIte, Nat.reduceAdd, Nat.reduceEqDiff, Nat.reduceLeDiff, Nat.reduceMul, Nat.reduceBEq, Int.reduceBEq, Int.reduceBNe, Int.reduceLT, Int.reduceLE, Int.reduceGT, Int.reduceGE, Int.reduceToNat])
        rw [← hQ, if_pos hk, hl, q2, hB]
        exact ⟨trivial, .inl ⟨_, rfl, RepLe.refl _⟩⟩
      | false =>
        simp +contextual (maxSteps := 1000000) only [hB, go_sem, reduceCtorEq, ↓reduceIte, Nat.reduceAdd, Nat.reduceEqDiff, Nat.reduceLeDiff, Nat.reduceMul, Nat.reduceBEq, Int.reduceBEq, Int.reduceBNe, Int.reduceLT, Int.reduceLE, Int.reduceGT, Int.reduceGE, Int.reduceToNat]
        (refine CallP.pure (c5) (fun _ => rfl) ?_; simp +contextual (maxSteps := 1000000) only [go_sem, reduceCtorEq, ↓reduceIte, Nat.reduceAdd, Nat.reduceEqDiff, Nat.reduceLeDiff, Nat.reduceMul, Nat.reduceBEq, Int.reduceBEq, Int.reduceBNe, Int.reduceLT, Int.reduceLE, Int.reduceGT, Int.reduceGE, Int.reduceToNat])
        rw [← hQ, if_pos hk, hl, q2, hB]
        exact ⟨trivial, .inl ⟨_, rfl, RepLe.refl _⟩⟩
    · have q1 : decide (oldK k.mods > 0) = true := decide_eq_true (by omega)
      have q2 : (oldK k.mods != 0) = true := by rw [bne_iff_ne]; exact hz
      simp +contextual (maxSteps := 1000000) only [q1, hw, go_sem, reduceCtorEq, ↓reduceIte, Nat.reduceAdd, Nat.reduceEqDiff, Nat.reduceLeDiff, Nat.reduceMul, Nat.reduceBEq, Int.reduceBEq, Int.reduceBNe, Int.reduceLT, Int.reduceLE, Int.reduceGT, Int.reduceGE, Int.reduceToNat]
      (refine CallP.pure (c3 _) (fun _ => rfl) ?_; simp +contextual (maxSteps := 1000000) only [go_sem, reduceCtorEq, ↓reduceIte, Nat.reduceAdd, Nat.reduceEqDiff, Nat.reduceLeDiff, Nat.reduceMul, Nat.reduceBEq, Int.reduceBEq, Int.reduceBNe, Int.reduceLT, Int.reduceLE, Int.reduceGT, Int.reduceGE, Int.reduceToNat])
      rw [← hQ, if_pos hk, hl, q2]
      exact ⟨trivial, .inl ⟨_, rfl, RepLe.refl _⟩⟩
  · simp +contextual (maxSteps := 1000000) only [hk, go_sem, reduceCtorEq, ↓reduceIte, Nat.reduceAdd, Nat.reduceEqDiff, Nat.reduceLeDiff, Nat.reduceMul, Nat.reduceBEq, Int.reduceBEq, Int.reduceBNe, Int.reduceLT, Int.reduceLE, Int.reduceGT, Int.reduceGE, Int.reduceToNat]
    have hk3 : ¬ e.kind = 3 := by omega
    by_cases hz : oldK k.mods = 0
    · have q1 : (oldK k.mods == 0) = true := by rw [hz]; rfl
      simp +contextual (maxSteps := 1000000) only [q1, go_sem, reduceCtorEq, ↓reduceIte, Nat.reduceAdd, Nat.reduceEqDiff, Nat.reduceLeDiff, Nat.reduceMul, Nat.reduceBEq, Int.reduceBEq, Int.reduceBNe, Int.reduceLT, Int.reduceLE, Int.reduceGT, Int.reduceGE, Int.reduceToNat]
      (refine CallP.pure (c1 _) (fun _ => rfl) ?_; simp +contextual (maxSteps := 1000000) only [go_sem, reduceCtorEq, ↓reduceIte, Nat.reduceAdd, Nat.reduceEqDiff, Nat.reduceLeDiff, Nat.reduceMul, Nat.reduceBEq, Int.reduceBEq, Int.reduceBNe, Int.reduceLT, Int.reduceLE, Int.reduceGT, Int.reduceGE, Int.reduceToNat])
      rw [← hQ, if_neg hk3, hn, hb, q1]
      exact ⟨trivial, .inl ⟨_, rfl, RepLe.refl _⟩⟩
    · have q1 : (oldK k.mods == 0) = false := by rw [beq_eq_false_iff_ne]; exact hz
      simp +contextual (maxSteps := 1000000) only [q1, hw, go_sem, reduceCtorEq, ↓reduceIte, Nat.reduceAdd, Nat.reduceEqDiff, Nat.reduceLeDiff, Nat.reduceMul, Nat.reduceBEq, Int.reduceBEq, Int.reduceBNe, Int.reduceLT, Int.reduceLE, Int.reduceGT, Int.reduceGE, Int.reduceToNat]
      (refine CallP.pure (c2 _) (fun _ => rfl) ?_; simp +contextual (maxSteps := 1000000) only [go_sem, reduceCtorEq, ↓reduceIte, Nat.reduceAdd, Nat.reduceEqDiff, Nat.reduceLeDiff, Nat.reduceMul, Nat.reduceBEq, Int.reduceBEq, Int.reduceBNe, Int.reduceLT, Int.reduceLE, Int.reduceGT, Int.reduceGE, Int.reduceToNat])
      rw [← hQ, if_neg hk3, hn, hb, q1]
      exact ⟨trivial, .inl ⟨_, rfl, RepLe.refl _⟩⟩
theorem plain_code {c : Int} (h : kindK c = 2) : c = 9 ∨ c = 13 ∨ c = 27 ∨ c = 127 := by
  unfold kindK lookR at h
  split at h
  · simp at h
  · split at h
    · simp at h
    · split at h
      · have : (padR c).kind = 5 := by unfold padR; split <;> rfl
        rw [this] at h; simp at h
      · simp only at h
        unfold restR at h
        split at h
        · assumption
        · repeat' split at h
          all_goals simp at h
theorem pad_code {c : Int} (h : kindK c = 5) : 57399 ≤ c ∧ c ≤ 57416 ∧ lookR c = padR c := by
  unfold kindK lookR at h
  unfold lookR
  split at h
  · simp at h
  · split at h
    · simp at h
    · split at h
      · rename_i h1 h2 h3
        rw [if_neg h1, if_neg h2, if_pos h3]
        exact ⟨h3.1, h3.2, rfl⟩
      · simp only at h
        unfold restR at h
        repeat' split at h
        all_goals simp at h
theorem pad_char {c : Int} (h1 : 57399 ≤ c) (h2 : c ≤ 57416) : kindK (padR c).char = (if ((padR c).char == 13) = true then 2 else 1) := by
  have key : ∀ k : Fin 18, kindK (padR ((57399 + k.val : Nat) : Int)).char = (if ((padR ((57399 + k.val : Nat) : Int)).char == 13) = true then 2 else 1) := by decide +kernel
  have := key ⟨(c - 57399).toNat, by omega⟩
  rwa [show ((57399 + (c - 57399).toNat : Nat) : Int) = c by omega] at this
set_option maxHeartbeats 8000000 in
theorem fs_rLegKey {Gl : Gh → Prop} (hst : Stays Gl) {m : Md} {k : Ky} (ht : k.text.length ≤ 1000000000000) : FS Tryz.prog Gl 32 [.agg (mdAV m), .agg (kyAV k)] [] [] (.sl none 1 (bytesAV (legK m k))) [] [] := by
  refine FS.ofW hm hst is_clavierref11Key rfl (by simp) fun γ hγ hfr => ?_
  have hky : kyAV k = [.int .i64 k.code, .int .i64 k.mods, .int .i64 k.type, .int .i64 k.shifted, .int .i64 k.base, .str k.text] := rfl
  have hmd : mdAV m = [.bool m.cursor, .bool m.keypad, .bool m.back, .bool m.focus, .bool m.paste, .bool m.lock, .bool m.line, .int .i64 m.mouse, .int .i64 m.coding, .int .i64 m.other] := rfl
  have c1 := fs_rMayK (Gl := Gl) hst ht
  have c2 := fs_rLook (Gl := Gl) hst (c := k.code)
  rw [ent_eq] at c2
  have hz : legK m k = if (mayK k && (k.type != 3)) = true then formL m k else [] := rfl
  have hf : formL m k = if kindK k.code = 1 then textL k else if kindK k.code = 2 then plainL m k else if kindK k.code = 3 then letterL m k (lookR k.code)
    else if kindK k.code = 4 then numberL k (lookR k.code) else if kindK k.code = 5 then padL m k (lookR k.code) else [] := rfl
  have hkd : (lookR k.code).kind = kindK k.code := rfl
  have hent : entAV (lookR k.code) = [.int .i64 (kindK k.code), .int .u8 ((lookR k.code).final.toNat : Int), .int .i64 (lookR k.code).num, .int .i64 (lookR k.code).char, .bool (lookR k.code).keys] := rfl
  rw [hkd] at c2
  rw [hky] at c1
  simp only [hmd, hky]
  (generalize hQ : (fun (ex : Ex) (_ _ : Nat) (s : St) => _) = Q; unfold ir_clavierref11Key)
  simp +contextual (maxSteps := 1000000) only [go_sem, reduceCtorEq, ↓reduceIte, Nat.reduceAdd, Nat.reduceEqDiff, Nat.reduceLeDiff, Nat.reduceMul, Nat.reduceBEq, Int.reduceBEq, Int.reduceBNe, Int.reduceLT, Int.reduceLE, Int.reduceGT, Int.reduceGE, Int.reduceToNat]
  cases hmk : mayK k with
  | false =>
    rw [hmk] at c1
    have hn : legK m k = [] := by rw [hz, hmk]; rfl
    (refine CallP.pure (c1) (fun _ => rfl) ?_; simp +contextual (maxSteps := 1000000) only [go_sem, reduceCtorEq, ↓reduceIte, Nat.reduceAdd, Nat.reduceEqDiff, Nat.reduceLeDiff, Nat.reduceMul, Nat.reduceBEq, Int.reduceBEq, Int.reduceBNe, Int.reduceLT, Int.reduceLE, Int.reduceGT, Int.reduceGE, Int.reduceToNat])
    rw [← hQ, hn]
    exact ⟨trivial, .inl ⟨_, rfl, RepLe.nils 1⟩⟩
  | true =>
    rw [hmk] at c1
    have M := mayK_iff.1 hmk
    have h0 := M.m0
    have h1 := M.m1
    have c3 := fs_rOld (Gl := Gl) hst (m := k.mods) (by omega)
    (refine CallP.pure (c1) (fun _ => rfl) ?_; simp +contextual (maxSteps := 1000000) only [go_sem, reduceCtorEq, ↓reduceIte, Nat.reduceAdd, Nat.reduceEqDiff, Nat.reduceLeDiff, Nat.reduceMul, Nat.reduceBEq, Int.reduceBEq, Int.reduceBNe, Int.reduceLT, Int.reduceLE, Int.reduceGT, Int.reduceGE, Int.reduceToNat])
    cases ht3 : (k.type == 3) with
    | true =>
      have hn : legK m k = [] := by rw [hz, hmk, bne, ht3]; rfl
      simp +contextual (maxSteps := 1000000) only [ht3, go_sem, reduceCtorEq, ↓reduceIte, Nat.reduceAdd, Nat.reduceEqDiff, Nat.reduceLeDiff, Nat.reduceMul, Nat.reduceBEq, Int.reduceBEq, Int.reduceBNe, Int.reduceLT, Int.reduceLE, Int.reduceGT, Int.reduceGE, Int.reduceToNat]
      rw [← hQ, hn]
      exact ⟨trivial, .inl ⟨_, rfl, RepLe.nils 1⟩⟩
    | false =>
      have hlk : legK m k = formL m k := by rw [hz, hmk, bne, ht3]; rfl
      have d1 := fs_rShownL (Gl := Gl) hst (k := k) h1 ht
      have d2 := fun hc => fs_rPlainB (Gl := Gl) hst (m := m) (k := k) h1 hc
      have d3 := fun (t : Option Nm) (b : List UInt8) hb => fs_rAhead (Gl := Gl) hst (k := k) (b := b) (t := t) h1 hb
      have d4 := fun hk => fs_rFunctional (Gl := Gl) hst (m := m) (e := lookR k.code) (k := k) h0 h1 hk
      have hsl := shownL_len k
      have hpl := plainB_len m k
      simp only [hmd, hky, hent] at d1 d2 d3 d4
      have low : ¬ (1 ≤ kindK k.code ∧ kindK k.code ≤ 5) → legK m k = [] := fun h => by
        have : formL m k = [] := by rw [hf, if_neg (by omega), if_neg (by omega), if_neg (by omega), if_neg (by omega), if_neg (by omega)]
        rw [hlk, this]
      simp +contextual (maxSteps := 1000000) only [ht3, go_sem, reduceCtorEq, ↓reduceIte, Nat.reduceAdd, Nat.reduceEqDiff, Nat.reduceLeDiff, Nat.reduceMul, Nat.reduceBEq, Int.reduceBEq, Int.reduceBNe, Int.reduceLT, Int.reduceLE, Int.reduceGT, Int.reduceGE, Int.reduceToNat]
      (refine CallP.pure (c2) (fun _ => rfl) ?_; simp +contextual (maxSteps := 1000000) only [go_sem, reduceCtorEq, ↓reduceIte, Nat.reduceAdd, Nat.reduceEqDiff, Nat.reduceLeDiff, Nat.reduceMul, Nat.reduceBEq, Int.reduceBEq, Int.reduceBNe, Int.reduceLT, Int.reduceLE, Int.reduceGT, Int.reduceGE, Int.reduceToNat])
      (refine CallP.pure (c3) (fun _ => rfl) ?_; simp +contextual (maxSteps := 1000000) only [go_sem, reduceCtorEq, ↓reduceIte, Nat.reduceAdd, Nat.reduceEqDiff, Nat.reduceLeDiff, Nat.reduceMul, Nat.reduceBEq, Int.reduceBEq, Int.reduceBNe, Int.reduceLT, Int.reduceLE, Int.reduceGT, Int.reduceGE, Int.reduceToNat])
      rcases kind_cases k.code with hk | hk | hk | hk | hk | hk | hk | hk
      · simp +contextual (maxSteps := 1000000) only [hk, Bool.false_and, go_sem, reduceCtorEq, ↓reduceIte, Nat.reduceAdd, Nat.reduceEqDiff, Nat.reduceLeDiff, Nat.reduceMul, Nat.reduceBEq, Int.reduceBEq, Int.reduceBNe, Int.reduceLT, Int.reduceLE, Int.reduceGT, Int.reduceGE, Int.reduceToNat]
        rw [← hQ, low (by omega)]
        exact ⟨trivial, .inl ⟨_, rfl, RepLe.nils 1⟩⟩
      · have hfm : legK m k = aheadK k (shownL k) := by rw [hlk, hf]; simp only [hk]; rfl
        simp +contextual (maxSteps := 1000000) only [hk, Bool.false_and, go_sem, reduceCtorEq, ↓reduceIte, Nat.reduceAdd, Nat.reduceEqDiff, Nat.reduceLeDiff, Nat.reduceMul, Nat.reduceBEq, Int.reduceBEq, Int.reduceBNe, Int.reduceLT, Int.reduceLE, Int.reduceGT, Int.reduceGE, Int.reduceToNat]
        refine DCall.new d1 ?_
        simp +contextual (maxSteps := 1000000) only [go_sem, reduceCtorEq, ↓reduceIte, Nat.reduceAdd, Nat.reduceEqDiff, Nat.reduceLeDiff, Nat.reduceMul, Nat.reduceBEq, Int.reduceBEq, Int.reduceBNe, Int.reduceLT, Int.reduceLE, Int.reduceGT, Int.reduceGE, Int.reduceToNat]
        refine DCall.new (d3 _ _ (by omega)) ?_
        simp +contextual (maxSteps := 1000000) only [go_sem, reduceCtorEq, ↓reduceIte, Nat.reduceAdd, Nat.reduceEqDiff, Nat.reduceLeDiff, Nat.reduceMul, Nat.reduceBEq, Int.reduceBEq, Int.reduceBNe, Int.reduceLT, Int.reduceLE, Int.reduceGT, Int.reduceGE, Int.reduceToNat]
        rw [← hQ, hfm]
        exact ⟨trivial, .inl ⟨_, rfl, RepLe.refl _⟩⟩
      · have hfm : legK m k = aheadK k (plainB m k) := by rw [hlk, hf]; simp only [hk]; rfl
        simp +contextual (maxSteps := 1000000) only [hk, Bool.false_and, go_sem, reduceCtorEq, ↓reduceIte, Nat.reduceAdd, Nat.reduceEqDiff, Nat.reduceLeDiff, Nat.reduceMul, Nat.reduceBEq, Int.reduceBEq, Int.reduceBNe, Int.reduceLT, Int.reduceLE, Int.reduceGT, Int.reduceGE, Int.reduceToNat]
        refine DCall.new (d2 (plain_code hk)) ?_
        simp +contextual (maxSteps := 1000000) only [go_sem, reduceCtorEq, ↓reduceIte, Nat.reduceAdd, Nat.reduceEqDiff, Nat.reduceLeDiff, Nat.reduceMul, Nat.reduceBEq, Int.reduceBEq, Int.reduceBNe, Int.reduceLT, Int.reduceLE, Int.reduceGT, Int.reduceGE, Int.reduceToNat]
        refine DCall.new (d3 _ _ (by omega)) ?_
        simp +contextual (maxSteps := 1000000) only [go_sem, reduceCtorEq, ↓reduceIte, Nat.reduceAdd, Nat.reduceEqDiff, Nat.reduceLeDiff, Nat.reduceMul, Nat.reduceBEq, Int.reduceBEq, Int.reduceBNe, Int.reduceLT, Int.reduceLE, Int.reduceGT, Int.reduceGE, Int.reduceToNat]
        rw [← hQ, hfm]
        exact ⟨trivial, .inl ⟨_, rfl, RepLe.refl _⟩⟩
      · have hfm : legK m k = letterL m k (lookR k.code) := by rw [hlk, hf]; simp only [hk]; rfl
        have d5 := d4 (.inl hk)
        rw [if_pos (show (lookR k.code).kind = 3 from hk)] at d5
        rw [hk] at d5
        simp +contextual (maxSteps := 1000000) only [hk, Bool.false_and, go_sem, reduceCtorEq, ↓reduceIte, Nat.reduceAdd, Nat.reduceEqDiff, Nat.reduceLeDiff, Nat.reduceMul, Nat.reduceBEq, Int.reduceBEq, Int.reduceBNe, Int.reduceLT, Int.reduceLE, Int.reduceGT, Int.reduceGE, Int.reduceToNat]
        (refine CallP.pure (d5) (fun _ => rfl) ?_; simp +contextual (maxSteps := 1000000) only [go_sem, reduceCtorEq, ↓reduceIte, Nat.reduceAdd, Nat.reduceEqDiff, Nat.reduceLeDiff, Nat.reduceMul, Nat.reduceBEq, Int.reduceBEq, Int.reduceBNe, Int.reduceLT, Int.reduceLE, Int.reduceGT, Int.reduceGE, Int.reduceToNat])
        rw [← hQ, hfm]
        exact ⟨trivial, .inl ⟨_, rfl, RepLe.refl _⟩⟩
      · have hfm : legK m k = numberL k (lookR k.code) := by rw [hlk, hf]; simp only [hk]; rfl
        have d5 := d4 (.inr hk)
        rw [if_neg (show ¬ (lookR k.code).kind = 3 by rw [hkd, hk]; decide)] at d5
        rw [hk] at d5
        simp +contextual (maxSteps := 1000000) only [hk, Bool.false_and, go_sem, reduceCtorEq, ↓reduceIte, Nat.reduceAdd, Nat.reduceEqDiff, Nat.reduceLeDiff, Nat.reduceMul, Nat.reduceBEq, Int.reduceBEq, Int.reduceBNe, Int.reduceLT, Int.reduceLE, Int.reduceGT, Int.reduceGE, Int.reduceToNat]
        (refine CallP.pure (d5) (fun _ => rfl) ?_; simp +contextual (maxSteps := 1000000) only [go_sem, reduceCtorEq, ↓reduceIte, Nat.reduceAdd, Nat.reduceEqDiff, Nat.reduceLeDiff, Nat.reduceMul, Nat.reduceBEq, Int.reduceBEq, Int.reduceBNe, Int.reduceLT, Int.reduceLE, Int.reduceGT, Int.reduceGE, Int.reduceToNat])
        rw [← hQ, hfm]
        exact ⟨trivial, .inl ⟨_, rfl, RepLe.refl _⟩⟩
      · obtain ⟨p1, p2, p3⟩ := pad_code hk
        have hpc := pad_char p1 p2
        have hfm : legK m k = padL m k (lookR k.code) := by rw [hlk, hf]; simp only [hk]; rfl
        have hpd : padL m k (lookR k.code) = if (m.keypad && (oldK k.mods == 0)) = true then putX (numSq 2 0 (lookR k.code).final.toNat []) else if ((lookR k.code).char == 13) = true then plainL m { k with code := (lookR k.code).char, shifted := 0 } else textL { k with code := (lookR k.code).char, shifted := 0 } := rfl
        rw [← p3] at hpc
        have hfin := final_lt k.code
        have e5 := fs_rSeq0 (Gl := Gl) hst (k := 2) (fi := (lookR k.code).final.toNat) (by omega) (by omega)
        cases hA : (m.keypad && (oldK k.mods == 0)) with
        | true =>
          simp +contextual (maxSteps := 1000000) only [hk, hA, go_sem, reduceCtorEq, ↓reduceIte, Nat.reduceAdd, Nat.reduceEqDiff, Nat.reduceLeDiff, Nat.reduceMul, Nat.reduceBEq, Int.reduceBEq, Int.reduceBNe, Int.reduceLT, Int.reduceLE, Int.reduceGT, Int.reduceGE, Int.reduceToNat]
          (refine CallP.pure (e5) (fun _ => rfl) ?_; simp +contextual (maxSteps := 1000000) only [go_sem, reduceCtorEq, ↓reduceIte, Nat.reduceAdd, Nat.reduceEqDiff, Nat.reduceLeDiff, Nat.reduceMul, Nat.reduceBEq, Int.reduceBEq, Int.reduceBNe, Int.reduceLT, Int.reduceLE, Int.reduceGT, Int.reduceGE, Int.reduceToNat])
          rw [← hQ, hfm, hpd, hA]
          exact ⟨trivial, .inl ⟨_, rfl, RepLe.refl _⟩⟩
        | false =>
          simp +contextual (maxSteps := 1000000) only [hk, hA, go_sem, reduceCtorEq, ↓reduceIte, Nat.reduceAdd, Nat.reduceEqDiff, Nat.reduceLeDiff, Nat.reduceMul, Nat.reduceBEq, Int.reduceBEq, Int.reduceBNe, Int.reduceLT, Int.reduceLE, Int.reduceGT, Int.reduceGE, Int.reduceToNat]
          have e1 := fs_rLook (Gl := Gl) hst (c := (lookR k.code).char)
          rw [ent_eq] at e1
          rw [show (lookR (lookR k.code).char).kind = kindK (lookR k.code).char from rfl, hpc] at e1
          generalize hch : (lookR k.code).char = ch at *
          (refine CallP.pure (e1) (fun _ => rfl) ?_; simp +contextual (maxSteps := 1000000) only [go_sem, reduceCtorEq, ↓reduceIte, Nat.reduceAdd, Nat.reduceEqDiff, Nat.reduceLeDiff, Nat.reduceMul, Nat.reduceBEq, Int.reduceBEq, Int.reduceBNe, Int.reduceLT, Int.reduceLE, Int.reduceGT, Int.reduceGE, Int.reduceToNat])
          have g1 := fs_rShownL (Gl := Gl) hst (k := { k with code := ch, shifted := 0 }) h1 ht
          have g2 := fun hc => fs_rPlainB (Gl := Gl) hst (m := m) (k := { k with code := ch, shifted := 0 }) h1 hc
          have g3 := fun (t : Option Nm) (b : List UInt8) hb => fs_rAhead (Gl := Gl) hst (k := { k with code := ch, shifted := 0 }) (b := b) (t := t) h1 hb
          have gsl := shownL_len { k with code := ch, shifted := 0 }
          have gpl := plainB_len m { k with code := ch, shifted := 0 }
          simp only [hmd, kyAV] at g1 g2 g3
          simp only at gsl
          cases hB : (ch == 13) with
          | true =>
            simp +contextual (maxSteps := 1000000) only [hB, go_sem, reduceCtorEq, ↓reduceIte, Nat.reduceAdd, Nat.reduceEqDiff, Nat.reduceLeDiff, Nat.reduceMul, Nat.reduceBEq, Int.reduceBEq, Int.reduceBNe, Int.reduceLT, Int.reduceLE, Int.reduceGT, Int.reduceGE, Int.reduceToNat]
            refine DCall.new (g2 (.inr (.inl (by simpa using hB)))) ?_
            simp +contextual (maxSteps := 1000000) only [go_sem, reduceCtorEq, ↓reduceIte, Nat.reduceAdd, Nat.reduceEqDiff, Nat.reduceLeDiff, Nat.reduceMul, Nat.reduceBEq, Int.reduceBEq, Int.reduceBNe, Int.reduceLT, Int.reduceLE, Int.reduceGT, Int.reduceGE, Int.reduceToNat]
            refine DCall.new (g3 _ _ (by omega)) ?_
            simp +contextual (maxSteps := 1000000) only [go_sem, reduceCtorEq, ↓reduceIte, Nat.reduceAdd, Nat.reduceEqDiff, Nat.reduceLeDiff, Nat.reduceMul, Nat.reduceBEq, Int.reduceBEq, Int.reduceBNe, Int.reduceLT, Int.reduceLE, Int.reduceGT, Int.reduceGE, Int.reduceToNat]
            rw [← hQ, hfm, hpd, hA, hB]
            exact ⟨trivial, .inl ⟨_, rfl, RepLe.refl _⟩⟩
          | false =>
            simp +contextual (maxSteps := 1000000) only [hB, go_sem, reduceCtorEq, ↓reduceIte, Nat.reduceAdd, Nat.reduceEqDiff, Nat.reduceLeDiff, Nat.reduceMul, Nat.reduceBEq, Int.reduceBEq, Int.reduceBNe, Int.reduceLT, Int.reduceLE, Int.reduceGT, Int.reduceGE, Int.reduceToNat]
            refine DCall.new g1 ?_
            simp +contextual (maxSteps := 1000000) only [go_sem, reduceCtorEq, ↓reduceIte, Nat.reduceAdd, Nat.reduceEqDiff, Nat.reduceLeDiff, Nat.reduceMul, Nat.reduceBEq, Int.reduceBEq, Int.reduceBNe, Int.reduceLT, Int.reduceLE, Int.reduceGT, Int.reduceGE, Int.reduceToNat]
            refine DCall.new (g3 _ _ (by omega)) ?_
            simp +contextual (maxSteps := 1000000) only [go_sem, reduceCtorEq, ↓reduceIte, Nat.reduceAdd, Nat.reduceEqDiff, Nat.reduceLeDiff, Nat.reduceMul, Nat.reduceBEq, Int.reduceBEq, Int.reduceBNe, Int.reduceLT, Int.reduceLE, Int.reduceGT, Int.reduceGE, Int.reduceToNat]
            rw [← hQ, hfm, hpd, hA, hB]
            exact ⟨trivial, .inl ⟨_, rfl, RepLe.refl _⟩⟩
      · simp +contextual (maxSteps := 1000000) only [hk, Bool.false_and, go_sem, reduceCtorEq, ↓reduceIte, Nat.reduceAdd, Nat.reduceEqDiff, Nat.reduceLeDiff, Nat.reduceMul, Nat.reduceBEq, Int.reduceBEq, Int.reduceBNe, Int.reduceLT, Int.reduceLE, Int.reduceGT, Int.reduceGE, Int.reduceToNat]
        rw [← hQ, low (by omega)]
        exact ⟨trivial, .inl ⟨_, rfl, RepLe.nils 1⟩⟩
      · simp +contextual (maxSteps := 1000000) only [hk, Bool.false_and, go_sem, reduceCtorEq, ↓reduceIte, Nat.reduceAdd, Nat.reduceEqDiff, Nat.reduceLeDiff, Nat.reduceMul, Nat.reduceBEq, Int.reduceBEq, Int.reduceBNe, Int.reduceLT, Int.reduceLE, Int.reduceGT, Int.reduceGE, Int.reduceToNat]
        rw [← hQ, low (by omega)]
        exact ⟨trivial, .inl ⟨_, rfl, RepLe.nils 1⟩⟩
end Go.Proofs.YtbepihadhmfklaaGreatDoor

namespace Go.Proofs.YtbepihadhmfklaaGreatDoor
open Go Go.Ab
def ir_clavierref12less : ICode :=
 (.seq
 (.reg [⟨some 1, none, .box 25 (.t 0)⟩,
 ⟨some 2, none, .mov (.c (.bool false))⟩] (some [1]))
 (.seq
 (.seq
 (.reg [⟨some 5, none, .fa 1 (.t 1)⟩,
 ⟨some 6, none, .ld none (.t 5)⟩,
 ⟨some 7, none, .call (.c (.fn (.func 49) [] [])) [(.t 6), (.c (.int .i64 4))]⟩,
 ⟨some 8, none, .un .not (.t 7)⟩] (some [1, 8]))
 (.cond (.t 8)
 (.seq
 (.reg [⟨some 2, none, .mov (.c (.bool false))⟩] (some [2]))
 .ret)
 .skip))
 (.seq
 (.seq
 (.reg [⟨some 9, none, .fa 0 (.t 1)⟩,
 ⟨some 10, none, .ld none (.t 9)⟩,
 ⟨some 11, none, .call (.c (.fn (.func 33) [] [])) [(.t 10)]⟩,
 ⟨some 12, none, .fld 0 none (.t 11)⟩,
 ⟨some 13, none, .bin .eql .none (.t 12) (.c (.int .i64 2))⟩] (some [1, 13]))
 (.cond (.t 13)
 (.seq
 (.reg [⟨some 14, none, .fa 0 (.t 1)⟩,
 ⟨some 15, none, .ld none (.t 14)⟩,
 ⟨some 16, none, .bin .eql .none (.t 15) (.c (.int .i64 9))⟩,
 ⟨some 17, none, .mov (.t 16)⟩,
 ⟨some 18, some (17, false), .fa 0 (.t 1)⟩,
 ⟨some 19, some (17, false), .ld none (.t 18)⟩,
 ⟨some 20, some (17, false), .bin .eql .none (.t 19) (.c (.int .i64 13))⟩,
 ⟨some 21, none, .pick (.t 17) (.c (.bool true)) (.t 20)⟩,
 ⟨some 2, none, .mov (.t 21)⟩] (some [2]))
 .ret)
 .skip))
 (.seq
 (.reg [⟨some 23, none, .ld (some 6) (.t 1)⟩,
 ⟨some 24, none, .call (.c (.fn (.func 23) [] [])) [(.t 23)]⟩,
 ⟨some 25, none, .call (.c (.fn (.func 90) [] [])) [(.t 24)]⟩,
 ⟨some 22, none, .mov (.t 25)⟩,
 ⟨some 26, none, .ext (.t 22) 0⟩,
 ⟨some 27, none, .ext (.t 22) 1⟩,
 ⟨some 3, none, .mov (.t 26)⟩,
 ⟨some 4, none, .mov (.t 27)⟩] (some [1, 4]))
 (.seq
 (.reg [⟨some 28, none, .fa 1 (.t 1)⟩,
 ⟨some 29, none, .ld none (.t 28)⟩,
 ⟨some 30, none, .call (.c (.fn (.func 49) [] [])) [(.t 29), (.c (.int .i64 1))]⟩,
 ⟨some 31, none, .mov (.t 30)⟩,
 ⟨some 32, some (31, false), .mov (.t 4)⟩,
 ⟨some 33, some (31, false), .un .not (.t 32)⟩,
 ⟨some 34, none, .pick (.t 31) (.c (.bool true)) (.t 33)⟩,
 ⟨some 2, none, .mov (.t 34)⟩] (some [2]))
 .ret)))))
theorem is_clavierref12less : IrOf Tryz.prog 44 35 ir_clavierref12less [.t 2] := ⟨_, Tryz.func44, rfl, by kernel_rfl, by kernel_rfl, by kernel_rfl⟩

def ir_clavierref12char : ICode :=
 (.seq
 (.reg [⟨some 1, none, .box 25 (.t 0)⟩,
 ⟨some 2, none, .mov (.c (.int .i64 0))⟩] (some [1]))
 (.seq
 (.seq
 (.reg [⟨some 3, none, .fa 0 (.t 1)⟩,
 ⟨some 4, none, .ld none (.t 3)⟩,
 ⟨some 5, none, .call (.c (.fn (.func 33) [] [])) [(.t 4)]⟩,
 ⟨some 6, none, .fld 0 none (.t 5)⟩,
 ⟨some 7, none, .bin .eql .none (.t 6) (.c (.int .i64 1))⟩] (some [1, 7]))
 (.cond (.t 7)
 (.seq
 (.reg [⟨some 8, none, .ld (some 6) (.t 1)⟩,
 ⟨some 9, none, .call (.c (.fn (.func 23) [] [])) [(.t 8)]⟩,
 ⟨some 2, none, .mov (.t 9)⟩] (some [2]))
 .ret)
 .skip))
 (.seq
 (.reg [⟨some 10, none, .fa 0 (.t 1)⟩,
 ⟨some 11, none, .ld none (.t 10)⟩,
 ⟨some 2, none, .mov (.t 11)⟩] (some [2]))
 .ret)))
theorem is_clavierref12char : IrOf Tryz.prog 45 12 ir_clavierref12char [.t 2] := ⟨_, Tryz.func45, rfl, by kernel_rfl, by kernel_rfl, by kernel_rfl⟩

def ir_clavierref12Key : ICode :=
 (.seq
 (.reg [⟨some 2, none, .box 23 (.t 0)⟩,
 ⟨some 3, none, .box 25 (.t 1)⟩,
 ⟨some 4, none, .mov (.c .nils)⟩,
 ⟨some 5, none, .mov (.c (.bool false))⟩] (some [2, 3]))
 (.seq
 (.reg [⟨some 11, none, .fa 0 (.t 3)⟩,
 ⟨some 12, none, .ld none (.t 11)⟩,
 ⟨some 13, none, .call (.c (.fn (.func 33) [] [])) [(.t 12)]⟩,
 ⟨some 14, none, .fld 0 none (.t 13)⟩,
 ⟨some 6, none, .mov (.t 14)⟩] (some [2, 3, 6]))
 (.seq
 (.reg [⟨some 15, none, .fa 1 (.t 3)⟩,
 ⟨some 16, none, .ld none (.t 15)⟩,
 ⟨some 17, none, .call (.c (.fn (.func 25) [] [])) [(.t 16)]⟩,
 ⟨some 7, none, .mov (.t 17)⟩] (some [2, 3, 6, 7]))
 (.seq
 (.seq
 (.reg [⟨some 18, none, .ld (some 6) (.t 3)⟩,
 ⟨some 19, none, .call (.c (.fn (.func 17) [] [])) [(.t 18)]⟩,
 ⟨some 20, none, .un .not (.t 19)⟩,
 ⟨some 21, none, .mov (.t 20)⟩,
 ⟨some 22, some (21, false), .fa 2 (.t 3)⟩,
 ⟨some 23, some (21, false), .ld none (.t 22)⟩,
 ⟨some 24, some (21, false), .bin .eql .none (.t 23) (.c (.int .i64 3))⟩,
 ⟨some 25, none, .pick (.t 21) (.c (.bool true)) (.t 24)⟩,
 ⟨some 26, none, .mov (.t 25)⟩,
 ⟨some 27, some (26, false), .fa 9 (.t 2)⟩,
 ⟨some 28, some (26, false), .ld none (.t 27)⟩,
 ⟨some 29, some (26, false), .bin .neq .none (.t 28) (.c (.int .i64 1))⟩,
 ⟨some 30, some (26, false), .mov (.t 29)⟩,
 ⟨some 31, some (30, true), .fa 9 (.t 2)⟩,
 ⟨some 32, some (30, true), .ld none (.t 31)⟩,
 ⟨some 33, some (30, true), .bin .neq .none (.t 32) (.c (.int .i64 2))⟩,
 ⟨some 34, some (26, false), .pick (.t 30) (.t 33) (.c (.bool false))⟩,
 ⟨some 35, none, .pick (.t 26) (.c (.bool true)) (.t 34)⟩,
 ⟨some 36, none, .mov (.t 35)⟩,
 ⟨some 37, some (36, false), .mov (.t 6)⟩,
 ⟨some 38, some (36, false), .bin .neq .none (.t 37) (.c (.int .i64 1))⟩,
 ⟨some 39, some (36, false), .mov (.t 38)⟩,
 ⟨some 40, some (39, true), .mov (.t 6)⟩,
 ⟨some 41, some (39, true), .bin .neq .none (.t 40) (.c (.int .i64 2))⟩,
 ⟨some 42, some (36, false), .pick (.t 39) (.t 41) (.c (.bool false))⟩,
 ⟨some 43, none, .pick (.t 36) (.c (.bool true)) (.t 42)⟩,
 ⟨some 44, none, .mov (.t 43)⟩,
 ⟨some 45, some (44, false), .mov (.t 7)⟩,
 ⟨some 46, some (44, false), .bin .eql .none (.t 45) (.c (.int .i64 0))⟩,
 ⟨some 47, none, .pick (.t 44) (.c (.bool true)) (.t 46)⟩,
 ⟨some 48, none, .mov (.t 47)⟩,
 ⟨some 49, some (48, false), .mov (.t 6)⟩,
 ⟨some 50, some (48, false), .bin .eql .none (.t 49) (.c (.int .i64 1))⟩,
 ⟨some 51, some (48, false), .mov (.t 50)⟩,
 ⟨some 52, some (51, true), .mov (.t 7)⟩,
 ⟨some 53, some (51, true), .bin .eql .none (.t 52) (.c (.int .i64 1))⟩,
 ⟨some 54, some (48, false), .pick (.t 51) (.t 53) (.c (.bool false))⟩,
 ⟨some 55, none, .pick (.t 48) (.c (.bool true)) (.t 54)⟩,
 ⟨some 56, none, .mov (.t 55)⟩,
 ⟨some 57, some (56, false), .fa 9 (.t 2)⟩,
 ⟨some 58, some (56, false), .ld none (.t 57)⟩,
 ⟨some 59, some (56, false), .bin .eql .none (.t 58) (.c (.int .i64 1))⟩,
 ⟨some 60, some (56, false), .mov (.t 59)⟩,
 ⟨some 61, some (60, true), .ld (some 6) (.t 3)⟩,
 ⟨some 62, some (60, true), .call (.c (.fn (.func 44) [] [])) [(.t 61)]⟩,
 ⟨some 63, some (60, true), .un .not (.t 62)⟩,
 ⟨some 64, some (56, false), .pick (.t 60) (.t 63) (.c (.bool false))⟩,
 ⟨some 65, none, .pick (.t 56) (.c (.bool true)) (.t 64)⟩] (some [3, 7, 65]))
 (.cond (.t 65)
 (.seq
 (.reg [⟨some 4, none, .mov (.c .nils)⟩,
 ⟨some 5, none, .mov (.c (.bool false))⟩] (some [4, 5]))
 .ret)
 .skip))
 (.seq
 (.reg [⟨some 66, none, .row 3 1 [(.c (.int .i64 27))]⟩,
 ⟨some 67, none, .mov (.t 7)⟩,
 ⟨some 68, none, .bin .add .none (.c (.int .i64 1)) (.t 67)⟩,
 ⟨some 69, none, .row 3 1 [(.t 68)]⟩,
 ⟨some 70, none, .ld (some 6) (.t 3)⟩,
 ⟨some 71, none, .call (.c (.fn (.func 45) [] [])) [(.t 70)]⟩,
 ⟨some 72, none, .row 3 1 [(.t 71)]⟩,
 ⟨some 73, none, .row 64 1 [(.t 66), (.t 69), (.t 72)]⟩,
 ⟨some 74, none, .bld [(.int .i64 0), (.int .u8 0), .nils, (.str []), (.int .u8 0), (.str [])] [(0, 1, (.c (.int .i64 1))), (4, 1, (.c (.int .u8 126))), (2, 1, (.t 73))]⟩,
 ⟨some 8, none, .box 47 (.c (.agg [(.int .i64 0), (.int .u8 0), .nils, (.str []), (.int .u8 0), (.str [])]))⟩,
 ⟨none, none, .st 6 (.t 8) (.t 74)⟩] (some [8]))
 (.seq
 (.reg [⟨some 76, none, .ld (some 6) (.t 8)⟩,
 ⟨some 77, none, .call (.c (.fn (.func 46) [] [])) [(.t 76)]⟩,
 ⟨some 75, none, .mov (.t 77)⟩,
 ⟨some 78, none, .ext (.t 75) 0⟩,
 ⟨some 79, none, .ext (.t 75) 1⟩,
 ⟨some 9, none, .mov (.t 78)⟩,
 ⟨some 10, none, .mov (.t 79)⟩] (some [9]))
 (.seq
 (.reg [⟨some 80, none, .mov (.t 9)⟩,
 ⟨some 4, none, .mov (.t 80)⟩,
 ⟨some 5, none, .mov (.c (.bool true))⟩] (some [4, 5]))
 .ret)))))))
theorem is_clavierref12Key : IrOf Tryz.prog 21 81 ir_clavierref12Key [.t 4, .t 5] := ⟨_, Tryz.func21, rfl, by kernel_rfl, by kernel_rfl, by kernel_rfl⟩

def lessO (k : Ky) : Bool := hasK k.mods 4 && (if kindK k.code = 2 then (k.code == 9) || (k.code == 13) else hasK k.mods 1 || !(foldK (shownK k)).isSome)
theorem few_less (k : Ky) : fewO k = (allO k && lessO k) := by unfold fewO lessO; rw [Bool.and_assoc]
theorem isO_ref (o : Int) (k : Ky) : isO o k = !((((((!mayK k || (k.type == 3)) || ((o != 1) && (o != 2))) || ((kindK k.code != 1) && (kindK k.code != 2))) || (oldK k.mods == 0)) || ((kindK k.code == 1) && (oldK k.mods == 1))) || ((o == 1) && !lessO k)) := by
  unfold isO lvO
  rw [few_less]
  unfold allO
  generalize lessO k = l
  generalize mayK k = mm
  generalize kindK k.code = kd
  generalize oldK k.mods = od
  generalize k.type = ty
  rw [Bool.eq_iff_iff]
  cases l <;> cases mm <;> by_cases h1 : o = 1 <;> by_cases h2 : o = 2 <;> simp [h1, h2] <;> omega
theorem fs_rLess {Gl : Gh → Prop} (hst : Stays Gl) {k : Ky} (h1 : k.mods ≤ 9223372036854775807) : FS Tryz.prog Gl 44 [.agg (kyAV k)] [] [] (.bool (lessO k)) [] [] := by
  refine FS.of hm hst is_clavierref12less (by simp) fun γ hγ hfr => ?_
  have hky : kyAV k = [.int .i64 k.code, .int .i64 k.mods, .int .i64 k.type, .int .i64 k.shifted, .int .i64 k.base, .str k.text] := rfl
  have c1 := fs_Has (Gl := Gl) hst (m := k.mods) (one := 4) (by omega) h1
  have c2 := fs_rLook (Gl := Gl) hst (c := k.code)
  have hkd : (lookR k.code).kind = kindK k.code := rfl
  rw [ent_eq, hkd] at c2
  have c3 := fs_rShown (Gl := Gl) hst (k := k) h1
  have c4 : FS Tryz.prog Gl 90 [.int .i64 (shownK k)] [] [] (.tup [.int .i64 ((foldK (shownK k)).getD 0), .bool (foldK (shownK k)).isSome]) [] [] := fs_rFold (Gl := Gl) hst
  have c5 := fs_Has (Gl := Gl) hst (m := k.mods) (one := 1) (by omega) h1
  have hz : lessO k = (hasK k.mods 4 && (if kindK k.code = 2 then (k.code == 9) || (k.code == 13) else hasK k.mods 1 || !(foldK (shownK k)).isSome)) := rfl
  rw [hky] at c3
  simp only [hky]
  (generalize hQ : (fun (ex : Ex) (_ _ : Nat) (s : St) => _) = Q; unfold ir_clavierref12less)
  simp +contextual (maxSteps := 1000000) only [go_sem, reduceCtorEq, ↓reduceIte, Nat.reduceAdd, Nat.reduceEqDiff]
  (refine CallP.pure (c1) (fun _ => rfl) ?_; simp +contextual (maxSteps := 1000000) only [go_sem, reduceCtorEq, ↓reduceIte, Nat.reduceAdd, Nat.reduceEqDiff])
  cases hB : hasK k.mods 4 with
  | false =>
    simp +contextual (maxSteps := 1000000) only [hB, go_sem, reduceCtorEq, ↓reduceIte, Nat.reduceAdd, Nat.reduceEqDiff]
    rw [← hQ, hz, hB]
    exact ⟨trivial, Ret.flat rfl rfl⟩
  | true =>
    simp +contextual (maxSteps := 1000000) only [hB, go_sem, reduceCtorEq, ↓reduceIte, Nat.reduceAdd, Nat.reduceEqDiff]
    (refine CallP.pure (c2) (fun _ => rfl) ?_; simp +contextual (maxSteps := 1000000) only [go_sem, reduceCtorEq, ↓reduceIte, Nat.reduceAdd, Nat.reduceEqDiff])
    by_cases h2 : kindK k.code = 2
    · have q2 : (kindK k.code == 2) = true := beq_iff_eq.2 h2
      simp +contextual (maxSteps := 1000000) only [q2, go_sem, reduceCtorEq, ↓reduceIte, Nat.reduceAdd, Nat.reduceEqDiff]
      rw [← hQ, hz, hB, if_pos h2]
      exact ⟨trivial, Ret.flat rfl rfl⟩
    · have q2 : (kindK k.code == 2) = false := beq_eq_false_iff_ne.2 h2
      simp +contextual (maxSteps := 1000000) only [q2, go_sem, reduceCtorEq, ↓reduceIte, Nat.reduceAdd, Nat.reduceEqDiff]
      (refine CallP.pure (c3) (fun _ => rfl) ?_; simp +contextual (maxSteps := 1000000) only [go_sem, reduceCtorEq, ↓reduceIte, Nat.reduceAdd, Nat.reduceEqDiff])
      (refine CallP.pure (c4) (fun _ => rfl) ?_; simp +contextual (maxSteps := 1000000) only [go_sem, reduceCtorEq, ↓reduceIte, Nat.reduceAdd, Nat.reduceEqDiff])
      (refine CallP.pure (c5) (fun _ => rfl) ?_; simp +contextual (maxSteps := 1000000) only [go_sem, reduceCtorEq, ↓reduceIte, Nat.reduceAdd, Nat.reduceEqDiff])
      rw [← hQ, hz, hB, if_neg h2]
      exact ⟨trivial, Ret.flat rfl rfl⟩
theorem fs_rChar {Gl : Gh → Prop} (hst : Stays Gl) {k : Ky} (h1 : k.mods ≤ 9223372036854775807) : FS Tryz.prog Gl 45 [.agg (kyAV k)] [] [] (.int .i64 (charK k)) [] [] := by
  refine FS.of hm hst is_clavierref12char (by simp) fun γ hγ hfr => ?_
  have hky : kyAV k = [.int .i64 k.code, .int .i64 k.mods, .int .i64 k.type, .int .i64 k.shifted, .int .i64 k.base, .str k.text] := rfl
  have c2 := fs_rLook (Gl := Gl) hst (c := k.code)
  have hkd : (lookR k.code).kind = kindK k.code := rfl
  rw [ent_eq, hkd] at c2
  have c3 := fs_rShown (Gl := Gl) hst (k := k) h1
  rw [hky] at c3
  simp only [hky]
  (generalize hQ : (fun (ex : Ex) (_ _ : Nat) (s : St) => _) = Q; unfold ir_clavierref12char)
  simp +contextual (maxSteps := 1000000) only [go_sem, reduceCtorEq, ↓reduceIte, Nat.reduceAdd, Nat.reduceEqDiff]
  (refine CallP.pure (c2) (fun _ => rfl) ?_; simp +contextual (maxSteps := 1000000) only [go_sem, reduceCtorEq, ↓reduceIte, Nat.reduceAdd, Nat.reduceEqDiff])
  by_cases h2 : kindK k.code = 1
  · have q2 : (kindK k.code == 1) = true := beq_iff_eq.2 h2
    simp +contextual (maxSteps := 1000000) only [q2, go_sem, reduceCtorEq, ↓reduceIte, Nat.reduceAdd, Nat.reduceEqDiff]
    (refine CallP.pure (c3) (fun _ => rfl) ?_; simp +contextual (maxSteps := 1000000) only [go_sem, reduceCtorEq, ↓reduceIte, Nat.reduceAdd, Nat.reduceEqDiff])
    rw [← hQ, show charK k = shownK k from if_pos h2]
    exact ⟨trivial, Ret.flat rfl rfl⟩
  · have q2 : (kindK k.code == 1) = false := beq_eq_false_iff_ne.2 h2
    simp +contextual (maxSteps := 1000000) only [q2, go_sem, reduceCtorEq, ↓reduceIte, Nat.reduceAdd, Nat.reduceEqDiff]
    rw [← hQ, show charK k = k.code from if_neg h2]
    exact ⟨trivial, Ret.flat rfl rfl⟩
set_option maxHeartbeats 4000000 in
theorem fs_rOKey {Gl : Gh → Prop} (hst : Stays Gl) {m : Md} {k : Ky} (hmm : k.mods ≤ 9223372036854775807) (ht : k.text.length ≤ 1000000000000) : FS Tryz.prog Gl 21 [.agg (mdAV m), .agg (kyAV k)] [] [] (.tup [.sl none 1 (bytesAV (othK m.other k)), .bool (isO m.other k)]) [] [] := by
  refine FS.ofW hm hst is_clavierref12Key rfl (by simp) fun γ hγ hfr => ?_
  have hky : kyAV k = [.int .i64 k.code, .int .i64 k.mods, .int .i64 k.type, .int .i64 k.shifted, .int .i64 k.base, .str k.text] := rfl
  have hmd : mdAV m = [.bool m.cursor, .bool m.keypad, .bool m.back, .bool m.focus, .bool m.paste, .bool m.lock, .bool m.line, .int .i64 m.mouse, .int .i64 m.coding, .int .i64 m.other] := rfl
  have c1 := fs_rLook (Gl := Gl) hst (c := k.code)
  have hkd : (lookR k.code).kind = kindK k.code := rfl
  rw [ent_eq, hkd] at c1
  have c2 := fs_rOld (Gl := Gl) hst (m := k.mods) hmm
  have c3 := fs_rMayK (Gl := Gl) hst ht
  have c4 := fs_rLess (Gl := Gl) hst (k := k) hmm
  have c5 := fs_rChar (Gl := Gl) hst (k := k) hmm
  have hz := isO_ref m.other k
  have hw : othK m.other k = if isO m.other k = true then putB (othSq k) else [] := rfl
  rw [hky] at c3 c4 c5
  simp only [hky, hmd]
  (generalize hQ : (fun (ex : Ex) (_ _ : Nat) (s : St) => _) = Q; unfold ir_clavierref12Key)
  simp +contextual (maxSteps := 1000000) only [go_sem, reduceCtorEq, ↓reduceIte, Nat.reduceAdd, Nat.reduceEqDiff, Nat.reduceLeDiff, Nat.reduceMul, Nat.reduceBEq, Int.reduceBEq, Int.reduceBNe, Int.reduceLT, Int.reduceLE, Int.reduceGT, Int.reduceGE, Int.reduceToNat]
  (refine CallP.pure (c1) (fun _ => rfl) ?_; simp +contextual (maxSteps := 1000000) only [go_sem, reduceCtorEq, ↓reduceIte, Nat.reduceAdd, Nat.reduceEqDiff, Nat.reduceLeDiff, Nat.reduceMul, Nat.reduceBEq, Int.reduceBEq, Int.reduceBNe, Int.reduceLT, Int.reduceLE, Int.reduceGT, Int.reduceGE, Int.reduceToNat])
  (refine CallP.pure (c2) (fun _ => rfl) ?_; simp +contextual (maxSteps := 1000000) only [go_sem, reduceCtorEq, ↓reduceIte, Nat.reduceAdd, Nat.reduceEqDiff, Nat.reduceLeDiff, Nat.reduceMul, Nat.reduceBEq, Int.reduceBEq, Int.reduceBNe, Int.reduceLT, Int.reduceLE, Int.reduceGT, Int.reduceGE, Int.reduceToNat])
  (refine CallP.pure (c3) (fun _ => rfl) ?_; simp +contextual (maxSteps := 1000000) only [go_sem, reduceCtorEq, ↓reduceIte, Nat.reduceAdd, Nat.reduceEqDiff, Nat.reduceLeDiff, Nat.reduceMul, Nat.reduceBEq, Int.reduceBEq, Int.reduceBNe, Int.reduceLT, Int.reduceLE, Int.reduceGT, Int.reduceGE, Int.reduceToNat])
  (refine kGc_call (c4) (fun _ => rfl) (fun hgc => ?_) ?_; (focus (first | (rw [Bool.not_eq_true'] at hgc; simp only [List.map_cons, List.map_nil, List.nil_append, List.append_nil, List.cons_append, Xev_t, Xev_c, upd_app, lf_cons, lf_nil, Nat.reduceEqDiff, ↓reduceIte, hgc, Bool.false_eq_true, Bool.true_eq_false, reduceCtorEq]; done) | (simp only [List.map_cons, List.map_nil, List.nil_append, List.append_nil, List.cons_append, Xev_t, Xev_c, upd_app, lf_cons, lf_nil, Nat.reduceEqDiff, ↓reduceIte, hgc, Bool.false_eq_true, Bool.true_eq_false, reduceCtorEq]; done) | (revert hgc; simp +contextual [Xev_t, Xev_c, upd_app, lf_cons, lf_nil]; done) | simp [Xev_t, Xev_c, upd_app, lf_cons, lf_nil])); simp +contextual (maxSteps := 1000000) only [go_sem, reduceCtorEq, ↓reduceIte, Nat.reduceAdd, Nat.reduceEqDiff, Nat.reduceLeDiff, Nat.reduceMul, Nat.reduceBEq, Int.reduceBEq, Int.reduceBNe, Int.reduceLT, Int.reduceLE, Int.reduceGT, Int.reduceGE, Int.reduceToNat])
  cases hB : ((((((!mayK k || (k.type == 3)) || ((m.other != 1) && (m.other != 2))) || ((kindK k.code != 1) && (kindK k.code != 2))) || (oldK k.mods == 0)) || ((kindK k.code == 1) && (oldK k.mods == 1))) || ((m.other == 1) && !lessO k)) with
  | true =>
    simp +contextual (maxSteps := 1000000) only [hB, go_sem, reduceCtorEq, ↓reduceIte, Nat.reduceAdd, Nat.reduceEqDiff, Nat.reduceLeDiff, Nat.reduceMul, Nat.reduceBEq, Int.reduceBEq, Int.reduceBNe, Int.reduceLT, Int.reduceLE, Int.reduceGT, Int.reduceGE, Int.reduceToNat]
    rw [← hQ, hw, hz, hB]
    exact ⟨trivial, .inl ⟨.tup [.nils, .bool false], rfl, RepLe.tupL ⟨.nils 1, .refl _, trivial⟩⟩⟩
  | false =>
    have hiO : isO m.other k = true := by rw [hz, hB]; rfl
    have M := (isO_iff.1 hiO).2.1
    have hold := old_lt k.mods
    have hw1 : IntKind.i64.wrap (1 + oldK k.mods) = 1 + oldK k.mods := by rw [IntKind.wrap_i64]; omega
    have c6 : ∀ t : Option Nm, FS Tryz.prog Gl 46 [.agg [.int .i64 1, .int .u8 0, .sl t 1 [[.sl none 1 [[.int .i64 27]]], [.sl none 1 [[.int .i64 (1 + oldK k.mods)]]], [.sl none 1 [[.int .i64 (charK k)]]]], .str [], .int .u8 126, .str []]] [] [] (.tup [.sl none 1 (bytesAV (putB (othSq k))), .int .i64 0]) [] [] := fun t => by
      have h := oth_may M
      have := fs_rPutX (Gl := Gl) hst (s := othSq k) (by simp [othSq, numSq]) (by simp [othSq, numSq]) (by simp [othSq, numSq]) (by simp [othSq, numSq]) (sm_num (by simp))
      rw [putX_may h, h] at this
      exact FS.args this ⟨RepLe.agg ⟨.refl _, .refl _, .anon _ _ _, .refl _, .refl _, .refl _, trivial⟩, trivial⟩
    simp +contextual (maxSteps := 1000000) only [hB, hw1, go_sem, reduceCtorEq, ↓reduceIte, Nat.reduceAdd, Nat.reduceEqDiff, Nat.reduceLeDiff, Nat.reduceMul, Nat.reduceBEq, Int.reduceBEq, Int.reduceBNe, Int.reduceLT, Int.reduceLE, Int.reduceGT, Int.reduceGE, Int.reduceToNat]
    (refine CallP.pure (c5) (fun _ => rfl) ?_; simp +contextual (maxSteps := 1000000) only [go_sem, reduceCtorEq, ↓reduceIte, Nat.reduceAdd, Nat.reduceEqDiff, Nat.reduceLeDiff, Nat.reduceMul, Nat.reduceBEq, Int.reduceBEq, Int.reduceBNe, Int.reduceLT, Int.reduceLE, Int.reduceGT, Int.reduceGE, Int.reduceToNat])
    (refine CallP.pure (c6 _) (fun _ => rfl) ?_; simp +contextual (maxSteps := 1000000) only [go_sem, reduceCtorEq, ↓reduceIte, Nat.reduceAdd, Nat.reduceEqDiff, Nat.reduceLeDiff, Nat.reduceMul, Nat.reduceBEq, Int.reduceBEq, Int.reduceBNe, Int.reduceLT, Int.reduceLE, Int.reduceGT, Int.reduceGE, Int.reduceToNat])
    rw [← hQ, hw, hiO]
    exact ⟨trivial, .inl ⟨.tup [.sl none 1 (bytesAV (putB (othSq k))), .bool true], rfl, RepLe.refl _⟩⟩
end Go.Proofs.YtbepihadhmfklaaGreatDoor

namespace Go.Proofs.YtbepihadhmfklaaGreatDoor
open Go Go.Ab
def ir_clavierref14Clears : ICode :=
 (.seq
 (.reg [⟨some 2, none, .mov (.c (.bool false))⟩] (some [0]))
 (.seq
 (.reg [⟨some 4, none, .mov (.t 0)⟩,
 ⟨some 5, none, .call (.c (.fn (.func 18) [] [])) [(.t 4)]⟩,
 ⟨some 3, none, .mov (.t 5)⟩] (some [3]))
 (.seq
 (.reg [⟨some 6, none, .mov (.t 3)⟩,
 ⟨some 7, none, .bin .rem .none (.t 6) (.c (.int .i64 2))⟩,
 ⟨some 8, none, .bin .eql .none (.t 7) (.c (.int .i64 1))⟩,
 ⟨some 9, none, .mov (.t 8)⟩,
 ⟨some 10, some (9, false), .mov (.t 3)⟩,
 ⟨some 11, some (9, false), .bin .quo .none (.t 10) (.c (.int .i64 8))⟩,
 ⟨some 12, some (9, false), .bin .rem .none (.t 11) (.c (.int .i64 2))⟩,
 ⟨some 13, some (9, false), .bin .eql .none (.t 12) (.c (.int .i64 1))⟩,
 ⟨some 14, none, .pick (.t 9) (.c (.bool true)) (.t 13)⟩,
 ⟨some 2, none, .mov (.t 14)⟩] (some [2]))
 .ret)))
theorem is_clavierref14Clears : IrOf Tryz.prog 16 15 ir_clavierref14Clears [.t 2] := ⟨_, Tryz.func16, rfl, by kernel_rfl, by kernel_rfl, by kernel_rfl⟩

def ir_clavierref14Key : ICode :=
 (.seq
 (.reg [⟨some 3, none, .box 23 (.t 0)⟩,
 ⟨some 5, none, .box 25 (.t 2)⟩,
 ⟨some 6, none, .mov (.c .nils)⟩] (some [1, 3, 5]))
 (.seq
 (.seq
 (.reg [⟨some 9, none, .fa 5 (.t 3)⟩,
 ⟨some 10, none, .ld none (.t 9)⟩] (some [1, 3, 5, 10]))
 (.cond (.t 10)
 (.seq
 (.reg [⟨some 6, none, .mov (.c .nils)⟩] (some [6]))
 .ret)
 .skip))
 (.seq
 (.seq
 (.reg [⟨some 11, none, .mov (.t 1)⟩,
 ⟨some 12, none, .call (.c (.fn (.func 16) [] [])) [(.t 11)]⟩] (some [1, 3, 5, 12]))
 (.cond (.t 12)
 (.seq
 (.reg [⟨some 13, none, .mov (.t 1)⟩,
 ⟨some 14, none, .ld (some 6) (.t 5)⟩,
 ⟨some 15, none, .call (.c (.fn (.func 31) [] [])) [(.t 13), (.t 14)]⟩,
 ⟨some 6, none, .mov (.t 15)⟩] (some [6]))
 .ret)
 .skip))
 (.seq
 (.reg [⟨some 17, none, .ld (some 10) (.t 3)⟩,
 ⟨some 18, none, .ld (some 6) (.t 5)⟩,
 ⟨some 19, none, .call (.c (.fn (.func 21) [] [])) [(.t 17), (.t 18)]⟩,
 ⟨some 16, none, .mov (.t 19)⟩,
 ⟨some 20, none, .ext (.t 16) 0⟩,
 ⟨some 21, none, .ext (.t 16) 1⟩,
 ⟨some 7, none, .mov (.t 20)⟩,
 ⟨some 8, none, .mov (.t 21)⟩] (some [3, 5, 7, 8]))
 (.seq
 (.seq
 (.reg [⟨some 22, none, .mov (.t 8)⟩] (some [3, 5, 7, 22]))
 (.cond (.t 22)
 (.seq
 (.reg [⟨some 23, none, .mov (.t 7)⟩,
 ⟨some 6, none, .mov (.t 23)⟩] (some [6]))
 .ret)
 .skip))
 (.seq
 (.reg [⟨some 24, none, .ld (some 10) (.t 3)⟩,
 ⟨some 25, none, .ld (some 6) (.t 5)⟩,
 ⟨some 26, none, .call (.c (.fn (.func 32) [] [])) [(.t 24), (.t 25)]⟩,
 ⟨some 6, none, .mov (.t 26)⟩] (some [6]))
 .ret))))))
theorem is_clavierref14Key : IrOf Tryz.prog 14 27 ir_clavierref14Key [.t 6] := ⟨_, Tryz.func14, rfl, by kernel_rfl, by kernel_rfl, by kernel_rfl⟩

theorem fs_rClears {Gl : Gh → Prop} (hst : Stays Gl) {fl : Int} (h : fl ≤ 9223372036854775807) : FS Tryz.prog Gl 16 [.int .i64 fl] [] [] (.bool (clearsK fl)) [] [] := by
  refine FS.of hm hst is_clavierref14Clears (by simp) fun γ hγ hfr => ?_
  have c1 := fs_rFlags (Gl := Gl) hst (n := fl) h
  have q1 : ((flagsK fl).tmod 2 == 1) = hasK fl 1 := by
    unfold flagsK hasK
    rw [Int.tmod_eq_emod_of_nonneg (by omega), Bool.eq_iff_iff, beq_iff_eq, decide_eq_true_eq]
    omega
  have q8 : ((IntKind.i64.wrap ((flagsK fl).tdiv 8)).tmod 2 == 1) = hasK fl 8 := flag_eq (by simp)
  have hz : clearsK fl = (hasK fl 1 || hasK fl 8) := rfl
  (generalize hQ : (fun (ex : Ex) (_ _ : Nat) (s : St) => _) = Q; unfold ir_clavierref14Clears)
  simp +contextual (maxSteps := 1000000) only [go_sem, reduceCtorEq, ↓reduceIte, Nat.reduceAdd, Nat.reduceEqDiff]
  (refine CallP.pure (c1) (fun _ => rfl) ?_; simp +contextual (maxSteps := 1000000) only [q1, q8, go_sem, reduceCtorEq, ↓reduceIte, Nat.reduceAdd, Nat.reduceEqDiff])
  repeat (first | refine And.intro (by omega) ?_ | refine And.intro (fun _ => by omega) ?_)
  rw [← hQ, hz]
  exact ⟨trivial, Ret.flat rfl rfl⟩
set_option maxHeartbeats 4000000 in
theorem fs_rBKey {Gl : Gh → Prop} (hst : Stays Gl) {m : Md} {k : Ky} {fl : Int} (hfl : fl ≤ 9223372036854775807) (hmm : k.mods ≤ 9223372036854775807) (ht : k.text.length ≤ 1000000000000) : FS Tryz.prog Gl 14 [.agg (mdAV m), .int .i64 fl, .agg (kyAV k)] [] [] (.sl none 1 (bytesAV (boardK m fl k))) [] [] := by
  refine FS.ofW hm hst is_clavierref14Key rfl (by simp) fun γ hγ hfr => ?_
  have hky : kyAV k = [.int .i64 k.code, .int .i64 k.mods, .int .i64 k.type, .int .i64 k.shifted, .int .i64 k.base, .str k.text] := rfl
  have hmd : mdAV m = [.bool m.cursor, .bool m.keypad, .bool m.back, .bool m.focus, .bool m.paste, .bool m.lock, .bool m.line, .int .i64 m.mouse, .int .i64 m.coding, .int .i64 m.other] := rfl
  have hz : boardK m fl k = if m.lock = true then [] else if clearsK fl = true then keyK fl k else if isO m.other k = true then putB (othSq k) else legK m k := rfl
  have hw : othK m.other k = if isO m.other k = true then putB (othSq k) else [] := rfl
  have c1 := fs_rClears (Gl := Gl) hst hfl
  have c2 := fs_rKey (Gl := Gl) hst (k := k) hfl ht
  have c3 := fs_rOKey (Gl := Gl) hst (m := m) (k := k) hmm ht
  have c4 := fs_rLegKey (Gl := Gl) hst (m := m) (k := k) ht
  rw [hky] at c2 c3 c4
  rw [hmd] at c3 c4
  simp only [hky, hmd]
  (generalize hQ : (fun (ex : Ex) (_ _ : Nat) (s : St) => _) = Q; unfold ir_clavierref14Key)
  simp +contextual (maxSteps := 1000000) only [go_sem, reduceCtorEq, ↓reduceIte, Nat.reduceAdd, Nat.reduceEqDiff]
  cases hl : m.lock with
  | true =>
    simp +contextual (maxSteps := 1000000) only [hl, go_sem, reduceCtorEq, ↓reduceIte, Nat.reduceAdd, Nat.reduceEqDiff]
    rw [← hQ, hz, hl]
    exact ⟨trivial, .inl ⟨_, rfl, RepLe.nils 1⟩⟩
  | false =>
    rw [hl] at c3 c4
    cases hC : clearsK fl with
    | true =>
      rw [hC] at c1
      simp +contextual (maxSteps := 1000000) only [hl, go_sem, reduceCtorEq, ↓reduceIte, Nat.reduceAdd, Nat.reduceEqDiff]
      (refine CallP.pure (c1) (fun _ => rfl) ?_; simp +contextual (maxSteps := 1000000) only [go_sem, reduceCtorEq, ↓reduceIte, Nat.reduceAdd, Nat.reduceEqDiff])
      (refine CallP.pure (c2) (fun _ => rfl) ?_; simp +contextual (maxSteps := 1000000) only [go_sem, reduceCtorEq, ↓reduceIte, Nat.reduceAdd, Nat.reduceEqDiff])
      rw [← hQ, hz, hl, hC]
      exact ⟨trivial, .inl ⟨_, rfl, RepLe.refl _⟩⟩
    | false =>
      rw [hC] at c1
      cases hO : isO m.other k with
      | true =>
        rw [hO, if_pos rfl] at hw
        rw [hO, hw] at c3
        simp +contextual (maxSteps := 1000000) only [hl, go_sem, reduceCtorEq, ↓reduceIte, Nat.reduceAdd, Nat.reduceEqDiff]
        (refine CallP.pure (c1) (fun _ => rfl) ?_; simp +contextual (maxSteps := 1000000) only [go_sem, reduceCtorEq, ↓reduceIte, Nat.reduceAdd, Nat.reduceEqDiff])
        (refine CallP.pure (c3) (fun _ => rfl) ?_; simp +contextual (maxSteps := 1000000) only [go_sem, reduceCtorEq, ↓reduceIte, Nat.reduceAdd, Nat.reduceEqDiff])
        rw [← hQ, hz, hl, hC, hO]
        exact ⟨trivial, .inl ⟨_, rfl, RepLe.refl _⟩⟩
      | false =>
        rw [hO] at c3
        simp +contextual (maxSteps := 1000000) only [hl, go_sem, reduceCtorEq, ↓reduceIte, Nat.reduceAdd, Nat.reduceEqDiff]
        (refine CallP.pure (c1) (fun _ => rfl) ?_; simp +contextual (maxSteps := 1000000) only [go_sem, reduceCtorEq, ↓reduceIte, Nat.reduceAdd, Nat.reduceEqDiff])
        (refine CallP.pure (c3) (fun _ => rfl) ?_; simp +contextual (maxSteps := 1000000) only [go_sem, reduceCtorEq, ↓reduceIte, Nat.reduceAdd, Nat.reduceEqDiff])
        (refine CallP.pure (c4) (fun _ => rfl) ?_; simp +contextual (maxSteps := 1000000) only [go_sem, reduceCtorEq, ↓reduceIte, Nat.reduceAdd, Nat.reduceEqDiff])
        rw [← hQ, hz, hl, hC, hO]
        exact ⟨trivial, .inl ⟨_, rfl, RepLe.refl _⟩⟩
end Go.Proofs.YtbepihadhmfklaaGreatDoor

namespace Go.Proofs.YtbepihadhmfklaaGreatDoor
open Go Go.Ab
def ir_clavierlaw14BoardTells : ICode :=
 (.seq
 (.reg [⟨some 3, none, .box 23 (.t 0)⟩,
 ⟨some 5, none, .box 25 (.t 2)⟩,
 ⟨some 6, none, .mov (.c (.bool false))⟩] (some [1, 3, 5]))
 (.seq
 (.reg [⟨some 8, none, .call (.c (.fn (.func 12) [] [])) []⟩,
 ⟨some 7, none, .mov (.t 8)⟩] (some [1, 3, 5, 7]))
 (.seq
 (.seq
 (.reg [⟨some 9, none, .fa 5 (.t 5)⟩,
 ⟨some 10, none, .ld none (.t 9)⟩,
 ⟨some 11, none, .lns (.t 10)⟩,
 ⟨some 12, none, .bin .gtr .none (.t 11) (.c (.int .i64 100))⟩] (some [1, 3, 5, 7, 12]))
 (.cond (.t 12)
 (.seq
 (.reg [⟨some 13, none, .mov (.t 7)⟩,
 ⟨some 6, none, .mov (.t 13)⟩] (some [6]))
 .ret)
 .skip))
 (.seq
 (.drw [⟨⟨some 14, none, .mov (.t 7)⟩, []⟩,
 ⟨⟨some 15, none, .mov (.t 14)⟩, [0]⟩,
 ⟨⟨some 16, some (15, true), .ld (some 10) (.t 3)⟩, [1]⟩,
 ⟨⟨some 17, some (15, true), .mov (.t 1)⟩, [1]⟩,
 ⟨⟨some 18, some (15, true), .ld (some 6) (.t 5)⟩, [1]⟩,
 ⟨⟨some 19, some (15, true), .call (.c (.fn (.func 13) [] [])) [(.t 16), (.t 17), (.t 18)]⟩, [2, 3, 4, 1, 1]⟩,
 ⟨⟨some 20, some (15, true), .b2s (.t 19)⟩, [5, 1]⟩,
 ⟨⟨some 21, some (15, true), .ld (some 10) (.t 3)⟩, [1]⟩,
 ⟨⟨some 22, some (15, true), .mov (.t 1)⟩, [1]⟩,
 ⟨⟨some 23, some (15, true), .ld (some 6) (.t 5)⟩, [1]⟩,
 ⟨⟨some 24, some (15, true), .call (.c (.fn (.func 14) [] [])) [(.t 21), (.t 22), (.t 23)]⟩, [7, 8, 9, 5, 1]⟩,
 ⟨⟨some 25, some (15, true), .b2s (.t 24)⟩, [10, 1]⟩,
 ⟨⟨some 26, some (15, true), .bin .eql .none (.t 20) (.t 25)⟩, [6, 11, 1]⟩,
 ⟨⟨some 27, none, .pick (.t 15) (.t 26) (.c (.bool false))⟩, [1, 12]⟩,
 ⟨⟨some 28, none, .mov (.t 27)⟩, [13, 10]⟩,
 ⟨⟨some 29, some (28, true), .mov (.t 1)⟩, [14]⟩,
 ⟨⟨some 30, some (28, true), .call (.c (.fn (.func 15) [] [])) [(.t 29)]⟩, [15, 14, 14]⟩,
 ⟨⟨some 31, some (28, true), .mov (.t 1)⟩, [14]⟩,
 ⟨⟨some 32, some (28, true), .call (.c (.fn (.func 16) [] [])) [(.t 31)]⟩, [17, 16, 14]⟩,
 ⟨⟨some 33, some (28, true), .bin .eql .bool (.t 30) (.t 32)⟩, [16, 18, 14]⟩,
 ⟨⟨some 34, none, .pick (.t 28) (.t 33) (.c (.bool false))⟩, [14, 19]⟩]
 [⟨some 6, none, .mov (.t 34)⟩] (some [6]))
 .ret))))
theorem is_clavierlaw14BoardTells : IrOf Tryz.prog 3 35 ir_clavierlaw14BoardTells [.t 6] := ⟨_, Tryz.func3, rfl, by kernel_rfl, by kernel_rfl, by kernel_rfl⟩

set_option maxHeartbeats 4000000 in
theorem fs_BoardTells {Gl : Gh → Prop} (hst : Stays Gl) {m : Md} {fl : Int} {k : Ky} (_ : True) (hfl : -9223372036854775808 ≤ fl ∧ fl ≤ 9223372036854775807) (h : k.text.length ≤ maxLen ∧ k.mods ≤ 9223372036854775807) : FS Tryz.prog Gl 3 [.agg (mdAV m), .int .i64 fl, .agg (kyAV k)] [] [] (.bool true) [] [] := by
  refine FS.of hm hst is_clavierlaw14BoardTells (by simp) fun γ hγ hfr => ?_
  obtain ⟨ht, hmm⟩ := h
  have hky : kyAV k = [.int .i64 k.code, .int .i64 k.mods, .int .i64 k.type, .int .i64 k.shifted, .int .i64 k.base, .str k.text] := rfl
  have hmd : mdAV m = [.bool m.cursor, .bool m.keypad, .bool m.back, .bool m.focus, .bool m.paste, .bool m.lock, .bool m.line, .int .i64 m.mouse, .int .i64 m.coding, .int .i64 m.other] := rfl
  simp only [hky, hmd]
  (generalize hQ : (fun (ex : Ex) (_ _ : Nat) (s : St) => _) = Q; unfold ir_clavierlaw14BoardTells)
  simp +contextual (maxSteps := 1000000) only [go_sem, reduceCtorEq, ↓reduceIte, Nat.reduceAdd, Nat.reduceEqDiff]
  (refine CallP.pure (fs_awake14 hst) (fun _ => rfl) ?_; simp +contextual (maxSteps := 1000000) only [go_sem, reduceCtorEq, ↓reduceIte, Nat.reduceAdd, Nat.reduceEqDiff])
  by_cases h : (k.text.length : Int) > 100
  · have q : decide ((k.text.length : Int) > 100) = true := decide_eq_true h
    simp +contextual (maxSteps := 1000000) only [q, go_sem, reduceCtorEq, ↓reduceIte, Nat.reduceAdd, Nat.reduceEqDiff]
    rw [← hQ]
    exact ⟨trivial, Ret.flat rfl rfl⟩
  · have q : decide ((k.text.length : Int) > 100) = false := decide_eq_false h
    have c1 := fs_bKey (Gl := Gl) hst (m := m) (k := k) hfl.2 hmm (by omega)
    have c2 := fs_rBKey (Gl := Gl) hst (m := m) (k := k) hfl.2 hmm (by omega)
    have c3 := fs_bClears (Gl := Gl) hst hfl.2
    have c4 := fs_rClears (Gl := Gl) hst hfl.2
    have qs : ∀ b : Bool, (b == b) = true := by simp
    simp only [hky, hmd] at c1 c2
    generalize boardK m fl k = bk at c1 c2
    simp +contextual (maxSteps := 1000000) only [q, go_sem, reduceCtorEq, ↓reduceIte, Nat.reduceAdd, Nat.reduceEqDiff]
    refine DCall.new c1 ?_
    simp +contextual (maxSteps := 1000000) only [go_sem, reduceCtorEq, ↓reduceIte, Nat.reduceAdd, Nat.reduceEqDiff]
    refine ⟨?_, DCall.new c2 ?_⟩
    · rw [bb_is]; trivial
    simp +contextual (maxSteps := 1000000) only [bb_un, bb_is, go_sem, reduceCtorEq, ↓reduceIte, Nat.reduceAdd, Nat.reduceEqDiff]
    refine DCall.new c3 ?_
    simp +contextual (maxSteps := 1000000) only [bb_un, bb_is, go_sem, reduceCtorEq, ↓reduceIte, Nat.reduceAdd, Nat.reduceEqDiff]
    refine DCall.new c4 ?_
    simp +contextual (maxSteps := 1000000) only [bb_un, bb_is, qs, go_sem, reduceCtorEq, ↓reduceIte, Nat.reduceAdd, Nat.reduceEqDiff]
    rw [← hQ]
    exact ⟨trivial, Ret.flat rfl rfl⟩
end Go.Proofs.YtbepihadhmfklaaGreatDoor

namespace Go.Proofs.YtbepihadhmfklaaGreatDoor
open Go Go.Ab Go.WideShapes Go.RowKit
theorem seat_own : ownKnob Tryz.prog.godebug = none := by kernel_rfl
theorem seat_laidOut : laidOutB Tryz.prog = true := by kernel_rfl
section
variable {H : Type} {enc : TypeId × Value → H} {W : World} {base : Nat} {v : Value} {d : DataW H} {p : List MemPlace}
theorem op_int (hv : Value.okWide Tryz.prog W .any base 3 v) (hd : DataW.Trod enc Tryz.prog W 0 (fun _ => true) true 3 v d p) : ∃ n : Int, (-9223372036854775808 ≤ n ∧ n ≤ 9223372036854775807) ∧ Rep (gh0 W) (.int .i64 n) v := by
  obtain ⟨n, rfl⟩ := okWide_int (P := Tryz.prog) (k := .i64) (by kernel_rfl) hv
  obtain ⟨x, ⟨m, h1, h2, h3⟩, hr⟩ := (TR.int (P := Tryz.prog) (k := .i64) (by kernel_rfl)).arg1 rfl hd
  simp only [List.cons.injEq, and_true] at h1
  subst h1
  exact ⟨m, ⟨by simpa [IntKind.min, IntKind.signed, IntKind.bits] using h2, by simpa [IntKind.max, IntKind.signed, IntKind.bits] using h3⟩, hr⟩
end
end Go.Proofs.YtbepihadhmfklaaGreatDoor

namespace Go.Proofs.YtbepihadhmfklaaGreatDoor
open Go Go.Ab
theorem fixW_of {W : World} (h : laidMetH Tryz.prog [("math/bits.deBruijn32tab", Rows.laid_math_bits_deBruijn32tab), ("math/bits.deBruijn64tab", Rows.laid_math_bits_deBruijn64tab), ("internal/strconv.uint64pow10", Rows.laid_internal_strconv_uint64pow10)] W) : FixW W := by
  rw [MakeChecks.laidMetH_plain _ _ _ (by kernel_rfl)] at h
  have h2 := laidMet.filter (fun x => x.1 == "internal/strconv.uint64pow10") h
  have h3 : laidMet Tryz.prog [("internal/strconv.uint64pow10", Lib.tabData .u64 Lib.pow10Tab)] W := h2
  have h4 := Lib.tabIs_of_head (g := 3) (t := 184) (e := 175) (n := 20) (by kernel_rfl) (by kernel_rfl) (by kernel_rfl) (by kernel_rfl) (by kernel_rfl) (by kernel_rfl) h3
  intro p hp
  obtain rfl := List.mem_singleton.1 hp
  unfold Lib.TabIs World.var? at h4
  rw [show Program.globalNamed Tryz.prog "internal/strconv.uint64pow10" = some 3 from by kernel_rfl] at h4
  simp only [Option.bind_some] at h4
  split at h4
  · rename_i cs e fr hh
    simp only [Option.some.injEq] at h4
    refine ⟨e, fr, ?_⟩
    rw [hh, h4]
    simp [Lib.pow10Tab]
  · cases h4
end Go.Proofs.YtbepihadhmfklaaGreatDoor

namespace Go.Proofs.YtbepihadhmfklaaGreatDoor
open Go Go.Ab Go.WideShapes Go.RowKit
def zero_apiKey : Value := .agg #[.int .i64 0, .int .i64 0, .int .i64 0, .int .i64 0, .int .i64 0, .string ByteArray.empty]
section
variable {H : Type} {enc : TypeId × Value → H} {W : World} {base : Nat} {v : Value} {d : DataW H} {p : List MemPlace}
theorem key_is : structIs Tryz.prog 25 [(0, 3), (1, 3), (2, 3), (3, 3), (4, 3), (5, 9)] = true := by kernel_rfl
end
end Go.Proofs.YtbepihadhmfklaaGreatDoor

namespace Go.Proofs.YtbepihadhmfklaaGreatDoor
open Go Go.Ab Go.WideShapes Go.RowKit
section
variable {H : Type} {enc : TypeId × Value → H} {W : World} {base : Nat} {v : Value} {d : DataW H} {p : List MemPlace}
theorem tr_KeyI : TR enc Tryz.prog W 25 fun xs => ∃ k : Ky, xs = kyAV k ∧ k.text.length ≤ maxLen ∧ k.mods ≤ 9223372036854775807 := by
  refine (TR.structL (Rs := [fun xs => ∃ n, xs = [.int .i64 n] ∧ IntKind.i64.min ≤ n ∧ n ≤ IntKind.i64.max, fun xs => ∃ n, xs = [.int .i64 n] ∧ IntKind.i64.min ≤ n ∧ n ≤ IntKind.i64.max, fun xs => ∃ n, xs = [.int .i64 n] ∧ IntKind.i64.min ≤ n ∧ n ≤ IntKind.i64.max, fun xs => ∃ n, xs = [.int .i64 n] ∧ IntKind.i64.min ≤ n ∧ n ≤ IntKind.i64.max, fun xs => ∃ n, xs = [.int .i64 n] ∧ IntKind.i64.min ≤ n ∧ n ≤ IntKind.i64.max, fun xs => ∃ s, xs = [.str s] ∧ s.length ≤ maxLen]) 6 key_is (by kernel_rfl) ?_).mono ?_
  · exact ⟨rfl, TR.int (by kernel_rfl), 1, by kernel_rfl, rfl, TR.int (by kernel_rfl), 1, by kernel_rfl, rfl, TR.int (by kernel_rfl), 1, by kernel_rfl, rfl, TR.int (by kernel_rfl), 1, by kernel_rfl, rfl, TR.int (by kernel_rfl), 1, by kernel_rfl, rfl, TR.str (by kernel_rfl), 1, by kernel_rfl, rfl⟩
  · rintro xs ⟨_, _, ⟨a, rfl, _⟩, ⟨_, _, ⟨b, rfl, hb⟩, ⟨_, _, ⟨c, rfl, _⟩, ⟨_, _, ⟨e, rfl, _⟩, ⟨_, _, ⟨f, rfl, _⟩, ⟨_, _, ⟨t, rfl, ht⟩, h, rfl⟩, rfl⟩, rfl⟩, rfl⟩, rfl⟩, rfl⟩
    have h : _ = [] := h
    subst h
    exact ⟨⟨a, b, c, e, f, t⟩, rfl, ht, by simpa [IntKind.max, IntKind.signed, IntKind.bits] using hb.2⟩
theorem op_apiKeyI (hv : Value.okWide Tryz.prog W .any base 25 v) (hd : DataW.Trod enc Tryz.prog W 0 (fun _ => true) true 25 v d p) : ∃ k : Ky, (k.text.length ≤ maxLen ∧ k.mods ≤ 9223372036854775807) ∧ Rep (gh0 W) (.agg (kyAV k)) v := by
  obtain ⟨cs, rfl⟩ := okWide_struct key_is hv
  obtain ⟨xs, ⟨k, rfl, h⟩, hr⟩ := tr_KeyI.argN hd
  exact ⟨k, h, hr⟩
end
end Go.Proofs.YtbepihadhmfklaaGreatDoor

namespace Go.Proofs.YtbepihadhmfklaaGreatDoor
open Go Go.Ab Go.WideShapes Go.RowKit
def zero_apiModes : Value := .agg #[.bool false, .bool false, .bool false, .bool false, .bool false, .bool false, .bool false, .int .i64 0, .int .i64 0, .int .i64 0]
section
variable {H : Type} {enc : TypeId × Value → H} {W : World} {base : Nat} {v : Value} {d : DataW H} {p : List MemPlace}
theorem modes_is : structIs Tryz.prog 23 [(0, 4), (1, 4), (2, 4), (3, 4), (4, 4), (5, 4), (6, 4), (7, 3), (8, 3), (9, 3)] = true := by kernel_rfl
theorem tr_Modes : TR enc Tryz.prog W 23 fun xs => ∃ m : Md, xs = mdAV m := by
  refine (TR.structL (Rs := [fun xs => ∃ b, xs = [.bool b], fun xs => ∃ b, xs = [.bool b], fun xs => ∃ b, xs = [.bool b], fun xs => ∃ b, xs = [.bool b], fun xs => ∃ b, xs = [.bool b], fun xs => ∃ b, xs = [.bool b], fun xs => ∃ b, xs = [.bool b], fun xs => ∃ n, xs = [.int .i64 n] ∧ IntKind.i64.min ≤ n ∧ n ≤ IntKind.i64.max, fun xs => ∃ n, xs = [.int .i64 n] ∧ IntKind.i64.min ≤ n ∧ n ≤ IntKind.i64.max, fun xs => ∃ n, xs = [.int .i64 n] ∧ IntKind.i64.min ≤ n ∧ n ≤ IntKind.i64.max]) 10 modes_is (by kernel_rfl) ?_).mono ?_
  · exact ⟨rfl, TR.bool (by kernel_rfl), 1, by kernel_rfl, rfl, TR.bool (by kernel_rfl), 1, by kernel_rfl, rfl, TR.bool (by kernel_rfl), 1, by kernel_rfl, rfl, TR.bool (by kernel_rfl), 1, by kernel_rfl, rfl, TR.bool (by kernel_rfl), 1, by kernel_rfl, rfl, TR.bool (by kernel_rfl), 1, by kernel_rfl, rfl, TR.bool (by kernel_rfl), 1, by kernel_rfl, rfl, TR.int (by kernel_rfl), 1, by kernel_rfl, rfl, TR.int (by kernel_rfl), 1, by kernel_rfl, rfl, TR.int (by kernel_rfl), 1, by kernel_rfl, rfl⟩
  · rintro xs ⟨_, _, ⟨a, rfl⟩, ⟨_, _, ⟨b, rfl⟩, ⟨_, _, ⟨c, rfl⟩, ⟨_, _, ⟨e, rfl⟩, ⟨_, _, ⟨f, rfl⟩, ⟨_, _, ⟨g, rfl⟩, ⟨_, _, ⟨i, rfl⟩, ⟨_, _, ⟨j, rfl, _⟩, ⟨_, _, ⟨k, rfl, _⟩, ⟨_, _, ⟨l, rfl, _⟩, h, rfl⟩, rfl⟩, rfl⟩, rfl⟩, rfl⟩, rfl⟩, rfl⟩, rfl⟩, rfl⟩, rfl⟩
    have h : _ = [] := h
    subst h
    exact ⟨⟨a, b, c, e, f, g, i, j, k, l⟩, rfl⟩
theorem op_apiModes (hv : Value.okWide Tryz.prog W .any base 23 v) (hd : DataW.Trod enc Tryz.prog W 0 (fun _ => true) true 23 v d p) : ∃ m : Md, True ∧ Rep (gh0 W) (.agg (mdAV m)) v := by
  obtain ⟨cs, rfl⟩ := okWide_struct modes_is hv
  obtain ⟨xs, ⟨m, rfl⟩, hr⟩ := tr_Modes.argN hd
  exact ⟨m, trivial, hr⟩
end
end Go.Proofs.YtbepihadhmfklaaGreatDoor

namespace Go.Proofs.YtbepihadhmfklaaGreatDoor
open Go Go.Ab Go.ChangeShapes Go.WideShapes Go.ChangeAt Go.RowKit
theorem boardTells_lifted (os : Os) (started : os.Started) (H : Type) (enc : TypeId × Value → H) (F : Stop.Interp) :
    ReturnsInHanded {} Tryz.checked os 3 .any ((OpenSpec.ofChange Rows.boardTellsSpec).preRow enc Tryz.prog Tryz.f3 Rows.boardTellsRow.domain false Rows.boardTellsRow.laid) (((OpenSpec.ofChange Rows.boardTellsSpec).at F).post enc Tryz.prog Tryz.f3 false true false false) := by
  have hw : (DataW.whole enc Tryz.prog ((World.laidAll Tryz.prog os [("math/bits.deBruijn32tab", Rows.laid_math_bits_deBruijn32tab), ("math/bits.deBruijn64tab", Rows.laid_math_bits_deBruijn64tab), ("internal/strconv.uint64pow10", Rows.laid_internal_strconv_uint64pow10)]).forCall (fun _ _ => 0) ⟨#[], #[zero_apiModes, .int .i64 0, zero_apiKey], []⟩).memory Tryz.f3.params.toList (OpenSpec.ofChange Rows.boardTellsSpec).vars false (#[zero_apiModes, .int .i64 0, zero_apiKey] : Array Value).toList 8).any (fun x => true) = true := by kernel_rfl
  cases hx : DataW.whole enc Tryz.prog ((World.laidAll Tryz.prog os [("math/bits.deBruijn32tab", Rows.laid_math_bits_deBruijn32tab), ("math/bits.deBruijn64tab", Rows.laid_math_bits_deBruijn64tab), ("internal/strconv.uint64pow10", Rows.laid_internal_strconv_uint64pow10)]).forCall (fun _ _ => 0) ⟨#[], #[zero_apiModes, .int .i64 0, zero_apiKey], []⟩).memory Tryz.f3.params.toList (OpenSpec.ofChange Rows.boardTellsSpec).vars false (#[zero_apiModes, .int .i64 0, zero_apiKey] : Array Value).toList 8 with
  | none => rw [hx] at hw; cases hw
  | some x =>
  rw [hx] at hw
  have hok : Input.okWideB Tryz.checked.prog ((World.laidAll Tryz.prog os [("math/bits.deBruijn32tab", Rows.laid_math_bits_deBruijn32tab), ("math/bits.deBruijn64tab", Rows.laid_math_bits_deBruijn64tab), ("internal/strconv.uint64pow10", Rows.laid_internal_strconv_uint64pow10)]).forCall (fun _ _ => 0) ⟨#[], #[zero_apiModes, .int .i64 0, zero_apiKey], []⟩) 3 ⟨#[], #[zero_apiModes, .int .i64 0, zero_apiKey], []⟩ = true := by kernel_rfl
  refine returnsInHanded_of_row (C := Tryz.checked) (s := (OpenSpec.ofChange Rows.boardTellsSpec)) seat_own started (by kernel_rfl) Tryz.func3
    ⟨World.laidAll Tryz.prog os [("math/bits.deBruijn32tab", Rows.laid_math_bits_deBruijn32tab), ("math/bits.deBruijn64tab", Rows.laid_math_bits_deBruijn64tab), ("internal/strconv.uint64pow10", Rows.laid_internal_strconv_uint64pow10)], fun _ _ => 0, ⟨#[], #[zero_apiModes, .int .i64 0, zero_apiKey], []⟩, World.laidAll_os _ _ _, World.shaped_of_ZipB (by kernel_rfl) (by kernel_rfl), (Input.okWide_of_okWideB (base := 0) hok).1, (Input.okWide_of_okWideB hok).2,
      OpenSpec.preRow_of_cond 8 hx (by kernel_rfl) (fun k hk => by cases hk) (by kernel_rfl) (by rw [show Rows.boardTellsRow.laid = [("math/bits.deBruijn32tab", Rows.laid_math_bits_deBruijn32tab), ("math/bits.deBruijn64tab", Rows.laid_math_bits_deBruijn64tab), ("internal/strconv.uint64pow10", Rows.laid_internal_strconv_uint64pow10)] from rfl, MakeChecks.laidMetH_plain _ _ _ (by kernel_rfl)]; exact laidMet_laidAll _ (by kernel_rfl) (by kernel_rfl)),
      by simp only [Assume.holds]; exact ⟨by simp, by simp, fun _ => Modest.zero, by simp, by simp⟩⟩ ?_
  intro W base args ds gs before hval0 hW _ hcond hreach hL _ _
  have hval : ∀ (j : Nat) t v, Tryz.f3.params[j]? = some t → args[j]? = some v → Value.okWide Tryz.prog W .any base t v := hval0
  have hW' := hW
  obtain ⟨p, q, hA0, hV, rfl, _, _⟩ := hW
  have hA : DataW.TrodAll enc Tryz.prog W 0 (fun _ => true) true Tryz.f3.params.toList args.toList ds p := hA0
  rw [Tryz.params3] at hA hval
  obtain ⟨v0, vs0, d0, ds0, p0, q0, hargs, rfl, rfl, h0, r0⟩ := trodAll_cons hA
  obtain ⟨v1, vs1, d1, ds1, p1, q1, rfl, rfl, rfl, h1, r1⟩ := trodAll_cons r0
  obtain ⟨v2, vs2, d2, ds2, p2, q2, rfl, rfl, rfl, h2, r2⟩ := trodAll_cons r1
  obtain ⟨rfl, rfl, rfl⟩ := trodAll_nil r2
  obtain rfl : args = #[v0, v1, v2] := by cases args; simp_all
  obtain ⟨rfl, rfl⟩ := trodVars_none hV
  have lt0 : ∀ x ∈ p0, x.block < W.heap.size := by obtain ⟨m, hm⟩ := h0; exact DataW.trod_lt m _ _ _ hm
  obtain ⟨x0, c0, e0⟩ := op_apiModes (hval 0 23 v0 rfl rfl) h0
  have lt1 : ∀ x ∈ p1, x.block < W.heap.size := by obtain ⟨m, hm⟩ := h1; exact DataW.trod_lt m _ _ _ hm
  obtain ⟨x1, c1, e1⟩ := op_int (hval 1 3 v1 rfl rfl) h1
  have lt2 : ∀ x ∈ p2, x.block < W.heap.size := by obtain ⟨m, hm⟩ := h2; exact DataW.trod_lt m _ _ _ hm
  obtain ⟨x2, c2, e2⟩ := op_apiKeyI (hval 2 25 v2 rfl rfl) h2
  clear hA0 hval0
  refine ((fs_BoardTells (Gl := fun _ => True) (fun _ _ _ _ => trivial) c0 c1 c2).row (fixW_of hL) trivial ⟨_, _, rfl, e0, ⟨_, _, rfl, e1, ⟨_, _, rfl, e2, rfl⟩⟩⟩).mono fun e W' ⟨v, g', he, hr, bel⟩ => ?_
  obtain rfl : v = .bool true := hr
  subst he
  exact ⟨_, rfl, _, _, _, [], _, [], hW', trodAll_mk1 (shut_bool (show Tryz.prog.underlying 4 = some .bool by kernel_rfl) _), (trodAll_cons_mk (Below.trod seat_laidOut (by kernel_rfl) (of_decide_eq_true (by kernel_rfl)) h0 bel lt0) (trodAll_cons_mk (Below.trod seat_laidOut (by kernel_rfl) (of_decide_eq_true (by kernel_rfl)) h1 bel lt1) (trodAll_cons_mk (Below.trod seat_laidOut (by kernel_rfl) (of_decide_eq_true (by kernel_rfl)) h2 bel lt2) trodAll_mk0))), rfl, bel.frame _, fun h => by cases h⟩
theorem boardTells_holds : Rows.BoardTellsSaid :=
  OpenClaim.holds_of_cond 3 Tryz.f3 rfl rfl rfl rfl rfl rfl rfl ⟨rfl, rfl, rfl, rfl, rfl⟩ rfl rfl rfl rfl rfl (by kernel_rfl) Tryz.func3 (by kernel_rfl)
    (of_decide_eq_true (by kernel_rfl)) (by unfold Func.isWrapper; first | (rw [if_pos (by decide +kernel)]; kernel_rfl) | (rw [if_neg (by decide +kernel)]; exact ⟨rfl, rfl⟩))
    (fun os started H enc _ F => by rw [OpenClaim.pre_eq_preRow]; exact boardTells_lifted os started H enc F)
theorem boardTells_card : Rows.BoardTellsCardSaid :=
  Claim7.holds_tied_plain_at .later [] [.data, .data, .data] true (true, "798a7f6d89e2fbcbaaa72b0a22000f9d7fe649e4bc8b0faaeb42ca29a5786512") false boardTells_holds (fun _ h => by cases h) (by kernel_rfl) (fun _ h => by cases h) boardTells_row_tie rfl ⟨rfl, rfl⟩ (by kernel_rfl) rfl
    (fun f fn hf hfn => by
      obtain rfl : f = 3 := Option.some.inj ((show Tryz.prog.funcNamed "clavier/clavierlaw14.BoardTells" = some 3 by kernel_rfl).symm.trans hf) |>.symm
      obtain rfl : fn = Tryz.f3 := (Option.some.inj (Tryz.func3.symm.trans hfn)).symm
      exact ⟨by kernel_rfl, fun j t ht => by
        rw [Tryz.params3] at ht
        have hm : t ∈ ([23, 3, 25] : List Nat) := by simpa using Array.mem_of_getElem? ht
        have hall : (([23, 3, 25] : List Nat).all fun u => !Tryz.prog.wantsStandIn u) = true := by kernel_rfl
        exact (show Tryz.prog.wantsStandIn t = false by simpa using List.all_eq_true.1 hall t hm)⟩)
    (by kernel_rfl)
#print axioms boardTells_card
end Go.Proofs.YtbepihadhmfklaaGreatDoor

