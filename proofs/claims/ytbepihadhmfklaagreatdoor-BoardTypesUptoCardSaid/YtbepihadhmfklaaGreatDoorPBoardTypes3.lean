/- Part 3 of 3 of a proof: the given statement BoardTypes, whatever the input that its row lets in. Conditions: those of the given row and card alone. -/
import Derived.Test.YtbepihadhmfklaaGreatDoorPBoardTypes2
import Derived.Test.YtbepihadhmfklaaGreatDoorPBoardTypesAb13
import Derived.Test.YtbepihadhmfklaaGreatDoorPBoardTypes1
import Derived.WalkKit
import Derived.ProofKit
import Derived.SizedLaws
import Derived.Test.YtbepihadhmfklaaGreatDoorRows
import Derived.LaidSub
import Derived.Lib.LaidTab
import Derived.Lib.ItoaNum
import Derived.MakeChecks
import Derived.Test.YtbepihadhmfklaaGreatDoorCards
import Derived.Test.YtbepihadhmfklaaGreatDoorTie
import Derived.Deep.DeepHandedRow
import Derived.JoinedCond
import Derived.OpenShut
import Derived.ShutString
import Derived.ChangeOld
import Derived.Below
import Derived.Lay
import Derived.LaidOnce
import Derived.SevenTiedAt
set_option linter.unusedVariables false
set_option linter.unusedSimpArgs false
set_option maxRecDepth 100000
namespace Go.Proofs.YtbepihadhmfklaaGreatDoor
open Go Go.Ab
def ir_legacyletter : ICode :=
 (.seq
 (.reg [⟨some 3, none, .box 23 (.t 0)⟩,
 ⟨some 4, none, .box 25 (.t 1)⟩,
 ⟨some 5, none, .box 41 (.t 2)⟩,
 ⟨some 6, none, .mov (.c .nils)⟩] (some [3, 4, 5]))
 (.seq
 (.reg [⟨some 8, none, .fa 1 (.t 4)⟩,
 ⟨some 9, none, .ld none (.t 8)⟩,
 ⟨some 10, none, .call (.c (.fn (.func 43) [] [])) [(.t 9)]⟩,
 ⟨some 7, none, .mov (.t 10)⟩] (some [3, 5, 7]))
 (.seq
 (.blk 0
 (.seq
 (.reg [⟨some 12, none, .mov (.t 7)⟩,
 ⟨some 13, none, .bin .neq .none (.t 12) (.c (.int .i64 0))⟩,
 ⟨some 11, none, .mov (.t 13)⟩] (some [3, 5, 7, 11]))
 (.cond (.t 11)
 (.seq
 (.drw [⟨⟨some 14, none, .fa 1 (.t 5)⟩, []⟩,
 ⟨⟨some 15, none, .ld none (.t 14)⟩, [0]⟩,
 ⟨⟨some 16, none, .mov (.t 7)⟩, []⟩,
 ⟨⟨some 17, none, .call (.c (.fn (.func 42) [] [])) [(.t 16)]⟩, [2]⟩,
 ⟨⟨some 18, none, .row 3 1 [(.c (.int .i64 1)), (.t 17)]⟩, [3]⟩,
 ⟨⟨some 19, none, .call (.c (.fn (.func 41) [] [])) [(.c (.int .u8 0)), (.t 15), (.t 18)]⟩, [1, 4, 3]⟩,
 ⟨⟨some 20, none, .call (.c (.fn (.func 112) [] [])) [(.t 19)]⟩, [5, 5]⟩]
 [⟨some 6, none, .mov (.t 20)⟩] (some [6]))
 .ret)
 (.seq
 (.reg [⟨some 22, none, .fa 0 (.t 3)⟩,
 ⟨some 23, none, .ld none (.t 22)⟩,
 ⟨some 24, none, .mov (.t 23)⟩,
 ⟨some 25, some (24, false), .fa 1 (.t 5)⟩,
 ⟨some 26, some (24, false), .ld none (.t 25)⟩,
 ⟨some 27, some (24, false), .bin .geq .none (.t 26) (.c (.int .u8 80))⟩,
 ⟨some 28, none, .pick (.t 24) (.c (.bool true)) (.t 27)⟩,
 ⟨some 21, none, .mov (.t 28)⟩] (some [5, 21]))
 (.cond (.t 21)
 (.seq
 (.reg [⟨some 29, none, .fa 1 (.t 5)⟩,
 ⟨some 30, none, .ld none (.t 29)⟩,
 ⟨some 31, none, .bld [(.int .i64 0), (.int .u8 0), .nils, (.str []), (.int .u8 0), (.str [])] [(0, 1, (.c (.int .i64 2))), (4, 1, (.t 30))]⟩,
 ⟨some 32, none, .call (.c (.fn (.func 112) [] [])) [(.t 31)]⟩,
 ⟨some 6, none, .mov (.t 32)⟩] (some [6]))
 .ret)
 .skip)))))
 (.seq
 (.reg [⟨some 33, none, .fa 1 (.t 5)⟩,
 ⟨some 34, none, .ld none (.t 33)⟩,
 ⟨some 35, none, .call (.c (.fn (.func 41) [] [])) [(.c (.int .u8 0)), (.t 34), (.c .nils)]⟩,
 ⟨some 36, none, .call (.c (.fn (.func 112) [] [])) [(.t 35)]⟩,
 ⟨some 6, none, .mov (.t 36)⟩] (some [6]))
 .ret))))
theorem is_legacyletter : IrOf Tryz.prog 63 37 ir_legacyletter [.t 6] := ⟨_, Tryz.func63, rfl, by kernel_rfl, by kernel_rfl, by kernel_rfl⟩

def ir_legacynumber : ICode :=
 (.seq
 (.reg [⟨some 3, none, .box 23 (.t 0)⟩,
 ⟨some 4, none, .box 25 (.t 1)⟩,
 ⟨some 5, none, .box 41 (.t 2)⟩,
 ⟨some 6, none, .mov (.c .nils)⟩] (some [4, 5]))
 (.seq
 (.reg [⟨some 9, none, .fa 2 (.t 5)⟩,
 ⟨some 10, none, .ld none (.t 9)⟩,
 ⟨some 11, none, .row 3 1 [(.t 10)]⟩,
 ⟨some 7, none, .mov (.t 11)⟩] (some [4, 7]))
 (.seq
 (.seq
 (.reg [⟨some 12, none, .fa 1 (.t 4)⟩,
 ⟨some 13, none, .ld none (.t 12)⟩,
 ⟨some 14, none, .call (.c (.fn (.func 43) [] [])) [(.t 13)]⟩,
 ⟨some 8, none, .mov (.t 14)⟩] (some [7, 8]))
 (.seq
 (.reg [⟨some 15, none, .mov (.t 8)⟩,
 ⟨some 16, none, .bin .neq .none (.t 15) (.c (.int .i64 0))⟩] (some [7, 8, 16]))
 (.cond (.t 16)
 (.reg [⟨some 17, none, .mov (.t 7)⟩,
 ⟨some 18, none, .mov (.t 8)⟩,
 ⟨some 19, none, .call (.c (.fn (.func 42) [] [])) [(.t 18)]⟩,
 ⟨some 20, none, .row 3 1 [(.t 19)]⟩,
 ⟨some 21, none, .app 3 1 8 (.t 17) (.t 20)⟩,
 ⟨some 7, none, .mov (.t 21)⟩] (some [7]))
 .skip)))
 (.seq
 (.reg [⟨some 22, none, .mov (.t 7)⟩,
 ⟨some 23, none, .call (.c (.fn (.func 41) [] [])) [(.c (.int .u8 0)), (.c (.int .u8 126)), (.t 22)]⟩,
 ⟨some 24, none, .call (.c (.fn (.func 112) [] [])) [(.t 23)]⟩,
 ⟨some 6, none, .mov (.t 24)⟩] (some [6]))
 .ret))))
theorem is_legacynumber : IrOf Tryz.prog 64 25 ir_legacynumber [.t 6] := ⟨_, Tryz.func64, rfl, by kernel_rfl, by kernel_rfl, by kernel_rfl⟩

def ir_legacypad : ICode :=
 (.seq
 (.reg [⟨some 3, none, .box 23 (.t 0)⟩,
 ⟨some 4, none, .box 25 (.t 1)⟩,
 ⟨some 5, none, .box 41 (.t 2)⟩,
 ⟨some 6, none, .mov (.c .nils)⟩] (some [3, 4, 5]))
 (.seq
 (.seq
 (.reg [⟨some 7, none, .fa 1 (.t 3)⟩,
 ⟨some 8, none, .ld none (.t 7)⟩,
 ⟨some 9, none, .mov (.t 8)⟩,
 ⟨some 10, some (9, true), .fa 1 (.t 4)⟩,
 ⟨some 11, some (9, true), .ld none (.t 10)⟩,
 ⟨some 12, some (9, true), .call (.c (.fn (.func 43) [] [])) [(.t 11)]⟩,
 ⟨some 13, some (9, true), .bin .eql .none (.t 12) (.c (.int .i64 0))⟩,
 ⟨some 14, none, .pick (.t 9) (.t 13) (.c (.bool false))⟩] (some [3, 4, 5, 14]))
 (.cond (.t 14)
 (.seq
 (.reg [⟨some 15, none, .fa 1 (.t 5)⟩,
 ⟨some 16, none, .ld none (.t 15)⟩,
 ⟨some 17, none, .bld [(.int .i64 0), (.int .u8 0), .nils, (.str []), (.int .u8 0), (.str [])] [(0, 1, (.c (.int .i64 2))), (4, 1, (.t 16))]⟩,
 ⟨some 18, none, .call (.c (.fn (.func 112) [] [])) [(.t 17)]⟩,
 ⟨some 6, none, .mov (.t 18)⟩] (some [6]))
 .ret)
 .skip))
 (.seq
 (.reg [⟨some 19, none, .fa 3 (.t 5)⟩,
 ⟨some 20, none, .ld none (.t 19)⟩,
 ⟨some 21, none, .fa 0 (.t 4)⟩,
 ⟨none, none, .st 1 (.t 21) (.t 20)⟩,
 ⟨some 22, none, .fa 3 (.t 4)⟩,
 ⟨none, none, .st 1 (.t 22) (.c (.int .i64 0))⟩] (some [3, 4, 5]))
 (.seq
 (.seq
 (.reg [⟨some 23, none, .fa 3 (.t 5)⟩,
 ⟨some 24, none, .ld none (.t 23)⟩,
 ⟨some 25, none, .bin .eql .none (.t 24) (.c (.int .i64 13))⟩] (some [3, 4, 5, 25]))
 (.cond (.t 25)
 (.seq
 (.reg [⟨some 26, none, .ld (some 10) (.t 3)⟩,
 ⟨some 27, none, .ld (some 6) (.t 4)⟩,
 ⟨some 28, none, .ld (some 5) (.t 5)⟩,
 ⟨some 29, none, .call (.c (.fn (.func 62) [] [])) [(.t 26), (.t 27), (.t 28)]⟩,
 ⟨some 6, none, .mov (.t 29)⟩] (some [6]))
 .ret)
 .skip))
 (.seq
 (.reg [⟨some 30, none, .ld (some 10) (.t 3)⟩,
 ⟨some 31, none, .ld (some 6) (.t 4)⟩,
 ⟨some 32, none, .ld (some 5) (.t 5)⟩,
 ⟨some 33, none, .call (.c (.fn (.func 61) [] [])) [(.t 30), (.t 31), (.t 32)]⟩,
 ⟨some 6, none, .mov (.t 33)⟩] (some [6]))
 .ret)))))
theorem is_legacypad : IrOf Tryz.prog 65 34 ir_legacypad [.t 6] := ⟨_, Tryz.func65, rfl, by kernel_rfl, by kernel_rfl, by kernel_rfl⟩

/- clavier/legacy.Key -/
def ir_legacyKey_t5 : ICode :=
 (.seq
 (.reg [⟨some 29, none, .mov (.t 7)⟩,
 ⟨some 30, none, .ld (some 10) (.t 2)⟩,
 ⟨some 31, none, .ld (some 6) (.t 3)⟩,
 ⟨some 32, none, .ld (some 5) (.t 6)⟩,
 ⟨some 33, none, .call (.t 29) [(.t 30), (.t 31), (.t 32)]⟩,
 ⟨some 4, none, .mov (.t 33)⟩] (some [4]))
 .ret)
def ir_legacyKey_t4 : ICode :=
 (.seq
 (.seq
 (.reg [⟨some 17, none, .mov (.t 7)⟩,
 ⟨some 18, none, .bin .eql .func (.t 17) (.c .nilf)⟩,
 ⟨some 19, none, .mov (.t 18)⟩,
 ⟨some 20, some (19, false), .ld (some 6) (.t 3)⟩,
 ⟨some 21, some (19, false), .call (.c (.fn (.func 39) [] [])) [(.t 20)]⟩,
 ⟨some 22, some (19, false), .un .not (.t 21)⟩,
 ⟨some 23, none, .pick (.t 19) (.c (.bool true)) (.t 22)⟩,
 ⟨some 24, none, .mov (.t 23)⟩,
 ⟨some 25, some (24, false), .fa 2 (.t 3)⟩,
 ⟨some 26, some (24, false), .ld none (.t 25)⟩,
 ⟨some 27, some (24, false), .bin .eql .none (.t 26) (.c (.int .i64 3))⟩,
 ⟨some 28, none, .pick (.t 24) (.c (.bool true)) (.t 27)⟩] (some [2, 3, 6, 7, 28]))
 (.cond (.t 28)
 (.seq
 (.reg [⟨some 4, none, .mov (.c .nils)⟩] (some [4]))
 .ret)
 .skip))
 ir_legacyKey_t5)
def ir_legacyKey_t3 : ICode :=
 (.seq
 (.reg [⟨some 13, none, .mov (.t 5)⟩,
 ⟨some 14, none, .fa 0 (.t 6)⟩,
 ⟨some 15, none, .ld none (.t 14)⟩,
 ⟨some 16, none, .lkp .int .nilf false (.t 13) (.t 15)⟩,
 ⟨some 7, none, .mov (.t 16)⟩] (some [2, 3, 6, 7]))
 ir_legacyKey_t4)
def ir_legacyKey_t2 : ICode :=
 (.seq
 (.reg [⟨some 10, none, .fa 0 (.t 3)⟩,
 ⟨some 11, none, .ld none (.t 10)⟩,
 ⟨some 12, none, .call (.c (.fn (.func 24) [] [])) [(.t 11)]⟩,
 ⟨some 6, none, .box 41 (.c (.agg [(.int .i64 0), (.int .u8 0), (.int .i64 0), (.int .i64 0), (.bool false)]))⟩,
 ⟨none, none, .st 5 (.t 6) (.t 12)⟩] (some [2, 3, 5, 6]))
 ir_legacyKey_t3)
def ir_legacyKey_t1 : ICode :=
 (.seq
 (.reg [⟨some 8, none, .mkm⟩,
 ⟨none, none, .ins .int (.t 8) (.c (.int .i64 1)) (.c (.fn (.func 61) [] []))⟩,
 ⟨none, none, .ins .int (.t 8) (.c (.int .i64 2)) (.c (.fn (.func 62) [] []))⟩,
 ⟨none, none, .ins .int (.t 8) (.c (.int .i64 3)) (.c (.fn (.func 63) [] []))⟩,
 ⟨none, none, .ins .int (.t 8) (.c (.int .i64 4)) (.c (.fn (.func 64) [] []))⟩,
 ⟨none, none, .ins .int (.t 8) (.c (.int .i64 5)) (.c (.fn (.func 65) [] []))⟩,
 ⟨some 9, none, .mov (.t 8)⟩,
 ⟨some 5, none, .mov (.t 9)⟩] (some [2, 3, 5]))
 ir_legacyKey_t2)
def ir_legacyKey : ICode :=
 (.seq
 (.reg [⟨some 2, none, .box 23 (.t 0)⟩,
 ⟨some 3, none, .box 25 (.t 1)⟩,
 ⟨some 4, none, .mov (.c .nils)⟩] (some [2, 3]))
 ir_legacyKey_t1)
theorem is_legacyKey : IrOf Tryz.prog 30 34 ir_legacyKey [.t 4] := ⟨_, Tryz.func30, rfl, by kernel_rfl, by kernel_rfl, by kernel_rfl⟩


theorem sm_num {k pr fi : Int} {nums : List Int} (h : nums.length ≤ 1000) : (numSq k pr fi nums).sm := by
  refine ⟨by simp only [numSq, List.length_map]; omega, fun p hp => ?_, by simp [numSq], by simp [numSq]⟩
  simp only [numSq, List.mem_map] at hp
  obtain ⟨n, _, rfl⟩ := hp
  simp
theorem fs_bytesN {Gl : Gh → Prop} (hst : Stays Gl) {k fi : Int} {nums : List Int} (h : nums.length ≤ 1000) (hf0 : 0 ≤ fi) (hf1 : fi < 128) : FS Tryz.prog Gl 112 [.agg [.int .i64 k, .int .u8 0, .sl none 1 (parsAV (nums.map fun n => [n])), .str [], .int .u8 fi, .str []]] [] [] (.sl none 1 (bytesAV (putX (numSq k 0 fi nums)))) [] [] :=
  fs_bytes (s := numSq k 0 fi nums) hst (by simp [numSq]) (by simp [numSq]) hf0 hf1 (sm_num h)
theorem fs_bytes0 {Gl : Gh → Prop} (hst : Stays Gl) {k fi : Int} (hf0 : 0 ≤ fi) (hf1 : fi < 128) : FS Tryz.prog Gl 112 [.agg [.int .i64 k, .int .u8 0, .nils, .str [], .int .u8 fi, .str []]] [] [] (.sl none 1 (bytesAV (putX (numSq k 0 fi [])))) [] [] :=
  (fs_bytesN (nums := []) hst (by simp) hf0 hf1).args ⟨RepLe.agg ⟨.refl _, .refl _, .nils 1, .refl _, .refl _, .refl _, trivial⟩, trivial⟩
theorem fs_NumV {Gl : Gh → Prop} (hst : Stays Gl) {pr fi : Int} {nums : List Int} {tn : Option Nm} (hn : nums.length ≤ 1000) : FS Tryz.prog Gl 41 [.int .u8 pr, .int .u8 fi, .sl tn 1 (intsAV nums)] [] [] (.agg [.int .i64 1, .int .u8 pr, .sl none 1 (parsAV (nums.map fun n => [n])), .str [], .int .u8 fi, .str []]) [] [] := fs_Num hst hn
theorem fs_Num0 {Gl : Gh → Prop} (hst : Stays Gl) {pr fi : Int} : FS Tryz.prog Gl 41 [.int .u8 pr, .int .u8 fi, .nils] [] [] (.agg [.int .i64 1, .int .u8 pr, .sl none 1 (parsAV (([] : List Int).map fun n => [n])), .str [], .int .u8 fi, .str []]) [] [] :=
  (fs_Num (Gl := Gl) hst (nums := []) (tn := none) (by simp)).args ⟨.refl _, .refl _, .nils 1, trivial⟩
def letterL (m : Md) (k : Ky) (e : Ent) : List UInt8 :=
  if (oldK k.mods != 0) = true then putX (numSq 1 0 e.final.toNat [1, paramK (oldK k.mods)])
  else if (m.cursor || decide ((e.final.toNat : Int) ≥ 80)) = true then putX (numSq 2 0 e.final.toNat []) else putX (numSq 1 0 e.final.toNat [])
def numberL (k : Ky) (e : Ent) : List UInt8 := putX (numSq 1 0 126 (if (oldK k.mods != 0) = true then [e.num, paramK (oldK k.mods)] else [e.num]))
def padL (m : Md) (k : Ky) (e : Ent) : List UInt8 :=
  if (m.keypad && (oldK k.mods == 0)) = true then putX (numSq 2 0 e.final.toNat [])
  else if (e.char == 13) = true then plainL m { k with code := e.char, shifted := 0 } else textL { k with code := e.char, shifted := 0 }
set_option maxHeartbeats 4000000 in
theorem fs_letterL {Gl : Gh → Prop} (hst : Stays Gl) {m : Md} {k : Ky} {e : Ent} (h1 : k.mods ≤ 255) (hf : e.final.toNat < 128) : FS Tryz.prog Gl 63 [.agg (mdAV m), .agg (kyAV k), .agg (entAV e)] [] [] (.sl none 1 (bytesAV (letterL m k e))) [] [] := by
  refine FS.ofW hm hst is_legacyletter rfl (by simp) fun γ hγ hfr => ?_
  have hky : kyAV k = [.int .i64 k.code, .int .i64 k.mods, .int .i64 k.type, .int .i64 k.shifted, .int .i64 k.base, .str k.text] := rfl
  have c1 := fs_Old (Gl := Gl) hst (m := k.mods) (by omega)
  have c2 := fs_Param (Gl := Gl) hst (m := oldK k.mods)
  have c3 := fs_NumV (Gl := Gl) hst (pr := 0) (fi := e.final.toNat) (nums := [1, paramK (oldK k.mods)]) (tn := none) (by simp)
  have c3' := fun t : Option Nm => fs_NumV (Gl := Gl) hst (pr := 0) (fi := e.final.toNat) (nums := [1, paramK (oldK k.mods)]) (tn := t) (by simp)
  have c4 := fs_bytesN (Gl := Gl) hst (k := 1) (fi := e.final.toNat) (nums := [1, paramK (oldK k.mods)]) (by simp) (by omega) (by omega)
  have c5 := fs_bytes0 (Gl := Gl) hst (k := 2) (fi := e.final.toNat) (by omega) (by omega)
  have c6 := fs_Num0 (Gl := Gl) hst (pr := 0) (fi := e.final.toNat)
  have c7 := fs_bytesN (Gl := Gl) hst (k := 1) (fi := e.final.toNat) (nums := []) (by simp) (by omega) (by omega)
  have hz : letterL m k e = if (oldK k.mods != 0) = true then putX (numSq 1 0 e.final.toNat [1, paramK (oldK k.mods)]) else if (m.cursor || decide ((e.final.toNat : Int) ≥ 80)) = true then putX (numSq 2 0 e.final.toNat []) else putX (numSq 1 0 e.final.toNat []) := rfl
  have hi2 : intsAV [1, paramK (oldK k.mods)] = [[.int .i64 1], [.int .i64 (paramK (oldK k.mods))]] := rfl
  simp only [mdAV, hky, entAV]
  (generalize hQ : (fun (ex : Ex) (_ _ : Nat) (s : St) => _) = Q; unfold ir_legacyletter)
  simp +contextual (maxSteps := 1000000) only [go_sem, reduceCtorEq, ↓reduceIte, Nat.reduceAdd, Nat.reduceEqDiff, Nat.reduceLeDiff, Nat.reduceMul, Nat.reduceBEq, Int.reduceBEq, Int.reduceBNe, Int.reduceLT, Int.reduceLE, Int.reduceGT, Int.reduceGE, Int.reduceToNat]
  (refine CallP.pure (c1) (fun _ => rfl) ?_; simp +contextual (maxSteps := 1000000) only [go_sem, reduceCtorEq, ↓reduceIte, Nat.reduceAdd, Nat.reduceEqDiff, Nat.reduceLeDiff, Nat.reduceMul, Nat.reduceBEq, Int.reduceBEq, Int.reduceBNe, Int.reduceLT, Int.reduceLE, Int.reduceGT, Int.reduceGE, Int.reduceToNat])
  cases hA : (oldK k.mods != 0) with
  | true =>
    simp +contextual (maxSteps := 1000000) only [go_sem, reduceCtorEq, ↓reduceIte, Nat.reduceAdd, Nat.reduceEqDiff, Nat.reduceLeDiff, Nat.reduceMul, Nat.reduceBEq, Int.reduceBEq, Int.reduceBNe, Int.reduceLT, Int.reduceLE, Int.reduceGT, Int.reduceGE, Int.reduceToNat]
    refine DCall.new c2 ?_
    simp +contextual (maxSteps := 1000000) only [go_sem, reduceCtorEq, ↓reduceIte, Nat.reduceAdd, Nat.reduceEqDiff, Nat.reduceLeDiff, Nat.reduceMul, Nat.reduceBEq, Int.reduceBEq, Int.reduceBNe, Int.reduceLT, Int.reduceLE, Int.reduceGT, Int.reduceGE, Int.reduceToNat]
    rw [hi2] at c3'
    refine ⟨?_, DCall.new (c3' _) ?_⟩
    · simp [AV.closedL, AV.closed]
    simp +contextual (maxSteps := 1000000) only [go_sem, reduceCtorEq, ↓reduceIte, Nat.reduceAdd, Nat.reduceEqDiff, Nat.reduceLeDiff, Nat.reduceMul, Nat.reduceBEq, Int.reduceBEq, Int.reduceBNe, Int.reduceLT, Int.reduceLE, Int.reduceGT, Int.reduceGE, Int.reduceToNat]
    refine DCall.new c4 ?_
    simp +contextual (maxSteps := 1000000) only [go_sem, reduceCtorEq, ↓reduceIte, Nat.reduceAdd, Nat.reduceEqDiff, Nat.reduceLeDiff, Nat.reduceMul, Nat.reduceBEq, Int.reduceBEq, Int.reduceBNe, Int.reduceLT, Int.reduceLE, Int.reduceGT, Int.reduceGE, Int.reduceToNat]
    rw [← hQ, hz, hA]
    exact ⟨trivial, .inl ⟨_, rfl, RepLe.refl _⟩⟩
  | false =>
    simp +contextual (maxSteps := 1000000) only [go_sem, reduceCtorEq, ↓reduceIte, Nat.reduceAdd, Nat.reduceEqDiff, Nat.reduceLeDiff, Nat.reduceMul, Nat.reduceBEq, Int.reduceBEq, Int.reduceBNe, Int.reduceLT, Int.reduceLE, Int.reduceGT, Int.reduceGE, Int.reduceToNat]
    cases hB : (m.cursor || decide ((e.final.toNat : Int) ≥ 80)) with
    | true =>
      simp +contextual (maxSteps := 1000000) only [hB, go_sem, reduceCtorEq, ↓reduceIte, Nat.reduceAdd, Nat.reduceEqDiff, Nat.reduceLeDiff, Nat.reduceMul, Nat.reduceBEq, Int.reduceBEq, Int.reduceBNe, Int.reduceLT, Int.reduceLE, Int.reduceGT, Int.reduceGE, Int.reduceToNat]
      (refine CallP.pure (c5) (fun _ => rfl) ?_; simp +contextual (maxSteps := 1000000) only [go_sem, reduceCtorEq, ↓reduceIte, Nat.reduceAdd, Nat.reduceEqDiff, Nat.reduceLeDiff, Nat.reduceMul, Nat.reduceBEq, Int.reduceBEq, Int.reduceBNe, Int.reduceLT, Int.reduceLE, Int.reduceGT, Int.reduceGE, Int.reduceToNat])
      rw [← hQ, hz, hA, hB]
      exact ⟨trivial, .inl ⟨_, rfl, RepLe.refl _⟩⟩
    | false =>
      simp +contextual (maxSteps := 1000000) only [hB, go_sem, reduceCtorEq, ↓reduceIte, Nat.reduceAdd, Nat.reduceEqDiff, Nat.reduceLeDiff, Nat.reduceMul, Nat.reduceBEq, Int.reduceBEq, Int.reduceBNe, Int.reduceLT, Int.reduceLE, Int.reduceGT, Int.reduceGE, Int.reduceToNat]
      (refine CallP.pure (c6) (fun _ => rfl) ?_; simp +contextual (maxSteps := 1000000) only [go_sem, reduceCtorEq, ↓reduceIte, Nat.reduceAdd, Nat.reduceEqDiff, Nat.reduceLeDiff, Nat.reduceMul, Nat.reduceBEq, Int.reduceBEq, Int.reduceBNe, Int.reduceLT, Int.reduceLE, Int.reduceGT, Int.reduceGE, Int.reduceToNat])
      (refine CallP.pure (c7) (fun _ => rfl) ?_; simp +contextual (maxSteps := 1000000) only [go_sem, reduceCtorEq, ↓reduceIte, Nat.reduceAdd, Nat.reduceEqDiff, Nat.reduceLeDiff, Nat.reduceMul, Nat.reduceBEq, Int.reduceBEq, Int.reduceBNe, Int.reduceLT, Int.reduceLE, Int.reduceGT, Int.reduceGE, Int.reduceToNat])
      rw [← hQ, hz, hA, hB]
      exact ⟨trivial, .inl ⟨_, rfl, RepLe.refl _⟩⟩
set_option maxHeartbeats 4000000 in
theorem fs_numberL {Gl : Gh → Prop} (hst : Stays Gl) {m : Md} {k : Ky} {e : Ent} (h1 : k.mods ≤ 255) : FS Tryz.prog Gl 64 [.agg (mdAV m), .agg (kyAV k), .agg (entAV e)] [] [] (.sl none 1 (bytesAV (numberL k e))) [] [] := by
  refine FS.ofW hm hst is_legacynumber rfl (by simp) fun γ hγ hfr => ?_
  have hky : kyAV k = [.int .i64 k.code, .int .i64 k.mods, .int .i64 k.type, .int .i64 k.shifted, .int .i64 k.base, .str k.text] := rfl
  have c1 := fs_Old (Gl := Gl) hst (m := k.mods) (by omega)
  have c2 := fs_Param (Gl := Gl) hst (m := oldK k.mods)
  have c3 := fun (t : Option Nm) => fs_NumV (Gl := Gl) hst (pr := 0) (fi := 126) (nums := [e.num, paramK (oldK k.mods)]) (tn := t) (by simp)
  have c4 := fs_bytesN (Gl := Gl) hst (k := 1) (fi := 126) (nums := [e.num, paramK (oldK k.mods)]) (by simp) (by omega) (by omega)
  have c5 := fun (t : Option Nm) => fs_NumV (Gl := Gl) hst (pr := 0) (fi := 126) (nums := [e.num]) (tn := t) (by simp)
  have c6 := fs_bytesN (Gl := Gl) hst (k := 1) (fi := 126) (nums := [e.num]) (by simp) (by omega) (by omega)
  have hz : numberL k e = putX (numSq 1 0 126 (if (oldK k.mods != 0) = true then [e.num, paramK (oldK k.mods)] else [e.num])) := rfl
  have hi2 : intsAV [e.num, paramK (oldK k.mods)] = [[.int .i64 e.num], [.int .i64 (paramK (oldK k.mods))]] := rfl
  have hi1 : intsAV [e.num] = [[.int .i64 e.num]] := rfl
  simp only [mdAV, hky, entAV]
  (generalize hQ : (fun (ex : Ex) (_ _ : Nat) (s : St) => _) = Q; unfold ir_legacynumber)
  simp +contextual (maxSteps := 1000000) only [go_sem, reduceCtorEq, ↓reduceIte, Nat.reduceAdd, Nat.reduceEqDiff, Nat.reduceLeDiff, Nat.reduceMul, Nat.reduceBEq, Int.reduceBEq, Int.reduceBNe, Int.reduceLT, Int.reduceLE, Int.reduceGT, Int.reduceGE, Int.reduceToNat]
  (refine CallP.pure (c1) (fun _ => rfl) ?_; simp +contextual (maxSteps := 1000000) only [go_sem, reduceCtorEq, ↓reduceIte, Nat.reduceAdd, Nat.reduceEqDiff, Nat.reduceLeDiff, Nat.reduceMul, Nat.reduceBEq, Int.reduceBEq, Int.reduceBNe, Int.reduceLT, Int.reduceLE, Int.reduceGT, Int.reduceGE, Int.reduceToNat])
  cases hA : (oldK k.mods != 0) with
  | true =>
    simp +contextual (maxSteps := 1000000) only [go_sem, reduceCtorEq, ↓reduceIte, Nat.reduceAdd, Nat.reduceEqDiff, Nat.reduceLeDiff, Nat.reduceMul, Nat.reduceBEq, Int.reduceBEq, Int.reduceBNe, Int.reduceLT, Int.reduceLE, Int.reduceGT, Int.reduceGE, Int.reduceToNat]
    (refine CallP.pure (c2) (fun _ => rfl) ?_; simp +contextual (maxSteps := 1000000) only [go_sem, reduceCtorEq, ↓reduceIte, Nat.reduceAdd, Nat.reduceEqDiff, Nat.reduceLeDiff, Nat.reduceMul, Nat.reduceBEq, Int.reduceBEq, Int.reduceBNe, Int.reduceLT, Int.reduceLE, Int.reduceGT, Int.reduceGE, Int.reduceToNat])
    rw [hi2] at c3
    refine ⟨.inl trivial, ?_⟩
    (refine CallP.pure (c3 _) (fun _ => rfl) ?_; simp +contextual (maxSteps := 1000000) only [go_sem, reduceCtorEq, ↓reduceIte, Nat.reduceAdd, Nat.reduceEqDiff, Nat.reduceLeDiff, Nat.reduceMul, Nat.reduceBEq, Int.reduceBEq, Int.reduceBNe, Int.reduceLT, Int.reduceLE, Int.reduceGT, Int.reduceGE, Int.reduceToNat])
    (refine CallP.pure (c4) (fun _ => rfl) ?_; simp +contextual (maxSteps := 1000000) only [go_sem, reduceCtorEq, ↓reduceIte, Nat.reduceAdd, Nat.reduceEqDiff, Nat.reduceLeDiff, Nat.reduceMul, Nat.reduceBEq, Int.reduceBEq, Int.reduceBNe, Int.reduceLT, Int.reduceLE, Int.reduceGT, Int.reduceGE, Int.reduceToNat])
    rw [← hQ, hz, hA]
    exact ⟨trivial, .inl ⟨_, rfl, RepLe.refl _⟩⟩
  | false =>
    simp +contextual (maxSteps := 1000000) only [go_sem, reduceCtorEq, ↓reduceIte, Nat.reduceAdd, Nat.reduceEqDiff, Nat.reduceLeDiff, Nat.reduceMul, Nat.reduceBEq, Int.reduceBEq, Int.reduceBNe, Int.reduceLT, Int.reduceLE, Int.reduceGT, Int.reduceGE, Int.reduceToNat]
    rw [hi1] at c5
    (refine CallP.pure (c5 _) (fun _ => rfl) ?_; simp +contextual (maxSteps := 1000000) only [go_sem, reduceCtorEq, ↓reduceIte, Nat.reduceAdd, Nat.reduceEqDiff, Nat.reduceLeDiff, Nat.reduceMul, Nat.reduceBEq, Int.reduceBEq, Int.reduceBNe, Int.reduceLT, Int.reduceLE, Int.reduceGT, Int.reduceGE, Int.reduceToNat])
    (refine CallP.pure (c6) (fun _ => rfl) ?_; simp +contextual (maxSteps := 1000000) only [go_sem, reduceCtorEq, ↓reduceIte, Nat.reduceAdd, Nat.reduceEqDiff, Nat.reduceLeDiff, Nat.reduceMul, Nat.reduceBEq, Int.reduceBEq, Int.reduceBNe, Int.reduceLT, Int.reduceLE, Int.reduceGT, Int.reduceGE, Int.reduceToNat])
    rw [← hQ, hz, hA]
    exact ⟨trivial, .inl ⟨_, rfl, RepLe.refl _⟩⟩
set_option maxHeartbeats 4000000 in
theorem fs_padL {Gl : Gh → Prop} (hst : Stays Gl) {m : Md} {k : Ky} {e : Ent} (h0 : 0 ≤ k.mods) (h1 : k.mods ≤ 255) (ht : k.text.length ≤ 1000000000000) (hf : e.final.toNat < 128) : FS Tryz.prog Gl 65 [.agg (mdAV m), .agg (kyAV k), .agg (entAV e)] [] [] (.sl none 1 (bytesAV (padL m k e))) [] [] := by
  refine FS.ofW hm hst is_legacypad rfl (by simp) fun γ hγ hfr => ?_
  have hky : kyAV k = [.int .i64 k.code, .int .i64 k.mods, .int .i64 k.type, .int .i64 k.shifted, .int .i64 k.base, .str k.text] := rfl
  have c1 := fs_Old (Gl := Gl) hst (m := k.mods) (by omega)
  have c2 := fs_bytes0 (Gl := Gl) hst (k := 2) (fi := e.final.toNat) (by omega) (by omega)
  have c3 := fs_plainL (Gl := Gl) hst (m := m) (k := { k with code := e.char, shifted := 0 }) (e := e) h0 h1
  have c4 := fs_textL (Gl := Gl) hst (m := m) (k := { k with code := e.char, shifted := 0 }) (e := e) h0 h1 ht
  have hz : padL m k e = if (m.keypad && (oldK k.mods == 0)) = true then putX (numSq 2 0 e.final.toNat []) else if (e.char == 13) = true then plainL m { k with code := e.char, shifted := 0 } else textL { k with code := e.char, shifted := 0 } := rfl
  rw [mdAV, kyAV, entAV] at c3 c4
  simp only [mdAV, hky, entAV]
  (generalize hQ : (fun (ex : Ex) (_ _ : Nat) (s : St) => _) = Q; unfold ir_legacypad)
  simp +contextual (maxSteps := 1000000) only [go_sem, reduceCtorEq, ↓reduceIte, Nat.reduceAdd, Nat.reduceEqDiff, Nat.reduceLeDiff, Nat.reduceMul, Nat.reduceBEq, Int.reduceBEq, Int.reduceBNe, Int.reduceLT, Int.reduceLE, Int.reduceGT, Int.reduceGE, Int.reduceToNat]
  (refine kGc_call (c1) (fun _ => rfl) (fun hgc => ?_) ?_; (focus (first | (rw [Bool.not_eq_true'] at hgc; simp only [List.map_cons, List.map_nil, List.nil_append, List.append_nil, List.cons_append, Xev_t, Xev_c, upd_app, lf_cons, lf_nil, Nat.reduceEqDiff, ↓reduceIte, hgc, Bool.false_eq_true, Bool.true_eq_false, reduceCtorEq]; done) | (simp only [List.map_cons, List.map_nil, List.nil_append, List.append_nil, List.cons_append, Xev_t, Xev_c, upd_app, lf_cons, lf_nil, Nat.reduceEqDiff, ↓reduceIte, hgc, Bool.false_eq_true, Bool.true_eq_false, reduceCtorEq]; done) | (revert hgc; simp +contextual [Xev_t, Xev_c, upd_app, lf_cons, lf_nil]; done) | simp [Xev_t, Xev_c, upd_app, lf_cons, lf_nil])); simp +contextual (maxSteps := 1000000) only [go_sem, reduceCtorEq, ↓reduceIte, Nat.reduceAdd, Nat.reduceEqDiff, Nat.reduceLeDiff, Nat.reduceMul, Nat.reduceBEq, Int.reduceBEq, Int.reduceBNe, Int.reduceLT, Int.reduceLE, Int.reduceGT, Int.reduceGE, Int.reduceToNat])
  cases hA : (m.keypad && (oldK k.mods == 0)) with
  | true =>
    simp +contextual (maxSteps := 1000000) only [hA, go_sem, reduceCtorEq, ↓reduceIte, Nat.reduceAdd, Nat.reduceEqDiff, Nat.reduceLeDiff, Nat.reduceMul, Nat.reduceBEq, Int.reduceBEq, Int.reduceBNe, Int.reduceLT, Int.reduceLE, Int.reduceGT, Int.reduceGE, Int.reduceToNat]
    (refine CallP.pure (c2) (fun _ => rfl) ?_; simp +contextual (maxSteps := 1000000) only [go_sem, reduceCtorEq, ↓reduceIte, Nat.reduceAdd, Nat.reduceEqDiff, Nat.reduceLeDiff, Nat.reduceMul, Nat.reduceBEq, Int.reduceBEq, Int.reduceBNe, Int.reduceLT, Int.reduceLE, Int.reduceGT, Int.reduceGE, Int.reduceToNat])
    rw [← hQ, hz, hA]
    exact ⟨trivial, .inl ⟨_, rfl, RepLe.refl _⟩⟩
  | false =>
    simp +contextual (maxSteps := 1000000) only [hA, go_sem, reduceCtorEq, ↓reduceIte, Nat.reduceAdd, Nat.reduceEqDiff, Nat.reduceLeDiff, Nat.reduceMul, Nat.reduceBEq, Int.reduceBEq, Int.reduceBNe, Int.reduceLT, Int.reduceLE, Int.reduceGT, Int.reduceGE, Int.reduceToNat]
    cases hB : (e.char == 13) with
    | true =>
      simp +contextual (maxSteps := 1000000) only [hB, go_sem, reduceCtorEq, ↓reduceIte, Nat.reduceAdd, Nat.reduceEqDiff, Nat.reduceLeDiff, Nat.reduceMul, Nat.reduceBEq, Int.reduceBEq, Int.reduceBNe, Int.reduceLT, Int.reduceLE, Int.reduceGT, Int.reduceGE, Int.reduceToNat]
      (refine CallP.pure (c3) (fun _ => rfl) ?_; simp +contextual (maxSteps := 1000000) only [go_sem, reduceCtorEq, ↓reduceIte, Nat.reduceAdd, Nat.reduceEqDiff, Nat.reduceLeDiff, Nat.reduceMul, Nat.reduceBEq, Int.reduceBEq, Int.reduceBNe, Int.reduceLT, Int.reduceLE, Int.reduceGT, Int.reduceGE, Int.reduceToNat])
      rw [← hQ, hz, hA, hB]
      exact ⟨trivial, .inl ⟨_, rfl, RepLe.refl _⟩⟩
    | false =>
      simp +contextual (maxSteps := 1000000) only [hB, go_sem, reduceCtorEq, ↓reduceIte, Nat.reduceAdd, Nat.reduceEqDiff, Nat.reduceLeDiff, Nat.reduceMul, Nat.reduceBEq, Int.reduceBEq, Int.reduceBNe, Int.reduceLT, Int.reduceLE, Int.reduceGT, Int.reduceGE, Int.reduceToNat]
      (refine CallP.pure (c4) (fun _ => rfl) ?_; simp +contextual (maxSteps := 1000000) only [go_sem, reduceCtorEq, ↓reduceIte, Nat.reduceAdd, Nat.reduceEqDiff, Nat.reduceLeDiff, Nat.reduceMul, Nat.reduceBEq, Int.reduceBEq, Int.reduceBNe, Int.reduceLT, Int.reduceLE, Int.reduceGT, Int.reduceGE, Int.reduceToNat])
      rw [← hQ, hz, hA, hB]
      exact ⟨trivial, .inl ⟨_, rfl, RepLe.refl _⟩⟩
theorem kind_cases (c : Int) : kindK c = 0 ∨ kindK c = 1 ∨ kindK c = 2 ∨ kindK c = 3 ∨ kindK c = 4 ∨ kindK c = 5 ∨ kindK c = 6 ∨ kindK c = 7 := by
  unfold kindK lookR
  repeat' split
  · simp
  · simp
  · have : (padR c).kind = 5 := by unfold padR; split <;> rfl
    rw [this]; simp
  · simp only
    unfold restR
    repeat' split
    all_goals simp
theorem final_lt (c : Int) : (lookR c).final.toNat < 128 := by
  unfold lookR
  repeat' split
  · exact letR_lt c
  · exact (by decide : (0 : UInt8).toNat < 128)
  · have h : 57399 ≤ c ∧ c ≤ 57416 := by assumption
    have key : ∀ k : Fin 18, (padR ((57399 + k.val : Nat) : Int)).final.toNat < 128 := by decide +kernel
    have := key ⟨(c - 57399).toNat, by omega⟩
    rwa [show ((57399 + (c - 57399).toNat : Nat) : Int) = c by omega] at this
  · exact (by decide : (0 : UInt8).toNat < 128)
def formL (m : Md) (k : Ky) : List UInt8 :=
  if kindK k.code = 1 then textL k else if kindK k.code = 2 then plainL m k else if kindK k.code = 3 then letterL m k (lookR k.code)
  else if kindK k.code = 4 then numberL k (lookR k.code) else if kindK k.code = 5 then padL m k (lookR k.code) else []
def legK (m : Md) (k : Ky) : List UInt8 := if (mayK k && (k.type != 3)) = true then formL m k else []
set_option maxHeartbeats 8000000 in
theorem fs_legKey {Gl : Gh → Prop} (hst : Stays Gl) {m : Md} {k : Ky} (ht : k.text.length ≤ 1000000000000) : FS Tryz.prog Gl 30 [.agg (mdAV m), .agg (kyAV k)] [] [] (.sl none 1 (bytesAV (legK m k))) [] [] := by
  refine FS.ofW hm hst is_legacyKey rfl (by simp) fun γ hγ hfr => ?_
  have hky : kyAV k = [.int .i64 k.code, .int .i64 k.mods, .int .i64 k.type, .int .i64 k.shifted, .int .i64 k.base, .str k.text] := rfl
  have hmd : mdAV m = [.bool m.cursor, .bool m.keypad, .bool m.back, .bool m.focus, .bool m.paste, .bool m.lock, .bool m.line, .int .i64 m.mouse, .int .i64 m.coding, .int .i64 m.other] := rfl
  have c1 := fs_Look (Gl := Gl) hst (c := k.code)
  rw [ent_eq] at c1
  have c2 := fs_MayK (Gl := Gl) hst ht
  rw [hky] at c2
  have hz : legK m k = if (mayK k && (k.type != 3)) = true then formL m k else [] := rfl
  have hf : formL m k = if kindK k.code = 1 then textL k else if kindK k.code = 2 then plainL m k else if kindK k.code = 3 then letterL m k (lookR k.code)
    else if kindK k.code = 4 then numberL k (lookR k.code) else if kindK k.code = 5 then padL m k (lookR k.code) else [] := rfl
  have hfin := final_lt k.code
  have hkd : (lookR k.code).kind = kindK k.code := rfl
  have hent : entAV (lookR k.code) = [.int .i64 (kindK k.code), .int .u8 ((lookR k.code).final.toNat : Int), .int .i64 (lookR k.code).num, .int .i64 (lookR k.code).char, .bool (lookR k.code).keys] := rfl
  have d1 := fun (M : MayK k) => fs_textL (Gl := Gl) hst (m := m) (k := k) (e := lookR k.code) M.m0 M.m1 ht
  have d2 := fun (M : MayK k) => fs_plainL (Gl := Gl) hst (m := m) (k := k) (e := lookR k.code) M.m0 M.m1
  have d3 := fun (M : MayK k) => fs_letterL (Gl := Gl) hst (m := m) (k := k) (e := lookR k.code) M.m1 hfin
  have d4 := fun (M : MayK k) => fs_numberL (Gl := Gl) hst (m := m) (k := k) (e := lookR k.code) M.m1
  have d5 := fun (M : MayK k) => fs_padL (Gl := Gl) hst (m := m) (k := k) (e := lookR k.code) M.m0 M.m1 ht hfin
  rw [hkd] at c1
  simp only [hmd, hky, hent] at d1 d2 d3 d4 d5
  simp only [hmd, hky]
  (generalize hQ : (fun (ex : Ex) (_ _ : Nat) (s : St) => _) = Q; unfold ir_legacyKey)
  simp +contextual (maxSteps := 1000000) only [go_sem, reduceCtorEq, ↓reduceIte, Nat.reduceAdd, Nat.reduceEqDiff, Nat.reduceLeDiff, Nat.reduceMul, Nat.reduceBEq, Int.reduceBEq, Int.reduceBNe, Int.reduceLT, Int.reduceLE, Int.reduceGT, Int.reduceGE, Int.reduceToNat]
  unfold ir_legacyKey_t1
  simp +contextual (maxSteps := 1000000) only [fe_nil, fe_int, isKey_int, go_sem, reduceCtorEq, ↓reduceIte, Nat.reduceAdd, Nat.reduceEqDiff, Nat.reduceLeDiff, Nat.reduceMul, Nat.reduceBEq, Int.reduceBEq, Int.reduceBNe, Int.reduceLT, Int.reduceLE, Int.reduceGT, Int.reduceGE, Int.reduceToNat]
  unfold ir_legacyKey_t2
  simp +contextual (maxSteps := 1000000) only [go_sem, reduceCtorEq, ↓reduceIte, Nat.reduceAdd, Nat.reduceEqDiff, Nat.reduceLeDiff, Nat.reduceMul, Nat.reduceBEq, Int.reduceBEq, Int.reduceBNe, Int.reduceLT, Int.reduceLE, Int.reduceGT, Int.reduceGE, Int.reduceToNat]
  (refine CallP.pure (c1) (fun _ => rfl) ?_; simp +contextual (maxSteps := 1000000) only [go_sem, reduceCtorEq, ↓reduceIte, Nat.reduceAdd, Nat.reduceEqDiff, Nat.reduceLeDiff, Nat.reduceMul, Nat.reduceBEq, Int.reduceBEq, Int.reduceBNe, Int.reduceLT, Int.reduceLE, Int.reduceGT, Int.reduceGE, Int.reduceToNat])
  unfold ir_legacyKey_t3
  have low : ¬ (1 ≤ kindK k.code ∧ kindK k.code ≤ 5) → legK m k = [] := fun h => by
    have : formL m k = [] := by rw [hf, if_neg (by omega), if_neg (by omega), if_neg (by omega), if_neg (by omega), if_neg (by omega)]
    rw [hz, this]
    simp
  rcases kind_cases k.code with hk | hk | hk | hk | hk | hk | hk | hk
  · simp +contextual (maxSteps := 1000000) only [hk, fe_nil, fe_int, isKey_int, go_sem, reduceCtorEq, ↓reduceIte, Nat.reduceAdd, Nat.reduceEqDiff, Nat.reduceLeDiff, Nat.reduceMul, Nat.reduceBEq, Int.reduceBEq, Int.reduceBNe, Int.reduceLT, Int.reduceLE, Int.reduceGT, Int.reduceGE, Int.reduceToNat]
    unfold ir_legacyKey_t4
    simp +contextual (maxSteps := 1000000) only [go_sem, reduceCtorEq, ↓reduceIte, Nat.reduceAdd, Nat.reduceEqDiff, Nat.reduceLeDiff, Nat.reduceMul, Nat.reduceBEq, Int.reduceBEq, Int.reduceBNe, Int.reduceLT, Int.reduceLE, Int.reduceGT, Int.reduceGE, Int.reduceToNat]
    rw [← hQ, low (by omega)]
    exact ⟨trivial, .inl ⟨_, rfl, RepLe.nils 1⟩⟩
  · have hfm : formL m k = textL k := by rw [hf]; simp only [hk]; rfl
    have nf : (mayK k && (k.type != 3)) = false → legK m k = [] := fun h => by rw [hz, h]; rfl
    simp +contextual (maxSteps := 1000000) only [hk, fe_nil, fe_int, isKey_int, go_sem, reduceCtorEq, ↓reduceIte, Nat.reduceAdd, Nat.reduceEqDiff, Nat.reduceLeDiff, Nat.reduceMul, Nat.reduceBEq, Int.reduceBEq, Int.reduceBNe, Int.reduceLT, Int.reduceLE, Int.reduceGT, Int.reduceGE, Int.reduceToNat]
    unfold ir_legacyKey_t4
    simp +contextual (maxSteps := 1000000) only [go_sem, reduceCtorEq, ↓reduceIte, Nat.reduceAdd, Nat.reduceEqDiff, Nat.reduceLeDiff, Nat.reduceMul, Nat.reduceBEq, Int.reduceBEq, Int.reduceBNe, Int.reduceLT, Int.reduceLE, Int.reduceGT, Int.reduceGE, Int.reduceToNat]
    (refine CallP.pure (c2) (fun _ => rfl) ?_; simp +contextual (maxSteps := 1000000) only [go_sem, reduceCtorEq, ↓reduceIte, Nat.reduceAdd, Nat.reduceEqDiff, Nat.reduceLeDiff, Nat.reduceMul, Nat.reduceBEq, Int.reduceBEq, Int.reduceBNe, Int.reduceLT, Int.reduceLE, Int.reduceGT, Int.reduceGE, Int.reduceToNat])
    cases hmk : mayK k with
    | false =>
      simp +contextual (maxSteps := 1000000) only [hmk, go_sem, reduceCtorEq, ↓reduceIte, Nat.reduceAdd, Nat.reduceEqDiff, Nat.reduceLeDiff, Nat.reduceMul, Nat.reduceBEq, Int.reduceBEq, Int.reduceBNe, Int.reduceLT, Int.reduceLE, Int.reduceGT, Int.reduceGE, Int.reduceToNat]
      rw [← hQ, nf (by rw [hmk]; rfl)]
      exact ⟨trivial, .inl ⟨_, rfl, RepLe.nils 1⟩⟩
    | true =>
      have M := mayK_iff.1 hmk
      cases ht3 : (k.type == 3) with
      | true =>
        simp +contextual (maxSteps := 1000000) only [hmk, ht3, go_sem, reduceCtorEq, ↓reduceIte, Nat.reduceAdd, Nat.reduceEqDiff, Nat.reduceLeDiff, Nat.reduceMul, Nat.reduceBEq, Int.reduceBEq, Int.reduceBNe, Int.reduceLT, Int.reduceLE, Int.reduceGT, Int.reduceGE, Int.reduceToNat]
        rw [← hQ, nf (by rw [hmk, bne, ht3]; rfl)]
        exact ⟨trivial, .inl ⟨_, rfl, RepLe.nils 1⟩⟩
      | false =>
        have c3 := d1 M
        rw [hk] at c3
        have hlk : legK m k = textL k := by rw [hz, hmk, bne, ht3, ← hfm]; rfl
        simp +contextual (maxSteps := 1000000) only [hmk, ht3, go_sem, reduceCtorEq, ↓reduceIte, Nat.reduceAdd, Nat.reduceEqDiff, Nat.reduceLeDiff, Nat.reduceMul, Nat.reduceBEq, Int.reduceBEq, Int.reduceBNe, Int.reduceLT, Int.reduceLE, Int.reduceGT, Int.reduceGE, Int.reduceToNat]
        unfold ir_legacyKey_t5
        simp +contextual (maxSteps := 1000000) only [go_sem, reduceCtorEq, ↓reduceIte, Nat.reduceAdd, Nat.reduceEqDiff, Nat.reduceLeDiff, Nat.reduceMul, Nat.reduceBEq, Int.reduceBEq, Int.reduceBNe, Int.reduceLT, Int.reduceLE, Int.reduceGT, Int.reduceGE, Int.reduceToNat]
        (refine CallP.pure (c3) (fun _ => rfl) ?_; simp +contextual (maxSteps := 1000000) only [go_sem, reduceCtorEq, ↓reduceIte, Nat.reduceAdd, Nat.reduceEqDiff, Nat.reduceLeDiff, Nat.reduceMul, Nat.reduceBEq, Int.reduceBEq, Int.reduceBNe, Int.reduceLT, Int.reduceLE, Int.reduceGT, Int.reduceGE, Int.reduceToNat])
        rw [← hQ, hlk]
        exact ⟨trivial, .inl ⟨_, rfl, RepLe.refl _⟩⟩
  · have hfm : formL m k = plainL m k := by rw [hf]; simp only [hk]; rfl
    have nf : (mayK k && (k.type != 3)) = false → legK m k = [] := fun h => by rw [hz, h]; rfl
    simp +contextual (maxSteps := 1000000) only [hk, fe_nil, fe_int, isKey_int, go_sem, reduceCtorEq, ↓reduceIte, Nat.reduceAdd, Nat.reduceEqDiff, Nat.reduceLeDiff, Nat.reduceMul, Nat.reduceBEq, Int.reduceBEq, Int.reduceBNe, Int.reduceLT, Int.reduceLE, Int.reduceGT, Int.reduceGE, Int.reduceToNat]
    unfold ir_legacyKey_t4
    simp +contextual (maxSteps := 1000000) only [go_sem, reduceCtorEq, ↓reduceIte, Nat.reduceAdd, Nat.reduceEqDiff, Nat.reduceLeDiff, Nat.reduceMul, Nat.reduceBEq, Int.reduceBEq, Int.reduceBNe, Int.reduceLT, Int.reduceLE, Int.reduceGT, Int.reduceGE, Int.reduceToNat]
    (refine CallP.pure (c2) (fun _ => rfl) ?_; simp +contextual (maxSteps := 1000000) only [go_sem, reduceCtorEq, ↓reduceIte, Nat.reduceAdd, Nat.reduceEqDiff, Nat.reduceLeDiff, Nat.reduceMul, Nat.reduceBEq, Int.reduceBEq, Int.reduceBNe, Int.reduceLT, Int.reduceLE, Int.reduceGT, Int.reduceGE, Int.reduceToNat])
    cases hmk : mayK k with
    | false =>
      simp +contextual (maxSteps := 1000000) only [hmk, go_sem, reduceCtorEq, ↓reduceIte, Nat.reduceAdd, Nat.reduceEqDiff, Nat.reduceLeDiff, Nat.reduceMul, Nat.reduceBEq, Int.reduceBEq, Int.reduceBNe, Int.reduceLT, Int.reduceLE, Int.reduceGT, Int.reduceGE, Int.reduceToNat]
      rw [← hQ, nf (by rw [hmk]; rfl)]
      exact ⟨trivial, .inl ⟨_, rfl, RepLe.nils 1⟩⟩
    | true =>
      have M := mayK_iff.1 hmk
      cases ht3 : (k.type == 3) with
      | true =>
        simp +contextual (maxSteps := 1000000) only [hmk, ht3, go_sem, reduceCtorEq, ↓reduceIte, Nat.reduceAdd, Nat.reduceEqDiff, Nat.reduceLeDiff, Nat.reduceMul, Nat.reduceBEq, Int.reduceBEq, Int.reduceBNe, Int.reduceLT, Int.reduceLE, Int.reduceGT, Int.reduceGE, Int.reduceToNat]
        rw [← hQ, nf (by rw [hmk, bne, ht3]; rfl)]
        exact ⟨trivial, .inl ⟨_, rfl, RepLe.nils 1⟩⟩
      | false =>
        have c3 := d2 M
        rw [hk] at c3
        have hlk : legK m k = plainL m k := by rw [hz, hmk, bne, ht3, ← hfm]; rfl
        simp +contextual (maxSteps := 1000000) only [hmk, ht3, go_sem, reduceCtorEq, ↓reduceIte, Nat.reduceAdd, Nat.reduceEqDiff, Nat.reduceLeDiff, Nat.reduceMul, Nat.reduceBEq, Int.reduceBEq, Int.reduceBNe, Int.reduceLT, Int.reduceLE, Int.reduceGT, Int.reduceGE, Int.reduceToNat]
        unfold ir_legacyKey_t5
        simp +contextual (maxSteps := 1000000) only [go_sem, reduceCtorEq, ↓reduceIte, Nat.reduceAdd, Nat.reduceEqDiff, Nat.reduceLeDiff, Nat.reduceMul, Nat.reduceBEq, Int.reduceBEq, Int.reduceBNe, Int.reduceLT, Int.reduceLE, Int.reduceGT, Int.reduceGE, Int.reduceToNat]
        (refine CallP.pure (c3) (fun _ => rfl) ?_; simp +contextual (maxSteps := 1000000) only [go_sem, reduceCtorEq, ↓reduceIte, Nat.reduceAdd, Nat.reduceEqDiff, Nat.reduceLeDiff, Nat.reduceMul, Nat.reduceBEq, Int.reduceBEq, Int.reduceBNe, Int.reduceLT, Int.reduceLE, Int.reduceGT, Int.reduceGE, Int.reduceToNat])
        rw [← hQ, hlk]
        exact ⟨trivial, .inl ⟨_, rfl, RepLe.refl _⟩⟩
  · have hfm : formL m k = letterL m k (lookR k.code) := by rw [hf]; simp only [hk]; rfl
    have nf : (mayK k && (k.type != 3)) = false → legK m k = [] := fun h => by rw [hz, h]; rfl
    simp +contextual (maxSteps := 1000000) only [hk, fe_nil, fe_int, isKey_int, go_sem, reduceCtorEq, ↓reduceIte, Nat.reduceAdd, Nat.reduceEqDiff, Nat.reduceLeDiff, Nat.reduceMul, Nat.reduceBEq, Int.reduceBEq, Int.reduceBNe, Int.reduceLT, Int.reduceLE, Int.reduceGT, Int.reduceGE, Int.reduceToNat]
    unfold ir_legacyKey_t4
    simp +contextual (maxSteps := 1000000) only [go_sem, reduceCtorEq, ↓reduceIte, Nat.reduceAdd, Nat.reduceEqDiff, Nat.reduceLeDiff, Nat.reduceMul, Nat.reduceBEq, Int.reduceBEq, Int.reduceBNe, Int.reduceLT, Int.reduceLE, Int.reduceGT, Int.reduceGE, Int.reduceToNat]
    (refine CallP.pure (c2) (fun _ => rfl) ?_; simp +contextual (maxSteps := 1000000) only [go_sem, reduceCtorEq, ↓reduceIte, Nat.reduceAdd, Nat.reduceEqDiff, Nat.reduceLeDiff, Nat.reduceMul, Nat.reduceBEq, Int.reduceBEq, Int.reduceBNe, Int.reduceLT, Int.reduceLE, Int.reduceGT, Int.reduceGE, Int.reduceToNat])
    cases hmk : mayK k with
    | false =>
      simp +contextual (maxSteps := 1000000) only [hmk, go_sem, reduceCtorEq, ↓reduceIte, Nat.reduceAdd, Nat.reduceEqDiff, Nat.reduceLeDiff, Nat.reduceMul, Nat.reduceBEq, Int.reduceBEq, Int.reduceBNe, Int.reduceLT, Int.reduceLE, Int.reduceGT, Int.reduceGE, Int.reduceToNat]
      rw [← hQ, nf (by rw [hmk]; rfl)]
      exact ⟨trivial, .inl ⟨_, rfl, RepLe.nils 1⟩⟩
    | true =>
      have M := mayK_iff.1 hmk
      cases ht3 : (k.type == 3) with
      | true =>
        simp +contextual (maxSteps := 1000000) only [hmk, ht3, go_sem, reduceCtorEq, ↓reduceIte, Nat.reduceAdd, Nat.reduceEqDiff, Nat.reduceLeDiff, Nat.reduceMul, Nat.reduceBEq, Int.reduceBEq, Int.reduceBNe, Int.reduceLT, Int.reduceLE, Int.reduceGT, Int.reduceGE, Int.reduceToNat]
        rw [← hQ, nf (by rw [hmk, bne, ht3]; rfl)]
        exact ⟨trivial, .inl ⟨_, rfl, RepLe.nils 1⟩⟩
      | false =>
        have c3 := d3 M
        rw [hk] at c3
        have hlk : legK m k = letterL m k (lookR k.code) := by rw [hz, hmk, bne, ht3, ← hfm]; rfl
        simp +contextual (maxSteps := 1000000) only [hmk, ht3, go_sem, reduceCtorEq, ↓reduceIte, Nat.reduceAdd, Nat.reduceEqDiff, Nat.reduceLeDiff, Nat.reduceMul, Nat.reduceBEq, Int.reduceBEq, Int.reduceBNe, Int.reduceLT, Int.reduceLE, Int.reduceGT, Int.reduceGE, Int.reduceToNat]
        unfold ir_legacyKey_t5
        simp +contextual (maxSteps := 1000000) only [go_sem, reduceCtorEq, ↓reduceIte, Nat.reduceAdd, Nat.reduceEqDiff, Nat.reduceLeDiff, Nat.reduceMul, Nat.reduceBEq, Int.reduceBEq, Int.reduceBNe, Int.reduceLT, Int.reduceLE, Int.reduceGT, Int.reduceGE, Int.reduceToNat]
        (refine CallP.pure (c3) (fun _ => rfl) ?_; simp +contextual (maxSteps := 1000000) only [go_sem, reduceCtorEq, ↓reduceIte, Nat.reduceAdd, Nat.reduceEqDiff, Nat.reduceLeDiff, Nat.reduceMul, Nat.reduceBEq, Int.reduceBEq, Int.reduceBNe, Int.reduceLT, Int.reduceLE, Int.reduceGT, Int.reduceGE, Int.reduceToNat])
        rw [← hQ, hlk]
        exact ⟨trivial, .inl ⟨_, rfl, RepLe.refl _⟩⟩
  · have hfm : formL m k = numberL k (lookR k.code) := by rw [hf]; simp only [hk]; rfl
    have nf : (mayK k && (k.type != 3)) = false → legK m k = [] := fun h => by rw [hz, h]; rfl
    simp +contextual (maxSteps := 1000000) only [hk, fe_nil, fe_int, isKey_int, go_sem, reduceCtorEq, ↓reduceIte, Nat.reduceAdd, Nat.reduceEqDiff, Nat.reduceLeDiff, Nat.reduceMul, Nat.reduceBEq, Int.reduceBEq, Int.reduceBNe, Int.reduceLT, Int.reduceLE, Int.reduceGT, Int.reduceGE, Int.reduceToNat]
    unfold ir_legacyKey_t4
    simp +contextual (maxSteps := 1000000) only [go_sem, reduceCtorEq, ↓reduceIte, Nat.reduceAdd, Nat.reduceEqDiff, Nat.reduceLeDiff, Nat.reduceMul, Nat.reduceBEq, Int.reduceBEq, Int.reduceBNe, Int.reduceLT, Int.reduceLE, Int.reduceGT, Int.reduceGE, Int.reduceToNat]
    (refine CallP.pure (c2) (fun _ => rfl) ?_; simp +contextual (maxSteps := 1000000) only [go_sem, reduceCtorEq, ↓reduceIte, Nat.reduceAdd, Nat.reduceEqDiff, Nat.reduceLeDiff, Nat.reduceMul, Nat.reduceBEq, Int.reduceBEq, Int.reduceBNe, Int.reduceLT, Int.reduceLE, Int.reduceGT, Int.reduceGE, Int.reduceToNat])
    cases hmk : mayK k with
    | false =>
      simp +contextual (maxSteps := 1000000) only [hmk, go_sem, reduceCtorEq, ↓reduceIte, Nat.reduceAdd, Nat.reduceEqDiff, Nat.reduceLeDiff, Nat.reduceMul, Nat.reduceBEq, Int.reduceBEq, Int.reduceBNe, Int.reduceLT, Int.reduceLE, Int.reduceGT, Int.reduceGE, Int.reduceToNat]
      rw [← hQ, nf (by rw [hmk]; rfl)]
      exact ⟨trivial, .inl ⟨_, rfl, RepLe.nils 1⟩⟩
    | true =>
      have M := mayK_iff.1 hmk
      cases ht3 : (k.type == 3) with
      | true =>
        simp +contextual (maxSteps := 1000000) only [hmk, ht3, go_sem, reduceCtorEq, ↓reduceIte, Nat.reduceAdd, Nat.reduceEqDiff, Nat.reduceLeDiff, Nat.reduceMul, Nat.reduceBEq, Int.reduceBEq, Int.reduceBNe, Int.reduceLT, Int.reduceLE, Int.reduceGT, Int.reduceGE, Int.reduceToNat]
        rw [← hQ, nf (by rw [hmk, bne, ht3]; rfl)]
        exact ⟨trivial, .inl ⟨_, rfl, RepLe.nils 1⟩⟩
      | false =>
        have c3 := d4 M
        rw [hk] at c3
        have hlk : legK m k = numberL k (lookR k.code) := by rw [hz, hmk, bne, ht3, ← hfm]; rfl
        simp +contextual (maxSteps := 1000000) only [hmk, ht3, go_sem, reduceCtorEq, ↓reduceIte, Nat.reduceAdd, Nat.reduceEqDiff, Nat.reduceLeDiff, Nat.reduceMul, Nat.reduceBEq, Int.reduceBEq, Int.reduceBNe, Int.reduceLT, Int.reduceLE, Int.reduceGT, Int.reduceGE, Int.reduceToNat]
        unfold ir_legacyKey_t5
        simp +contextual (maxSteps := 1000000) only [go_sem, reduceCtorEq, ↓reduceIte, Nat.reduceAdd, Nat.reduceEqDiff, Nat.reduceLeDiff, Nat.reduceMul, Nat.reduceBEq, Int.reduceBEq, Int.reduceBNe, Int.reduceLT, Int.reduceLE, Int.reduceGT, Int.reduceGE, Int.reduceToNat]
        (refine CallP.pure (c3) (fun _ => rfl) ?_; simp +contextual (maxSteps := 1000000) only [go_sem, reduceCtorEq, ↓reduceIte, Nat.reduceAdd, Nat.reduceEqDiff, Nat.reduceLeDiff, Nat.reduceMul, Nat.reduceBEq, Int.reduceBEq, Int.reduceBNe, Int.reduceLT, Int.reduceLE, Int.reduceGT, Int.reduceGE, Int.reduceToNat])
        rw [← hQ, hlk]
        exact ⟨trivial, .inl ⟨_, rfl, RepLe.refl _⟩⟩
  · have hfm : formL m k = padL m k (lookR k.code) := by rw [hf]; simp only [hk]; rfl
    have nf : (mayK k && (k.type != 3)) = false → legK m k = [] := fun h => by rw [hz, h]; rfl
    simp +contextual (maxSteps := 1000000) only [hk, fe_nil, fe_int, isKey_int, go_sem, reduceCtorEq, ↓reduceIte, Nat.reduceAdd, Nat.reduceEqDiff, Nat.reduceLeDiff, Nat.reduceMul, Nat.reduceBEq, Int.reduceBEq, Int.reduceBNe, Int.reduceLT, Int.reduceLE, Int.reduceGT, Int.reduceGE, Int.reduceToNat]
    unfold ir_legacyKey_t4
    simp +contextual (maxSteps := 1000000) only [go_sem, reduceCtorEq, ↓reduceIte, Nat.reduceAdd, Nat.reduceEqDiff, Nat.reduceLeDiff, Nat.reduceMul, Nat.reduceBEq, Int.reduceBEq, Int.reduceBNe, Int.reduceLT, Int.reduceLE, Int.reduceGT, Int.reduceGE, Int.reduceToNat]
    (refine CallP.pure (c2) (fun _ => rfl) ?_; simp +contextual (maxSteps := 1000000) only [go_sem, reduceCtorEq, ↓reduceIte, Nat.reduceAdd, Nat.reduceEqDiff, Nat.reduceLeDiff, Nat.reduceMul, Nat.reduceBEq, Int.reduceBEq, Int.reduceBNe, Int.reduceLT, Int.reduceLE, Int.reduceGT, Int.reduceGE, Int.reduceToNat])
    cases hmk : mayK k with
    | false =>
      simp +contextual (maxSteps := 1000000) only [hmk, go_sem, reduceCtorEq, ↓reduceIte, Nat.reduceAdd, Nat.reduceEqDiff, Nat.reduceLeDiff, Nat.reduceMul, Nat.reduceBEq, Int.reduceBEq, Int.reduceBNe, Int.reduceLT, Int.reduceLE, Int.reduceGT, Int.reduceGE, Int.reduceToNat]
      rw [← hQ, nf (by rw [hmk]; rfl)]
      exact ⟨trivial, .inl ⟨_, rfl, RepLe.nils 1⟩⟩
    | true =>
      have M := mayK_iff.1 hmk
      cases ht3 : (k.type == 3) with
      | true =>
        simp +contextual (maxSteps := 1000000) only [hmk, ht3, go_sem, reduceCtorEq, ↓reduceIte, Nat.reduceAdd, Nat.reduceEqDiff, Nat.reduceLeDiff, Nat.reduceMul, Nat.reduceBEq, Int.reduceBEq, Int.reduceBNe, Int.reduceLT, Int.reduceLE, Int.reduceGT, Int.reduceGE, Int.reduceToNat]
        rw [← hQ, nf (by rw [hmk, bne, ht3]; rfl)]
        exact ⟨trivial, .inl ⟨_, rfl, RepLe.nils 1⟩⟩
      | false =>
        have c3 := d5 M
        rw [hk] at c3
        have hlk : legK m k = padL m k (lookR k.code) := by rw [hz, hmk, bne, ht3, ← hfm]; rfl
        simp +contextual (maxSteps := 1000000) only [hmk, ht3, go_sem, reduceCtorEq, ↓reduceIte, Nat.reduceAdd, Nat.reduceEqDiff, Nat.reduceLeDiff, Nat.reduceMul, Nat.reduceBEq, Int.reduceBEq, Int.reduceBNe, Int.reduceLT, Int.reduceLE, Int.reduceGT, Int.reduceGE, Int.reduceToNat]
        unfold ir_legacyKey_t5
        simp +contextual (maxSteps := 1000000) only [go_sem, reduceCtorEq, ↓reduceIte, Nat.reduceAdd, Nat.reduceEqDiff, Nat.reduceLeDiff, Nat.reduceMul, Nat.reduceBEq, Int.reduceBEq, Int.reduceBNe, Int.reduceLT, Int.reduceLE, Int.reduceGT, Int.reduceGE, Int.reduceToNat]
        (refine CallP.pure (c3) (fun _ => rfl) ?_; simp +contextual (maxSteps := 1000000) only [go_sem, reduceCtorEq, ↓reduceIte, Nat.reduceAdd, Nat.reduceEqDiff, Nat.reduceLeDiff, Nat.reduceMul, Nat.reduceBEq, Int.reduceBEq, Int.reduceBNe, Int.reduceLT, Int.reduceLE, Int.reduceGT, Int.reduceGE, Int.reduceToNat])
        rw [← hQ, hlk]
        exact ⟨trivial, .inl ⟨_, rfl, RepLe.refl _⟩⟩
  · simp +contextual (maxSteps := 1000000) only [hk, fe_nil, fe_int, isKey_int, go_sem, reduceCtorEq, ↓reduceIte, Nat.reduceAdd, Nat.reduceEqDiff, Nat.reduceLeDiff, Nat.reduceMul, Nat.reduceBEq, Int.reduceBEq, Int.reduceBNe, Int.reduceLT, Int.reduceLE, Int.reduceGT, Int.reduceGE, Int.reduceToNat]
    unfold ir_legacyKey_t4
    simp +contextual (maxSteps := 1000000) only [go_sem, reduceCtorEq, ↓reduceIte, Nat.reduceAdd, Nat.reduceEqDiff, Nat.reduceLeDiff, Nat.reduceMul, Nat.reduceBEq, Int.reduceBEq, Int.reduceBNe, Int.reduceLT, Int.reduceLE, Int.reduceGT, Int.reduceGE, Int.reduceToNat]
    rw [← hQ, low (by omega)]
    exact ⟨trivial, .inl ⟨_, rfl, RepLe.nils 1⟩⟩
  · simp +contextual (maxSteps := 1000000) only [hk, fe_nil, fe_int, isKey_int, go_sem, reduceCtorEq, ↓reduceIte, Nat.reduceAdd, Nat.reduceEqDiff, Nat.reduceLeDiff, Nat.reduceMul, Nat.reduceBEq, Int.reduceBEq, Int.reduceBNe, Int.reduceLT, Int.reduceLE, Int.reduceGT, Int.reduceGE, Int.reduceToNat]
    unfold ir_legacyKey_t4
    simp +contextual (maxSteps := 1000000) only [go_sem, reduceCtorEq, ↓reduceIte, Nat.reduceAdd, Nat.reduceEqDiff, Nat.reduceLeDiff, Nat.reduceMul, Nat.reduceBEq, Int.reduceBEq, Int.reduceBNe, Int.reduceLT, Int.reduceLE, Int.reduceGT, Int.reduceGE, Int.reduceToNat]
    rw [← hQ, low (by omega)]
    exact ⟨trivial, .inl ⟨_, rfl, RepLe.nils 1⟩⟩
end Go.Proofs.YtbepihadhmfklaaGreatDoor

set_option linter.unusedVariables false
set_option linter.unusedSimpArgs false
set_option maxRecDepth 100000
namespace Go.Proofs.YtbepihadhmfklaaGreatDoor
open Go Go.Ab

structure MayF (s : Sq) : Prop where
  pr : s.pr = 0 ∨ 60 ≤ s.pr ∧ s.pr ≤ 63
  il : s.it.length ≤ 2
  it : ∀ c ∈ s.it, 32 ≤ c.toNat ∧ c.toNat < 48
  ps : parsOk s.ps = true
  dl : s.da.length ≤ 4096
  da : ∀ c ∈ s.da, 32 ≤ c.toNat ∧ c.toNat < 127
  sh : shapedP s = true
def zeroSq : Sq := ⟨0, 0, [], [], 0, []⟩
end Go.Proofs.YtbepihadhmfklaaGreatDoor

set_option linter.unusedVariables false
set_option linter.unusedSimpArgs false
set_option maxRecDepth 100000
namespace Go.Proofs.YtbepihadhmfklaaGreatDoor
open Go Go.Ab
/- (*clavier/wire.cursor).run -/
end Go.Proofs.YtbepihadhmfklaaGreatDoor

set_option linter.unusedVariables false
set_option linter.unusedSimpArgs false
set_option maxRecDepth 100000
namespace Go.Proofs.YtbepihadhmfklaaGreatDoor
open Go Go.Ab
end Go.Proofs.YtbepihadhmfklaaGreatDoor

set_option linter.unusedVariables false
set_option linter.unusedSimpArgs false
set_option maxRecDepth 100000
namespace Go.Proofs.YtbepihadhmfklaaGreatDoor
open Go Go.Ab
/- (*clavier/wire.reader).params -/
end Go.Proofs.YtbepihadhmfklaaGreatDoor

set_option linter.unusedVariables false
set_option linter.unusedSimpArgs false
set_option maxRecDepth 100000
namespace Go.Proofs.YtbepihadhmfklaaGreatDoor
open Go Go.Ab
end Go.Proofs.YtbepihadhmfklaaGreatDoor

set_option linter.unusedVariables false
set_option linter.unusedSimpArgs false
set_option maxRecDepth 100000
namespace Go.Proofs.YtbepihadhmfklaaGreatDoor
open Go Go.Ab
theorem RepLe.tupL {xs ys : List AV} (h : LeL xs ys) : RepLe (.tup xs) (.tup ys) := fun g v ⟨vs, e, k⟩ => ⟨vs, e, h.rep k⟩
theorem zero_le : RepLe (.tup [.agg [.int .i64 0, .int .u8 0, .nils, .str [], .int .u8 0, .str []], .int .i64 0, .int .i64 2]) (.tup [.agg zeroSq.c, .int .i64 0, .int .i64 2]) :=
  RepLe.tupL ⟨RepLe.agg ⟨.refl _, .refl _, .nils 1, .refl _, .refl _, .refl _, trivial⟩, .refl _, .refl _, trivial⟩
end Go.Proofs.YtbepihadhmfklaaGreatDoor

set_option linter.unusedVariables false
set_option linter.unusedSimpArgs false
set_option maxRecDepth 100000
namespace Go.Proofs.YtbepihadhmfklaaGreatDoor
open Go Go.Ab
end Go.Proofs.YtbepihadhmfklaaGreatDoor

set_option linter.unusedVariables false
set_option linter.unusedSimpArgs false
set_option maxRecDepth 100000
namespace Go.Proofs.YtbepihadhmfklaaGreatDoor
open Go Go.Ab

def charK (k : Ky) : Int := if kindK k.code = 1 then shownK k else k.code
def allO (k : Ky) : Bool := (oldK k.mods != 0) && ((kindK k.code == 2) || (oldK k.mods != 1))
def fewO (k : Ky) : Bool := allO k && hasK k.mods 4 && (if kindK k.code = 2 then (k.code == 9) || (k.code == 13) else hasK k.mods 1 || !(foldK (shownK k)).isSome)
def lvO (o : Int) (k : Ky) : Bool := if o = 1 then fewO k else if o = 2 then allO k else false
def isO (o : Int) (k : Ky) : Bool := ((kindK k.code == 1) || (kindK k.code == 2)) && mayK k && (k.type != 3) && lvO o k
def othSq (k : Ky) : Sq := numSq 1 0 126 [27, 1 + oldK k.mods, charK k]
def othK (o : Int) (k : Ky) : List UInt8 := if isO o k = true then putB (othSq k) else []
theorem old_lt (m : Int) : 0 ≤ oldK m ∧ oldK m < 8 := by unfold oldK; omega
theorem char_range {k : Ky} (M : MayK k) : 0 ≤ charK k ∧ charK k ≤ 1114111 := by
  unfold charK
  split
  · rename_i h
    obtain ⟨n, h1, h2, _⟩ := isCP_spec (shown_cp h M.sh).1
    omega
  · exact kind_range M.kind
theorem may3 {a b c : Int} (ha : 0 ≤ a ∧ a ≤ 1114111) (hb : 0 ≤ b ∧ b ≤ 1114111) (hc : 0 ≤ c ∧ c ≤ 1114111) : mayP (numSq 1 0 126 [a, b, c]) = 0 := by
  have hp : parsOk (([a, b, c] : List Int).map fun n => [n]) = true := by
    simp only [parsOk, List.map_cons, List.map_nil, List.any_cons, List.any_nil, parBad, List.length_cons, List.length_nil]
    have q : ∀ {x : Int}, 0 ≤ x ∧ x ≤ 1114111 → (decide (x < -1) || decide (x > 1114111)) = false := fun h => by
      rw [decide_eq_false (by omega), decide_eq_false (by omega)]; rfl
    rw [q ha, q hb, q hc]
    simp
  unfold mayP numSq
  rw [hp]
  simp [within, shapedP]
theorem oth_may {k : Ky} (M : MayK k) : mayP (othSq k) = 0 := by
  have := old_lt k.mods
  exact may3 (by omega) (by omega) (char_range M)
end Go.Proofs.YtbepihadhmfklaaGreatDoor

set_option linter.unusedVariables false
set_option linter.unusedSimpArgs false
set_option maxRecDepth 100000
namespace Go.Proofs.YtbepihadhmfklaaGreatDoor
open Go Go.Ab
end Go.Proofs.YtbepihadhmfklaaGreatDoor

set_option linter.unusedVariables false
set_option linter.unusedSimpArgs false
set_option maxRecDepth 100000
namespace Go.Proofs.YtbepihadhmfklaaGreatDoor
open Go Go.Ab

def clearsK (fl : Int) : Bool := hasK fl 1 || hasK fl 8
def boardK (m : Md) (fl : Int) (k : Ky) : List UInt8 := if m.lock = true then [] else if clearsK fl = true then keyK fl k else if isO m.other k = true then putB (othSq k) else legK m k
theorem key_types {fl : Int} {k : Ky} (M : MayK k) (hf : hasK fl 2 = false) : keyK fl { k with type := 1 } = keyK fl { k with type := 2 } ∧ keyK fl { k with type := 3 } = [] := by
  have hm : ∀ t : Int, 1 ≤ t → t ≤ 3 → mayK { k with type := t } = true := fun t h1 h2 => mayK_iff.2 ⟨M.kind, M.m0, M.m1, h1, h2, M.sh, M.ba, M.tx⟩
  constructor
  · have s : sentK fl { k with type := 1 } = sentK fl { k with type := 2 } := by unfold sentK; simp
    have t : textK fl { k with type := 1 } = textK fl { k with type := 2 } := by unfold textK; simp [shownK]
    have q : keySq fl { k with type := 1 } = keySq fl { k with type := 2 } := by
      unfold keySq
      have e1 : firstK fl { k with type := 1 } (formK k.code).1 (formK k.code).2.toNat = firstK fl { k with type := 2 } (formK k.code).1 (formK k.code).2.toNat := rfl
      have e2 : secondK fl { k with type := 1 } = secondK fl { k with type := 2 } := by unfold secondK; simp [hf]
      have e3 : thirdK fl { k with type := 1 } = thirdK fl { k with type := 2 } := by unfold thirdK; simp
      simp only [e1, e2, e3]
    unfold keyK
    rw [hm 1 (by omega) (by omega), hm 2 (by omega) (by omega), s, t, q]
  · unfold keyK
    have s : sentK fl { k with type := 3 } = false := by unfold sentK; simp [hf]
    rw [s]
    simp
theorem leg_types {m : Md} {k : Ky} (M : MayK k) : legK m { k with type := 1 } = legK m { k with type := 2 } ∧ legK m { k with type := 3 } = [] := by
  have hm : ∀ t : Int, 1 ≤ t → t ≤ 3 → mayK { k with type := t } = true := fun t h1 h2 => mayK_iff.2 ⟨M.kind, M.m0, M.m1, h1, h2, M.sh, M.ba, M.tx⟩
  constructor
  · unfold legK
    rw [hm 1 (by omega) (by omega), hm 2 (by omega) (by omega)]
    rfl
  · unfold legK
    simp
theorem oth_types {o : Int} {k : Ky} (M : MayK k) : isO o { k with type := 1 } = isO o { k with type := 2 } ∧ isO o { k with type := 3 } = false := by
  have hm : ∀ t : Int, 1 ≤ t → t ≤ 3 → mayK { k with type := t } = true := fun t h1 h2 => mayK_iff.2 ⟨M.kind, M.m0, M.m1, h1, h2, M.sh, M.ba, M.tx⟩
  constructor
  · unfold isO
    rw [hm 1 (by omega) (by omega), hm 2 (by omega) (by omega)]
    rfl
  · unfold isO
    simp
theorem board_types {m : Md} {fl : Int} {k : Ky} (M : MayK k) (hf : hasK fl 2 = false) : boardK m fl { k with type := 1 } = boardK m fl { k with type := 2 } ∧ boardK m fl { k with type := 3 } = [] := by
  obtain ⟨a1, a2⟩ := key_types (fl := fl) M hf
  obtain ⟨b1, b2⟩ := leg_types (m := m) M
  obtain ⟨c1, c2⟩ := oth_types (o := m.other) M
  have hq : othSq { k with type := 1 } = othSq { k with type := 2 } := rfl
  unfold boardK
  rw [a1, a2, b1, b2, c1, c2, hq]
  exact ⟨rfl, by simp⟩
end Go.Proofs.YtbepihadhmfklaaGreatDoor

set_option linter.unusedVariables false
set_option linter.unusedSimpArgs false
set_option maxRecDepth 100000
namespace Go.Proofs.YtbepihadhmfklaaGreatDoor
open Go Go.Ab
def ir_otherplain : ICode :=
 (.seq
 (.reg [⟨some 1, none, .box 25 (.t 0)⟩,
 ⟨some 2, none, .mov (.c (.bool false))⟩] (some [1]))
 (.seq
 (.reg [⟨some 3, none, .fa 0 (.t 1)⟩,
 ⟨some 4, none, .ld none (.t 3)⟩,
 ⟨some 5, none, .call (.c (.fn (.func 24) [] [])) [(.t 4)]⟩,
 ⟨some 6, none, .fld 0 none (.t 5)⟩,
 ⟨some 7, none, .bin .eql .none (.t 6) (.c (.int .i64 2))⟩,
 ⟨some 2, none, .mov (.t 7)⟩] (some [2]))
 .ret))
theorem is_otherplain : IrOf Tryz.prog 82 8 ir_otherplain [.t 2] := ⟨_, Tryz.func82, rfl, by kernel_rfl, by kernel_rfl, by kernel_rfl⟩

def ir_otherchar : ICode :=
 (.seq
 (.reg [⟨some 1, none, .box 25 (.t 0)⟩,
 ⟨some 2, none, .mov (.c (.int .i64 0))⟩,
 ⟨some 3, none, .mov (.c (.bool false))⟩] (some [1]))
 (.seq
 (.seq
 (.reg [⟨some 4, none, .fa 0 (.t 1)⟩,
 ⟨some 5, none, .ld none (.t 4)⟩,
 ⟨some 6, none, .call (.c (.fn (.func 24) [] [])) [(.t 5)]⟩,
 ⟨some 7, none, .fld 0 none (.t 6)⟩] (some [1, 7]))
 (.blk 0
 (.seq
 (.reg [⟨some 9, none, .bin .eql .none (.t 7) (.c (.int .i64 1))⟩,
 ⟨some 8, none, .mov (.t 9)⟩] (some [1, 7, 8]))
 (.cond (.t 8)
 (.seq
 (.reg [⟨some 10, none, .ld (some 6) (.t 1)⟩,
 ⟨some 11, none, .call (.c (.fn (.func 84) [] [])) [(.t 10)]⟩,
 ⟨some 2, none, .mov (.t 11)⟩,
 ⟨some 3, none, .mov (.c (.bool true))⟩] (some [2, 3]))
 .ret)
 (.seq
 (.reg [⟨some 13, none, .bin .eql .none (.t 7) (.c (.int .i64 2))⟩,
 ⟨some 12, none, .mov (.t 13)⟩] (some [1, 12]))
 (.cond (.t 12)
 (.seq
 (.reg [⟨some 14, none, .fa 0 (.t 1)⟩,
 ⟨some 15, none, .ld none (.t 14)⟩,
 ⟨some 2, none, .mov (.t 15)⟩,
 ⟨some 3, none, .mov (.c (.bool true))⟩] (some [2, 3]))
 .ret)
 .skip))))))
 (.seq
 (.reg [⟨some 2, none, .mov (.c (.int .i64 0))⟩,
 ⟨some 3, none, .mov (.c (.bool false))⟩] (some [2, 3]))
 .ret)))
theorem is_otherchar : IrOf Tryz.prog 38 16 ir_otherchar [.t 2, .t 3] := ⟨_, Tryz.func38, rfl, by kernel_rfl, by kernel_rfl, by kernel_rfl⟩

def ir_otherall : ICode :=
 (.seq
 (.reg [⟨some 1, none, .box 25 (.t 0)⟩,
 ⟨some 2, none, .mov (.c (.bool false))⟩] (some [1]))
 (.seq
 (.reg [⟨some 4, none, .fa 1 (.t 1)⟩,
 ⟨some 5, none, .ld none (.t 4)⟩,
 ⟨some 6, none, .call (.c (.fn (.func 43) [] [])) [(.t 5)]⟩,
 ⟨some 3, none, .mov (.t 6)⟩] (some [1, 3]))
 (.seq
 (.reg [⟨some 7, none, .mov (.t 3)⟩,
 ⟨some 8, none, .bin .neq .none (.t 7) (.c (.int .i64 0))⟩,
 ⟨some 9, none, .mov (.t 8)⟩,
 ⟨some 10, some (9, true), .ld (some 6) (.t 1)⟩,
 ⟨some 11, some (9, true), .call (.c (.fn (.func 82) [] [])) [(.t 10)]⟩,
 ⟨some 12, some (9, true), .mov (.t 11)⟩,
 ⟨some 13, some (12, false), .mov (.t 3)⟩,
 ⟨some 14, some (12, false), .bin .neq .none (.t 13) (.c (.int .i64 1))⟩,
 ⟨some 15, some (9, true), .pick (.t 12) (.c (.bool true)) (.t 14)⟩,
 ⟨some 16, none, .pick (.t 9) (.t 15) (.c (.bool false))⟩,
 ⟨some 2, none, .mov (.t 16)⟩] (some [2]))
 .ret)))
theorem is_otherall : IrOf Tryz.prog 37 17 ir_otherall [.t 2] := ⟨_, Tryz.func37, rfl, by kernel_rfl, by kernel_rfl, by kernel_rfl⟩

def ir_otherfew : ICode :=
 (.seq
 (.reg [⟨some 1, none, .box 25 (.t 0)⟩,
 ⟨some 2, none, .mov (.c (.bool false))⟩] (some [1]))
 (.seq
 (.seq
 (.reg [⟨some 5, none, .ld (some 6) (.t 1)⟩,
 ⟨some 6, none, .call (.c (.fn (.func 37) [] [])) [(.t 5)]⟩,
 ⟨some 7, none, .un .not (.t 6)⟩,
 ⟨some 8, none, .mov (.t 7)⟩,
 ⟨some 9, some (8, false), .fa 1 (.t 1)⟩,
 ⟨some 10, some (8, false), .ld none (.t 9)⟩,
 ⟨some 11, some (8, false), .bin .and .none (.t 10) (.c (.int .i64 4))⟩,
 ⟨some 12, some (8, false), .bin .eql .none (.t 11) (.c (.int .i64 0))⟩,
 ⟨some 13, none, .pick (.t 8) (.c (.bool true)) (.t 12)⟩] (some [1, 13]))
 (.cond (.t 13)
 (.seq
 (.reg [⟨some 2, none, .mov (.c (.bool false))⟩] (some [2]))
 .ret)
 .skip))
 (.seq
 (.seq
 (.reg [⟨some 14, none, .ld (some 6) (.t 1)⟩,
 ⟨some 15, none, .call (.c (.fn (.func 82) [] [])) [(.t 14)]⟩] (some [1, 15]))
 (.cond (.t 15)
 (.seq
 (.reg [⟨some 16, none, .fa 0 (.t 1)⟩,
 ⟨some 17, none, .ld none (.t 16)⟩,
 ⟨some 18, none, .bin .eql .none (.t 17) (.c (.int .i64 9))⟩,
 ⟨some 19, none, .mov (.t 18)⟩,
 ⟨some 20, some (19, false), .fa 0 (.t 1)⟩,
 ⟨some 21, some (19, false), .ld none (.t 20)⟩,
 ⟨some 22, some (19, false), .bin .eql .none (.t 21) (.c (.int .i64 13))⟩,
 ⟨some 23, none, .pick (.t 19) (.c (.bool true)) (.t 22)⟩,
 ⟨some 2, none, .mov (.t 23)⟩] (some [2]))
 .ret)
 .skip))
 (.seq
 (.reg [⟨some 25, none, .ld (some 6) (.t 1)⟩,
 ⟨some 26, none, .call (.c (.fn (.func 84) [] [])) [(.t 25)]⟩,
 ⟨some 27, none, .call (.c (.fn (.func 83) [] [])) [(.t 26)]⟩,
 ⟨some 24, none, .mov (.t 27)⟩,
 ⟨some 28, none, .ext (.t 24) 0⟩,
 ⟨some 29, none, .ext (.t 24) 1⟩,
 ⟨some 3, none, .mov (.t 28)⟩,
 ⟨some 4, none, .mov (.t 29)⟩] (some [1, 4]))
 (.seq
 (.reg [⟨some 30, none, .fa 1 (.t 1)⟩,
 ⟨some 31, none, .ld none (.t 30)⟩,
 ⟨some 32, none, .bin .and .none (.t 31) (.c (.int .i64 1))⟩,
 ⟨some 33, none, .bin .neq .none (.t 32) (.c (.int .i64 0))⟩,
 ⟨some 34, none, .mov (.t 33)⟩,
 ⟨some 35, some (34, false), .mov (.t 4)⟩,
 ⟨some 36, some (34, false), .un .not (.t 35)⟩,
 ⟨some 37, none, .pick (.t 34) (.c (.bool true)) (.t 36)⟩,
 ⟨some 2, none, .mov (.t 37)⟩] (some [2]))
 .ret)))))
theorem is_otherfew : IrOf Tryz.prog 36 38 ir_otherfew [.t 2] := ⟨_, Tryz.func36, rfl, by kernel_rfl, by kernel_rfl, by kernel_rfl⟩

def ir_otherKey : ICode :=
 (.seq
 (.reg [⟨some 2, none, .box 23 (.t 0)⟩,
 ⟨some 3, none, .box 25 (.t 1)⟩,
 ⟨some 4, none, .mov (.c .nils)⟩,
 ⟨some 5, none, .mov (.c (.bool false))⟩] (some [2, 3]))
 (.seq
 (.reg [⟨some 12, none, .bld [.nilf, .nilf] [(0, 1, (.c (.fn (.func 36) [] []))), (1, 1, (.c (.fn (.func 37) [] [])))]⟩,
 ⟨some 6, none, .box 58 (.c (.agg [.nilf, .nilf]))⟩,
 ⟨none, none, .st 2 (.t 6) (.t 12)⟩] (some [2, 3, 6]))
 (.seq
 (.reg [⟨some 14, none, .ld (some 6) (.t 3)⟩,
 ⟨some 15, none, .call (.c (.fn (.func 38) [] [])) [(.t 14)]⟩,
 ⟨some 13, none, .mov (.t 15)⟩,
 ⟨some 16, none, .ext (.t 13) 0⟩,
 ⟨some 17, none, .ext (.t 13) 1⟩,
 ⟨some 7, none, .mov (.t 16)⟩,
 ⟨some 8, none, .mov (.t 17)⟩] (some [2, 3, 6, 7, 8]))
 (.seq
 (.seq
 (.reg [⟨some 18, none, .mov (.t 8)⟩,
 ⟨some 19, none, .un .not (.t 18)⟩,
 ⟨some 20, none, .mov (.t 19)⟩,
 ⟨some 21, some (20, false), .fa 9 (.t 2)⟩,
 ⟨some 22, some (20, false), .ld none (.t 21)⟩,
 ⟨some 23, some (20, false), .bin .lss .none (.t 22) (.c (.int .i64 1))⟩,
 ⟨some 24, none, .pick (.t 20) (.c (.bool true)) (.t 23)⟩,
 ⟨some 25, none, .mov (.t 24)⟩,
 ⟨some 26, some (25, false), .fa 9 (.t 2)⟩,
 ⟨some 27, some (25, false), .ld none (.t 26)⟩,
 ⟨some 28, some (25, false), .bin .gtr .none (.t 27) (.c (.int .i64 2))⟩,
 ⟨some 29, none, .pick (.t 25) (.c (.bool true)) (.t 28)⟩,
 ⟨some 30, none, .mov (.t 29)⟩,
 ⟨some 31, some (30, false), .ld (some 6) (.t 3)⟩,
 ⟨some 32, some (30, false), .call (.c (.fn (.func 39) [] [])) [(.t 31)]⟩,
 ⟨some 33, some (30, false), .un .not (.t 32)⟩,
 ⟨some 34, none, .pick (.t 30) (.c (.bool true)) (.t 33)⟩,
 ⟨some 35, none, .mov (.t 34)⟩,
 ⟨some 36, some (35, false), .fa 2 (.t 3)⟩,
 ⟨some 37, some (35, false), .ld none (.t 36)⟩,
 ⟨some 38, some (35, false), .bin .eql .none (.t 37) (.c (.int .i64 3))⟩,
 ⟨some 39, none, .pick (.t 35) (.c (.bool true)) (.t 38)⟩] (some [2, 3, 6, 7, 39]))
 (.cond (.t 39)
 (.seq
 (.reg [⟨some 4, none, .mov (.c .nils)⟩,
 ⟨some 5, none, .mov (.c (.bool false))⟩] (some [4, 5]))
 .ret)
 .skip))
 (.seq
 (.seq
 (.reg [⟨some 40, none, .fa 9 (.t 2)⟩,
 ⟨some 41, none, .ld none (.t 40)⟩,
 ⟨some 42, none, .bin .sub .none (.t 41) (.c (.int .i64 1))⟩,
 ⟨some 43, none, .iar 2 1 (.t 6) (.t 42)⟩,
 ⟨some 44, none, .ld none (.t 43)⟩,
 ⟨some 9, none, .mov (.t 44)⟩] (some [3, 7, 9]))
 (.seq
 (.reg [⟨some 45, none, .mov (.t 9)⟩,
 ⟨some 46, none, .ld (some 6) (.t 3)⟩,
 ⟨some 47, none, .call (.t 45) [(.t 46)]⟩,
 ⟨some 48, none, .un .not (.t 47)⟩] (some [3, 7, 48]))
 (.cond (.t 48)
 (.seq
 (.reg [⟨some 4, none, .mov (.c .nils)⟩,
 ⟨some 5, none, .mov (.c (.bool false))⟩] (some [4, 5]))
 .ret)
 .skip)))
 (.seq
 (.reg [⟨some 50, none, .fa 1 (.t 3)⟩,
 ⟨some 51, none, .ld none (.t 50)⟩,
 ⟨some 52, none, .call (.c (.fn (.func 43) [] [])) [(.t 51)]⟩,
 ⟨some 53, none, .call (.c (.fn (.func 42) [] [])) [(.t 52)]⟩,
 ⟨some 54, none, .mov (.t 7)⟩,
 ⟨some 55, none, .row 3 1 [(.c (.int .i64 27)), (.t 53), (.t 54)]⟩,
 ⟨some 56, none, .call (.c (.fn (.func 41) [] [])) [(.c (.int .u8 0)), (.c (.int .u8 126)), (.t 55)]⟩,
 ⟨some 57, none, .call (.c (.fn (.func 40) [] [])) [(.t 56)]⟩,
 ⟨some 49, none, .mov (.t 57)⟩,
 ⟨some 58, none, .ext (.t 49) 0⟩,
 ⟨some 59, none, .ext (.t 49) 1⟩,
 ⟨some 10, none, .mov (.t 58)⟩,
 ⟨some 11, none, .mov (.t 59)⟩] (some [10, 11]))
 (.seq
 (.reg [⟨some 60, none, .mov (.t 10)⟩,
 ⟨some 61, none, .mov (.t 11)⟩,
 ⟨some 62, none, .bin .eql .none (.t 61) (.c (.int .i64 0))⟩,
 ⟨some 4, none, .mov (.t 60)⟩,
 ⟨some 5, none, .mov (.t 62)⟩] (some [4, 5]))
 .ret)))))))
theorem is_otherKey : IrOf Tryz.prog 20 63 ir_otherKey [.t 4, .t 5] := ⟨_, Tryz.func20, rfl, by kernel_rfl, by kernel_rfl, by kernel_rfl⟩


theorem fs_oPlain {Gl : Gh → Prop} (hst : Stays Gl) {k : Ky} : FS Tryz.prog Gl 82 [.agg (kyAV k)] [] [] (.bool (kindK k.code == 2)) [] [] := by
  refine FS.of hm hst is_otherplain (by simp) fun γ hγ hfr => ?_
  have hky : kyAV k = [.int .i64 k.code, .int .i64 k.mods, .int .i64 k.type, .int .i64 k.shifted, .int .i64 k.base, .str k.text] := rfl
  have c1 := fs_Look (Gl := Gl) hst (c := k.code)
  have hkd : (lookR k.code).kind = kindK k.code := rfl
  rw [ent_eq, hkd] at c1
  simp only [hky]
  (generalize hQ : (fun (ex : Ex) (_ _ : Nat) (s : St) => _) = Q; unfold ir_otherplain)
  simp +contextual (maxSteps := 1000000) only [go_sem, reduceCtorEq, ↓reduceIte, Nat.reduceAdd, Nat.reduceEqDiff]
  (refine CallP.pure (c1) (fun _ => rfl) ?_; simp +contextual (maxSteps := 1000000) only [go_sem, reduceCtorEq, ↓reduceIte, Nat.reduceAdd, Nat.reduceEqDiff])
  rw [← hQ]
  exact ⟨trivial, Ret.flat rfl rfl⟩
theorem fs_oChar {Gl : Gh → Prop} (hst : Stays Gl) {k : Ky} (hmm : k.mods ≤ 9223372036854775807) : FS Tryz.prog Gl 38 [.agg (kyAV k)] [] [] (.tup [.int .i64 (if kindK k.code = 1 ∨ kindK k.code = 2 then charK k else 0), .bool ((kindK k.code == 1) || (kindK k.code == 2))]) [] [] := by
  refine FS.of hm hst is_otherchar (by simp) fun γ hγ hfr => ?_
  have hky : kyAV k = [.int .i64 k.code, .int .i64 k.mods, .int .i64 k.type, .int .i64 k.shifted, .int .i64 k.base, .str k.text] := rfl
  have c1 := fs_Look (Gl := Gl) hst (c := k.code)
  have hkd : (lookR k.code).kind = kindK k.code := rfl
  rw [ent_eq, hkd] at c1
  have c2 := fs_Shown (Gl := Gl) hst (k := k) hmm
  rw [hky] at c2
  simp only [hky]
  (generalize hQ : (fun (ex : Ex) (_ _ : Nat) (s : St) => _) = Q; unfold ir_otherchar)
  simp +contextual (maxSteps := 1000000) only [go_sem, reduceCtorEq, ↓reduceIte, Nat.reduceAdd, Nat.reduceEqDiff]
  (refine CallP.pure (c1) (fun _ => rfl) ?_; simp +contextual (maxSteps := 1000000) only [go_sem, reduceCtorEq, ↓reduceIte, Nat.reduceAdd, Nat.reduceEqDiff])
  by_cases h1 : kindK k.code = 1
  · have q1 : (kindK k.code == 1) = true := beq_iff_eq.2 h1
    have hc : charK k = shownK k := if_pos h1
    simp +contextual (maxSteps := 1000000) only [q1, go_sem, reduceCtorEq, ↓reduceIte, Nat.reduceAdd, Nat.reduceEqDiff]
    (refine CallP.pure (c2) (fun _ => rfl) ?_; simp +contextual (maxSteps := 1000000) only [go_sem, reduceCtorEq, ↓reduceIte, Nat.reduceAdd, Nat.reduceEqDiff])
    rw [← hQ, if_pos (.inl h1), hc, q1]
    exact ⟨trivial, Ret.flatT rfl rfl⟩
  · have q1 : (kindK k.code == 1) = false := beq_eq_false_iff_ne.2 h1
    by_cases h2 : kindK k.code = 2
    · have q2 : (kindK k.code == 2) = true := beq_iff_eq.2 h2
      have hc : charK k = k.code := if_neg h1
      simp +contextual (maxSteps := 1000000) only [q1, q2, go_sem, reduceCtorEq, ↓reduceIte, Nat.reduceAdd, Nat.reduceEqDiff]
      rw [← hQ, if_pos (.inr h2), hc, q1, q2]
      exact ⟨trivial, Ret.flatT rfl rfl⟩
    · have q2 : (kindK k.code == 2) = false := beq_eq_false_iff_ne.2 h2
      simp +contextual (maxSteps := 1000000) only [q1, q2, go_sem, reduceCtorEq, ↓reduceIte, Nat.reduceAdd, Nat.reduceEqDiff]
      rw [← hQ, if_neg (by omega), q1, q2]
      exact ⟨trivial, Ret.flatT rfl rfl⟩
theorem fs_oAll {Gl : Gh → Prop} (hst : Stays Gl) {k : Ky} (h1 : k.mods ≤ 9223372036854775807) : FS Tryz.prog Gl 37 [.agg (kyAV k)] [] [] (.bool (allO k)) [] [] := by
  refine FS.of hm hst is_otherall (by simp) fun γ hγ hfr => ?_
  have hky : kyAV k = [.int .i64 k.code, .int .i64 k.mods, .int .i64 k.type, .int .i64 k.shifted, .int .i64 k.base, .str k.text] := rfl
  have c1 := fs_Old (Gl := Gl) hst (m := k.mods) h1
  have c2 := fs_oPlain (Gl := Gl) hst (k := k)
  have hz : allO k = ((oldK k.mods != 0) && ((kindK k.code == 2) || (oldK k.mods != 1))) := rfl
  rw [hky] at c2
  simp only [hky]
  (generalize hQ : (fun (ex : Ex) (_ _ : Nat) (s : St) => _) = Q; unfold ir_otherall)
  simp +contextual (maxSteps := 1000000) only [go_sem, reduceCtorEq, ↓reduceIte, Nat.reduceAdd, Nat.reduceEqDiff]
  (refine CallP.pure (c1) (fun _ => rfl) ?_; simp +contextual (maxSteps := 1000000) only [go_sem, reduceCtorEq, ↓reduceIte, Nat.reduceAdd, Nat.reduceEqDiff])
  (refine kGc_call (c2) (fun _ => rfl) (fun hgc => ?_) ?_; (focus (first | (rw [Bool.not_eq_true'] at hgc; simp only [List.map_cons, List.map_nil, List.nil_append, List.append_nil, List.cons_append, Xev_t, Xev_c, upd_app, lf_cons, lf_nil, Nat.reduceEqDiff, ↓reduceIte, hgc, Bool.false_eq_true, Bool.true_eq_false, reduceCtorEq]; done) | (simp only [List.map_cons, List.map_nil, List.nil_append, List.append_nil, List.cons_append, Xev_t, Xev_c, upd_app, lf_cons, lf_nil, Nat.reduceEqDiff, ↓reduceIte, hgc, Bool.false_eq_true, Bool.true_eq_false, reduceCtorEq]; done) | (revert hgc; simp +contextual [Xev_t, Xev_c, upd_app, lf_cons, lf_nil]; done) | simp [Xev_t, Xev_c, upd_app, lf_cons, lf_nil])); simp +contextual (maxSteps := 1000000) only [go_sem, reduceCtorEq, ↓reduceIte, Nat.reduceAdd, Nat.reduceEqDiff])
  rw [← hQ, hz]
  exact ⟨trivial, Ret.flat rfl rfl⟩
theorem fs_oFew {Gl : Gh → Prop} (hst : Stays Gl) {k : Ky} (h0 : 0 ≤ k.mods) (h1 : k.mods ≤ 255) : FS Tryz.prog Gl 36 [.agg (kyAV k)] [] [] (.bool (fewO k)) [] [] := by
  refine FS.of hm hst is_otherfew (by simp) fun γ hγ hfr => ?_
  have hky : kyAV k = [.int .i64 k.code, .int .i64 k.mods, .int .i64 k.type, .int .i64 k.shifted, .int .i64 k.base, .str k.text] := rfl
  have c1 := fs_oAll (Gl := Gl) hst (k := k) (by omega)
  have c2 := fs_oPlain (Gl := Gl) hst (k := k)
  have c3 := fs_Shown (Gl := Gl) hst (k := k) (by omega)
  have c4 : FS Tryz.prog Gl 83 [.int .i64 (shownK k)] [] [] (.tup [.int .i64 ((foldK (shownK k)).getD 0), .bool (foldK (shownK k)).isSome]) [] [] := fs_Fold (Gl := Gl) hst
  have q4 : (bits .and .i64 k.mods 4 != 0) = hasK k.mods 4 := hasB h0 h1 2 (by omega)
  have q4' : (bits .and .i64 k.mods 4 == 0) = !hasK k.mods 4 := by rw [← q4, bne, Bool.not_not]
  have q1 : (bits .and .i64 k.mods 1 != 0) = hasK k.mods 1 := hasB h0 h1 0 (by omega)
  have hz : fewO k = (allO k && hasK k.mods 4 && (if kindK k.code = 2 then (k.code == 9) || (k.code == 13) else hasK k.mods 1 || !(foldK (shownK k)).isSome)) := rfl
  rw [hky] at c1 c2 c3
  simp only [hky]
  (generalize hQ : (fun (ex : Ex) (_ _ : Nat) (s : St) => _) = Q; unfold ir_otherfew)
  simp +contextual (maxSteps := 1000000) only [go_sem, reduceCtorEq, ↓reduceIte, Nat.reduceAdd, Nat.reduceEqDiff]
  (refine CallP.pure (c1) (fun _ => rfl) ?_; simp +contextual (maxSteps := 1000000) only [q4', go_sem, reduceCtorEq, ↓reduceIte, Nat.reduceAdd, Nat.reduceEqDiff])
  cases hA : allO k with
  | false =>
    simp +contextual (maxSteps := 1000000) only [hA, go_sem, reduceCtorEq, ↓reduceIte, Nat.reduceAdd, Nat.reduceEqDiff]
    rw [← hQ, hz, hA]
    exact ⟨trivial, Ret.flat rfl rfl⟩
  | true =>
    cases hB : hasK k.mods 4 with
    | false =>
      simp +contextual (maxSteps := 1000000) only [hA, hB, go_sem, reduceCtorEq, ↓reduceIte, Nat.reduceAdd, Nat.reduceEqDiff]
      rw [← hQ, hz, hA, hB]
      exact ⟨trivial, Ret.flat rfl rfl⟩
    | true =>
      simp +contextual (maxSteps := 1000000) only [hA, hB, go_sem, reduceCtorEq, ↓reduceIte, Nat.reduceAdd, Nat.reduceEqDiff]
      (refine CallP.pure (c2) (fun _ => rfl) ?_; simp +contextual (maxSteps := 1000000) only [go_sem, reduceCtorEq, ↓reduceIte, Nat.reduceAdd, Nat.reduceEqDiff])
      by_cases h2 : kindK k.code = 2
      · have q2 : (kindK k.code == 2) = true := beq_iff_eq.2 h2
        simp +contextual (maxSteps := 1000000) only [q2, go_sem, reduceCtorEq, ↓reduceIte, Nat.reduceAdd, Nat.reduceEqDiff]
        rw [← hQ, hz, hA, hB, if_pos h2]
        exact ⟨trivial, Ret.flat rfl rfl⟩
      · have q2 : (kindK k.code == 2) = false := beq_eq_false_iff_ne.2 h2
        simp +contextual (maxSteps := 1000000) only [q2, go_sem, reduceCtorEq, ↓reduceIte, Nat.reduceAdd, Nat.reduceEqDiff]
        (refine CallP.pure (c3) (fun _ => rfl) ?_; simp +contextual (maxSteps := 1000000) only [go_sem, reduceCtorEq, ↓reduceIte, Nat.reduceAdd, Nat.reduceEqDiff])
        (refine CallP.pure (c4) (fun _ => rfl) ?_; simp +contextual (maxSteps := 1000000) only [q1, go_sem, reduceCtorEq, ↓reduceIte, Nat.reduceAdd, Nat.reduceEqDiff])
        rw [← hQ, hz, hA, hB, if_neg h2]
        exact ⟨trivial, Ret.flat rfl rfl⟩
theorem isO_prog (o : Int) (k : Ky) : isO o k = (!((((!((kindK k.code == 1) || (kindK k.code == 2)) || decide (o < 1)) || decide (o > 2)) || !mayK k) || (k.type == 3)) && lvO o k) := by
  have hl : (o < 1 ∨ o > 2) → lvO o k = false := fun h => by unfold lvO; rw [if_neg (by omega), if_neg (by omega)]
  unfold isO
  by_cases h1 : o < 1
  · rw [hl (.inl h1)]; simp
  · by_cases h2 : o > 2
    · rw [hl (.inr h2)]; simp
    · rw [decide_eq_false h1, decide_eq_false h2]
      simp only [bne]
      cases (kindK k.code == 1) <;> cases (kindK k.code == 2) <;> cases mayK k <;> cases (k.type == 3) <;> rfl
set_option maxHeartbeats 4000000 in
theorem fs_oKey {Gl : Gh → Prop} (hst : Stays Gl) {m : Md} {k : Ky} (hmm : k.mods ≤ 9223372036854775807) (ht : k.text.length ≤ 1000000000000) : FS Tryz.prog Gl 20 [.agg (mdAV m), .agg (kyAV k)] [] [] (.tup [.sl none 1 (bytesAV (othK m.other k)), .bool (isO m.other k)]) [] [] := by
  refine FS.ofW hm hst is_otherKey rfl (by simp) fun γ hγ hfr => ?_
  have hky : kyAV k = [.int .i64 k.code, .int .i64 k.mods, .int .i64 k.type, .int .i64 k.shifted, .int .i64 k.base, .str k.text] := rfl
  have hmd : mdAV m = [.bool m.cursor, .bool m.keypad, .bool m.back, .bool m.focus, .bool m.paste, .bool m.lock, .bool m.line, .int .i64 m.mouse, .int .i64 m.coding, .int .i64 m.other] := rfl
  have c1 := fs_oChar (Gl := Gl) hst (k := k) hmm
  have c2 := fs_MayK (Gl := Gl) hst ht
  have c3 := fs_oAll (Gl := Gl) hst (k := k) hmm
  have c4 := fun (M : MayK k) => fs_oFew (Gl := Gl) hst (k := k) M.m0 M.m1
  have c5 := fs_Old (Gl := Gl) hst (m := k.mods) hmm
  have c6 := fs_Param (Gl := Gl) hst (m := oldK k.mods)
  have hold := old_lt k.mods
  rw [show paramK (oldK k.mods) = 1 + oldK k.mods by unfold paramK; split <;> omega] at c6
  have c7 := fun t : Option Nm => fs_NumV (Gl := Gl) hst (pr := 0) (fi := 126) (nums := [27, 1 + oldK k.mods, charK k]) (tn := t) (by simp)
  have hi3 : intsAV [27, 1 + oldK k.mods, charK k] = [[.int .i64 27], [.int .i64 (1 + oldK k.mods)], [.int .i64 (charK k)]] := rfl
  rw [hi3] at c7
  have c8 : MayK k → FS Tryz.prog Gl 40 [.agg [.int .i64 1, .int .u8 0, .sl none 1 (parsAV (([27, 1 + oldK k.mods, charK k] : List Int).map fun n => [n])), .str [], .int .u8 126, .str []]] [] [] (.tup [.sl none 1 (bytesAV (putB (othSq k))), .int .i64 0]) [] [] := fun M => by
    have h := oth_may M
    have := fs_wPut (Gl := Gl) hst (s := othSq k) (by simp [othSq, numSq]) (by simp [othSq, numSq]) (by simp [othSq, numSq]) (by simp [othSq, numSq]) (sm_num (by simp))
    rw [show putV (othSq k) = .sl none 1 (bytesAV (putB (othSq k))) by unfold putV; rw [h]; rfl, h] at this
    exact this
  have hz := isO_prog m.other k
  have hw : othK m.other k = if isO m.other k = true then putB (othSq k) else [] := rfl
  rw [hky] at c1 c2 c3 c4
  simp only [hky, hmd]
  (generalize hQ : (fun (ex : Ex) (_ _ : Nat) (s : St) => _) = Q; unfold ir_otherKey)
  have no : ∀ {γ' c' : Nat} {st : St}, isO m.other k = false → st.F 4 = .nils → st.F 5 = .bool false → Q .ret γ' c' st := by
    intro γ' c' st h h4 h5
    rw [← hQ, hw, h]
    exact ⟨trivial, .inl ⟨.tup [.nils, .bool false], by simp only [resOf, getAll, IRes.get, h4, h5], RepLe.tupL ⟨.nils 1, .refl _, trivial⟩⟩⟩
  simp +contextual (maxSteps := 1000000) only [go_sem, reduceCtorEq, ↓reduceIte, Nat.reduceAdd, Nat.reduceEqDiff, Nat.reduceLeDiff, Nat.reduceMul, Nat.reduceBEq, Int.reduceBEq, Int.reduceBNe, Int.reduceLT, Int.reduceLE, Int.reduceGT, Int.reduceGE, Int.reduceToNat]
  (refine CallP.pure (c1) (fun _ => rfl) ?_; simp +contextual (maxSteps := 1000000) only [go_sem, reduceCtorEq, ↓reduceIte, Nat.reduceAdd, Nat.reduceEqDiff, Nat.reduceLeDiff, Nat.reduceMul, Nat.reduceBEq, Int.reduceBEq, Int.reduceBNe, Int.reduceLT, Int.reduceLE, Int.reduceGT, Int.reduceGE, Int.reduceToNat])
  (refine kGc_call (c2) (fun _ => rfl) (fun hgc => ?_) ?_; (focus (first | (rw [Bool.not_eq_true'] at hgc; simp only [List.map_cons, List.map_nil, List.nil_append, List.append_nil, List.cons_append, Xev_t, Xev_c, upd_app, lf_cons, lf_nil, Nat.reduceEqDiff, ↓reduceIte, hgc, Bool.false_eq_true, Bool.true_eq_false, reduceCtorEq]; done) | (simp only [List.map_cons, List.map_nil, List.nil_append, List.append_nil, List.cons_append, Xev_t, Xev_c, upd_app, lf_cons, lf_nil, Nat.reduceEqDiff, ↓reduceIte, hgc, Bool.false_eq_true, Bool.true_eq_false, reduceCtorEq]; done) | (revert hgc; simp +contextual [Xev_t, Xev_c, upd_app, lf_cons, lf_nil]; done) | simp [Xev_t, Xev_c, upd_app, lf_cons, lf_nil])); simp +contextual (maxSteps := 1000000) only [go_sem, reduceCtorEq, ↓reduceIte, Nat.reduceAdd, Nat.reduceEqDiff, Nat.reduceLeDiff, Nat.reduceMul, Nat.reduceBEq, Int.reduceBEq, Int.reduceBNe, Int.reduceLT, Int.reduceLE, Int.reduceGT, Int.reduceGE, Int.reduceToNat])
  cases hB : ((((!((kindK k.code == 1) || (kindK k.code == 2)) || decide (m.other < 1)) || decide (m.other > 2)) || !mayK k) || (k.type == 3)) with
  | true =>
    simp +contextual (maxSteps := 1000000) only [hB, go_sem, reduceCtorEq, ↓reduceIte, Nat.reduceAdd, Nat.reduceEqDiff, Nat.reduceLeDiff, Nat.reduceMul, Nat.reduceBEq, Int.reduceBEq, Int.reduceBNe, Int.reduceLT, Int.reduceLE, Int.reduceGT, Int.reduceGE, Int.reduceToNat]
    exact no (by rw [hz, hB]; rfl) rfl rfl
  | false =>
    have hB' := hB
    simp only [Bool.or_eq_false_iff, Bool.not_eq_false', decide_eq_false_iff_not, beq_eq_false_iff_ne, Bool.or_eq_true, beq_iff_eq] at hB'
    obtain ⟨⟨⟨⟨hk, ho1⟩, ho2⟩, hmk⟩, ht3⟩ := hB'
    have M := mayK_iff.1 hmk
    have c4 := c4 M
    have c8 := c8 M
    have hz' : isO m.other k = lvO m.other k := by rw [hz, hB]; rfl
    have yes : ∀ {γ' c' : Nat} {st : St}, isO m.other k = true → st.F 4 = .sl none 1 (bytesAV (putB (othSq k))) → st.F 5 = .bool true → Q .ret γ' c' st := by
      intro γ' c' st h h4 h5
      rw [← hQ, hw, h]
      exact ⟨trivial, .inl ⟨.tup [.sl none 1 (bytesAV (putB (othSq k))), .bool true], by simp only [resOf, getAll, IRes.get, h4, h5], RepLe.refl _⟩⟩
    have hch : (if kindK k.code = 1 ∨ kindK k.code = 2 then charK k else 0) = charK k := if_pos hk
    rcases (show m.other = 1 ∨ m.other = 2 by omega) with e | e
    · have hl : lvO m.other k = fewO k := by rw [e]; rfl
      have hwr : IntKind.i64.wrap (m.other - 1) = 0 := by rw [e]; rfl
      cases hC : fewO k with
      | false =>
        rw [hC] at c4
        simp +contextual (maxSteps := 1000000) only [hB, hwr, hch, go_sem, reduceCtorEq, ↓reduceIte, Nat.reduceAdd, Nat.reduceEqDiff, Nat.reduceLeDiff, Nat.reduceMul, Nat.reduceBEq, Int.reduceBEq, Int.reduceBNe, Int.reduceLT, Int.reduceLE, Int.reduceGT, Int.reduceGE, Int.reduceToNat]
        (refine CallP.pure (c4) (fun _ => rfl) ?_; simp +contextual (maxSteps := 1000000) only [go_sem, reduceCtorEq, ↓reduceIte, Nat.reduceAdd, Nat.reduceEqDiff, Nat.reduceLeDiff, Nat.reduceMul, Nat.reduceBEq, Int.reduceBEq, Int.reduceBNe, Int.reduceLT, Int.reduceLE, Int.reduceGT, Int.reduceGE, Int.reduceToNat])
        exact no (by rw [hz', hl, hC]) rfl rfl
      | true =>
        rw [hC] at c4
        simp +contextual (maxSteps := 1000000) only [hB, hwr, hch, go_sem, reduceCtorEq, ↓reduceIte, Nat.reduceAdd, Nat.reduceEqDiff, Nat.reduceLeDiff, Nat.reduceMul, Nat.reduceBEq, Int.reduceBEq, Int.reduceBNe, Int.reduceLT, Int.reduceLE, Int.reduceGT, Int.reduceGE, Int.reduceToNat]
        (refine CallP.pure (c4) (fun _ => rfl) ?_; simp +contextual (maxSteps := 1000000) only [go_sem, reduceCtorEq, ↓reduceIte, Nat.reduceAdd, Nat.reduceEqDiff, Nat.reduceLeDiff, Nat.reduceMul, Nat.reduceBEq, Int.reduceBEq, Int.reduceBNe, Int.reduceLT, Int.reduceLE, Int.reduceGT, Int.reduceGE, Int.reduceToNat])
        (refine CallP.pure (c5) (fun _ => rfl) ?_; simp +contextual (maxSteps := 1000000) only [go_sem, reduceCtorEq, ↓reduceIte, Nat.reduceAdd, Nat.reduceEqDiff, Nat.reduceLeDiff, Nat.reduceMul, Nat.reduceBEq, Int.reduceBEq, Int.reduceBNe, Int.reduceLT, Int.reduceLE, Int.reduceGT, Int.reduceGE, Int.reduceToNat])
        (refine CallP.pure (c6) (fun _ => rfl) ?_; simp +contextual (maxSteps := 1000000) only [go_sem, reduceCtorEq, ↓reduceIte, Nat.reduceAdd, Nat.reduceEqDiff, Nat.reduceLeDiff, Nat.reduceMul, Nat.reduceBEq, Int.reduceBEq, Int.reduceBNe, Int.reduceLT, Int.reduceLE, Int.reduceGT, Int.reduceGE, Int.reduceToNat])
        (refine CallP.pure (c7 _) (fun _ => rfl) ?_; simp +contextual (maxSteps := 1000000) only [go_sem, reduceCtorEq, ↓reduceIte, Nat.reduceAdd, Nat.reduceEqDiff, Nat.reduceLeDiff, Nat.reduceMul, Nat.reduceBEq, Int.reduceBEq, Int.reduceBNe, Int.reduceLT, Int.reduceLE, Int.reduceGT, Int.reduceGE, Int.reduceToNat])
        (refine CallP.pure (c8) (fun _ => rfl) ?_; simp +contextual (maxSteps := 1000000) only [go_sem, reduceCtorEq, ↓reduceIte, Nat.reduceAdd, Nat.reduceEqDiff, Nat.reduceLeDiff, Nat.reduceMul, Nat.reduceBEq, Int.reduceBEq, Int.reduceBNe, Int.reduceLT, Int.reduceLE, Int.reduceGT, Int.reduceGE, Int.reduceToNat])
        exact yes (by rw [hz', hl, hC]) rfl rfl
    · have hl : lvO m.other k = allO k := by rw [e]; rfl
      have hwr : IntKind.i64.wrap (m.other - 1) = 1 := by rw [e]; rfl
      cases hC : allO k with
      | false =>
        rw [hC] at c3
        simp +contextual (maxSteps := 1000000) only [hB, hwr, hch, go_sem, reduceCtorEq, ↓reduceIte, Nat.reduceAdd, Nat.reduceEqDiff, Nat.reduceLeDiff, Nat.reduceMul, Nat.reduceBEq, Int.reduceBEq, Int.reduceBNe, Int.reduceLT, Int.reduceLE, Int.reduceGT, Int.reduceGE, Int.reduceToNat]
        (refine CallP.pure (c3) (fun _ => rfl) ?_; simp +contextual (maxSteps := 1000000) only [go_sem, reduceCtorEq, ↓reduceIte, Nat.reduceAdd, Nat.reduceEqDiff, Nat.reduceLeDiff, Nat.reduceMul, Nat.reduceBEq, Int.reduceBEq, Int.reduceBNe, Int.reduceLT, Int.reduceLE, Int.reduceGT, Int.reduceGE, Int.reduceToNat])
        exact no (by rw [hz', hl, hC]) rfl rfl
      | true =>
        rw [hC] at c3
        simp +contextual (maxSteps := 1000000) only [hB, hwr, hch, go_sem, reduceCtorEq, ↓reduceIte, Nat.reduceAdd, Nat.reduceEqDiff, Nat.reduceLeDiff, Nat.reduceMul, Nat.reduceBEq, Int.reduceBEq, Int.reduceBNe, Int.reduceLT, Int.reduceLE, Int.reduceGT, Int.reduceGE, Int.reduceToNat]
        (refine CallP.pure (c3) (fun _ => rfl) ?_; simp +contextual (maxSteps := 1000000) only [go_sem, reduceCtorEq, ↓reduceIte, Nat.reduceAdd, Nat.reduceEqDiff, Nat.reduceLeDiff, Nat.reduceMul, Nat.reduceBEq, Int.reduceBEq, Int.reduceBNe, Int.reduceLT, Int.reduceLE, Int.reduceGT, Int.reduceGE, Int.reduceToNat])
        (refine CallP.pure (c5) (fun _ => rfl) ?_; simp +contextual (maxSteps := 1000000) only [go_sem, reduceCtorEq, ↓reduceIte, Nat.reduceAdd, Nat.reduceEqDiff, Nat.reduceLeDiff, Nat.reduceMul, Nat.reduceBEq, Int.reduceBEq, Int.reduceBNe, Int.reduceLT, Int.reduceLE, Int.reduceGT, Int.reduceGE, Int.reduceToNat])
        (refine CallP.pure (c6) (fun _ => rfl) ?_; simp +contextual (maxSteps := 1000000) only [go_sem, reduceCtorEq, ↓reduceIte, Nat.reduceAdd, Nat.reduceEqDiff, Nat.reduceLeDiff, Nat.reduceMul, Nat.reduceBEq, Int.reduceBEq, Int.reduceBNe, Int.reduceLT, Int.reduceLE, Int.reduceGT, Int.reduceGE, Int.reduceToNat])
        (refine CallP.pure (c7 _) (fun _ => rfl) ?_; simp +contextual (maxSteps := 1000000) only [go_sem, reduceCtorEq, ↓reduceIte, Nat.reduceAdd, Nat.reduceEqDiff, Nat.reduceLeDiff, Nat.reduceMul, Nat.reduceBEq, Int.reduceBEq, Int.reduceBNe, Int.reduceLT, Int.reduceLE, Int.reduceGT, Int.reduceGE, Int.reduceToNat])
        (refine CallP.pure (c8) (fun _ => rfl) ?_; simp +contextual (maxSteps := 1000000) only [go_sem, reduceCtorEq, ↓reduceIte, Nat.reduceAdd, Nat.reduceEqDiff, Nat.reduceLeDiff, Nat.reduceMul, Nat.reduceBEq, Int.reduceBEq, Int.reduceBNe, Int.reduceLT, Int.reduceLE, Int.reduceGT, Int.reduceGE, Int.reduceToNat])
        exact yes (by rw [hz', hl, hC]) rfl rfl
end Go.Proofs.YtbepihadhmfklaaGreatDoor

set_option linter.unusedVariables false
set_option linter.unusedSimpArgs false
set_option maxRecDepth 100000
namespace Go.Proofs.YtbepihadhmfklaaGreatDoor
open Go Go.Ab
def ir_boardClears : ICode :=
 (.seq
 (.reg [⟨some 2, none, .mov (.c (.bool false))⟩] (some [0]))
 (.seq
 (.reg [⟨some 3, none, .mov (.t 0)⟩,
 ⟨some 4, none, .mm false (.t 3) (.c (.int .i64 0))⟩,
 ⟨some 5, none, .bin .and .none (.t 4) (.c (.int .i64 9))⟩,
 ⟨some 6, none, .bin .neq .none (.t 5) (.c (.int .i64 0))⟩,
 ⟨some 2, none, .mov (.t 6)⟩] (some [2]))
 .ret))
theorem is_boardClears : IrOf Tryz.prog 15 7 ir_boardClears [.t 2] := ⟨_, Tryz.func15, rfl, by kernel_rfl, by kernel_rfl, by kernel_rfl⟩

def ir_boardKey1 : ICode :=
 (.seq
 (.reg [⟨some 2, none, .mov (.c .nils)⟩] (some [0, 1]))
 (.seq
 (.reg [⟨some 3, none, .ld none (.t 0)⟩,
 ⟨some 4, none, .ld (some 6) (.t 1)⟩,
 ⟨some 5, none, .call (.c (.fn (.func 28) [] [])) [(.t 3), (.t 4)]⟩,
 ⟨some 2, none, .mov (.t 5)⟩] (some [2]))
 .ret))
theorem is_boardKey1 : IrOf Tryz.prog 27 6 ir_boardKey1 [.t 2] := ⟨_, Tryz.func27, rfl, by kernel_rfl, by kernel_rfl, by kernel_rfl⟩

def ir_boardKey2 : ICode :=
 (.seq
 (.reg [⟨some 2, none, .mov (.c .nils)⟩] (some [0, 1]))
 (.seq
 (.seq
 (.reg [⟨some 6, none, .ld (some 10) (.t 0)⟩,
 ⟨some 7, none, .ld (some 6) (.t 1)⟩,
 ⟨some 8, none, .call (.c (.fn (.func 20) [] [])) [(.t 6), (.t 7)]⟩,
 ⟨some 5, none, .mov (.t 8)⟩,
 ⟨some 9, none, .ext (.t 5) 0⟩,
 ⟨some 10, none, .ext (.t 5) 1⟩,
 ⟨some 3, none, .mov (.t 9)⟩,
 ⟨some 4, none, .mov (.t 10)⟩] (some [0, 1, 3, 4]))
 (.seq
 (.reg [⟨some 11, none, .mov (.t 4)⟩] (some [0, 1, 3, 11]))
 (.cond (.t 11)
 (.seq
 (.reg [⟨some 12, none, .mov (.t 3)⟩,
 ⟨some 2, none, .mov (.t 12)⟩] (some [2]))
 .ret)
 .skip)))
 (.seq
 (.reg [⟨some 13, none, .ld (some 10) (.t 0)⟩,
 ⟨some 14, none, .ld (some 6) (.t 1)⟩,
 ⟨some 15, none, .call (.c (.fn (.func 30) [] [])) [(.t 13), (.t 14)]⟩,
 ⟨some 2, none, .mov (.t 15)⟩] (some [2]))
 .ret)))
theorem is_boardKey2 : IrOf Tryz.prog 29 16 ir_boardKey2 [.t 2] := ⟨_, Tryz.func29, rfl, by kernel_rfl, by kernel_rfl, by kernel_rfl⟩

def ir_boardKey : ICode :=
 (.seq
 (.reg [⟨some 3, none, .box 23 (.t 0)⟩,
 ⟨some 4, none, .box 3 (.t 1)⟩,
 ⟨some 5, none, .box 25 (.t 2)⟩,
 ⟨some 6, none, .mov (.c .nils)⟩] (some [3, 4, 5]))
 (.seq
 (.seq
 (.reg [⟨some 8, none, .fa 5 (.t 3)⟩,
 ⟨some 9, none, .ld none (.t 8)⟩] (some [3, 4, 5, 9]))
 (.cond (.t 9)
 (.seq
 (.reg [⟨some 6, none, .mov (.c .nils)⟩] (some [6]))
 .ret)
 .skip))
 (.seq
 (.reg [⟨some 10, none, .mkm⟩,
 ⟨some 11, none, .mkf (.func 27) [] [(.t 4), (.t 5)]⟩,
 ⟨none, none, .ins .bool (.t 10) (.c (.bool true)) (.t 11)⟩,
 ⟨some 12, none, .mkf (.func 29) [] [(.t 3), (.t 5)]⟩,
 ⟨none, none, .ins .bool (.t 10) (.c (.bool false)) (.t 12)⟩,
 ⟨some 13, none, .mov (.t 10)⟩,
 ⟨some 7, none, .mov (.t 13)⟩] (some [4, 7]))
 (.seq
 (.reg [⟨some 14, none, .mov (.t 7)⟩,
 ⟨some 15, none, .ld none (.t 4)⟩,
 ⟨some 16, none, .call (.c (.fn (.func 15) [] [])) [(.t 15)]⟩,
 ⟨some 17, none, .lkp .bool .nilf false (.t 14) (.t 16)⟩,
 ⟨some 18, none, .call (.t 17) []⟩,
 ⟨some 6, none, .mov (.t 18)⟩] (some [6]))
 .ret))))
theorem is_boardKey : IrOf Tryz.prog 13 19 ir_boardKey [.t 6] := ⟨_, Tryz.func13, rfl, by kernel_rfl, by kernel_rfl, by kernel_rfl⟩


theorem fe_bool {a b : Bool} {v : AV} {es : List (AV × AV)} : findE .bool (.bool a) ((.bool b, v) :: es) = if (a == b) = true then some (some v) else findE .bool (.bool a) es := by
  simp only [findE, keyEq, if_true]
  cases (a == b) <;> rfl
theorem isKey_bool {a : Bool} : (isKey .bool (.bool a) = true) = True := by simp [isKey]
theorem CallP.peek {P : Program} {Gl : Gh → Prop} {k : FuncId} {args : List AV} {H H0 : Hp} {T : Tk} {f : Nat → Nm} {K : AV → Hp → Tk → Prop} {r : AV} (h : FS P Gl k args H0 [] r H0 []) (hr : ∀ f, Ab.rn f r = r) (hH : ∀ p ∈ H0, p ∈ H) (hK : ∀ H', K r H' T) : CallP P Gl k args H T f K := by
  refine ⟨H0, [], _, h, hH, by simp, ?_⟩
  rintro r' H1 T1 ⟨rfl, rfl, rfl⟩
  refine ⟨_, T, fun p hp => hp, fun s hs => .inr ⟨hs, by simp⟩, ?_⟩
  rw [hr]
  exact hK _
theorem and9 {m : Int} (hm : m ≤ 9223372036854775807) : (bits .and .i64 (max m 0) 9 != 0) = clearsK m := by
  obtain ⟨n, hn⟩ := Int.eq_ofNat_of_zero_le (show 0 ≤ max m 0 by omega)
  unfold clearsK hasK
  have h : n &&& 9 = n % 2 + n / 8 % 2 * 8 := by
    have e : n &&& 9 = (n % 16) &&& 9 := by rw [show (16 : Nat) = 2 ^ 4 from rfl, ← Nat.and_two_pow_sub_one_eq_mod, Nat.and_assoc]; rfl
    have key : ∀ i : Fin 16, i.val &&& 9 = i.val % 2 + i.val / 8 % 2 * 8 := by decide
    have := key ⟨n % 16, Nat.mod_lt _ (by omega)⟩
    simp only at this
    rw [e, this]
    omega
  rw [hn, show (9 : Int) = ((9 : Nat) : Int) from rfl, and_i64 (by omega) (by omega), h, Bool.eq_iff_iff]
  simp only [bne_iff_ne, Bool.or_eq_true, decide_eq_true_eq]
  omega
theorem fs_bClears {Gl : Gh → Prop} (hst : Stays Gl) {fl : Int} (h : fl ≤ 9223372036854775807) : FS Tryz.prog Gl 15 [.int .i64 fl] [] [] (.bool (clearsK fl)) [] [] := by
  refine FS.of hm hst is_boardClears (by simp) fun γ hγ hfr => ?_
  have hq := and9 h
  (generalize hQ : (fun (ex : Ex) (_ _ : Nat) (s : St) => _) = Q; unfold ir_boardClears)
  simp +contextual (maxSteps := 1000000) only [maxE, hq, go_sem, reduceCtorEq, ↓reduceIte, Nat.reduceAdd, Nat.reduceEqDiff]
  rw [← hQ]
  exact ⟨trivial, Ret.flat rfl rfl⟩
theorem rdAB {a b : Nm} {xs ys : List AV} (ha : 1 ≤ a.1) (hb : 1 ≤ b.1) (hx : ∀ f, rnL f xs = xs) (hy : ∀ f, rnL f ys = ys) (ox : AV.okInL 0 [a, b] [] xs) (oy : AV.okInL 0 [a, b] [] ys) : Rd [(a, .cells xs), (b, .cells ys)] := by
  have h : ¬(a.1 = 0 ∧ a.2.1 = 0) := fun h => by omega
  have h2 : ¬(b.1 = 0 ∧ b.2.1 = 0) := fun h => by omega
  refine ⟨fun f => ?_, fun p hp => ?_⟩
  · simp [rnH, rnN, rnHB, hx, hy, h, h2]
  · simp only [List.mem_cons, List.not_mem_nil, or_false] at hp
    rcases hp with rfl | rfl
    · exact ⟨by simp [nmOK, h], ox⟩
    · exact ⟨by simp [nmOK, h2], oy⟩
theorem fs_bKey1 {Gl : Gh → Prop} (hst : Stays Gl) {k : Ky} {fl : Int} {a b : Nm} (ha : 1 ≤ a.1) (hb : 1 ≤ b.1) (hab : a ≠ b) (hfl : fl ≤ 9223372036854775807) (ht : k.text.length ≤ 1000000000000) : FS Tryz.prog Gl 27 [.ptr a 0, .ptr b 0] [(a, .cells [.int .i64 fl]), (b, .cells (kyAV k))] [] (.sl none 1 (bytesAV (keyK fl k))) [(a, .cells [.int .i64 fl]), (b, .cells (kyAV k))] [] := by
  refine FS.of hm hst is_boardKey1 (by simp) fun γ hγ hfr => ?_
  have hky : kyAV k = [.int .i64 k.code, .int .i64 k.mods, .int .i64 k.type, .int .i64 k.shifted, .int .i64 k.base, .str k.text] := rfl
  have c1 := fs_Key (Gl := Gl) hst (k := k) hfl ht
  have hne : (a = b) = False := eq_false hab
  have hne' : (b = a) = False := eq_false fun e => hab e.symm
  have hrd : Rd [(a, .cells [.int .i64 fl]), (b, .cells (kyAV k))] := rdAB ha hb (fun _ => rfl) (fun _ => rfl) ⟨trivial, trivial⟩ ⟨trivial, trivial, trivial, trivial, trivial, trivial, trivial⟩
  rw [hky] at c1
  (generalize hQ : (fun (ex : Ex) (_ _ : Nat) (s : St) => _) = Q; unfold ir_boardKey1)
  simp +contextual (maxSteps := 1000000) only [hky, hne, hne', go_sem, reduceCtorEq, ↓reduceIte, Nat.reduceAdd, Nat.reduceEqDiff]
  (refine CallP.pure (c1) (fun _ => rfl) ?_; simp +contextual (maxSteps := 1000000) only [go_sem, reduceCtorEq, ↓reduceIte, Nat.reduceAdd, Nat.reduceEqDiff])
  rw [← hQ]
  exact ⟨trivial, Ret.reads hrd rfl rfl (by simp [hky])⟩
theorem fs_bKey2 {Gl : Gh → Prop} (hst : Stays Gl) {m : Md} {k : Ky} {a b : Nm} (ha : 1 ≤ a.1) (hb : 1 ≤ b.1) (hab : a ≠ b) (hmm : k.mods ≤ 9223372036854775807) (ht : k.text.length ≤ 1000000000000) : FS Tryz.prog Gl 29 [.ptr a 0, .ptr b 0] [(a, .cells (mdAV m)), (b, .cells (kyAV k))] [] (.sl none 1 (bytesAV (if isO m.other k = true then putB (othSq k) else legK m k))) [(a, .cells (mdAV m)), (b, .cells (kyAV k))] [] := by
  refine FS.of hm hst is_boardKey2 (by simp) fun γ hγ hfr => ?_
  have hky : kyAV k = [.int .i64 k.code, .int .i64 k.mods, .int .i64 k.type, .int .i64 k.shifted, .int .i64 k.base, .str k.text] := rfl
  have hmd : mdAV m = [.bool m.cursor, .bool m.keypad, .bool m.back, .bool m.focus, .bool m.paste, .bool m.lock, .bool m.line, .int .i64 m.mouse, .int .i64 m.coding, .int .i64 m.other] := rfl
  have c1 := fs_oKey (Gl := Gl) hst (m := m) (k := k) hmm ht
  have c2 := fs_legKey (Gl := Gl) hst (m := m) (k := k) ht
  have hne : (a = b) = False := eq_false hab
  have hne' : (b = a) = False := eq_false fun e => hab e.symm
  have hrd : Rd [(a, .cells (mdAV m)), (b, .cells (kyAV k))] := rdAB ha hb (fun _ => rfl) (fun _ => rfl) ⟨trivial, trivial, trivial, trivial, trivial, trivial, trivial, trivial, trivial, trivial, trivial⟩ ⟨trivial, trivial, trivial, trivial, trivial, trivial, trivial⟩
  have hw : othK m.other k = if isO m.other k = true then putB (othSq k) else [] := rfl
  rw [hky, hmd] at c1 c2
  (generalize hQ : (fun (ex : Ex) (_ _ : Nat) (s : St) => _) = Q; unfold ir_boardKey2)
  simp +contextual (maxSteps := 1000000) only [hky, hmd, hne, hne', go_sem, reduceCtorEq, ↓reduceIte, Nat.reduceAdd, Nat.reduceEqDiff]
  (refine CallP.pure (c1) (fun _ => rfl) ?_; simp +contextual (maxSteps := 1000000) only [go_sem, reduceCtorEq, ↓reduceIte, Nat.reduceAdd, Nat.reduceEqDiff])
  cases hO : isO m.other k with
  | true =>
    rw [hO, if_pos rfl] at hw
    simp +contextual (maxSteps := 1000000) only [hO, go_sem, reduceCtorEq, ↓reduceIte, Nat.reduceAdd, Nat.reduceEqDiff]
    rw [← hQ, hw, hO, if_pos rfl]
    exact ⟨trivial, Ret.reads hrd rfl rfl (by simp [hky, hmd])⟩
  | false =>
    simp +contextual (maxSteps := 1000000) only [hO, hne, hne', go_sem, reduceCtorEq, ↓reduceIte, Nat.reduceAdd, Nat.reduceEqDiff]
    (refine CallP.pure (c2) (fun _ => rfl) ?_; simp +contextual (maxSteps := 1000000) only [go_sem, reduceCtorEq, ↓reduceIte, Nat.reduceAdd, Nat.reduceEqDiff])
    rw [← hQ, hO, if_neg (by simp)]
    exact ⟨trivial, Ret.reads hrd rfl rfl (by simp [hky, hmd])⟩
set_option maxHeartbeats 4000000 in
theorem fs_bKey {Gl : Gh → Prop} (hst : Stays Gl) {m : Md} {k : Ky} {fl : Int} (hfl : fl ≤ 9223372036854775807) (hmm : k.mods ≤ 9223372036854775807) (ht : k.text.length ≤ 1000000000000) : FS Tryz.prog Gl 13 [.agg (mdAV m), .int .i64 fl, .agg (kyAV k)] [] [] (.sl none 1 (bytesAV (boardK m fl k))) [] [] := by
  refine FS.ofW hm hst is_boardKey rfl (by simp) fun γ hγ hfr => ?_
  have hky : kyAV k = [.int .i64 k.code, .int .i64 k.mods, .int .i64 k.type, .int .i64 k.shifted, .int .i64 k.base, .str k.text] := rfl
  have hmd : mdAV m = [.bool m.cursor, .bool m.keypad, .bool m.back, .bool m.focus, .bool m.paste, .bool m.lock, .bool m.line, .int .i64 m.mouse, .int .i64 m.coding, .int .i64 m.other] := rfl
  have hz : boardK m fl k = if m.lock = true then [] else if clearsK fl = true then keyK fl k else if isO m.other k = true then putB (othSq k) else legK m k := rfl
  have c1 := fs_bClears (Gl := Gl) hst hfl
  have c2 := fs_bKey1 (Gl := Gl) hst (k := k) (fl := fl) (a := (γ, 1, 0)) (b := (γ, 2, 0)) hγ hγ (by simp) hfl ht
  have c3 := fs_bKey2 (Gl := Gl) hst (m := m) (k := k) (a := (γ, 0, 0)) (b := (γ, 2, 0)) hγ hγ (by simp) hmm ht
  rw [hky] at c2 c3
  rw [hmd] at c3
  simp only [hky, hmd]
  (generalize hQ : (fun (ex : Ex) (_ _ : Nat) (s : St) => _) = Q; unfold ir_boardKey)
  simp +contextual (maxSteps := 1000000) only [go_sem, reduceCtorEq, ↓reduceIte, Nat.reduceAdd, Nat.reduceEqDiff]
  cases hl : m.lock with
  | true =>
    simp +contextual (maxSteps := 1000000) only [hl, go_sem, reduceCtorEq, ↓reduceIte, Nat.reduceAdd, Nat.reduceEqDiff]
    rw [← hQ, hz, hl]
    exact ⟨trivial, .inl ⟨_, rfl, RepLe.nils 1⟩⟩
  | false =>
    rw [hl] at c3
    cases hC : clearsK fl with
    | true =>
      rw [hC] at c1
      simp +contextual (maxSteps := 1000000) only [hl, fe_nil, fe_bool, isKey_bool, go_sem, reduceCtorEq, ↓reduceIte, Nat.reduceAdd, Nat.reduceEqDiff]
      (refine CallP.pure (c1) (fun _ => rfl) ?_; simp +contextual (maxSteps := 1000000) only [fe_nil, fe_bool, isKey_bool, go_sem, reduceCtorEq, ↓reduceIte, Nat.reduceAdd, Nat.reduceEqDiff])
      refine CallP.peek c2 (fun _ => rfl) (by simp) fun H' => ?_
      simp +contextual (maxSteps := 1000000) only [go_sem, reduceCtorEq, ↓reduceIte, Nat.reduceAdd, Nat.reduceEqDiff]
      rw [← hQ, hz, hl, hC]
      exact ⟨trivial, .inl ⟨_, rfl, RepLe.refl _⟩⟩
    | false =>
      rw [hC] at c1
      simp +contextual (maxSteps := 1000000) only [hl, fe_nil, fe_bool, isKey_bool, go_sem, reduceCtorEq, ↓reduceIte, Nat.reduceAdd, Nat.reduceEqDiff]
      (refine CallP.pure (c1) (fun _ => rfl) ?_; simp +contextual (maxSteps := 1000000) only [fe_nil, fe_bool, isKey_bool, go_sem, reduceCtorEq, ↓reduceIte, Nat.reduceAdd, Nat.reduceEqDiff])
      refine CallP.peek c3 (fun _ => rfl) (by simp) fun H' => ?_
      simp +contextual (maxSteps := 1000000) only [go_sem, reduceCtorEq, ↓reduceIte, Nat.reduceAdd, Nat.reduceEqDiff]
      rw [← hQ, hz, hl, hC]
      exact ⟨trivial, .inl ⟨_, rfl, RepLe.refl _⟩⟩
end Go.Proofs.YtbepihadhmfklaaGreatDoor

set_option linter.unusedVariables false
set_option linter.unusedSimpArgs false
set_option maxRecDepth 100000
namespace Go.Proofs.YtbepihadhmfklaaGreatDoor
open Go Go.Ab
def ir_clavierlaw14awake : ICode :=
 (.seq
 (.reg [⟨some 0, none, .mov (.c (.bool false))⟩] (some []))
 (.seq
 (.reg [⟨some 2, none, .bld [(.int .i64 0), (.int .i64 0), (.int .i64 0), (.int .i64 0), (.int .i64 0), (.str [])] [(0, 1, (.c (.int .i64 99))), (1, 1, (.c (.int .i64 4))), (2, 1, (.c (.int .i64 1)))]⟩,
 ⟨some 1, none, .box 25 (.c (.agg [(.int .i64 0), (.int .i64 0), (.int .i64 0), (.int .i64 0), (.int .i64 0), (.str [])]))⟩,
 ⟨none, none, .st 6 (.t 1) (.t 2)⟩] (some [1]))
 (.seq
 (.reg [⟨some 3, none, .bld [(.bool false), (.bool false), (.bool false), (.bool false), (.bool false), (.bool false), (.bool false), (.int .i64 0), (.int .i64 0), (.int .i64 0)] []⟩,
 ⟨some 4, none, .ld (some 6) (.t 1)⟩,
 ⟨some 5, none, .call (.c (.fn (.func 13) [] [])) [(.t 3), (.c (.int .i64 0)), (.t 4)]⟩,
 ⟨some 6, none, .b2s (.t 5)⟩,
 ⟨some 7, none, .bin .eql .none (.t 6) (.c (.str [3]))⟩,
 ⟨some 8, none, .mov (.t 7)⟩,
 ⟨some 9, some (8, true), .bld [(.bool false), (.bool false), (.bool false), (.bool false), (.bool false), (.bool false), (.bool false), (.int .i64 0), (.int .i64 0), (.int .i64 0)] [(9, 1, (.c (.int .i64 2)))]⟩,
 ⟨some 10, some (8, true), .ld (some 6) (.t 1)⟩,
 ⟨some 11, some (8, true), .call (.c (.fn (.func 13) [] [])) [(.t 9), (.c (.int .i64 0)), (.t 10)]⟩,
 ⟨some 12, some (8, true), .b2s (.t 11)⟩,
 ⟨some 13, some (8, true), .bin .eql .none (.t 12) (.c (.str [27, 91, 50, 55, 59, 53, 59, 57, 57, 126]))⟩,
 ⟨some 14, none, .pick (.t 8) (.t 13) (.c (.bool false))⟩,
 ⟨some 15, none, .mov (.t 14)⟩,
 ⟨some 16, some (15, true), .bld [(.bool false), (.bool false), (.bool false), (.bool false), (.bool false), (.bool false), (.bool false), (.int .i64 0), (.int .i64 0), (.int .i64 0)] [(9, 1, (.c (.int .i64 2)))]⟩,
 ⟨some 17, some (15, true), .ld (some 6) (.t 1)⟩,
 ⟨some 18, some (15, true), .call (.c (.fn (.func 13) [] [])) [(.t 16), (.c (.int .i64 1)), (.t 17)]⟩,
 ⟨some 19, some (15, true), .b2s (.t 18)⟩,
 ⟨some 20, some (15, true), .bin .eql .none (.t 19) (.c (.str [27, 91, 57, 57, 59, 53, 117]))⟩,
 ⟨some 21, none, .pick (.t 15) (.t 20) (.c (.bool false))⟩,
 ⟨some 22, none, .mov (.t 21)⟩,
 ⟨some 23, some (22, true), .bld [(.bool false), (.bool false), (.bool false), (.bool false), (.bool false), (.bool false), (.bool false), (.int .i64 0), (.int .i64 0), (.int .i64 0)] [(5, 1, (.c (.bool true)))]⟩,
 ⟨some 24, some (22, true), .ld (some 6) (.t 1)⟩,
 ⟨some 25, some (22, true), .call (.c (.fn (.func 13) [] [])) [(.t 23), (.c (.int .i64 1)), (.t 24)]⟩,
 ⟨some 26, some (22, true), .len (.t 25)⟩,
 ⟨some 27, some (22, true), .bin .eql .none (.t 26) (.c (.int .i64 0))⟩,
 ⟨some 28, none, .pick (.t 22) (.t 27) (.c (.bool false))⟩,
 ⟨some 29, none, .mov (.t 28)⟩,
 ⟨some 30, some (29, true), .call (.c (.fn (.func 15) [] [])) [(.c (.int .i64 9))]⟩,
 ⟨some 31, none, .pick (.t 29) (.t 30) (.c (.bool false))⟩,
 ⟨some 32, none, .mov (.t 31)⟩,
 ⟨some 33, some (32, true), .call (.c (.fn (.func 15) [] [])) [(.c (.int .i64 6))]⟩,
 ⟨some 34, some (32, true), .un .not (.t 33)⟩,
 ⟨some 35, none, .pick (.t 32) (.t 34) (.c (.bool false))⟩,
 ⟨some 0, none, .mov (.t 35)⟩] (some [0]))
 .ret)))
theorem is_clavierlaw14awake : IrOf Tryz.prog 12 36 ir_clavierlaw14awake [.t 0] := ⟨_, Tryz.func12, rfl, by kernel_rfl, by kernel_rfl, by kernel_rfl⟩

def ir_clavierlaw14BoardTypes : ICode :=
 (.seq
 (.reg [⟨some 3, none, .box 23 (.t 0)⟩,
 ⟨some 5, none, .box 25 (.t 2)⟩,
 ⟨some 6, none, .mov (.c (.bool false))⟩] (some [1, 3, 5]))
 (.seq
 (.reg [⟨some 11, none, .call (.c (.fn (.func 12) [] [])) []⟩,
 ⟨some 7, none, .mov (.t 11)⟩] (some [1, 3, 5, 7]))
 (.seq
 (.seq
 (.reg [⟨some 12, none, .ld (some 6) (.t 5)⟩,
 ⟨some 13, none, .call (.c (.fn (.func 17) [] [])) [(.t 12)]⟩,
 ⟨some 14, none, .un .not (.t 13)⟩] (some [1, 3, 5, 7, 14]))
 (.cond (.t 14)
 (.seq
 (.reg [⟨some 15, none, .mov (.t 7)⟩,
 ⟨some 6, none, .mov (.t 15)⟩] (some [6]))
 .ret)
 .skip))
 (.seq
 (.reg [⟨some 16, none, .mov (.t 1)⟩,
 ⟨some 17, none, .bin .rem .none (.t 16) (.c (.int .u8 32))⟩,
 ⟨some 18, none, .cvi .i64 (.t 17)⟩,
 ⟨some 19, none, .mov (.t 1)⟩,
 ⟨some 20, none, .bin .rem .none (.t 19) (.c (.int .u8 4))⟩,
 ⟨some 21, none, .bin .quo .none (.t 20) (.c (.int .u8 2))⟩,
 ⟨some 22, none, .bin .mul .none (.t 21) (.c (.int .u8 2))⟩,
 ⟨some 23, none, .cvi .i64 (.t 22)⟩,
 ⟨some 24, none, .bin .sub .none (.t 18) (.t 23)⟩,
 ⟨some 8, none, .mov (.t 24)⟩] (some [3, 5, 7, 8]))
 (.seq
 (.reg [⟨some 25, none, .fa 2 (.t 5)⟩,
 ⟨none, none, .st 1 (.t 25) (.c (.int .i64 1))⟩] (some [3, 5, 7, 8]))
 (.seq
 (.reg [⟨some 26, none, .ld (some 10) (.t 3)⟩,
 ⟨some 27, none, .mov (.t 8)⟩,
 ⟨some 28, none, .ld (some 6) (.t 5)⟩,
 ⟨some 29, none, .call (.c (.fn (.func 13) [] [])) [(.t 26), (.t 27), (.t 28)]⟩,
 ⟨some 9, none, .mov (.t 29)⟩] (some [3, 5, 7, 8, 9]))
 (.seq
 (.reg [⟨some 30, none, .fa 2 (.t 5)⟩,
 ⟨none, none, .st 1 (.t 30) (.c (.int .i64 2))⟩] (some [3, 5, 7, 8, 9]))
 (.seq
 (.reg [⟨some 31, none, .ld (some 10) (.t 3)⟩,
 ⟨some 32, none, .mov (.t 8)⟩,
 ⟨some 33, none, .ld (some 6) (.t 5)⟩,
 ⟨some 34, none, .call (.c (.fn (.func 13) [] [])) [(.t 31), (.t 32), (.t 33)]⟩,
 ⟨some 10, none, .mov (.t 34)⟩] (some [3, 5, 7, 8, 9, 10]))
 (.seq
 (.reg [⟨some 35, none, .fa 2 (.t 5)⟩,
 ⟨none, none, .st 1 (.t 35) (.c (.int .i64 3))⟩] (some [3, 5, 7, 8, 9, 10]))
 (.seq
 (.reg [⟨some 36, none, .mov (.t 7)⟩,
 ⟨some 37, none, .mov (.t 36)⟩,
 ⟨some 38, some (37, true), .mov (.t 9)⟩,
 ⟨some 39, some (37, true), .b2s (.t 38)⟩,
 ⟨some 40, some (37, true), .mov (.t 10)⟩,
 ⟨some 41, some (37, true), .b2s (.t 40)⟩,
 ⟨some 42, some (37, true), .bin .eql .none (.t 39) (.t 41)⟩,
 ⟨some 43, none, .pick (.t 37) (.t 42) (.c (.bool false))⟩,
 ⟨some 44, none, .mov (.t 43)⟩,
 ⟨some 45, some (44, true), .ld (some 10) (.t 3)⟩,
 ⟨some 46, some (44, true), .mov (.t 8)⟩,
 ⟨some 47, some (44, true), .ld (some 6) (.t 5)⟩,
 ⟨some 48, some (44, true), .call (.c (.fn (.func 13) [] [])) [(.t 45), (.t 46), (.t 47)]⟩,
 ⟨some 49, some (44, true), .len (.t 48)⟩,
 ⟨some 50, some (44, true), .bin .eql .none (.t 49) (.c (.int .i64 0))⟩,
 ⟨some 51, none, .pick (.t 44) (.t 50) (.c (.bool false))⟩,
 ⟨some 6, none, .mov (.t 51)⟩] (some [6]))
 .ret))))))))))
theorem is_clavierlaw14BoardTypes : IrOf Tryz.prog 6 52 ir_clavierlaw14BoardTypes [.t 6] := ⟨_, Tryz.func6, rfl, by kernel_rfl, by kernel_rfl, by kernel_rfl⟩


def MdB : Md := ⟨false, false, false, false, false, false, false, 0, 0, 0⟩
theorem brd_a : boardK MdB 0 ⟨99, 4, 1, 0, 0, []⟩ = [3] := by decide +kernel
theorem brd_b : boardK { MdB with other := 2 } 0 ⟨99, 4, 1, 0, 0, []⟩ = [27, 91, 50, 55, 59, 53, 59, 57, 57, 126] := by decide +kernel
theorem brd_c : boardK { MdB with other := 2 } 1 ⟨99, 4, 1, 0, 0, []⟩ = [27, 91, 57, 57, 59, 53, 117] := by decide +kernel
theorem brd_d : boardK { MdB with lock := true } 1 ⟨99, 4, 1, 0, 0, []⟩ = [] := by decide +kernel
theorem fs_awake14 {Gl : Gh → Prop} (hst : Stays Gl) : FS Tryz.prog Gl 12 [] [] [] (.bool true) [] [] := by
  refine FS.of hm hst is_clavierlaw14awake (by simp) fun γ hγ hfr => ?_
  have c1 := fs_bKey (Gl := Gl) hst (m := MdB) (fl := 0) (k := ⟨99, 4, 1, 0, 0, []⟩) (by simp) (by simp) (by simp)
  have c2 := fs_bKey (Gl := Gl) hst (m := { MdB with other := 2 }) (fl := 0) (k := ⟨99, 4, 1, 0, 0, []⟩) (by simp) (by simp) (by simp)
  have c3 := fs_bKey (Gl := Gl) hst (m := { MdB with other := 2 }) (fl := 1) (k := ⟨99, 4, 1, 0, 0, []⟩) (by simp) (by simp) (by simp)
  have c4 := fs_bKey (Gl := Gl) hst (m := { MdB with lock := true }) (fl := 1) (k := ⟨99, 4, 1, 0, 0, []⟩) (by simp) (by simp) (by simp)
  have c5 := fs_bClears (Gl := Gl) hst (fl := 9) (by simp)
  have c6 := fs_bClears (Gl := Gl) hst (fl := 6) (by simp)
  rw [show clearsK 9 = true by decide] at c5
  rw [show clearsK 6 = false by decide] at c6
  rw [brd_a] at c1
  rw [brd_b] at c2
  rw [brd_c] at c3
  rw [brd_d] at c4
  simp only [kyAV, mdAV, MdB] at c1 c2 c3 c4
  (generalize hQ : (fun (ex : Ex) (_ _ : Nat) (s : St) => _) = Q; unfold ir_clavierlaw14awake)
  simp +contextual (maxSteps := 1000000) only [go_sem, reduceCtorEq, ↓reduceIte, Nat.reduceAdd, Nat.reduceEqDiff, Nat.reduceLeDiff, Nat.reduceMul, Nat.reduceBEq, Int.reduceBEq, Int.reduceBNe, Int.reduceLT, Int.reduceLE, Int.reduceGT, Int.reduceGE, Int.reduceToNat]
  (refine CallP.pure (c1) (fun _ => rfl) ?_; simp +contextual (maxSteps := 1000000) only [bb_un, bb_is, go_sem, reduceCtorEq, ↓reduceIte, Nat.reduceAdd, Nat.reduceEqDiff, Nat.reduceLeDiff, Nat.reduceMul, Nat.reduceBEq, Int.reduceBEq, Int.reduceBNe, Int.reduceLT, Int.reduceLE, Int.reduceGT, Int.reduceGE, Int.reduceToNat])
  (refine CallP.pure (c2) (fun _ => rfl) ?_; simp +contextual (maxSteps := 1000000) only [bb_un, bb_is, go_sem, reduceCtorEq, ↓reduceIte, Nat.reduceAdd, Nat.reduceEqDiff, Nat.reduceLeDiff, Nat.reduceMul, Nat.reduceBEq, Int.reduceBEq, Int.reduceBNe, Int.reduceLT, Int.reduceLE, Int.reduceGT, Int.reduceGE, Int.reduceToNat])
  (refine CallP.pure (c3) (fun _ => rfl) ?_; simp +contextual (maxSteps := 1000000) only [bb_un, bb_is, go_sem, reduceCtorEq, ↓reduceIte, Nat.reduceAdd, Nat.reduceEqDiff, Nat.reduceLeDiff, Nat.reduceMul, Nat.reduceBEq, Int.reduceBEq, Int.reduceBNe, Int.reduceLT, Int.reduceLE, Int.reduceGT, Int.reduceGE, Int.reduceToNat])
  (refine CallP.pure (c4) (fun _ => rfl) ?_; simp +contextual (maxSteps := 1000000) only [bb_un, bb_is, bytesAV_length', go_sem, reduceCtorEq, ↓reduceIte, Nat.reduceAdd, Nat.reduceEqDiff, Nat.reduceLeDiff, Nat.reduceMul, Nat.reduceBEq, Int.reduceBEq, Int.reduceBNe, Int.reduceLT, Int.reduceLE, Int.reduceGT, Int.reduceGE, Int.reduceToNat])
  (refine CallP.pure (c5) (fun _ => rfl) ?_; simp +contextual (maxSteps := 1000000) only [go_sem, reduceCtorEq, ↓reduceIte, Nat.reduceAdd, Nat.reduceEqDiff, Nat.reduceLeDiff, Nat.reduceMul, Nat.reduceBEq, Int.reduceBEq, Int.reduceBNe, Int.reduceLT, Int.reduceLE, Int.reduceGT, Int.reduceGE, Int.reduceToNat])
  (refine CallP.pure (c6) (fun _ => rfl) ?_; simp +contextual (maxSteps := 1000000) only [go_sem, reduceCtorEq, ↓reduceIte, Nat.reduceAdd, Nat.reduceEqDiff, Nat.reduceLeDiff, Nat.reduceMul, Nat.reduceBEq, Int.reduceBEq, Int.reduceBNe, Int.reduceLT, Int.reduceLE, Int.reduceGT, Int.reduceGE, Int.reduceToNat])
  rw [← hQ]
  exact ⟨trivial, Ret.flat rfl rfl⟩
theorem flags_mod : ∀ n : Fin 256, IntKind.i64.wrap (IntKind.i64.wrap (((n.val : Nat) : Int).tmod 32) - IntKind.i64.wrap (IntKind.u8.wrap (IntKind.u8.wrap ((((n.val : Nat) : Int).tmod 4).tdiv 2) * 2))) = ((n.val % 32 : Nat) : Int) - ((n.val % 4 / 2 * 2 : Nat) : Int) := by decide +kernel
set_option maxHeartbeats 4000000 in
theorem fs_BoardTypes {Gl : Gh → Prop} (hst : Stays Gl) {m : Md} {fl : UInt8} {k : Ky} (_ : True) (_ : True) (ht : k.text.length ≤ 1000000000000) : FS Tryz.prog Gl 6 [.agg (mdAV m), .int .u8 (fl.toNat : Int), .agg (kyAV k)] [] [] (.bool true) [] [] := by
  refine FS.of hm hst is_clavierlaw14BoardTypes (by simp) fun γ hγ hfr => ?_
  have hky : kyAV k = [.int .i64 k.code, .int .i64 k.mods, .int .i64 k.type, .int .i64 k.shifted, .int .i64 k.base, .str k.text] := rfl
  have hmd : mdAV m = [.bool m.cursor, .bool m.keypad, .bool m.back, .bool m.focus, .bool m.paste, .bool m.lock, .bool m.line, .int .i64 m.mouse, .int .i64 m.coding, .int .i64 m.other] := rfl
  have c1 := fs_rMayK (Gl := Gl) hst ht
  rw [hky] at c1
  simp only [hky, hmd]
  (generalize hQ : (fun (ex : Ex) (_ _ : Nat) (s : St) => _) = Q; unfold ir_clavierlaw14BoardTypes)
  simp +contextual (maxSteps := 1000000) only [go_sem, reduceCtorEq, ↓reduceIte, Nat.reduceAdd, Nat.reduceEqDiff, Nat.reduceLeDiff, Nat.reduceMul, Nat.reduceBEq, Int.reduceBEq, Int.reduceBNe, Int.reduceLT, Int.reduceLE, Int.reduceGT, Int.reduceGE, Int.reduceToNat]
  (refine CallP.pure (fs_awake14 hst) (fun _ => rfl) ?_; simp +contextual (maxSteps := 1000000) only [go_sem, reduceCtorEq, ↓reduceIte, Nat.reduceAdd, Nat.reduceEqDiff, Nat.reduceLeDiff, Nat.reduceMul, Nat.reduceBEq, Int.reduceBEq, Int.reduceBNe, Int.reduceLT, Int.reduceLE, Int.reduceGT, Int.reduceGE, Int.reduceToNat])
  (refine CallP.pure (c1) (fun _ => rfl) ?_; simp +contextual (maxSteps := 1000000) only [go_sem, reduceCtorEq, ↓reduceIte, Nat.reduceAdd, Nat.reduceEqDiff, Nat.reduceLeDiff, Nat.reduceMul, Nat.reduceBEq, Int.reduceBEq, Int.reduceBNe, Int.reduceLT, Int.reduceLE, Int.reduceGT, Int.reduceGE, Int.reduceToNat])
  cases hmk : mayK k with
  | false =>
    simp +contextual (maxSteps := 1000000) only [hmk, go_sem, reduceCtorEq, ↓reduceIte, Nat.reduceAdd, Nat.reduceEqDiff, Nat.reduceLeDiff, Nat.reduceMul, Nat.reduceBEq, Int.reduceBEq, Int.reduceBNe, Int.reduceLT, Int.reduceLE, Int.reduceGT, Int.reduceGE, Int.reduceToNat]
    rw [← hQ]
    exact ⟨trivial, Ret.flat rfl rfl⟩
  | true =>
    have M := mayK_iff.1 hmk
    have hm1 := M.m1
    have hfl := fl.toNat_lt
    obtain ⟨f, hf⟩ : ∃ f : Int, f = ((fl.toNat % 32 : Nat) : Int) - ((fl.toNat % 4 / 2 * 2 : Nat) : Int) := ⟨_, rfl⟩
    have hmod : IntKind.i64.wrap (IntKind.i64.wrap ((fl.toNat : Int).tmod 32) - IntKind.i64.wrap (IntKind.u8.wrap (IntKind.u8.wrap (((fl.toNat : Int).tmod 4).tdiv 2) * 2))) = f := by
      rw [hf]; exact flags_mod ⟨fl.toNat, hfl⟩
    have hf2 : hasK f 2 = false := by
      unfold hasK
      rw [decide_eq_false_iff_not]; omega
    obtain ⟨e1, e2⟩ := board_types (m := m) (fl := f) M hf2
    have d1 := fs_bKey (Gl := Gl) hst (m := m) (fl := f) (k := { k with type := 1 }) (by omega) (by simp only; omega) ht
    have d2 := fs_bKey (Gl := Gl) hst (m := m) (fl := f) (k := { k with type := 2 }) (by omega) (by simp only; omega) ht
    have d3 := fs_bKey (Gl := Gl) hst (m := m) (fl := f) (k := { k with type := 3 }) (by omega) (by simp only; omega) ht
    rw [← e1, hmd, kyAV] at d2
    rw [hmd, kyAV] at d1
    rw [e2, hmd, kyAV] at d3
    generalize boardK m f { k with type := 1 } = bk at d1 d2
    simp +contextual (maxSteps := 1000000) only [hmk, hmod, go_sem, reduceCtorEq, ↓reduceIte, Nat.reduceAdd, Nat.reduceEqDiff, Nat.reduceLeDiff, Nat.reduceMul, Nat.reduceBEq, Int.reduceBEq, Int.reduceBNe, Int.reduceLT, Int.reduceLE, Int.reduceGT, Int.reduceGE, Int.reduceToNat]
    refine ⟨by omega, by omega, by omega, ?_⟩
    (refine CallP.pure (d1) (fun _ => rfl) ?_; simp +contextual (maxSteps := 1000000) only [hmod, go_sem, reduceCtorEq, ↓reduceIte, Nat.reduceAdd, Nat.reduceEqDiff, Nat.reduceLeDiff, Nat.reduceMul, Nat.reduceBEq, Int.reduceBEq, Int.reduceBNe, Int.reduceLT, Int.reduceLE, Int.reduceGT, Int.reduceGE, Int.reduceToNat])
    (refine CallP.pure (d2) (fun _ => rfl) ?_; simp +contextual (maxSteps := 1000000) only [hmod, bb_un, bb_is, go_sem, reduceCtorEq, ↓reduceIte, Nat.reduceAdd, Nat.reduceEqDiff, Nat.reduceLeDiff, Nat.reduceMul, Nat.reduceBEq, Int.reduceBEq, Int.reduceBNe, Int.reduceLT, Int.reduceLE, Int.reduceGT, Int.reduceGE, Int.reduceToNat])
    (refine CallP.pure (d3) (fun _ => rfl) ?_; simp +contextual (maxSteps := 1000000) only [bb_un, bb_is, bytesAV_length', go_sem, reduceCtorEq, ↓reduceIte, Nat.reduceAdd, Nat.reduceEqDiff, Nat.reduceLeDiff, Nat.reduceMul, Nat.reduceBEq, Int.reduceBEq, Int.reduceBNe, Int.reduceLT, Int.reduceLE, Int.reduceGT, Int.reduceGE, Int.reduceToNat])
    rw [← hQ]
    exact ⟨trivial, Ret.flat rfl rfl⟩
end Go.Proofs.YtbepihadhmfklaaGreatDoor

set_option linter.unusedVariables false
set_option linter.unusedSimpArgs false
set_option maxRecDepth 100000
namespace Go.Proofs.YtbepihadhmfklaaGreatDoor
open Go Go.Ab Go.WideShapes Go.RowKit
theorem seat_own : ownKnob Tryz.prog.godebug = none := by kernel_rfl
theorem seat_laidOut : laidOutB Tryz.prog = true := by kernel_rfl
section
variable {H : Type} {enc : TypeId × Value → H} {W : World} {base : Nat} {v : Value} {d : DataW H} {p : List MemPlace}
theorem u8_of {n : Int} (h1 : IntKind.u8.min ≤ n) (h2 : n ≤ IntKind.u8.max) : ∃ c : UInt8, (c.toNat : Int) = n := by
  have h1' : 0 ≤ n := by simpa [IntKind.min, IntKind.signed] using h1
  have h2' : n ≤ 255 := by simpa [IntKind.max, IntKind.signed, IntKind.bits] using h2
  refine ⟨UInt8.ofNat n.toNat, ?_⟩
  rw [UInt8.toNat_ofNat', Nat.mod_eq_of_lt (by omega)]; omega
theorem op_u8 (hv : Value.okWide Tryz.prog W .any base 5 v) (hd : DataW.Trod enc Tryz.prog W 0 (fun _ => true) true 5 v d p) : ∃ c : UInt8, True ∧ Rep (gh0 W) (.int .u8 (c.toNat : Int)) v := by
  obtain ⟨n, rfl⟩ := okWide_int (P := Tryz.prog) (k := .u8) (by kernel_rfl) hv
  obtain ⟨x, ⟨m, h1, h2, h3⟩, hr⟩ := (TR.int (P := Tryz.prog) (k := .u8) (by kernel_rfl)).arg1 rfl hd
  simp only [List.cons.injEq, and_true] at h1
  subst h1
  obtain ⟨c, rfl⟩ := u8_of h2 h3
  exact ⟨c, trivial, hr⟩
end
end Go.Proofs.YtbepihadhmfklaaGreatDoor

set_option linter.unusedVariables false
set_option maxRecDepth 100000
namespace Go.Proofs.YtbepihadhmfklaaGreatDoor
open Go Go.Ab
theorem fixW_of {W : World} (h : laidMetH Tryz.prog [("math/bits.deBruijn32tab", Rows.laid_math_bits_deBruijn32tab), ("math/bits.deBruijn64tab", Rows.laid_math_bits_deBruijn64tab), ("internal/strconv.uint64pow10", Rows.laid_internal_strconv_uint64pow10)] W) : FixW W := by
  rw [MakeChecks.laidMetH_plain _ _ _ (by kernel_rfl)] at h
  have h2 := laidMet.filter (fun x => x.1 == "internal/strconv.uint64pow10") h
  have h3 : laidMet Tryz.prog [("internal/strconv.uint64pow10", Lib.tabData .u64 Lib.pow10Tab)] W := h2
  have h4 := Lib.tabIs_of_head (g := 3) (t := 184) (e := 175) (n := 20) (by kernel_rfl) (by kernel_rfl) (by kernel_rfl) (by kernel_rfl) (by kernel_rfl) (by kernel_rfl) h3
  intro p hp
  obtain rfl := List.mem_singleton.1 hp
  unfold Lib.TabIs World.var? at h4
  rw [show Program.globalNamed Tryz.prog "internal/strconv.uint64pow10" = some 3 from by kernel_rfl] at h4
  simp only [Option.bind_some] at h4
  split at h4
  · rename_i cs e fr hh
    simp only [Option.some.injEq] at h4
    refine ⟨e, fr, ?_⟩
    rw [hh, h4]
    simp [Lib.pow10Tab]
  · cases h4
end Go.Proofs.YtbepihadhmfklaaGreatDoor

set_option linter.unusedVariables false
set_option linter.unusedSimpArgs false
set_option maxRecDepth 100000
namespace Go.Proofs.YtbepihadhmfklaaGreatDoor
open Go Go.Ab Go.WideShapes Go.RowKit
def zero_apiKey : Value := .agg #[.int .i64 0, .int .i64 0, .int .i64 0, .int .i64 0, .int .i64 0, .string ByteArray.empty]
section
variable {H : Type} {enc : TypeId × Value → H} {W : World} {base : Nat} {v : Value} {d : DataW H} {p : List MemPlace}
theorem key_is : structIs Tryz.prog 25 [(0, 3), (1, 3), (2, 3), (3, 3), (4, 3), (5, 9)] = true := by kernel_rfl
theorem tr_Key : TR enc Tryz.prog W 25 fun xs => ∃ k : Ky, xs = kyAV k ∧ k.text.length ≤ maxLen := by
  refine (TR.structL (Rs := [fun xs => ∃ n, xs = [.int .i64 n] ∧ IntKind.i64.min ≤ n ∧ n ≤ IntKind.i64.max, fun xs => ∃ n, xs = [.int .i64 n] ∧ IntKind.i64.min ≤ n ∧ n ≤ IntKind.i64.max, fun xs => ∃ n, xs = [.int .i64 n] ∧ IntKind.i64.min ≤ n ∧ n ≤ IntKind.i64.max, fun xs => ∃ n, xs = [.int .i64 n] ∧ IntKind.i64.min ≤ n ∧ n ≤ IntKind.i64.max, fun xs => ∃ n, xs = [.int .i64 n] ∧ IntKind.i64.min ≤ n ∧ n ≤ IntKind.i64.max, fun xs => ∃ s, xs = [.str s] ∧ s.length ≤ maxLen]) 6 key_is (by kernel_rfl) ?_).mono ?_
  · exact ⟨rfl, TR.int (by kernel_rfl), 1, by kernel_rfl, rfl, TR.int (by kernel_rfl), 1, by kernel_rfl, rfl, TR.int (by kernel_rfl), 1, by kernel_rfl, rfl, TR.int (by kernel_rfl), 1, by kernel_rfl, rfl, TR.int (by kernel_rfl), 1, by kernel_rfl, rfl, TR.str (by kernel_rfl), 1, by kernel_rfl, rfl⟩
  · rintro xs ⟨_, _, ⟨a, rfl, _⟩, ⟨_, _, ⟨b, rfl, _⟩, ⟨_, _, ⟨c, rfl, _⟩, ⟨_, _, ⟨e, rfl, _⟩, ⟨_, _, ⟨f, rfl, _⟩, ⟨_, _, ⟨t, rfl, ht⟩, h, rfl⟩, rfl⟩, rfl⟩, rfl⟩, rfl⟩, rfl⟩
    have h : _ = [] := h
    subst h
    exact ⟨⟨a, b, c, e, f, t⟩, rfl, ht⟩
theorem part_le {d : DataW H} {l : List (DataW H)} (h : d ∈ l) : Rows.uptoBulk d ≤ Rows.uptoBulkAll l := by
  induction l with
  | nil => cases h
  | cons x r ih =>
    simp only [Rows.uptoBulkAll]
    cases List.mem_cons.1 h with
    | inl e => subst e; omega
    | inr e => have := ih e; omega
theorem bulk_field {t : TypeId} {L : List (Nat × Nat)} {cs : Array Value} {s : ByteArray} {off ty : Nat} (h : structIs Tryz.prog t L = true) (hL : (off, ty) ∈ L) (hty : Tryz.prog.underlying ty = some .string) (hc : Tryz.prog.cellsOf ty = 1)
    (hs : cs.toList[off]? = some (.string s)) (hd : DataW.Trod enc Tryz.prog W 0 (fun _ => true) true t (.agg cs) d p) : s.data.toList.length + 1 ≤ Rows.uptoBulk d := by
  obtain ⟨fuel, hd⟩ := hd
  unfold structIs at h
  split at h
  · rename_i fs hu
    have := of_decide_eq_true h
    subst this
    cases fuel with
    | zero => simp [DataW.trod] at hd
    | succ fuel =>
      unfold DataW.trod at hd
      rw [hu] at hd
      simp only at hd
      split at hd
      · obtain ⟨ys, k1, k2⟩ := Option.map_eq_some_iff.1 hd
        simp only [Prod.mk.injEq] at k2
        obtain ⟨rfl, _⟩ := k2
        obtain ⟨f, hf, he⟩ := List.mem_map.1 hL
        simp only [Prod.mk.injEq] at he
        obtain ⟨rfl, rfl⟩ := he
        obtain ⟨j, hj, hfj⟩ := List.getElem_of_mem hf
        have hl := mapM_some_length k1
        have hg := mapM_some_get k1 j f (by rw [List.getElem?_eq_getElem hj, hfj])
        rw [List.getElem?_eq_getElem (by omega)] at hg
        have hcs : ((Value.agg cs).cells.toList.drop f.offset).take 1 = [.string s] := by
          show (cs.toList.drop f.offset).take 1 = _
          rw [List.getElem?_eq_some_iff] at hs
          obtain ⟨h1, h2⟩ := hs
          rw [List.drop_eq_getElem_cons h1, h2]; rfl
        rw [hc, hcs] at hg
        have hb : s.data.toList.length + 1 ≤ Rows.uptoBulk (ys[j]'(by omega)).1 := by
          cases fuel with
          | zero => simp [DataW.trod] at hg
          | succ fuel =>
            unfold DataW.trod at hg
            rw [hty] at hg
            simp only at hg
            split at hg
            · rw [← Option.some.inj hg]
              simp only [Rows.uptoBulk]
              exact Nat.le_refl _
            · cases hg
        have hm : (ys[j]'(by omega)).1 ∈ ys.map (·.1) := List.mem_map.2 ⟨_, List.getElem_mem _, rfl⟩
        have := part_le hm
        simp only [Rows.uptoBulk]
        omega
      · cases hd
  · cases h
theorem op_apiKeyB (hv : Value.okWide Tryz.prog W .any base 25 v) (hd : DataW.Trod enc Tryz.prog W 0 (fun _ => true) true 25 v d p) : ∃ k : Ky, k.text.length + 1 ≤ Rows.uptoBulk d ∧ Rep (gh0 W) (.agg (kyAV k)) v := by
  obtain ⟨cs, rfl⟩ := okWide_struct key_is hv
  obtain ⟨xs, ⟨k, rfl, h⟩, hr⟩ := tr_Key.argN hd
  refine ⟨k, ?_, hr⟩
  obtain ⟨vs, e, hl⟩ := hr
  obtain rfl : cs = vs := by cases e; rfl
  obtain ⟨x, h5, hx⟩ := RepL.get hl 5 (.str k.text) rfl
  have hx : x = .string ⟨k.text.toArray⟩ := hx
  subst hx
  have := bulk_field key_is (off := 5) (ty := 9) (by decide) (by kernel_rfl) (by kernel_rfl) h5 hd
  simpa using this
end
end Go.Proofs.YtbepihadhmfklaaGreatDoor

set_option linter.unusedVariables false
set_option linter.unusedSimpArgs false
set_option maxRecDepth 100000
namespace Go.Proofs.YtbepihadhmfklaaGreatDoor
open Go Go.Ab Go.WideShapes Go.RowKit
def zero_apiModes : Value := .agg #[.bool false, .bool false, .bool false, .bool false, .bool false, .bool false, .bool false, .int .i64 0, .int .i64 0, .int .i64 0]
section
variable {H : Type} {enc : TypeId × Value → H} {W : World} {base : Nat} {v : Value} {d : DataW H} {p : List MemPlace}
theorem modes_is : structIs Tryz.prog 23 [(0, 4), (1, 4), (2, 4), (3, 4), (4, 4), (5, 4), (6, 4), (7, 3), (8, 3), (9, 3)] = true := by kernel_rfl
theorem tr_Modes : TR enc Tryz.prog W 23 fun xs => ∃ m : Md, xs = mdAV m := by
  refine (TR.structL (Rs := [fun xs => ∃ b, xs = [.bool b], fun xs => ∃ b, xs = [.bool b], fun xs => ∃ b, xs = [.bool b], fun xs => ∃ b, xs = [.bool b], fun xs => ∃ b, xs = [.bool b], fun xs => ∃ b, xs = [.bool b], fun xs => ∃ b, xs = [.bool b], fun xs => ∃ n, xs = [.int .i64 n] ∧ IntKind.i64.min ≤ n ∧ n ≤ IntKind.i64.max, fun xs => ∃ n, xs = [.int .i64 n] ∧ IntKind.i64.min ≤ n ∧ n ≤ IntKind.i64.max, fun xs => ∃ n, xs = [.int .i64 n] ∧ IntKind.i64.min ≤ n ∧ n ≤ IntKind.i64.max]) 10 modes_is (by kernel_rfl) ?_).mono ?_
  · exact ⟨rfl, TR.bool (by kernel_rfl), 1, by kernel_rfl, rfl, TR.bool (by kernel_rfl), 1, by kernel_rfl, rfl, TR.bool (by kernel_rfl), 1, by kernel_rfl, rfl, TR.bool (by kernel_rfl), 1, by kernel_rfl, rfl, TR.bool (by kernel_rfl), 1, by kernel_rfl, rfl, TR.bool (by kernel_rfl), 1, by kernel_rfl, rfl, TR.bool (by kernel_rfl), 1, by kernel_rfl, rfl, TR.int (by kernel_rfl), 1, by kernel_rfl, rfl, TR.int (by kernel_rfl), 1, by kernel_rfl, rfl, TR.int (by kernel_rfl), 1, by kernel_rfl, rfl⟩
  · rintro xs ⟨_, _, ⟨a, rfl⟩, ⟨_, _, ⟨b, rfl⟩, ⟨_, _, ⟨c, rfl⟩, ⟨_, _, ⟨e, rfl⟩, ⟨_, _, ⟨f, rfl⟩, ⟨_, _, ⟨g, rfl⟩, ⟨_, _, ⟨i, rfl⟩, ⟨_, _, ⟨j, rfl, _⟩, ⟨_, _, ⟨k, rfl, _⟩, ⟨_, _, ⟨l, rfl, _⟩, h, rfl⟩, rfl⟩, rfl⟩, rfl⟩, rfl⟩, rfl⟩, rfl⟩, rfl⟩, rfl⟩, rfl⟩
    have h : _ = [] := h
    subst h
    exact ⟨⟨a, b, c, e, f, g, i, j, k, l⟩, rfl⟩
theorem op_apiModes (hv : Value.okWide Tryz.prog W .any base 23 v) (hd : DataW.Trod enc Tryz.prog W 0 (fun _ => true) true 23 v d p) : ∃ m : Md, True ∧ Rep (gh0 W) (.agg (mdAV m)) v := by
  obtain ⟨cs, rfl⟩ := okWide_struct modes_is hv
  obtain ⟨xs, ⟨m, rfl⟩, hr⟩ := tr_Modes.argN hd
  exact ⟨m, trivial, hr⟩
end
end Go.Proofs.YtbepihadhmfklaaGreatDoor

set_option linter.unusedVariables false
set_option linter.unusedSimpArgs false
set_option maxRecDepth 100000
namespace Go.Proofs.YtbepihadhmfklaaGreatDoor
open Go Go.Ab Go.ChangeShapes Go.WideShapes Go.ChangeAt Go.RowKit
theorem boardTypes_lifted (os : Os) (started : os.Started) (H : Type) (enc : TypeId × Value → H) (F : Stop.Interp) :
    ReturnsInHanded {} Tryz.checked os 6 .any ((Rows.OpenSpec.upto Rows.boardTypesSpec).preRow enc Tryz.prog Tryz.f6 Rows.boardTypesUptoRow.domain false Rows.boardTypesUptoRow.laid) (((Rows.OpenSpec.upto Rows.boardTypesSpec).at F).post enc Tryz.prog Tryz.f6 false true false false) := by
  have hw : (DataW.whole enc Tryz.prog ((World.laidAll Tryz.prog os [("math/bits.deBruijn32tab", Rows.laid_math_bits_deBruijn32tab), ("math/bits.deBruijn64tab", Rows.laid_math_bits_deBruijn64tab), ("internal/strconv.uint64pow10", Rows.laid_internal_strconv_uint64pow10)]).forCall (fun _ _ => 0) ⟨#[], #[zero_apiModes, .int .u8 0, zero_apiKey], []⟩).memory Tryz.f6.params.toList (Rows.OpenSpec.upto Rows.boardTypesSpec).vars false (#[zero_apiModes, .int .u8 0, zero_apiKey] : Array Value).toList 8).any (fun x => decide (Rows.uptoBulkAll (x.1 ++ x.2.1) ≤ 1048576)) = true := by kernel_rfl
  cases hx : DataW.whole enc Tryz.prog ((World.laidAll Tryz.prog os [("math/bits.deBruijn32tab", Rows.laid_math_bits_deBruijn32tab), ("math/bits.deBruijn64tab", Rows.laid_math_bits_deBruijn64tab), ("internal/strconv.uint64pow10", Rows.laid_internal_strconv_uint64pow10)]).forCall (fun _ _ => 0) ⟨#[], #[zero_apiModes, .int .u8 0, zero_apiKey], []⟩).memory Tryz.f6.params.toList (Rows.OpenSpec.upto Rows.boardTypesSpec).vars false (#[zero_apiModes, .int .u8 0, zero_apiKey] : Array Value).toList 8 with
  | none => rw [hx] at hw; cases hw
  | some x =>
  rw [hx] at hw
  have hok : Input.okWideB Tryz.checked.prog ((World.laidAll Tryz.prog os [("math/bits.deBruijn32tab", Rows.laid_math_bits_deBruijn32tab), ("math/bits.deBruijn64tab", Rows.laid_math_bits_deBruijn64tab), ("internal/strconv.uint64pow10", Rows.laid_internal_strconv_uint64pow10)]).forCall (fun _ _ => 0) ⟨#[], #[zero_apiModes, .int .u8 0, zero_apiKey], []⟩) 6 ⟨#[], #[zero_apiModes, .int .u8 0, zero_apiKey], []⟩ = true := by kernel_rfl
  refine returnsInHanded_of_row (C := Tryz.checked) (s := (Rows.OpenSpec.upto Rows.boardTypesSpec)) seat_own started (by kernel_rfl) Tryz.func6
    ⟨World.laidAll Tryz.prog os [("math/bits.deBruijn32tab", Rows.laid_math_bits_deBruijn32tab), ("math/bits.deBruijn64tab", Rows.laid_math_bits_deBruijn64tab), ("internal/strconv.uint64pow10", Rows.laid_internal_strconv_uint64pow10)], fun _ _ => 0, ⟨#[], #[zero_apiModes, .int .u8 0, zero_apiKey], []⟩, World.laidAll_os _ _ _, World.shaped_of_ZipB (by kernel_rfl) (by kernel_rfl), (Input.okWide_of_okWideB (base := 0) hok).1, (Input.okWide_of_okWideB hok).2,
      OpenSpec.preRow_of_cond 8 hx (by kernel_rfl) (fun k hk => by cases hk; exact hw) (by kernel_rfl) (by rw [show Rows.boardTypesUptoRow.laid = [("math/bits.deBruijn32tab", Rows.laid_math_bits_deBruijn32tab), ("math/bits.deBruijn64tab", Rows.laid_math_bits_deBruijn64tab), ("internal/strconv.uint64pow10", Rows.laid_internal_strconv_uint64pow10)] from rfl, MakeChecks.laidMetH_plain _ _ _ (by kernel_rfl)]; exact laidMet_laidAll _ (by kernel_rfl) (by kernel_rfl)),
      by simp only [Assume.holds]; exact ⟨by simp, by simp, fun _ => Modest.zero, by simp, by simp⟩⟩ ?_
  intro W base args ds gs before hval0 hW _ hcond hreach hL _ _
  have hbulk : Rows.uptoBulkAll (ds ++ gs) ≤ 1048576 := of_decide_eq_true (hcond _ rfl)
  have hval : ∀ (j : Nat) t v, Tryz.f6.params[j]? = some t → args[j]? = some v → Value.okWide Tryz.prog W .any base t v := hval0
  have hW' := hW
  obtain ⟨p, q, hA0, hV, rfl, _, _⟩ := hW
  have hA : DataW.TrodAll enc Tryz.prog W 0 (fun _ => true) true Tryz.f6.params.toList args.toList ds p := hA0
  rw [Tryz.params6] at hA hval
  obtain ⟨v0, vs0, d0, ds0, p0, q0, hargs, rfl, rfl, h0, r0⟩ := trodAll_cons hA
  obtain ⟨v1, vs1, d1, ds1, p1, q1, rfl, rfl, rfl, h1, r1⟩ := trodAll_cons r0
  obtain ⟨v2, vs2, d2, ds2, p2, q2, rfl, rfl, rfl, h2, r2⟩ := trodAll_cons r1
  obtain ⟨rfl, rfl, rfl⟩ := trodAll_nil r2
  obtain rfl : args = #[v0, v1, v2] := by cases args; simp_all
  obtain ⟨rfl, rfl⟩ := trodVars_none hV
  have lt0 : ∀ x ∈ p0, x.block < W.heap.size := by obtain ⟨m, hm⟩ := h0; exact DataW.trod_lt m _ _ _ hm
  obtain ⟨x0, c0, e0⟩ := op_apiModes (hval 0 23 v0 rfl rfl) h0
  have hb0 : Rows.uptoBulk d0 ≤ 1048576 := Nat.le_trans (part_le (by simp)) hbulk
  have lt1 : ∀ x ∈ p1, x.block < W.heap.size := by obtain ⟨m, hm⟩ := h1; exact DataW.trod_lt m _ _ _ hm
  obtain ⟨x1, c1, e1⟩ := op_u8 (hval 1 5 v1 rfl rfl) h1
  have hb1 : Rows.uptoBulk d1 ≤ 1048576 := Nat.le_trans (part_le (by simp)) hbulk
  have lt2 : ∀ x ∈ p2, x.block < W.heap.size := by obtain ⟨m, hm⟩ := h2; exact DataW.trod_lt m _ _ _ hm
  obtain ⟨x2, c2, e2⟩ := op_apiKeyB (hval 2 25 v2 rfl rfl) h2
  have hb2 : Rows.uptoBulk d2 ≤ 1048576 := Nat.le_trans (part_le (by simp)) hbulk
  clear hA0 hval0
  refine ((fs_BoardTypes (Gl := fun _ => True) (fun _ _ _ _ => trivial) c0 c1 (by omega)).row (fixW_of hL) trivial ⟨_, _, rfl, e0, ⟨_, _, rfl, e1, ⟨_, _, rfl, e2, rfl⟩⟩⟩).mono fun e W' ⟨v, g', he, hr, bel⟩ => ?_
  obtain rfl : v = .bool true := hr
  subst he
  exact ⟨_, rfl, _, _, _, [], _, [], hW', trodAll_mk1 (shut_bool (show Tryz.prog.underlying 4 = some .bool by kernel_rfl) _), (trodAll_cons_mk (Below.trod seat_laidOut (by kernel_rfl) (of_decide_eq_true (by kernel_rfl)) h0 bel lt0) (trodAll_cons_mk (Below.trod seat_laidOut (by kernel_rfl) (of_decide_eq_true (by kernel_rfl)) h1 bel lt1) (trodAll_cons_mk (Below.trod seat_laidOut (by kernel_rfl) (of_decide_eq_true (by kernel_rfl)) h2 bel lt2) trodAll_mk0))), rfl, bel.frame _, fun h => by cases h⟩
theorem boardTypes_holds : Rows.BoardTypesUptoSaid :=
  OpenClaim.holds_of_cond 6 Tryz.f6 rfl rfl rfl rfl rfl rfl rfl ⟨rfl, rfl, rfl, rfl, rfl⟩ rfl rfl rfl rfl rfl (by kernel_rfl) Tryz.func6 (by kernel_rfl)
    (of_decide_eq_true (by kernel_rfl)) (by unfold Func.isWrapper; first | (rw [if_pos (by decide +kernel)]; kernel_rfl) | (rw [if_neg (by decide +kernel)]; exact ⟨rfl, rfl⟩))
    (fun os started H enc _ F => by rw [OpenClaim.pre_eq_preRow]; exact boardTypes_lifted os started H enc F)
theorem boardTypes_card : Rows.BoardTypesUptoCardSaid :=
  Claim7.holds_tied_plain_at .later [] [.data, .data, .data] true (true, "798a7f6d89e2fbcbaaa72b0a22000f9d7fe649e4bc8b0faaeb42ca29a5786512") false boardTypes_holds (fun _ h => by cases h) (by kernel_rfl) (fun _ h => by cases h) boardTypesUpto_row_tie rfl ⟨rfl, rfl⟩ (by kernel_rfl) rfl
    (fun f fn hf hfn => by
      obtain rfl : f = 6 := Option.some.inj ((show Tryz.prog.funcNamed "clavier/clavierlaw14.BoardTypes" = some 6 by kernel_rfl).symm.trans hf) |>.symm
      obtain rfl : fn = Tryz.f6 := (Option.some.inj (Tryz.func6.symm.trans hfn)).symm
      exact ⟨by kernel_rfl, fun j t ht => by
        rw [Tryz.params6] at ht
        have hm : t ∈ ([23, 5, 25] : List Nat) := by simpa using Array.mem_of_getElem? ht
        have hall : (([23, 5, 25] : List Nat).all fun u => !Tryz.prog.wantsStandIn u) = true := by kernel_rfl
        exact (show Tryz.prog.wantsStandIn t = false by simpa using List.all_eq_true.1 hall t hm)⟩)
    (by kernel_rfl)
#print axioms boardTypes_card
end Go.Proofs.YtbepihadhmfklaaGreatDoor

