/- Part 3 of 3 of a proof: the given statement MouseOld, whatever the input that its row lets in. Conditions: those of the given row and card alone. -/
import Derived.Test.YtfnngjnfajnpaaaDoorPMouseOld2
import Derived.Test.YtfnngjnfajnpaaaDoorPMouseOldAb13
import Derived.WalkKit
import Derived.ProofKit
import Derived.SizedLaws
import Derived.Test.YtfnngjnfajnpaaaDoorRows
import Derived.LaidSub
import Derived.Lib.LaidTab
import Derived.Lib.ItoaNum
import Derived.MakeChecks
import Derived.Test.YtfnngjnfajnpaaaDoorCards
import Derived.Test.YtfnngjnfajnpaaaDoorTie
import Derived.Deep.DeepHandedRow
import Derived.JoinedCond
import Derived.OpenShut
import Derived.ShutString
import Derived.ChangeOld
import Derived.Below
import Derived.Lay
import Derived.LaidOnce
import Derived.SevenTiedAt
set_option linter.unusedVariables false
set_option linter.unusedSimpArgs false
set_option maxRecDepth 100000
namespace Go.Proofs.YtfnngjnfajnpaaaDoor
open Go Go.Ab
def ir_wireArg : ICode :=
 (.seq
 (.reg [⟨some 3, none, .box 24 (.t 0)⟩,
 ⟨some 6, none, .mov (.c (.int .i64 0))⟩] (some [1, 2, 3]))
 (.seq
 (.seq
 (.reg [⟨some 7, none, .mov (.t 1)⟩,
 ⟨some 8, none, .bin .lss .none (.t 7) (.c (.int .i64 0))⟩,
 ⟨some 9, none, .mov (.t 8)⟩,
 ⟨some 10, some (9, false), .mov (.t 1)⟩,
 ⟨some 11, some (9, false), .fa 2 (.t 3)⟩,
 ⟨some 12, some (9, false), .ld none (.t 11)⟩,
 ⟨some 13, some (9, false), .len (.t 12)⟩,
 ⟨some 14, some (9, false), .bin .geq .none (.t 10) (.t 13)⟩,
 ⟨some 15, none, .pick (.t 9) (.c (.bool true)) (.t 14)⟩,
 ⟨some 16, none, .mov (.t 15)⟩,
 ⟨some 17, some (16, false), .fa 2 (.t 3)⟩,
 ⟨some 18, some (16, false), .ld none (.t 17)⟩,
 ⟨some 19, some (16, false), .mov (.t 1)⟩,
 ⟨some 20, some (16, false), .ia 1 (.t 18) (.t 19)⟩,
 ⟨some 21, some (16, false), .ld none (.t 20)⟩,
 ⟨some 22, some (16, false), .len (.t 21)⟩,
 ⟨some 23, some (16, false), .bin .eql .none (.t 22) (.c (.int .i64 0))⟩,
 ⟨some 24, none, .pick (.t 16) (.c (.bool true)) (.t 23)⟩,
 ⟨some 25, none, .mov (.t 24)⟩,
 ⟨some 26, some (25, false), .fa 2 (.t 3)⟩,
 ⟨some 27, some (25, false), .ld none (.t 26)⟩,
 ⟨some 28, some (25, false), .mov (.t 1)⟩,
 ⟨some 29, some (25, false), .ia 1 (.t 27) (.t 28)⟩,
 ⟨some 30, some (25, false), .ld none (.t 29)⟩,
 ⟨some 31, some (25, false), .ia 1 (.t 30) (.c (.int .i64 0))⟩,
 ⟨some 32, some (25, false), .ld none (.t 31)⟩,
 ⟨some 33, some (25, false), .bin .lss .none (.t 32) (.c (.int .i64 0))⟩,
 ⟨some 34, none, .pick (.t 25) (.c (.bool true)) (.t 33)⟩] (some [1, 2, 3, 34]))
 (.cond (.t 34)
 (.seq
 (.reg [⟨some 35, none, .mov (.t 2)⟩,
 ⟨some 6, none, .mov (.t 35)⟩] (some [6]))
 .ret)
 .skip))
 (.seq
 (.reg [⟨some 36, none, .fa 2 (.t 3)⟩,
 ⟨some 37, none, .ld none (.t 36)⟩,
 ⟨some 38, none, .mov (.t 1)⟩,
 ⟨some 39, none, .ia 1 (.t 37) (.t 38)⟩,
 ⟨some 40, none, .ld none (.t 39)⟩,
 ⟨some 41, none, .ia 1 (.t 40) (.c (.int .i64 0))⟩,
 ⟨some 42, none, .ld none (.t 41)⟩,
 ⟨some 6, none, .mov (.t 42)⟩] (some [6]))
 .ret)))
theorem is_wireArg : IrOf Tryd.prog 22 43 ir_wireArg [.t 6] := ⟨_, Tryd.func22, rfl, by kernel_rfl, by kernel_rfl, by kernel_rfl⟩

theorem dcs_of_len {b : List UInt8} (h : (readW b).2 ≤ b.length) : dcsOk b := by
  intro h1 h2
  unfold readW at h
  rw [if_neg (not_not_intro h1)] at h
  simp only at h
  rw [h2] at h
  rw [if_neg (by decide), if_neg (by decide), if_pos rfl] at h
  simp only at h
  omega
theorem fi_may {s : Sq} (h : mayP s = 0) : s.fi < 128 := by
  have h1 := (mayF h).sh
  unfold shapedP at h1
  repeat' split at h1
  all_goals simp only [Bool.and_eq_true, decide_eq_true_eq, beq_iff_eq, Bool.false_eq_true] at h1
  all_goals omega
theorem take_may {s : Sq} (h : mayP s = 0) (more : List UInt8) : dcsOk (putB s ++ more) ∧ (readW (putB s ++ more)).1.fi < 128 ∧ takeV (putB s ++ more) = .tup [.agg s.c, .int .i64 (putB s).length, .int .i64 0] := by
  have h1 := readW_put h more
  refine ⟨dcs_of_len (by rw [h1]; simp), by rw [h1]; exact fi_may h, ?_⟩
  unfold takeV
  rw [takeW_put h]
def argW (ps : List (List Int)) (i : Nat) (o : Int) : Int := match ps[i]? with
  | some (x :: _) => if x < 0 then o else x
  | _ => o
theorem fs_wArg {Gl : Gh → Prop} (hst : Stays Gl) {k pr fi o : Int} {ps : List (List Int)} {it da : List UInt8} {i : Nat} : FS Tryd.prog Gl 22 [.agg [.int .i64 k, .int .u8 pr, .sl none 1 (parsAV ps), .str it, .int .u8 fi, .str da], .int .i64 (i : Int), .int .i64 o] [] [] (.int .i64 (argW ps i o)) [] [] := by
  refine FS.of hm hst is_wireArg (by simp) fun γ hγ hfr => ?_
  (generalize hQ : (fun (ex : Ex) (_ _ : Nat) (s : St) => _) = Q; unfold ir_wireArg)
  have h0 : decide ((i : Int) < 0) = false := by simp
  by_cases hlt : i < ps.length
  · have h1 : decide ((i : Int) ≥ (ps.length : Int)) = false := by simp; omega
    have hg : (parsAV ps).getD i [] = [intsV ps[i]] := by
      rw [List.getD_eq_getElem?_getD]; simp [parsAV, hlt]
    have hi : intsV ps[i] = .sl none 1 (intsAV ps[i]) := rfl
    cases hp : ps[i] with
    | nil =>
      rw [hi, hp] at hg
      have ha : argW ps i o = o := by unfold argW; rw [List.getElem?_eq_getElem hlt, hp]
      have hl : (((intsAV ([] : List Int)).length : Int) == 0) = true := rfl
      simp +contextual (maxSteps := 1000000) only [h0, h1, hg, hl, parsAV_length, Int.toNat_natCast, go_sem, reduceCtorEq, ↓reduceIte, Nat.reduceAdd, Nat.reduceEqDiff, Nat.reduceLeDiff, Nat.reduceMul, Nat.reduceBEq, Int.reduceBEq, Int.reduceBNe, Int.reduceLT, Int.reduceLE, Int.reduceGT, Int.reduceGE, Int.reduceToNat]
      refine ⟨by omega, ?_⟩
      rw [← hQ, ha]
      exact ⟨trivial, Ret.flat rfl rfl⟩
    | cons x l =>
      rw [hi, hp] at hg
      have hg0 : (intsAV (x :: l)).getD 0 [] = [.int .i64 x] := rfl
      have hl : (((intsAV (x :: l)).length : Int) == 0) = false := by simp [intsAV]; omega
      have hl0 : (0 : Int) < ((intsAV (x :: l)).length : Int) := by rw [intsAV_length, List.length_cons]; omega
      by_cases hx : x < 0
      · have hd : decide (x < 0) = true := decide_eq_true hx
        have ha : argW ps i o = o := by unfold argW; rw [List.getElem?_eq_getElem hlt, hp]; exact if_pos hx
        simp +contextual (maxSteps := 1000000) only [h0, h1, hg, hg0, hl, hd, parsAV_length, Int.toNat_natCast, Int.toNat_zero, go_sem, reduceCtorEq, ↓reduceIte, Nat.reduceAdd, Nat.reduceEqDiff, Nat.reduceLeDiff, Nat.reduceMul, Nat.reduceBEq, Int.reduceBEq, Int.reduceBNe, Int.reduceLT, Int.reduceLE, Int.reduceGT, Int.reduceGE, Int.reduceToNat]
        refine ⟨⟨by omega, by omega⟩, ⟨by omega, by omega⟩, hl0, ?_⟩
        rw [← hQ, ha]
        exact ⟨trivial, Ret.flat rfl rfl⟩
      · have hd : decide (x < 0) = false := decide_eq_false hx
        have ha : argW ps i o = x := by unfold argW; rw [List.getElem?_eq_getElem hlt, hp]; exact if_neg hx
        simp +contextual (maxSteps := 1000000) only [h0, h1, hg, hg0, hl, hd, parsAV_length, Int.toNat_natCast, Int.toNat_zero, go_sem, reduceCtorEq, ↓reduceIte, Nat.reduceAdd, Nat.reduceEqDiff, Nat.reduceLeDiff, Nat.reduceMul, Nat.reduceBEq, Int.reduceBEq, Int.reduceBNe, Int.reduceLT, Int.reduceLE, Int.reduceGT, Int.reduceGE, Int.reduceToNat]
        refine ⟨⟨by omega, by omega⟩, ⟨by omega, by omega⟩, hl0, ⟨by omega, by omega⟩, hl0, ?_⟩
        rw [← hQ, ha]
        exact ⟨trivial, Ret.flat rfl rfl⟩
  · have h1 : decide ((i : Int) ≥ (ps.length : Int)) = true := by simp; omega
    have ha : argW ps i o = o := by unfold argW; rw [List.getElem?_eq_none (by omega)]
    simp +contextual (maxSteps := 1000000) only [h0, h1, parsAV_length, go_sem, reduceCtorEq, ↓reduceIte, Nat.reduceAdd, Nat.reduceEqDiff, Nat.reduceLeDiff, Nat.reduceMul, Nat.reduceBEq, Int.reduceBEq, Int.reduceBNe, Int.reduceLT, Int.reduceLE, Int.reduceGT, Int.reduceGE, Int.reduceToNat]
    rw [← hQ, ha]
    exact ⟨trivial, Ret.flat rfl rfl⟩
end Go.Proofs.YtfnngjnfajnpaaaDoor

namespace Go.Proofs.YtfnngjnfajnpaaaDoor
open Go Go.Ab

theorem bits_and64 (a b : Int) : bits .and .i64 a b = IntKind.i64.wrap (((BitVec.ofInt 64 a &&& BitVec.ofInt 64 b).toNat : Nat) : Int) := rfl
theorem bits_or8 (a b : Int) : bits .or .u8 a b = IntKind.u8.wrap (((BitVec.ofInt 8 a ||| BitVec.ofInt 8 b).toNat : Nat) : Int) := rfl
theorem and_i64 {a b : Nat} (ha : a < 9223372036854775808) (hb : b < 9223372036854775808) : bits .and .i64 (a : Int) (b : Int) = ((a &&& b : Nat) : Int) := by
  have h : a &&& b ≤ a := Nat.and_le_left
  rw [bits_and64, BitVec.ofInt_natCast, BitVec.ofInt_natCast, BitVec.toNat_and, BitVec.toNat_ofNat, BitVec.toNat_ofNat, Nat.mod_eq_of_lt (by omega), Nat.mod_eq_of_lt (by omega), IntKind.wrap_i64]
  omega
theorem or_u8 {a b : Nat} (ha : a < 256) (hb : b < 256) : bits .or .u8 (a : Int) (b : Int) = ((a ||| b : Nat) : Int) := by
  have h : a ||| b < 2 ^ 8 := Nat.or_lt_two_pow (by omega) (by omega)
  rw [bits_or8, BitVec.ofInt_natCast, BitVec.ofInt_natCast, BitVec.toNat_or, BitVec.toNat_ofNat, BitVec.toNat_ofNat, Nat.mod_eq_of_lt (by omega), Nat.mod_eq_of_lt (by omega), IntKind.wrap_u8]
  omega
theorem and63 {a : Nat} (ha : a < 9223372036854775808) : bits .and .i64 (a : Int) 63 = ((a % 64 : Nat) : Int) := by
  rw [show (63 : Int) = ((63 : Nat) : Int) from rfl, and_i64 ha (by omega), show (63 : Nat) = 2 ^ 6 - 1 from rfl, Nat.and_two_pow_sub_one_eq_mod]
theorem or_put {a b k : Nat} (hb : b < 2 ^ k) (h : 2 ^ k * a + b < 256) : bits .or .u8 ((2 ^ k * a : Nat) : Int) (b : Int) = ((2 ^ k * a + b : Nat) : Int) := by
  rw [or_u8 (by omega) (by omega), Nat.two_pow_add_eq_or_of_lt hb]
theorem or_tail {b : Nat} (hb : b < 64) : bits .or .u8 128 (b : Int) = ((128 + b : Nat) : Int) := by
  have := or_put (a := 2) (b := b) (k := 6) (by omega) (by omega)
  simpa using this
/-! ### Code points -/
def isCP (r : Int) : Bool := decide (0 ≤ r) && decide (r ≤ 1114111) && (decide (r < 55296) || decide (57343 < r))
def putN (r : Nat) : List Nat :=
  if r < 128 then [r]
  else if r < 2048 then [192 + r / 64, 128 + r % 64]
  else if r < 65536 then [224 + r / 4096, 128 + r / 64 % 64, 128 + r % 64]
  else [240 + r / 262144, 128 + r / 4096 % 64, 128 + r / 64 % 64, 128 + r % 64]
def putU (r : Int) : List UInt8 := if isCP r = true then (putN r.toNat).map UInt8.ofNat else []
theorem putN_len (r : Nat) : 1 ≤ (putN r).length ∧ (putN r).length ≤ 4 := by
  unfold putN
  split
  · simp
  · split
    · simp
    · split <;> simp
theorem putU_len (r : Int) : (putU r).length ≤ 4 := by
  unfold putU
  split
  · simpa using (putN_len r.toNat).2
  · simp
theorem isCP_spec {r : Int} (h : isCP r = true) : ∃ n : Nat, r = n ∧ n ≤ 1114111 ∧ (n < 55296 ∨ 57343 < n) := by
  simp only [isCP, Bool.and_eq_true, Bool.or_eq_true, decide_eq_true_eq] at h
  exact ⟨r.toNat, by omega, by omega, by omega⟩
theorem putN_lt {n : Nat} (h : n ≤ 1114111) : ∀ x ∈ putN n, x < 256 := by
  unfold putN
  split
  · simp; omega
  · split
    · simp; omega
    · split <;> (simp; omega)
end Go.Proofs.YtfnngjnfajnpaaaDoor

namespace Go.Proofs.YtfnngjnfajnpaaaDoor
open Go Go.Ab

structure Ent where
  kind : Int
  final : UInt8
  num : Int
  char : Int
  keys : Bool
  deriving DecidableEq, Inhabited
structure RowK where
  lo : Nat
  many : Nat
  kind : Nat
  finals : List UInt8
  nums : List Nat
  chars : List UInt8
def RowK.ent (r : RowK) (i : Nat) : Ent :=
  ⟨r.kind, r.finals.getD i 0, ((r.nums.getD i 0 : Nat) : Int), ((r.chars.getD i 0).toNat : Int), decide (57399 ≤ r.lo) && (decide (r.kind ≠ 6) && decide (r.kind ≠ 7))⟩
def RowK.all (r : RowK) : List (Nat × Ent) := (List.range r.many).map fun i => (r.lo + i, r.ent i)
structure Ky where
  code : Int
  mods : Int
  type : Int
  shifted : Int
  base : Int
  text : List UInt8
end Go.Proofs.YtfnngjnfajnpaaaDoor

namespace Go.Proofs.YtfnngjnfajnpaaaDoor
open Go Go.Ab
def ir_utfis : ICode :=
 (.seq
 (.reg [⟨some 2, none, .mov (.c (.bool false))⟩] (some [0]))
 (.seq
 (.reg [⟨some 3, none, .mov (.t 0)⟩,
 ⟨some 4, none, .bin .geq .none (.t 3) (.c (.int .i64 0))⟩,
 ⟨some 5, none, .mov (.t 4)⟩,
 ⟨some 6, some (5, true), .mov (.t 0)⟩,
 ⟨some 7, some (5, true), .bin .leq .none (.t 6) (.c (.int .i64 1114111))⟩,
 ⟨some 8, none, .pick (.t 5) (.t 7) (.c (.bool false))⟩,
 ⟨some 9, none, .mov (.t 8)⟩,
 ⟨some 10, some (9, true), .mov (.t 0)⟩,
 ⟨some 11, some (9, true), .bin .lss .none (.t 10) (.c (.int .i64 55296))⟩,
 ⟨some 12, some (9, true), .mov (.t 11)⟩,
 ⟨some 13, some (12, false), .mov (.t 0)⟩,
 ⟨some 14, some (12, false), .bin .gtr .none (.t 13) (.c (.int .i64 57343))⟩,
 ⟨some 15, some (9, true), .pick (.t 12) (.c (.bool true)) (.t 14)⟩,
 ⟨some 16, none, .pick (.t 9) (.t 15) (.c (.bool false))⟩,
 ⟨some 2, none, .mov (.t 16)⟩] (some [2]))
 .ret))
theorem is_utfis : IrOf Tryd.prog 71 17 ir_utfis [.t 2] := ⟨_, Tryd.func71, rfl, by kernel_rfl, by kernel_rfl, by kernel_rfl⟩

def ir_utfsizes : ICode :=
 (.seq
 (.reg [⟨some 0, none, .box 95 (.c (.agg [(.int .i64 0), (.int .i64 0), (.int .u8 0), (.int .u8 0), (.int .i64 0), (.int .i64 0), (.int .u8 0), (.int .u8 0), (.int .i64 0), (.int .i64 0), (.int .u8 0), (.int .u8 0), (.int .i64 0), (.int .i64 0), (.int .u8 0), (.int .u8 0)]))⟩] (some [0]))
 (.seq
 (.reg [⟨some 1, none, .bld [(.int .i64 0), (.int .i64 0), (.int .u8 0), (.int .u8 0)] [(0, 1, (.c (.int .i64 1))), (1, 1, (.c (.int .i64 127))), (2, 1, (.c (.int .u8 0))), (3, 1, (.c (.int .u8 127)))]⟩,
 ⟨some 2, none, .bld [(.int .i64 0), (.int .i64 0), (.int .u8 0), (.int .u8 0)] [(0, 1, (.c (.int .i64 2))), (1, 1, (.c (.int .i64 2047))), (2, 1, (.c (.int .u8 192))), (3, 1, (.c (.int .u8 31)))]⟩,
 ⟨some 3, none, .bld [(.int .i64 0), (.int .i64 0), (.int .u8 0), (.int .u8 0)] [(0, 1, (.c (.int .i64 3))), (1, 1, (.c (.int .i64 65535))), (2, 1, (.c (.int .u8 224))), (3, 1, (.c (.int .u8 15)))]⟩,
 ⟨some 4, none, .bld [(.int .i64 0), (.int .i64 0), (.int .u8 0), (.int .u8 0)] [(0, 1, (.c (.int .i64 4))), (1, 1, (.c (.int .i64 1114111))), (2, 1, (.c (.int .u8 240))), (3, 1, (.c (.int .u8 7)))]⟩,
 ⟨some 5, none, .bld [(.int .i64 0), (.int .i64 0), (.int .u8 0), (.int .u8 0), (.int .i64 0), (.int .i64 0), (.int .u8 0), (.int .u8 0), (.int .i64 0), (.int .i64 0), (.int .u8 0), (.int .u8 0), (.int .i64 0), (.int .i64 0), (.int .u8 0), (.int .u8 0)] [(0, 4, (.t 1)), (4, 4, (.t 2)), (8, 4, (.t 3)), (12, 4, (.t 4))]⟩,
 ⟨none, none, .st 16 (.t 0) (.t 5)⟩] (some [0]))
 .ret))
theorem is_utfsizes : IrOf Tryd.prog 72 6 ir_utfsizes [.cell 0 (some 16)] := ⟨_, Tryd.func72, rfl, by kernel_rfl, by kernel_rfl, by kernel_rfl⟩

/- clavier/utf.Put -/
def ir_utfPut_l0 : ICode :=
 (.seq
 (.seq
 (.reg [⟨some 24, none, .mov (.t 6)⟩,
 ⟨some 25, none, .bin .gtr .none (.t 24) (.c (.int .i64 0))⟩] (some [0, 4, 5, 6, 25]))
 (.cond (.t 25)
 .skip
 (.exit 2)))
 (.seq
 (.blk 3
 (.seq
 (.reg [⟨some 28, none, .mov (.t 5)⟩,
 ⟨some 29, none, .mov (.t 6)⟩,
 ⟨some 30, none, .mov (.t 0)⟩,
 ⟨some 31, none, .bin .and .none (.t 30) (.c (.int .i64 63))⟩,
 ⟨some 32, none, .cvi .u8 (.t 31)⟩,
 ⟨some 33, none, .bin .or .none (.c (.int .u8 128)) (.t 32)⟩,
 ⟨some 34, none, .ia 1 (.t 28) (.t 29)⟩,
 ⟨none, none, .st 1 (.t 34) (.t 33)⟩] (some [0, 4, 5, 6]))
 (.reg [⟨some 35, none, .mov (.t 0)⟩,
 ⟨some 36, none, .bin .shr .none (.t 35) (.c (.int .u64 6))⟩,
 ⟨some 0, none, .mov (.t 36)⟩] (some [0, 4, 5, 6]))))
 (.reg [⟨some 26, none, .mov (.t 6)⟩,
 ⟨some 27, none, .bin .sub .none (.t 26) (.c (.int .i64 1))⟩,
 ⟨some 6, none, .mov (.t 27)⟩] (some [0, 4, 5, 6]))))
def ir_utfPut_l1 : ICode :=
 (.seq
 (.reg [⟨some 12, none, .bin .lss .none (.t 11) (.c (.int .i64 4))⟩] (some [0, 10, 11, 12]))
 (.seq
 (.cond (.t 12)
 .skip
 (.exit 0))
 (.seq
 (.blk 1
 (.seq
 (.reg [⟨some 13, none, .ixa 4 4 (some 4) (.t 10) (.t 11)⟩,
 ⟨some 4, none, .box 94 (.c (.agg [(.int .i64 0), (.int .i64 0), (.int .u8 0), (.int .u8 0)]))⟩,
 ⟨none, none, .st 4 (.t 4) (.t 13)⟩] (some [0, 4, 10, 11]))
 (.seq
 (.seq
 (.reg [⟨some 14, none, .mov (.t 0)⟩,
 ⟨some 15, none, .fa 1 (.t 4)⟩,
 ⟨some 16, none, .ld none (.t 15)⟩,
 ⟨some 17, none, .bin .gtr .none (.t 14) (.t 16)⟩] (some [0, 4, 10, 11, 17]))
 (.cond (.t 17)
 (.exit 1)
 .skip))
 (.seq
 (.reg [⟨some 18, none, .fa 0 (.t 4)⟩,
 ⟨some 19, none, .ld none (.t 18)⟩,
 ⟨some 20, none, .mks 5 1 (.agg [(.int .u8 0)]) (.t 19)⟩,
 ⟨some 5, none, .mov (.t 20)⟩] (some [0, 4, 5]))
 (.seq
 (.seq
 (.reg [⟨some 21, none, .fa 0 (.t 4)⟩,
 ⟨some 22, none, .ld none (.t 21)⟩,
 ⟨some 23, none, .bin .sub .none (.t 22) (.c (.int .i64 1))⟩,
 ⟨some 6, none, .mov (.t 23)⟩] (some [0, 4, 5, 6]))
 (.blk 2
 (.loop
 ir_utfPut_l0)))
 (.seq
 (.reg [⟨some 37, none, .mov (.t 5)⟩,
 ⟨some 38, none, .fa 2 (.t 4)⟩,
 ⟨some 39, none, .ld none (.t 38)⟩,
 ⟨some 40, none, .mov (.t 0)⟩,
 ⟨some 41, none, .cvi .u8 (.t 40)⟩,
 ⟨some 42, none, .bin .or .none (.t 39) (.t 41)⟩,
 ⟨some 43, none, .ia 1 (.t 37) (.c (.int .i64 0))⟩,
 ⟨none, none, .st 1 (.t 43) (.t 42)⟩] (some [5]))
 (.seq
 (.reg [⟨some 44, none, .mov (.t 5)⟩,
 ⟨some 2, none, .mov (.t 44)⟩] (some [2]))
 .ret)))))))
 (.reg [⟨some 45, none, .bin .add .none (.t 11) (.c (.int .i64 1))⟩,
 ⟨some 11, none, .mov (.t 45)⟩] (some [0, 10, 11])))))
def ir_utfPut : ICode :=
 (.seq
 (.reg [⟨some 2, none, .mov (.c .nils)⟩] (some [0]))
 (.seq
 (.seq
 (.reg [⟨some 7, none, .mov (.t 0)⟩,
 ⟨some 8, none, .call (.c (.fn (.func 71) [] [])) [(.t 7)]⟩,
 ⟨some 9, none, .un .not (.t 8)⟩] (some [0, 9]))
 (.cond (.t 9)
 (.seq
 (.reg [⟨some 2, none, .mov (.c .nils)⟩] (some [2]))
 .ret)
 .skip))
 (.seq
 (.seq
 (.reg [⟨some 10, none, .call (.c (.fn (.func 72) [] [])) []⟩,
 ⟨some 11, none, .mov (.c (.int .i64 0))⟩] (some [0, 10, 11]))
 (.blk 0
 (.loop
 ir_utfPut_l1)))
 (.seq
 (.reg [⟨some 2, none, .mov (.c .nils)⟩] (some [2]))
 .ret))))
theorem is_utfPut : IrOf Tryd.prog 51 46 ir_utfPut [.t 2] := ⟨_, Tryd.func51, rfl, by kernel_rfl, by kernel_rfl, by kernel_rfl⟩

theorem fs_is {Gl : Gh → Prop} (hst : Stays Gl) {r : Int} : FS Tryd.prog Gl 71 [.int .i64 r] [] [] (.bool (isCP r)) [] [] := by
  refine FS.of hm hst is_utfis (by simp) fun γ hγ hfr => ?_
  (generalize hQ : (fun (ex : Ex) (_ _ : Nat) (s : St) => _) = Q; unfold ir_utfis)
  (simp +contextual (maxSteps := 1000000) only [go_sem, reduceCtorEq, ↓reduceIte, Nat.reduceAdd, Nat.reduceEqDiff]; repeat' first | ((first | refine kCond_split (fun hg => ?_) (fun hg => ?_) | refine kGc_split (fun hg => ?_) (fun hg => ?_) | refine kPreG_split (fun hg => ?_) (fun hg => ?_)) <;> (try rw [hg]) <;> simp +contextual (maxSteps := 1000000) only [go_sem, reduceCtorEq, ↓reduceIte, Nat.reduceAdd, Nat.reduceEqDiff]) | refine And.intro (by omega) ?_)
  all_goals (rw [← hQ]; clear hQ hfr; refine ⟨trivial, Ret.flat ?_ rfl⟩; first | (simp only [resOf, getAll, IRes.get, lf_cons, lf_nil, ↓reduceIte, Bool.false_eq_true, Option.some.injEq, AV.bool.injEq, AV.int.injEq, AV.tup.injEq, List.cons.injEq, true_and, and_true, isCP, *]; done) | (simp [resOf, getAll, IRes.get, lf_cons, lf_nil, ↓reduceIte, Bool.false_eq_true, Option.some.injEq, AV.bool.injEq, AV.int.injEq, AV.tup.injEq, List.cons.injEq, true_and, and_true, isCP, *]; done) | (simp_all [resOf, getAll, IRes.get, lf_cons, lf_nil, ↓reduceIte, Bool.false_eq_true, Option.some.injEq, AV.bool.injEq, AV.int.injEq, AV.tup.injEq, List.cons.injEq, true_and, and_true, isCP]; done) | (simp_all [resOf, getAll, IRes.get, lf_cons, lf_nil, ↓reduceIte, Bool.false_eq_true, Option.some.injEq, AV.bool.injEq, AV.int.injEq, AV.tup.injEq, List.cons.injEq, true_and, and_true, isCP]; omega))
def szMost (i : Nat) : Nat := [127, 2047, 65535, 1114111].getD i 0
def szMark (i : Nat) : Nat := [0, 192, 224, 240].getD i 0
def szRest (i : Nat) : Nat := [127, 31, 15, 7].getD i 0
def szAV (i : Nat) : List AV := [.int .i64 ((i + 1 : Nat) : Int), .int .i64 (szMost i : Int), .int .u8 (szMark i : Int), .int .u8 (szRest i : Int)]
def szsAV : List AV := szAV 0 ++ szAV 1 ++ szAV 2 ++ szAV 3
theorem fs_sizes {Gl : Gh → Prop} (hst : Stays Gl) : FS Tryd.prog Gl 72 [] [] [] (.agg szsAV) [] [] := by
  refine FS.of hm hst is_utfsizes (by simp) fun γ hγ hfr => ?_
  (generalize hQ : (fun (ex : Ex) (_ _ : Nat) (s : St) => _) = Q; unfold ir_utfsizes)
  (simp +contextual (maxSteps := 1000000) only [go_sem, reduceCtorEq, ↓reduceIte, Nat.reduceAdd, Nat.reduceEqDiff, Nat.reduceLeDiff, Nat.reduceMul, Nat.reduceBEq, Int.reduceBEq, Int.reduceBNe, Int.reduceLT, Int.reduceLE, Int.reduceGT, Int.reduceGE, Int.reduceToNat]; repeat' first | ((first | refine kCond_split (fun hg => ?_) (fun hg => ?_) | refine kGc_split (fun hg => ?_) (fun hg => ?_) | refine kPreG_split (fun hg => ?_) (fun hg => ?_)) <;> (try rw [hg]) <;> simp +contextual (maxSteps := 1000000) only [go_sem, reduceCtorEq, ↓reduceIte, Nat.reduceAdd, Nat.reduceEqDiff, Nat.reduceLeDiff, Nat.reduceMul, Nat.reduceBEq, Int.reduceBEq, Int.reduceBNe, Int.reduceLT, Int.reduceLE, Int.reduceGT, Int.reduceGE, Int.reduceToNat]) | refine And.intro (by omega) ?_)
  rw [← hQ]
  refine ⟨trivial, Ret.flatT (by simp [resOf, getAll, IRes.get, lf, getH, szsAV, szAV, szMost, szMark, szRest]) rfl⟩
def tailB (n : Nat) : Nat → List Nat
  | 0 => []
  | j + 1 => (128 + n / 64 ^ j % 64) :: tailB n j
def cellsB (l : List Nat) : List AV := l.map fun c : Nat => AV.int .u8 (c : Int)
theorem tailB_len (n : Nat) : ∀ j, (tailB n j).length = j
  | 0 => rfl
  | j + 1 => by simp [tailB, tailB_len n j]
theorem bytes_cells : ∀ {l : List Nat}, (∀ x ∈ l, x < 256) → (bytesAV (l.map UInt8.ofNat)).flatten = cellsB l
  | [], _ => rfl
  | x :: xs, h => by
    have h1 := h x (by simp)
    have h2 := bytes_cells (l := xs) fun y hy => h y (by simp [hy])
    simp only [bytesAV, cellsB, List.map_cons, List.flatten_cons] at h2 ⊢
    rw [h2, UInt8.toNat_ofNat', Nat.mod_eq_of_lt (by omega)]; rfl
theorem cellsB_closed : ∀ l : List Nat, AV.closedL (cellsB l) = true
  | [] => rfl
  | x :: xs => by
    show (true && AV.closedL (cellsB xs)) = true
    rw [cellsB_closed xs]; rfl
theorem cellsB_len (l : List Nat) : (cellsB l).length = l.length := by simp [cellsB]
theorem cells_set {k : Nat} {t : List Nat} {x : Nat} : List.take k (cellsB (List.replicate (k + 1) 0 ++ t)) ++ [AV.int .u8 (x : Int)] ++ List.drop (k + 1) (cellsB (List.replicate (k + 1) 0 ++ t)) = cellsB (List.replicate k 0 ++ x :: t) := by
  have h1 : cellsB (List.replicate (k + 1) 0 ++ t) = List.replicate (k + 1) (AV.int .u8 0) ++ cellsB t := by simp [cellsB]
  have h2 : cellsB (List.replicate k 0 ++ x :: t) = List.replicate k (AV.int .u8 0) ++ AV.int .u8 (x : Int) :: cellsB t := by simp [cellsB]
  rw [h1, h2, List.take_append_of_le_length (by simp), List.drop_append_of_le_length (by simp)]
  simp
theorem pow64_succ (n j : Nat) : n / 64 ^ (j + 1) = n / 64 ^ j / 64 := by rw [Nat.pow_succ, Nat.div_div_eq_div_mul]
theorem sh6 (n j : Nat) : shOp .shr .i64 ((n / 64 ^ j : Nat) : Int) 6 = some (True, .int .i64 ((n / 64 ^ (j + 1) : Nat) : Int)) := by
  rw [pow64_succ]
  show some ((0 : Int) ≤ 6 ∧ (6 : Int) ≤ IntKind.i64.bits, AV.int .i64 (((n / 64 ^ j : Nat) : Int) / 2 ^ (6 : Int).toNat)) = _
  have h1 : ((0 : Int) ≤ 6 ∧ (6 : Int) ≤ IntKind.i64.bits) = True := by simp [IntKind.bits]
  have h2 : ((n / 64 ^ j : Nat) : Int) / 2 ^ (6 : Int).toNat = ((n / 64 ^ j / 64 : Nat) : Int) := rfl
  rw [h1, h2]
theorem putN_eq {n i : Nat} (h1 : n ≤ szMost i) (h2 : i = 0 ∨ i = 1 ∧ 127 < n ∨ i = 2 ∧ 2047 < n ∨ i = 3 ∧ 65535 < n) : putN n = (szMark i + n / 64 ^ i) :: tailB n i := by
  rcases h2 with rfl | ⟨rfl, h⟩ | ⟨rfl, h⟩ | ⟨rfl, h⟩ <;> simp only [szMost, List.getD_cons_zero, List.getD_cons_succ] at h1
  · rw [putN, if_pos (by omega)]; simp [szMark, tailB]
  · rw [putN, if_neg (by omega), if_pos (by omega)]; simp [szMark, tailB]
  · rw [putN, if_neg (by omega), if_neg (by omega), if_pos (by omega)]; simp [szMark, tailB]
  · rw [putN, if_neg (by omega), if_neg (by omega), if_neg (by omega)]; simp [szMark, tailB]
theorem mark_or {n i : Nat} (h1 : n ≤ szMost i) (h2 : i = 0 ∨ i = 1 ∧ 127 < n ∨ i = 2 ∧ 2047 < n ∨ i = 3 ∧ 65535 < n) : IntKind.u8.wrap ((n / 64 ^ i : Nat) : Int) = ((n / 64 ^ i : Nat) : Int) ∧ bits .or .u8 (szMark i : Int) ((n / 64 ^ i : Nat) : Int) = ((szMark i + n / 64 ^ i : Nat) : Int) := by
  rcases h2 with rfl | ⟨rfl, h⟩ | ⟨rfl, h⟩ | ⟨rfl, h⟩ <;> simp only [szMost, List.getD_cons_zero, List.getD_cons_succ] at h1
  · exact ⟨by rw [IntKind.wrap_u8]; omega, or_put (a := 0) (k := 7) (b := n / 64 ^ 0) (by omega) (by omega)⟩
  · exact ⟨by rw [IntKind.wrap_u8]; omega, or_put (a := 6) (k := 5) (b := n / 64 ^ 1) (by omega) (by omega)⟩
  · exact ⟨by rw [IntKind.wrap_u8]; omega, or_put (a := 14) (k := 4) (b := n / 64 ^ 2) (by omega) (by omega)⟩
  · exact ⟨by rw [IntKind.wrap_u8]; omega, or_put (a := 30) (k := 3) (b := n / 64 ^ 3) (by omega) (by omega)⟩
set_option maxHeartbeats 2000000 in
theorem fs_putU {Gl : Gh → Prop} (hst : Stays Gl) {r : Int} : FS Tryd.prog Gl 51 [.int .i64 r] [] [] (.sl none 1 (bytesAV (putU r))) [] [] := by
  refine FS.ofW hm hst is_utfPut rfl (by simp) fun γ hγ hfr => ?_
  (generalize hQ : (fun (ex : Ex) (_ _ : Nat) (s : St) => _) = Q; unfold ir_utfPut)
  simp +contextual (maxSteps := 1000000) only [go_sem, reduceCtorEq, ↓reduceIte, Nat.reduceAdd, Nat.reduceEqDiff, Nat.reduceLeDiff, Nat.reduceMul, Nat.reduceBEq, Int.reduceBEq, Int.reduceBNe, Int.reduceLT, Int.reduceLE, Int.reduceGT, Int.reduceGE, Int.reduceToNat]
  (refine CallP.pure (fs_is hst) (fun _ => rfl) ?_; simp +contextual (maxSteps := 1000000) only [go_sem, reduceCtorEq, ↓reduceIte, Nat.reduceAdd, Nat.reduceEqDiff, Nat.reduceLeDiff, Nat.reduceMul, Nat.reduceBEq, Int.reduceBEq, Int.reduceBNe, Int.reduceLT, Int.reduceLE, Int.reduceGT, Int.reduceGE, Int.reduceToNat])
  refine kCond_split (fun h => ?_) (fun h => ?_)
  · simp +contextual (maxSteps := 1000000) only [go_sem, reduceCtorEq, ↓reduceIte, Nat.reduceAdd, Nat.reduceEqDiff, Nat.reduceLeDiff, Nat.reduceMul, Nat.reduceBEq, Int.reduceBEq, Int.reduceBNe, Int.reduceLT, Int.reduceLE, Int.reduceGT, Int.reduceGE, Int.reduceToNat]
    rw [← hQ]
    refine ⟨trivial, .inl ⟨_, rfl, ?_⟩⟩
    have : putU r = [] := by rw [putU, if_neg (by simpa using h)]
    rw [this]; exact RepLe.nils 1
  have hcp : isCP r = true := by simpa using h
  obtain ⟨n, rfl, h1, h2⟩ := isCP_spec hcp
  simp +contextual (maxSteps := 1000000) only [go_sem, reduceCtorEq, ↓reduceIte, Nat.reduceAdd, Nat.reduceEqDiff, Nat.reduceLeDiff, Nat.reduceMul, Nat.reduceBEq, Int.reduceBEq, Int.reduceBNe, Int.reduceLT, Int.reduceLE, Int.reduceGT, Int.reduceGE, Int.reduceToNat]
  (refine CallP.pure (fs_sizes hst) (fun _ => rfl) ?_; simp +contextual (maxSteps := 1000000) only [go_sem, reduceCtorEq, ↓reduceIte, Nat.reduceAdd, Nat.reduceEqDiff, Nat.reduceLeDiff, Nat.reduceMul, Nat.reduceBEq, Int.reduceBEq, Int.reduceBNe, Int.reduceLT, Int.reduceLE, Int.reduceGT, Int.reduceGE, Int.reduceToNat])
  refine kLoop_ix (fun i : Nat => ⟨lf [(0, .int .i64 (n : Int)), (10, .agg szsAV), (11, .int .i64 (i : Int))], [], fun x => x ∈ []⟩) (fun i => i = 0 ∨ i = 1 ∧ 127 < n ∨ i = 2 ∧ 2047 < n ∨ i = 3 ∧ 65535 < n) (fun i => 4 - i) 0 0 ?_ (.inl rfl) ?_
  · refine Wk.same ?_
    (simp only [lfOK, upd, initF]; repeat' first | exact AVle.refl _ _ | exact trivial | refine And.intro ?_ ?_ | exact AVle.int (by simp only [IntKind.wrap_i64]; omega))
  · rintro γ' i hf hi
    generalize hQ' : kIt _ _ _ _ _ = Q'
    unfold ir_utfPut_l1
    have hd : decide ((i : Int) < 4) = true := by rcases hi with h | h | h | h <;> simp <;> omega
    have hx : List.take 4 (List.drop (i * 4) szsAV) = [.int .i64 ((i + 1 : Nat) : Int), .int .i64 (szMost i : Int), .int .u8 (szMark i : Int), .int .u8 (szRest i : Int)] := by
      rcases hi with rfl | ⟨rfl, _⟩ | ⟨rfl, _⟩ | ⟨rfl, _⟩ <;> rfl
    have hl : 4 ≤ (List.drop (i * 4) szsAV).length := by
      rcases hi with rfl | ⟨rfl, _⟩ | ⟨rfl, _⟩ | ⟨rfl, _⟩ <;> decide
    simp +contextual (maxSteps := 1000000) only [hd, Int.toNat_natCast, hx, hl, go_sem, reduceCtorEq, ↓reduceIte, Nat.reduceAdd, Nat.reduceEqDiff, Nat.reduceLeDiff, Nat.reduceMul, Nat.reduceBEq, Int.reduceBEq, Int.reduceBNe, Int.reduceLT, Int.reduceLE, Int.reduceGT, Int.reduceGE, Int.reduceToNat]
    refine ⟨⟨by omega, by rcases hi with h | h | h | h <;> omega⟩, ?_⟩
    refine kCond_split (fun hg => ?_) (fun hg => ?_)
    · simp +contextual (maxSteps := 1000000) only [go_sem, reduceCtorEq, ↓reduceIte, Nat.reduceAdd, Nat.reduceEqDiff, Nat.reduceLeDiff, Nat.reduceMul, Nat.reduceBEq, Int.reduceBEq, Int.reduceBNe, Int.reduceLT, Int.reduceLE, Int.reduceGT, Int.reduceGE, Int.reduceToNat]
      rw [← hQ']
      simp only [w_kIt_n]
      have hg : szMost i < n := by simpa using hg
      refine ⟨0, i + 1, Wk.perm ?_ (fun p hp => by cases hp), ?_, by rcases hi with h | h | h | h <;> omega⟩
      · repeat' first | exact AVle.refl _ _ | exact trivial | refine And.intro ?_ ?_ | exact AVle.int (by simp only [IntKind.wrap_i64]; omega)
      · rcases hi with rfl | ⟨rfl, h⟩ | ⟨rfl, h⟩ | ⟨rfl, h⟩ <;> simp only [szMost, List.getD_cons_zero, List.getD_cons_succ] at hg <;> omega
    · have hle : n ≤ szMost i := by simpa using hg
      have hi3 : i ≤ 3 := by rcases hi with h | h | h | h <;> omega
      have hz : (List.replicate ((i + 1 : Nat) : Int).toNat [AV.int .u8 0]).flatten = cellsB (List.replicate (i + 1) 0) := by
        rw [Int.toNat_natCast, cellsB, List.map_replicate, List.flatten_replicate_singleton]; rfl
      simp +contextual (maxSteps := 1000000) only [hz, go_sem, reduceCtorEq, ↓reduceIte, Nat.reduceAdd, Nat.reduceEqDiff, Nat.reduceLeDiff, Nat.reduceMul, Nat.reduceBEq, Int.reduceBEq, Int.reduceBNe, Int.reduceLT, Int.reduceLE, Int.reduceGT, Int.reduceGE, Int.reduceToNat]
      refine ⟨⟨by omega, by omega⟩, ?_⟩
      refine kLoop_ix (fun j : Nat => ⟨lf [(0, .int .i64 ((n / 64 ^ j : Nat) : Int)), (4, .ptr (γ', 2, 0) 0), (5, .ms (γ', 10, 0) 1 (i + 1)), (6, .int .i64 ((i : Int) - (j : Int)))], [((γ', 10, 0), .cells (cellsB (List.replicate (i + 1 - j) 0 ++ tailB n j))), ((γ', 2, 0), .cells [.int .i64 ((i + 1 : Nat) : Int), .int .i64 (szMost i : Int), .int .u8 (szMark i : Int), .int .u8 (szRest i : Int)])], fun x => x ∈ []⟩) (fun j => j ≤ i) (fun j => i - j) 0 0 ?_ (Nat.zero_le _) ?_
      · refine Wk.perm ?_ (fun p hp => by simpa [tailB] using hp)
        simp only [lfOK, upd]
        repeat' first | exact AVle.refl _ _ | exact trivial | refine And.intro ?_ ?_ | exact AVle.int (by simp only [IntKind.wrap_i64, Nat.pow_zero, Nat.div_one] <;> omega)
      · rintro γ'' j hf2 hj
        generalize hQ2 : kIt _ _ _ _ _ = Q2
        unfold ir_utfPut_l0
        by_cases hij : j < i
        · have hd : decide ((i : Int) - (j : Int) > 0) = true := by simp; omega
          have hm1 : bits .and .i64 ((n / 64 ^ j : Nat) : Int) 63 = ((n / 64 ^ j % 64 : Nat) : Int) := and63 (Nat.lt_of_le_of_lt (Nat.div_le_self _ _) (by omega))
          have hw : IntKind.u8.wrap ((n / 64 ^ j % 64 : Nat) : Int) = ((n / 64 ^ j % 64 : Nat) : Int) := by rw [IntKind.wrap_u8]; omega
          have hor := or_tail (b := n / 64 ^ j % 64) (by omega)
          have he : ((i : Int) - (j : Int)).toNat = i - j := by omega
          have hc : List.take (i - j) (cellsB (List.replicate (i + 1 - j) 0 ++ tailB n j)) ++ [AV.int .u8 ((128 + n / 64 ^ j % 64 : Nat) : Int)] ++ List.drop (i - j + 1) (cellsB (List.replicate (i + 1 - j) 0 ++ tailB n j)) = cellsB (List.replicate (i - j) 0 ++ tailB n (j + 1)) := by
            rw [show i + 1 - j = i - j + 1 by omega]; exact cells_set
          simp +contextual (maxSteps := 1000000) only [hd, hm1, hw, hor, he, hc, Nat.mul_one, cellsB_len, sh6, go_sem, reduceCtorEq, ↓reduceIte, Nat.reduceAdd, Nat.reduceEqDiff, Nat.reduceLeDiff, Nat.reduceMul, Nat.reduceBEq, Int.reduceBEq, Int.reduceBNe, Int.reduceLT, Int.reduceLE, Int.reduceGT, Int.reduceGE, Int.reduceToNat]
          refine ⟨⟨by omega, by omega⟩, by simp [tailB_len] <;> omega, ?_⟩
          rw [← hQ2]
          simp only [w_kIt_n]
          refine ⟨0, j + 1, Wk.perm ?_ (fun p hp => ?_), by omega, by omega⟩
          · repeat' first | exact AVle.refl _ _ | exact trivial | refine And.intro ?_ ?_ | exact AVle.int (by simp only [IntKind.wrap_i64]; omega)
          · rwa [show i + 1 - (j + 1) = i - j by omega] at hp
        · have hd : decide ((i : Int) - (j : Int) > 0) = false := by simp; omega
          have hji : j = i := by omega
          subst hji
          obtain ⟨hk1, hk2⟩ := mark_or hle hi
          have hc : AV.int .u8 ((szMark j + n / 64 ^ j : Nat) : Int) :: List.drop 1 (cellsB (List.replicate (j + 1 - j) 0 ++ tailB n j)) = cellsB (putN n) := by
            rw [show j + 1 - j = 0 + 1 by omega, putN_eq hle hi]
            simpa using cells_set (k := 0) (t := tailB n j) (x := szMark j + n / 64 ^ j)
          simp +contextual (maxSteps := 1000000) only [hd, go_sem, reduceCtorEq, ↓reduceIte, Nat.reduceAdd, Nat.reduceEqDiff, Nat.reduceLeDiff, Nat.reduceMul, Nat.reduceBEq, Int.reduceBEq, Int.reduceBNe, Int.reduceLT, Int.reduceLE, Int.reduceGT, Int.reduceGE, Int.reduceToNat]
          rw [← hQ2]
          simp +contextual (maxSteps := 1000000) only [hk1, hk2, hc, cellsB_len, go_sem, reduceCtorEq, ↓reduceIte, Nat.reduceAdd, Nat.reduceEqDiff, Nat.reduceLeDiff, Nat.reduceMul, Nat.reduceBEq, Int.reduceBEq, Int.reduceBNe, Int.reduceLT, Int.reduceLE, Int.reduceGT, Int.reduceGE, Int.reduceToNat]
          refine ⟨by omega, by simp [tailB_len] <;> omega, ?_⟩
          rw [← hQ']
          simp only [w_kIt_r, w_kBlk_r, w_kSeq_r]
          rw [← hQ]
          have hpu : putU (n : Int) = (putN n).map UInt8.ofNat := by rw [putU, if_pos hcp, Int.toNat_natCast]
          have hlen : (putN n).length = j + 1 := by rw [putN_eq hle hi]; simp [tailB_len]
          refine ⟨trivial, .inr ⟨1, bytesAV (putU n), rfl, 2, (γ', 10, 0), rfl, ?_, hf.1, ?_, ?_, ?_, by omega, ?_⟩⟩
          · show AV.ms _ 1 (j + 1) = _
            rw [bytesAV_length', hpu, List.length_map, hlen]
          · rw [hpu, bytes_cells (putN_lt h1)]; exact List.mem_cons_self
          · rw [hpu, bytes_cells (putN_lt h1)]; exact cellsB_closed _
          · intro x hx
            obtain ⟨c, _, rfl⟩ := List.mem_map.1 hx
            rfl
          · rw [bytesAV_length', hpu, List.length_map, hlen]
            simp only [maxLen]; omega
end Go.Proofs.YtfnngjnfajnpaaaDoor

namespace Go.Proofs.YtfnngjnfajnpaaaDoor
open Go Go.Ab

structure Mo where
  button : Int
  type : Int
  x : Int
  y : Int
  mods : Int
  deriving DecidableEq
def moAV (e : Mo) : List AV := [.int .i64 e.button, .int .i64 e.type, .int .i64 e.x, .int .i64 e.y, .int .i64 e.mods]
def btnM (n : Int) : Bool := (decide (n ≥ 1) && decide (n ≤ 3)) || (decide (n ≥ 8) && decide (n ≤ 11))
def kindM (e : Mo) : Bool := if e.type = 1 then decide (e.button ≥ 1) && decide (e.button ≤ 11) else if e.type = 3 then btnM e.button else (e.type == 4) && ((e.button == 0) || btnM e.button)
def cellM (e : Mo) : Bool := decide (1 ≤ e.x) && decide (e.x ≤ 65535) && decide (1 ≤ e.y) && decide (e.y ≤ 65535) && decide (0 ≤ e.mods) && decide (e.mods ≤ 255)
def mayM (e : Mo) : Bool := cellM e && kindM e
structure MayM (e : Mo) : Prop where
  x0 : 1 ≤ e.x
  x1 : e.x ≤ 65535
  y0 : 1 ≤ e.y
  y1 : e.y ≤ 65535
  m0 : 0 ≤ e.mods
  m1 : e.mods ≤ 255
  kd : (e.type = 1 ∧ 1 ≤ e.button ∧ e.button ≤ 11) ∨ (e.type = 3 ∧ (1 ≤ e.button ∧ e.button ≤ 3 ∨ 8 ≤ e.button ∧ e.button ≤ 11)) ∨ (e.type = 4 ∧ (e.button = 0 ∨ 1 ≤ e.button ∧ e.button ≤ 3 ∨ 8 ≤ e.button ∧ e.button ≤ 11))
theorem mayM_iff {e : Mo} : mayM e = true ↔ MayM e := by
  unfold mayM cellM kindM btnM
  simp only [Bool.and_eq_true, decide_eq_true_eq]
  constructor
  · rintro ⟨⟨⟨⟨⟨⟨a, b⟩, c⟩, d⟩, f⟩, g⟩, h⟩
    refine ⟨a, b, c, d, f, g, ?_⟩
    split at h
    · simp only [Bool.and_eq_true, decide_eq_true_eq] at h; omega
    · split at h
      · simp only [Bool.and_eq_true, Bool.or_eq_true, decide_eq_true_eq] at h; omega
      · simp only [Bool.and_eq_true, Bool.or_eq_true, decide_eq_true_eq, beq_iff_eq] at h; omega
  · rintro ⟨a, b, c, d, f, g, h⟩
    refine ⟨⟨⟨⟨⟨⟨a, b⟩, c⟩, d⟩, f⟩, g⟩, ?_⟩
    split
    · simp only [Bool.and_eq_true, decide_eq_true_eq]; omega
    · split
      · simp only [Bool.and_eq_true, Bool.or_eq_true, decide_eq_true_eq]; omega
      · simp only [Bool.and_eq_true, Bool.or_eq_true, decide_eq_true_eq, beq_iff_eq]; omega
def numM (n : Int) : Int := if n = 0 then 3 else if n ≤ 3 then n - 1 else if n ≤ 7 then 60 + n else 120 + n
def marksM (mode : Int) (e : Mo) : Int := (if e.type = 4 then 32 else 0) + (if mode = 9 then 0 else 4 * (e.mods % 8))
def codeM (mode : Int) (e : Mo) : Int := if mayM e = true then numM e.button + marksM mode e else 0
def blindM (mode : Int) (e : Mo) : Int := if e.type = 3 then 3 + marksM mode e else codeM mode e
def byteM (n : Int) : UInt8 := UInt8.ofNat (n % 256).toNat
def exactQ (mode : Int) (e : Mo) : Sq := numSq 1 60 (if e.type = 3 then 109 else 77) [codeM mode e, e.x, e.y]
def wordsQ (mode : Int) (e : Mo) : Sq := numSq 1 0 77 [32 + blindM mode e, e.x, e.y]
def wideB (mode : Int) (e : Mo) : List UInt8 := if e.x > 2015 ∨ e.y > 2015 then [] else [27, 91, 77] ++ (putU (32 + blindM mode e) ++ (putU (32 + e.x) ++ putU (32 + e.y)))
def plainM (mode : Int) (e : Mo) : List UInt8 := if e.x > 223 ∨ e.y > 223 then [] else [27, 91, 77, byteM (32 + blindM mode e), byteM (32 + e.x), byteM (32 + e.y)]
def encM (mode coding : Int) (e : Mo) : List UInt8 :=
  if mayM e = false then [] else if coding = 1006 then putB (exactQ mode e) else if coding = 1015 then putB (wordsQ mode e) else if coding = 1005 then wideB mode e else plainM mode e
theorem num_range {e : Mo} (M : MayM e) : 0 ≤ numM e.button ∧ numM e.button ≤ 131 := by
  have := M.kd
  unfold numM
  repeat' split
  all_goals omega
theorem marks_range (mode : Int) (e : Mo) : 0 ≤ marksM mode e ∧ marksM mode e ≤ 60 := by
  unfold marksM
  repeat' split
  all_goals omega
theorem code_range {mode : Int} {e : Mo} (M : MayM e) : codeM mode e = numM e.button + marksM mode e ∧ 0 ≤ codeM mode e ∧ codeM mode e ≤ 191 := by
  have h1 := num_range M
  have h2 := marks_range mode e
  have h : codeM mode e = numM e.button + marksM mode e := by unfold codeM; rw [mayM_iff.2 M]; rfl
  omega
theorem blind_range {mode : Int} {e : Mo} (M : MayM e) : 0 ≤ blindM mode e ∧ blindM mode e ≤ 191 := by
  have h1 := code_range (mode := mode) M
  have h2 := marks_range mode e
  unfold blindM
  split <;> omega
theorem may3q {pr fi a b c : Int} (hpr : pr = 0 ∨ pr = 60) (hfi : fi = 77 ∨ fi = 109) (ha : 0 ≤ a ∧ a ≤ 1114111) (hb : 0 ≤ b ∧ b ≤ 1114111) (hc : 0 ≤ c ∧ c ≤ 1114111) : mayP (numSq 1 pr fi [a, b, c]) = 0 := by
  have hp : parsOk (([a, b, c] : List Int).map fun n => [n]) = true := by
    simp only [parsOk, List.map_cons, List.map_nil, List.any_cons, List.any_nil, parBad, List.length_cons, List.length_nil]
    have q : ∀ {x : Int}, 0 ≤ x ∧ x ≤ 1114111 → (decide (x < -1) || decide (x > 1114111)) = false := fun h => by
      rw [decide_eq_false (by omega), decide_eq_false (by omega)]; rfl
    rw [q ha, q hb, q hc]
    simp
  unfold mayP numSq
  rw [hp]
  rcases hpr with rfl | rfl <;> rcases hfi with rfl | rfl <;> simp [within, shapedP]
theorem exact_may {mode : Int} {e : Mo} (M : MayM e) : mayP (exactQ mode e) = 0 := by
  have h1 := code_range (mode := mode) M
  have hx0 := M.x0
  have hx1 := M.x1
  have hy0 := M.y0
  have hy1 := M.y1
  exact may3q (.inr rfl) (by split; exact .inr rfl; exact .inl rfl) (by omega) (by omega) (by omega)
theorem words_may {mode : Int} {e : Mo} (M : MayM e) : mayP (wordsQ mode e) = 0 := by
  have h1 := blind_range (mode := mode) M
  have hx0 := M.x0
  have hx1 := M.x1
  have hy0 := M.y0
  have hy1 := M.y1
  exact may3q (.inl rfl) (.inl rfl) (by omega) (by omega) (by omega)
theorem code_inj {e f : Mo} (M : MayM e) (N : MayM f) (h3 : e.type = 3 ↔ f.type = 3) (h : codeM 1003 e = codeM 1003 f) : e.button = f.button ∧ e.type = f.type ∧ e.mods % 8 = f.mods % 8 := by
  rw [(code_range M).1, (code_range N).1] at h
  have h1 := M.kd
  have h2 := N.kd
  have n9 : ¬ (1003 : Int) = 9 := by omega
  unfold marksM at h
  rw [if_neg n9, if_neg n9] at h
  have key : ∀ b : Int, 0 ≤ b → b ≤ 11 → ∃ k j : Int, numM b = 64 * k + j ∧ 0 ≤ j ∧ j < 4 ∧ 0 ≤ k ∧ k ≤ 2 ∧ b = (if k = 0 then (if j = 3 then 0 else j + 1) else 4 * k + j) := by
    intro b b0 b1
    unfold numM
    by_cases c0 : b = 0
    · exact ⟨0, 3, by rw [if_pos c0]; rfl, by omega, by omega, by omega, by omega, by simp [c0]⟩
    · by_cases c1 : b ≤ 3
      · exact ⟨0, b - 1, by rw [if_neg c0, if_pos c1]; omega, by omega, by omega, by omega, by omega, by rw [if_pos rfl, if_neg (by omega)]; omega⟩
      · by_cases c2 : b ≤ 7
        · exact ⟨1, b - 4, by rw [if_neg c0, if_neg c1, if_pos c2]; omega, by omega, by omega, by omega, by omega, by rw [if_neg (by omega)]; omega⟩
        · exact ⟨2, b - 8, by rw [if_neg c0, if_neg c1, if_neg c2]; omega, by omega, by omega, by omega, by omega, by rw [if_neg (by omega)]; omega⟩
  obtain ⟨k1, j1, e1, a1, a2, a3, a4, a5⟩ := key e.button (by omega) (by omega)
  obtain ⟨k2, j2, e2, b1, b2, b3, b4, b5⟩ := key f.button (by omega) (by omega)
  rw [e1, e2] at h
  have r1 : 0 ≤ e.mods % 8 ∧ e.mods % 8 < 8 := by omega
  have r2 : 0 ≤ f.mods % 8 ∧ f.mods % 8 < 8 := by omega
  generalize e.mods % 8 = r at *
  generalize f.mods % 8 = s at *
  have hh : k1 = k2 ∧ j1 = j2 ∧ r = s ∧ (e.type = 4 ↔ f.type = 4) := by
    clear a5 b5 key
    split at h <;> split at h <;> omega
  obtain ⟨rfl, rfl, rfl, h4⟩ := hh
  exact ⟨by rw [a5, b5], by omega, rfl⟩
end Go.Proofs.YtfnngjnfajnpaaaDoor

namespace Go.Proofs.YtfnngjnfajnpaaaDoor
open Go Go.Ab
def ir_trackMay : ICode :=
 (.seq
 (.reg [⟨some 1, none, .box 50 (.t 0)⟩,
 ⟨some 2, none, .mov (.c (.bool false))⟩] (some [1]))
 (.seq
 (.seq
 (.reg [⟨some 7, none, .fa 2 (.t 1)⟩,
 ⟨some 8, none, .ld none (.t 7)⟩,
 ⟨some 9, none, .fa 3 (.t 1)⟩,
 ⟨some 10, none, .ld none (.t 9)⟩,
 ⟨some 11, none, .mm true (.t 8) (.t 10)⟩,
 ⟨some 12, none, .bin .lss .none (.t 11) (.c (.int .i64 1))⟩,
 ⟨some 13, none, .mov (.t 12)⟩,
 ⟨some 14, some (13, false), .fa 2 (.t 1)⟩,
 ⟨some 15, some (13, false), .ld none (.t 14)⟩,
 ⟨some 16, some (13, false), .fa 3 (.t 1)⟩,
 ⟨some 17, some (13, false), .ld none (.t 16)⟩,
 ⟨some 18, some (13, false), .mm false (.t 15) (.t 17)⟩,
 ⟨some 19, some (13, false), .bin .gtr .none (.t 18) (.c (.int .i64 65535))⟩,
 ⟨some 20, none, .pick (.t 13) (.c (.bool true)) (.t 19)⟩,
 ⟨some 21, none, .mov (.t 20)⟩,
 ⟨some 22, some (21, false), .fa 4 (.t 1)⟩,
 ⟨some 23, some (21, false), .ld none (.t 22)⟩,
 ⟨some 24, some (21, false), .bin .lss .none (.t 23) (.c (.int .i64 0))⟩,
 ⟨some 25, none, .pick (.t 21) (.c (.bool true)) (.t 24)⟩,
 ⟨some 26, none, .mov (.t 25)⟩,
 ⟨some 27, some (26, false), .fa 4 (.t 1)⟩,
 ⟨some 28, some (26, false), .ld none (.t 27)⟩,
 ⟨some 29, some (26, false), .bin .gtr .none (.t 28) (.c (.int .i64 255))⟩,
 ⟨some 30, none, .pick (.t 26) (.c (.bool true)) (.t 29)⟩] (some [1, 30]))
 (.cond (.t 30)
 (.seq
 (.reg [⟨some 2, none, .mov (.c (.bool false))⟩] (some [2]))
 .ret)
 .skip))
 (.seq
 (.reg [⟨some 31, none, .fa 0 (.t 1)⟩,
 ⟨some 32, none, .ld none (.t 31)⟩,
 ⟨some 33, none, .bin .gtr .none (.t 32) (.c (.int .i64 3))⟩,
 ⟨some 34, none, .mov (.t 33)⟩,
 ⟨some 35, some (34, true), .fa 0 (.t 1)⟩,
 ⟨some 36, some (34, true), .ld none (.t 35)⟩,
 ⟨some 37, some (34, true), .bin .lss .none (.t 36) (.c (.int .i64 8))⟩,
 ⟨some 38, none, .pick (.t 34) (.t 37) (.c (.bool false))⟩,
 ⟨some 3, none, .mov (.t 38)⟩] (some [1, 3]))
 (.seq
 (.reg [⟨some 39, none, .mkm⟩,
 ⟨none, none, .ins .int (.t 39) (.c (.int .i64 1)) (.c (.int .i64 1))⟩,
 ⟨none, none, .ins .int (.t 39) (.c (.int .i64 3)) (.c (.int .i64 1))⟩,
 ⟨none, none, .ins .int (.t 39) (.c (.int .i64 4)) (.c (.int .i64 0))⟩,
 ⟨some 40, none, .mov (.t 39)⟩,
 ⟨some 4, none, .mov (.t 40)⟩] (some [1, 3, 4]))
 (.seq
 (.reg [⟨some 42, none, .mov (.t 4)⟩,
 ⟨some 43, none, .fa 1 (.t 1)⟩,
 ⟨some 44, none, .ld none (.t 43)⟩,
 ⟨some 45, none, .lkp .int (.int .i64 0) true (.t 42) (.t 44)⟩,
 ⟨some 41, none, .mov (.t 45)⟩,
 ⟨some 46, none, .ext (.t 41) 0⟩,
 ⟨some 47, none, .ext (.t 41) 1⟩,
 ⟨some 5, none, .mov (.t 46)⟩,
 ⟨some 6, none, .mov (.t 47)⟩] (some [1, 3, 5, 6]))
 (.seq
 (.reg [⟨some 48, none, .mov (.t 6)⟩,
 ⟨some 49, none, .mov (.t 48)⟩,
 ⟨some 50, some (49, true), .fa 0 (.t 1)⟩,
 ⟨some 51, some (49, true), .ld none (.t 50)⟩,
 ⟨some 52, some (49, true), .mov (.t 5)⟩,
 ⟨some 53, some (49, true), .bin .geq .none (.t 51) (.t 52)⟩,
 ⟨some 54, none, .pick (.t 49) (.t 53) (.c (.bool false))⟩,
 ⟨some 55, none, .mov (.t 54)⟩,
 ⟨some 56, some (55, true), .fa 0 (.t 1)⟩,
 ⟨some 57, some (55, true), .ld none (.t 56)⟩,
 ⟨some 58, some (55, true), .bin .leq .none (.t 57) (.c (.int .i64 11))⟩,
 ⟨some 59, none, .pick (.t 55) (.t 58) (.c (.bool false))⟩,
 ⟨some 60, none, .mov (.t 59)⟩,
 ⟨some 61, some (60, true), .mov (.t 3)⟩,
 ⟨some 62, some (60, true), .un .not (.t 61)⟩,
 ⟨some 63, some (60, true), .mov (.t 62)⟩,
 ⟨some 64, some (63, false), .fa 1 (.t 1)⟩,
 ⟨some 65, some (63, false), .ld none (.t 64)⟩,
 ⟨some 66, some (63, false), .bin .eql .none (.t 65) (.c (.int .i64 1))⟩,
 ⟨some 67, some (60, true), .pick (.t 63) (.c (.bool true)) (.t 66)⟩,
 ⟨some 68, none, .pick (.t 60) (.t 67) (.c (.bool false))⟩,
 ⟨some 2, none, .mov (.t 68)⟩] (some [2]))
 .ret))))))
theorem is_trackMay : IrOf Tryd.prog 45 69 ir_trackMay [.t 2] := ⟨_, Tryd.func45, rfl, by kernel_rfl, by kernel_rfl, by kernel_rfl⟩

def ir_mousebutton : ICode :=
 (.seq
 (.reg [⟨some 2, none, .mov (.c (.int .i64 0))⟩] (some [0]))
 (.seq
 (.blk 0
 (.seq
 (.reg [⟨some 4, none, .mov (.t 0)⟩,
 ⟨some 5, none, .bin .eql .none (.t 4) (.c (.int .i64 0))⟩,
 ⟨some 3, none, .mov (.t 5)⟩] (some [0, 3]))
 (.cond (.t 3)
 (.seq
 (.reg [⟨some 2, none, .mov (.c (.int .i64 3))⟩] (some [2]))
 .ret)
 (.seq
 (.reg [⟨some 7, none, .mov (.t 0)⟩,
 ⟨some 8, none, .bin .leq .none (.t 7) (.c (.int .i64 3))⟩,
 ⟨some 6, none, .mov (.t 8)⟩] (some [0, 6]))
 (.cond (.t 6)
 (.seq
 (.reg [⟨some 9, none, .mov (.t 0)⟩,
 ⟨some 10, none, .bin .sub .none (.t 9) (.c (.int .i64 1))⟩,
 ⟨some 2, none, .mov (.t 10)⟩] (some [2]))
 .ret)
 (.seq
 (.reg [⟨some 12, none, .mov (.t 0)⟩,
 ⟨some 13, none, .bin .leq .none (.t 12) (.c (.int .i64 7))⟩,
 ⟨some 11, none, .mov (.t 13)⟩] (some [0, 11]))
 (.cond (.t 11)
 (.seq
 (.reg [⟨some 14, none, .mov (.t 0)⟩,
 ⟨some 15, none, .bin .add .none (.c (.int .i64 64)) (.t 14)⟩,
 ⟨some 16, none, .bin .sub .none (.t 15) (.c (.int .i64 3))⟩,
 ⟨some 17, none, .bin .sub .none (.t 16) (.c (.int .i64 1))⟩,
 ⟨some 2, none, .mov (.t 17)⟩] (some [2]))
 .ret)
 .skip)))))))
 (.seq
 (.reg [⟨some 18, none, .mov (.t 0)⟩,
 ⟨some 19, none, .bin .add .none (.c (.int .i64 128)) (.t 18)⟩,
 ⟨some 20, none, .bin .sub .none (.t 19) (.c (.int .i64 7))⟩,
 ⟨some 21, none, .bin .sub .none (.t 20) (.c (.int .i64 1))⟩,
 ⟨some 2, none, .mov (.t 21)⟩] (some [2]))
 .ret)))
theorem is_mousebutton : IrOf Tryd.prog 68 22 ir_mousebutton [.t 2] := ⟨_, Tryd.func68, rfl, by kernel_rfl, by kernel_rfl, by kernel_rfl⟩

def ir_mousewhenint : ICode :=
 (.seq
 (.reg [⟨some 4, none, .mov (.c (.int .i64 0))⟩] (some [0, 1]))
 (.seq
 (.reg [⟨some 5, none, .mov (.c (.int .i64 0))⟩] (some [0, 1, 5]))
 (.seq
 (.seq
 (.reg [⟨some 6, none, .mov (.t 0)⟩] (some [1, 5, 6]))
 (.cond (.t 6)
 (.seq
 (.reg [⟨some 7, none, .mov (.t 1)⟩,
 ⟨some 4, none, .mov (.t 7)⟩] (some [4]))
 .ret)
 .skip))
 (.seq
 (.reg [⟨some 8, none, .mov (.t 5)⟩,
 ⟨some 4, none, .mov (.t 8)⟩] (some [4]))
 .ret))))
theorem is_mousewhenint : IrOf Tryd.prog 69 9 ir_mousewhenint [.t 4] := ⟨_, Tryd.func69, rfl, by kernel_rfl, by kernel_rfl, by kernel_rfl⟩

/- clavier/mouse.sum -/
def ir_mousesum_l0 : ICode :=
 (.seq
 (.reg [⟨some 9, none, .bin .lss .none (.t 8) (.t 7)⟩] (some [3, 6, 7, 8, 9]))
 (.seq
 (.cond (.t 9)
 .skip
 (.exit 0))
 (.seq
 (.blk 1
 (.seq
 (.reg [⟨some 10, none, .ia 1 (.t 6) (.t 8)⟩,
 ⟨some 11, none, .ld none (.t 10)⟩,
 ⟨some 5, none, .mov (.t 11)⟩] (some [3, 5, 6, 7, 8]))
 (.reg [⟨some 12, none, .mov (.t 3)⟩,
 ⟨some 13, none, .mov (.t 5)⟩,
 ⟨some 14, none, .bin .add .none (.t 12) (.t 13)⟩,
 ⟨some 3, none, .mov (.t 14)⟩] (some [3, 6, 7, 8]))))
 (.reg [⟨some 15, none, .bin .add .none (.t 8) (.c (.int .i64 1))⟩,
 ⟨some 8, none, .mov (.t 15)⟩] (some [3, 6, 7, 8])))))
def ir_mousesum : ICode :=
 (.seq
 (.reg [⟨some 2, none, .mov (.c (.int .i64 0))⟩] (some [0]))
 (.seq
 (.reg [⟨some 3, none, .mov (.c (.int .i64 0))⟩] (some [0, 3]))
 (.seq
 (.seq
 (.reg [⟨some 6, none, .mov (.t 0)⟩,
 ⟨some 7, none, .len (.t 6)⟩,
 ⟨some 8, none, .mov (.c (.int .i64 0))⟩] (some [3, 6, 7, 8]))
 (.blk 0
 (.loop
 ir_mousesum_l0)))
 (.seq
 (.reg [⟨some 16, none, .mov (.t 3)⟩,
 ⟨some 2, none, .mov (.t 16)⟩] (some [2]))
 .ret))))
theorem is_mousesum : IrOf Tryd.prog 70 17 ir_mousesum [.t 2] := ⟨_, Tryd.func70, rfl, by kernel_rfl, by kernel_rfl, by kernel_rfl⟩

def ir_mousemarks : ICode :=
 (.seq
 (.reg [⟨some 3, none, .box 50 (.t 1)⟩,
 ⟨some 4, none, .mov (.c (.int .i64 0))⟩] (some [0, 3]))
 (.seq
 (.reg [⟨some 6, none, .fa 1 (.t 3)⟩,
 ⟨some 7, none, .ld none (.t 6)⟩,
 ⟨some 8, none, .bin .eql .none (.t 7) (.c (.int .i64 4))⟩,
 ⟨some 9, none, .call (.c (.fn (.func 69) [] [])) [(.t 8), (.c (.int .i64 32))]⟩,
 ⟨some 5, none, .mov (.t 9)⟩] (some [0, 3, 5]))
 (.seq
 (.seq
 (.reg [⟨some 10, none, .mov (.t 0)⟩,
 ⟨some 11, none, .bin .eql .none (.t 10) (.c (.int .i64 9))⟩] (some [3, 5, 11]))
 (.cond (.t 11)
 (.seq
 (.reg [⟨some 12, none, .mov (.t 5)⟩,
 ⟨some 4, none, .mov (.t 12)⟩] (some [4]))
 .ret)
 .skip))
 (.seq
 (.drw [⟨⟨some 13, none, .mov (.t 5)⟩, []⟩,
 ⟨⟨some 14, none, .fa 4 (.t 3)⟩, []⟩,
 ⟨⟨some 15, none, .ld none (.t 14)⟩, [1]⟩,
 ⟨⟨some 16, none, .bin .and .none (.t 15) (.c (.int .i64 1))⟩, [2]⟩,
 ⟨⟨some 17, none, .bin .neq .none (.t 16) (.c (.int .i64 0))⟩, [3]⟩,
 ⟨⟨some 18, none, .call (.c (.fn (.func 69) [] [])) [(.t 17), (.c (.int .i64 4))]⟩, [4]⟩,
 ⟨⟨some 19, none, .fa 4 (.t 3)⟩, []⟩,
 ⟨⟨some 20, none, .ld none (.t 19)⟩, [6]⟩,
 ⟨⟨some 21, none, .bin .and .none (.t 20) (.c (.int .i64 2))⟩, [7]⟩,
 ⟨⟨some 22, none, .bin .neq .none (.t 21) (.c (.int .i64 0))⟩, [8]⟩,
 ⟨⟨some 23, none, .call (.c (.fn (.func 69) [] [])) [(.t 22), (.c (.int .i64 8))]⟩, [9, 5]⟩,
 ⟨⟨some 24, none, .fa 4 (.t 3)⟩, []⟩,
 ⟨⟨some 25, none, .ld none (.t 24)⟩, [11]⟩,
 ⟨⟨some 26, none, .bin .and .none (.t 25) (.c (.int .i64 4))⟩, [12]⟩,
 ⟨⟨some 27, none, .bin .neq .none (.t 26) (.c (.int .i64 0))⟩, [13]⟩,
 ⟨⟨some 28, none, .call (.c (.fn (.func 69) [] [])) [(.t 27), (.c (.int .i64 16))]⟩, [14, 10]⟩,
 ⟨⟨some 29, none, .row 3 1 [(.t 13), (.t 18), (.t 23), (.t 28)]⟩, [0, 5, 10, 15]⟩,
 ⟨⟨some 30, none, .call (.c (.fn (.func 70) [] [])) [(.t 29)]⟩, [16, 15]⟩]
 [⟨some 4, none, .mov (.t 30)⟩] (some [4]))
 .ret))))
theorem is_mousemarks : IrOf Tryd.prog 46 31 ir_mousemarks [.t 4] := ⟨_, Tryd.func46, rfl, by kernel_rfl, by kernel_rfl, by kernel_rfl⟩

def ir_mouseCode : ICode :=
 (.seq
 (.reg [⟨some 3, none, .box 50 (.t 1)⟩,
 ⟨some 4, none, .mov (.c (.int .i64 0))⟩] (some [0, 3]))
 (.seq
 (.seq
 (.reg [⟨some 5, none, .ld (some 5) (.t 3)⟩,
 ⟨some 6, none, .call (.c (.fn (.func 45) [] [])) [(.t 5)]⟩,
 ⟨some 7, none, .un .not (.t 6)⟩] (some [0, 3, 7]))
 (.cond (.t 7)
 (.seq
 (.reg [⟨some 4, none, .mov (.c (.int .i64 0))⟩] (some [4]))
 .ret)
 .skip))
 (.seq
 (.drw [⟨⟨some 8, none, .fa 0 (.t 3)⟩, []⟩,
 ⟨⟨some 9, none, .ld none (.t 8)⟩, [0]⟩,
 ⟨⟨some 10, none, .call (.c (.fn (.func 68) [] [])) [(.t 9)]⟩, [1]⟩,
 ⟨⟨some 11, none, .mov (.t 0)⟩, []⟩,
 ⟨⟨some 12, none, .ld (some 5) (.t 3)⟩, []⟩,
 ⟨⟨some 13, none, .call (.c (.fn (.func 46) [] [])) [(.t 11), (.t 12)]⟩, [3, 4, 2]⟩,
 ⟨⟨some 14, none, .bin .add .none (.t 10) (.t 13)⟩, [2, 5]⟩]
 [⟨some 4, none, .mov (.t 14)⟩] (some [4]))
 .ret)))
theorem is_mouseCode : IrOf Tryd.prog 43 15 ir_mouseCode [.t 4] := ⟨_, Tryd.func43, rfl, by kernel_rfl, by kernel_rfl, by kernel_rfl⟩

theorem fe_nil' {kc : KC} {k : AV} : findE kc k [] = some none := rfl
theorem fe_int' {k : IntKind} {a b : Int} {v : AV} {es : List (AV × AV)} : findE .int (.int k a) ((.int k b, v) :: es) = if (a == b) = true then some (some v) else findE .int (.int k a) es := by
  simp only [findE, keyEq, if_true]
  cases (a == b) <;> rfl
theorem isKey_int' {k : IntKind} {a : Int} : (isKey .int (.int k a) = true) = True := by simp [isKey]
theorem cell_prog (e : Mo) : cellM e = !(((decide ((if e.y < e.x then e.y else e.x) < 1) || decide ((if e.y > e.x then e.y else e.x) > 65535)) || decide (e.mods < 0)) || decide (e.mods > 255)) := by
  unfold cellM
  rw [Bool.eq_iff_iff]
  simp only [Bool.and_eq_true, Bool.not_eq_true', Bool.or_eq_false_iff, decide_eq_true_eq, decide_eq_false_iff_not]
  constructor
  · intro h
    split <;> split <;> omega
  · intro h
    split at h <;> split at h <;> omega
theorem fs_tMay {Gl : Gh → Prop} (hst : Stays Gl) {e : Mo} : FS Tryd.prog Gl 45 [.agg (moAV e)] [] [] (.bool (mayM e)) [] [] := by
  refine FS.of hm hst is_trackMay (by simp) fun γ hγ hfr => ?_
  have hmo : moAV e = [.int .i64 e.button, .int .i64 e.type, .int .i64 e.x, .int .i64 e.y, .int .i64 e.mods] := rfl
  have hz : mayM e = (cellM e && kindM e) := rfl
  simp only [hmo]
  (generalize hQ : (fun (ex : Ex) (_ _ : Nat) (s : St) => _) = Q; unfold ir_trackMay)
  simp +contextual (maxSteps := 1000000) only [fe_nil', fe_int', isKey_int', go_sem, reduceCtorEq, ↓reduceIte, Nat.reduceAdd, Nat.reduceEqDiff, Nat.reduceLeDiff, Nat.reduceMul, Nat.reduceBEq, Int.reduceBEq, Int.reduceBNe, Int.reduceLT, Int.reduceLE, Int.reduceGT, Int.reduceGE, Int.reduceToNat]
  have hcp := cell_prog e
  cases hC : (((decide ((if e.y < e.x then e.y else e.x) < 1) || decide ((if e.y > e.x then e.y else e.x) > 65535)) || decide (e.mods < 0)) || decide (e.mods > 255)) with
  | true =>
    rw [hC] at hcp
    simp +contextual (maxSteps := 1000000) only [hC, go_sem, reduceCtorEq, ↓reduceIte, Nat.reduceAdd, Nat.reduceEqDiff, Nat.reduceLeDiff, Nat.reduceMul, Nat.reduceBEq, Int.reduceBEq, Int.reduceBNe, Int.reduceLT, Int.reduceLE, Int.reduceGT, Int.reduceGE, Int.reduceToNat]
    rw [← hQ, hz, hcp]
    exact ⟨trivial, Ret.flat rfl rfl⟩
  | false =>
    rw [hC] at hcp
    have hz : mayM e = kindM e := by rw [hz, hcp]; rfl
    have fin : ∀ {b : Bool} {γ' c' : Nat} {st : St}, st.F 2 = .bool b → b = kindM e → Q .ret γ' c' st := by
      intro b γ' c' st h hb
      rw [← hQ, hz, ← hb]
      exact ⟨trivial, Ret.flat (by simp only [resOf, getAll, IRes.get, h]) rfl⟩
    by_cases t1 : e.type = 1
    · have q1 : (e.type == 1) = true := beq_iff_eq.2 t1
      simp +contextual (maxSteps := 1000000) only [hC, q1, fe_nil', fe_int', isKey_int', go_sem, reduceCtorEq, ↓reduceIte, Nat.reduceAdd, Nat.reduceEqDiff, Nat.reduceLeDiff, Nat.reduceMul, Nat.reduceBEq, Int.reduceBEq, Int.reduceBNe, Int.reduceLT, Int.reduceLE, Int.reduceGT, Int.reduceGE, Int.reduceToNat]
      refine fin rfl ?_
      unfold kindM
      rw [if_pos t1]
    · have q1 : (e.type == 1) = false := beq_eq_false_iff_ne.2 t1
      by_cases t3 : e.type = 3
      · have q3 : (e.type == 3) = true := beq_iff_eq.2 t3
        simp +contextual (maxSteps := 1000000) only [hC, q1, q3, fe_nil', fe_int', isKey_int', go_sem, reduceCtorEq, ↓reduceIte, Nat.reduceAdd, Nat.reduceEqDiff, Nat.reduceLeDiff, Nat.reduceMul, Nat.reduceBEq, Int.reduceBEq, Int.reduceBNe, Int.reduceLT, Int.reduceLE, Int.reduceGT, Int.reduceGE, Int.reduceToNat]
        refine fin rfl ?_
        unfold kindM btnM
        rw [if_neg t1, if_pos t3, Bool.eq_iff_iff]
        simp only [Bool.and_eq_true, Bool.or_eq_true, Bool.not_eq_true', Bool.and_eq_false_iff, decide_eq_true_eq, decide_eq_false_iff_not]
        omega
      · have q3 : (e.type == 3) = false := beq_eq_false_iff_ne.2 t3
        by_cases t4 : e.type = 4
        · have q4 : (e.type == 4) = true := beq_iff_eq.2 t4
          simp +contextual (maxSteps := 1000000) only [hC, q1, q3, q4, fe_nil', fe_int', isKey_int', go_sem, reduceCtorEq, ↓reduceIte, Nat.reduceAdd, Nat.reduceEqDiff, Nat.reduceLeDiff, Nat.reduceMul, Nat.reduceBEq, Int.reduceBEq, Int.reduceBNe, Int.reduceLT, Int.reduceLE, Int.reduceGT, Int.reduceGE, Int.reduceToNat]
          refine fin rfl ?_
          unfold kindM btnM
          rw [if_neg t1, if_neg t3, q4, Bool.eq_iff_iff]
          simp only [Bool.and_eq_true, Bool.or_eq_true, Bool.not_eq_true', Bool.and_eq_false_iff, decide_eq_true_eq, decide_eq_false_iff_not, beq_iff_eq, true_and]
          omega
        · have q4 : (e.type == 4) = false := beq_eq_false_iff_ne.2 t4
          simp +contextual (maxSteps := 1000000) only [hC, q1, q3, q4, fe_nil', fe_int', isKey_int', go_sem, reduceCtorEq, ↓reduceIte, Nat.reduceAdd, Nat.reduceEqDiff, Nat.reduceLeDiff, Nat.reduceMul, Nat.reduceBEq, Int.reduceBEq, Int.reduceBNe, Int.reduceLT, Int.reduceLE, Int.reduceGT, Int.reduceGE, Int.reduceToNat]
          refine fin rfl ?_
          unfold kindM
          rw [if_neg t1, if_neg t3, q4]
          rfl
theorem fs_button {Gl : Gh → Prop} (hst : Stays Gl) {n : Int} (h0 : 0 ≤ n) (h1 : n ≤ 1000) : FS Tryd.prog Gl 68 [.int .i64 n] [] [] (.int .i64 (numM n)) [] [] := by
  refine FS.of hm hst is_mousebutton (by simp) fun γ hγ hfr => ?_
  have hz : numM n = if n = 0 then 3 else if n ≤ 3 then n - 1 else if n ≤ 7 then 60 + n else 120 + n := rfl
  have w1 : IntKind.i64.wrap (n - 1) = n - 1 := by rw [IntKind.wrap_i64]; omega
  have w2 : IntKind.i64.wrap (IntKind.i64.wrap (IntKind.i64.wrap (64 + n) - 3) - 1) = 60 + n := by rw [IntKind.wrap_i64, IntKind.wrap_i64, IntKind.wrap_i64]; omega
  have w3 : IntKind.i64.wrap (IntKind.i64.wrap (IntKind.i64.wrap (128 + n) - 7) - 1) = 120 + n := by rw [IntKind.wrap_i64, IntKind.wrap_i64, IntKind.wrap_i64]; omega
  (generalize hQ : (fun (ex : Ex) (_ _ : Nat) (s : St) => _) = Q; unfold ir_mousebutton)
  by_cases c0 : n = 0
  · have q0 : (n == 0) = true := beq_iff_eq.2 c0
    simp +contextual (maxSteps := 1000000) only [q0, go_sem, reduceCtorEq, ↓reduceIte, Nat.reduceAdd, Nat.reduceEqDiff, Nat.reduceLeDiff, Nat.reduceMul, Nat.reduceBEq, Int.reduceBEq, Int.reduceBNe, Int.reduceLT, Int.reduceLE, Int.reduceGT, Int.reduceGE, Int.reduceToNat]
    rw [← hQ, hz, if_pos c0]
    exact ⟨trivial, Ret.flat rfl rfl⟩
  · have q0 : (n == 0) = false := beq_eq_false_iff_ne.2 c0
    by_cases c1 : n ≤ 3
    · have q1 : decide (n ≤ 3) = true := decide_eq_true c1
      simp +contextual (maxSteps := 1000000) only [q0, q1, w1, go_sem, reduceCtorEq, ↓reduceIte, Nat.reduceAdd, Nat.reduceEqDiff, Nat.reduceLeDiff, Nat.reduceMul, Nat.reduceBEq, Int.reduceBEq, Int.reduceBNe, Int.reduceLT, Int.reduceLE, Int.reduceGT, Int.reduceGE, Int.reduceToNat]
      rw [← hQ, hz, if_neg c0, if_pos c1]
      exact ⟨trivial, Ret.flat rfl rfl⟩
    · have q1 : decide (n ≤ 3) = false := decide_eq_false c1
      by_cases c2 : n ≤ 7
      · have q2 : decide (n ≤ 7) = true := decide_eq_true c2
        simp +contextual (maxSteps := 1000000) only [q0, q1, q2, w2, go_sem, reduceCtorEq, ↓reduceIte, Nat.reduceAdd, Nat.reduceEqDiff, Nat.reduceLeDiff, Nat.reduceMul, Nat.reduceBEq, Int.reduceBEq, Int.reduceBNe, Int.reduceLT, Int.reduceLE, Int.reduceGT, Int.reduceGE, Int.reduceToNat]
        rw [← hQ, hz, if_neg c0, if_neg c1, if_pos c2]
        exact ⟨trivial, Ret.flat rfl rfl⟩
      · have q2 : decide (n ≤ 7) = false := decide_eq_false c2
        simp +contextual (maxSteps := 1000000) only [q0, q1, q2, w3, go_sem, reduceCtorEq, ↓reduceIte, Nat.reduceAdd, Nat.reduceEqDiff, Nat.reduceLeDiff, Nat.reduceMul, Nat.reduceBEq, Int.reduceBEq, Int.reduceBNe, Int.reduceLT, Int.reduceLE, Int.reduceGT, Int.reduceGE, Int.reduceToNat]
        rw [← hQ, hz, if_neg c0, if_neg c1, if_neg c2]
        exact ⟨trivial, Ret.flat rfl rfl⟩
theorem fs_when {Gl : Gh → Prop} (hst : Stays Gl) {b : Bool} {n : Int} : FS Tryd.prog Gl 69 [.bool b, .int .i64 n] [] [] (.int .i64 (if b = true then n else 0)) [] [] := by
  refine FS.of hm hst is_mousewhenint (by simp) fun γ hγ hfr => ?_
  (generalize hQ : (fun (ex : Ex) (_ _ : Nat) (s : St) => _) = Q; unfold ir_mousewhenint)
  cases b with
  | true =>
    simp +contextual (maxSteps := 1000000) only [go_sem, reduceCtorEq, ↓reduceIte, Nat.reduceAdd, Nat.reduceEqDiff, Nat.reduceLeDiff, Nat.reduceMul, Nat.reduceBEq, Int.reduceBEq, Int.reduceBNe, Int.reduceLT, Int.reduceLE, Int.reduceGT, Int.reduceGE, Int.reduceToNat]
    rw [← hQ]
    exact ⟨trivial, Ret.flat rfl rfl⟩
  | false =>
    simp +contextual (maxSteps := 1000000) only [go_sem, reduceCtorEq, ↓reduceIte, Nat.reduceAdd, Nat.reduceEqDiff, Nat.reduceLeDiff, Nat.reduceMul, Nat.reduceBEq, Int.reduceBEq, Int.reduceBNe, Int.reduceLT, Int.reduceLE, Int.reduceGT, Int.reduceGE, Int.reduceToNat]
    rw [← hQ]
    exact ⟨trivial, Ret.flat rfl rfl⟩
theorem fs_sum {Gl : Gh → Prop} (hst : Stays Gl) {l : List Int} {t : Option Nm} (hl : l.length ≤ 100) (hb : ∀ n ∈ l, 0 ≤ n ∧ n ≤ 1000) : FS Tryd.prog Gl 70 [.sl t 1 (intsAV l)] [] [] (.int .i64 l.sum) [] [] := by
  refine FS.of hm hst is_mousesum (by simp) fun γ hγ hfr => ?_
  have hs : ∀ k : Nat, k ≤ l.length → 0 ≤ (l.take k).sum ∧ (l.take k).sum ≤ 1000 * k := by
    intro k
    induction k with
    | zero => intro _; simp
    | succ k ih =>
      intro hk
      have := ih (by omega)
      have hm := hb l[k] (List.getElem_mem _)
      rw [List.take_add_one, List.getElem?_eq_getElem (by omega), List.sum_append]
      simp only [Option.toList_some, List.sum_cons, List.sum_nil]
      omega
  (generalize hQ : (fun (ex : Ex) (_ _ : Nat) (s : St) => _) = Q; unfold ir_mousesum)
  simp +contextual (maxSteps := 1000000) only [go_sem, reduceCtorEq, ↓reduceIte, Nat.reduceAdd, Nat.reduceEqDiff, Nat.reduceLeDiff, Nat.reduceMul, Nat.reduceBEq, Int.reduceBEq, Int.reduceBNe, Int.reduceLT, Int.reduceLE, Int.reduceGT, Int.reduceGE, Int.reduceToNat]
  refine kLoop_ix (fun i : Nat => ⟨lf [(3, .int .i64 (l.take i).sum), (6, .sl t 1 (intsAV l)), (7, .int .i64 l.length), (8, .int .i64 i)], [], fun x => x ∈ []⟩) (fun i => i ≤ l.length) (fun i => l.length - i) 0 0 (Wk.same ?_) (by simp) ?_
  · simp only [lfOK, intsAV_length]
    repeat' first | exact AVle.refl _ _ | exact trivial | refine And.intro ?_ ?_ | exact AVle.int (by simp only [IntKind.wrap_i64]; omega)
  rintro γ' i hf hi
  generalize hQ' : kIt _ _ _ _ _ = Q'
  unfold ir_mousesum_l0
  by_cases hlt : i < l.length
  · have hd : decide ((i : Int) < (l.length : Int)) = true := decide_eq_true (by omega)
    have hg : (intsAV l).getD i [] = [.int .i64 l[i]] := intsAV_get hlt
    have hw : IntKind.i64.wrap ((i : Int) + 1) = ((i + 1 : Nat) : Int) := by rw [IntKind.wrap_i64]; omega
    have h1 := hs i hi
    have h2 := hb l[i] (List.getElem_mem _)
    have hw2 : IntKind.i64.wrap ((l.take i).sum + l[i]) = (l.take (i + 1)).sum := by
      rw [List.take_add_one, List.getElem?_eq_getElem hlt, List.sum_append]
      simp only [Option.toList_some, List.sum_cons, List.sum_nil]
      rw [IntKind.wrap_i64]; omega
    simp +contextual (maxSteps := 1000000) only [hd, hg, Int.toNat_natCast, intsAV_length, hw, hw2, go_sem, reduceCtorEq, ↓reduceIte, Nat.reduceAdd, Nat.reduceEqDiff, Nat.reduceLeDiff, Nat.reduceMul, Nat.reduceBEq, Int.reduceBEq, Int.reduceBNe, Int.reduceLT, Int.reduceLE, Int.reduceGT, Int.reduceGE, Int.reduceToNat]
    refine ⟨by omega, ?_⟩
    rw [← hQ']
    simp only [w_kIt_n]
    refine ⟨0, i + 1, Wk.same ?_, by omega, by omega⟩
    repeat' first | exact AVle.refl _ _ | exact trivial | refine And.intro ?_ ?_ | exact AVle.int (by simp only [IntKind.wrap_i64]; omega)
  · have hd : decide ((i : Int) < (l.length : Int)) = false := decide_eq_false (by omega)
    simp +contextual (maxSteps := 1000000) only [hd, go_sem, reduceCtorEq, ↓reduceIte, Nat.reduceAdd, Nat.reduceEqDiff, Nat.reduceLeDiff, Nat.reduceMul, Nat.reduceBEq, Int.reduceBEq, Int.reduceBNe, Int.reduceLT, Int.reduceLE, Int.reduceGT, Int.reduceGE, Int.reduceToNat]
    rw [← hQ']
    simp only [w_kIt_e, w_kBlk_e, ↓reduceIte]
    simp +contextual (maxSteps := 1000000) only [go_sem, reduceCtorEq, ↓reduceIte, Nat.reduceAdd, Nat.reduceEqDiff, Nat.reduceLeDiff, Nat.reduceMul, Nat.reduceBEq, Int.reduceBEq, Int.reduceBNe, Int.reduceLT, Int.reduceLE, Int.reduceGT, Int.reduceGE, Int.reduceToNat]
    have : l.take i = l := List.take_of_length_le (by omega)
    rw [← hQ, this]
    exact ⟨trivial, Ret.flat rfl rfl⟩
theorem marks_bits : ∀ m : Fin 256, (if (bits .and .i64 ((m.val : Nat) : Int) 1 != 0) = true then (4 : Int) else 0) + ((if (bits .and .i64 ((m.val : Nat) : Int) 2 != 0) = true then (8 : Int) else 0) + (if (bits .and .i64 ((m.val : Nat) : Int) 4 != 0) = true then (16 : Int) else 0)) = 4 * (((m.val : Nat) : Int) % 8) := by decide +kernel
set_option maxHeartbeats 2000000 in
theorem fs_marks {Gl : Gh → Prop} (hst : Stays Gl) {mode : Int} {e : Mo} (h0 : 0 ≤ e.mods) (h1 : e.mods ≤ 255) : FS Tryd.prog Gl 46 [.int .i64 mode, .agg (moAV e)] [] [] (.int .i64 (marksM mode e)) [] [] := by
  refine FS.of hm hst is_mousemarks (by simp) fun γ hγ hfr => ?_
  have hmo : moAV e = [.int .i64 e.button, .int .i64 e.type, .int .i64 e.x, .int .i64 e.y, .int .i64 e.mods] := rfl
  have hz : marksM mode e = (if e.type = 4 then 32 else 0) + (if mode = 9 then 0 else 4 * (e.mods % 8)) := rfl
  obtain ⟨n0, hn0⟩ : ∃ n : Int, n = if (e.type == 4) = true then 32 else 0 := ⟨_, rfl⟩
  have hb := marks_bits ⟨e.mods.toNat, by omega⟩
  simp only at hb
  rw [show ((e.mods.toNat : Nat) : Int) = e.mods by omega] at hb
  obtain ⟨n1, hn1⟩ : ∃ n : Int, n = if (bits .and .i64 e.mods 1 != 0) = true then 4 else 0 := ⟨_, rfl⟩
  obtain ⟨n2, hn2⟩ : ∃ n : Int, n = if (bits .and .i64 e.mods 2 != 0) = true then 8 else 0 := ⟨_, rfl⟩
  obtain ⟨n3, hn3⟩ : ∃ n : Int, n = if (bits .and .i64 e.mods 4 != 0) = true then 16 else 0 := ⟨_, rfl⟩
  have c0 := fs_when (Gl := Gl) hst (b := e.type == 4) (n := 32)
  have c1 := fs_when (Gl := Gl) hst (b := bits .and .i64 e.mods 1 != 0) (n := 4)
  have c2 := fs_when (Gl := Gl) hst (b := bits .and .i64 e.mods 2 != 0) (n := 8)
  have c3 := fs_when (Gl := Gl) hst (b := bits .and .i64 e.mods 4 != 0) (n := 16)
  rw [← hn0] at c0
  rw [← hn1] at c1
  rw [← hn2] at c2
  rw [← hn3] at c3
  rw [← hn1, ← hn2, ← hn3] at hb
  have r0 : n0 = (if e.type = 4 then 32 else 0) := by rw [hn0]; simp
  have b0 : 0 ≤ n0 ∧ n0 ≤ 32 := by rw [hn0]; split <;> omega
  have b1 : 0 ≤ n1 ∧ n1 ≤ 4 := by rw [hn1]; split <;> omega
  have b2 : 0 ≤ n2 ∧ n2 ≤ 8 := by rw [hn2]; split <;> omega
  have b3 : 0 ≤ n3 ∧ n3 ≤ 16 := by rw [hn3]; split <;> omega
  have c4 := fun t : Option Nm => fs_sum (Gl := Gl) hst (l := [n0, n1, n2, n3]) (t := t) (by simp) (by simp; omega)
  have hi : intsAV [n0, n1, n2, n3] = [[.int .i64 n0], [.int .i64 n1], [.int .i64 n2], [.int .i64 n3]] := rfl
  rw [hi] at c4
  clear hn0 hn1 hn2 hn3
  simp only [hmo]
  (generalize hQ : (fun (ex : Ex) (_ _ : Nat) (s : St) => _) = Q; unfold ir_mousemarks)
  simp +contextual (maxSteps := 1000000) only [go_sem, reduceCtorEq, ↓reduceIte, Nat.reduceAdd, Nat.reduceEqDiff, Nat.reduceLeDiff, Nat.reduceMul, Nat.reduceBEq, Int.reduceBEq, Int.reduceBNe, Int.reduceLT, Int.reduceLE, Int.reduceGT, Int.reduceGE, Int.reduceToNat]
  (refine CallP.pure (c0) (fun _ => rfl) ?_; simp +contextual (maxSteps := 1000000) only [go_sem, reduceCtorEq, ↓reduceIte, Nat.reduceAdd, Nat.reduceEqDiff, Nat.reduceLeDiff, Nat.reduceMul, Nat.reduceBEq, Int.reduceBEq, Int.reduceBNe, Int.reduceLT, Int.reduceLE, Int.reduceGT, Int.reduceGE, Int.reduceToNat])
  by_cases h9 : mode = 9
  · have q : (mode == 9) = true := beq_iff_eq.2 h9
    simp +contextual (maxSteps := 1000000) only [q, go_sem, reduceCtorEq, ↓reduceIte, Nat.reduceAdd, Nat.reduceEqDiff, Nat.reduceLeDiff, Nat.reduceMul, Nat.reduceBEq, Int.reduceBEq, Int.reduceBNe, Int.reduceLT, Int.reduceLE, Int.reduceGT, Int.reduceGE, Int.reduceToNat]
    rw [← hQ, hz, if_pos h9, ← r0, Int.add_zero]
    exact ⟨trivial, Ret.flat rfl rfl⟩
  · have q : (mode == 9) = false := beq_eq_false_iff_ne.2 h9
    simp +contextual (maxSteps := 1000000) only [q, go_sem, reduceCtorEq, ↓reduceIte, Nat.reduceAdd, Nat.reduceEqDiff, Nat.reduceLeDiff, Nat.reduceMul, Nat.reduceBEq, Int.reduceBEq, Int.reduceBNe, Int.reduceLT, Int.reduceLE, Int.reduceGT, Int.reduceGE, Int.reduceToNat]
    refine DCall.new c1 ?_
    simp +contextual (maxSteps := 1000000) only [go_sem, reduceCtorEq, ↓reduceIte, Nat.reduceAdd, Nat.reduceEqDiff, Nat.reduceLeDiff, Nat.reduceMul, Nat.reduceBEq, Int.reduceBEq, Int.reduceBNe, Int.reduceLT, Int.reduceLE, Int.reduceGT, Int.reduceGE, Int.reduceToNat]
    refine DCall.new c2 ?_
    simp +contextual (maxSteps := 1000000) only [go_sem, reduceCtorEq, ↓reduceIte, Nat.reduceAdd, Nat.reduceEqDiff, Nat.reduceLeDiff, Nat.reduceMul, Nat.reduceBEq, Int.reduceBEq, Int.reduceBNe, Int.reduceLT, Int.reduceLE, Int.reduceGT, Int.reduceGE, Int.reduceToNat]
    refine DCall.new c3 ?_
    simp +contextual (maxSteps := 1000000) only [go_sem, reduceCtorEq, ↓reduceIte, Nat.reduceAdd, Nat.reduceEqDiff, Nat.reduceLeDiff, Nat.reduceMul, Nat.reduceBEq, Int.reduceBEq, Int.reduceBNe, Int.reduceLT, Int.reduceLE, Int.reduceGT, Int.reduceGE, Int.reduceToNat]
    refine ⟨by simp [AV.closedL, AV.closed], DCall.new (c4 _) ?_⟩
    simp +contextual (maxSteps := 1000000) only [go_sem, reduceCtorEq, ↓reduceIte, Nat.reduceAdd, Nat.reduceEqDiff, Nat.reduceLeDiff, Nat.reduceMul, Nat.reduceBEq, Int.reduceBEq, Int.reduceBNe, Int.reduceLT, Int.reduceLE, Int.reduceGT, Int.reduceGE, Int.reduceToNat]
    have hs : marksM mode e = ([n0, n1, n2, n3] : List Int).sum := by
      rw [hz, if_neg h9, ← r0, ← hb]; simp
    rw [← hQ, hs]
    exact ⟨trivial, Ret.flat rfl rfl⟩
theorem fs_mCode {Gl : Gh → Prop} (hst : Stays Gl) {mode : Int} {e : Mo} : FS Tryd.prog Gl 43 [.int .i64 mode, .agg (moAV e)] [] [] (.int .i64 (codeM mode e)) [] [] := by
  refine FS.of hm hst is_mouseCode (by simp) fun γ hγ hfr => ?_
  have hmo : moAV e = [.int .i64 e.button, .int .i64 e.type, .int .i64 e.x, .int .i64 e.y, .int .i64 e.mods] := rfl
  have hz : codeM mode e = if mayM e = true then numM e.button + marksM mode e else 0 := rfl
  have c1 := fs_tMay (Gl := Gl) hst (e := e)
  rw [hmo] at c1
  simp only [hmo]
  (generalize hQ : (fun (ex : Ex) (_ _ : Nat) (s : St) => _) = Q; unfold ir_mouseCode)
  simp +contextual (maxSteps := 1000000) only [go_sem, reduceCtorEq, ↓reduceIte, Nat.reduceAdd, Nat.reduceEqDiff, Nat.reduceLeDiff, Nat.reduceMul, Nat.reduceBEq, Int.reduceBEq, Int.reduceBNe, Int.reduceLT, Int.reduceLE, Int.reduceGT, Int.reduceGE, Int.reduceToNat]
  (refine CallP.pure (c1) (fun _ => rfl) ?_; simp +contextual (maxSteps := 1000000) only [go_sem, reduceCtorEq, ↓reduceIte, Nat.reduceAdd, Nat.reduceEqDiff, Nat.reduceLeDiff, Nat.reduceMul, Nat.reduceBEq, Int.reduceBEq, Int.reduceBNe, Int.reduceLT, Int.reduceLE, Int.reduceGT, Int.reduceGE, Int.reduceToNat])
  cases hM : mayM e with
  | false =>
    simp +contextual (maxSteps := 1000000) only [hM, go_sem, reduceCtorEq, ↓reduceIte, Nat.reduceAdd, Nat.reduceEqDiff, Nat.reduceLeDiff, Nat.reduceMul, Nat.reduceBEq, Int.reduceBEq, Int.reduceBNe, Int.reduceLT, Int.reduceLE, Int.reduceGT, Int.reduceGE, Int.reduceToNat]
    rw [← hQ, hz, hM]
    exact ⟨trivial, Ret.flat rfl rfl⟩
  | true =>
    have M := mayM_iff.1 hM
    have hk := M.kd
    have c2 := fs_button (Gl := Gl) hst (n := e.button) (by omega) (by omega)
    have c3 := fs_marks (Gl := Gl) hst (mode := mode) (e := e) M.m0 M.m1
    have r1 := num_range M
    have r2 := marks_range mode e
    have hw : IntKind.i64.wrap (numM e.button + marksM mode e) = numM e.button + marksM mode e := by rw [IntKind.wrap_i64]; omega
    rw [hmo] at c3
    simp +contextual (maxSteps := 1000000) only [hM, go_sem, reduceCtorEq, ↓reduceIte, Nat.reduceAdd, Nat.reduceEqDiff, Nat.reduceLeDiff, Nat.reduceMul, Nat.reduceBEq, Int.reduceBEq, Int.reduceBNe, Int.reduceLT, Int.reduceLE, Int.reduceGT, Int.reduceGE, Int.reduceToNat]
    refine DCall.new c2 ?_
    simp +contextual (maxSteps := 1000000) only [go_sem, reduceCtorEq, ↓reduceIte, Nat.reduceAdd, Nat.reduceEqDiff, Nat.reduceLeDiff, Nat.reduceMul, Nat.reduceBEq, Int.reduceBEq, Int.reduceBNe, Int.reduceLT, Int.reduceLE, Int.reduceGT, Int.reduceGE, Int.reduceToNat]
    refine DCall.new c3 ?_
    simp +contextual (maxSteps := 1000000) only [hw, go_sem, reduceCtorEq, ↓reduceIte, Nat.reduceAdd, Nat.reduceEqDiff, Nat.reduceLeDiff, Nat.reduceMul, Nat.reduceBEq, Int.reduceBEq, Int.reduceBNe, Int.reduceLT, Int.reduceLE, Int.reduceGT, Int.reduceGE, Int.reduceToNat]
    rw [← hQ, hz, hM, if_pos rfl]
    exact ⟨trivial, Ret.flat rfl rfl⟩
end Go.Proofs.YtfnngjnfajnpaaaDoor

namespace Go.Proofs.YtfnngjnfajnpaaaDoor
open Go Go.Ab
def ir_mouseone : ICode :=
 (.seq
 (.reg [⟨some 2, none, .mov (.c .nils)⟩] (some [0]))
 (.seq
 (.reg [⟨some 3, none, .mov (.t 0)⟩,
 ⟨some 4, none, .cvi .u8 (.t 3)⟩,
 ⟨some 5, none, .row 5 1 [(.t 4)]⟩,
 ⟨some 2, none, .mov (.t 5)⟩] (some [2]))
 .ret))
theorem is_mouseone : IrOf Tryd.prog 52 6 ir_mouseone [.t 2] := ⟨_, Tryd.func52, rfl, by kernel_rfl, by kernel_rfl, by kernel_rfl⟩

/- clavier/mouse.cells -/
def ir_mousecells_l0 : ICode :=
 (.seq
 (.reg [⟨some 31, none, .bin .lss .none (.t 30) (.t 29)⟩] (some [1, 11, 28, 29, 30, 31]))
 (.seq
 (.cond (.t 31)
 .skip
 (.exit 0))
 (.seq
 (.blk 1
 (.seq
 (.reg [⟨some 32, none, .ia 1 (.t 28) (.t 30)⟩,
 ⟨some 33, none, .ld none (.t 32)⟩,
 ⟨some 14, none, .mov (.t 33)⟩] (some [1, 11, 14, 28, 29, 30]))
 (.reg [⟨some 34, none, .mov (.t 11)⟩,
 ⟨some 35, none, .mov (.t 1)⟩,
 ⟨some 36, none, .mov (.t 14)⟩,
 ⟨some 37, none, .bin .add .none (.t 36) (.c (.int .i64 32))⟩,
 ⟨some 38, none, .call (.t 35) [(.t 37)]⟩,
 ⟨some 39, none, .app 5 1 1 (.t 34) (.t 38)⟩,
 ⟨some 11, none, .mov (.t 39)⟩] (some [1, 11, 28, 29, 30]))))
 (.reg [⟨some 40, none, .bin .add .none (.t 30) (.c (.int .i64 1))⟩,
 ⟨some 30, none, .mov (.t 40)⟩] (some [1, 11, 28, 29, 30])))))
def ir_mousecells : ICode :=
 (.seq
 (.reg [⟨some 10, none, .mov (.c .nils)⟩] (some [0, 1, 2, 3, 4]))
 (.seq
 (.seq
 (.reg [⟨some 15, none, .mov (.t 3)⟩,
 ⟨some 16, none, .mov (.t 4)⟩,
 ⟨some 17, none, .mm false (.t 15) (.t 16)⟩,
 ⟨some 18, none, .mov (.t 0)⟩,
 ⟨some 19, none, .bin .gtr .none (.t 17) (.t 18)⟩] (some [1, 2, 3, 4, 19]))
 (.cond (.t 19)
 (.seq
 (.reg [⟨some 10, none, .mov (.c .nils)⟩] (some [10]))
 .ret)
 .skip))
 (.seq
 (.reg [⟨some 21, none, .call (.c (.fn (.func 21) [] [])) [(.c (.int .u8 0)), (.c (.int .u8 77)), (.c .nils)]⟩,
 ⟨some 22, none, .call (.c (.fn (.func 14) [] [])) [(.t 21)]⟩,
 ⟨some 20, none, .mov (.t 22)⟩,
 ⟨some 23, none, .ext (.t 20) 0⟩,
 ⟨some 24, none, .ext (.t 20) 1⟩,
 ⟨some 11, none, .mov (.t 23)⟩,
 ⟨some 12, none, .mov (.t 24)⟩] (some [1, 2, 3, 4, 11]))
 (.seq
 (.seq
 (.reg [⟨some 25, none, .mov (.t 2)⟩,
 ⟨some 26, none, .mov (.t 3)⟩,
 ⟨some 27, none, .mov (.t 4)⟩,
 ⟨some 28, none, .row 3 1 [(.t 25), (.t 26), (.t 27)]⟩,
 ⟨some 29, none, .len (.t 28)⟩,
 ⟨some 30, none, .mov (.c (.int .i64 0))⟩] (some [1, 11, 28, 29, 30]))
 (.blk 0
 (.loop
 ir_mousecells_l0)))
 (.seq
 (.reg [⟨some 41, none, .mov (.t 11)⟩,
 ⟨some 10, none, .mov (.t 41)⟩] (some [10]))
 .ret)))))
theorem is_mousecells : IrOf Tryd.prog 50 42 ir_mousecells [.t 10] := ⟨_, Tryd.func50, rfl, by kernel_rfl, by kernel_rfl, by kernel_rfl⟩

theorem fs_glueT {Gl : Gh → Prop} (hst : Stays Gl) {xs : List (List UInt8)} {t : Option Nm} (hN : xs.length ≤ 100) (hl : xs.flatten.length ≤ 1000000) : FS Tryd.prog Gl 28 [.sl t 1 (strsAV xs)] [] [] (.sl (some (0, 0, 0)) 1 (bytesAV (27 :: xs.flatten))) [] [(0, 0, 0)] := by
  refine FS.of hm hst is_wireglue (by simp) fun γ hγ hfr => ?_
  have c1 := fs_Join (Gl := Gl) (xs := xs) (sep := []) (t := t) (by omega) (by rw [join_flat]; omega)
  rw [join_flat] at c1
  (generalize hQ : (fun (ex : Ex) (_ _ : Nat) (s : St) => _) = Q; unfold ir_wireglue)
  simp +contextual (maxSteps := 1000000) only [go_sem, reduceCtorEq, ↓reduceIte, Nat.reduceAdd, Nat.reduceEqDiff, Nat.reduceLeDiff, Nat.reduceMul, Nat.reduceBEq, Int.reduceBEq, Int.reduceBNe, Int.reduceLT, Int.reduceLE, Int.reduceGT, Int.reduceGE, Int.reduceToNat]
  (refine CallP.pure (c1) (fun _ => rfl) ?_; simp +contextual (maxSteps := 1000000) only [go_sem, reduceCtorEq, ↓reduceIte, Nat.reduceAdd, Nat.reduceEqDiff, Nat.reduceLeDiff, Nat.reduceMul, Nat.reduceBEq, Int.reduceBEq, Int.reduceBNe, Int.reduceLT, Int.reduceLE, Int.reduceGT, Int.reduceGE, Int.reduceToNat])
  refine ⟨⟨.inl trivial, by omega⟩, ?_⟩
  rw [← hQ]
  exact ⟨trivial, [(γ, 4, 0)], by simp, by simp, rfl, by simp [rnH], by simp [rnN], by simp [AV.okIn, nmOK], by simp, by simp [nmOK]⟩
theorem fs_wPutT {Gl : Gh → Prop} (hst : Stays Gl) : FS Tryd.prog Gl 14 [.agg [.int .i64 1, .int .u8 0, .sl none 1 (parsAV []), .str [], .int .u8 77, .str []]] [] [] (.tup [.sl (some (0, 0, 0)) 1 (bytesAV [27, 91, 77]), .int .i64 0]) [] [(0, 0, 0)] := by
  refine FS.of hm hst is_wirePut (by simp) fun γ hγ hfr => ?_
  have c1 := fs_May (Gl := Gl) hst (s := ⟨1, 0, [], [], 77, []⟩) (by simp) (by simp) (by simp) (by simp) (by simp) (by simp)
  rw [show mayP ⟨1, 0, [], [], 77, []⟩ = 0 by decide +kernel] at c1
  have hcc : Sq.c ⟨1, 0, [], [], 77, []⟩ = [.int .i64 1, .int .u8 0, .sl none 1 (parsAV []), .str [], .int .u8 77, .str []] := rfl
  have c2 := fs_body (Gl := Gl) hst (k := 1) (ps := []) (it := []) (da := []) (pr := 0) (fi := 77) (by simp) (by simp) (by simp)
  rw [show prB (((0 : UInt8).toNat : Nat) : Int) ++ (parsText [] ++ [] ++ [(77 : UInt8)]) = [77] by decide] at c2
  have hcc2 : Sq.c ⟨1, (((0 : UInt8).toNat : Nat) : Int), [], [], (((77 : UInt8).toNat : Nat) : Int), []⟩ = [.int .i64 1, .int .u8 0, .sl none 1 (parsAV []), .str [], .int .u8 77, .str []] := rfl
  rw [hcc] at c1
  rw [hcc2] at c2
  have c3 := fun t : Option Nm => fs_glueT (Gl := Gl) hst (xs := [[91], [77]]) (t := t) (by simp) (by simp)
  have hs : strsAV [[91], [77]] = [[.str [91]], [.str [77]]] := rfl
  rw [hs] at c3
  (generalize hQ : (fun (ex : Ex) (_ _ : Nat) (s : St) => _) = Q; unfold ir_wirePut)
  simp +contextual (maxSteps := 1000000) only [go_sem, reduceCtorEq, ↓reduceIte, Nat.reduceAdd, Nat.reduceEqDiff, Nat.reduceLeDiff, Nat.reduceMul, Nat.reduceBEq, Int.reduceBEq, Int.reduceBNe, Int.reduceLT, Int.reduceLE, Int.reduceGT, Int.reduceGE, Int.reduceToNat]
  (refine CallP.pure (c1) (fun _ => rfl) ?_; simp +contextual (maxSteps := 1000000) only [go_sem, reduceCtorEq, ↓reduceIte, Nat.reduceAdd, Nat.reduceEqDiff, Nat.reduceLeDiff, Nat.reduceMul, Nat.reduceBEq, Int.reduceBEq, Int.reduceBNe, Int.reduceLT, Int.reduceLE, Int.reduceGT, Int.reduceGE, Int.reduceToNat])
  (refine CallP.pure (c2) (fun _ => rfl) ?_; simp +contextual (maxSteps := 1000000) only [go_sem, reduceCtorEq, ↓reduceIte, Nat.reduceAdd, Nat.reduceEqDiff, Nat.reduceLeDiff, Nat.reduceMul, Nat.reduceBEq, Int.reduceBEq, Int.reduceBNe, Int.reduceLT, Int.reduceLE, Int.reduceGT, Int.reduceGE, Int.reduceToNat])
  refine CallP.of (c3 _) (by simp) (by simp) ?_
  simp only [rnH, rnN, Ab.rn]
  simp +contextual (maxSteps := 1000000) only [go_sem, reduceCtorEq, ↓reduceIte, Nat.reduceAdd, Nat.reduceEqDiff, Nat.reduceLeDiff, Nat.reduceMul, Nat.reduceBEq, Int.reduceBEq, Int.reduceBNe, Int.reduceLT, Int.reduceLE, Int.reduceGT, Int.reduceGE, Int.reduceToNat]
  rw [← hQ]
  exact ⟨trivial, [(γ, 15, 0)], by simp, by simp, rfl, by simp [rnH], by simp [rnN], by simp [AV.okIn, AV.okInL, nmOK], by simp, by simp [nmOK]⟩
theorem fs_mOne {Gl : Gh → Prop} (hst : Stays Gl) {n : Int} : FS Tryd.prog Gl 52 [.int .i64 n] [] [] (.sl none 1 (bytesAV [byteM n])) [] [] := by
  refine FS.ofW hm hst is_mouseone rfl (by simp) fun γ hγ hfr => ?_
  have hrow : [[AV.int IntKind.u8 (IntKind.u8.wrap n)]] = bytesAV [byteM n] := by
    have : ((byteM n).toNat : Int) = IntKind.u8.wrap n := by
      unfold byteM
      rw [IntKind.wrap_u8, UInt8.toNat_ofNat', Nat.mod_eq_of_lt (by omega)]; omega
    simp only [bytesAV, List.map_cons, List.map_nil, this]
  (generalize hQ : (fun (ex : Ex) (_ _ : Nat) (s : St) => _) = Q; unfold ir_mouseone)
  simp +contextual (maxSteps := 1000000) only [go_sem, reduceCtorEq, ↓reduceIte, Nat.reduceAdd, Nat.reduceEqDiff, Nat.reduceLeDiff, Nat.reduceMul, Nat.reduceBEq, Int.reduceBEq, Int.reduceBNe, Int.reduceLT, Int.reduceLE, Int.reduceGT, Int.reduceGE, Int.reduceToNat]
  rw [← hQ]
  exact ⟨trivial, .inl ⟨_, rfl, RepLe.anon' hrow⟩⟩
def cellsMo (p : Int → List UInt8) (most code x y : Int) : List UInt8 := if max x y > most then [] else [27, 91, 77] ++ ([code + 32, x + 32, y + 32] : List Int).flatMap p
set_option maxHeartbeats 2000000 in
theorem fs_cells {Gl : Gh → Prop} (hst : Stays Gl) {k : Nat} {p : Int → List UInt8} (hk : ∀ n, FS Tryd.prog Gl k [.int .i64 n] [] [] (.sl none 1 (bytesAV (p n))) [] []) (hp : ∀ n, (p n).length ≤ 4) {most code x y : Int}
    (hc : 0 ≤ code ∧ code ≤ 1000) (hx : 0 ≤ x ∧ x ≤ 70000) (hy : 0 ≤ y ∧ y ≤ 70000) : FS Tryd.prog Gl 50 [.int .i64 most, .fn (.func k) [] [], .int .i64 code, .int .i64 x, .int .i64 y] [] [] (.sl none 1 (bytesAV (cellsMo p most code x y))) [] [] := by
  refine FS.ofW hm hst is_mousecells rfl (by simp) fun γ hγ hfr => ?_
  have hz : cellsMo p most code x y = if max x y > most then [] else [27, 91, 77] ++ ([code + 32, x + 32, y + 32] : List Int).flatMap p := rfl
  have hmx : (if y > x then y else x) = max x y := by split <;> omega
  have c1 : FS Tryd.prog Gl 21 [.int .u8 0, .int .u8 77, .nils] [] [] (.agg [.int .i64 1, .int .u8 0, .sl none 1 (parsAV []), .str [], .int .u8 77, .str []]) [] [] := (fs_Num (Gl := Gl) hst (pr := 0) (fi := 77) (nums := []) (tn := none) (by simp)).args ⟨.refl _, .refl _, .nils 1, trivial⟩
  have c2 := fs_wPutT (Gl := Gl) hst
  have hns : [code + 32, x + 32, y + 32] = ([code, x, y] : List Int).map (· + 32) := rfl
  obtain ⟨ns, hns2⟩ : ∃ ns : List Int, ns = [code, x, y] := ⟨_, rfl⟩
  have hnl : ns.length = 3 := by rw [hns2]; rfl
  have hnb : ∀ n ∈ ns, 0 ≤ n ∧ n ≤ 70000 := by rw [hns2]; simp; omega
  have hrow : [[AV.int IntKind.i64 code], [AV.int IntKind.i64 x], [AV.int IntKind.i64 y]] = intsAV ns := by rw [hns2]; rfl
  rw [hns, ← hns2] at hz
  (generalize hQ : (fun (ex : Ex) (_ _ : Nat) (s : St) => _) = Q; unfold ir_mousecells)
  by_cases hm' : max x y > most
  · have q : decide (max x y > most) = true := decide_eq_true hm'
    simp +contextual (maxSteps := 1000000) only [hmx, q, go_sem, reduceCtorEq, ↓reduceIte, Nat.reduceAdd, Nat.reduceEqDiff, Nat.reduceLeDiff, Nat.reduceMul, Nat.reduceBEq, Int.reduceBEq, Int.reduceBNe, Int.reduceLT, Int.reduceLE, Int.reduceGT, Int.reduceGE, Int.reduceToNat]
    rw [← hQ, hz, if_pos hm']
    exact ⟨trivial, .inl ⟨_, rfl, RepLe.nils 1⟩⟩
  · have q : decide (max x y > most) = false := decide_eq_false hm'
    rw [if_neg hm'] at hz
    simp +contextual (maxSteps := 1000000) only [hmx, q, go_sem, reduceCtorEq, ↓reduceIte, Nat.reduceAdd, Nat.reduceEqDiff, Nat.reduceLeDiff, Nat.reduceMul, Nat.reduceBEq, Int.reduceBEq, Int.reduceBNe, Int.reduceLT, Int.reduceLE, Int.reduceGT, Int.reduceGE, Int.reduceToNat]
    (refine CallP.pure (c1) (fun _ => rfl) ?_; simp +contextual (maxSteps := 1000000) only [go_sem, reduceCtorEq, ↓reduceIte, Nat.reduceAdd, Nat.reduceEqDiff, Nat.reduceLeDiff, Nat.reduceMul, Nat.reduceBEq, Int.reduceBEq, Int.reduceBNe, Int.reduceLT, Int.reduceLE, Int.reduceGT, Int.reduceGE, Int.reduceToNat])
    refine CallP.of c2 (by simp) (by simp) ?_
    simp only [rnH, rnN, Ab.rn, rnL]
    simp +contextual (maxSteps := 1000000) only [go_sem, reduceCtorEq, ↓reduceIte, Nat.reduceAdd, Nat.reduceEqDiff, Nat.reduceLeDiff, Nat.reduceMul, Nat.reduceBEq, Int.reduceBEq, Int.reduceBNe, Int.reduceLT, Int.reduceLE, Int.reduceGT, Int.reduceGE, Int.reduceToNat]
    rw [hrow]
    have hl3 : (3 : Int) = (ns.length : Int) := by rw [hnl]; rfl
    have hpre : ∀ i : Nat, i ≤ 3 → ((((ns.take i).map (· + 32)).flatMap p).length : Int) ≤ 4 * i := by
      intro i
      induction i with
      | zero => intro _; simp
      | succ i ih =>
        intro hi
        have := ih (by omega)
        have hp' := hp (ns[i] + 32)
        rw [List.take_add_one, List.getElem?_eq_getElem (by omega), List.map_append, List.flatMap_append, List.length_append]
        simp only [Option.toList_some, List.map_cons, List.map_nil, List.flatMap_cons, List.flatMap_nil, List.append_nil]
        omega
    refine kLoop_ix (fun q : Nat × Nm => ⟨lf [(1, .fn (.func k) [] []), (11, .sl (some q.2) 1 (bytesAV ([27, 91, 77] ++ ((ns.take q.1).map (· + 32)).flatMap p))), (28, .sl none 1 (intsAV ns)), (29, .int .i64 3), (30, .int .i64 q.1)], [], fun s => s = q.2⟩) (fun q => q.1 ≤ 3) (fun q => 3 - q.1) 0 (0, (γ, 7, 0)) (Wk.perm' ?_ (fun _ h => h) (fun t ht => by simp only at ht; subst ht; exact .inr (.inl rfl))) (by simp) ?_
    · simp only [lfOK]
      refine ⟨AVle.refl _ _, AVle.refl _ _, AVle.le (RepLe.anon _ _ _), AVle.refl _ _, AVle.refl _ _, trivial⟩
    rintro γ' ⟨i, tk⟩ hf hi
    simp only at hi hf
    generalize hQ' : kIt _ _ _ _ _ = Q'
    unfold ir_mousecells_l0
    by_cases hlt : i < 3
    · have hd : decide ((i : Int) < 3) = true := decide_eq_true (by omega)
      have hg : (intsAV ns).getD i [] = [.int .i64 (ns[i]'(by omega))] := intsAV_get (by omega)
      have hw : IntKind.i64.wrap ((i : Int) + 1) = ((i + 1 : Nat) : Int) := by rw [IntKind.wrap_i64]; omega
      have hb := hnb (ns[i]'(by omega)) (List.getElem_mem _)
      have hw2 : IntKind.i64.wrap ((ns[i]'(by omega)) + 32) = (ns[i]'(by omega)) + 32 := by rw [IntKind.wrap_i64]; omega
      have hpi := hpre i (by omega)
      have hpn := hp ((ns[i]'(by omega)) + 32)
      have hnx : ((ns.take (i + 1)).map (· + 32)).flatMap p = ((ns.take i).map (· + 32)).flatMap p ++ p ((ns[i]'(by omega)) + 32) := by
        rw [List.take_add_one, List.getElem?_eq_getElem (by omega), List.map_append, List.flatMap_append]
        simp
      simp +contextual (maxSteps := 1000000) only [hd, hg, Int.toNat_natCast, intsAV_length, hnl, hw2, go_sem, reduceCtorEq, ↓reduceIte, Nat.reduceAdd, Nat.reduceEqDiff, Nat.reduceLeDiff, Nat.reduceMul, Nat.reduceBEq, Int.reduceBEq, Int.reduceBNe, Int.reduceLT, Int.reduceLE, Int.reduceGT, Int.reduceGE, Int.reduceToNat]
      refine ⟨by omega, ?_⟩
      (refine CallP.pure (hk _) (fun _ => rfl) ?_; simp +contextual (maxSteps := 1000000) only [bytesAV_length', List.length_append, go_sem, reduceCtorEq, ↓reduceIte, Nat.reduceAdd, Nat.reduceEqDiff, Nat.reduceLeDiff, Nat.reduceMul, Nat.reduceBEq, Int.reduceBEq, Int.reduceBNe, Int.reduceLT, Int.reduceLE, Int.reduceGT, Int.reduceGE, Int.reduceToNat])
      refine ⟨by omega, ?_⟩
      rw [← hQ']
      simp only [w_kIt_n]
      refine ⟨0, (i + 1, (γ', 9, 0)), Wk.perm' ?_ (fun _ h => h) (fun t ht => .inl ht), by simp only; omega, by simp only; omega⟩
      have e : bytesAV (27 :: 91 :: 77 :: ((ns.take i).map (· + 32)).flatMap p) ++ bytesAV (p ((ns[i]'(by omega)) + 32)) = bytesAV ([27, 91, 77] ++ ((ns.take (i + 1)).map (· + 32)).flatMap p) := by
        rw [hnx]; simp [bytesAV]
      simp only [lfOK, lf_cons, ↓reduceIte, Nat.reduceEqDiff]
      refine ⟨AVle.refl _ _, ?_, AVle.refl _ _, AVle.refl _ _, AVle.int hw, trivial⟩
      rw [e]
      exact AVle.refl _ _
    · have hd : decide ((i : Int) < 3) = false := decide_eq_false (by omega)
      obtain rfl : i = 3 := by omega
      simp +contextual (maxSteps := 1000000) only [hd, go_sem, reduceCtorEq, ↓reduceIte, Nat.reduceAdd, Nat.reduceEqDiff, Nat.reduceLeDiff, Nat.reduceMul, Nat.reduceBEq, Int.reduceBEq, Int.reduceBNe, Int.reduceLT, Int.reduceLE, Int.reduceGT, Int.reduceGE, Int.reduceToNat]
      rw [← hQ']
      simp only [w_kIt_e, w_kBlk_e, ↓reduceIte]
      simp +contextual (maxSteps := 1000000) only [go_sem, reduceCtorEq, ↓reduceIte, Nat.reduceAdd, Nat.reduceEqDiff, Nat.reduceLeDiff, Nat.reduceMul, Nat.reduceBEq, Int.reduceBEq, Int.reduceBNe, Int.reduceLT, Int.reduceLE, Int.reduceGT, Int.reduceGE, Int.reduceToNat]
      have : ns.take 3 = ns := List.take_of_length_le (by omega)
      rw [← hQ, hz, this]
      exact ⟨trivial, .inl ⟨_, rfl, RepLe.anon _ _ _⟩⟩
end Go.Proofs.YtfnngjnfajnpaaaDoor

namespace Go.Proofs.YtfnngjnfajnpaaaDoor
open Go Go.Ab

def stripM (e : Mo) : Mo := { e with mods := e.mods % 8 }
theorem strip_eq {e f : Mo} : stripM e = stripM f ↔ e.button = f.button ∧ e.type = f.type ∧ e.x = f.x ∧ e.y = f.y ∧ e.mods % 8 = f.mods % 8 := by
  unfold stripM
  simp only [Mo.mk.injEq]
theorem enc_exact {mode : Int} {e : Mo} (M : MayM e) : encM mode 1006 e = putB (exactQ mode e) := by
  unfold encM; rw [mayM_iff.2 M]; rfl
theorem back_iff {e f : Mo} (M : MayM e) (N : MayM f) : encM 1003 1006 e = encM 1003 1006 f ↔ stripM e = stripM f := by
  rw [enc_exact M, enc_exact N, strip_eq]
  constructor
  · intro h
    have := putB_inj (exact_may M) (exact_may N) h
    simp only [exactQ, numSq, Sq.mk.injEq, List.map_cons, List.map_nil, List.cons.injEq, and_true, true_and] at this
    obtain ⟨⟨a, b, c⟩, d⟩ := this
    have h3 : e.type = 3 ↔ f.type = 3 := by
      by_cases p : e.type = 3 <;> by_cases q : f.type = 3
      · simp [p, q]
      · rw [if_pos p, if_neg q] at d; omega
      · rw [if_neg p, if_pos q] at d; omega
      · simp [p, q]
    obtain ⟨x, y, z⟩ := code_inj M N h3 a
    exact ⟨x, y, b, c, z⟩
  · rintro ⟨a, b, c, d, z⟩
    unfold exactQ
    rw [(code_range M).1, (code_range N).1]
    unfold marksM
    rw [a, b, c, d, z]
theorem old_same {coding : Int} {e : Mo} (M : MayM e) {m : Int} (h0 : 0 ≤ m) (h1 : m ≤ 255) : encM 9 coding { e with mods := m } = encM 9 coding e := by
  have N : MayM { e with mods := m } := ⟨M.x0, M.x1, M.y0, M.y1, h0, h1, M.kd⟩
  have hmk : marksM 9 { e with mods := m } = marksM 9 e := by unfold marksM; simp
  have hc : codeM 9 { e with mods := m } = codeM 9 e := by rw [(code_range M).1, (code_range N).1, hmk]
  have hb : blindM 9 { e with mods := m } = blindM 9 e := by unfold blindM; rw [hmk, hc]
  unfold encM
  rw [mayM_iff.2 M, mayM_iff.2 N]
  unfold exactQ wordsQ wideB plainM
  rw [hc, hb]
end Go.Proofs.YtfnngjnfajnpaaaDoor

namespace Go.Proofs.YtfnngjnfajnpaaaDoor
open Go Go.Ab
def ir_mouseEncode1 : ICode :=
 (.seq
 (.reg [⟨some 3, none, .mov (.c .nils)⟩] (some [0, 1, 2]))
 (.seq
 (.reg [⟨some 7, none, .ld none (.t 0)⟩,
 ⟨some 8, none, .ld none (.t 1)⟩,
 ⟨some 9, none, .fa 2 (.t 2)⟩,
 ⟨some 10, none, .ld none (.t 9)⟩,
 ⟨some 11, none, .fa 3 (.t 2)⟩,
 ⟨some 12, none, .ld none (.t 11)⟩,
 ⟨some 13, none, .row 3 1 [(.t 8), (.t 10), (.t 12)]⟩,
 ⟨some 14, none, .call (.c (.fn (.func 21) [] [])) [(.c (.int .u8 60)), (.t 7), (.t 13)]⟩,
 ⟨some 15, none, .call (.c (.fn (.func 14) [] [])) [(.t 14)]⟩,
 ⟨some 6, none, .mov (.t 15)⟩,
 ⟨some 16, none, .ext (.t 6) 0⟩,
 ⟨some 17, none, .ext (.t 6) 1⟩,
 ⟨some 4, none, .mov (.t 16)⟩,
 ⟨some 5, none, .mov (.t 17)⟩] (some [4]))
 (.seq
 (.reg [⟨some 18, none, .mov (.t 4)⟩,
 ⟨some 3, none, .mov (.t 18)⟩] (some [3]))
 .ret)))
theorem is_mouseEncode1 : IrOf Tryd.prog 47 19 ir_mouseEncode1 [.t 3] := ⟨_, Tryd.func47, rfl, by kernel_rfl, by kernel_rfl, by kernel_rfl⟩

def ir_mouseEncode2 : ICode :=
 (.seq
 (.reg [⟨some 2, none, .mov (.c .nils)⟩] (some [0, 1]))
 (.seq
 (.reg [⟨some 6, none, .ld none (.t 0)⟩,
 ⟨some 7, none, .bin .add .none (.t 6) (.c (.int .i64 32))⟩,
 ⟨some 8, none, .fa 2 (.t 1)⟩,
 ⟨some 9, none, .ld none (.t 8)⟩,
 ⟨some 10, none, .fa 3 (.t 1)⟩,
 ⟨some 11, none, .ld none (.t 10)⟩,
 ⟨some 12, none, .row 3 1 [(.t 7), (.t 9), (.t 11)]⟩,
 ⟨some 13, none, .call (.c (.fn (.func 21) [] [])) [(.c (.int .u8 0)), (.c (.int .u8 77)), (.t 12)]⟩,
 ⟨some 14, none, .call (.c (.fn (.func 14) [] [])) [(.t 13)]⟩,
 ⟨some 5, none, .mov (.t 14)⟩,
 ⟨some 15, none, .ext (.t 5) 0⟩,
 ⟨some 16, none, .ext (.t 5) 1⟩,
 ⟨some 3, none, .mov (.t 15)⟩,
 ⟨some 4, none, .mov (.t 16)⟩] (some [3]))
 (.seq
 (.reg [⟨some 17, none, .mov (.t 3)⟩,
 ⟨some 2, none, .mov (.t 17)⟩] (some [2]))
 .ret)))
theorem is_mouseEncode2 : IrOf Tryd.prog 48 18 ir_mouseEncode2 [.t 2] := ⟨_, Tryd.func48, rfl, by kernel_rfl, by kernel_rfl, by kernel_rfl⟩

def ir_mouseEncode3 : ICode :=
 (.seq
 (.reg [⟨some 2, none, .mov (.c .nils)⟩] (some [0, 1]))
 (.seq
 (.reg [⟨some 3, none, .ld none (.t 0)⟩,
 ⟨some 4, none, .fa 2 (.t 1)⟩,
 ⟨some 5, none, .ld none (.t 4)⟩,
 ⟨some 6, none, .fa 3 (.t 1)⟩,
 ⟨some 7, none, .ld none (.t 6)⟩,
 ⟨some 8, none, .call (.c (.fn (.func 50) [] [])) [(.c (.int .i64 2015)), (.c (.fn (.func 51) [] [])), (.t 3), (.t 5), (.t 7)]⟩,
 ⟨some 2, none, .mov (.t 8)⟩] (some [2]))
 .ret))
theorem is_mouseEncode3 : IrOf Tryd.prog 49 9 ir_mouseEncode3 [.t 2] := ⟨_, Tryd.func49, rfl, by kernel_rfl, by kernel_rfl, by kernel_rfl⟩

def ir_mouseEncode : ICode :=
 (.seq
 (.reg [⟨some 5, none, .box 50 (.t 2)⟩,
 ⟨some 6, none, .mov (.c .nils)⟩] (some [0, 1, 5]))
 (.seq
 (.seq
 (.reg [⟨some 12, none, .ld (some 5) (.t 5)⟩,
 ⟨some 13, none, .call (.c (.fn (.func 45) [] [])) [(.t 12)]⟩,
 ⟨some 14, none, .un .not (.t 13)⟩] (some [0, 1, 5, 14]))
 (.cond (.t 14)
 (.seq
 (.reg [⟨some 6, none, .mov (.c .nils)⟩] (some [6]))
 .ret)
 .skip))
 (.seq
 (.reg [⟨some 15, none, .mov (.t 0)⟩,
 ⟨some 16, none, .ld (some 5) (.t 5)⟩,
 ⟨some 17, none, .call (.c (.fn (.func 43) [] [])) [(.t 15), (.t 16)]⟩,
 ⟨some 7, none, .box 3 (.c (.int .i64 0))⟩,
 ⟨none, none, .st 1 (.t 7) (.t 17)⟩] (some [0, 1, 5, 7]))
 (.seq
 (.reg [⟨some 8, none, .box 5 (.c (.int .u8 0))⟩,
 ⟨none, none, .st 1 (.t 8) (.c (.int .u8 77))⟩] (some [0, 1, 5, 7, 8]))
 (.seq
 (.reg [⟨some 18, none, .ld none (.t 7)⟩,
 ⟨some 9, none, .box 3 (.c (.int .i64 0))⟩,
 ⟨none, none, .st 1 (.t 9) (.t 18)⟩] (some [0, 1, 5, 7, 8, 9]))
 (.seq
 (.seq
 (.reg [⟨some 19, none, .fa 1 (.t 5)⟩,
 ⟨some 20, none, .ld none (.t 19)⟩,
 ⟨some 21, none, .bin .eql .none (.t 20) (.c (.int .i64 3))⟩] (some [0, 1, 5, 7, 8, 9, 21]))
 (.cond (.t 21)
 (.seq
 (.reg [⟨none, none, .st 1 (.t 8) (.c (.int .u8 109))⟩] (some [0, 1, 5, 7, 8, 9]))
 (.reg [⟨some 22, none, .mov (.t 0)⟩,
 ⟨some 23, none, .ld (some 5) (.t 5)⟩,
 ⟨some 24, none, .call (.c (.fn (.func 46) [] [])) [(.t 22), (.t 23)]⟩,
 ⟨some 25, none, .bin .add .none (.c (.int .i64 3)) (.t 24)⟩,
 ⟨none, none, .st 1 (.t 9) (.t 25)⟩] (some [1, 5, 7, 8, 9])))
 .skip))
 (.seq
 (.reg [⟨some 26, none, .mkm⟩,
 ⟨some 27, none, .mkf (.func 47) [] [(.t 8), (.t 7), (.t 5)]⟩,
 ⟨none, none, .ins .int (.t 26) (.c (.int .i64 1006)) (.t 27)⟩,
 ⟨some 28, none, .mkf (.func 48) [] [(.t 9), (.t 5)]⟩,
 ⟨none, none, .ins .int (.t 26) (.c (.int .i64 1015)) (.t 28)⟩,
 ⟨some 29, none, .mkf (.func 49) [] [(.t 9), (.t 5)]⟩,
 ⟨none, none, .ins .int (.t 26) (.c (.int .i64 1005)) (.t 29)⟩,
 ⟨some 30, none, .mov (.t 26)⟩,
 ⟨some 10, none, .mov (.t 30)⟩] (some [1, 5, 9, 10]))
 (.seq
 (.seq
 (.reg [⟨some 31, none, .mov (.t 10)⟩,
 ⟨some 32, none, .mov (.t 1)⟩,
 ⟨some 33, none, .lkp .int .nilf false (.t 31) (.t 32)⟩,
 ⟨some 11, none, .mov (.t 33)⟩] (some [5, 9, 11]))
 (.seq
 (.reg [⟨some 34, none, .mov (.t 11)⟩,
 ⟨some 35, none, .bin .neq .func (.t 34) (.c .nilf)⟩] (some [5, 9, 11, 35]))
 (.cond (.t 35)
 (.seq
 (.reg [⟨some 36, none, .mov (.t 11)⟩,
 ⟨some 37, none, .call (.t 36) []⟩,
 ⟨some 6, none, .mov (.t 37)⟩] (some [6]))
 .ret)
 .skip)))
 (.seq
 (.reg [⟨some 38, none, .ld none (.t 9)⟩,
 ⟨some 39, none, .fa 2 (.t 5)⟩,
 ⟨some 40, none, .ld none (.t 39)⟩,
 ⟨some 41, none, .fa 3 (.t 5)⟩,
 ⟨some 42, none, .ld none (.t 41)⟩,
 ⟨some 43, none, .call (.c (.fn (.func 50) [] [])) [(.c (.int .i64 223)), (.c (.fn (.func 52) [] [])), (.t 38), (.t 40), (.t 42)]⟩,
 ⟨some 6, none, .mov (.t 43)⟩] (some [6]))
 .ret)))))))))
theorem is_mouseEncode : IrOf Tryd.prog 26 44 ir_mouseEncode [.t 6] := ⟨_, Tryd.func26, rfl, by kernel_rfl, by kernel_rfl, by kernel_rfl⟩

theorem fs_NumM {Gl : Gh → Prop} (hst : Stays Gl) {pr fi a b c : Int} {t : Option Nm} : FS Tryd.prog Gl 21 [.int .u8 pr, .int .u8 fi, .sl t 1 [[.int .i64 a], [.int .i64 b], [.int .i64 c]]] [] [] (.agg (numSq 1 pr fi [a, b, c]).c) [] [] := fs_Num (nums := [a, b, c]) hst (by simp)
theorem fs_wPutM {Gl : Gh → Prop} (hst : Stays Gl) {pr fi a b c : Int} (hpr : pr = 0 ∨ pr = 60) (hfi : fi = 77 ∨ fi = 109) (h : mayP (numSq 1 pr fi [a, b, c]) = 0) : FS Tryd.prog Gl 14 [.agg (numSq 1 pr fi [a, b, c]).c] [] [] (.tup [.sl none 1 (bytesAV (putB (numSq 1 pr fi [a, b, c]))), .int .i64 0]) [] [] := by
  have := fs_wPut (Gl := Gl) hst (s := numSq 1 pr fi [a, b, c]) (by simp only [numSq]; omega) (by simp only [numSq]; omega) (by simp only [numSq]; omega) (by simp only [numSq]; omega) ⟨by simp [numSq], by simp [numSq], by simp [numSq], by simp [numSq]⟩
  rw [show putV (numSq 1 pr fi [a, b, c]) = .sl none 1 (bytesAV (putB (numSq 1 pr fi [a, b, c]))) by unfold putV; rw [h]; rfl, h] at this
  exact this
theorem ne3 {a b c : Nm} (hab : a ≠ b) (hac : a ≠ c) (hbc : b ≠ c) : ((a = b) = False ∧ (b = a) = False) ∧ ((a = c) = False ∧ (c = a) = False) ∧ ((b = c) = False ∧ (c = b) = False) :=
  ⟨⟨eq_false hab, eq_false fun e => hab e.symm⟩, ⟨eq_false hac, eq_false fun e => hac e.symm⟩, ⟨eq_false hbc, eq_false fun e => hbc e.symm⟩⟩
theorem fs_enc1 {Gl : Gh → Prop} (hst : Stays Gl) {mode : Int} {e : Mo} (M : MayM e) {a b c : Nm} (ha : 1 ≤ a.1) (hb : 1 ≤ b.1) (hc : 1 ≤ c.1) (hab : a ≠ b) (hac : a ≠ c) (hbc : b ≠ c) :
    FS Tryd.prog Gl 47 [.ptr a 0, .ptr b 0, .ptr c 0] [(a, .cells [.int .u8 (if e.type = 3 then 109 else 77)]), (b, .cells [.int .i64 (codeM mode e)]), (c, .cells (moAV e))] [] (.sl none 1 (bytesAV (putB (exactQ mode e)))) [(a, .cells [.int .u8 (if e.type = 3 then 109 else 77)]), (b, .cells [.int .i64 (codeM mode e)]), (c, .cells (moAV e))] [] := by
  refine FS.of hm hst is_mouseEncode1 (by simp) fun γ hγ hfr => ?_
  have hmo : moAV e = [.int .i64 e.button, .int .i64 e.type, .int .i64 e.x, .int .i64 e.y, .int .i64 e.mods] := rfl
  obtain ⟨⟨n1, n2⟩, ⟨n3, n4⟩, n5, n6⟩ := ne3 hab hac hbc
  have hq : exactQ mode e = numSq 1 60 (if e.type = 3 then 109 else 77) [codeM mode e, e.x, e.y] := rfl
  have hmay := exact_may (mode := mode) M
  have hfi : (if e.type = 3 then (109 : Int) else 77) = 77 ∨ (if e.type = 3 then (109 : Int) else 77) = 109 := by split <;> simp
  have hrd : Rd [(a, .cells [.int .u8 (if e.type = 3 then 109 else 77)]), (b, .cells [.int .i64 (codeM mode e)]), (c, .cells (moAV e))] := Rd.of fun p hp => by
    simp only [List.mem_cons, List.not_mem_nil, or_false] at hp
    rcases hp with rfl | rfl | rfl
    · exact ⟨ha, _, rfl, rfl⟩
    · exact ⟨hb, _, rfl, rfl⟩
    · exact ⟨hc, _, rfl, rfl⟩
  rw [hq] at hmay ⊢
  generalize (if e.type = 3 then (109 : Int) else 77) = fi at *
  have c1 := fun t : Option Nm => fs_NumM (Gl := Gl) hst (pr := 60) (fi := fi) (a := codeM mode e) (b := e.x) (c := e.y) (t := t)
  have c2 := fs_wPutM (Gl := Gl) hst (pr := 60) (.inr rfl) hfi hmay
  (generalize hQ : (fun (ex : Ex) (_ _ : Nat) (s : St) => _) = Q; unfold ir_mouseEncode1)
  simp +contextual (maxSteps := 1000000) only [hmo, n1, n2, n3, n4, n5, n6, go_sem, reduceCtorEq, ↓reduceIte, Nat.reduceAdd, Nat.reduceEqDiff, Nat.reduceLeDiff, Nat.reduceMul, Nat.reduceBEq, Int.reduceBEq, Int.reduceBNe, Int.reduceLT, Int.reduceLE, Int.reduceGT, Int.reduceGE, Int.reduceToNat]
  (refine CallP.pure (c1 _) (fun _ => rfl) ?_; simp +contextual (maxSteps := 1000000) only [go_sem, reduceCtorEq, ↓reduceIte, Nat.reduceAdd, Nat.reduceEqDiff, Nat.reduceLeDiff, Nat.reduceMul, Nat.reduceBEq, Int.reduceBEq, Int.reduceBNe, Int.reduceLT, Int.reduceLE, Int.reduceGT, Int.reduceGE, Int.reduceToNat])
  (refine CallP.pure (c2) (fun _ => rfl) ?_; simp +contextual (maxSteps := 1000000) only [go_sem, reduceCtorEq, ↓reduceIte, Nat.reduceAdd, Nat.reduceEqDiff, Nat.reduceLeDiff, Nat.reduceMul, Nat.reduceBEq, Int.reduceBEq, Int.reduceBNe, Int.reduceLT, Int.reduceLE, Int.reduceGT, Int.reduceGE, Int.reduceToNat])
  rw [← hQ]
  exact ⟨trivial, Ret.reads hrd rfl rfl (by simp [hmo])⟩
theorem fs_enc2 {Gl : Gh → Prop} (hst : Stays Gl) {mode : Int} {e : Mo} (M : MayM e) {a c : Nm} (ha : 1 ≤ a.1) (hc : 1 ≤ c.1) (hac : a ≠ c) :
    FS Tryd.prog Gl 48 [.ptr a 0, .ptr c 0] [(a, .cells [.int .i64 (blindM mode e)]), (c, .cells (moAV e))] [] (.sl none 1 (bytesAV (putB (wordsQ mode e)))) [(a, .cells [.int .i64 (blindM mode e)]), (c, .cells (moAV e))] [] := by
  refine FS.of hm hst is_mouseEncode2 (by simp) fun γ hγ hfr => ?_
  have hmo : moAV e = [.int .i64 e.button, .int .i64 e.type, .int .i64 e.x, .int .i64 e.y, .int .i64 e.mods] := rfl
  have n1 : (a = c) = False := eq_false hac
  have n2 : (c = a) = False := eq_false fun e => hac e.symm
  have hq : wordsQ mode e = numSq 1 0 77 [32 + blindM mode e, e.x, e.y] := rfl
  have hmay := words_may (mode := mode) M
  have hbl := blind_range (mode := mode) M
  have hw : IntKind.i64.wrap (blindM mode e + 32) = 32 + blindM mode e := by rw [IntKind.wrap_i64]; omega
  have hrd : Rd [(a, .cells [.int .i64 (blindM mode e)]), (c, .cells (moAV e))] := Rd.of fun p hp => by
    simp only [List.mem_cons, List.not_mem_nil, or_false] at hp
    rcases hp with rfl | rfl
    · exact ⟨ha, _, rfl, rfl⟩
    · exact ⟨hc, _, rfl, rfl⟩
  rw [hq] at hmay ⊢
  have c1 := fun t : Option Nm => fs_NumM (Gl := Gl) hst (pr := 0) (fi := 77) (a := 32 + blindM mode e) (b := e.x) (c := e.y) (t := t)
  have c2 := fs_wPutM (Gl := Gl) hst (pr := 0) (.inl rfl) (.inl rfl) hmay
  (generalize hQ : (fun (ex : Ex) (_ _ : Nat) (s : St) => _) = Q; unfold ir_mouseEncode2)
  simp +contextual (maxSteps := 1000000) only [hmo, n1, n2, hw, go_sem, reduceCtorEq, ↓reduceIte, Nat.reduceAdd, Nat.reduceEqDiff, Nat.reduceLeDiff, Nat.reduceMul, Nat.reduceBEq, Int.reduceBEq, Int.reduceBNe, Int.reduceLT, Int.reduceLE, Int.reduceGT, Int.reduceGE, Int.reduceToNat]
  (refine CallP.pure (c1 _) (fun _ => rfl) ?_; simp +contextual (maxSteps := 1000000) only [go_sem, reduceCtorEq, ↓reduceIte, Nat.reduceAdd, Nat.reduceEqDiff, Nat.reduceLeDiff, Nat.reduceMul, Nat.reduceBEq, Int.reduceBEq, Int.reduceBNe, Int.reduceLT, Int.reduceLE, Int.reduceGT, Int.reduceGE, Int.reduceToNat])
  (refine CallP.pure (c2) (fun _ => rfl) ?_; simp +contextual (maxSteps := 1000000) only [go_sem, reduceCtorEq, ↓reduceIte, Nat.reduceAdd, Nat.reduceEqDiff, Nat.reduceLeDiff, Nat.reduceMul, Nat.reduceBEq, Int.reduceBEq, Int.reduceBNe, Int.reduceLT, Int.reduceLE, Int.reduceGT, Int.reduceGE, Int.reduceToNat])
  rw [← hQ]
  exact ⟨trivial, Ret.reads hrd rfl rfl (by simp [hmo])⟩
theorem wide_cells {mode : Int} {e : Mo} : cellsMo putU 2015 (blindM mode e) e.x e.y = wideB mode e := by
  unfold cellsMo wideB
  by_cases h : e.x > 2015 ∨ e.y > 2015
  · rw [if_pos h, if_pos (by omega)]
  · rw [if_neg h, if_neg (by omega)]
    simp only [List.flatMap_cons, List.flatMap_nil, List.append_nil]
    rw [Int.add_comm (blindM mode e), Int.add_comm e.x, Int.add_comm e.y]
theorem plain_cells {mode : Int} {e : Mo} : cellsMo (fun n => [byteM n]) 223 (blindM mode e) e.x e.y = plainM mode e := by
  unfold cellsMo plainM
  by_cases h : e.x > 223 ∨ e.y > 223
  · rw [if_pos h, if_pos (by omega)]
  · rw [if_neg h, if_neg (by omega)]
    simp only [List.flatMap_cons, List.flatMap_nil, List.append_nil]
    rw [Int.add_comm (blindM mode e), Int.add_comm e.x, Int.add_comm e.y]
    rfl
theorem fs_enc3 {Gl : Gh → Prop} (hst : Stays Gl) {mode : Int} {e : Mo} (M : MayM e) {a c : Nm} (ha : 1 ≤ a.1) (hc : 1 ≤ c.1) (hac : a ≠ c) :
    FS Tryd.prog Gl 49 [.ptr a 0, .ptr c 0] [(a, .cells [.int .i64 (blindM mode e)]), (c, .cells (moAV e))] [] (.sl none 1 (bytesAV (wideB mode e))) [(a, .cells [.int .i64 (blindM mode e)]), (c, .cells (moAV e))] [] := by
  refine FS.of hm hst is_mouseEncode3 (by simp) fun γ hγ hfr => ?_
  have hmo : moAV e = [.int .i64 e.button, .int .i64 e.type, .int .i64 e.x, .int .i64 e.y, .int .i64 e.mods] := rfl
  have n1 : (a = c) = False := eq_false hac
  have n2 : (c = a) = False := eq_false fun e => hac e.symm
  have hbl := blind_range (mode := mode) M
  have hx0 := M.x0
  have hx1 := M.x1
  have hy0 := M.y0
  have hy1 := M.y1
  have hrd : Rd [(a, .cells [.int .i64 (blindM mode e)]), (c, .cells (moAV e))] := Rd.of fun p hp => by
    simp only [List.mem_cons, List.not_mem_nil, or_false] at hp
    rcases hp with rfl | rfl
    · exact ⟨ha, _, rfl, rfl⟩
    · exact ⟨hc, _, rfl, rfl⟩
  have c1 := fs_cells (Gl := Gl) hst (k := 51) (p := putU) (fun n => fs_putU hst) (fun n => putU_len n) (most := 2015) (code := blindM mode e) (x := e.x) (y := e.y) (by omega) (by omega) (by omega)
  rw [wide_cells] at c1
  (generalize hQ : (fun (ex : Ex) (_ _ : Nat) (s : St) => _) = Q; unfold ir_mouseEncode3)
  simp +contextual (maxSteps := 1000000) only [hmo, n1, n2, go_sem, reduceCtorEq, ↓reduceIte, Nat.reduceAdd, Nat.reduceEqDiff, Nat.reduceLeDiff, Nat.reduceMul, Nat.reduceBEq, Int.reduceBEq, Int.reduceBNe, Int.reduceLT, Int.reduceLE, Int.reduceGT, Int.reduceGE, Int.reduceToNat]
  (refine CallP.pure (c1) (fun _ => rfl) ?_; simp +contextual (maxSteps := 1000000) only [go_sem, reduceCtorEq, ↓reduceIte, Nat.reduceAdd, Nat.reduceEqDiff, Nat.reduceLeDiff, Nat.reduceMul, Nat.reduceBEq, Int.reduceBEq, Int.reduceBNe, Int.reduceLT, Int.reduceLE, Int.reduceGT, Int.reduceGE, Int.reduceToNat])
  rw [← hQ]
  exact ⟨trivial, Ret.reads hrd rfl rfl (by simp [hmo])⟩
set_option maxHeartbeats 8000000 in
theorem fs_Enc {Gl : Gh → Prop} (hst : Stays Gl) {mode coding : Int} {e : Mo} : FS Tryd.prog Gl 26 [.int .i64 mode, .int .i64 coding, .agg (moAV e)] [] [] (.sl none 1 (bytesAV (encM mode coding e))) [] [] := by
  refine FS.ofW hm hst is_mouseEncode rfl (by simp) fun γ hγ hfr => ?_
  have hmo : moAV e = [.int .i64 e.button, .int .i64 e.type, .int .i64 e.x, .int .i64 e.y, .int .i64 e.mods] := rfl
  have hz : encM mode coding e = if mayM e = false then [] else if coding = 1006 then putB (exactQ mode e) else if coding = 1015 then putB (wordsQ mode e) else if coding = 1005 then wideB mode e else plainM mode e := rfl
  have c1 := fs_tMay (Gl := Gl) hst (e := e)
  have c2 := fs_mCode (Gl := Gl) hst (mode := mode) (e := e)
  rw [hmo] at c1 c2
  simp only [hmo]
  (generalize hQ : (fun (ex : Ex) (_ _ : Nat) (s : St) => _) = Q; unfold ir_mouseEncode)
  simp +contextual (maxSteps := 1000000) only [go_sem, reduceCtorEq, ↓reduceIte, Nat.reduceAdd, Nat.reduceEqDiff, Nat.reduceLeDiff, Nat.reduceMul, Nat.reduceBEq, Int.reduceBEq, Int.reduceBNe, Int.reduceLT, Int.reduceLE, Int.reduceGT, Int.reduceGE, Int.reduceToNat]
  (refine CallP.pure (c1) (fun _ => rfl) ?_; simp +contextual (maxSteps := 1000000) only [go_sem, reduceCtorEq, ↓reduceIte, Nat.reduceAdd, Nat.reduceEqDiff, Nat.reduceLeDiff, Nat.reduceMul, Nat.reduceBEq, Int.reduceBEq, Int.reduceBNe, Int.reduceLT, Int.reduceLE, Int.reduceGT, Int.reduceGE, Int.reduceToNat])
  cases hM : mayM e with
  | false =>
    simp +contextual (maxSteps := 1000000) only [hM, go_sem, reduceCtorEq, ↓reduceIte, Nat.reduceAdd, Nat.reduceEqDiff, Nat.reduceLeDiff, Nat.reduceMul, Nat.reduceBEq, Int.reduceBEq, Int.reduceBNe, Int.reduceLT, Int.reduceLE, Int.reduceGT, Int.reduceGE, Int.reduceToNat]
    rw [← hQ, hz, if_pos hM]
    exact ⟨trivial, .inl ⟨_, rfl, RepLe.nils 1⟩⟩
  | true =>
    rw [if_neg (by rw [hM]; simp)] at hz
    have M := mayM_iff.1 hM
    have hbl := blind_range (mode := mode) M
    have hx0 := M.x0
    have hx1 := M.x1
    have hy0 := M.y0
    have hy1 := M.y1
    have c3 := fs_marks (Gl := Gl) hst (mode := mode) (e := e) M.m0 M.m1
    have d1 := fun (a b c : Nm) ha hb hc h1 h2 h3 => fs_enc1 (Gl := Gl) hst (mode := mode) (e := e) M (a := a) (b := b) (c := c) ha hb hc h1 h2 h3
    have d2 := fun (a c : Nm) ha hc h1 => fs_enc2 (Gl := Gl) hst (mode := mode) (e := e) M (a := a) (c := c) ha hc h1
    have d3 := fun (a c : Nm) ha hc h1 => fs_enc3 (Gl := Gl) hst (mode := mode) (e := e) M (a := a) (c := c) ha hc h1
    have d4 := fs_cells (Gl := Gl) hst (k := 52) (p := fun n => [byteM n]) (fun n => fs_mOne hst) (fun n => by simp) (most := 223) (code := blindM mode e) (x := e.x) (y := e.y) (by omega) (by omega) (by omega)
    rw [plain_cells] at d4
    rw [hmo] at c3
    simp only [hmo] at d1 d2 d3
    have fin : ∀ {l : List UInt8} {γ' c' : Nat} {st : St}, st.F 6 = .sl none 1 (bytesAV l) → encM mode coding e = l → Q .ret γ' c' st := by
      intro l γ' c' st h hl
      rw [← hQ, hl]
      exact ⟨trivial, .inl ⟨_, by simp only [resOf, getAll, IRes.get, h], RepLe.refl _⟩⟩
    simp +contextual (maxSteps := 1000000) only [hM, go_sem, reduceCtorEq, ↓reduceIte, Nat.reduceAdd, Nat.reduceEqDiff, Nat.reduceLeDiff, Nat.reduceMul, Nat.reduceBEq, Int.reduceBEq, Int.reduceBNe, Int.reduceLT, Int.reduceLE, Int.reduceGT, Int.reduceGE, Int.reduceToNat]
    (refine CallP.pure (c2) (fun _ => rfl) ?_; simp +contextual (maxSteps := 1000000) only [go_sem, reduceCtorEq, ↓reduceIte, Nat.reduceAdd, Nat.reduceEqDiff, Nat.reduceLeDiff, Nat.reduceMul, Nat.reduceBEq, Int.reduceBEq, Int.reduceBNe, Int.reduceLT, Int.reduceLE, Int.reduceGT, Int.reduceGE, Int.reduceToNat])
    by_cases t3 : e.type = 3
    · have q3 : (e.type == 3) = true := beq_iff_eq.2 t3
      have hb : blindM mode e = 3 + marksM mode e := if_pos t3
      have hw : IntKind.i64.wrap (3 + marksM mode e) = blindM mode e := by rw [hb, IntKind.wrap_i64]; omega
      simp only [if_pos t3] at d1
      simp +contextual (maxSteps := 1000000) only [q3, go_sem, reduceCtorEq, ↓reduceIte, Nat.reduceAdd, Nat.reduceEqDiff, Nat.reduceLeDiff, Nat.reduceMul, Nat.reduceBEq, Int.reduceBEq, Int.reduceBNe, Int.reduceLT, Int.reduceLE, Int.reduceGT, Int.reduceGE, Int.reduceToNat]
      (refine CallP.pure (c3) (fun _ => rfl) ?_; simp +contextual (maxSteps := 1000000) only [hw, go_sem, reduceCtorEq, ↓reduceIte, Nat.reduceAdd, Nat.reduceEqDiff, Nat.reduceLeDiff, Nat.reduceMul, Nat.reduceBEq, Int.reduceBEq, Int.reduceBNe, Int.reduceLT, Int.reduceLE, Int.reduceGT, Int.reduceGE, Int.reduceToNat])
      by_cases e6 : coding = 1006
      · have q6 : (coding == 1006) = true := beq_iff_eq.2 e6
        simp +contextual (maxSteps := 1000000) only [fe_nil', fe_int', isKey_int', q6, go_sem, reduceCtorEq, ↓reduceIte, Nat.reduceAdd, Nat.reduceEqDiff, Nat.reduceLeDiff, Nat.reduceMul, Nat.reduceBEq, Int.reduceBEq, Int.reduceBNe, Int.reduceLT, Int.reduceLE, Int.reduceGT, Int.reduceGE, Int.reduceToNat]
        refine CallP.peek (d1 _ _ _ hγ hγ hγ (by simp) (by simp) (by simp)) (fun _ => rfl) (by simp) fun H' => ?_
        simp +contextual (maxSteps := 1000000) only [go_sem, reduceCtorEq, ↓reduceIte, Nat.reduceAdd, Nat.reduceEqDiff, Nat.reduceLeDiff, Nat.reduceMul, Nat.reduceBEq, Int.reduceBEq, Int.reduceBNe, Int.reduceLT, Int.reduceLE, Int.reduceGT, Int.reduceGE, Int.reduceToNat]
        exact fin rfl (by rw [hz, if_pos e6])
      · have q6 : (coding == 1006) = false := beq_eq_false_iff_ne.2 e6
        by_cases e15 : coding = 1015
        · have q15 : (coding == 1015) = true := beq_iff_eq.2 e15
          simp +contextual (maxSteps := 1000000) only [fe_nil', fe_int', isKey_int', q6, q15, go_sem, reduceCtorEq, ↓reduceIte, Nat.reduceAdd, Nat.reduceEqDiff, Nat.reduceLeDiff, Nat.reduceMul, Nat.reduceBEq, Int.reduceBEq, Int.reduceBNe, Int.reduceLT, Int.reduceLE, Int.reduceGT, Int.reduceGE, Int.reduceToNat]
          refine CallP.peek (d2 _ _ hγ hγ (by simp)) (fun _ => rfl) (by simp) fun H' => ?_
          simp +contextual (maxSteps := 1000000) only [go_sem, reduceCtorEq, ↓reduceIte, Nat.reduceAdd, Nat.reduceEqDiff, Nat.reduceLeDiff, Nat.reduceMul, Nat.reduceBEq, Int.reduceBEq, Int.reduceBNe, Int.reduceLT, Int.reduceLE, Int.reduceGT, Int.reduceGE, Int.reduceToNat]
          exact fin rfl (by rw [hz, if_neg e6, if_pos e15])
        · have q15 : (coding == 1015) = false := beq_eq_false_iff_ne.2 e15
          by_cases e5 : coding = 1005
          · have q5 : (coding == 1005) = true := beq_iff_eq.2 e5
            simp +contextual (maxSteps := 1000000) only [fe_nil', fe_int', isKey_int', q6, q15, q5, go_sem, reduceCtorEq, ↓reduceIte, Nat.reduceAdd, Nat.reduceEqDiff, Nat.reduceLeDiff, Nat.reduceMul, Nat.reduceBEq, Int.reduceBEq, Int.reduceBNe, Int.reduceLT, Int.reduceLE, Int.reduceGT, Int.reduceGE, Int.reduceToNat]
            refine CallP.peek (d3 _ _ hγ hγ (by simp)) (fun _ => rfl) (by simp) fun H' => ?_
            simp +contextual (maxSteps := 1000000) only [go_sem, reduceCtorEq, ↓reduceIte, Nat.reduceAdd, Nat.reduceEqDiff, Nat.reduceLeDiff, Nat.reduceMul, Nat.reduceBEq, Int.reduceBEq, Int.reduceBNe, Int.reduceLT, Int.reduceLE, Int.reduceGT, Int.reduceGE, Int.reduceToNat]
            exact fin rfl (by rw [hz, if_neg e6, if_neg e15, if_pos e5])
          · have q5 : (coding == 1005) = false := beq_eq_false_iff_ne.2 e5
            simp +contextual (maxSteps := 1000000) only [fe_nil', fe_int', isKey_int', q6, q15, q5, go_sem, reduceCtorEq, ↓reduceIte, Nat.reduceAdd, Nat.reduceEqDiff, Nat.reduceLeDiff, Nat.reduceMul, Nat.reduceBEq, Int.reduceBEq, Int.reduceBNe, Int.reduceLT, Int.reduceLE, Int.reduceGT, Int.reduceGE, Int.reduceToNat]
            (refine CallP.pure (d4) (fun _ => rfl) ?_; simp +contextual (maxSteps := 1000000) only [go_sem, reduceCtorEq, ↓reduceIte, Nat.reduceAdd, Nat.reduceEqDiff, Nat.reduceLeDiff, Nat.reduceMul, Nat.reduceBEq, Int.reduceBEq, Int.reduceBNe, Int.reduceLT, Int.reduceLE, Int.reduceGT, Int.reduceGE, Int.reduceToNat])
            exact fin rfl (by rw [hz, if_neg e6, if_neg e15, if_neg e5])
    · have q3 : (e.type == 3) = false := beq_eq_false_iff_ne.2 t3
      have hb : blindM mode e = codeM mode e := if_neg t3
      simp only [if_neg t3] at d1
      rw [hb] at d4
      simp only [hb] at d2 d3
      simp +contextual (maxSteps := 1000000) only [q3, go_sem, reduceCtorEq, ↓reduceIte, Nat.reduceAdd, Nat.reduceEqDiff, Nat.reduceLeDiff, Nat.reduceMul, Nat.reduceBEq, Int.reduceBEq, Int.reduceBNe, Int.reduceLT, Int.reduceLE, Int.reduceGT, Int.reduceGE, Int.reduceToNat]
      by_cases e6 : coding = 1006
      · have q6 : (coding == 1006) = true := beq_iff_eq.2 e6
        simp +contextual (maxSteps := 1000000) only [fe_nil', fe_int', isKey_int', q6, go_sem, reduceCtorEq, ↓reduceIte, Nat.reduceAdd, Nat.reduceEqDiff, Nat.reduceLeDiff, Nat.reduceMul, Nat.reduceBEq, Int.reduceBEq, Int.reduceBNe, Int.reduceLT, Int.reduceLE, Int.reduceGT, Int.reduceGE, Int.reduceToNat]
        refine CallP.peek (d1 _ _ _ hγ hγ hγ (by simp) (by simp) (by simp)) (fun _ => rfl) (by simp) fun H' => ?_
        simp +contextual (maxSteps := 1000000) only [go_sem, reduceCtorEq, ↓reduceIte, Nat.reduceAdd, Nat.reduceEqDiff, Nat.reduceLeDiff, Nat.reduceMul, Nat.reduceBEq, Int.reduceBEq, Int.reduceBNe, Int.reduceLT, Int.reduceLE, Int.reduceGT, Int.reduceGE, Int.reduceToNat]
        exact fin rfl (by rw [hz, if_pos e6])
      · have q6 : (coding == 1006) = false := beq_eq_false_iff_ne.2 e6
        by_cases e15 : coding = 1015
        · have q15 : (coding == 1015) = true := beq_iff_eq.2 e15
          simp +contextual (maxSteps := 1000000) only [fe_nil', fe_int', isKey_int', q6, q15, go_sem, reduceCtorEq, ↓reduceIte, Nat.reduceAdd, Nat.reduceEqDiff, Nat.reduceLeDiff, Nat.reduceMul, Nat.reduceBEq, Int.reduceBEq, Int.reduceBNe, Int.reduceLT, Int.reduceLE, Int.reduceGT, Int.reduceGE, Int.reduceToNat]
          refine CallP.peek (d2 _ _ hγ hγ (by simp)) (fun _ => rfl) (by simp) fun H' => ?_
          simp +contextual (maxSteps := 1000000) only [go_sem, reduceCtorEq, ↓reduceIte, Nat.reduceAdd, Nat.reduceEqDiff, Nat.reduceLeDiff, Nat.reduceMul, Nat.reduceBEq, Int.reduceBEq, Int.reduceBNe, Int.reduceLT, Int.reduceLE, Int.reduceGT, Int.reduceGE, Int.reduceToNat]
          exact fin rfl (by rw [hz, if_neg e6, if_pos e15])
        · have q15 : (coding == 1015) = false := beq_eq_false_iff_ne.2 e15
          by_cases e5 : coding = 1005
          · have q5 : (coding == 1005) = true := beq_iff_eq.2 e5
            simp +contextual (maxSteps := 1000000) only [fe_nil', fe_int', isKey_int', q6, q15, q5, go_sem, reduceCtorEq, ↓reduceIte, Nat.reduceAdd, Nat.reduceEqDiff, Nat.reduceLeDiff, Nat.reduceMul, Nat.reduceBEq, Int.reduceBEq, Int.reduceBNe, Int.reduceLT, Int.reduceLE, Int.reduceGT, Int.reduceGE, Int.reduceToNat]
            refine CallP.peek (d3 _ _ hγ hγ (by simp)) (fun _ => rfl) (by simp) fun H' => ?_
            simp +contextual (maxSteps := 1000000) only [go_sem, reduceCtorEq, ↓reduceIte, Nat.reduceAdd, Nat.reduceEqDiff, Nat.reduceLeDiff, Nat.reduceMul, Nat.reduceBEq, Int.reduceBEq, Int.reduceBNe, Int.reduceLT, Int.reduceLE, Int.reduceGT, Int.reduceGE, Int.reduceToNat]
            exact fin rfl (by rw [hz, if_neg e6, if_neg e15, if_pos e5])
          · have q5 : (coding == 1005) = false := beq_eq_false_iff_ne.2 e5
            simp +contextual (maxSteps := 1000000) only [fe_nil', fe_int', isKey_int', q6, q15, q5, go_sem, reduceCtorEq, ↓reduceIte, Nat.reduceAdd, Nat.reduceEqDiff, Nat.reduceLeDiff, Nat.reduceMul, Nat.reduceBEq, Int.reduceBEq, Int.reduceBNe, Int.reduceLT, Int.reduceLE, Int.reduceGT, Int.reduceGE, Int.reduceToNat]
            (refine CallP.pure (d4) (fun _ => rfl) ?_; simp +contextual (maxSteps := 1000000) only [go_sem, reduceCtorEq, ↓reduceIte, Nat.reduceAdd, Nat.reduceEqDiff, Nat.reduceLeDiff, Nat.reduceMul, Nat.reduceBEq, Int.reduceBEq, Int.reduceBNe, Int.reduceLT, Int.reduceLE, Int.reduceGT, Int.reduceGE, Int.reduceToNat])
            exact fin rfl (by rw [hz, if_neg e6, if_neg e15, if_neg e5])
end Go.Proofs.YtfnngjnfajnpaaaDoor

namespace Go.Proofs.YtfnngjnfajnpaaaDoor
open Go Go.Ab
/- clavier/mouse.like -/
def ir_mouselike_l0 : ICode :=
 (.seq
 (.reg [⟨some 19, none, .bin .lss .none (.t 18) (.c (.int .i64 12))⟩] (some [0, 4, 5, 18, 19]))
 (.seq
 (.cond (.t 19)
 .skip
 (.exit 0))
 (.seq
 (.blk 1
 (.seq
 (.reg [⟨some 20, none, .mov (.t 18)⟩,
 ⟨some 6, none, .mov (.t 20)⟩] (some [0, 4, 5, 6, 18]))
 (.seq
 (.reg [⟨some 21, none, .mov (.t 6)⟩,
 ⟨some 22, none, .call (.c (.fn (.func 68) [] [])) [(.t 21)]⟩,
 ⟨some 23, none, .mov (.t 0)⟩,
 ⟨some 24, none, .bin .andNot .none (.t 23) (.c (.int .i64 60))⟩,
 ⟨some 25, none, .bin .eql .none (.t 22) (.t 24)⟩] (some [0, 4, 5, 6, 18, 25]))
 (.cond (.t 25)
 (.reg [⟨some 26, none, .mov (.t 6)⟩,
 ⟨some 27, none, .fa 0 (.t 5)⟩,
 ⟨none, none, .st 1 (.t 27) (.t 26)⟩] (some [0, 4, 5, 18]))
 .skip))))
 (.reg [⟨some 28, none, .bin .add .none (.t 18) (.c (.int .i64 1))⟩,
 ⟨some 18, none, .mov (.t 28)⟩] (some [0, 4, 5, 18])))))
def ir_mouselike : ICode :=
 (.seq
 (.reg [⟨some 4, none, .box 50 (.c (.agg [(.int .i64 0), (.int .i64 0), (.int .i64 0), (.int .i64 0), (.int .i64 0)]))⟩] (some [0, 1, 4]))
 (.seq
 (.reg [⟨some 7, none, .mov (.t 0)⟩,
 ⟨some 8, none, .bin .quo .none (.t 7) (.c (.int .i64 4))⟩,
 ⟨some 9, none, .bin .rem .none (.t 8) (.c (.int .i64 8))⟩,
 ⟨some 10, none, .bld [(.int .i64 0), (.int .i64 0), (.int .i64 0), (.int .i64 0), (.int .i64 0)] [(1, 1, (.c (.int .i64 1))), (4, 1, (.t 9))]⟩,
 ⟨some 5, none, .box 50 (.c (.agg [(.int .i64 0), (.int .i64 0), (.int .i64 0), (.int .i64 0), (.int .i64 0)]))⟩,
 ⟨none, none, .st 5 (.t 5) (.t 10)⟩] (some [0, 1, 4, 5]))
 (.seq
 (.seq
 (.reg [⟨some 11, none, .mov (.t 0)⟩,
 ⟨some 12, none, .bin .and .none (.t 11) (.c (.int .i64 32))⟩,
 ⟨some 13, none, .bin .neq .none (.t 12) (.c (.int .i64 0))⟩] (some [0, 1, 4, 5, 13]))
 (.cond (.t 13)
 (.reg [⟨some 14, none, .fa 1 (.t 5)⟩,
 ⟨none, none, .st 1 (.t 14) (.c (.int .i64 4))⟩] (some [0, 1, 4, 5]))
 .skip))
 (.seq
 (.seq
 (.reg [⟨some 15, none, .mov (.t 1)⟩,
 ⟨some 16, none, .bin .eql .none (.t 15) (.c (.int .u8 109))⟩] (some [0, 4, 5, 16]))
 (.cond (.t 16)
 (.reg [⟨some 17, none, .fa 1 (.t 5)⟩,
 ⟨none, none, .st 1 (.t 17) (.c (.int .i64 3))⟩] (some [0, 4, 5]))
 .skip))
 (.seq
 (.seq
 (.reg [⟨some 18, none, .mov (.c (.int .i64 0))⟩] (some [0, 4, 5, 18]))
 (.blk 0
 (.loop
 ir_mouselike_l0)))
 (.seq
 (.reg [⟨some 29, none, .ld (some 5) (.t 5)⟩,
 ⟨none, none, .st 5 (.t 4) (.t 29)⟩] (some [4]))
 .ret))))))
theorem is_mouselike : IrOf Tryd.prog 53 30 ir_mouselike [.cell 4 (some 5)] := ⟨_, Tryd.func53, rfl, by kernel_rfl, by kernel_rfl, by kernel_rfl⟩

def ir_mouseDecode : ICode :=
 (.seq
 (.reg [⟨some 2, none, .box 50 (.c (.agg [(.int .i64 0), (.int .i64 0), (.int .i64 0), (.int .i64 0), (.int .i64 0)]))⟩,
 ⟨some 3, none, .mov (.c (.bool false))⟩] (some [0, 2]))
 (.seq
 (.reg [⟨some 10, none, .mov (.t 0)⟩,
 ⟨some 11, none, .call (.c (.fn (.func 18) [] [])) [(.t 10)]⟩,
 ⟨some 9, none, .mov (.t 11)⟩,
 ⟨some 12, none, .ext (.t 9) 0⟩,
 ⟨some 13, none, .ext (.t 9) 1⟩,
 ⟨some 14, none, .ext (.t 9) 2⟩,
 ⟨some 4, none, .box 24 (.c (.agg [(.int .i64 0), (.int .u8 0), .nils, (.str []), (.int .u8 0), (.str [])]))⟩,
 ⟨none, none, .st 6 (.t 4) (.t 12)⟩,
 ⟨some 5, none, .mov (.t 13)⟩,
 ⟨some 6, none, .mov (.t 14)⟩] (some [0, 2, 4, 6]))
 (.seq
 (.reg [⟨some 15, none, .ld (some 6) (.t 4)⟩,
 ⟨some 16, none, .call (.c (.fn (.func 22) [] [])) [(.t 15), (.c (.int .i64 0)), (.c (.int .i64 256))]⟩,
 ⟨some 7, none, .mov (.t 16)⟩] (some [0, 2, 4, 6, 7]))
 (.seq
 (.seq
 (.reg [⟨some 17, none, .mov (.t 6)⟩,
 ⟨some 18, none, .bin .neq .none (.t 17) (.c (.int .i64 0))⟩,
 ⟨some 19, none, .mov (.t 18)⟩,
 ⟨some 20, some (19, false), .mov (.t 7)⟩,
 ⟨some 21, some (19, false), .bin .gtr .none (.t 20) (.c (.int .i64 255))⟩,
 ⟨some 22, none, .pick (.t 19) (.c (.bool true)) (.t 21)⟩] (some [0, 2, 4, 7, 22]))
 (.cond (.t 22)
 (.seq
 (.reg [⟨some 23, none, .bld [(.int .i64 0), (.int .i64 0), (.int .i64 0), (.int .i64 0), (.int .i64 0)] []⟩,
 ⟨none, none, .st 5 (.t 2) (.t 23)⟩,
 ⟨some 3, none, .mov (.c (.bool false))⟩] (some [2, 3]))
 .ret)
 .skip))
 (.seq
 (.reg [⟨some 24, none, .mov (.t 7)⟩,
 ⟨some 25, none, .fa 4 (.t 4)⟩,
 ⟨some 26, none, .ld none (.t 25)⟩,
 ⟨some 27, none, .call (.c (.fn (.func 53) [] [])) [(.t 24), (.t 26)]⟩,
 ⟨some 8, none, .box 50 (.c (.agg [(.int .i64 0), (.int .i64 0), (.int .i64 0), (.int .i64 0), (.int .i64 0)]))⟩,
 ⟨none, none, .st 5 (.t 8) (.t 27)⟩] (some [0, 2, 4, 8]))
 (.seq
 (.drwm [(), (), (), (), ()] [⟨⟨some 28, none, .ld (some 6) (.t 4)⟩, []⟩,
 ⟨⟨some 29, none, .call (.c (.fn (.func 22) [] [])) [(.t 28), (.c (.int .i64 1)), (.c (.int .i64 0))]⟩, [0]⟩,
 ⟨⟨some 30, none, .ld (some 6) (.t 4)⟩, []⟩,
 ⟨⟨some 31, none, .call (.c (.fn (.func 22) [] [])) [(.t 30), (.c (.int .i64 2)), (.c (.int .i64 0))]⟩, [2, 1]⟩,
 ⟨⟨some 32, none, .fa 2 (.t 8)⟩, [0, 1]⟩,
 ⟨⟨none, none, .st 1 (.t 32) (.t 29)⟩, [4, 1, 3, 0, 1]⟩]
 [⟨some 33, none, .fa 3 (.t 8)⟩,
 ⟨none, none, .st 1 (.t 33) (.t 31)⟩] (some [0, 2, 8]))
 (.seq
 (.seq
 (.reg [⟨some 34, none, .ld (some 5) (.t 8)⟩,
 ⟨some 35, none, .call (.c (.fn (.func 45) [] [])) [(.t 34)]⟩,
 ⟨some 36, none, .un .not (.t 35)⟩,
 ⟨some 37, none, .mov (.t 36)⟩,
 ⟨some 38, some (37, false), .ld (some 5) (.t 8)⟩,
 ⟨some 39, some (37, false), .call (.c (.fn (.func 26) [] [])) [(.c (.int .i64 1003)), (.c (.int .i64 1006)), (.t 38)]⟩,
 ⟨some 40, some (37, false), .mov (.t 0)⟩,
 ⟨some 41, some (37, false), .call (.c (.fn (.func 54) [] [])) [(.t 39), (.t 40)]⟩,
 ⟨some 42, some (37, false), .un .not (.t 41)⟩,
 ⟨some 43, none, .pick (.t 37) (.c (.bool true)) (.t 42)⟩] (some [2, 8, 43]))
 (.cond (.t 43)
 (.seq
 (.reg [⟨some 44, none, .bld [(.int .i64 0), (.int .i64 0), (.int .i64 0), (.int .i64 0), (.int .i64 0)] []⟩,
 ⟨none, none, .st 5 (.t 2) (.t 44)⟩,
 ⟨some 3, none, .mov (.c (.bool false))⟩] (some [2, 3]))
 .ret)
 .skip))
 (.seq
 (.reg [⟨some 45, none, .ld (some 5) (.t 8)⟩,
 ⟨none, none, .st 5 (.t 2) (.t 45)⟩,
 ⟨some 3, none, .mov (.c (.bool true))⟩] (some [2, 3]))
 .ret))))))))
theorem is_mouseDecode : IrOf Tryd.prog 27 46 ir_mouseDecode [.cell 2 (some 5), .t 3] := ⟨_, Tryd.func27, rfl, by kernel_rfl, by kernel_rfl, by kernel_rfl⟩

theorem num_low : ∀ n : Fin 192, bits .andNot .i64 ((n.val : Nat) : Int) 60 = ((n.val % 4 + n.val / 64 * 64 : Nat) : Int) := by decide +kernel
theorem num_mot : ∀ n : Fin 192, (bits .and .i64 ((n.val : Nat) : Int) 32 != 0) = decide (n.val / 32 % 2 = 1) := by decide +kernel
theorem num_parts {b : Int} (h0 : 0 ≤ b) (h1 : b ≤ 11) : ∃ k j : Int, numM b = 64 * k + j ∧ 0 ≤ j ∧ j < 4 ∧ 0 ≤ k ∧ k ≤ 2 := by
  unfold numM
  by_cases c0 : b = 0
  · exact ⟨0, 3, by rw [if_pos c0]; rfl, by omega, by omega, by omega, by omega⟩
  · by_cases c1 : b ≤ 3
    · exact ⟨0, b - 1, by rw [if_neg c0, if_pos c1]; omega, by omega, by omega, by omega, by omega⟩
    · by_cases c2 : b ≤ 7
      · exact ⟨1, b - 4, by rw [if_neg c0, if_neg c1, if_pos c2]; omega, by omega, by omega, by omega, by omega⟩
      · exact ⟨2, b - 8, by rw [if_neg c0, if_neg c1, if_neg c2]; omega, by omega, by omega, by omega, by omega⟩
theorem num_inj {a b : Int} (ha : 0 ≤ a ∧ a ≤ 11) (hb : 0 ≤ b ∧ b ≤ 11) : (numM a == numM b) = decide (a = b) := by
  rw [Bool.eq_iff_iff, beq_iff_eq, decide_eq_true_eq]
  constructor
  · intro h
    unfold numM at h
    repeat' split at h
    all_goals omega
  · intro h; rw [h]
theorem marks_1003 (e : Mo) : marksM 1003 e = (if e.type = 4 then 32 else 0) + 4 * (e.mods % 8) := by
  unfold marksM
  rw [if_neg (show ¬ (1003 : Int) = 9 by omega)]
theorem btn_range {e : Mo} (M : MayM e) : 0 ≤ e.button ∧ e.button ≤ 11 := by
  have := M.kd
  omega
theorem like_num {e : Mo} (M : MayM e) : bits .andNot .i64 (codeM 1003 e) 60 = numM e.button ∧ (bits .and .i64 (codeM 1003 e) 32 != 0) = (e.type == 4) ∧ (IntKind.i64.wrap ((codeM 1003 e).tdiv 4)).tmod 8 = e.mods % 8 := by
  obtain ⟨hc, c0, c1⟩ := code_range (mode := 1003) M
  have hb := btn_range M
  obtain ⟨k, j, hn, j0, j1, k0, k1⟩ := num_parts hb.1 hb.2
  rw [marks_1003] at hc
  have h1 := num_low ⟨(codeM 1003 e).toNat, by omega⟩
  have h2 := num_mot ⟨(codeM 1003 e).toNat, by omega⟩
  simp only at h1 h2
  rw [show (((codeM 1003 e).toNat : Nat) : Int) = codeM 1003 e by omega] at h1 h2
  refine ⟨?_, ?_, ?_⟩
  · rw [h1]
    split at hc <;> omega
  · rw [h2, Bool.eq_iff_iff, decide_eq_true_eq, beq_iff_eq]
    split at hc <;> omega
  · rw [Int.tdiv_eq_ediv_of_nonneg (by omega), IntKind.wrap_i64, Int.tmod_eq_emod_of_nonneg (by split at hc <;> omega)]
    split at hc <;> omega
set_option maxHeartbeats 4000000 in
theorem fs_like {Gl : Gh → Prop} (hst : Stays Gl) {e : Mo} (M : MayM e) : FS Tryd.prog Gl 53 [.int .i64 (codeM 1003 e), .int .u8 (if e.type = 3 then 109 else 77)] [] [] (.agg (moAV ⟨e.button, e.type, 0, 0, e.mods % 8⟩)) [] [] := by
  refine FS.of hm hst is_mouselike (by simp) fun γ hγ hfr => ?_
  obtain ⟨q1, q2, q3⟩ := like_num M
  have hb := btn_range M
  have hk := M.kd
  have hmo : moAV ⟨e.button, e.type, 0, 0, e.mods % 8⟩ = [.int .i64 e.button, .int .i64 e.type, .int .i64 0, .int .i64 0, .int .i64 (e.mods % 8)] := rfl
  generalize codeM 1003 e = n at *
  have lp : ∀ {Q : Ex → Nat → Nat → St → Prop} {c : Nat}, (∀ γ' c', Q (.exit 0) γ' c' ⟨lf [(0, .int .i64 n), (4, .ptr (γ, 0, 0) 0), (5, .ptr (γ, 5, 0) 0), (18, .int .i64 12), (19, .bool false)], [((γ, 5, 0), .cells [.int .i64 e.button, .int .i64 e.type, .int .i64 0, .int .i64 0, .int .i64 (e.mods % 8)]), ((γ, 0, 0), .cells [.int .i64 0, .int .i64 0, .int .i64 0, .int .i64 0, .int .i64 0])], fun x => x ∈ []⟩) →
      kLoop Tryd.prog Gl ir_mouselike_l0 γ c ⟨lf [(0, .int .i64 n), (4, .ptr (γ, 0, 0) 0), (5, .ptr (γ, 5, 0) 0), (18, .int .i64 0)], [((γ, 5, 0), .cells [.int .i64 0, .int .i64 e.type, .int .i64 0, .int .i64 0, .int .i64 (e.mods % 8)]), ((γ, 0, 0), .cells [.int .i64 0, .int .i64 0, .int .i64 0, .int .i64 0, .int .i64 0])], fun x => x ∈ []⟩ Q := by
    intro Q c hQ
    refine kLoop_ix (fun i : Nat => ⟨lf [(0, .int .i64 n), (4, .ptr (γ, 0, 0) 0), (5, .ptr (γ, 5, 0) 0), (18, .int .i64 i)], [((γ, 5, 0), .cells [.int .i64 (if e.button < i then e.button else 0), .int .i64 e.type, .int .i64 0, .int .i64 0, .int .i64 (e.mods % 8)]), ((γ, 0, 0), .cells [.int .i64 0, .int .i64 0, .int .i64 0, .int .i64 0, .int .i64 0])], fun x => x ∈ []⟩) (fun i => i ≤ 12) (fun i => 12 - i) 0 0 (Wk.perm' ?_ (fun p hp => ?_) (fun t ht => ht)) (by simp) ?_
    · (simp only [lfOK, upd, initF]; repeat' first | exact AVle.refl _ _ | exact trivial | refine And.intro ?_ ?_ | exact AVle.int (by simp only [IntKind.wrap_i64]; omega))
    · simp only [Int.natCast_zero] at hp
      rw [if_neg (by omega)] at hp
      exact hp
    rintro γ' i hf hi
    generalize hQ' : kIt _ _ _ _ _ = Q'
    unfold ir_mouselike_l0
    by_cases hlt : i < 12
    · have hd : decide ((i : Int) < 12) = true := decide_eq_true (by omega)
      have hw : IntKind.i64.wrap ((i : Int) + 1) = ((i + 1 : Nat) : Int) := by rw [IntKind.wrap_i64]; omega
      have c1 := fs_button (Gl := Gl) hst (n := (i : Int)) (by omega) (by omega)
      have hin := num_inj (a := (i : Int)) (b := e.button) (by omega) hb
      simp +contextual (maxSteps := 1000000) only [hd, go_sem, reduceCtorEq, ↓reduceIte, Nat.reduceAdd, Nat.reduceEqDiff, Nat.reduceLeDiff, Nat.reduceMul, Nat.reduceBEq, Int.reduceBEq, Int.reduceBNe, Int.reduceLT, Int.reduceLE, Int.reduceGT, Int.reduceGE, Int.reduceToNat]
      (refine CallP.pure (c1) (fun _ => rfl) ?_; simp +contextual (maxSteps := 1000000) only [q1, hin, go_sem, reduceCtorEq, ↓reduceIte, Nat.reduceAdd, Nat.reduceEqDiff, Nat.reduceLeDiff, Nat.reduceMul, Nat.reduceBEq, Int.reduceBEq, Int.reduceBNe, Int.reduceLT, Int.reduceLE, Int.reduceGT, Int.reduceGE, Int.reduceToNat])
      by_cases hi' : (i : Int) = e.button
      · have hd2 : decide ((i : Int) = e.button) = true := decide_eq_true hi'
        simp +contextual (maxSteps := 1000000) only [hd2, go_sem, reduceCtorEq, ↓reduceIte, Nat.reduceAdd, Nat.reduceEqDiff, Nat.reduceLeDiff, Nat.reduceMul, Nat.reduceBEq, Int.reduceBEq, Int.reduceBNe, Int.reduceLT, Int.reduceLE, Int.reduceGT, Int.reduceGE, Int.reduceToNat]
        rw [← hQ']
        simp only [w_kIt_n]
        refine ⟨0, i + 1, Wk.perm' ?_ (fun p hp => ?_) (fun t ht => ht), by omega, by omega⟩
        · rw [hw]
          repeat' first | exact AVle.refl _ _ | exact trivial | refine And.intro ?_ ?_ | exact AVle.int (by simp only [IntKind.wrap_i64]; omega)
        · rw [if_pos (by omega), ← hi'] at hp
          exact hp
      · have hd2 : decide ((i : Int) = e.button) = false := decide_eq_false hi'
        simp +contextual (maxSteps := 1000000) only [hd2, go_sem, reduceCtorEq, ↓reduceIte, Nat.reduceAdd, Nat.reduceEqDiff, Nat.reduceLeDiff, Nat.reduceMul, Nat.reduceBEq, Int.reduceBEq, Int.reduceBNe, Int.reduceLT, Int.reduceLE, Int.reduceGT, Int.reduceGE, Int.reduceToNat]
        rw [← hQ']
        simp only [w_kIt_n]
        refine ⟨0, i + 1, Wk.perm' ?_ (fun p hp => ?_) (fun t ht => ht), by omega, by omega⟩
        · rw [hw]
          repeat' first | exact AVle.refl _ _ | exact trivial | refine And.intro ?_ ?_ | exact AVle.int (by simp only [IntKind.wrap_i64]; omega)
        · have hif : (if e.button < ((i + 1 : Nat) : Int) then e.button else 0) = (if e.button < (i : Int) then e.button else 0) := by
            by_cases h : e.button < (i : Int)
            · rw [if_pos h, if_pos (by omega)]
            · rw [if_neg h, if_neg (by omega)]
          rw [hif] at hp
          exact hp
    · have hd : decide ((i : Int) < 12) = false := decide_eq_false (by omega)
      obtain rfl : i = 12 := by omega
      simp +contextual (maxSteps := 1000000) only [hd, go_sem, reduceCtorEq, ↓reduceIte, Nat.reduceAdd, Nat.reduceEqDiff, Nat.reduceLeDiff, Nat.reduceMul, Nat.reduceBEq, Int.reduceBEq, Int.reduceBNe, Int.reduceLT, Int.reduceLE, Int.reduceGT, Int.reduceGE, Int.reduceToNat]
      rw [← hQ']
      simp only [w_kIt_e]
      have hif : (if e.button < 12 then e.button else 0) = e.button := if_pos (by omega)
      rw [hif]
      exact hQ _ _
  (generalize hQ : (fun (ex : Ex) (_ _ : Nat) (s : St) => _) = Q; unfold ir_mouselike)
  simp +contextual (maxSteps := 1000000) only [q2, q3, go_sem, reduceCtorEq, ↓reduceIte, Nat.reduceAdd, Nat.reduceEqDiff, Nat.reduceLeDiff, Nat.reduceMul, Nat.reduceBEq, Int.reduceBEq, Int.reduceBNe, Int.reduceLT, Int.reduceLE, Int.reduceGT, Int.reduceGE, Int.reduceToNat]
  refine ⟨by omega, by omega, ?_⟩
  by_cases t3 : e.type = 3
  · have p4 : (e.type == 4) = false := by rw [beq_eq_false_iff_ne]; omega
    have pf : (if e.type = 3 then (109 : Int) else 77) = 109 := if_pos t3
    rw [t3] at lp
    simp +contextual (maxSteps := 1000000) only [p4, pf, go_sem, reduceCtorEq, ↓reduceIte, Nat.reduceAdd, Nat.reduceEqDiff, Nat.reduceLeDiff, Nat.reduceMul, Nat.reduceBEq, Int.reduceBEq, Int.reduceBNe, Int.reduceLT, Int.reduceLE, Int.reduceGT, Int.reduceGE, Int.reduceToNat]
    refine lp fun γ' c' => ?_
    simp +contextual (maxSteps := 1000000) only [go_sem, reduceCtorEq, ↓reduceIte, Nat.reduceAdd, Nat.reduceEqDiff, Nat.reduceLeDiff, Nat.reduceMul, Nat.reduceBEq, Int.reduceBEq, Int.reduceBNe, Int.reduceLT, Int.reduceLE, Int.reduceGT, Int.reduceGE, Int.reduceToNat]
    rw [← hQ, hmo, t3]
    exact ⟨trivial, Ret.flatT (by simp [resOf, getAll, IRes.get, lf, getH]) rfl⟩
  · have pf : (if e.type = 3 then (109 : Int) else 77) = 77 := if_neg t3
    by_cases t4 : e.type = 4
    · have p4 : (e.type == 4) = true := beq_iff_eq.2 t4
      rw [t4] at lp
      simp +contextual (maxSteps := 1000000) only [p4, pf, go_sem, reduceCtorEq, ↓reduceIte, Nat.reduceAdd, Nat.reduceEqDiff, Nat.reduceLeDiff, Nat.reduceMul, Nat.reduceBEq, Int.reduceBEq, Int.reduceBNe, Int.reduceLT, Int.reduceLE, Int.reduceGT, Int.reduceGE, Int.reduceToNat]
      refine lp fun γ' c' => ?_
      simp +contextual (maxSteps := 1000000) only [go_sem, reduceCtorEq, ↓reduceIte, Nat.reduceAdd, Nat.reduceEqDiff, Nat.reduceLeDiff, Nat.reduceMul, Nat.reduceBEq, Int.reduceBEq, Int.reduceBNe, Int.reduceLT, Int.reduceLE, Int.reduceGT, Int.reduceGE, Int.reduceToNat]
      rw [← hQ, hmo, t4]
      exact ⟨trivial, Ret.flatT (by simp [resOf, getAll, IRes.get, lf, getH]) rfl⟩
    · have p4 : (e.type == 4) = false := beq_eq_false_iff_ne.2 t4
      have t1 : e.type = 1 := by omega
      rw [t1] at lp
      simp +contextual (maxSteps := 1000000) only [p4, pf, go_sem, reduceCtorEq, ↓reduceIte, Nat.reduceAdd, Nat.reduceEqDiff, Nat.reduceLeDiff, Nat.reduceMul, Nat.reduceBEq, Int.reduceBEq, Int.reduceBNe, Int.reduceLT, Int.reduceLE, Int.reduceGT, Int.reduceGE, Int.reduceToNat]
      refine lp fun γ' c' => ?_
      simp +contextual (maxSteps := 1000000) only [go_sem, reduceCtorEq, ↓reduceIte, Nat.reduceAdd, Nat.reduceEqDiff, Nat.reduceLeDiff, Nat.reduceMul, Nat.reduceBEq, Int.reduceBEq, Int.reduceBNe, Int.reduceLT, Int.reduceLE, Int.reduceGT, Int.reduceGE, Int.reduceToNat]
      rw [← hQ, hmo, t1]
      exact ⟨trivial, Ret.flatT (by simp [resOf, getAll, IRes.get, lf, getH]) rfl⟩
set_option maxHeartbeats 4000000 in
theorem fs_mDec {Gl : Gh → Prop} (hst : Stays Gl) {e : Mo} {tb : Option Nm} (M : MayM e) : FS Tryd.prog Gl 27 [.sl tb 1 (bytesAV (encM 1003 1006 e))] [] [] (.tup [.agg (moAV (stripM e)), .bool true]) [] [] := by
  refine FS.args (args' := [.sl none 1 (bytesAV (encM 1003 1006 e))]) ?_ ⟨RepLe.anon _ _ _, trivial⟩
  refine FS.of hm hst is_mouseDecode (by simp) fun γ hγ hfr => ?_
  have N : MayM (stripM e) := ⟨M.x0, M.x1, M.y0, M.y1, by simp only [stripM]; omega, by simp only [stripM]; omega, M.kd⟩
  have hss : stripM (stripM e) = stripM e := by unfold stripM; simp
  have henc : encM 1003 1006 (stripM e) = encM 1003 1006 e := (back_iff N M).2 hss
  have hmay := exact_may (mode := 1003) M
  obtain ⟨r1, r2, r3⟩ := code_range (mode := 1003) M
  have hx0 := M.x0
  have hy0 := M.y0
  have hb := enc_exact (mode := 1003) M
  obtain ⟨t1, t2, t3⟩ := take_may hmay []
  rw [List.append_nil, ← hb] at t1 t2 t3
  have hlen : (encM 1003 1006 e).length ≤ 4000 := by
    rw [hb]
    have := bodyB_len hmay
    unfold putB
    rw [if_pos (by rfl)]
    simp only [List.length_append, List.length_cons, List.length_nil]
    omega
  have c1 := fs_wTake (Gl := Gl) hst (b := encM 1003 1006 e) (tb := none) (by omega) t1 t2
  rw [t3] at c1
  have hq : exactQ 1003 e = ⟨1, 60, [[codeM 1003 e], [e.x], [e.y]], [], if e.type = 3 then 109 else 77, []⟩ := rfl
  have hcc : (exactQ 1003 e).c = [.int .i64 1, .int .u8 60, .sl none 1 (parsAV [[codeM 1003 e], [e.x], [e.y]]), .str [], .int .u8 (if e.type = 3 then 109 else 77), .str []] := rfl
  rw [hcc] at c1
  have c2 := fun o => fs_wArg (Gl := Gl) hst (k := 1) (pr := 60) (fi := if e.type = 3 then 109 else 77) (o := o) (ps := [[codeM 1003 e], [e.x], [e.y]]) (it := []) (da := []) (i := 0)
  have c3 := fun o => fs_wArg (Gl := Gl) hst (k := 1) (pr := 60) (fi := if e.type = 3 then 109 else 77) (o := o) (ps := [[codeM 1003 e], [e.x], [e.y]]) (it := []) (da := []) (i := 1)
  have c4 := fun o => fs_wArg (Gl := Gl) hst (k := 1) (pr := 60) (fi := if e.type = 3 then 109 else 77) (o := o) (ps := [[codeM 1003 e], [e.x], [e.y]]) (it := []) (da := []) (i := 2)
  have a0 : ∀ o, argW [[codeM 1003 e], [e.x], [e.y]] 0 o = codeM 1003 e := fun o => by unfold argW; simp; omega
  have a1 : ∀ o, argW [[codeM 1003 e], [e.x], [e.y]] 1 o = e.x := fun o => by unfold argW; simp; omega
  have a2 : ∀ o, argW [[codeM 1003 e], [e.x], [e.y]] 2 o = e.y := fun o => by unfold argW; simp; omega
  simp only [a0] at c2
  simp only [a1] at c3
  simp only [a2] at c4
  have c5 := fs_like (Gl := Gl) hst M
  have hm5 : moAV ⟨e.button, e.type, 0, 0, e.mods % 8⟩ = [.int .i64 e.button, .int .i64 e.type, .int .i64 0, .int .i64 0, .int .i64 (e.mods % 8)] := rfl
  have hm6 : moAV (stripM e) = [.int .i64 e.button, .int .i64 e.type, .int .i64 e.x, .int .i64 e.y, .int .i64 (e.mods % 8)] := rfl
  rw [hm5] at c5
  have c6 := fs_tMay (Gl := Gl) hst (e := stripM e)
  rw [mayM_iff.2 N, hm6] at c6
  have c7 := fs_Enc (Gl := Gl) hst (mode := 1003) (coding := 1006) (e := stripM e)
  rw [henc, hm6] at c7
  have c8 := fs_BEqual (Gl := Gl) hst (a := encM 1003 1006 e) (b := encM 1003 1006 e) (ta := none) (tb := none)
  rw [decide_eq_true rfl] at c8
  have qc : decide (codeM 1003 e > 255) = false := decide_eq_false (by omega)
  rw [hm6]
  generalize encM 1003 1006 e = bs at *
  generalize codeM 1003 e = n at *
  generalize (if e.type = 3 then (109 : Int) else 77) = fi at *
  generalize parsAV [[n], [e.x], [e.y]] = rows at *
  (generalize hQ : (fun (ex : Ex) (_ _ : Nat) (s : St) => _) = Q; unfold ir_mouseDecode)
  simp +contextual (maxSteps := 1000000) only [go_sem, reduceCtorEq, ↓reduceIte, Nat.reduceAdd, Nat.reduceEqDiff, Nat.reduceLeDiff, Nat.reduceMul, Nat.reduceBEq, Int.reduceBEq, Int.reduceBNe, Int.reduceLT, Int.reduceLE, Int.reduceGT, Int.reduceGE, Int.reduceToNat]
  (refine CallP.pure (c1) (fun _ => rfl) ?_; simp +contextual (maxSteps := 1000000) only [go_sem, reduceCtorEq, ↓reduceIte, Nat.reduceAdd, Nat.reduceEqDiff, Nat.reduceLeDiff, Nat.reduceMul, Nat.reduceBEq, Int.reduceBEq, Int.reduceBNe, Int.reduceLT, Int.reduceLE, Int.reduceGT, Int.reduceGE, Int.reduceToNat])
  (refine CallP.pure (c2 _) (fun _ => rfl) ?_; simp +contextual (maxSteps := 1000000) only [qc, go_sem, reduceCtorEq, ↓reduceIte, Nat.reduceAdd, Nat.reduceEqDiff, Nat.reduceLeDiff, Nat.reduceMul, Nat.reduceBEq, Int.reduceBEq, Int.reduceBNe, Int.reduceLT, Int.reduceLE, Int.reduceGT, Int.reduceGE, Int.reduceToNat])
  (refine CallP.pure (c5) (fun _ => rfl) ?_; simp +contextual (maxSteps := 1000000) only [go_sem, reduceCtorEq, ↓reduceIte, Nat.reduceAdd, Nat.reduceEqDiff, Nat.reduceLeDiff, Nat.reduceMul, Nat.reduceBEq, Int.reduceBEq, Int.reduceBNe, Int.reduceLT, Int.reduceLE, Int.reduceGT, Int.reduceGE, Int.reduceToNat])
  refine kDrwM_of [((γ, 8, 0), .cells [.int .i64 1, .int .u8 60, .sl none 1 rows, .str [], .int .u8 fi, .str []]), ((γ, 0, 0), .cells [.int .i64 0, .int .i64 0, .int .i64 0, .int .i64 0, .int .i64 0])] [((γ, 25, 0), .cells [.int .i64 e.button, .int .i64 e.type, .int .i64 0, .int .i64 0, .int .i64 (e.mods % 8)])] (by simp) (by simp) ?_
  simp +contextual (maxSteps := 1000000) only [go_sem, reduceCtorEq, ↓reduceIte, Nat.reduceAdd, Nat.reduceEqDiff, Nat.reduceLeDiff, Nat.reduceMul, Nat.reduceBEq, Int.reduceBEq, Int.reduceBNe, Int.reduceLT, Int.reduceLE, Int.reduceGT, Int.reduceGE, Int.reduceToNat]
  refine DCall.new (c3 _) ?_
  simp +contextual (maxSteps := 1000000) only [go_sem, reduceCtorEq, ↓reduceIte, Nat.reduceAdd, Nat.reduceEqDiff, Nat.reduceLeDiff, Nat.reduceMul, Nat.reduceBEq, Int.reduceBEq, Int.reduceBNe, Int.reduceLT, Int.reduceLE, Int.reduceGT, Int.reduceGE, Int.reduceToNat]
  refine DCall.new (c4 _) ?_
  simp +contextual (maxSteps := 1000000) only [go_sem, reduceCtorEq, ↓reduceIte, Nat.reduceAdd, Nat.reduceEqDiff, Nat.reduceLeDiff, Nat.reduceMul, Nat.reduceBEq, Int.reduceBEq, Int.reduceBNe, Int.reduceLT, Int.reduceLE, Int.reduceGT, Int.reduceGE, Int.reduceToNat]
  refine ⟨by simp, ?_⟩
  (refine CallP.pure (c6) (fun _ => rfl) ?_; simp +contextual (maxSteps := 1000000) only [go_sem, reduceCtorEq, ↓reduceIte, Nat.reduceAdd, Nat.reduceEqDiff, Nat.reduceLeDiff, Nat.reduceMul, Nat.reduceBEq, Int.reduceBEq, Int.reduceBNe, Int.reduceLT, Int.reduceLE, Int.reduceGT, Int.reduceGE, Int.reduceToNat])
  (refine CallP.pure (c7) (fun _ => rfl) ?_; simp +contextual (maxSteps := 1000000) only [go_sem, reduceCtorEq, ↓reduceIte, Nat.reduceAdd, Nat.reduceEqDiff, Nat.reduceLeDiff, Nat.reduceMul, Nat.reduceBEq, Int.reduceBEq, Int.reduceBNe, Int.reduceLT, Int.reduceLE, Int.reduceGT, Int.reduceGE, Int.reduceToNat])
  (refine CallP.pure (c8) (fun _ => rfl) ?_; simp +contextual (maxSteps := 1000000) only [go_sem, reduceCtorEq, ↓reduceIte, Nat.reduceAdd, Nat.reduceEqDiff, Nat.reduceLeDiff, Nat.reduceMul, Nat.reduceBEq, Int.reduceBEq, Int.reduceBNe, Int.reduceLT, Int.reduceLE, Int.reduceGT, Int.reduceGE, Int.reduceToNat])
  rw [← hQ]
  exact ⟨trivial, Ret.flatT (by simp [resOf, getAll, IRes.get, lf, getH]) rfl⟩
end Go.Proofs.YtfnngjnfajnpaaaDoor

namespace Go.Proofs.YtfnngjnfajnpaaaDoor
open Go Go.Ab
def ir_clavierref15button : ICode :=
 (.seq
 (.reg [⟨some 2, none, .mov (.c (.bool false))⟩] (some [0]))
 (.seq
 (.reg [⟨some 3, none, .mov (.t 0)⟩,
 ⟨some 4, none, .bin .geq .none (.t 3) (.c (.int .i64 1))⟩,
 ⟨some 5, none, .mov (.t 4)⟩,
 ⟨some 6, some (5, true), .mov (.t 0)⟩,
 ⟨some 7, some (5, true), .bin .leq .none (.t 6) (.c (.int .i64 3))⟩,
 ⟨some 8, none, .pick (.t 5) (.t 7) (.c (.bool false))⟩,
 ⟨some 9, none, .mov (.t 8)⟩,
 ⟨some 10, some (9, false), .mov (.t 0)⟩,
 ⟨some 11, some (9, false), .bin .geq .none (.t 10) (.c (.int .i64 8))⟩,
 ⟨some 12, some (9, false), .mov (.t 11)⟩,
 ⟨some 13, some (12, true), .mov (.t 0)⟩,
 ⟨some 14, some (12, true), .bin .leq .none (.t 13) (.c (.int .i64 11))⟩,
 ⟨some 15, some (9, false), .pick (.t 12) (.t 14) (.c (.bool false))⟩,
 ⟨some 16, none, .pick (.t 9) (.c (.bool true)) (.t 15)⟩,
 ⟨some 2, none, .mov (.t 16)⟩] (some [2]))
 .ret))
theorem is_clavierref15button : IrOf Tryd.prog 44 17 ir_clavierref15button [.t 2] := ⟨_, Tryd.func44, rfl, by kernel_rfl, by kernel_rfl, by kernel_rfl⟩

def ir_clavierref15May : ICode :=
 (.seq
 (.reg [⟨some 1, none, .box 50 (.t 0)⟩,
 ⟨some 2, none, .mov (.c (.bool false))⟩] (some [1]))
 (.seq
 (.seq
 (.reg [⟨some 3, none, .fa 2 (.t 1)⟩,
 ⟨some 4, none, .ld none (.t 3)⟩,
 ⟨some 5, none, .bin .lss .none (.t 4) (.c (.int .i64 1))⟩,
 ⟨some 6, none, .mov (.t 5)⟩,
 ⟨some 7, some (6, false), .fa 2 (.t 1)⟩,
 ⟨some 8, some (6, false), .ld none (.t 7)⟩,
 ⟨some 9, some (6, false), .bin .gtr .none (.t 8) (.c (.int .i64 65535))⟩,
 ⟨some 10, none, .pick (.t 6) (.c (.bool true)) (.t 9)⟩,
 ⟨some 11, none, .mov (.t 10)⟩,
 ⟨some 12, some (11, false), .fa 3 (.t 1)⟩,
 ⟨some 13, some (11, false), .ld none (.t 12)⟩,
 ⟨some 14, some (11, false), .bin .lss .none (.t 13) (.c (.int .i64 1))⟩,
 ⟨some 15, none, .pick (.t 11) (.c (.bool true)) (.t 14)⟩,
 ⟨some 16, none, .mov (.t 15)⟩,
 ⟨some 17, some (16, false), .fa 3 (.t 1)⟩,
 ⟨some 18, some (16, false), .ld none (.t 17)⟩,
 ⟨some 19, some (16, false), .bin .gtr .none (.t 18) (.c (.int .i64 65535))⟩,
 ⟨some 20, none, .pick (.t 16) (.c (.bool true)) (.t 19)⟩,
 ⟨some 21, none, .mov (.t 20)⟩,
 ⟨some 22, some (21, false), .fa 4 (.t 1)⟩,
 ⟨some 23, some (21, false), .ld none (.t 22)⟩,
 ⟨some 24, some (21, false), .bin .lss .none (.t 23) (.c (.int .i64 0))⟩,
 ⟨some 25, none, .pick (.t 21) (.c (.bool true)) (.t 24)⟩,
 ⟨some 26, none, .mov (.t 25)⟩,
 ⟨some 27, some (26, false), .fa 4 (.t 1)⟩,
 ⟨some 28, some (26, false), .ld none (.t 27)⟩,
 ⟨some 29, some (26, false), .bin .gtr .none (.t 28) (.c (.int .i64 255))⟩,
 ⟨some 30, none, .pick (.t 26) (.c (.bool true)) (.t 29)⟩] (some [1, 30]))
 (.cond (.t 30)
 (.seq
 (.reg [⟨some 2, none, .mov (.c (.bool false))⟩] (some [2]))
 .ret)
 .skip))
 (.seq
 (.seq
 (.reg [⟨some 31, none, .fa 1 (.t 1)⟩,
 ⟨some 32, none, .ld none (.t 31)⟩] (some [1, 32]))
 (.blk 0
 (.seq
 (.reg [⟨some 34, none, .bin .eql .none (.t 32) (.c (.int .i64 1))⟩,
 ⟨some 33, none, .mov (.t 34)⟩] (some [1, 32, 33]))
 (.cond (.t 33)
 (.seq
 (.reg [⟨some 35, none, .fa 0 (.t 1)⟩,
 ⟨some 36, none, .ld none (.t 35)⟩,
 ⟨some 37, none, .bin .geq .none (.t 36) (.c (.int .i64 1))⟩,
 ⟨some 38, none, .mov (.t 37)⟩,
 ⟨some 39, some (38, true), .fa 0 (.t 1)⟩,
 ⟨some 40, some (38, true), .ld none (.t 39)⟩,
 ⟨some 41, some (38, true), .bin .leq .none (.t 40) (.c (.int .i64 11))⟩,
 ⟨some 42, none, .pick (.t 38) (.t 41) (.c (.bool false))⟩,
 ⟨some 2, none, .mov (.t 42)⟩] (some [2]))
 .ret)
 (.seq
 (.reg [⟨some 44, none, .bin .eql .none (.t 32) (.c (.int .i64 3))⟩,
 ⟨some 43, none, .mov (.t 44)⟩] (some [1, 43]))
 (.cond (.t 43)
 (.seq
 (.reg [⟨some 45, none, .fa 0 (.t 1)⟩,
 ⟨some 46, none, .ld none (.t 45)⟩,
 ⟨some 47, none, .call (.c (.fn (.func 44) [] [])) [(.t 46)]⟩,
 ⟨some 2, none, .mov (.t 47)⟩] (some [2]))
 .ret)
 .skip))))))
 (.seq
 (.reg [⟨some 48, none, .fa 1 (.t 1)⟩,
 ⟨some 49, none, .ld none (.t 48)⟩,
 ⟨some 50, none, .bin .eql .none (.t 49) (.c (.int .i64 4))⟩,
 ⟨some 51, none, .mov (.t 50)⟩,
 ⟨some 52, some (51, true), .fa 0 (.t 1)⟩,
 ⟨some 53, some (51, true), .ld none (.t 52)⟩,
 ⟨some 54, some (51, true), .bin .eql .none (.t 53) (.c (.int .i64 0))⟩,
 ⟨some 55, some (51, true), .mov (.t 54)⟩,
 ⟨some 56, some (55, false), .fa 0 (.t 1)⟩,
 ⟨some 57, some (55, false), .ld none (.t 56)⟩,
 ⟨some 58, some (55, false), .call (.c (.fn (.func 44) [] [])) [(.t 57)]⟩,
 ⟨some 59, some (51, true), .pick (.t 55) (.c (.bool true)) (.t 58)⟩,
 ⟨some 60, none, .pick (.t 51) (.t 59) (.c (.bool false))⟩,
 ⟨some 2, none, .mov (.t 60)⟩] (some [2]))
 .ret))))
theorem is_clavierref15May : IrOf Tryd.prog 25 61 ir_clavierref15May [.t 2] := ⟨_, Tryd.func25, rfl, by kernel_rfl, by kernel_rfl, by kernel_rfl⟩

theorem fs_rButton {Gl : Gh → Prop} (hst : Stays Gl) {n : Int} : FS Tryd.prog Gl 44 [.int .i64 n] [] [] (.bool (btnM n)) [] [] := by
  refine FS.of hm hst is_clavierref15button (by simp) fun γ hγ hfr => ?_
  have hz : btnM n = ((decide (n ≥ 1) && decide (n ≤ 3)) || (decide (n ≥ 8) && decide (n ≤ 11))) := rfl
  (generalize hQ : (fun (ex : Ex) (_ _ : Nat) (s : St) => _) = Q; unfold ir_clavierref15button)
  simp +contextual (maxSteps := 1000000) only [go_sem, reduceCtorEq, ↓reduceIte, Nat.reduceAdd, Nat.reduceEqDiff, Nat.reduceLeDiff, Nat.reduceMul, Nat.reduceBEq, Int.reduceBEq, Int.reduceBNe, Int.reduceLT, Int.reduceLE, Int.reduceGT, Int.reduceGE, Int.reduceToNat]
  rw [← hQ, hz]
  exact ⟨trivial, Ret.flat rfl rfl⟩
theorem fs_rMMay {Gl : Gh → Prop} (hst : Stays Gl) {e : Mo} : FS Tryd.prog Gl 25 [.agg (moAV e)] [] [] (.bool (mayM e)) [] [] := by
  refine FS.of hm hst is_clavierref15May (by simp) fun γ hγ hfr => ?_
  have hmo : moAV e = [.int .i64 e.button, .int .i64 e.type, .int .i64 e.x, .int .i64 e.y, .int .i64 e.mods] := rfl
  have c1 := fs_rButton (Gl := Gl) hst (n := e.button)
  have hcp : cellM e = !(((((decide (e.x < 1) || decide (e.x > 65535)) || decide (e.y < 1)) || decide (e.y > 65535)) || decide (e.mods < 0)) || decide (e.mods > 255)) := by
    unfold cellM
    rw [Bool.eq_iff_iff]
    simp only [Bool.and_eq_true, Bool.not_eq_true', Bool.or_eq_false_iff, decide_eq_true_eq, decide_eq_false_iff_not]
    omega
  have hz : mayM e = (cellM e && kindM e) := rfl
  simp only [hmo]
  (generalize hQ : (fun (ex : Ex) (_ _ : Nat) (s : St) => _) = Q; unfold ir_clavierref15May)
  simp +contextual (maxSteps := 1000000) only [go_sem, reduceCtorEq, ↓reduceIte, Nat.reduceAdd, Nat.reduceEqDiff, Nat.reduceLeDiff, Nat.reduceMul, Nat.reduceBEq, Int.reduceBEq, Int.reduceBNe, Int.reduceLT, Int.reduceLE, Int.reduceGT, Int.reduceGE, Int.reduceToNat]
  cases hC : (((((decide (e.x < 1) || decide (e.x > 65535)) || decide (e.y < 1)) || decide (e.y > 65535)) || decide (e.mods < 0)) || decide (e.mods > 255)) with
  | true =>
    rw [hC] at hcp
    simp +contextual (maxSteps := 1000000) only [hC, go_sem, reduceCtorEq, ↓reduceIte, Nat.reduceAdd, Nat.reduceEqDiff, Nat.reduceLeDiff, Nat.reduceMul, Nat.reduceBEq, Int.reduceBEq, Int.reduceBNe, Int.reduceLT, Int.reduceLE, Int.reduceGT, Int.reduceGE, Int.reduceToNat]
    rw [← hQ, hz, hcp]
    exact ⟨trivial, Ret.flat rfl rfl⟩
  | false =>
    rw [hC] at hcp
    have hz : mayM e = kindM e := by rw [hz, hcp]; rfl
    have fin : ∀ {b : Bool} {γ' c' : Nat} {st : St}, st.F 2 = .bool b → b = kindM e → Q .ret γ' c' st := by
      intro b γ' c' st h hb
      rw [← hQ, hz, ← hb]
      exact ⟨trivial, Ret.flat (by simp only [resOf, getAll, IRes.get, h]) rfl⟩
    by_cases t1 : e.type = 1
    · have q1 : (e.type == 1) = true := beq_iff_eq.2 t1
      simp +contextual (maxSteps := 1000000) only [hC, q1, go_sem, reduceCtorEq, ↓reduceIte, Nat.reduceAdd, Nat.reduceEqDiff, Nat.reduceLeDiff, Nat.reduceMul, Nat.reduceBEq, Int.reduceBEq, Int.reduceBNe, Int.reduceLT, Int.reduceLE, Int.reduceGT, Int.reduceGE, Int.reduceToNat]
      refine fin rfl ?_
      unfold kindM
      rw [if_pos t1]
    · have q1 : (e.type == 1) = false := beq_eq_false_iff_ne.2 t1
      by_cases t3 : e.type = 3
      · have q3 : (e.type == 3) = true := beq_iff_eq.2 t3
        simp +contextual (maxSteps := 1000000) only [hC, q1, q3, go_sem, reduceCtorEq, ↓reduceIte, Nat.reduceAdd, Nat.reduceEqDiff, Nat.reduceLeDiff, Nat.reduceMul, Nat.reduceBEq, Int.reduceBEq, Int.reduceBNe, Int.reduceLT, Int.reduceLE, Int.reduceGT, Int.reduceGE, Int.reduceToNat]
        (refine CallP.pure (c1) (fun _ => rfl) ?_; simp +contextual (maxSteps := 1000000) only [go_sem, reduceCtorEq, ↓reduceIte, Nat.reduceAdd, Nat.reduceEqDiff, Nat.reduceLeDiff, Nat.reduceMul, Nat.reduceBEq, Int.reduceBEq, Int.reduceBNe, Int.reduceLT, Int.reduceLE, Int.reduceGT, Int.reduceGE, Int.reduceToNat])
        refine fin rfl ?_
        unfold kindM
        rw [if_neg t1, if_pos t3]
      · have q3 : (e.type == 3) = false := beq_eq_false_iff_ne.2 t3
        by_cases t4 : e.type = 4
        · have q4 : (e.type == 4) = true := beq_iff_eq.2 t4
          cases b0 : (e.button == 0) with
          | true =>
            simp +contextual (maxSteps := 1000000) only [hC, q1, q3, q4, b0, go_sem, reduceCtorEq, ↓reduceIte, Nat.reduceAdd, Nat.reduceEqDiff, Nat.reduceLeDiff, Nat.reduceMul, Nat.reduceBEq, Int.reduceBEq, Int.reduceBNe, Int.reduceLT, Int.reduceLE, Int.reduceGT, Int.reduceGE, Int.reduceToNat]
            refine fin rfl ?_
            unfold kindM
            rw [if_neg t1, if_neg t3, q4, b0]; rfl
          | false =>
            simp +contextual (maxSteps := 1000000) only [hC, q1, q3, q4, b0, go_sem, reduceCtorEq, ↓reduceIte, Nat.reduceAdd, Nat.reduceEqDiff, Nat.reduceLeDiff, Nat.reduceMul, Nat.reduceBEq, Int.reduceBEq, Int.reduceBNe, Int.reduceLT, Int.reduceLE, Int.reduceGT, Int.reduceGE, Int.reduceToNat]
            (refine CallP.pure (c1) (fun _ => rfl) ?_; simp +contextual (maxSteps := 1000000) only [go_sem, reduceCtorEq, ↓reduceIte, Nat.reduceAdd, Nat.reduceEqDiff, Nat.reduceLeDiff, Nat.reduceMul, Nat.reduceBEq, Int.reduceBEq, Int.reduceBNe, Int.reduceLT, Int.reduceLE, Int.reduceGT, Int.reduceGE, Int.reduceToNat])
            refine fin rfl ?_
            unfold kindM
            rw [if_neg t1, if_neg t3, q4, b0]; rfl
        · have q4 : (e.type == 4) = false := beq_eq_false_iff_ne.2 t4
          simp +contextual (maxSteps := 1000000) only [hC, q1, q3, q4, go_sem, reduceCtorEq, ↓reduceIte, Nat.reduceAdd, Nat.reduceEqDiff, Nat.reduceLeDiff, Nat.reduceMul, Nat.reduceBEq, Int.reduceBEq, Int.reduceBNe, Int.reduceLT, Int.reduceLE, Int.reduceGT, Int.reduceGE, Int.reduceToNat]
          refine fin rfl ?_
          unfold kindM
          rw [if_neg t1, if_neg t3, q4]; rfl
end Go.Proofs.YtfnngjnfajnpaaaDoor

namespace Go.Proofs.YtfnngjnfajnpaaaDoor
open Go Go.Ab
def ir_clavierlaw16awake : ICode :=
 (.seq
 (.reg [⟨some 0, none, .mov (.c (.bool false))⟩] (some []))
 (.seq
 (.reg [⟨some 4, none, .bld [(.int .i64 0), (.int .i64 0), (.int .i64 0), (.int .i64 0), (.int .i64 0)] [(0, 1, (.c (.int .i64 1))), (1, 1, (.c (.int .i64 1))), (2, 1, (.c (.int .i64 1))), (3, 1, (.c (.int .i64 1)))]⟩,
 ⟨some 1, none, .box 50 (.c (.agg [(.int .i64 0), (.int .i64 0), (.int .i64 0), (.int .i64 0), (.int .i64 0)]))⟩,
 ⟨none, none, .st 5 (.t 1) (.t 4)⟩] (some [1]))
 (.seq
 (.reg [⟨some 6, none, .row 5 1 [(.c (.int .u8 27)), (.c (.int .u8 91)), (.c (.int .u8 60)), (.c (.int .u8 48)), (.c (.int .u8 59)), (.c (.int .u8 49)), (.c (.int .u8 59)), (.c (.int .u8 49)), (.c (.int .u8 77))]⟩,
 ⟨some 7, none, .cvs (.t 6)⟩,
 ⟨some 8, none, .call (.c (.fn (.func 27) [] [])) [(.t 7)]⟩,
 ⟨some 5, none, .mov (.t 8)⟩,
 ⟨some 9, none, .ext (.t 5) 0⟩,
 ⟨some 10, none, .ext (.t 5) 1⟩,
 ⟨some 2, none, .box 50 (.c (.agg [(.int .i64 0), (.int .i64 0), (.int .i64 0), (.int .i64 0), (.int .i64 0)]))⟩,
 ⟨none, none, .st 5 (.t 2) (.t 9)⟩,
 ⟨some 3, none, .mov (.t 10)⟩] (some [1, 2, 3]))
 (.seq
 (.reg [⟨some 11, none, .ld (some 5) (.t 1)⟩,
 ⟨some 12, none, .call (.c (.fn (.func 26) [] [])) [(.c (.int .i64 1000)), (.c (.int .i64 1006)), (.t 11)]⟩,
 ⟨some 13, none, .b2s (.t 12)⟩,
 ⟨some 14, none, .bin .eql .none (.t 13) (.c (.str [27, 91, 60, 48, 59, 49, 59, 49, 77]))⟩,
 ⟨some 15, none, .mov (.t 14)⟩,
 ⟨some 16, some (15, true), .ld (some 5) (.t 1)⟩,
 ⟨some 17, some (15, true), .call (.c (.fn (.func 26) [] [])) [(.c (.int .i64 1000)), (.c (.int .i64 0)), (.t 16)]⟩,
 ⟨some 18, some (15, true), .b2s (.t 17)⟩,
 ⟨some 19, some (15, true), .bin .eql .none (.t 18) (.c (.str [27, 91, 77, 32, 33, 33]))⟩,
 ⟨some 20, none, .pick (.t 15) (.t 19) (.c (.bool false))⟩,
 ⟨some 21, none, .mov (.t 20)⟩,
 ⟨some 22, some (21, true), .mov (.t 3)⟩,
 ⟨some 23, none, .pick (.t 21) (.t 22) (.c (.bool false))⟩,
 ⟨some 24, none, .mov (.t 23)⟩,
 ⟨some 25, some (24, true), .ld (some 5) (.t 2)⟩,
 ⟨some 26, some (24, true), .ld (some 5) (.t 1)⟩,
 ⟨some 27, some (24, true), .bin .eql (.flat [.int, .int, .int, .int, .int]) (.t 25) (.t 26)⟩,
 ⟨some 28, none, .pick (.t 24) (.t 27) (.c (.bool false))⟩,
 ⟨some 29, none, .mov (.t 28)⟩,
 ⟨some 30, some (29, true), .bld [(.int .i64 0), (.int .i64 0), (.int .i64 0), (.int .i64 0), (.int .i64 0)] [(0, 1, (.c (.int .i64 4))), (1, 1, (.c (.int .i64 1))), (2, 1, (.c (.int .i64 1))), (3, 1, (.c (.int .i64 1))), (4, 1, (.c (.int .i64 4)))]⟩,
 ⟨some 31, some (29, true), .call (.c (.fn (.func 43) [] [])) [(.c (.int .i64 1000)), (.t 30)]⟩,
 ⟨some 32, some (29, true), .bin .eql .none (.t 31) (.c (.int .i64 80))⟩,
 ⟨some 33, none, .pick (.t 29) (.t 32) (.c (.bool false))⟩,
 ⟨some 0, none, .mov (.t 33)⟩] (some [0]))
 .ret))))
theorem is_clavierlaw16awake : IrOf Tryd.prog 24 34 ir_clavierlaw16awake [.t 0] := ⟨_, Tryd.func24, rfl, by kernel_rfl, by kernel_rfl, by kernel_rfl⟩

def ir_clavierlaw16MouseOld : ICode :=
 (.seq
 (.reg [⟨some 3, none, .box 50 (.t 0)⟩,
 ⟨some 6, none, .mov (.c (.bool false))⟩] (some [1, 2, 3]))
 (.seq
 (.reg [⟨some 9, none, .call (.c (.fn (.func 24) [] [])) []⟩,
 ⟨some 7, none, .mov (.t 9)⟩] (some [1, 2, 3, 7]))
 (.seq
 (.seq
 (.reg [⟨some 10, none, .ld (some 5) (.t 3)⟩,
 ⟨some 11, none, .call (.c (.fn (.func 25) [] [])) [(.t 10)]⟩,
 ⟨some 12, none, .un .not (.t 11)⟩] (some [1, 2, 3, 7, 12]))
 (.cond (.t 12)
 (.seq
 (.reg [⟨some 13, none, .mov (.t 7)⟩,
 ⟨some 6, none, .mov (.t 13)⟩] (some [6]))
 .ret)
 .skip))
 (.seq
 (.reg [⟨some 14, none, .mov (.t 1)⟩,
 ⟨some 15, none, .ld (some 5) (.t 3)⟩,
 ⟨some 16, none, .call (.c (.fn (.func 26) [] [])) [(.c (.int .i64 9)), (.t 14), (.t 15)]⟩,
 ⟨some 8, none, .mov (.t 16)⟩] (some [1, 2, 3, 7, 8]))
 (.seq
 (.reg [⟨some 17, none, .mov (.t 2)⟩,
 ⟨some 18, none, .cvi .i64 (.t 17)⟩,
 ⟨some 19, none, .fa 4 (.t 3)⟩,
 ⟨none, none, .st 1 (.t 19) (.t 18)⟩] (some [1, 3, 7, 8]))
 (.seq
 (.drw [⟨⟨some 20, none, .mov (.t 7)⟩, []⟩,
 ⟨⟨some 21, none, .mov (.t 20)⟩, [0]⟩,
 ⟨⟨some 22, some (21, true), .mov (.t 8)⟩, [1]⟩,
 ⟨⟨some 23, some (21, true), .b2s (.t 22)⟩, [2, 1]⟩,
 ⟨⟨some 24, some (21, true), .mov (.t 1)⟩, [1]⟩,
 ⟨⟨some 25, some (21, true), .ld (some 5) (.t 3)⟩, [1]⟩,
 ⟨⟨some 26, some (21, true), .call (.c (.fn (.func 26) [] [])) [(.c (.int .i64 9)), (.t 24), (.t 25)]⟩, [4, 5, 1, 1]⟩,
 ⟨⟨some 27, some (21, true), .b2s (.t 26)⟩, [6, 1]⟩,
 ⟨⟨some 28, some (21, true), .bin .eql .none (.t 23) (.t 27)⟩, [3, 7, 1]⟩,
 ⟨⟨some 29, none, .pick (.t 21) (.t 28) (.c (.bool false))⟩, [1, 8]⟩]
 [⟨some 6, none, .mov (.t 29)⟩] (some [6]))
 .ret))))))
theorem is_clavierlaw16MouseOld : IrOf Tryd.prog 11 30 ir_clavierlaw16MouseOld [.t 6] := ⟨_, Tryd.func11, rfl, by kernel_rfl, by kernel_rfl, by kernel_rfl⟩

theorem mo_a : encM 1000 1006 ⟨1, 1, 1, 1, 0⟩ = [27, 91, 60, 48, 59, 49, 59, 49, 77] ∧ encM 1003 1006 ⟨1, 1, 1, 1, 0⟩ = [27, 91, 60, 48, 59, 49, 59, 49, 77] ∧ encM 1000 0 ⟨1, 1, 1, 1, 0⟩ = [27, 91, 77, 32, 33, 33] ∧ codeM 1000 ⟨4, 1, 1, 1, 4⟩ = 80 ∧ mayM ⟨1, 1, 1, 1, 0⟩ = true := by decide +kernel
theorem fs_awake16 {Gl : Gh → Prop} (hst : Stays Gl) : FS Tryd.prog Gl 24 [] [] [] (.bool true) [] [] := by
  refine FS.of hm hst is_clavierlaw16awake (by simp) fun γ hγ hfr => ?_
  obtain ⟨m1, m2, m3, m4, m5⟩ := mo_a
  have c1 := fs_Enc (Gl := Gl) hst (mode := 1000) (coding := 1006) (e := ⟨1, 1, 1, 1, 0⟩)
  have c2 := fs_Enc (Gl := Gl) hst (mode := 1000) (coding := 0) (e := ⟨1, 1, 1, 1, 0⟩)
  have c3 := fun t : Option Nm => fs_mDec (Gl := Gl) hst (e := ⟨1, 1, 1, 1, 0⟩) (tb := t) (mayM_iff.1 m5)
  have c4 := fs_mCode (Gl := Gl) hst (mode := 1000) (e := ⟨4, 1, 1, 1, 4⟩)
  rw [m1] at c1
  rw [m3] at c2
  rw [m2] at c3
  rw [m4] at c4
  have hs : moAV (stripM ⟨1, 1, 1, 1, 0⟩) = [.int .i64 1, .int .i64 1, .int .i64 1, .int .i64 1, .int .i64 0] := rfl
  rw [hs] at c3
  simp only [moAV] at c1 c2 c4
  (generalize hQ : (fun (ex : Ex) (_ _ : Nat) (s : St) => _) = Q; unfold ir_clavierlaw16awake)
  simp +contextual (maxSteps := 1000000) only [go_sem, reduceCtorEq, ↓reduceIte, Nat.reduceAdd, Nat.reduceEqDiff, Nat.reduceLeDiff, Nat.reduceMul, Nat.reduceBEq, Int.reduceBEq, Int.reduceBNe, Int.reduceLT, Int.reduceLE, Int.reduceGT, Int.reduceGE, Int.reduceToNat]
  refine ⟨⟨.inl trivial, by simp⟩, ?_⟩
  (refine CallP.pure (c3 _) (fun _ => rfl) ?_; simp +contextual (maxSteps := 1000000) only [go_sem, reduceCtorEq, ↓reduceIte, Nat.reduceAdd, Nat.reduceEqDiff, Nat.reduceLeDiff, Nat.reduceMul, Nat.reduceBEq, Int.reduceBEq, Int.reduceBNe, Int.reduceLT, Int.reduceLE, Int.reduceGT, Int.reduceGE, Int.reduceToNat])
  (refine CallP.pure (c1) (fun _ => rfl) ?_; simp +contextual (maxSteps := 1000000) only [bb_un, bb_is, go_sem, reduceCtorEq, ↓reduceIte, Nat.reduceAdd, Nat.reduceEqDiff, Nat.reduceLeDiff, Nat.reduceMul, Nat.reduceBEq, Int.reduceBEq, Int.reduceBNe, Int.reduceLT, Int.reduceLE, Int.reduceGT, Int.reduceGE, Int.reduceToNat])
  (refine CallP.pure (c2) (fun _ => rfl) ?_; simp +contextual (maxSteps := 1000000) only [bb_un, bb_is, go_sem, reduceCtorEq, ↓reduceIte, Nat.reduceAdd, Nat.reduceEqDiff, Nat.reduceLeDiff, Nat.reduceMul, Nat.reduceBEq, Int.reduceBEq, Int.reduceBNe, Int.reduceLT, Int.reduceLE, Int.reduceGT, Int.reduceGE, Int.reduceToNat])
  refine ⟨by simp [oneL, X.ev, AV.cells, AV.one], ?_⟩
  (refine CallP.pure (c4) (fun _ => rfl) ?_; simp +contextual (maxSteps := 1000000) only [go_sem, reduceCtorEq, ↓reduceIte, Nat.reduceAdd, Nat.reduceEqDiff, Nat.reduceLeDiff, Nat.reduceMul, Nat.reduceBEq, Int.reduceBEq, Int.reduceBNe, Int.reduceLT, Int.reduceLE, Int.reduceGT, Int.reduceGE, Int.reduceToNat])
  rw [← hQ]
  exact ⟨trivial, Ret.flat rfl rfl⟩
set_option maxHeartbeats 4000000 in
theorem fs_MouseOld {Gl : Gh → Prop} (hst : Stays Gl) {e : Mo} {coding : Int} {mods : UInt8} (_ : True) (_ : -9223372036854775808 ≤ coding ∧ coding ≤ 9223372036854775807) (_ : True) : FS Tryd.prog Gl 11 [.agg (moAV e), .int .i64 coding, .int .u8 (mods.toNat : Int)] [] [] (.bool true) [] [] := by
  refine FS.of hm hst is_clavierlaw16MouseOld (by simp) fun γ hγ hfr => ?_
  have hmo : ∀ e : Mo, moAV e = [.int .i64 e.button, .int .i64 e.type, .int .i64 e.x, .int .i64 e.y, .int .i64 e.mods] := fun _ => rfl
  have c1 := fs_rMMay (Gl := Gl) hst (e := e)
  rw [hmo] at c1
  simp only [hmo]
  (generalize hQ : (fun (ex : Ex) (_ _ : Nat) (s : St) => _) = Q; unfold ir_clavierlaw16MouseOld)
  simp +contextual (maxSteps := 1000000) only [go_sem, reduceCtorEq, ↓reduceIte, Nat.reduceAdd, Nat.reduceEqDiff, Nat.reduceLeDiff, Nat.reduceMul, Nat.reduceBEq, Int.reduceBEq, Int.reduceBNe, Int.reduceLT, Int.reduceLE, Int.reduceGT, Int.reduceGE, Int.reduceToNat]
  (refine CallP.pure (fs_awake16 hst) (fun _ => rfl) ?_; simp +contextual (maxSteps := 1000000) only [go_sem, reduceCtorEq, ↓reduceIte, Nat.reduceAdd, Nat.reduceEqDiff, Nat.reduceLeDiff, Nat.reduceMul, Nat.reduceBEq, Int.reduceBEq, Int.reduceBNe, Int.reduceLT, Int.reduceLE, Int.reduceGT, Int.reduceGE, Int.reduceToNat])
  (refine CallP.pure (c1) (fun _ => rfl) ?_; simp +contextual (maxSteps := 1000000) only [go_sem, reduceCtorEq, ↓reduceIte, Nat.reduceAdd, Nat.reduceEqDiff, Nat.reduceLeDiff, Nat.reduceMul, Nat.reduceBEq, Int.reduceBEq, Int.reduceBNe, Int.reduceLT, Int.reduceLE, Int.reduceGT, Int.reduceGE, Int.reduceToNat])
  cases hM : mayM e with
  | false =>
    simp +contextual (maxSteps := 1000000) only [hM, go_sem, reduceCtorEq, ↓reduceIte, Nat.reduceAdd, Nat.reduceEqDiff, Nat.reduceLeDiff, Nat.reduceMul, Nat.reduceBEq, Int.reduceBEq, Int.reduceBNe, Int.reduceLT, Int.reduceLE, Int.reduceGT, Int.reduceGE, Int.reduceToNat]
    rw [← hQ]
    exact ⟨trivial, Ret.flat rfl rfl⟩
  | true =>
    have M := mayM_iff.1 hM
    have hml := mods.toNat_lt
    have hw : IntKind.i64.wrap (mods.toNat : Int) = mods.toNat := by rw [IntKind.wrap_i64]; omega
    have c2 := fs_Enc (Gl := Gl) hst (mode := 9) (coding := coding) (e := e)
    have c3 := fs_Enc (Gl := Gl) hst (mode := 9) (coding := coding) (e := { e with mods := (mods.toNat : Int) })
    rw [old_same M (by omega) (by omega)] at c3
    simp only [hmo] at c2 c3
    generalize encM 9 coding e = bs at *
    simp +contextual (maxSteps := 1000000) only [hM, go_sem, reduceCtorEq, ↓reduceIte, Nat.reduceAdd, Nat.reduceEqDiff, Nat.reduceLeDiff, Nat.reduceMul, Nat.reduceBEq, Int.reduceBEq, Int.reduceBNe, Int.reduceLT, Int.reduceLE, Int.reduceGT, Int.reduceGE, Int.reduceToNat]
    (refine CallP.pure (c2) (fun _ => rfl) ?_; simp +contextual (maxSteps := 1000000) only [hw, bb_un, bb_is, go_sem, reduceCtorEq, ↓reduceIte, Nat.reduceAdd, Nat.reduceEqDiff, Nat.reduceLeDiff, Nat.reduceMul, Nat.reduceBEq, Int.reduceBEq, Int.reduceBNe, Int.reduceLT, Int.reduceLE, Int.reduceGT, Int.reduceGE, Int.reduceToNat])
    refine DCall.new c3 ?_
    simp +contextual (maxSteps := 1000000) only [bb_un, bb_is, go_sem, reduceCtorEq, ↓reduceIte, Nat.reduceAdd, Nat.reduceEqDiff, Nat.reduceLeDiff, Nat.reduceMul, Nat.reduceBEq, Int.reduceBEq, Int.reduceBNe, Int.reduceLT, Int.reduceLE, Int.reduceGT, Int.reduceGE, Int.reduceToNat]
    rw [← hQ]
    exact ⟨trivial, Ret.flat rfl rfl⟩
end Go.Proofs.YtfnngjnfajnpaaaDoor

namespace Go.Proofs.YtfnngjnfajnpaaaDoor
open Go Go.Ab Go.WideShapes Go.RowKit
theorem seat_own : ownKnob Tryd.prog.godebug = none := by kernel_rfl
theorem seat_laidOut : laidOutB Tryd.prog = true := by kernel_rfl
section
variable {H : Type} {enc : TypeId × Value → H} {W : World} {base : Nat} {v : Value} {d : DataW H} {p : List MemPlace}
theorem u8_of {n : Int} (h1 : IntKind.u8.min ≤ n) (h2 : n ≤ IntKind.u8.max) : ∃ c : UInt8, (c.toNat : Int) = n := by
  have h1' : 0 ≤ n := by simpa [IntKind.min, IntKind.signed] using h1
  have h2' : n ≤ 255 := by simpa [IntKind.max, IntKind.signed, IntKind.bits] using h2
  refine ⟨UInt8.ofNat n.toNat, ?_⟩
  rw [UInt8.toNat_ofNat', Nat.mod_eq_of_lt (by omega)]; omega
theorem op_u8 (hv : Value.okWide Tryd.prog W .any base 5 v) (hd : DataW.Trod enc Tryd.prog W 0 (fun _ => true) true 5 v d p) : ∃ c : UInt8, True ∧ Rep (gh0 W) (.int .u8 (c.toNat : Int)) v := by
  obtain ⟨n, rfl⟩ := okWide_int (P := Tryd.prog) (k := .u8) (by kernel_rfl) hv
  obtain ⟨x, ⟨m, h1, h2, h3⟩, hr⟩ := (TR.int (P := Tryd.prog) (k := .u8) (by kernel_rfl)).arg1 rfl hd
  simp only [List.cons.injEq, and_true] at h1
  subst h1
  obtain ⟨c, rfl⟩ := u8_of h2 h3
  exact ⟨c, trivial, hr⟩
theorem op_int (hv : Value.okWide Tryd.prog W .any base 3 v) (hd : DataW.Trod enc Tryd.prog W 0 (fun _ => true) true 3 v d p) : ∃ n : Int, (-9223372036854775808 ≤ n ∧ n ≤ 9223372036854775807) ∧ Rep (gh0 W) (.int .i64 n) v := by
  obtain ⟨n, rfl⟩ := okWide_int (P := Tryd.prog) (k := .i64) (by kernel_rfl) hv
  obtain ⟨x, ⟨m, h1, h2, h3⟩, hr⟩ := (TR.int (P := Tryd.prog) (k := .i64) (by kernel_rfl)).arg1 rfl hd
  simp only [List.cons.injEq, and_true] at h1
  subst h1
  exact ⟨m, ⟨by simpa [IntKind.min, IntKind.signed, IntKind.bits] using h2, by simpa [IntKind.max, IntKind.signed, IntKind.bits] using h3⟩, hr⟩
end
end Go.Proofs.YtfnngjnfajnpaaaDoor

namespace Go.Proofs.YtfnngjnfajnpaaaDoor
open Go Go.Ab
end Go.Proofs.YtfnngjnfajnpaaaDoor

namespace Go.Proofs.YtfnngjnfajnpaaaDoor
open Go Go.Ab
theorem fixW_of5 {W : World} (h : laidMetH Tryd.prog [("math/bits.deBruijn32tab", Rows.laid_math_bits_deBruijn32tab), ("math/bits.deBruijn64tab", Rows.laid_math_bits_deBruijn64tab), ("internal/strconv.uint64pow10", Rows.laid_internal_strconv_uint64pow10), ("unicode/utf8.acceptRanges", Rows.laid_unicode_utf8_acceptRanges), ("unicode/utf8.first", Rows.laid_unicode_utf8_first)] W) : FixW W := by
  rw [MakeChecks.laidMetH_plain _ _ _ (by kernel_rfl)] at h
  have h2 := laidMet.filter (fun x => x.1 == "internal/strconv.uint64pow10") h
  have h3 : laidMet Tryd.prog [("internal/strconv.uint64pow10", Lib.tabData .u64 Lib.pow10Tab)] W := h2
  have h4 := Lib.tabIs_of_head (g := 3) (t := 140) (e := 130) (n := 20) (by kernel_rfl) (by kernel_rfl) (by kernel_rfl) (by kernel_rfl) (by kernel_rfl) (by kernel_rfl) h3
  intro p hp
  obtain rfl := List.mem_singleton.1 hp
  unfold Lib.TabIs World.var? at h4
  rw [show Program.globalNamed Tryd.prog "internal/strconv.uint64pow10" = some 3 from by kernel_rfl] at h4
  simp only [Option.bind_some] at h4
  split at h4
  · rename_i cs e fr hh
    simp only [Option.some.injEq] at h4
    refine ⟨e, fr, ?_⟩
    rw [hh, h4]
    simp [Lib.pow10Tab]
  · cases h4
end Go.Proofs.YtfnngjnfajnpaaaDoor

namespace Go.Proofs.YtfnngjnfajnpaaaDoor
open Go Go.Ab Go.WideShapes Go.RowKit
def zero_apiMouse : Value := .agg #[.int .i64 0, .int .i64 0, .int .i64 0, .int .i64 0, .int .i64 0]
section
variable {H : Type} {enc : TypeId × Value → H} {W : World} {base : Nat} {v : Value} {d : DataW H} {p : List MemPlace}
theorem mouse_is : structIs Tryd.prog 50 [(0, 3), (1, 3), (2, 3), (3, 3), (4, 3)] = true := by kernel_rfl
theorem tr_Mouse : TR enc Tryd.prog W 50 fun xs => ∃ e : Mo, xs = moAV e := by
  refine (TR.structL (Rs := [fun xs => ∃ n, xs = [.int .i64 n] ∧ IntKind.i64.min ≤ n ∧ n ≤ IntKind.i64.max, fun xs => ∃ n, xs = [.int .i64 n] ∧ IntKind.i64.min ≤ n ∧ n ≤ IntKind.i64.max, fun xs => ∃ n, xs = [.int .i64 n] ∧ IntKind.i64.min ≤ n ∧ n ≤ IntKind.i64.max, fun xs => ∃ n, xs = [.int .i64 n] ∧ IntKind.i64.min ≤ n ∧ n ≤ IntKind.i64.max, fun xs => ∃ n, xs = [.int .i64 n] ∧ IntKind.i64.min ≤ n ∧ n ≤ IntKind.i64.max]) 5 mouse_is (by kernel_rfl) ?_).mono ?_
  · exact ⟨rfl, TR.int (by kernel_rfl), 1, by kernel_rfl, rfl, TR.int (by kernel_rfl), 1, by kernel_rfl, rfl, TR.int (by kernel_rfl), 1, by kernel_rfl, rfl, TR.int (by kernel_rfl), 1, by kernel_rfl, rfl, TR.int (by kernel_rfl), 1, by kernel_rfl, rfl⟩
  · rintro xs ⟨_, _, ⟨a, rfl, _⟩, ⟨_, _, ⟨b, rfl, _⟩, ⟨_, _, ⟨c, rfl, _⟩, ⟨_, _, ⟨e, rfl, _⟩, ⟨_, _, ⟨f, rfl, _⟩, h, rfl⟩, rfl⟩, rfl⟩, rfl⟩, rfl⟩
    have h : _ = [] := h
    subst h
    exact ⟨⟨a, b, c, e, f⟩, rfl⟩
theorem op_apiMouse (hv : Value.okWide Tryd.prog W .any base 50 v) (hd : DataW.Trod enc Tryd.prog W 0 (fun _ => true) true 50 v d p) : ∃ e : Mo, True ∧ Rep (gh0 W) (.agg (moAV e)) v := by
  obtain ⟨cs, rfl⟩ := okWide_struct mouse_is hv
  obtain ⟨xs, ⟨e, rfl⟩, hr⟩ := tr_Mouse.argN hd
  exact ⟨e, trivial, hr⟩
end
end Go.Proofs.YtfnngjnfajnpaaaDoor

namespace Go.Proofs.YtfnngjnfajnpaaaDoor
open Go Go.Ab Go.ChangeShapes Go.WideShapes Go.ChangeAt Go.RowKit
theorem mouseOld_lifted (os : Os) (started : os.Started) (H : Type) (enc : TypeId × Value → H) (F : Stop.Interp) :
    ReturnsInHanded {} Tryd.checked os 11 .any ((OpenSpec.ofChange Rows.mouseOldSpec).preRow enc Tryd.prog Tryd.f11 Rows.mouseOldRow.domain false Rows.mouseOldRow.laid) (((OpenSpec.ofChange Rows.mouseOldSpec).at F).post enc Tryd.prog Tryd.f11 false true false false) := by
  have hw : (DataW.whole enc Tryd.prog ((World.laidAll Tryd.prog os [("math/bits.deBruijn32tab", Rows.laid_math_bits_deBruijn32tab), ("math/bits.deBruijn64tab", Rows.laid_math_bits_deBruijn64tab), ("internal/strconv.uint64pow10", Rows.laid_internal_strconv_uint64pow10), ("unicode/utf8.acceptRanges", Rows.laid_unicode_utf8_acceptRanges), ("unicode/utf8.first", Rows.laid_unicode_utf8_first)]).forCall (fun _ _ => 0) ⟨#[], #[zero_apiMouse, .int .i64 0, .int .u8 0], []⟩).memory Tryd.f11.params.toList (OpenSpec.ofChange Rows.mouseOldSpec).vars false (#[zero_apiMouse, .int .i64 0, .int .u8 0] : Array Value).toList 8).any (fun x => true) = true := by kernel_rfl
  cases hx : DataW.whole enc Tryd.prog ((World.laidAll Tryd.prog os [("math/bits.deBruijn32tab", Rows.laid_math_bits_deBruijn32tab), ("math/bits.deBruijn64tab", Rows.laid_math_bits_deBruijn64tab), ("internal/strconv.uint64pow10", Rows.laid_internal_strconv_uint64pow10), ("unicode/utf8.acceptRanges", Rows.laid_unicode_utf8_acceptRanges), ("unicode/utf8.first", Rows.laid_unicode_utf8_first)]).forCall (fun _ _ => 0) ⟨#[], #[zero_apiMouse, .int .i64 0, .int .u8 0], []⟩).memory Tryd.f11.params.toList (OpenSpec.ofChange Rows.mouseOldSpec).vars false (#[zero_apiMouse, .int .i64 0, .int .u8 0] : Array Value).toList 8 with
  | none => rw [hx] at hw; cases hw
  | some x =>
  rw [hx] at hw
  have hok : Input.okWideB Tryd.checked.prog ((World.laidAll Tryd.prog os [("math/bits.deBruijn32tab", Rows.laid_math_bits_deBruijn32tab), ("math/bits.deBruijn64tab", Rows.laid_math_bits_deBruijn64tab), ("internal/strconv.uint64pow10", Rows.laid_internal_strconv_uint64pow10), ("unicode/utf8.acceptRanges", Rows.laid_unicode_utf8_acceptRanges), ("unicode/utf8.first", Rows.laid_unicode_utf8_first)]).forCall (fun _ _ => 0) ⟨#[], #[zero_apiMouse, .int .i64 0, .int .u8 0], []⟩) 11 ⟨#[], #[zero_apiMouse, .int .i64 0, .int .u8 0], []⟩ = true := by kernel_rfl
  refine returnsInHanded_of_row (C := Tryd.checked) (s := (OpenSpec.ofChange Rows.mouseOldSpec)) seat_own started (by kernel_rfl) Tryd.func11
    ⟨World.laidAll Tryd.prog os [("math/bits.deBruijn32tab", Rows.laid_math_bits_deBruijn32tab), ("math/bits.deBruijn64tab", Rows.laid_math_bits_deBruijn64tab), ("internal/strconv.uint64pow10", Rows.laid_internal_strconv_uint64pow10), ("unicode/utf8.acceptRanges", Rows.laid_unicode_utf8_acceptRanges), ("unicode/utf8.first", Rows.laid_unicode_utf8_first)], fun _ _ => 0, ⟨#[], #[zero_apiMouse, .int .i64 0, .int .u8 0], []⟩, World.laidAll_os _ _ _, World.shaped_of_ZipB (by kernel_rfl) (by kernel_rfl), (Input.okWide_of_okWideB (base := 0) hok).1, (Input.okWide_of_okWideB hok).2,
      OpenSpec.preRow_of_cond 8 hx (by kernel_rfl) (fun k hk => by cases hk) (by kernel_rfl) (by rw [show Rows.mouseOldRow.laid = [("math/bits.deBruijn32tab", Rows.laid_math_bits_deBruijn32tab), ("math/bits.deBruijn64tab", Rows.laid_math_bits_deBruijn64tab), ("internal/strconv.uint64pow10", Rows.laid_internal_strconv_uint64pow10), ("unicode/utf8.acceptRanges", Rows.laid_unicode_utf8_acceptRanges), ("unicode/utf8.first", Rows.laid_unicode_utf8_first)] from rfl, MakeChecks.laidMetH_plain _ _ _ (by kernel_rfl)]; exact laidMet_laidAll _ (by kernel_rfl) (by kernel_rfl)),
      by simp only [Assume.holds]; exact ⟨by simp, by simp, fun _ => Modest.zero, by simp, by simp⟩⟩ ?_
  intro W base args ds gs before hval0 hW _ hcond hreach hL _ _
  have hval : ∀ (j : Nat) t v, Tryd.f11.params[j]? = some t → args[j]? = some v → Value.okWide Tryd.prog W .any base t v := hval0
  have hW' := hW
  obtain ⟨p, q, hA0, hV, rfl, _, _⟩ := hW
  have hA : DataW.TrodAll enc Tryd.prog W 0 (fun _ => true) true Tryd.f11.params.toList args.toList ds p := hA0
  rw [Tryd.params11] at hA hval
  obtain ⟨v0, vs0, d0, ds0, p0, q0, hargs, rfl, rfl, h0, r0⟩ := trodAll_cons hA
  obtain ⟨v1, vs1, d1, ds1, p1, q1, rfl, rfl, rfl, h1, r1⟩ := trodAll_cons r0
  obtain ⟨v2, vs2, d2, ds2, p2, q2, rfl, rfl, rfl, h2, r2⟩ := trodAll_cons r1
  obtain ⟨rfl, rfl, rfl⟩ := trodAll_nil r2
  obtain rfl : args = #[v0, v1, v2] := by cases args; simp_all
  obtain ⟨rfl, rfl⟩ := trodVars_none hV
  have lt0 : ∀ x ∈ p0, x.block < W.heap.size := by obtain ⟨m, hm⟩ := h0; exact DataW.trod_lt m _ _ _ hm
  obtain ⟨x0, c0, e0⟩ := op_apiMouse (hval 0 50 v0 rfl rfl) h0
  have lt1 : ∀ x ∈ p1, x.block < W.heap.size := by obtain ⟨m, hm⟩ := h1; exact DataW.trod_lt m _ _ _ hm
  obtain ⟨x1, c1, e1⟩ := op_int (hval 1 3 v1 rfl rfl) h1
  have lt2 : ∀ x ∈ p2, x.block < W.heap.size := by obtain ⟨m, hm⟩ := h2; exact DataW.trod_lt m _ _ _ hm
  obtain ⟨x2, c2, e2⟩ := op_u8 (hval 2 5 v2 rfl rfl) h2
  clear hA0 hval0
  refine ((fs_MouseOld (Gl := fun _ => True) (fun _ _ _ _ => trivial) c0 c1 c2).row (fixW_of5 hL) trivial ⟨_, _, rfl, e0, ⟨_, _, rfl, e1, ⟨_, _, rfl, e2, rfl⟩⟩⟩).mono fun e W' ⟨v, g', he, hr, bel⟩ => ?_
  obtain rfl : v = .bool true := hr
  subst he
  exact ⟨_, rfl, _, _, _, [], _, [], hW', trodAll_mk1 (shut_bool (show Tryd.prog.underlying 4 = some .bool by kernel_rfl) _), (trodAll_cons_mk (Below.trod seat_laidOut (by kernel_rfl) (of_decide_eq_true (by kernel_rfl)) h0 bel lt0) (trodAll_cons_mk (Below.trod seat_laidOut (by kernel_rfl) (of_decide_eq_true (by kernel_rfl)) h1 bel lt1) (trodAll_cons_mk (Below.trod seat_laidOut (by kernel_rfl) (of_decide_eq_true (by kernel_rfl)) h2 bel lt2) trodAll_mk0))), rfl, bel.frame _, fun h => by cases h⟩
theorem mouseOld_holds : Rows.MouseOldSaid :=
  OpenClaim.holds_of_cond 11 Tryd.f11 rfl rfl rfl rfl rfl rfl rfl ⟨rfl, rfl, rfl, rfl, rfl⟩ rfl rfl rfl rfl rfl (by kernel_rfl) Tryd.func11 (by kernel_rfl)
    (of_decide_eq_true (by kernel_rfl)) (by unfold Func.isWrapper; first | (rw [if_pos (by decide +kernel)]; kernel_rfl) | (rw [if_neg (by decide +kernel)]; exact ⟨rfl, rfl⟩))
    (fun os started H enc _ F => by rw [OpenClaim.pre_eq_preRow]; exact mouseOld_lifted os started H enc F)
theorem mouseOld_card : Rows.MouseOldCardSaid :=
  Claim7.holds_tied_plain_at .later [] [.data, .data, .data, .data, .pinned] true (true, "113f882a1d9b5ae28fc18c7513d7d140d4f0d31d64ac4f6eb536983bb8a1d247") false mouseOld_holds (fun _ h => by cases h) (by kernel_rfl) (fun _ h => by cases h) mouseOld_row_tie rfl ⟨rfl, rfl⟩ (by kernel_rfl) rfl
    (fun f fn hf hfn => by
      obtain rfl : f = 11 := Option.some.inj ((show Tryd.prog.funcNamed "clavier/clavierlaw16.MouseOld" = some 11 by kernel_rfl).symm.trans hf) |>.symm
      obtain rfl : fn = Tryd.f11 := (Option.some.inj (Tryd.func11.symm.trans hfn)).symm
      exact ⟨by kernel_rfl, fun j t ht => by
        rw [Tryd.params11] at ht
        have hm : t ∈ ([50, 3, 5] : List Nat) := by simpa using Array.mem_of_getElem? ht
        have hall : (([50, 3, 5] : List Nat).all fun u => !Tryd.prog.wantsStandIn u) = true := by kernel_rfl
        exact (show Tryd.prog.wantsStandIn t = false by simpa using List.all_eq_true.1 hall t hm)⟩)
    (by kernel_rfl)
#print axioms mouseOld_card
end Go.Proofs.YtfnngjnfajnpaaaDoor

