/- Part 2 of 4 of a proof: the given statement BackPlain, whatever the input that its row lets in. Conditions: those of the given row and card alone. -/
import Derived.Test.YtjankibepgnbfaaGreatDoorChecked
import Derived.Test.YtjankibepgnbfaaGreatDoorPBackPlainAb12
import Derived.Laws.RangeAny
import Derived.Lib.RuneCount
set_option linter.unusedVariables false
set_option linter.unusedSimpArgs false
namespace Go.Proofs.YtjankibepgnbfaaGreatDoor
open Go Go.Ab
theorem hm : Tryz.prog.follows .mixedOrders = true := by kernel_rfl
def intsAV (l : List Int) : List (List AV) := l.map fun n => [.int .i64 n]
theorem intsAV_length (l : List Int) : (intsAV l).length = l.length := by simp [intsAV]
theorem intsAV_get {l : List Int} {i : Nat} (h : i < l.length) : (intsAV l).getD i [] = [.int .i64 l[i]] := by
  rw [List.getD_eq_getElem?_getD]; simp [intsAV, h]
def intsV (l : List Int) : AV := .sl none 1 (intsAV l)
def parsAV (l : List (List Int)) : List (List AV) := l.map fun p => [intsV p]
def parsV (l : List (List Int)) : AV := .sl none 1 (parsAV l)
theorem parsAV_length (l : List (List Int)) : (parsAV l).length = l.length := by simp [parsAV]
theorem parsAV_get {l : List (List Int)} {i : Nat} (h : i < l.length) : (parsAV l).getD i [] = [intsV l[i]] := by
  rw [List.getD_eq_getElem?_getD]; simp [parsAV, h]
theorem bytesAV_length' (l : List UInt8) : (bytesAV l).length = l.length := by simp [bytesAV]
structure Sq where
  k : Int
  pr : Int
  ps : List (List Int)
  it : List UInt8
  fi : Int
  da : List UInt8
  deriving DecidableEq
def Sq.c (s : Sq) : List AV := [.int .i64 s.k, .int .u8 s.pr, parsV s.ps, .str s.it, .int .u8 s.fi, .str s.da]
theorem c_intsV (l : List Int) : (intsV l).cells = [intsV l] := rfl
theorem o_intsV (l : List Int) : (intsV l).one = true := rfl
theorem c_parsV (l : List (List Int)) : (parsV l).cells = [parsV l] := rfl
theorem o_parsV (l : List (List Int)) : (parsV l).one = true := rfl
theorem s_intsV (l : List Int) : (intsV l).strip = intsV l := rfl
theorem s_parsV (l : List (List Int)) : (parsV l).strip = parsV l := rfl
theorem cl_intsV (l : List Int) : (intsV l).closed = true := rfl
theorem cl_parsV (l : List (List Int)) : (parsV l).closed = true := rfl
attribute [go_sem] c_intsV o_intsV c_parsV o_parsV s_intsV s_parsV cl_intsV cl_parsV Int.natCast_one Int.natCast_zero Int.cast_ofNat_Int
def sv (t : Option Nm) (sz : Nat) (rows : List (List AV)) : AV :=
  match t with
  | none => .nils
  | some t => .sl (some t) sz rows
theorem sv_one {t : Option Nm} {sz : Nat} {rows : List (List AV)} : (sv t sz rows).one = true := by cases t <;> rfl
theorem sv_cells {t : Option Nm} {sz : Nat} {rows : List (List AV)} : (sv t sz rows).cells = [sv t sz rows] := by cases t <;> rfl
theorem sv_none {sz : Nat} {rows : List (List AV)} : sv none sz rows = .nils := rfl
theorem sv_some {nm : Nm} {sz : Nat} {rows : List (List AV)} : sv (some nm) sz rows = .sl (some nm) sz rows := rfl
attribute [go_sem] sv_one sv_cells sv_none sv_some
end Go.Proofs.YtjankibepgnbfaaGreatDoor

set_option maxRecDepth 100000
namespace Go.Proofs.YtjankibepgnbfaaGreatDoor
open Go Go.Ab

theorem bits_and64 (a b : Int) : bits .and .i64 a b = IntKind.i64.wrap (((BitVec.ofInt 64 a &&& BitVec.ofInt 64 b).toNat : Nat) : Int) := rfl
theorem bits_or64 (a b : Int) : bits .or .i64 a b = IntKind.i64.wrap (((BitVec.ofInt 64 a ||| BitVec.ofInt 64 b).toNat : Nat) : Int) := rfl
theorem bits_and8 (a b : Int) : bits .and .u8 a b = IntKind.u8.wrap (((BitVec.ofInt 8 a &&& BitVec.ofInt 8 b).toNat : Nat) : Int) := rfl
theorem bits_or8 (a b : Int) : bits .or .u8 a b = IntKind.u8.wrap (((BitVec.ofInt 8 a ||| BitVec.ofInt 8 b).toNat : Nat) : Int) := rfl
theorem and_i64 {a b : Nat} (ha : a < 9223372036854775808) (hb : b < 9223372036854775808) : bits .and .i64 (a : Int) (b : Int) = ((a &&& b : Nat) : Int) := by
  have h : a &&& b ≤ a := Nat.and_le_left
  rw [bits_and64, BitVec.ofInt_natCast, BitVec.ofInt_natCast, BitVec.toNat_and, BitVec.toNat_ofNat, BitVec.toNat_ofNat, Nat.mod_eq_of_lt (by omega), Nat.mod_eq_of_lt (by omega), IntKind.wrap_i64]
  omega
theorem or_i64 {a b : Nat} (ha : a < 4611686018427387904) (hb : b < 4611686018427387904) : bits .or .i64 (a : Int) (b : Int) = ((a ||| b : Nat) : Int) := by
  have h : a ||| b < 2 ^ 62 := Nat.or_lt_two_pow (by omega) (by omega)
  rw [bits_or64, BitVec.ofInt_natCast, BitVec.ofInt_natCast, BitVec.toNat_or, BitVec.toNat_ofNat, BitVec.toNat_ofNat, Nat.mod_eq_of_lt (by omega), Nat.mod_eq_of_lt (by omega), IntKind.wrap_i64]
  omega
theorem and_u8 {a b : Nat} (ha : a < 256) (hb : b < 256) : bits .and .u8 (a : Int) (b : Int) = ((a &&& b : Nat) : Int) := by
  have h : a &&& b ≤ a := Nat.and_le_left
  rw [bits_and8, BitVec.ofInt_natCast, BitVec.ofInt_natCast, BitVec.toNat_and, BitVec.toNat_ofNat, BitVec.toNat_ofNat, Nat.mod_eq_of_lt (by omega), Nat.mod_eq_of_lt (by omega), IntKind.wrap_u8]
  omega
theorem or_u8 {a b : Nat} (ha : a < 256) (hb : b < 256) : bits .or .u8 (a : Int) (b : Int) = ((a ||| b : Nat) : Int) := by
  have h : a ||| b < 2 ^ 8 := Nat.or_lt_two_pow (by omega) (by omega)
  rw [bits_or8, BitVec.ofInt_natCast, BitVec.ofInt_natCast, BitVec.toNat_or, BitVec.toNat_ofNat, BitVec.toNat_ofNat, Nat.mod_eq_of_lt (by omega), Nat.mod_eq_of_lt (by omega), IntKind.wrap_u8]
  omega
theorem and63 {a : Nat} (ha : a < 9223372036854775808) : bits .and .i64 (a : Int) 63 = ((a % 64 : Nat) : Int) := by
  rw [show (63 : Int) = ((63 : Nat) : Int) from rfl, and_i64 ha (by omega), show (63 : Nat) = 2 ^ 6 - 1 from rfl, Nat.and_two_pow_sub_one_eq_mod]
theorem and_low {a : Nat} (ha : a < 256) (k : Nat) (hk : k ≤ 8) : bits .and .u8 (a : Int) ((2 ^ k - 1 : Nat) : Int) = ((a % 2 ^ k : Nat) : Int) := by
  have : 2 ^ k ≤ 2 ^ 8 := Nat.pow_le_pow_right (by omega) hk
  rw [and_u8 ha (by omega), Nat.and_two_pow_sub_one_eq_mod]
theorem or_put {a b k : Nat} (hb : b < 2 ^ k) (h : 2 ^ k * a + b < 256) : bits .or .u8 ((2 ^ k * a : Nat) : Int) (b : Int) = ((2 ^ k * a + b : Nat) : Int) := by
  rw [or_u8 (by omega) (by omega), Nat.two_pow_add_eq_or_of_lt hb]
theorem or_tail {b : Nat} (hb : b < 64) : bits .or .u8 128 (b : Int) = ((128 + b : Nat) : Int) := by
  have := or_put (a := 2) (b := b) (k := 6) (by omega) (by omega)
  simpa using this
theorem or_shift {a b : Nat} (hb : b < 64) (ha : a < 16777216) : bits .or .i64 ((a * 64 : Nat) : Int) (b : Int) = ((a * 64 + b : Nat) : Int) := by
  rw [or_i64 (by omega) (by omega)]
  have := Nat.two_pow_add_eq_or_of_lt (i := 6) (b := b) (by omega) a
  rw [show a * 64 = 2 ^ 6 * a by omega]
  omega
theorem and_flag {a : Nat} (ha : a < 9223372036854775808) (k : Nat) (hk : k < 63) : bits .and .i64 (a : Int) ((2 ^ k : Nat) : Int) = ((a / 2 ^ k % 2 * 2 ^ k : Nat) : Int) := by
  have : 2 ^ k < 2 ^ 63 := Nat.pow_lt_pow_right (by omega) hk
  rw [and_i64 ha (by omega)]
  congr 1
  apply Nat.eq_of_testBit_eq
  intro i
  rw [Nat.testBit_and, Nat.testBit_two_pow, Nat.mul_comm, Nat.testBit_two_pow_mul]
  by_cases h : i = k
  · subst h
    simp [Nat.testBit_eq_decide_div_mod_eq]
  · by_cases h2 : k < i
    · have h3 : a / 2 ^ k % 2 < 2 ^ (i - k) := Nat.lt_of_lt_of_le (Nat.mod_lt _ (by omega)) (by have := Nat.pow_le_pow_right (n := 2) (by omega) (show 1 ≤ i - k by omega); simpa using this)
      simp [Nat.testBit_lt_two_pow h3, show k ≠ i by omega]
    · simp [show k ≠ i by omega, show ¬ k ≤ i by omega]

/-! ### Code points -/
def isCP (r : Int) : Bool := decide (0 ≤ r) && decide (r ≤ 1114111) && (decide (r < 55296) || decide (57343 < r))
def putN (r : Nat) : List Nat :=
  if r < 128 then [r]
  else if r < 2048 then [192 + r / 64, 128 + r % 64]
  else if r < 65536 then [224 + r / 4096, 128 + r / 64 % 64, 128 + r % 64]
  else [240 + r / 262144, 128 + r / 4096 % 64, 128 + r / 64 % 64, 128 + r % 64]
def putU (r : Int) : List UInt8 := if isCP r = true then (putN r.toNat).map UInt8.ofNat else []
theorem putN_len (r : Nat) : 1 ≤ (putN r).length ∧ (putN r).length ≤ 4 := by
  unfold putN
  split
  · simp
  · split
    · simp
    · split <;> simp
theorem putU_len (r : Int) : (putU r).length ≤ 4 := by
  unfold putU
  split
  · simpa using (putN_len r.toNat).2
  · simp
theorem isCP_spec {r : Int} (h : isCP r = true) : ∃ n : Nat, r = n ∧ n ≤ 1114111 ∧ (n < 55296 ∨ 57343 < n) := by
  simp only [isCP, Bool.and_eq_true, Bool.or_eq_true, decide_eq_true_eq] at h
  exact ⟨r.toNat, by omega, by omega, by omega⟩
def decN : List Nat → Nat
  | [a] => a % 128
  | [a, b] => a % 32 * 64 + b % 64
  | [a, b, c] => (a % 16 * 64 + b % 64) * 64 + c % 64
  | [a, b, c, d] => ((a % 8 * 64 + b % 64) * 64 + c % 64) * 64 + d % 64
  | _ => 0
theorem decN_putN {n : Nat} (h : n ≤ 1114111) : decN (putN n) = n := by
  unfold putN
  split
  · simp only [decN]; omega
  · split
    · simp only [decN]; omega
    · split
      · simp only [decN]; omega
      · simp only [decN]; omega
theorem putN_lt {n : Nat} (h : n ≤ 1114111) : ∀ x ∈ putN n, x < 256 := by
  unfold putN
  split
  · simp; omega
  · split
    · simp; omega
    · split <;> (simp; omega)
def decU (b : List UInt8) : Int := (decN (b.map UInt8.toNat) : Nat)
theorem map_ofNat : ∀ {l : List Nat}, (∀ x ∈ l, x < 256) → (l.map UInt8.ofNat).map UInt8.toNat = l
  | [], _ => rfl
  | x :: xs, h => by
    have := h x (by simp)
    simp only [List.map_cons, UInt8.toNat_ofNat', map_ofNat (l := xs) (fun y hy => h y (by simp [hy]))]
    rw [Nat.mod_eq_of_lt (by omega)]
theorem decU_putU {r : Int} (h : isCP r = true) : decU (putU r) = r := by
  obtain ⟨n, rfl, h1, h2⟩ := isCP_spec h
  rw [putU, if_pos h, decU, Int.toNat_natCast, map_ofNat (putN_lt h1), decN_putN h1]
theorem putU_ne {r : Int} : (putU r ≠ []) ↔ isCP r = true := by
  unfold putU
  split
  · rename_i h
    have := (putN_len r.toNat).1
    refine ⟨fun _ => h, fun _ e => ?_⟩
    have h2 := congrArg List.length e
    simp only [List.length_map, List.length_nil] at h2; omega
  · simp [*]
def tryU (b : List UInt8) (n : Nat) : Option (Int × Nat) := if n ≤ b.length ∧ putU (decU (b.take n)) = b.take n then some (decU (b.take n), n) else none
def takeU (b : List UInt8) : Option (Int × Nat) := (tryU b 1).or ((tryU b 2).or ((tryU b 3).or (tryU b 4)))
theorem tryU_some {b : List UInt8} {n : Nat} (h1 : 1 ≤ n) {r : Int} (hr : putU r = b.take n) (hl : n ≤ b.length) : tryU b n = some (r, n) := by
  have hne : putU r ≠ [] := by rw [hr]; intro e; have := congrArg List.length e; simp only [List.length_take, List.length_nil] at this; omega
  have hd := decU_putU (putU_ne.1 hne)
  rw [hr] at hd
  rw [tryU, hd, if_pos ⟨hl, hr⟩]
theorem tryU_of {b : List UInt8} {n m : Nat} {r : Int} (h : tryU b n = some (r, m)) : m = n ∧ n ≤ b.length ∧ putU r = b.take n := by
  unfold tryU at h
  split at h
  · rename_i hh
    simp only [Option.some.injEq, Prod.mk.injEq] at h
    obtain ⟨rfl, rfl⟩ := h
    exact ⟨rfl, hh.1, hh.2⟩
  · cases h
theorem takeU_of {b : List UInt8} {r : Int} {n : Nat} (h : takeU b = some (r, n)) : 1 ≤ n ∧ n ≤ 4 ∧ n ≤ b.length ∧ putU r = b.take n := by
  unfold takeU at h
  simp only [Option.or_eq_some_iff] at h
  rcases h with h | ⟨_, h | ⟨_, h | ⟨_, h⟩⟩⟩ <;> obtain ⟨rfl, h1, h2⟩ := tryU_of h <;> exact ⟨by omega, by omega, h1, h2⟩
def allU (b : List UInt8) : Option (List Int) :=
  if h : b = [] then some []
  else match takeU b with
    | none => none
    | some (r, n) => (allU (b.drop (n - 1 + 1))).map (r :: ·)
termination_by b.length
decreasing_by
  have : b.length ≠ 0 := fun e => h (List.length_eq_zero_iff.1 e)
  simp only [List.length_drop]; omega
theorem allU_nil : allU [] = some [] := by rw [allU]; simp
theorem allU_none {b : List UInt8} (h : b ≠ []) (ht : takeU b = none) : allU b = none := by rw [allU, dif_neg h, ht]
theorem allU_some {b : List UInt8} {r : Int} {n : Nat} (h : b ≠ []) (ht : takeU b = some (r, n)) : allU b = (allU (b.drop n)).map (r :: ·) := by
  have h1 := (takeU_of ht).1
  rw [allU, dif_neg h, ht]
  show (allU (b.drop (n - 1 + 1))).map (r :: ·) = _
  rw [show n - 1 + 1 = n by omega]
end Go.Proofs.YtjankibepgnbfaaGreatDoor

namespace Go.Proofs.YtjankibepgnbfaaGreatDoor
open Go Go.Ab

structure Ent where
  kind : Int
  final : UInt8
  num : Int
  char : Int
  keys : Bool
  deriving DecidableEq, Inhabited
structure RowK where
  lo : Nat
  many : Nat
  kind : Nat
  finals : List UInt8
  nums : List Nat
  chars : List UInt8
def rowsK : List RowK := [
  ⟨9, 1, 2, [], [], []⟩, ⟨13, 1, 2, [], [], []⟩, ⟨27, 1, 2, [], [], []⟩, ⟨127, 1, 2, [], [], []⟩,
  ⟨57348, 2, 4, [], [2, 3], []⟩, ⟨57350, 4, 3, [68, 67, 65, 66], [], []⟩, ⟨57354, 2, 4, [], [5, 6], []⟩, ⟨57356, 2, 3, [72, 70], [], []⟩,
  ⟨57358, 5, 6, [], [], []⟩, ⟨57363, 1, 4, [], [29], []⟩, ⟨57364, 4, 3, [80, 81, 82, 83], [], []⟩, ⟨57368, 8, 4, [], [15, 17, 18, 19, 20, 21, 23, 24], []⟩,
  ⟨57376, 23, 6, [], [], []⟩, ⟨57399, 18, 5, [112, 113, 114, 115, 116, 117, 118, 119, 120, 121, 110, 111, 106, 109, 107, 77, 88, 108], [], [48, 49, 50, 51, 52, 53, 54, 55, 56, 57, 46, 47, 42, 45, 43, 13, 61, 44]⟩,
  ⟨57417, 4, 3, [68, 67, 65, 66], [], []⟩, ⟨57421, 2, 4, [], [5, 6], []⟩, ⟨57423, 2, 3, [72, 70], [], []⟩, ⟨57425, 2, 4, [], [2, 3], []⟩,
  ⟨57427, 1, 3, [69], [], []⟩, ⟨57428, 13, 6, [], [], []⟩, ⟨57441, 14, 7, [], [], []⟩]
def RowK.ent (r : RowK) (i : Nat) : Ent :=
  ⟨r.kind, r.finals.getD i 0, ((r.nums.getD i 0 : Nat) : Int), ((r.chars.getD i 0).toNat : Int), decide (57399 ≤ r.lo) && (decide (r.kind ≠ 6) && decide (r.kind ≠ 7))⟩
def RowK.all (r : RowK) : List (Nat × Ent) := (List.range r.many).map fun i => (r.lo + i, r.ent i)
def allK : List (Nat × Ent) := rowsK.flatMap RowK.all
def lookK (c : Int) : Ent :=
  match allK.find? fun p => decide ((p.1 : Int) = c) with
  | some p => p.2
  | none => if isCP c = false ∨ c < 32 ∨ (127 ≤ c ∧ c ≤ 159) ∨ (57344 ≤ c ∧ c ≤ 63743) then ⟨0, 0, 0, 0, false⟩ else ⟨1, 0, 0, 0, false⟩

def letR (c : Int) : UInt8 :=
  if c = 57350 ∨ c = 57417 then 68 else if c = 57351 ∨ c = 57418 then 67 else if c = 57352 ∨ c = 57419 then 65 else if c = 57353 ∨ c = 57420 then 66
  else if c = 57356 ∨ c = 57423 then 72 else if c = 57357 ∨ c = 57424 then 70 else if c = 57427 then 69 else if 57364 ≤ c ∧ c ≤ 57367 then UInt8.ofNat (80 + c - 57364).toNat else 0
def numR (c : Int) : Int :=
  if c = 57348 ∨ c = 57425 then 2 else if c = 57349 ∨ c = 57426 then 3 else if c = 57354 ∨ c = 57421 then 5 else if c = 57355 ∨ c = 57422 then 6
  else if c = 57368 then 15 else if 57369 ≤ c ∧ c ≤ 57373 then 17 + c - 57369 else if 57374 ≤ c ∧ c ≤ 57375 then 23 + c - 57374 else if c = 57363 then 29 else 0
def padR (c : Int) : Ent :=
  if c ≤ 57408 then ⟨5, UInt8.ofNat (112 + c - 57399).toNat, 0, 48 + c - 57399, true⟩
  else ⟨5, [110, 111, 106, 109, 107, 77, 88, 108].getD (c - 57409).toNat 0, 0, (([46, 47, 42, 45, 43, 13, 61, 44].getD (c - 57409).toNat 0 : UInt8).toNat : Int), true⟩
def restR (c : Int) : Int :=
  if c = 9 ∨ c = 13 ∨ c = 27 ∨ c = 127 then 2
  else if (57358 ≤ c ∧ c ≤ 57362) ∨ (57376 ≤ c ∧ c ≤ 57398) ∨ (57428 ≤ c ∧ c ≤ 57440) then 6
  else if 57441 ≤ c ∧ c ≤ 57454 then 7
  else if isCP c = false ∨ c < 32 ∨ (127 ≤ c ∧ c ≤ 159) ∨ (57344 ≤ c ∧ c ≤ 63743) then 0 else 1
def lookR (c : Int) : Ent :=
  if letR c ≠ 0 then ⟨3, letR c, 0, 0, decide (57399 ≤ c)⟩
  else if numR c ≠ 0 then ⟨4, 0, numR c, 0, decide (57399 ≤ c)⟩
  else if 57399 ≤ c ∧ c ≤ 57416 then padR c
  else ⟨restR c, 0, 0, 0, false⟩
theorem allK_codes : ∀ p ∈ allK, p.1 = 9 ∨ p.1 = 13 ∨ p.1 = 27 ∨ p.1 = 127 ∨ (57348 ≤ p.1 ∧ p.1 ≤ 57454) := by decide +kernel
theorem look_mid : ∀ k : Fin 107, lookK ((57348 + k.val : Nat) : Int) = lookR ((57348 + k.val : Nat) : Int) := by decide +kernel
theorem lookK_eq (c : Int) : lookK c = lookR c := by
  by_cases h : 57348 ≤ c ∧ c ≤ 57454
  · have := look_mid ⟨(c - 57348).toNat, by omega⟩
    rwa [show ((57348 + (c - 57348).toNat : Nat) : Int) = c by omega] at this
  · by_cases h2 : c = 9 ∨ c = 13 ∨ c = 27 ∨ c = 127
    · rcases h2 with rfl | rfl | rfl | rfl <;> decide +kernel
    · have hf : (allK.find? fun p => decide ((p.1 : Int) = c)) = none := by
        rw [List.find?_eq_none]
        intro p hp
        have := allK_codes p hp
        simp only [decide_eq_true_eq]
        omega
      have h3 : letR c = 0 := by
        unfold letR
        repeat (first | rfl | rw [if_neg (by omega)])
      have h4 : numR c = 0 := by
        unfold numR
        repeat (first | rfl | rw [if_neg (by omega)])
      have e : lookR c = ⟨restR c, 0, 0, 0, false⟩ := by
        unfold lookR
        rw [if_neg (by rw [h3]; simp), if_neg (by rw [h4]; simp), if_neg (by omega)]
      have h5 : restR c = if isCP c = false ∨ c < 32 ∨ (127 ≤ c ∧ c ≤ 159) ∨ (57344 ≤ c ∧ c ≤ 63743) then 0 else 1 := by
        rw [restR, if_neg h2, if_neg (by omega), if_neg (by omega)]
      rw [lookK, hf, e, h5]
      by_cases hc : isCP c = false ∨ c < 32 ∨ (127 ≤ c ∧ c ≤ 159) ∨ (57344 ≤ c ∧ c ≤ 63743)
      · simp only [if_pos hc]
      · simp only [if_neg hc]

def kindK (c : Int) : Int := (lookR c).kind
structure Ky where
  code : Int
  mods : Int
  type : Int
  shifted : Int
  base : Int
  text : List UInt8
def kyAV (k : Ky) : List AV := [.int .i64 k.code, .int .i64 k.mods, .int .i64 k.type, .int .i64 k.shifted, .int .i64 k.base, .str k.text]
def entAV (e : Ent) : List AV := [.int .i64 e.kind, .int .u8 (e.final.toNat : Int), .int .i64 e.num, .int .i64 e.char, .bool e.keys]
def cleanK (t : List UInt8) : Bool := match allU t with
  | some l => decide (l.length ≤ 8) && l.all fun r => decide (32 ≤ r) && (decide (r < 127) || decide (159 < r))
  | none => false
def mayK (k : Ky) : Bool := decide (kindK k.code ≠ 0) && decide (0 ≤ k.mods) && decide (k.mods ≤ 255) && decide (1 ≤ k.type) && decide (k.type ≤ 3) &&
  (decide (k.shifted = 0) || decide (kindK k.shifted = 1)) && (decide (k.base = 0) || decide (kindK k.base = 1)) && cleanK k.text
def hasK (m one : Int) : Bool := decide (max m 0 / one % 2 = 1)
def paramK (m : Int) : Int := if m < 0 ∨ 255 < m then 1 else m + 1
def shownK (k : Ky) : Int :=
  if hasK k.mods 1 = false then k.code else if k.shifted ≠ 0 then k.shifted else if 97 ≤ k.code ∧ k.code ≤ 122 then k.code - 32 else k.code
def formK (c : Int) : Int × UInt8 :=
  let e := lookR c
  if e.kind = 0 then (0, 0) else if c = 57366 then (13, 126) else if e.kind = 3 ∧ e.keys = false then (1, e.final) else if e.kind = 4 ∧ e.keys = false then (e.num, 126) else (c, 117)
end Go.Proofs.YtjankibepgnbfaaGreatDoor

namespace Go.Proofs.YtjankibepgnbfaaGreatDoor
open Go Go.Ab
def ir_utfis : ICode :=
 (.seq
 (.reg [qA 2 (.mov (qB false))] (some [0]))
 (.seq
 (.reg [qM 3 0,
 qA 4 (.bin .geq .none (.t 3) (qI 0)),
 qM 5 4,
 qG 6 5 true (.mov (.t 0)),
 qG 7 5 true (.bin .leq .none (.t 6) (qI 1114111)),
 qA 8 (.pick (.t 5) (.t 7) (qB false)),
 qM 9 8,
 qG 10 9 true (.mov (.t 0)),
 qG 11 9 true (.bin .lss .none (.t 10) (qI 55296)),
 qG 12 9 true (.mov (.t 11)),
 qG 13 12 false (.mov (.t 0)),
 qG 14 12 false (.bin .gtr .none (.t 13) (qI 57343)),
 qG 15 9 true (.pick (.t 12) (qB true) (.t 14)),
 qA 16 (.pick (.t 9) (.t 15) (qB false)),
 qM 2 16] (some [2]))
 .ret))
theorem is_utfis : IrOf Tryz.prog 156 17 ir_utfis [.t 2] := ⟨_, Tryz.func156, rfl, by kernel_rfl, by kernel_rfl, by kernel_rfl⟩

def ir_clavierref02Is : ICode :=
 (.seq
 (.reg [qA 2 (.mov (qB false))] (some [0]))
 (.seq
 (.reg [qM 3 0,
 qA 4 (.bin .geq .none (.t 3) (qI 0)),
 qM 5 4,
 qG 6 5 true (.mov (.t 0)),
 qG 7 5 true (.bin .leq .none (.t 6) (qI 1114111)),
 qA 8 (.pick (.t 5) (.t 7) (qB false)),
 qM 9 8,
 qG 10 9 true (.mov (.t 0)),
 qG 11 9 true (.bin .lss .none (.t 10) (qI 55296)),
 qG 12 9 true (.mov (.t 11)),
 qG 13 12 false (.mov (.t 0)),
 qG 14 12 false (.bin .gtr .none (.t 13) (qI 57343)),
 qG 15 9 true (.pick (.t 12) (qB true) (.t 14)),
 qA 16 (.pick (.t 9) (.t 15) (qB false)),
 qM 2 16] (some [2]))
 .ret))
theorem is_clavierref02Is : IrOf Tryz.prog 105 17 ir_clavierref02Is [.t 2] := ⟨_, Tryz.func105, rfl, by kernel_rfl, by kernel_rfl, by kernel_rfl⟩

def ir_utfsizes : ICode :=
 (.seq
 (.reg [qA 0 (.box 183 (.c (.agg [(.int .i64 0), (.int .i64 0), (.int .u8 0), (.int .u8 0), (.int .i64 0), (.int .i64 0), (.int .u8 0), (.int .u8 0), (.int .i64 0), (.int .i64 0), (.int .u8 0), (.int .u8 0), (.int .i64 0), (.int .i64 0), (.int .u8 0), (.int .u8 0)])))] (some [0]))
 (.seq
 (.reg [qA 1 (.bld [(.int .i64 0), (.int .i64 0), (.int .u8 0), (.int .u8 0)] [(0, 1, (qI 1)), (1, 1, (qI 127)), (2, 1, (.c (.int .u8 0))), (3, 1, (.c (.int .u8 127)))]),
 qA 2 (.bld [(.int .i64 0), (.int .i64 0), (.int .u8 0), (.int .u8 0)] [(0, 1, (qI 2)), (1, 1, (qI 2047)), (2, 1, (.c (.int .u8 192))), (3, 1, (.c (.int .u8 31)))]),
 qA 3 (.bld [(.int .i64 0), (.int .i64 0), (.int .u8 0), (.int .u8 0)] [(0, 1, (qI 3)), (1, 1, (qI 65535)), (2, 1, (.c (.int .u8 224))), (3, 1, (.c (.int .u8 15)))]),
 qA 4 (.bld [(.int .i64 0), (.int .i64 0), (.int .u8 0), (.int .u8 0)] [(0, 1, (qI 4)), (1, 1, (qI 1114111)), (2, 1, (.c (.int .u8 240))), (3, 1, (.c (.int .u8 7)))]),
 qA 5 (.bld [(.int .i64 0), (.int .i64 0), (.int .u8 0), (.int .u8 0), (.int .i64 0), (.int .i64 0), (.int .u8 0), (.int .u8 0), (.int .i64 0), (.int .i64 0), (.int .u8 0), (.int .u8 0), (.int .i64 0), (.int .i64 0), (.int .u8 0), (.int .u8 0)] [(0, 4, (.t 1)), (4, 4, (.t 2)), (8, 4, (.t 3)), (12, 4, (.t 4))]),
 qN (.st 16 (.t 0) (.t 5))] (some [0]))
 .ret))
theorem is_utfsizes : IrOf Tryz.prog 157 6 ir_utfsizes [.cell 0 (some 16)] := ⟨_, Tryz.func157, rfl, by kernel_rfl, by kernel_rfl, by kernel_rfl⟩

/- clavier/utf.Put -/
def ir_utfPut_l0 : ICode :=
 (.seq
 (.seq
 (.reg [qM 24 6,
 qA 25 (.bin .gtr .none (.t 24) (qI 0))] (some [0,4,5,6,25]))
 (.cond (.t 25)
 .skip
 (.exit 2)))
 (.seq
 (.blk 3
 (.seq
 (.reg [qM 28 5,
 qM 29 6,
 qM 30 0,
 qA 31 (.bin .and .none (.t 30) (qI 63)),
 qA 32 (.cvi .u8 (.t 31)),
 qA 33 (.bin .or .none (.c (.int .u8 128)) (.t 32)),
 qA 34 (.ia 1 (.t 28) (.t 29)),
 qN (.st 1 (.t 34) (.t 33))] (some [0,4,5,6]))
 (.reg [qM 35 0,
 qA 36 (.bin .shr .none (.t 35) (.c (.int .u64 6))),
 qM 0 36] (some [0,4,5,6]))))
 (.reg [qM 26 6,
 qA 27 (.bin .sub .none (.t 26) (qI 1)),
 qM 6 27] (some [0,4,5,6]))))
def ir_utfPut_l1 : ICode :=
 (.seq
 (.reg [qA 12 (.bin .lss .none (.t 11) (qI 4))] (some [0,10,11,12]))
 (.seq
 (.cond (.t 12)
 .skip
 (.exit 0))
 (.seq
 (.blk 1
 (.seq
 (.reg [qA 13 (.ixa 4 4 (some 4) (.t 10) (.t 11)),
 qA 4 (.box 182 (.c (.agg [(.int .i64 0), (.int .i64 0), (.int .u8 0), (.int .u8 0)]))),
 qN (.st 4 (.t 4) (.t 13))] (some [0,4,10,11]))
 (.seq
 (.seq
 (.reg [qM 14 0,
 qF 15 1 4,
 qL 16 15,
 qA 17 (.bin .gtr .none (.t 14) (.t 16))] (some [0,4,10,11,17]))
 (.cond (.t 17)
 (.exit 1)
 .skip))
 (.seq
 (.reg [qF 18 0 4,
 qL 19 18,
 qA 20 (.mks 5 1 (.agg [(.int .u8 0)]) (.t 19)),
 qM 5 20] (some [0,4,5]))
 (.seq
 (.seq
 (.reg [qF 21 0 4,
 qL 22 21,
 qA 23 (.bin .sub .none (.t 22) (qI 1)),
 qM 6 23] (some [0,4,5,6]))
 (.blk 2
 (.loop
 ir_utfPut_l0)))
 (.seq
 (.reg [qM 37 5,
 qF 38 2 4,
 qL 39 38,
 qM 40 0,
 qA 41 (.cvi .u8 (.t 40)),
 qA 42 (.bin .or .none (.t 39) (.t 41)),
 qA 43 (.ia 1 (.t 37) (qI 0)),
 qN (.st 1 (.t 43) (.t 42))] (some [5]))
 (.seq
 (.reg [qM 44 5,
 qM 2 44] (some [2]))
 .ret)))))))
 (.reg [qA 45 (.bin .add .none (.t 11) (qI 1)),
 qM 11 45] (some [0,10,11])))))
def ir_utfPut : ICode :=
 (.seq
 (.reg [qA 2 (.mov (.c .nils))] (some [0]))
 (.seq
 (.seq
 (.reg [qM 7 0,
 qA 8 (.call (qC 156) [(.t 7)]),
 qA 9 (.un .not (.t 8))] (some [0,9]))
 (.cond (.t 9)
 (.seq
 (.reg [qA 2 (.mov (.c .nils))] (some [2]))
 .ret)
 .skip))
 (.seq
 (.seq
 (.reg [qA 10 (.call (qC 157) []),
 qA 11 (.mov (qI 0))] (some [0,10,11]))
 (.blk 0
 (.loop
 ir_utfPut_l1)))
 (.seq
 (.reg [qA 2 (.mov (.c .nils))] (some [2]))
 .ret))))
theorem is_utfPut : IrOf Tryz.prog 111 46 ir_utfPut [.t 2] := ⟨_, Tryz.func111, rfl, by kernel_rfl, by kernel_rfl, by kernel_rfl⟩

def ir_clavierref02Put : ICode :=
 (.seq
 (.reg [qA 2 (.mov (.c .nils))] (some [0]))
 (.seq
 (.seq
 (.reg [qM 3 0,
 qA 4 (.call (qC 105) [(.t 3)]),
 qA 5 (.un .not (.t 4))] (some [0,5]))
 (.cond (.t 5)
 (.seq
 (.reg [qA 2 (.mov (.c .nils))] (some [2]))
 .ret)
 .skip))
 (.seq
 (.seq
 (.reg [qM 6 0,
 qA 7 (.bin .lss .none (.t 6) (qI 128))] (some [0,7]))
 (.cond (.t 7)
 (.seq
 (.reg [qM 8 0,
 qA 9 (.cvi .u8 (.t 8)),
 qA 10 (.row 5 1 [(.t 9)]),
 qM 2 10] (some [2]))
 .ret)
 .skip))
 (.seq
 (.seq
 (.reg [qM 11 0,
 qA 12 (.bin .lss .none (.t 11) (qI 2048))] (some [0,12]))
 (.cond (.t 12)
 (.seq
 (.reg [qM 13 0,
 qA 14 (.bin .quo .none (.t 13) (qI 64)),
 qA 15 (.bin .add .none (qI 192) (.t 14)),
 qA 16 (.cvi .u8 (.t 15)),
 qM 17 0,
 qA 18 (.bin .rem .none (.t 17) (qI 64)),
 qA 19 (.bin .add .none (qI 128) (.t 18)),
 qA 20 (.cvi .u8 (.t 19)),
 qA 21 (.row 5 1 [(.t 16), (.t 20)]),
 qM 2 21] (some [2]))
 .ret)
 .skip))
 (.seq
 (.seq
 (.reg [qM 22 0,
 qA 23 (.bin .lss .none (.t 22) (qI 65536))] (some [0,23]))
 (.cond (.t 23)
 (.seq
 (.reg [qM 24 0,
 qA 25 (.bin .quo .none (.t 24) (qI 4096)),
 qA 26 (.bin .add .none (qI 224) (.t 25)),
 qA 27 (.cvi .u8 (.t 26)),
 qM 28 0,
 qA 29 (.bin .quo .none (.t 28) (qI 64)),
 qA 30 (.bin .rem .none (.t 29) (qI 64)),
 qA 31 (.bin .add .none (qI 128) (.t 30)),
 qA 32 (.cvi .u8 (.t 31)),
 qM 33 0,
 qA 34 (.bin .rem .none (.t 33) (qI 64)),
 qA 35 (.bin .add .none (qI 128) (.t 34)),
 qA 36 (.cvi .u8 (.t 35)),
 qA 37 (.row 5 1 [(.t 27), (.t 32), (.t 36)]),
 qM 2 37] (some [2]))
 .ret)
 .skip))
 (.seq
 (.reg [qM 38 0,
 qA 39 (.bin .quo .none (.t 38) (qI 262144)),
 qA 40 (.bin .add .none (qI 240) (.t 39)),
 qA 41 (.cvi .u8 (.t 40)),
 qM 42 0,
 qA 43 (.bin .quo .none (.t 42) (qI 4096)),
 qA 44 (.bin .rem .none (.t 43) (qI 64)),
 qA 45 (.bin .add .none (qI 128) (.t 44)),
 qA 46 (.cvi .u8 (.t 45)),
 qM 47 0,
 qA 48 (.bin .quo .none (.t 47) (qI 64)),
 qA 49 (.bin .rem .none (.t 48) (qI 64)),
 qA 50 (.bin .add .none (qI 128) (.t 49)),
 qA 51 (.cvi .u8 (.t 50)),
 qM 52 0,
 qA 53 (.bin .rem .none (.t 52) (qI 64)),
 qA 54 (.bin .add .none (qI 128) (.t 53)),
 qA 55 (.cvi .u8 (.t 54)),
 qA 56 (.row 5 1 [(.t 41), (.t 46), (.t 51), (.t 55)]),
 qM 2 56] (some [2]))
 .ret))))))
theorem is_clavierref02Put : IrOf Tryz.prog 85 57 ir_clavierref02Put [.t 2] := ⟨_, Tryz.func85, rfl, by kernel_rfl, by kernel_rfl, by kernel_rfl⟩

theorem fs_is {Gl : Gh → Prop} (hst : Stays Gl) {r : Int} : FS Tryz.prog Gl 156 [.int .i64 r] [] [] (.bool (isCP r)) [] [] := by
  refine FS.of hm hst is_utfis (by simp) fun γ hγ hfr => ?_
  (generalize hQ : (fun (ex : Ex) (_ _ : Nat) (s : St) => _) = Q; unfold ir_utfis)
  (simp +contextual (maxSteps := 1000000) only [go_sem, reduceCtorEq, ↓reduceIte, Nat.reduceAdd, Nat.reduceEqDiff]; repeat' first | ((first | refine kCond_split (fun hg => ?_) (fun hg => ?_) | refine kGc_split (fun hg => ?_) (fun hg => ?_) | refine kPreG_split (fun hg => ?_) (fun hg => ?_)) <;> (try rw [hg]) <;> simp +contextual (maxSteps := 1000000) only [go_sem, reduceCtorEq, ↓reduceIte, Nat.reduceAdd, Nat.reduceEqDiff, Nat.reduceLeDiff, Nat.reduceMul, Nat.reduceBEq, Int.reduceBEq, Int.reduceBNe, Int.reduceLT, Int.reduceLE, Int.reduceGT, Int.reduceGE, Int.reduceToNat]) | refine And.intro (by omega) ?_)
  all_goals (rw [← hQ]; clear hQ hfr; refine ⟨trivial, Ret.flat ?_ rfl⟩; first | (simp only [resOf, getAll, IRes.get, lf_cons, lf_nil, ↓reduceIte, Bool.false_eq_true, Option.some.injEq, AV.bool.injEq, AV.int.injEq, AV.tup.injEq, List.cons.injEq, true_and, and_true, isCP, *]; done) | (simp [resOf, getAll, IRes.get, lf_cons, lf_nil, ↓reduceIte, Bool.false_eq_true, Option.some.injEq, AV.bool.injEq, AV.int.injEq, AV.tup.injEq, List.cons.injEq, true_and, and_true, isCP, *]; done) | (simp_all [resOf, getAll, IRes.get, lf_cons, lf_nil, ↓reduceIte, Bool.false_eq_true, Option.some.injEq, AV.bool.injEq, AV.int.injEq, AV.tup.injEq, List.cons.injEq, true_and, and_true, isCP]; done) | (simp_all [resOf, getAll, IRes.get, lf_cons, lf_nil, ↓reduceIte, Bool.false_eq_true, Option.some.injEq, AV.bool.injEq, AV.int.injEq, AV.tup.injEq, List.cons.injEq, true_and, and_true, isCP]; omega))
theorem fs_rIs {Gl : Gh → Prop} (hst : Stays Gl) {r : Int} : FS Tryz.prog Gl 105 [.int .i64 r] [] [] (.bool (isCP r)) [] [] := by
  refine FS.of hm hst is_clavierref02Is (by simp) fun γ hγ hfr => ?_
  (generalize hQ : (fun (ex : Ex) (_ _ : Nat) (s : St) => _) = Q; unfold ir_clavierref02Is)
  (simp +contextual (maxSteps := 1000000) only [go_sem, reduceCtorEq, ↓reduceIte, Nat.reduceAdd, Nat.reduceEqDiff]; repeat' first | ((first | refine kCond_split (fun hg => ?_) (fun hg => ?_) | refine kGc_split (fun hg => ?_) (fun hg => ?_) | refine kPreG_split (fun hg => ?_) (fun hg => ?_)) <;> (try rw [hg]) <;> simp +contextual (maxSteps := 1000000) only [go_sem, reduceCtorEq, ↓reduceIte, Nat.reduceAdd, Nat.reduceEqDiff, Nat.reduceLeDiff, Nat.reduceMul, Nat.reduceBEq, Int.reduceBEq, Int.reduceBNe, Int.reduceLT, Int.reduceLE, Int.reduceGT, Int.reduceGE, Int.reduceToNat]) | refine And.intro (by omega) ?_)
  all_goals (rw [← hQ]; clear hQ hfr; refine ⟨trivial, Ret.flat ?_ rfl⟩; first | (simp only [resOf, getAll, IRes.get, lf_cons, lf_nil, ↓reduceIte, Bool.false_eq_true, Option.some.injEq, AV.bool.injEq, AV.int.injEq, AV.tup.injEq, List.cons.injEq, true_and, and_true, isCP, *]; done) | (simp [resOf, getAll, IRes.get, lf_cons, lf_nil, ↓reduceIte, Bool.false_eq_true, Option.some.injEq, AV.bool.injEq, AV.int.injEq, AV.tup.injEq, List.cons.injEq, true_and, and_true, isCP, *]; done) | (simp_all [resOf, getAll, IRes.get, lf_cons, lf_nil, ↓reduceIte, Bool.false_eq_true, Option.some.injEq, AV.bool.injEq, AV.int.injEq, AV.tup.injEq, List.cons.injEq, true_and, and_true, isCP]; done) | (simp_all [resOf, getAll, IRes.get, lf_cons, lf_nil, ↓reduceIte, Bool.false_eq_true, Option.some.injEq, AV.bool.injEq, AV.int.injEq, AV.tup.injEq, List.cons.injEq, true_and, and_true, isCP]; omega))
def szMost (i : Nat) : Nat := [127, 2047, 65535, 1114111].getD i 0
def szMark (i : Nat) : Nat := [0, 192, 224, 240].getD i 0
def szRest (i : Nat) : Nat := [127, 31, 15, 7].getD i 0
def szAV (i : Nat) : List AV := [.int .i64 ((i + 1 : Nat) : Int), .int .i64 (szMost i : Int), .int .u8 (szMark i : Int), .int .u8 (szRest i : Int)]
def szsAV : List AV := szAV 0 ++ szAV 1 ++ szAV 2 ++ szAV 3
theorem fs_sizes {Gl : Gh → Prop} (hst : Stays Gl) : FS Tryz.prog Gl 157 [] [] [] (.agg szsAV) [] [] := by
  refine FS.of hm hst is_utfsizes (by simp) fun γ hγ hfr => ?_
  (generalize hQ : (fun (ex : Ex) (_ _ : Nat) (s : St) => _) = Q; unfold ir_utfsizes)
  (simp +contextual (maxSteps := 1000000) only [go_sem, reduceCtorEq, ↓reduceIte, Nat.reduceAdd, Nat.reduceEqDiff, Nat.reduceLeDiff]; repeat' first | ((first | refine kCond_split (fun hg => ?_) (fun hg => ?_) | refine kGc_split (fun hg => ?_) (fun hg => ?_) | refine kPreG_split (fun hg => ?_) (fun hg => ?_)) <;> (try rw [hg]) <;> simp +contextual (maxSteps := 1000000) only [go_sem, reduceCtorEq, ↓reduceIte, Nat.reduceAdd, Nat.reduceEqDiff, Nat.reduceLeDiff, Nat.reduceMul, Nat.reduceBEq, Int.reduceBEq, Int.reduceBNe, Int.reduceLT, Int.reduceLE, Int.reduceGT, Int.reduceGE, Int.reduceToNat]) | refine And.intro (by omega) ?_)
  rw [← hQ]
  refine ⟨trivial, Ret.flatT (by simp [resOf, getAll, IRes.get, lf, getH, szsAV, szAV, szMost, szMark, szRest]) rfl⟩
theorem u8v {x : Int} {k : Nat} (h : x = k) (hk : k < 256) : IntKind.u8.wrap x = ((UInt8.ofNat k).toNat : Int) := by
  rw [h, UInt8.toNat_ofNat', Nat.mod_eq_of_lt (by omega), IntKind.wrap_u8]; omega
theorem fs_rPutU {Gl : Gh → Prop} (hst : Stays Gl) {r : Int} : FS Tryz.prog Gl 85 [.int .i64 r] [] [] (.sl none 1 (bytesAV (putU r))) [] [] := by
  refine FS.ofW hm hst is_clavierref02Put rfl (by simp) fun γ hγ hfr => ?_
  (generalize hQ : (fun (ex : Ex) (_ _ : Nat) (s : St) => _) = Q; unfold ir_clavierref02Put)
  ((try simp +contextual (maxSteps := 1000000) only [go_sem, reduceCtorEq, ↓reduceIte, Nat.reduceAdd]); repeat' first | ((first | refine kCond_split (fun hg => ?_) (fun hg => ?_) | refine kGc_split (fun hg => ?_) (fun hg => ?_) | refine kPreG_split (fun hg => ?_) (fun hg => ?_)) <;> (try rw [hg]) <;> simp +contextual (maxSteps := 1000000) only [go_sem, reduceCtorEq, ↓reduceIte, Nat.reduceAdd, Nat.reduceEqDiff]) | ((first | refine CallP.pure (fs_rIs hst) (fun _ => rfl) ?_) <;> simp +contextual (maxSteps := 1000000) only [go_sem, reduceCtorEq, ↓reduceIte, Nat.reduceAdd]) | refine And.intro (by omega) ?_)
  · rw [← hQ]
    refine ⟨trivial, .inl ⟨_, rfl, ?_⟩⟩
    have : putU r = [] := by rw [putU, if_neg (by simpa using hg)]
    rw [this]; exact RepLe.nils 1
  all_goals
    rw [← hQ]
    refine ⟨trivial, .inl ⟨_, rfl, RepLe.anon' ?_⟩⟩
    have hcp : isCP r = true := by rcases Bool.eq_false_or_eq_true (isCP r) with h | h; exact h; simp_all
    clear hQ hfr
    obtain ⟨n, rfl, h1, h2⟩ := isCP_spec hcp
    have hq1 : IntKind.i64.wrap ((n : Int).tdiv 64) = ((n / 64 : Nat) : Int) := by rw [Int.tdiv_eq_ediv_of_nonneg (by omega), IntKind.wrap_i64]; omega
    have hq2 : IntKind.i64.wrap ((n : Int).tdiv 4096) = ((n / 4096 : Nat) : Int) := by rw [Int.tdiv_eq_ediv_of_nonneg (by omega), IntKind.wrap_i64]; omega
    have hq3 : IntKind.i64.wrap ((n : Int).tdiv 262144) = ((n / 262144 : Nat) : Int) := by rw [Int.tdiv_eq_ediv_of_nonneg (by omega), IntKind.wrap_i64]; omega
    have hm : ∀ m : Nat, (m : Int).tmod 64 = ((m % 64 : Nat) : Int) := fun m => by rw [Int.tmod_eq_emod_of_nonneg (by omega)]; omega
    simp only [decide_eq_true_eq, decide_eq_false_iff_not] at *
    simp only [hq1, hq2, hq3, hm, putU, hcp, if_true, Int.toNat_natCast, putN]
  · rw [if_pos (by omega)]
    simp only [bytesAV, List.map_cons, List.map_nil, List.cons.injEq, AV.int.injEq, true_and, and_true]
    exact u8v rfl (by omega)
  · rw [if_neg (by omega), if_pos (by omega)]
    simp only [bytesAV, List.map_cons, List.map_nil, List.cons.injEq, AV.int.injEq, true_and, and_true]
    refine ⟨u8v ?_ ?_, u8v ?_ ?_⟩ <;> first | omega | (rw [IntKind.wrap_i64]; omega)
  · rw [if_neg (by omega), if_neg (by omega), if_pos (by omega)]
    simp only [bytesAV, List.map_cons, List.map_nil, List.cons.injEq, AV.int.injEq, true_and, and_true]
    refine ⟨u8v ?_ ?_, u8v ?_ ?_, u8v ?_ ?_⟩ <;> first | omega | (rw [IntKind.wrap_i64]; omega)
  · rw [if_neg (by omega), if_neg (by omega), if_neg (by omega)]
    simp only [bytesAV, List.map_cons, List.map_nil, List.cons.injEq, AV.int.injEq, true_and, and_true]
    refine ⟨u8v ?_ ?_, u8v ?_ ?_, u8v ?_ ?_, u8v ?_ ?_⟩ <;> first | omega | (rw [IntKind.wrap_i64]; omega)

def tailB (n : Nat) : Nat → List Nat
  | 0 => []
  | j + 1 => (128 + n / 64 ^ j % 64) :: tailB n j
def cellsB (l : List Nat) : List AV := l.map fun c : Nat => AV.int .u8 (c : Int)
theorem tailB_len (n : Nat) : ∀ j, (tailB n j).length = j
  | 0 => rfl
  | j + 1 => by simp [tailB, tailB_len n j]
theorem bytes_cells : ∀ {l : List Nat}, (∀ x ∈ l, x < 256) → (bytesAV (l.map UInt8.ofNat)).flatten = cellsB l
  | [], _ => rfl
  | x :: xs, h => by
    have h1 := h x (by simp)
    have h2 := bytes_cells (l := xs) fun y hy => h y (by simp [hy])
    simp only [bytesAV, cellsB, List.map_cons, List.flatten_cons] at h2 ⊢
    rw [h2, UInt8.toNat_ofNat', Nat.mod_eq_of_lt (by omega)]; rfl
theorem cellsB_closed : ∀ l : List Nat, AV.closedL (cellsB l) = true
  | [] => rfl
  | x :: xs => by
    show (true && AV.closedL (cellsB xs)) = true
    rw [cellsB_closed xs]; rfl
theorem cellsB_len (l : List Nat) : (cellsB l).length = l.length := by simp [cellsB]
theorem cells_set {k : Nat} {t : List Nat} {x : Nat} : List.take k (cellsB (List.replicate (k + 1) 0 ++ t)) ++ [AV.int .u8 (x : Int)] ++ List.drop (k + 1) (cellsB (List.replicate (k + 1) 0 ++ t)) = cellsB (List.replicate k 0 ++ x :: t) := by
  have h1 : cellsB (List.replicate (k + 1) 0 ++ t) = List.replicate (k + 1) (AV.int .u8 0) ++ cellsB t := by simp [cellsB]
  have h2 : cellsB (List.replicate k 0 ++ x :: t) = List.replicate k (AV.int .u8 0) ++ AV.int .u8 (x : Int) :: cellsB t := by simp [cellsB]
  rw [h1, h2, List.take_append_of_le_length (by simp), List.drop_append_of_le_length (by simp)]
  simp
theorem pow64_succ (n j : Nat) : n / 64 ^ (j + 1) = n / 64 ^ j / 64 := by rw [Nat.pow_succ, Nat.div_div_eq_div_mul]
theorem sh6 (n j : Nat) : shOp .shr .i64 ((n / 64 ^ j : Nat) : Int) 6 = some (True, .int .i64 ((n / 64 ^ (j + 1) : Nat) : Int)) := by
  rw [pow64_succ]
  show some ((0 : Int) ≤ 6 ∧ (6 : Int) ≤ IntKind.i64.bits, AV.int .i64 (((n / 64 ^ j : Nat) : Int) / 2 ^ (6 : Int).toNat)) = _
  have h1 : ((0 : Int) ≤ 6 ∧ (6 : Int) ≤ IntKind.i64.bits) = True := by simp [IntKind.bits]
  have h2 : ((n / 64 ^ j : Nat) : Int) / 2 ^ (6 : Int).toNat = ((n / 64 ^ j / 64 : Nat) : Int) := rfl
  rw [h1, h2]
theorem putN_eq {n i : Nat} (h1 : n ≤ szMost i) (h2 : i = 0 ∨ i = 1 ∧ 127 < n ∨ i = 2 ∧ 2047 < n ∨ i = 3 ∧ 65535 < n) : putN n = (szMark i + n / 64 ^ i) :: tailB n i := by
  rcases h2 with rfl | ⟨rfl, h⟩ | ⟨rfl, h⟩ | ⟨rfl, h⟩ <;> simp only [szMost, List.getD_cons_zero, List.getD_cons_succ] at h1
  · rw [putN, if_pos (by omega)]; simp [szMark, tailB]
  · rw [putN, if_neg (by omega), if_pos (by omega)]; simp [szMark, tailB]
  · rw [putN, if_neg (by omega), if_neg (by omega), if_pos (by omega)]; simp [szMark, tailB]
  · rw [putN, if_neg (by omega), if_neg (by omega), if_neg (by omega)]; simp [szMark, tailB]
theorem mark_or {n i : Nat} (h1 : n ≤ szMost i) (h2 : i = 0 ∨ i = 1 ∧ 127 < n ∨ i = 2 ∧ 2047 < n ∨ i = 3 ∧ 65535 < n) : IntKind.u8.wrap ((n / 64 ^ i : Nat) : Int) = ((n / 64 ^ i : Nat) : Int) ∧ bits .or .u8 (szMark i : Int) ((n / 64 ^ i : Nat) : Int) = ((szMark i + n / 64 ^ i : Nat) : Int) := by
  rcases h2 with rfl | ⟨rfl, h⟩ | ⟨rfl, h⟩ | ⟨rfl, h⟩ <;> simp only [szMost, List.getD_cons_zero, List.getD_cons_succ] at h1
  · exact ⟨by rw [IntKind.wrap_u8]; omega, or_put (a := 0) (k := 7) (b := n / 64 ^ 0) (by omega) (by omega)⟩
  · exact ⟨by rw [IntKind.wrap_u8]; omega, or_put (a := 6) (k := 5) (b := n / 64 ^ 1) (by omega) (by omega)⟩
  · exact ⟨by rw [IntKind.wrap_u8]; omega, or_put (a := 14) (k := 4) (b := n / 64 ^ 2) (by omega) (by omega)⟩
  · exact ⟨by rw [IntKind.wrap_u8]; omega, or_put (a := 30) (k := 3) (b := n / 64 ^ 3) (by omega) (by omega)⟩
set_option maxHeartbeats 2000000 in
theorem fs_putU {Gl : Gh → Prop} (hst : Stays Gl) {r : Int} : FS Tryz.prog Gl 111 [.int .i64 r] [] [] (.sl none 1 (bytesAV (putU r))) [] [] := by
  refine FS.ofW hm hst is_utfPut rfl (by simp) fun γ hγ hfr => ?_
  (generalize hQ : (fun (ex : Ex) (_ _ : Nat) (s : St) => _) = Q; unfold ir_utfPut)
  simp +contextual (maxSteps := 1000000) only [go_sem, reduceCtorEq, ↓reduceIte, Nat.reduceAdd]
  (refine CallP.pure (fs_is hst) (fun _ => rfl) ?_; simp +contextual (maxSteps := 1000000) only [go_sem, reduceCtorEq, ↓reduceIte, Nat.reduceAdd])
  refine kCond_split (fun h => ?_) (fun h => ?_)
  · simp +contextual (maxSteps := 1000000) only [go_sem, ↓reduceIte, Nat.reduceAdd]
    rw [← hQ]
    refine ⟨trivial, .inl ⟨_, rfl, ?_⟩⟩
    have : putU r = [] := by rw [putU, if_neg (by simpa using h)]
    rw [this]; exact RepLe.nils 1
  have hcp : isCP r = true := by simpa using h
  obtain ⟨n, rfl, h1, h2⟩ := isCP_spec hcp
  simp +contextual (maxSteps := 1000000) only [go_sem, Nat.reduceAdd]
  (refine CallP.pure (fs_sizes hst) (fun _ => rfl) ?_; simp +contextual (maxSteps := 1000000) only [go_sem, reduceCtorEq, ↓reduceIte, Nat.reduceAdd, Nat.reduceEqDiff])
  refine kLoop_ix (fun i : Nat => ⟨lf [(0, .int .i64 (n : Int)), (10, .agg szsAV), (11, .int .i64 (i : Int))], [], fun x => x ∈ []⟩) (fun i => i = 0 ∨ i = 1 ∧ 127 < n ∨ i = 2 ∧ 2047 < n ∨ i = 3 ∧ 65535 < n) (fun i => 4 - i) 0 0 ?_ (.inl rfl) ?_
  · refine Wk.same ?_
    (simp only [lfOK, upd, initF]; repeat' first | exact AVle.refl _ _ | exact trivial | refine And.intro ?_ ?_ | exact AVle.int (by simp only [IntKind.wrap_i64]; omega))
  · rintro γ' i hf hi
    generalize hQ' : kIt _ _ _ _ _ = Q'
    unfold ir_utfPut_l1
    have hd : decide ((i : Int) < 4) = true := by rcases hi with h | h | h | h <;> simp <;> omega
    have hx : List.take 4 (List.drop (i * 4) szsAV) = [.int .i64 ((i + 1 : Nat) : Int), .int .i64 (szMost i : Int), .int .u8 (szMark i : Int), .int .u8 (szRest i : Int)] := by
      rcases hi with rfl | ⟨rfl, _⟩ | ⟨rfl, _⟩ | ⟨rfl, _⟩ <;> rfl
    have hl : 4 ≤ (List.drop (i * 4) szsAV).length := by
      rcases hi with rfl | ⟨rfl, _⟩ | ⟨rfl, _⟩ | ⟨rfl, _⟩ <;> decide
    simp +contextual (maxSteps := 1000000) only [hd, Int.toNat_natCast, hx, hl, go_sem, reduceCtorEq, ↓reduceIte, Nat.reduceAdd, Nat.reduceEqDiff]
    refine ⟨⟨by omega, by rcases hi with h | h | h | h <;> omega⟩, ?_⟩
    refine kCond_split (fun hg => ?_) (fun hg => ?_)
    · simp +contextual (maxSteps := 1000000) only [go_sem, reduceCtorEq, ↓reduceIte, Nat.reduceAdd, Nat.reduceEqDiff]
      rw [← hQ']
      simp only [w_kIt_n]
      have hg : szMost i < n := by simpa using hg
      refine ⟨0, i + 1, Wk.perm ?_ (fun p hp => by cases hp), ?_, by rcases hi with h | h | h | h <;> omega⟩
      · repeat' first | exact AVle.refl _ _ | exact trivial | refine And.intro ?_ ?_ | exact AVle.int (by simp only [IntKind.wrap_i64]; omega)
      · rcases hi with rfl | ⟨rfl, h⟩ | ⟨rfl, h⟩ | ⟨rfl, h⟩ <;> simp only [szMost, List.getD_cons_zero, List.getD_cons_succ] at hg <;> omega
    · have hle : n ≤ szMost i := by simpa using hg
      have hi3 : i ≤ 3 := by rcases hi with h | h | h | h <;> omega
      have hz : (List.replicate ((i + 1 : Nat) : Int).toNat [AV.int .u8 0]).flatten = cellsB (List.replicate (i + 1) 0) := by
        rw [Int.toNat_natCast, cellsB, List.map_replicate, List.flatten_replicate_singleton]; rfl
      simp +contextual (maxSteps := 1000000) only [hz, go_sem, reduceCtorEq, ↓reduceIte, Nat.reduceAdd, Nat.reduceEqDiff]
      refine ⟨⟨by omega, by omega⟩, ?_⟩
      refine kLoop_ix (fun j : Nat => ⟨lf [(0, .int .i64 ((n / 64 ^ j : Nat) : Int)), (4, .ptr (γ', 2, 0) 0), (5, .ms (γ', 10, 0) 1 (i + 1)), (6, .int .i64 ((i : Int) - (j : Int)))], [((γ', 10, 0), .cells (cellsB (List.replicate (i + 1 - j) 0 ++ tailB n j))), ((γ', 2, 0), .cells [.int .i64 ((i + 1 : Nat) : Int), .int .i64 (szMost i : Int), .int .u8 (szMark i : Int), .int .u8 (szRest i : Int)])], fun x => x ∈ []⟩) (fun j => j ≤ i) (fun j => i - j) 0 0 ?_ (Nat.zero_le _) ?_
      · refine Wk.perm ?_ (fun p hp => by simpa [tailB] using hp)
        simp only [lfOK, upd]
        repeat' first | exact AVle.refl _ _ | exact trivial | refine And.intro ?_ ?_ | exact AVle.int (by simp only [IntKind.wrap_i64, Nat.pow_zero, Nat.div_one] <;> omega)
      · rintro γ'' j hf2 hj
        generalize hQ2 : kIt _ _ _ _ _ = Q2
        unfold ir_utfPut_l0
        by_cases hij : j < i
        · have hd : decide ((i : Int) - (j : Int) > 0) = true := by simp; omega
          have hm1 : bits .and .i64 ((n / 64 ^ j : Nat) : Int) 63 = ((n / 64 ^ j % 64 : Nat) : Int) := and63 (Nat.lt_of_le_of_lt (Nat.div_le_self _ _) (by omega))
          have hw : IntKind.u8.wrap ((n / 64 ^ j % 64 : Nat) : Int) = ((n / 64 ^ j % 64 : Nat) : Int) := by rw [IntKind.wrap_u8]; omega
          have hor := or_tail (b := n / 64 ^ j % 64) (by omega)
          have he : ((i : Int) - (j : Int)).toNat = i - j := by omega
          have hc : List.take (i - j) (cellsB (List.replicate (i + 1 - j) 0 ++ tailB n j)) ++ [AV.int .u8 ((128 + n / 64 ^ j % 64 : Nat) : Int)] ++ List.drop (i - j + 1) (cellsB (List.replicate (i + 1 - j) 0 ++ tailB n j)) = cellsB (List.replicate (i - j) 0 ++ tailB n (j + 1)) := by
            rw [show i + 1 - j = i - j + 1 by omega]; exact cells_set
          simp +contextual (maxSteps := 1000000) only [hd, hm1, hw, hor, he, hc, Nat.mul_one, cellsB_len, sh6, go_sem, reduceCtorEq, ↓reduceIte, Nat.reduceAdd, Nat.reduceEqDiff]
          refine ⟨⟨by omega, by omega⟩, by simp [tailB_len] <;> omega, ?_⟩
          rw [← hQ2]
          simp only [w_kIt_n]
          refine ⟨0, j + 1, Wk.perm ?_ (fun p hp => ?_), by omega, by omega⟩
          · repeat' first | exact AVle.refl _ _ | exact trivial | refine And.intro ?_ ?_ | exact AVle.int (by simp only [IntKind.wrap_i64]; omega)
          · rwa [show i + 1 - (j + 1) = i - j by omega] at hp
        · have hd : decide ((i : Int) - (j : Int) > 0) = false := by simp; omega
          have hji : j = i := by omega
          subst hji
          obtain ⟨hk1, hk2⟩ := mark_or hle hi
          have hc : AV.int .u8 ((szMark j + n / 64 ^ j : Nat) : Int) :: List.drop 1 (cellsB (List.replicate (j + 1 - j) 0 ++ tailB n j)) = cellsB (putN n) := by
            rw [show j + 1 - j = 0 + 1 by omega, putN_eq hle hi]
            simpa using cells_set (k := 0) (t := tailB n j) (x := szMark j + n / 64 ^ j)
          simp +contextual (maxSteps := 1000000) only [hd, go_sem, reduceCtorEq, ↓reduceIte, Nat.reduceAdd, Nat.reduceEqDiff]
          rw [← hQ2]
          simp +contextual (maxSteps := 1000000) only [hk1, hk2, hc, cellsB_len, go_sem, reduceCtorEq, ↓reduceIte, Nat.reduceAdd, Nat.reduceEqDiff, Nat.reduceMul, Int.reduceLE, Int.reduceToNat]
          refine ⟨by omega, by simp [tailB_len] <;> omega, ?_⟩
          rw [← hQ']
          simp only [w_kIt_r, w_kBlk_r, w_kSeq_r]
          rw [← hQ]
          have hpu : putU (n : Int) = (putN n).map UInt8.ofNat := by rw [putU, if_pos hcp, Int.toNat_natCast]
          have hlen : (putN n).length = j + 1 := by rw [putN_eq hle hi]; simp [tailB_len]
          refine ⟨trivial, .inr ⟨1, bytesAV (putU n), rfl, 2, (γ', 10, 0), rfl, ?_, hf.1, ?_, ?_, ?_, by omega, ?_⟩⟩
          · show AV.ms _ 1 (j + 1) = _
            rw [bytesAV_length', hpu, List.length_map, hlen]
          · rw [hpu, bytes_cells (putN_lt h1)]; exact List.mem_cons_self
          · rw [hpu, bytes_cells (putN_lt h1)]; exact cellsB_closed _
          · intro x hx
            obtain ⟨c, _, rfl⟩ := List.mem_map.1 hx
            rfl
          · rw [bytesAV_length', hpu, List.length_map, hlen]
            simp only [maxLen]; omega
end Go.Proofs.YtjankibepgnbfaaGreatDoor

namespace Go.Proofs.YtjankibepgnbfaaGreatDoor
open Go Go.Ab

theorem bb_get {l : List UInt8} {i : Nat} (h : i < l.length) : (bytesAV l).getD i [] = [.int .u8 (l[i].toNat : Int)] := by
  rw [List.getD_eq_getElem?_getD, bytesAV, List.getElem?_map, List.getElem?_eq_getElem h]; rfl
theorem bb_un (l : List UInt8) : (bytesAV l).map unbyte = l := by
  rw [bytesAV, List.map_map]
  have : (unbyte ∘ fun c : UInt8 => [AV.int .u8 (c.toNat : Int)]) = _root_.id := by funext c; simp [unbyte]
  rw [this, List.map_id]
theorem bb_is (l : List UInt8) : (∀ r ∈ bytesAV l, isByte r) = True := by
  rw [eq_iff_iff, iff_true]
  intro r hr
  obtain ⟨c, _, rfl⟩ := List.mem_map.1 hr
  rw [isByte_c]; trivial
theorem bytesAV_cons (c : UInt8) (l : List UInt8) : bytesAV (c :: l) = [.int .u8 (c.toNat : Int)] :: bytesAV l := rfl
theorem bytesAV_take (n : Nat) (l : List UInt8) : (bytesAV l).take n = bytesAV (l.take n) := by simp [bytesAV, List.map_take]
theorem bytesAV_drop (n : Nat) (l : List UInt8) : (bytesAV l).drop n = bytesAV (l.drop n) := by simp [bytesAV, List.map_drop]
theorem CallP.peek {P : Program} {Gl : Gh → Prop} {k : FuncId} {args : List AV} {H H0 : Hp} {T : Tk} {f : Nat → Nm} {K : AV → Hp → Tk → Prop} {r : AV} (h : FS P Gl k args H0 [] r H0 []) (hr : ∀ f, Ab.rn f r = r) (hH : ∀ p ∈ H0, p ∈ H) (hK : ∀ H', K r H' T) : CallP P Gl k args H T f K := by
  refine .inl ⟨H0, [], _, h, hH, by simp, ?_⟩
  rintro r' H1 T1 ⟨rfl, rfl, rfl⟩
  refine ⟨_, T, fun p hp => hp, fun s hs => .inr ⟨hs, by simp⟩, ?_⟩
  rw [hr]
  exact hK _
theorem Rd.of {H : Hp} (h : ∀ p ∈ H, 1 ≤ p.1.1 ∧ ∃ xs : List AV, p.2 = .cells xs ∧ xs.all AV.flat = true) : Rd H := by
  refine ⟨fun f => ?_, fun p hp => ?_⟩
  · unfold rnH
    rw [List.map_congr_left (g := id), List.map_id]
    intro p hp
    obtain ⟨h1, xs, h2, h3⟩ := h p hp
    obtain ⟨n, b⟩ := p
    simp only at h1 h2
    subst h2
    simp only [rnN, rnHB, id_eq, flatL_rn h3]
    rw [if_neg (by omega)]
  · obtain ⟨h1, xs, h2, h3⟩ := h p hp
    refine ⟨?_, ?_⟩
    · unfold nmOK
      rw [if_neg (by omega)]
      exact List.mem_map.2 ⟨p, hp, rfl⟩
    · rw [h2]; exact flatL_ok h3
end Go.Proofs.YtjankibepgnbfaaGreatDoor

namespace Go.Proofs.YtjankibepgnbfaaGreatDoor
open Go Go.Ab
def ir_slicesEqualbytebyte : ICode :=
 (.seq
 (.reg [qA 4 (.mov (qB false))] (some [0,1]))
 (.seq
 (.seq
 (.reg [qM 6 0,
 qA 7 (.len (.t 6)),
 qM 8 1,
 qA 9 (.len (.t 8)),
 qA 10 (.bin .neq .none (.t 7) (.t 9))] (some [0,1,10]))
 (.cond (.t 10)
 (.seq
 (.reg [qA 4 (.mov (qB false))] (some [4]))
 .ret)
 .skip))
 (.seq
 (.seq
 (.reg [qM 11 0,
 qA 12 (.len (.t 11)),
 qA 13 (.mov (qI 0))] (some [0,1,12,13]))
 (.blk 0
 (.loop
 (.seq
 (.reg [qA 14 (.bin .lss .none (.t 13) (.t 12))] (some [0,1,12,13,14]))
 (.seq
 (.cond (.t 14)
 .skip
 (.exit 0))
 (.seq
 (.blk 1
 (.seq
 (.reg [qM 15 13,
 qM 5 15] (some [0,1,5,12,13]))
 (.seq
 (.drw [⟨qM 16 0, []⟩,
 ⟨qM 17 5, []⟩,
 ⟨qA 18 (.ia 1 (.t 16) (.t 17)), [0,1]⟩,
 ⟨qL 19 18, [2]⟩,
 ⟨qM 20 1, []⟩,
 ⟨qM 21 5, []⟩,
 ⟨qA 22 (.ia 1 (.t 20) (.t 21)), [4,5]⟩,
 ⟨qL 23 22, [6]⟩,
 ⟨qA 24 (.bin .neq .none (.t 19) (.t 23)), [3,7]⟩]
 [] (some [0,1,12,13,24]))
 (.cond (.t 24)
 (.seq
 (.reg [qA 4 (.mov (qB false))] (some [4]))
 .ret)
 .skip))))
 (.reg [qA 25 (.bin .add .none (.t 13) (qI 1)),
 qM 13 25] (some [0,1,12,13]))))))))
 (.seq
 (.reg [qA 4 (.mov (qB true))] (some [4]))
 .ret))))
theorem is_slicesEqualbytebyte : IrOf Tryz.prog 187 26 ir_slicesEqualbytebyte [.t 4] := ⟨_, Tryz.func187, rfl, by kernel_rfl, by kernel_rfl, by kernel_rfl⟩

/- clavier/utf.Take -/
def ir_utfTake_l0 : ICode :=
 (.seq
 (.reg [qA 42 (.bin .lss .none (.t 41) (.t 40))] (some [0,5,6,9,10,39,40,41,42]))
 (.seq
 (.cond (.t 42)
 .skip
 (.exit 2))
 (.seq
 (.blk 3
 (.seq
 (.reg [qA 43 (.ia 1 (.t 39) (.t 41)),
 qL 44 43,
 qM 8 44] (some [0,5,6,8,9,10,39,40,41]))
 (.reg [qM 45 6,
 qA 46 (.bin .shl .none (.t 45) (.c (.int .u64 6))),
 qM 47 8,
 qA 48 (.bin .and .none (.t 47) (.c (.int .u8 63))),
 qA 49 (.cvi .i64 (.t 48)),
 qA 50 (.bin .or .none (.t 46) (.t 49)),
 qM 6 50] (some [0,5,6,9,10,39,40,41]))))
 (.reg [qA 51 (.bin .add .none (.t 41) (qI 1)),
 qM 41 51] (some [0,5,6,9,10,39,40,41])))))
def ir_utfTake_l1 : ICode :=
 (.seq
 (.reg [qA 11 (.bin .lss .none (.t 10) (qI 4))] (some [0,9,10,11]))
 (.seq
 (.cond (.t 11)
 .skip
 (.exit 0))
 (.seq
 (.blk 1
 (.seq
 (.reg [qA 12 (.ixa 4 4 (some 4) (.t 9) (.t 10)),
 qA 5 (.box 182 (.c (.agg [(.int .i64 0), (.int .i64 0), (.int .u8 0), (.int .u8 0)]))),
 qN (.st 4 (.t 5) (.t 12))] (some [0,5,9,10]))
 (.seq
 (.seq
 (.drw [⟨qM 13 0, []⟩,
 ⟨qA 14 (.len (.t 13)), [0]⟩,
 ⟨qF 15 0 5, []⟩,
 ⟨qL 16 15, [2]⟩,
 ⟨qA 17 (.bin .lss .none (.t 14) (.t 16)), [1,3]⟩,
 ⟨qM 18 17, [4]⟩,
 ⟨qG 19 18 false (.mov (.t 0)), [5]⟩,
 ⟨qG 20 18 false (.ia 1 (.t 19) (qI 0)), [6,5]⟩,
 ⟨qG 21 18 false (.ld none (.t 20)), [7,5]⟩,
 ⟨qG 22 18 false (.fa 3 (.t 5)), [5]⟩,
 ⟨qG 23 18 false (.ld none (.t 22)), [9,5]⟩,
 ⟨qG 24 18 false (.bin .andNot .none (.t 21) (.t 23)), [8,10,5]⟩,
 ⟨qG 25 18 false (.fa 2 (.t 5)), [5]⟩,
 ⟨qG 26 18 false (.ld none (.t 25)), [12,5]⟩,
 ⟨qG 27 18 false (.bin .neq .none (.t 24) (.t 26)), [11,13,5]⟩,
 ⟨qA 28 (.pick (.t 18) (qB true) (.t 27)), [5,14]⟩]
 [] (some [0,5,9,10,28]))
 (.cond (.t 28)
 (.exit 1)
 .skip))
 (.seq
 (.drw [⟨qM 29 0, []⟩,
 ⟨qA 30 (.ia 1 (.t 29) (qI 0)), [0]⟩,
 ⟨qL 31 30, [1]⟩,
 ⟨qF 32 3 5, []⟩,
 ⟨qL 33 32, [3]⟩,
 ⟨qA 34 (.bin .and .none (.t 31) (.t 33)), [2,4]⟩,
 ⟨qA 35 (.cvi .i64 (.t 34)), [5]⟩]
 [qM 6 35] (some [0,5,6,9,10]))
 (.seq
 (.seq
 (.reg [qM 36 0,
 qF 37 0 5,
 qL 38 37,
 qA 39 (.sll 1 (.t 36) (some (qI 1)) (some (.t 38)) none),
 qA 40 (.len (.t 39)),
 qA 41 (.mov (qI 0))] (some [0,5,6,9,10,39,40,41]))
 (.blk 2
 (.loop
 ir_utfTake_l0)))
 (.seq
 (.drw [⟨qM 52 6, []⟩,
 ⟨qA 53 (.call (qC 111) [(.t 52)]), [0]⟩,
 ⟨qM 54 0, []⟩,
 ⟨qF 55 0 5, []⟩,
 ⟨qL 56 55, [3]⟩,
 ⟨qA 57 (.sll 1 (.t 54) none (some (.t 56)) none), [2,4]⟩,
 ⟨qA 58 (.call (qC 187) [(.t 53), (.t 57)]), [1,5,1]⟩]
 [] (some [0,5,6,9,10,58]))
 (.cond (.t 58)
 (.seq
 (.drw [⟨qM 59 6, []⟩,
 ⟨qF 60 0 5, []⟩,
 ⟨qL 61 60, [1]⟩,
 ⟨qM 2 59, [0,0]⟩]
 [qM 3 61] (some [2,3]))
 .ret)
 .skip)))))))
 (.reg [qA 62 (.bin .add .none (.t 10) (qI 1)),
 qM 10 62] (some [0,9,10])))))
def ir_utfTake : ICode :=
 (.seq
 (.reg [qA 2 (.mov (qI 0)),
 qA 3 (.mov (qI 0))] (some [0]))
 (.seq
 (.seq
 (.reg [qA 9 (.call (qC 157) []),
 qA 10 (.mov (qI 0))] (some [0,9,10]))
 (.blk 0
 (.loop
 ir_utfTake_l1)))
 (.seq
 (.reg [qA 2 (.mov (qI 0)),
 qA 3 (.mov (qI 0))] (some [2,3]))
 .ret)))
theorem is_utfTake : IrOf Tryz.prog 159 63 ir_utfTake [.t 2, .t 3] := ⟨_, Tryz.func159, rfl, by kernel_rfl, by kernel_rfl, by kernel_rfl⟩

/- clavier/clavierref02.Take -/
def ir_clavierref02Take_l0 : ICode :=
 (.seq
 (.seq
 (.reg [qM 6 4,
 qA 7 (.bin .leq .none (.t 6) (qI 4)),
 qM 8 7,
 qG 9 8 true (.mov (.t 4)),
 qG 10 8 true (.mov (.t 0)),
 qG 11 8 true (.len (.t 10)),
 qG 12 8 true (.bin .leq .none (.t 9) (.t 11)),
 qA 13 (.pick (.t 8) (.t 12) (qB false))] (some [0,4,13]))
 (.cond (.t 13)
 .skip
 (.exit 0)))
 (.seq
 (.blk 1
 (.seq
 (.reg [qM 16 0,
 qM 17 4,
 qA 18 (.call (qC 139) [(.t 16), (.t 17)]),
 qM 5 18] (some [0,4,5]))
 (.seq
 (.drw [⟨qM 19 5, []⟩,
 ⟨qA 20 (.call (qC 85) [(.t 19)]), [0]⟩,
 ⟨qA 21 (.len (.t 20)), [1]⟩,
 ⟨qM 22 4, []⟩,
 ⟨qA 23 (.bin .eql .none (.t 21) (.t 22)), [2,3]⟩,
 ⟨qM 24 23, [4,1]⟩,
 ⟨qG 25 24 true (.mov (.t 5)), [5]⟩,
 ⟨qG 26 24 true (.call (qC 85) [(.t 25)]), [6,5,5]⟩,
 ⟨qG 27 24 true (.b2s (.t 26)), [7,5]⟩,
 ⟨qG 28 24 true (.mov (.t 0)), [5]⟩,
 ⟨qG 29 24 true (.mov (.t 4)), [5]⟩,
 ⟨qG 30 24 true (.sll 1 (.t 28) none (some (.t 29)) none), [9,10,5]⟩,
 ⟨qG 31 24 true (.b2s (.t 30)), [11,5]⟩,
 ⟨qG 32 24 true (.bin .eql .none (.t 27) (.t 31)), [8,12,5]⟩,
 ⟨qA 33 (.pick (.t 24) (.t 32) (qB false)), [5,13]⟩]
 [] (some [0,4,5,33]))
 (.cond (.t 33)
 (.seq
 (.reg [qM 34 5,
 qM 35 4,
 qM 2 34,
 qM 3 35] (some [2,3]))
 .ret)
 .skip))))
 (.reg [qM 14 4,
 qA 15 (.bin .add .none (.t 14) (qI 1)),
 qM 4 15] (some [0,4]))))
def ir_clavierref02Take : ICode :=
 (.seq
 (.reg [qA 2 (.mov (qI 0)),
 qA 3 (.mov (qI 0))] (some [0]))
 (.seq
 (.seq
 (.reg [qA 4 (.mov (qI 1))] (some [0,4]))
 (.blk 0
 (.loop
 ir_clavierref02Take_l0)))
 (.seq
 (.reg [qA 2 (.mov (qI 0)),
 qA 3 (.mov (qI 0))] (some [2,3]))
 .ret)))
theorem is_clavierref02Take : IrOf Tryz.prog 95 36 ir_clavierref02Take [.t 2, .t 3] := ⟨_, Tryz.func95, rfl, by kernel_rfl, by kernel_rfl, by kernel_rfl⟩

def ir_clavierref02guess : ICode :=
 (.seq
 (.reg [qA 4 (.mov (qI 0))] (some [0,1]))
 (.seq
 (.seq
 (.reg [qM 5 1] (some [0,5]))
 (.blk 0
 (.seq
 (.reg [qA 7 (.bin .eql .none (.t 5) (qI 1)),
 qM 6 7] (some [0,5,6]))
 (.cond (.t 6)
 (.seq
 (.reg [qM 8 0,
 qA 9 (.ia 1 (.t 8) (qI 0)),
 qL 10 9,
 qA 11 (.cvi .i64 (.t 10)),
 qM 4 11] (some [4]))
 .ret)
 (.seq
 (.reg [qA 13 (.bin .eql .none (.t 5) (qI 2)),
 qM 12 13] (some [0,5,12]))
 (.cond (.t 12)
 (.seq
 (.drw [⟨qM 14 0, []⟩,
 ⟨qA 15 (.ia 1 (.t 14) (qI 0)), [0]⟩,
 ⟨qL 16 15, [1]⟩,
 ⟨qA 17 (.bin .sub .none (.t 16) (.c (.int .u8 192))), [2]⟩,
 ⟨qA 18 (.cvi .i64 (.t 17)), [3]⟩,
 ⟨qA 19 (.bin .mul .none (.t 18) (qI 64)), [4]⟩,
 ⟨qM 20 0, []⟩,
 ⟨qA 21 (.ia 1 (.t 20) (qI 1)), [6]⟩,
 ⟨qL 22 21, [7]⟩,
 ⟨qA 23 (.bin .sub .none (.t 22) (.c (.int .u8 128))), [8]⟩,
 ⟨qA 24 (.cvi .i64 (.t 23)), [9]⟩,
 ⟨qA 25 (.bin .add .none (.t 19) (.t 24)), [5,10]⟩]
 [qM 4 25] (some [4]))
 .ret)
 (.seq
 (.reg [qA 27 (.bin .eql .none (.t 5) (qI 3)),
 qM 26 27] (some [0,26]))
 (.cond (.t 26)
 (.seq
 (.drw [⟨qM 28 0, []⟩,
 ⟨qA 29 (.ia 1 (.t 28) (qI 0)), [0]⟩,
 ⟨qL 30 29, [1]⟩,
 ⟨qA 31 (.bin .sub .none (.t 30) (.c (.int .u8 224))), [2]⟩,
 ⟨qA 32 (.cvi .i64 (.t 31)), [3]⟩,
 ⟨qA 33 (.bin .mul .none (.t 32) (qI 4096)), [4]⟩,
 ⟨qM 34 0, []⟩,
 ⟨qA 35 (.ia 1 (.t 34) (qI 1)), [6]⟩,
 ⟨qL 36 35, [7]⟩,
 ⟨qA 37 (.bin .sub .none (.t 36) (.c (.int .u8 128))), [8]⟩,
 ⟨qA 38 (.cvi .i64 (.t 37)), [9]⟩,
 ⟨qA 39 (.bin .mul .none (.t 38) (qI 64)), [10]⟩,
 ⟨qA 40 (.bin .add .none (.t 33) (.t 39)), [5,11]⟩,
 ⟨qM 41 0, []⟩,
 ⟨qA 42 (.ia 1 (.t 41) (qI 2)), [13]⟩,
 ⟨qL 43 42, [14]⟩,
 ⟨qA 44 (.bin .sub .none (.t 43) (.c (.int .u8 128))), [15]⟩,
 ⟨qA 45 (.cvi .i64 (.t 44)), [16]⟩,
 ⟨qA 46 (.bin .add .none (.t 40) (.t 45)), [12,17]⟩]
 [qM 4 46] (some [4]))
 .ret)
 .skip))))))))
 (.seq
 (.drw [⟨qM 47 0, []⟩,
 ⟨qA 48 (.ia 1 (.t 47) (qI 0)), [0]⟩,
 ⟨qL 49 48, [1]⟩,
 ⟨qA 50 (.bin .sub .none (.t 49) (.c (.int .u8 240))), [2]⟩,
 ⟨qA 51 (.cvi .i64 (.t 50)), [3]⟩,
 ⟨qA 52 (.bin .mul .none (.t 51) (qI 262144)), [4]⟩,
 ⟨qM 53 0, []⟩,
 ⟨qA 54 (.ia 1 (.t 53) (qI 1)), [6]⟩,
 ⟨qL 55 54, [7]⟩,
 ⟨qA 56 (.bin .sub .none (.t 55) (.c (.int .u8 128))), [8]⟩,
 ⟨qA 57 (.cvi .i64 (.t 56)), [9]⟩,
 ⟨qA 58 (.bin .mul .none (.t 57) (qI 4096)), [10]⟩,
 ⟨qA 59 (.bin .add .none (.t 52) (.t 58)), [5,11]⟩,
 ⟨qM 60 0, []⟩,
 ⟨qA 61 (.ia 1 (.t 60) (qI 2)), [13]⟩,
 ⟨qL 62 61, [14]⟩,
 ⟨qA 63 (.bin .sub .none (.t 62) (.c (.int .u8 128))), [15]⟩,
 ⟨qA 64 (.cvi .i64 (.t 63)), [16]⟩,
 ⟨qA 65 (.bin .mul .none (.t 64) (qI 64)), [17]⟩,
 ⟨qA 66 (.bin .add .none (.t 59) (.t 65)), [12,18]⟩,
 ⟨qM 67 0, []⟩,
 ⟨qA 68 (.ia 1 (.t 67) (qI 3)), [20]⟩,
 ⟨qL 69 68, [21]⟩,
 ⟨qA 70 (.bin .sub .none (.t 69) (.c (.int .u8 128))), [22]⟩,
 ⟨qA 71 (.cvi .i64 (.t 70)), [23]⟩,
 ⟨qA 72 (.bin .add .none (.t 66) (.t 71)), [19,24]⟩]
 [qM 4 72] (some [4]))
 .ret)))
theorem is_clavierref02guess : IrOf Tryz.prog 139 73 ir_clavierref02guess [.t 4] := ⟨_, Tryz.func139, rfl, by kernel_rfl, by kernel_rfl, by kernel_rfl⟩

theorem fs_EqualBytes {Gl : Gh → Prop} (hst : Stays Gl) {a b : List UInt8} {ta tb : Option Nm} (ha : a.length < 9223372036854775808) (hb : b.length < 9223372036854775808) : FS Tryz.prog Gl 187 [.sl ta 1 (bytesAV a), .sl tb 1 (bytesAV b)] [] [] (.bool (decide (a = b))) [] [] := by
  refine FS.of hm hst is_slicesEqualbytebyte (by simp) fun γ hγ hfr => ?_
  (generalize hQ : (fun (ex : Ex) (_ _ : Nat) (s : St) => _) = Q; unfold ir_slicesEqualbytebyte)
  simp +contextual (maxSteps := 1000000) only [bytesAV_length, go_sem, reduceCtorEq, ↓reduceIte, Nat.reduceAdd, Nat.reduceEqDiff]
  refine kCond_split (fun h => ?_) (fun h => ?_)
  · simp +contextual (maxSteps := 1000000) only [go_sem, ↓reduceIte, Nat.reduceAdd]
    rw [← hQ]
    have : decide (a = b) = false := by
      simp only [bne_iff_ne, ne_eq] at h
      rw [decide_eq_false_iff_not]; intro e; subst e; simp at h
    rw [this]
    exact ⟨trivial, Ret.flat rfl rfl⟩
  · have hl : a.length = b.length := by simp at h; omega
    simp +contextual (maxSteps := 1000000) only [bytesAV_length, go_sem, reduceCtorEq, ↓reduceIte, Nat.reduceAdd, Nat.reduceEqDiff]
    refine kLoop_ix (fun i : Nat => ⟨lf [(0, .sl ta 1 (bytesAV a)), (1, .sl tb 1 (bytesAV b)), (12, .int .i64 a.length), (13, .int .i64 i)], [], fun x => x ∈ []⟩) (fun i => i ≤ a.length ∧ a.take i = b.take i) (fun i => a.length - i) 0 0 (Wk.same ?_) ?_ ?_
    · (simp only [lfOK, upd, initF]; repeat' first | exact AVle.refl _ _ | exact trivial | refine And.intro ?_ ?_ | exact AVle.int (by simp only [IntKind.wrap_i64]; omega))
    · simp
    · rintro γ' i hf ⟨hi, hinv⟩
      generalize hQ' : kIt _ _ _ _ _ = Q'
      by_cases hlt : i < a.length
      · have hd : decide ((i : Int) < (a.length : Int)) = true := by simp; omega
        have g1 : (bytesAV a).getD (i : Int).toNat [] = [.int .u8 (a[i].toNat : Int)] := by rw [Int.toNat_natCast]; exact bb_get hlt
        have g2 : (bytesAV b).getD (i : Int).toNat [] = [.int .u8 ((b[i]'(by omega)).toNat : Int)] := by rw [Int.toNat_natCast]; exact bb_get (by omega)
        simp +contextual (maxSteps := 1000000) only [bytesAV_length, hd, g1, g2, go_sem, reduceCtorEq, ↓reduceIte, Nat.reduceAdd, Nat.reduceEqDiff, Nat.reduceBEq]
        refine ⟨by omega, by omega, kCond_split (fun h1 => ?_) (fun h1 => ?_)⟩
        · simp +contextual (maxSteps := 1000000) only [go_sem, ↓reduceIte, Nat.reduceAdd]
          rw [← hQ']
          simp only [w_kIt_r, w_kBlk_r, w_kSeq_r]
          have e : decide (a = b) = false := by
            simp only [bne_iff_ne, ne_eq] at h1
            rw [decide_eq_false_iff_not]; intro e; subst e; exact h1 rfl
          rw [← hQ, e]
          exact ⟨trivial, Ret.flat rfl rfl⟩
        · simp +contextual (maxSteps := 1000000) only [go_sem, reduceCtorEq, ↓reduceIte, Nat.reduceAdd, Nat.reduceEqDiff]
          rw [← hQ']
          simp only [w_kIt_n]
          refine ⟨0, i + 1, Wk.same ?_, ⟨by omega, ?_⟩, by omega⟩
          · repeat' first | exact AVle.refl _ _ | exact trivial | refine And.intro ?_ ?_ | exact AVle.int (by simp only [IntKind.wrap_i64]; omega)
          · have h2 : a[i] = b[i]'(by omega) := by
              have h3 : (a[i].toNat : Int) = ((b[i]'(by omega)).toNat : Int) := by simpa using h1
              exact UInt8.toNat_inj.1 (by omega)
            rw [List.take_add_one, List.take_add_one, hinv, List.getElem?_eq_getElem hlt, List.getElem?_eq_getElem (show i < b.length by omega), h2]
      · have hd : decide ((i : Int) < (a.length : Int)) = false := by simp; omega
        simp +contextual (maxSteps := 1000000) only [bytesAV_length, hd, go_sem, reduceCtorEq, ↓reduceIte, Nat.reduceAdd, Nat.reduceEqDiff]
        rw [← hQ']
        simp only [w_kIt_e, w_kBlk_e, ↓reduceIte]
        simp +contextual (maxSteps := 1000000) only [go_sem, ↓reduceIte, Nat.reduceAdd]
        have e : decide (a = b) = true := by
          rw [decide_eq_true_eq]
          have h3 := hinv
          rw [List.take_of_length_le (by omega), List.take_of_length_le (by omega)] at h3
          exact h3
        rw [← hQ, e]
        exact ⟨trivial, Ret.flat rfl rfl⟩

def gueZ : List UInt8 → Int
  | [a] => a.toNat
  | [a, b] => IntKind.u8.wrap (a.toNat - 192) * 64 + IntKind.u8.wrap (b.toNat - 128)
  | [a, b, c] => IntKind.u8.wrap (a.toNat - 224) * 4096 + IntKind.u8.wrap (b.toNat - 128) * 64 + IntKind.u8.wrap (c.toNat - 128)
  | [a, b, c, d] => IntKind.u8.wrap (a.toNat - 240) * 262144 + IntKind.u8.wrap (b.toNat - 128) * 4096 + IntKind.u8.wrap (c.toNat - 128) * 64 + IntKind.u8.wrap (d.toNat - 128)
  | _ => 0
theorem gueZ_put {r : Int} (h : isCP r = true) : gueZ (putU r) = r := by
  obtain ⟨n, rfl, h1, h2⟩ := isCP_spec h
  rw [putU, if_pos h, Int.toNat_natCast]
  unfold putN
  split
  · simp only [List.map_cons, List.map_nil, gueZ, UInt8.toNat_ofNat']; omega
  · split
    · simp only [List.map_cons, List.map_nil, gueZ, UInt8.toNat_ofNat', IntKind.wrap_u8]; omega
    · split
      · simp only [List.map_cons, List.map_nil, gueZ, UInt8.toNat_ofNat', IntKind.wrap_u8]; omega
      · simp only [List.map_cons, List.map_nil, gueZ, UInt8.toNat_ofNat', IntKind.wrap_u8]; omega
theorem u8w (x : Int) : 0 ≤ IntKind.u8.wrap x ∧ IntKind.u8.wrap x < 256 := by rw [IntKind.wrap_u8]; omega
set_option maxHeartbeats 2000000 in
theorem fs_guess {Gl : Gh → Prop} (hst : Stays Gl) {b : List UInt8} {tb : Option Nm} {n : Nat} (h1 : 1 ≤ n) (h4 : n ≤ 4) (hl : n ≤ b.length) : FS Tryz.prog Gl 139 [.sl tb 1 (bytesAV b), .int .i64 (n : Int)] [] [] (.int .i64 (gueZ (b.take n))) [] [] := by
  refine FS.of hm hst is_clavierref02guess (by simp) fun γ hγ hfr => ?_
  (generalize hQ : (fun (ex : Ex) (_ _ : Nat) (s : St) => _) = Q; unfold ir_clavierref02guess)
  obtain ⟨a, b, rfl⟩ : ∃ a b', b = a :: b' := by cases b with
    | nil => simp at hl; omega
    | cons a b => exact ⟨a, b, rfl⟩
  have w0 := a.toNat_lt
  have key : n = 1 ∨ n = 2 ∨ n = 3 ∨ n = 4 := by omega
  rcases key with rfl | rfl | rfl | rfl
  · simp +contextual (maxSteps := 1000000) only [bytesAV_cons, go_sem, reduceCtorEq, ↓reduceIte, Nat.reduceAdd, Nat.reduceEqDiff, Int.reduceLE, Int.reduceToNat]
    refine ⟨by omega, ?_⟩
    rw [← hQ]
    refine ⟨trivial, Ret.flat (show some (AV.int .i64 _) = some (AV.int .i64 _) from congrArg (fun z => some (AV.int .i64 z)) ?_) rfl⟩
    simp only [List.take_succ_cons, List.take_zero, gueZ, IntKind.wrap_i64]
    omega
  · obtain ⟨c, b, rfl⟩ : ∃ a b', b = a :: b' := by cases b with
      | nil => simp at hl
      | cons a b => exact ⟨a, b, rfl⟩
    simp +contextual (maxSteps := 1000000) only [bytesAV_cons, go_sem, reduceCtorEq, ↓reduceIte, Nat.reduceAdd, Nat.reduceEqDiff, Nat.reduceBEq, Int.reduceBEq, Int.reduceLE, Int.reduceToNat]
    have u0 := u8w ((a.toNat : Int) - 192)
    have u1 := u8w ((c.toNat : Int) - 128)
    refine ⟨by omega, by omega, ?_⟩
    rw [← hQ]
    refine ⟨trivial, Ret.flat (show some (AV.int .i64 _) = some (AV.int .i64 _) from congrArg (fun z => some (AV.int .i64 z)) ?_) rfl⟩
    simp only [List.take_succ_cons, List.take_zero, gueZ, IntKind.wrap_i64]
    omega
  · obtain ⟨c, b, rfl⟩ : ∃ a b', b = a :: b' := by cases b with
      | nil => simp at hl
      | cons a b => exact ⟨a, b, rfl⟩
    obtain ⟨d, b, rfl⟩ : ∃ a b', b = a :: b' := by cases b with
      | nil => simp at hl
      | cons a b => exact ⟨a, b, rfl⟩
    simp +contextual (maxSteps := 1000000) only [bytesAV_cons, go_sem, reduceCtorEq, ↓reduceIte, Nat.reduceAdd, Nat.reduceEqDiff, Nat.reduceBEq, Int.reduceBEq, Int.reduceLE, Int.reduceToNat]
    have u0 := u8w ((a.toNat : Int) - 224)
    have u1 := u8w ((c.toNat : Int) - 128)
    have u2 := u8w ((d.toNat : Int) - 128)
    refine ⟨by omega, by omega, by omega, ?_⟩
    rw [← hQ]
    refine ⟨trivial, Ret.flat (show some (AV.int .i64 _) = some (AV.int .i64 _) from congrArg (fun z => some (AV.int .i64 z)) ?_) rfl⟩
    simp only [List.take_succ_cons, List.take_zero, gueZ, IntKind.wrap_i64]
    omega
  · obtain ⟨c, b, rfl⟩ : ∃ a b', b = a :: b' := by cases b with
      | nil => simp at hl
      | cons a b => exact ⟨a, b, rfl⟩
    obtain ⟨d, b, rfl⟩ : ∃ a b', b = a :: b' := by cases b with
      | nil => simp at hl
      | cons a b => exact ⟨a, b, rfl⟩
    obtain ⟨e, b, rfl⟩ : ∃ a b', b = a :: b' := by cases b with
      | nil => simp at hl
      | cons a b => exact ⟨a, b, rfl⟩
    simp +contextual (maxSteps := 1000000) only [bytesAV_cons, go_sem, reduceCtorEq, ↓reduceIte, Nat.reduceAdd, Nat.reduceEqDiff, Nat.reduceBEq, Int.reduceBEq, Int.reduceLE, Int.reduceToNat]
    have u0 := u8w ((a.toNat : Int) - 240)
    have u1 := u8w ((c.toNat : Int) - 128)
    have u2 := u8w ((d.toNat : Int) - 128)
    have u3 := u8w ((e.toNat : Int) - 128)
    refine ⟨by omega, by omega, by omega, by omega, ?_⟩
    rw [← hQ]
    refine ⟨trivial, Ret.flat (show some (AV.int .i64 _) = some (AV.int .i64 _) from congrArg (fun z => some (AV.int .i64 z)) ?_) rfl⟩
    simp only [List.take_succ_cons, List.take_zero, gueZ, IntKind.wrap_i64]
    omega
theorem takeU_none {b : List UInt8} (h : ∀ m, 1 ≤ m → m ≤ 4 → tryU b m = none) : takeU b = none := by
  simp [takeU, h 1, h 2, h 3, h 4]
theorem takeU_first {b : List UInt8} {n : Nat} {x : Int × Nat} (h : ∀ m, 1 ≤ m → m < n → tryU b m = none) (h1 : 1 ≤ n) (h4 : n ≤ 4) (hx : tryU b n = some x) : takeU b = some x := by
  have key : n = 1 ∨ n = 2 ∨ n = 3 ∨ n = 4 := by omega
  rcases key with rfl | rfl | rfl | rfl
  · simp [takeU, hx]
  · simp [takeU, hx, h 1]
  · simp [takeU, hx, h 1, h 2]
  · simp [takeU, hx, h 1, h 2, h 3]
theorem tryU_long {b : List UInt8} {n : Nat} (h : b.length < n) : tryU b n = none := by
  rw [tryU, if_neg (by omega)]
def takeZ (b : List UInt8) : Int × Int := match takeU b with
  | some (r, n) => (r, (n : Int))
  | none => (0, 0)
theorem try_gue {b : List UInt8} {n : Nat} (h1 : 1 ≤ n) (hl : n ≤ b.length) : tryU b n = if putU (gueZ (b.take n)) = b.take n then some (gueZ (b.take n), n) else none := by
  split
  · rename_i h; exact tryU_some h1 h hl
  · rename_i h
    cases ht : tryU b n with
    | none => rfl
    | some x =>
      obtain ⟨r, m⟩ := x
      obtain ⟨rfl, h2, h3⟩ := tryU_of ht
      have hne : putU r ≠ [] := by rw [h3]; intro e; have := congrArg List.length e; simp only [List.length_take, List.length_nil] at this; omega
      have := gueZ_put (putU_ne.1 hne)
      rw [h3] at this
      rw [this] at h
      exact absurd h3 h
set_option maxHeartbeats 2000000 in
theorem fs_rTakeU {Gl : Gh → Prop} (hst : Stays Gl) {b : List UInt8} {tb : Option Nm} (hb : b.length ≤ maxLen) : FS Tryz.prog Gl 95 [.sl tb 1 (bytesAV b)] [] [] (.tup [.int .i64 (takeZ b).1, .int .i64 (takeZ b).2]) [] [] := by
  refine FS.of hm hst is_clavierref02Take (by simp) fun γ hγ hfr => ?_
  (generalize hQ : (fun (ex : Ex) (_ _ : Nat) (s : St) => _) = Q; unfold ir_clavierref02Take)
  simp +contextual (maxSteps := 1000000) only [go_sem, reduceCtorEq, ↓reduceIte, Nat.reduceAdd]
  refine kLoop_ix (fun i : Nat => ⟨lf [(0, .sl tb 1 (bytesAV b)), (4, .int .i64 ((i + 1 : Nat) : Int))], [], fun x => x ∈ []⟩) (fun i => i ≤ 4 ∧ ∀ m, 1 ≤ m → m ≤ i → tryU b m = none) (fun i => 5 - i) 0 0 ?_ ⟨by omega, fun m h1 h2 => by omega⟩ ?_
  · refine Wk.same ?_
    (simp only [lfOK, upd, initF]; repeat' first | exact AVle.refl _ _ | exact trivial | refine And.intro ?_ ?_ | exact AVle.int (by simp only [IntKind.wrap_i64]; omega))
  · rintro γ' i hf ⟨hi, hn⟩
    generalize hQ' : kIt _ _ _ _ _ = Q'
    unfold ir_clavierref02Take_l0
    by_cases hgo : i + 1 ≤ 4 ∧ i + 1 ≤ b.length
    · have hd : decide (((i + 1 : Nat) : Int) ≤ 4) = true := by simp; omega
      have hd2 : decide (((i + 1 : Nat) : Int) ≤ (b.length : Int)) = true := by simp; omega
      simp +contextual (maxSteps := 1000000) only [hd, hd2, bytesAV_length', go_sem, reduceCtorEq, ↓reduceIte, Nat.reduceAdd, Nat.reduceEqDiff]
      (refine CallP.pure (fs_guess hst (b := b) (tb := tb) (n := i+1) (by omega) hgo.1 hgo.2) (fun _ => rfl) ?_; simp +contextual (maxSteps := 1000000) only [bytesAV_length', go_sem, reduceCtorEq, ↓reduceIte, Nat.reduceAdd, Nat.reduceEqDiff])
      generalize hg : gueZ (List.take (i + 1) b) = g0
      refine DCall.new (fs_rPutU hst) ?_
      have hpl := putU_len g0
      by_cases hL : (putU g0).length = i + 1
      · have hq : (((putU g0).length : Int) == ((i + 1 : Nat) : Int)) = true := by rw [hL]; simp
        simp +contextual (maxSteps := 1000000) only [hq, bytesAV_length', go_sem, reduceCtorEq, ↓reduceIte, Nat.reduceAdd, Nat.reduceEqDiff, Nat.reduceBEq]
        refine DCall.new (fs_rPutU hst) ?_
        have htk : (List.take (i + 1) b).length = i + 1 := by rw [List.length_take]; omega
        by_cases he : putU g0 = List.take (i + 1) b
        · have hde : decide (putU g0 = List.take (i + 1) b) = true := by simp [he]
          simp +contextual (maxSteps := 1000000) only [bb_un, bb_is, bytesAV_take, bytesAV_length', Int.toNat_natCast, hde, go_sem, reduceCtorEq, ↓reduceIte, Nat.reduceAdd, Nat.reduceEqDiff, Nat.reduceBEq, Int.reduceLE, Int.reduceToNat]
          refine ⟨⟨by omega, by omega⟩, ?_⟩
          rw [← hQ']
          simp only [w_kIt_r, w_kBlk_r, w_kSeq_r]
          have ht := takeU_first (n := i + 1) (fun m h1 h2 => hn m h1 (by omega)) (by omega) hgo.1 (x := (g0, i + 1)) (by rw [try_gue (by omega) hgo.2, hg, if_pos he])
          have hz : takeZ b = (g0, ((i + 1 : Nat) : Int)) := by rw [takeZ, ht]
          rw [← hQ, hz]
          exact ⟨trivial, Ret.flat2⟩
        · have hde : decide (putU g0 = List.take (i + 1) b) = false := by simp [he]
          simp +contextual (maxSteps := 1000000) only [bb_un, bb_is, bytesAV_take, bytesAV_length', Int.toNat_natCast, hde, go_sem, reduceCtorEq, ↓reduceIte, Nat.reduceAdd, Nat.reduceEqDiff, Nat.reduceBEq, Int.reduceLE, Int.reduceToNat]
          refine ⟨⟨by omega, by omega⟩, ?_⟩
          rw [← hQ']
          simp only [w_kIt_n]
          refine ⟨0, i + 1, Wk.same ?_, ⟨by omega, fun m h1 h2 => ?_⟩, by omega⟩
          · repeat' first | exact AVle.refl _ _ | exact trivial | refine And.intro ?_ ?_ | exact AVle.int (by simp only [IntKind.wrap_i64]; omega)
          · by_cases hm : m = i + 1
            · subst hm; rw [try_gue (by omega) hgo.2, hg, if_neg he]
            · exact hn m h1 (by omega)
      · have hq : (((putU g0).length : Int) == ((i + 1 : Nat) : Int)) = false := by simp; omega
        simp +contextual (maxSteps := 1000000) only [hq, bytesAV_length', go_sem, reduceCtorEq, ↓reduceIte, Nat.reduceAdd, Nat.reduceEqDiff, Nat.reduceBEq]
        rw [← hQ']
        simp only [w_kIt_n]
        refine ⟨0, i + 1, Wk.same ?_, ⟨by omega, fun m h1 h2 => ?_⟩, by omega⟩
        · repeat' first | exact AVle.refl _ _ | exact trivial | refine And.intro ?_ ?_ | exact AVle.int (by simp only [IntKind.wrap_i64]; omega)
        · by_cases hm : m = i + 1
          · subst hm
            rw [try_gue (by omega) hgo.2, hg, if_neg (fun e => hL (by rw [e, List.length_take]; omega))]
          · exact hn m h1 (by omega)
    · have hz : takeZ b = (0, 0) := by
        rw [takeZ, takeU_none fun m h1 h2 => ?_]
        by_cases hm : m ≤ i
        · exact hn m h1 hm
        · exact tryU_long (by omega)
      by_cases h4 : i + 1 ≤ 4
      · have hd : decide (((i + 1 : Nat) : Int) ≤ 4) = true := by simp; omega
        have hd2 : decide (((i + 1 : Nat) : Int) ≤ (b.length : Int)) = false := by simp; omega
        simp +contextual (maxSteps := 1000000) only [hd, hd2, bytesAV_length', go_sem, reduceCtorEq, ↓reduceIte, Nat.reduceAdd, Nat.reduceEqDiff]
        rw [← hQ']
        simp only [w_kIt_e, w_kBlk_e, ↓reduceIte]
        simp +contextual (maxSteps := 1000000) only [go_sem, ↓reduceIte, Nat.reduceAdd, Nat.reduceEqDiff]
        rw [← hQ, hz]
        exact ⟨trivial, Ret.flat2⟩
      · have hd : decide (((i + 1 : Nat) : Int) ≤ 4) = false := by simp; omega
        simp +contextual (maxSteps := 1000000) only [hd, bytesAV_length', go_sem, reduceCtorEq, ↓reduceIte, Nat.reduceAdd, Nat.reduceEqDiff]
        rw [← hQ']
        simp only [w_kIt_e, w_kBlk_e, ↓reduceIte]
        simp +contextual (maxSteps := 1000000) only [go_sem, ↓reduceIte, Nat.reduceAdd, Nat.reduceEqDiff]
        rw [← hQ, hz]
        exact ⟨trivial, Ret.flat2⟩
/-! ### The program's -/
theorem andN : ∀ i : Fin 4, ∀ c : Fin 256, bits .andNot .u8 ((c.val : Nat) : Int) ((szRest i.val : Nat) : Int) = ((c.val - c.val % (szRest i.val + 1) : Nat) : Int) := by decide +kernel
theorem andR : ∀ i : Fin 4, ∀ c : Fin 256, bits .and .u8 ((c.val : Nat) : Int) ((szRest i.val : Nat) : Int) = ((c.val % (szRest i.val + 1) : Nat) : Int) := by decide +kernel
def decF (i : Nat) (b : List UInt8) : Nat → Nat
  | 0 => (b.getD 0 0).toNat % (szRest i + 1)
  | j + 1 => decF i b j * 64 + (b.getD (j + 1) 0).toNat % 64
theorem decF_all {i : Nat} (hi : i < 4) {b : List UInt8} (hl : i + 1 ≤ b.length) : ((decF i b i : Nat) : Int) = decU (b.take (i + 1)) := by
  have key : i = 0 ∨ i = 1 ∨ i = 2 ∨ i = 3 := by omega
  match b, hl with
  | b0 :: l, hl =>
  rcases key with rfl | rfl | rfl | rfl
  · rfl
  · match l, hl with
    | b1 :: l, hl => rfl
  · match l, hl with
    | b1 :: b2 :: l, hl => rfl
  · match l, hl with
    | b1 :: b2 :: b3 :: l, hl => rfl
theorem try_first {i : Nat} (hi : i < 4) {b : List UInt8} (hl : i + 1 ≤ b.length) (h : (b.getD 0 0).toNat - (b.getD 0 0).toNat % (szRest i + 1) ≠ szMark i) : tryU b (i + 1) = none := by
  cases ht : tryU b (i + 1) with
  | none => rfl
  | some x =>
    obtain ⟨r, m⟩ := x
    obtain ⟨rfl, h2, h3⟩ := tryU_of ht
    have hne : putU r ≠ [] := by rw [h3]; intro e; have := congrArg List.length e; simp only [List.length_take, List.length_nil] at this; omega
    have hcp := putU_ne.1 hne
    obtain ⟨n, rfl, g1, g2⟩ := isCP_spec hcp
    have hlen : (putN n).length = i + 1 := by
      have := congrArg List.length h3
      rw [putU, if_pos hcp, Int.toNat_natCast, List.length_map, List.length_take] at this
      omega
    have h0 : (b.getD 0 0).toNat = (putN n).getD 0 0 := by
      have e := congrArg (fun l : List UInt8 => (l.getD 0 0).toNat) h3
      match b, hl with
      | b0 :: l, hl =>
      simp only [List.take_succ_cons, List.getD_cons_zero] at e ⊢
      rw [← e, putU, if_pos hcp, Int.toNat_natCast]
      have hlt := putN_lt g1
      cases hp : putN n with
      | nil => rw [hp] at hlen; simp at hlen
      | cons x xs =>
        have := hlt x (by rw [hp]; simp)
        simp only [List.map_cons, List.getD_cons_zero, UInt8.toNat_ofNat']
        rw [Nat.mod_eq_of_lt (by omega)]
    exfalso
    apply h
    rw [h0]
    have key : i = 0 ∨ i = 1 ∨ i = 2 ∨ i = 3 := by omega
    unfold putN at hlen ⊢
    split at hlen
    · rename_i hn
      rw [if_pos hn]
      rcases key with rfl | rfl | rfl | rfl <;> simp at hlen
      simp [szRest, szMark]; omega
    · rename_i hn
      rw [if_neg hn]
      split at hlen
      · rename_i hn2
        rw [if_pos hn2]
        rcases key with rfl | rfl | rfl | rfl <;> simp at hlen
        simp [szRest, szMark]; omega
      · rename_i hn2
        rw [if_neg hn2]
        split at hlen
        · rename_i hn3
          rw [if_pos hn3]
          rcases key with rfl | rfl | rfl | rfl <;> simp at hlen
          simp [szRest, szMark]; omega
        · rename_i hn3
          rw [if_neg hn3]
          rcases key with rfl | rfl | rfl | rfl <;> simp at hlen
          simp [szRest, szMark]; omega
end Go.Proofs.YtjankibepgnbfaaGreatDoor

namespace Go.Proofs.YtjankibepgnbfaaGreatDoor
open Go Go.Ab

theorem sh6l {a : Nat} (h : a < 16777216) : shOp .shl .i64 (a : Int) 6 = some (True, .int .i64 ((a * 64 : Nat) : Int)) := by
  show some ((0 : Int) ≤ 6 ∧ (6 : Int) ≤ IntKind.i64.bits, AV.int .i64 (IntKind.i64.wrap ((a : Int) * 2 ^ (6 : Int).toNat))) = _
  have h1 : ((0 : Int) ≤ 6 ∧ (6 : Int) ≤ IntKind.i64.bits) = True := by simp [IntKind.bits]
  have h2 : IntKind.i64.wrap ((a : Int) * 2 ^ (6 : Int).toNat) = ((a * 64 : Nat) : Int) := by
    rw [show (2 : Int) ^ (6 : Int).toNat = 64 from rfl, IntKind.wrap_i64]; omega
  rw [h1, h2]
theorem decF_lt {i : Nat} {b : List UInt8} (hi : i < 4) : ∀ j, j ≤ 3 → decF i b j < 128 * 64 ^ j
  | 0, _ => by
    have key : i = 0 ∨ i = 1 ∨ i = 2 ∨ i = 3 := by omega
    rcases key with rfl | rfl | rfl | rfl <;> simp only [decF, szRest, List.getD_cons_zero, List.getD_cons_succ] <;> omega
  | j + 1, h => by
    have := decF_lt (b := b) hi j (by omega)
    simp only [decF, Nat.pow_succ]
    omega
theorem decF_lt3 {i : Nat} {b : List UInt8} (hi : i < 4) {j : Nat} (hj : j < 3) : decF i b j < 16777216 := by
  have h := decF_lt (b := b) hi j (by omega)
  have : 64 ^ j ≤ 64 ^ 2 := Nat.pow_le_pow_right (by omega) (by omega)
  omega
set_option maxHeartbeats 4000000 in
theorem fs_takeU {Gl : Gh → Prop} (hst : Stays Gl) {b : List UInt8} {tb : Option Nm} (hb : b.length ≤ maxLen) : FS Tryz.prog Gl 159 [.sl tb 1 (bytesAV b)] [] [] (.tup [.int .i64 (takeZ b).1, .int .i64 (takeZ b).2]) [] [] := by
  refine FS.of hm hst is_utfTake (by simp) fun γ hγ hfr => ?_
  (generalize hQ : (fun (ex : Ex) (_ _ : Nat) (s : St) => _) = Q; unfold ir_utfTake)
  simp +contextual (maxSteps := 1000000) only [go_sem, reduceCtorEq, ↓reduceIte, Nat.reduceAdd]
  (refine CallP.pure (fs_sizes hst) (fun _ => rfl) ?_; simp +contextual (maxSteps := 1000000) only [go_sem, reduceCtorEq, ↓reduceIte, Nat.reduceAdd, Nat.reduceEqDiff])
  refine kLoop_ix (fun i : Nat => ⟨lf [(0, .sl tb 1 (bytesAV b)), (9, .agg szsAV), (10, .int .i64 (i : Int))], [], fun x => x ∈ []⟩) (fun i => i ≤ 4 ∧ ∀ m, 1 ≤ m → m ≤ i → tryU b m = none) (fun i => 4 - i) 0 0 ?_ ⟨by omega, fun m h1 h2 => by omega⟩ ?_
  · refine Wk.same ?_
    (simp only [lfOK, upd, initF]; repeat' first | exact AVle.refl _ _ | exact trivial | refine And.intro ?_ ?_ | exact AVle.int (by simp only [IntKind.wrap_i64]; omega))
  · rintro γ' i hf ⟨hi, hn⟩
    generalize hQ' : kIt _ _ _ _ _ = Q'
    unfold ir_utfTake_l1
    have hnext : tryU b (i + 1) = none → ∀ m, 1 ≤ m → m ≤ i + 1 → tryU b m = none := fun h m h1 h2 => by
      by_cases hm : m = i + 1
      · subst hm; exact h
      · exact hn m h1 (by omega)
    by_cases h4 : i < 4
    · have hd : decide ((i : Int) < 4) = true := by simp; omega
      have key : i = 0 ∨ i = 1 ∨ i = 2 ∨ i = 3 := by omega
      have hx : List.take 4 (List.drop (i * 4) szsAV) = [.int .i64 ((i + 1 : Nat) : Int), .int .i64 (szMost i : Int), .int .u8 (szMark i : Int), .int .u8 (szRest i : Int)] := by
        rcases key with rfl | rfl | rfl | rfl <;> rfl
      have hl : 4 ≤ (List.drop (i * 4) szsAV).length := by
        rcases key with rfl | rfl | rfl | rfl <;> decide
      by_cases hlen : i + 1 ≤ b.length
      · have hd2 : decide ((b.length : Int) < ((i + 1 : Nat) : Int)) = false := by simp; omega
        have hget : (bytesAV b).getD 0 [] = [.int .u8 ((b.getD 0 0).toNat : Int)] := by
          cases b with
          | nil => simp at hlen
          | cons c l => rfl
        have hand := andN ⟨i, h4⟩ ⟨(b.getD 0 0).toNat, (b.getD 0 0).toNat_lt⟩
        have hanr := andR ⟨i, h4⟩ ⟨(b.getD 0 0).toNat, (b.getD 0 0).toNat_lt⟩
        simp only at hand hanr
        by_cases hfirst : (b.getD 0 0).toNat - (b.getD 0 0).toNat % (szRest i + 1) = szMark i
        · have hne : (((((b.getD 0 0).toNat - (b.getD 0 0).toNat % (szRest i + 1) : Nat) : Int)) != (szMark i : Int)) = false := by simp only [bne_eq_false_iff_eq]; omega
          have hll : ((b.take (i + 1)).drop 1).length = i := by simp; omega
          have hw0 : IntKind.i64.wrap (((b.getD 0 0).toNat % (szRest i + 1) : Nat) : Int) = ((decF i b 0 : Nat) : Int) := by
            have := (b.getD 0 0).toNat_lt
            have h2 : (b.getD 0 0).toNat % (szRest i + 1) ≤ (b.getD 0 0).toNat := Nat.mod_le _ _
            rw [IntKind.wrap_i64]; simp only [decF]; omega
          simp +contextual (maxSteps := 1000000) only [hd, hd2, hx, hl, hget, hand, hanr, hne, Int.toNat_natCast, bytesAV_length', bytesAV_take, bytesAV_drop, hll, hw0, go_sem, reduceCtorEq, ↓reduceIte, Nat.reduceAdd, Nat.reduceEqDiff, Nat.reduceBEq, Int.reduceLE, Int.reduceToNat]
          refine ⟨⟨by omega, by omega⟩, by omega, by omega, ⟨by omega, by omega, by omega, by omega⟩, ?_⟩
          refine kLoop_ix (fun j : Nat => ⟨lf [(0, .sl tb 1 (bytesAV b)), (5, .ptr (γ', 2, 0) 0), (6, .int .i64 ((decF i b j : Nat) : Int)), (9, .agg szsAV), (10, .int .i64 (i : Int)), (39, .sl none 1 (bytesAV ((b.take (i + 1)).drop 1))), (40, .int .i64 (i : Int)), (41, .int .i64 (j : Int))], [((γ', 2, 0), .cells [.int .i64 ((i + 1 : Nat) : Int), .int .i64 (szMost i : Int), .int .u8 (szMark i : Int), .int .u8 (szRest i : Int)])], fun x => x ∈ []⟩) (fun j => j ≤ i) (fun j => i - j) 0 0 ?_ (Nat.zero_le _) ?_
          · refine Wk.same ?_
            (simp only [lfOK, upd, initF]; repeat' first | exact AVle.refl _ _ | exact trivial | refine And.intro ?_ ?_ | exact AVle.int (by simp only [IntKind.wrap_i64]; omega))
          · rintro γ'' j hf2 hj
            generalize hQ2 : kIt _ _ _ _ _ = Q2
            unfold ir_utfTake_l0
            by_cases hij : j < i
            · have hd3 : decide ((j : Int) < (i : Int)) = true := by simp; omega
              have hg1 : (bytesAV ((b.take (i + 1)).drop 1)).getD j [] = [.int .u8 ((b.getD (j + 1) 0).toNat : Int)] := by
                rw [bb_get (by omega)]
                congr 3
                rw [List.getD_eq_getElem?_getD, List.getElem?_eq_getElem (by omega)]
                simp [Nat.add_comm]
              have hc := (b.getD (j + 1) 0).toNat_lt
              have hba : bits .and .u8 ((b.getD (j + 1) 0).toNat : Int) 63 = (((b.getD (j + 1) 0).toNat % 64 : Nat) : Int) := by
                have := and_low hc 6 (by omega)
                simpa using this
              have hw1 : IntKind.i64.wrap (((b.getD (j + 1) 0).toNat % 64 : Nat) : Int) = (((b.getD (j + 1) 0).toNat % 64 : Nat) : Int) := by rw [IntKind.wrap_i64]; omega
              have hfl := decF_lt3 (b := b) h4 (j := j) (by omega)
              have hsh := sh6l hfl
              have hor := or_shift (a := decF i b j) (b := (b.getD (j + 1) 0).toNat % 64) (by omega) hfl
              simp +contextual (maxSteps := 1000000) only [hd3, hg1, hba, hw1, hsh, hor, Int.toNat_natCast, bytesAV_length', hll, go_sem, reduceCtorEq, ↓reduceIte, Nat.reduceAdd, Nat.reduceEqDiff]
              refine ⟨⟨by omega, by omega⟩, ?_⟩
              rw [← hQ2]
              simp only [w_kIt_n]
              refine ⟨0, j + 1, Wk.same ?_, by omega, by omega⟩
              repeat' first | exact AVle.refl _ _ | exact trivial | refine And.intro ?_ ?_ | exact AVle.int (by simp only [IntKind.wrap_i64]; omega)
            · have hd3 : decide ((j : Int) < (i : Int)) = false := by simp; omega
              have hji : j = i := by omega
              subst hji
              simp +contextual (maxSteps := 1000000) only [hd3, go_sem, reduceCtorEq, ↓reduceIte, Nat.reduceAdd, Nat.reduceEqDiff]
              rw [← hQ2]
              have hdec := decF_all h4 hlen
              have htk : (List.take (j + 1) b).length = j + 1 := by rw [List.length_take]; omega
              simp +contextual (maxSteps := 1000000) only [go_sem, reduceCtorEq, ↓reduceIte, Nat.reduceAdd, Nat.reduceEqDiff]
              refine DCall.new (fs_putU hst) ?_
              simp +contextual (maxSteps := 1000000) only [Int.toNat_natCast, bytesAV_length', bytesAV_take, go_sem, reduceCtorEq, ↓reduceIte, Nat.reduceAdd, Nat.reduceEqDiff, Nat.reduceBEq, Int.reduceLE, Int.reduceToNat]
              have hpl := putU_len ((decF j b j : Nat) : Int)
              refine ⟨⟨by omega, by omega⟩, DCall.new (fs_EqualBytes (ta := none) (tb := none) hst (by omega) (by omega)) ?_⟩
              simp +contextual (maxSteps := 1000000) only [go_sem, reduceCtorEq, ↓reduceIte, Nat.reduceEqDiff]
              have htry : tryU b (j + 1) = if putU ((decF j b j : Nat) : Int) = List.take (j + 1) b then some (((decF j b j : Nat) : Int), j + 1) else none := by
                rw [tryU, ← hdec]
                by_cases h : putU ((decF j b j : Nat) : Int) = List.take (j + 1) b
                · rw [if_pos ⟨hlen, h⟩, if_pos h]
                · rw [if_neg (fun hh => h hh.2), if_neg h]
              by_cases he : putU ((decF j b j : Nat) : Int) = List.take (j + 1) b
              · rw [if_pos he] at htry
                have hz : takeZ b = (((decF j b j : Nat) : Int), ((j + 1 : Nat) : Int)) := by
                  rw [takeZ, takeU_first (n := j + 1) (fun m h1 h2 => hn m h1 (by omega)) (by omega) (by omega) htry]
                have hde : decide (putU ((decF j b j : Nat) : Int) = List.take (j + 1) b) = true := by simp [he]
                simp +contextual (maxSteps := 1000000) only [hde, go_sem, reduceCtorEq, ↓reduceIte, Nat.reduceAdd, Nat.reduceEqDiff]
                rw [← hQ']
                simp only [w_kIt_r, w_kBlk_r, w_kSeq_r]
                rw [← hQ, hz]
                exact ⟨trivial, Ret.flat2⟩
              · rw [if_neg he] at htry
                have hde : decide (putU ((decF j b j : Nat) : Int) = List.take (j + 1) b) = false := by simp [he]
                simp +contextual (maxSteps := 1000000) only [hde, go_sem, reduceCtorEq, ↓reduceIte, Nat.reduceAdd, Nat.reduceEqDiff]
                rw [← hQ']
                simp only [w_kIt_n]
                refine ⟨0, j + 1, Wk.perm ?_ (fun p hp => by cases hp), ⟨by omega, hnext htry⟩, by omega⟩
                repeat' first | exact AVle.refl _ _ | exact trivial | refine And.intro ?_ ?_ | exact AVle.int (by simp only [IntKind.wrap_i64]; omega)
        · have hne : (((((b.getD 0 0).toNat - (b.getD 0 0).toNat % (szRest i + 1) : Nat) : Int)) != (szMark i : Int)) = true := by simp only [bne_iff_ne, ne_eq]; omega
          simp +contextual (maxSteps := 1000000) only [hd, hd2, hx, hl, hget, hand, hne, Int.toNat_natCast, bytesAV_length', go_sem, reduceCtorEq, ↓reduceIte, Nat.reduceAdd, Nat.reduceEqDiff, Nat.reduceBEq, Int.reduceLE, Int.reduceToNat]
          refine ⟨⟨by omega, by omega⟩, by omega, ?_⟩
          rw [← hQ']
          simp only [w_kIt_n]
          refine ⟨0, i + 1, Wk.perm ?_ (fun p hp => by cases hp), ⟨by omega, hnext (try_first h4 hlen hfirst)⟩, by omega⟩
          repeat' first | exact AVle.refl _ _ | exact trivial | refine And.intro ?_ ?_ | exact AVle.int (by simp only [IntKind.wrap_i64]; omega)
      · have hd2 : decide ((b.length : Int) < ((i + 1 : Nat) : Int)) = true := by simp; omega
        simp +contextual (maxSteps := 1000000) only [hd, hd2, hx, hl, Int.toNat_natCast, bytesAV_length', go_sem, reduceCtorEq, ↓reduceIte, Nat.reduceAdd, Nat.reduceEqDiff, Nat.reduceBEq]
        refine ⟨⟨by omega, by omega⟩, ?_⟩
        rw [← hQ']
        simp only [w_kIt_n]
        refine ⟨0, i + 1, Wk.perm ?_ (fun p hp => by cases hp), ⟨by omega, hnext (tryU_long (by omega))⟩, by omega⟩
        repeat' first | exact AVle.refl _ _ | exact trivial | refine And.intro ?_ ?_ | exact AVle.int (by simp only [IntKind.wrap_i64]; omega)
    · have hd : decide ((i : Int) < 4) = false := by simp; omega
      simp +contextual (maxSteps := 1000000) only [hd, go_sem, reduceCtorEq, ↓reduceIte, Nat.reduceAdd, Nat.reduceEqDiff]
      rw [← hQ']
      simp only [w_kIt_e, w_kBlk_e, ↓reduceIte]
      simp +contextual (maxSteps := 1000000) only [go_sem, ↓reduceIte, Nat.reduceAdd, Nat.reduceEqDiff]
      have hz : takeZ b = (0, 0) := by rw [takeZ, takeU_none fun m h1 h2 => hn m h1 (by omega)]
      rw [← hQ, hz]
      exact ⟨trivial, Ret.flat2⟩
end Go.Proofs.YtjankibepgnbfaaGreatDoor

namespace Go.Proofs.YtjankibepgnbfaaGreatDoor
open Go Go.Ab
/- clavier/clavierref02.All -/
def ir_clavierref02All_l0 : ICode :=
 (.seq
 (.seq
 (.reg [qM 8 5,
 qM 9 0,
 qA 10 (.len (.t 9)),
 qA 11 (.bin .lss .none (.t 8) (.t 10))] (some [0,4,5,11]))
 (.cond (.t 11)
 .skip
 (.exit 0)))
 (.blk 1
 (.seq
 (.reg [qM 13 0,
 qM 14 5,
 qA 15 (.sll 1 (.t 13) (some (.t 14)) none none),
 qA 16 (.call (qC 95) [(.t 15)]),
 qM 12 16,
 qE 17 12 0,
 qE 18 12 1,
 qM 6 17,
 qM 7 18] (some [0,4,5,6,7]))
 (.seq
 (.seq
 (.reg [qM 19 7,
 qA 20 (.bin .eql .none (.t 19) (qI 0))] (some [0,4,5,6,7,20]))
 (.cond (.t 20)
 (.seq
 (.reg [qA 2 (.mov (.c .nils)),
 qA 3 (.mov (qB false))] (some [2,3]))
 .ret)
 .skip))
 (.seq
 (.reg [qM 21 4,
 qM 22 6,
 qA 23 (.row 3 1 [(.t 22)]),
 qA 24 (.app 3 1 8 (.t 21) (.t 23)),
 qM 4 24] (some [0,4,5,7]))
 (.reg [qM 25 5,
 qM 26 7,
 qA 27 (.bin .add .none (.t 25) (.t 26)),
 qM 5 27] (some [0,4,5])))))))
def ir_clavierref02All : ICode :=
 (.seq
 (.reg [qA 2 (.mov (.c .nils)),
 qA 3 (.mov (qB false))] (some [0]))
 (.seq
 (.reg [qA 4 (.mov (.c .nils))] (some [0,4]))
 (.seq
 (.seq
 (.reg [qA 5 (.mov (qI 0))] (some [0,4,5]))
 (.blk 0
 (.loop
 ir_clavierref02All_l0)))
 (.seq
 (.reg [qM 28 4,
 qM 2 28,
 qA 3 (.mov (qB true))] (some [2,3]))
 .ret))))
theorem is_clavierref02All : IrOf Tryz.prog 48 29 ir_clavierref02All [.t 2, .t 3] := ⟨_, Tryz.func48, rfl, by kernel_rfl, by kernel_rfl, by kernel_rfl⟩

theorem RepLe.tup {xs ys : List AV} (h : LeL xs ys) : RepLe (.tup xs) (.tup ys) := fun g v ⟨vs, e, k⟩ => ⟨vs, e, h.rep k⟩
def allV (b : List UInt8) : List Int × Bool := match allU b with
  | some l => (l, true)
  | none => ([], false)
def allW (b : List UInt8) : AV := .tup [.sl none 1 (intsAV (allV b).1), .bool (allV b).2]
theorem takeZ_none {b : List UInt8} (h : takeU b = none) : takeZ b = (0, 0) := by rw [takeZ, h]
theorem takeZ_some {b : List UInt8} {r : Int} {n : Nat} (h : takeU b = some (r, n)) : takeZ b = (r, (n : Int)) := by rw [takeZ, h]
theorem intsAV_snoc (l : List Int) (r : Int) : intsAV (l ++ [r]) = intsAV l ++ [[.int .i64 r]] := by simp [intsAV]
set_option maxHeartbeats 4000000 in
theorem fs_rAllU {Gl : Gh → Prop} (hst : Stays Gl) {b : List UInt8} {tb : Option Nm} (hb : b.length ≤ 1000000000000) : FS Tryz.prog Gl 48 [.sl tb 1 (bytesAV b)] [] [] (allW b) [] [] := by
  refine FS.ofW hm hst is_clavierref02All rfl (by simp) fun γ hγ hfr => ?_
  (generalize hQ : (fun (ex : Ex) (_ _ : Nat) (s : St) => _) = Q; unfold ir_clavierref02All)
  simp +contextual (maxSteps := 1000000) only [go_sem, reduceCtorEq, ↓reduceIte, Nat.reduceAdd, Nat.reduceEqDiff]
  refine kLoop_ix (fun q : Nat × List Int × Option Nm => ⟨lf [(0, .sl tb 1 (bytesAV b)), (4, sv q.2.2 1 (intsAV q.2.1)), (5, .int .i64 (q.1 : Int))], [], fun x => q.2.2 = some x⟩)
    (fun q => q.1 ≤ b.length ∧ q.2.1.length ≤ q.1 ∧ (q.2.2 = none → q.2.1 = []) ∧ allU b = (allU (b.drop q.1)).map (q.2.1 ++ ·)) (fun q => b.length - q.1) 0 (0, [], none) ?_ ⟨by omega, by simp, by simp, by simp⟩ ?_
  · refine Wk.perm' ?_ (fun p hp => by cases hp) (fun t ht => by cases ht)
    simp only [lfOK, upd]
    repeat' first | exact AVle.refl _ _ | exact trivial | refine And.intro ?_ ?_ | exact AVle.int (by simp only [IntKind.wrap_i64]; omega)
  · rintro γ' ⟨i, acc, tk⟩ hf ⟨hi, hal, htk, hall⟩
    simp only at hi hal htk hall
    generalize hQ' : kIt _ _ _ _ _ = Q'
    unfold ir_clavierref02All_l0
    by_cases hlt : i < b.length
    · have hd : decide ((i : Int) < (b.length : Int)) = true := by simp; omega
      have hne : b.drop i ≠ [] := by intro e; have := congrArg List.length e; simp at this; omega
      simp +contextual (maxSteps := 1000000) only [hd, bytesAV_length', bytesAV_take, bytesAV_drop, List.take_length, Int.toNat_natCast, go_sem, reduceCtorEq, ↓reduceIte, Nat.reduceAdd, Nat.reduceEqDiff]
      refine ⟨⟨by omega, by omega⟩, ?_⟩
      have c1 := fs_rTakeU (tb := none) (b := b.drop i) hst (by simp only [List.length_drop, maxLen]; omega)
      cases htu : takeU (b.drop i) with
      | none =>
        rw [takeZ_none htu] at c1
        (refine CallP.pure (c1) (fun _ => rfl) ?_; simp +contextual (maxSteps := 1000000) only [go_sem, reduceCtorEq, ↓reduceIte, Nat.reduceAdd, Nat.reduceEqDiff])
        rw [← hQ']
        simp only [w_kIt_r, w_kBlk_r, w_kSeq_r]
        have hz : allW b = .tup [.sl none 1 [], .bool false] := by
          rw [allW, allV, hall, allU_none hne htu]; rfl
        rw [← hQ, hz]
        exact ⟨trivial, .inl ⟨_, rfl, RepLe.tup ⟨RepLe.nils 1, RepLe.refl _, trivial⟩⟩⟩
      | some x =>
        obtain ⟨r, n⟩ := x
        obtain ⟨h1, h4, hnl, _⟩ := takeU_of htu
        rw [List.length_drop] at hnl
        rw [takeZ_some htu] at c1
        have hn0 : ((n : Int) == 0) = false := by simp; omega
        have hstep : allU b = (allU (b.drop (i + n))).map ((acc ++ [r]) ++ ·) := by
          rw [hall, allU_some hne htu, List.drop_drop, Option.map_map]
          congr 1
          funext l
          simp
        have hial : (intsAV acc).length = acc.length := by simp [intsAV]
        cases tk with
        | none =>
          obtain rfl := htk rfl
          (refine CallP.pure (c1) (fun _ => rfl) ?_; simp +contextual (maxSteps := 1000000) only [hn0, go_sem, reduceCtorEq, ↓reduceIte, Nat.reduceAdd, Nat.reduceEqDiff, Nat.reduceLeDiff, Nat.reduceMul])
          rw [← hQ']
          simp only [w_kIt_n]
          refine ⟨0, (i + n, [r], some (γ', 18, 0)), Wk.perm' ?_ (fun p hp => by cases hp) ?_, ⟨by simp only; omega, by simp; omega, by simp, hstep⟩, by simp only; omega⟩
          · simp only [sv_some, intsAV, List.map_cons, List.map_nil]
            repeat' first | exact AVle.refl _ _ | exact trivial | refine And.intro ?_ ?_ | exact AVle.int (by simp only [IntKind.wrap_i64]; omega)
          · intro t ht
            cases ht
            exact .inl rfl
        | some t0 =>
          (refine CallP.pure (c1) (fun _ => rfl) ?_; simp +contextual (maxSteps := 1000000) only [hn0, go_sem, reduceCtorEq, ↓reduceIte, Nat.reduceAdd, Nat.reduceEqDiff])
          refine ⟨⟨.inr trivial, by omega⟩, ?_⟩
          rw [← hQ']
          simp only [w_kIt_n]
          refine ⟨0, (i + n, acc ++ [r], some (γ', 18, 0)), Wk.perm' ?_ (fun p hp => by cases hp) ?_, ⟨by simp only; omega, by simp; omega, by simp, hstep⟩, by simp only; omega⟩
          · simp only [sv_some, intsAV_snoc]
            repeat' first | exact AVle.refl _ _ | exact trivial | refine And.intro ?_ ?_ | exact AVle.int (by simp only [IntKind.wrap_i64]; omega)
          · intro t ht
            cases ht
            exact .inl rfl
    · have hd : decide ((i : Int) < (b.length : Int)) = false := by simp; omega
      simp +contextual (maxSteps := 1000000) only [hd, bytesAV_length', go_sem, reduceCtorEq, ↓reduceIte, Nat.reduceAdd, Nat.reduceEqDiff]
      rw [← hQ']
      simp only [w_kIt_e, w_kBlk_e, ↓reduceIte]
      simp +contextual (maxSteps := 1000000) only [go_sem, reduceCtorEq, ↓reduceIte, Nat.reduceAdd, Nat.reduceEqDiff]
      have hz : allW b = .tup [.sl none 1 (intsAV acc), .bool true] := by
        rw [allW, allV, hall, List.drop_of_length_le (by omega), allU_nil]; simp
      rw [← hQ, hz]
      refine ⟨trivial, .inl ⟨_, rfl, RepLe.tup ⟨?_, RepLe.refl _, trivial⟩⟩⟩
      cases tk with
      | none => rw [htk rfl]; exact RepLe.nils 1
      | some t0 => exact RepLe.anon _ _ _
end Go.Proofs.YtjankibepgnbfaaGreatDoor

namespace Go.Proofs.YtjankibepgnbfaaGreatDoor
open Go Go.Ab
/- clavier/utf.points$1 -/
def ir_utfpoints1_l0 : ICode :=
 (.seq
 (.seq
 (.reg [qL 5 1,
 qA 6 (.len (.t 5)),
 qA 7 (.bin .gtr .none (.t 6) (qI 0))] (some [0,1,7]))
 (.cond (.t 7)
 .skip
 (.exit 0)))
 (.blk 1
 (.seq
 (.reg [qL 9 1,
 qA 10 (.call (qC 159) [(.t 9)]),
 qM 8 10,
 qE 11 8 0,
 qE 12 8 1,
 qM 3 11,
 qM 4 12] (some [0,1,3,4]))
 (.seq
 (.seq
 (.reg [qM 13 0,
 qM 14 3,
 qM 15 4,
 qA 16 (.bin .gtr .none (.t 15) (qI 0)),
 qA 17 (.call (.t 13) [(.t 14), (.t 16)]),
 qA 18 (.un .not (.t 17)),
 qM 19 18,
 qG 20 19 false (.mov (.t 4)),
 qG 21 19 false (.bin .eql .none (.t 20) (qI 0)),
 qA 22 (.pick (.t 19) (qB true) (.t 21))] (some [0,1,4,22]))
 (.cond (.t 22)
 .ret
 .skip))
 (.reg [qL 23 1,
 qM 24 4,
 qA 25 (.sll 1 (.t 23) (some (.t 24)) none none),
 qN (.st 1 (.t 1) (.t 25))] (some [0,1]))))))
def ir_utfpoints1 : ICode :=
 (.blk 0
 (.loop
 ir_utfpoints1_l0))
theorem is_utfpoints1 : IrOf Tryz.prog 158 26 ir_utfpoints1 [] := ⟨_, Tryz.func158, rfl, by kernel_rfl, by kernel_rfl, by kernel_rfl⟩

def ir_utfpoints : ICode :=
 (.seq
 (.reg [qA 1 (.box 34 (.t 0)),
 qA 2 (.mov (.c .nilf))] (some [1]))
 (.seq
 (.reg [qA 3 (.mkf (.func 158) [] [(.t 1)]),
 qM 2 3] (some [2]))
 .ret))
theorem is_utfpoints : IrOf Tryz.prog 112 4 ir_utfpoints [.t 2] := ⟨_, Tryz.func112, rfl, by kernel_rfl, by kernel_rfl, by kernel_rfl⟩

/- clavier/utf.All -/
def ir_utfAll_b0 : ICode :=
 (.blk 1
 (.seq
 (.seq
 (.reg [qM 11 6,
 qA 12 (.un .not (.t 11))] (some [2,3,4,5,12]))
 (.cond (.t 12)
 (.seq
 (.reg [qN (.st 1 (.t 2) (.c .nils)),
 qN (.st 1 (.t 3) (qB false))] (some []))
 .ret)
 .skip))
 (.reg [qL 13 4,
 qM 14 5,
 qA 15 (.row 3 1 [(.t 14)]),
 qA 16 (.app 3 1 8 (.t 13) (.t 15)),
 qN (.st 1 (.t 4) (.t 16))] (some []))))
def ir_utfAll : ICode :=
 (.seq
 (.reg [qA 2 (.box 87 (.c .nils)),
 qA 3 (.box 4 (qB false))] (some [0,2,3]))
 (.seq
 (.reg [qA 4 (.box 87 (.c .nils))] (some [0,2,3,4]))
 (.seq
 (.seq
 (.reg [qM 7 0,
 qA 8 (.call (qC 112) [(.t 7)])] (some [2,3,4,8]))
 (.blk 0
 (.rgf (.t 8) [9, 10]
 (.seq
 (.reg [qM 5 9] (some [2,3,4,5,10]))
 (.reg [qM 6 10] (some [2,3,4,5,6])))
 ir_utfAll_b0)))
 (.seq
 (.reg [qL 17 4,
 qN (.st 1 (.t 2) (.t 17)),
 qN (.st 1 (.t 3) (qB true))] (some [2,3]))
 .ret))))
theorem is_utfAll : IrOf Tryz.prog 56 18 ir_utfAll [.cell 2 none, .cell 3 none] := ⟨_, Tryz.func56, rfl, by kernel_rfl, by kernel_rfl, by kernel_rfl⟩

def itemsU (b : List UInt8) : List (Int × Bool) :=
  if h : b = [] then []
  else match takeU b with
    | none => [(0, false)]
    | some (r, n) => (r, true) :: itemsU (b.drop (n - 1 + 1))
termination_by b.length
decreasing_by
  have : b.length ≠ 0 := fun e => h (List.length_eq_zero_iff.1 e)
  simp only [List.length_drop]; omega
theorem itemsU_nil : itemsU [] = [] := by rw [itemsU]; simp
theorem itemsU_none {b : List UInt8} (h : b ≠ []) (ht : takeU b = none) : itemsU b = [(0, false)] := by rw [itemsU, dif_neg h, ht]
theorem itemsU_some {b : List UInt8} {r : Int} {n : Nat} (h : b ≠ []) (ht : takeU b = some (r, n)) : itemsU b = (r, true) :: itemsU (b.drop n) := by
  have h1 := (takeU_of ht).1
  rw [itemsU, dif_neg h, ht]
  show (r, true) :: itemsU (b.drop (n - 1 + 1)) = _
  rw [show n - 1 + 1 = n by omega]
def itemAV (p : Int × Bool) : List AV := [.int .i64 p.1, .bool p.2]
theorem it_points {Gl : Gh → Prop} {b : List UInt8} {tb : Option Nm} {a : Nm} (hb : b.length ≤ 1000000000000) :
    IterS Tryz.prog Gl 158 [.ptr a 0] [(a, .cells [.sl none 1 (bytesAV b)])] ((itemsU b).map itemAV) := by
  intro Gl' hst hG id J Jx hJid hround H T hJ
  refine FSX.of hm hst is_utfpoints1 (by simp) fun γ hγ hfr => ?_
  (generalize hQ : (fun (ex : Ex) (_ _ : Nat) (s : St) => _) = Q; unfold ir_utfpoints1)
  simp +contextual (maxSteps := 1000000) only [go_sem]
  refine kLoop_ix (fun q : Nat × List UInt8 × Hp × Tk => ⟨lf [(0, .yl id), (1, .ptr a 0)], [(a, .cells [.sl none 1 (bytesAV q.2.1)])] ++ q.2.2.1, q.2.2.2⟩)
    (fun q => J q.1 q.2.2.1 q.2.2.2 ∧ q.2.1.length ≤ b.length ∧ ∃ done : List (Int × Bool), done.length = q.1 ∧ itemsU b = done ++ itemsU q.2.1)
    (fun q => q.2.1.length) 0 (0, b, H, T) ?_ ?_ ?_
  · refine Wk.same ?_
    (simp only [lfOK, upd, initF]; repeat' first | exact AVle.refl _ _ | exact trivial | refine And.intro ?_ ?_ | exact AVle.int (by simp only [IntKind.wrap_i64]; omega))
  · exact ⟨hJ, Nat.le_refl _, [], rfl, rfl⟩
  · rintro γ' ⟨j, r, Hj, Tj⟩ hf ⟨hJj, hrl, done, hdone, hsp⟩
    simp only at hJj hrl hdone hsp
    generalize hQ' : kIt _ _ _ _ _ = Q'
    have hap := hJid j Hj Tj hJj
    unfold ir_utfpoints1_l0
    by_cases hr0 : r = []
    · subst hr0
      simp +contextual (maxSteps := 1000000) only [bytesAV_length', go_sem, reduceCtorEq, ↓reduceIte, Nat.reduceAdd, Nat.reduceEqDiff, Int.reduceGT]
      rw [← hQ']
      simp only [w_kIt_e, w_kBlk_e, ↓reduceIte]
      rw [← hQ]
      rw [itemsU_nil, List.append_nil] at hsp
      refine ⟨trivial, Hj, Tj, .inl ?_, fun p hp => by simp [hp], fun t ht => ht⟩
      rw [List.length_map, hsp, hdone]; exact hJj
    · have hd : decide ((r.length : Int) > 0) = true := by
        have := List.length_pos_iff.2 hr0
        simp; omega
      simp +contextual (maxSteps := 1000000) only [hd, bytesAV_length', go_sem, reduceCtorEq, ↓reduceIte, Nat.reduceAdd, Nat.reduceEqDiff]
      have c1 := fs_takeU (tb := none) (b := r) hst (by simp only [maxLen]; omega)
      cases htu : takeU r with
      | none =>
        rw [takeZ_none htu] at c1
        rw [itemsU_none hr0 htu] at hsp
        (refine CallP.pure (c1) (fun _ => rfl) ?_; simp +contextual (maxSteps := 1000000) only [go_sem, reduceCtorEq, ↓reduceIte, Nat.reduceAdd, Nat.reduceEqDiff, Int.reduceGT])
        have hit : ((itemsU b).map itemAV)[j]? = some [.int .i64 0, .bool false] := by
          rw [hsp, ← hdone]; simp [itemAV]
        have hlen : ((itemsU b).map itemAV).length = j + 1 := by rw [hsp]; simp [hdone]
        refine CallY.splitT (Ha := [(a, .cells [.sl none 1 (bytesAV r)])]) (hround j _ Hj Tj hit hJj) (fun p hp q hq => ?_) fun rv H1 T1 hR => ?_
        · simp only [List.mem_cons, List.not_mem_nil, or_false] at hp
          subst hp
          exact hap (a, .cells [.sl none 1 (bytesAV b)]) (by simp) q hq
        · rcases hR with ⟨rfl, hR⟩ | ⟨rfl, hR⟩
          · simp +contextual (maxSteps := 1000000) only [go_sem, reduceCtorEq, ↓reduceIte, Nat.reduceAdd, Nat.reduceEqDiff]
            rw [← hQ']
            simp only [w_kIt_r, w_kBlk_r, w_kSeq_r]
            rw [← hQ]
            exact ⟨trivial, H1, T1, .inl (by rw [hlen]; exact hR), fun p hp => by simp [hp], fun t ht => ht⟩
          · simp +contextual (maxSteps := 1000000) only [go_sem, reduceCtorEq, ↓reduceIte, Nat.reduceAdd, Nat.reduceEqDiff]
            rw [← hQ']
            simp only [w_kIt_r, w_kBlk_r, w_kSeq_r]
            rw [← hQ]
            exact ⟨trivial, H1, T1, .inr hR, fun p hp => by simp [hp], fun t ht => ht⟩
      | some x =>
        obtain ⟨c, n⟩ := x
        obtain ⟨h1, h4, hnl, _⟩ := takeU_of htu
        rw [takeZ_some htu] at c1
        rw [itemsU_some hr0 htu] at hsp
        have hd2 : decide ((n : Int) > 0) = true := by simp; omega
        have hn0 : ((n : Int) == 0) = false := by simp; omega
        (refine CallP.pure (c1) (fun _ => rfl) ?_; simp +contextual (maxSteps := 1000000) only [hd2, hn0, go_sem, reduceCtorEq, ↓reduceIte, Nat.reduceAdd, Nat.reduceEqDiff])
        have hit : ((itemsU b).map itemAV)[j]? = some [.int .i64 c, .bool true] := by
          rw [hsp, ← hdone]; simp [itemAV]
        refine CallY.splitT (Ha := [(a, .cells [.sl none 1 (bytesAV r)])]) (hround j _ Hj Tj hit hJj) (fun p hp q hq => ?_) fun rv H1 T1 hR => ?_
        · simp only [List.mem_cons, List.not_mem_nil, or_false] at hp
          subst hp
          exact hap (a, .cells [.sl none 1 (bytesAV b)]) (by simp) q hq
        · rcases hR with ⟨rfl, hR⟩ | ⟨rfl, hR⟩
          · have hs1 : ∀ hb, setH H1 a hb = H1 := fun hb => setH_ne fun q hq => hJid _ _ _ hR (a, .cells [.sl none 1 (bytesAV b)]) (by simp) q hq
            simp +contextual (maxSteps := 1000000) only [hn0, hs1, bytesAV_length', bytesAV_take, bytesAV_drop, List.take_length, Int.toNat_natCast, go_sem, reduceCtorEq, ↓reduceIte, Nat.reduceAdd, Nat.reduceEqDiff]
            refine ⟨⟨by omega, by omega⟩, ?_⟩
            rw [← hQ']
            simp only [w_kIt_n]
            refine ⟨0, (j + 1, r.drop n, H1, T1), Wk.same ?_, ⟨hR, by simp only [List.length_drop]; omega, done ++ [(c, true)], by simp [hdone], by rw [hsp]; simp⟩, by simp only [List.length_drop]; have := List.length_pos_iff.2 hr0; omega⟩
            repeat' first | exact AVle.refl _ _ | exact trivial | refine And.intro ?_ ?_ | exact AVle.int (by simp only [IntKind.wrap_i64]; omega)
          · simp +contextual (maxSteps := 1000000) only [go_sem, reduceCtorEq, ↓reduceIte, Nat.reduceAdd, Nat.reduceEqDiff]
            rw [← hQ']
            simp only [w_kIt_r, w_kBlk_r, w_kSeq_r]
            rw [← hQ]
            exact ⟨trivial, H1, T1, .inr hR, fun p hp => by simp [hp], fun t ht => ht⟩
theorem itemsU_len : ∀ {b : List UInt8}, (itemsU b).length ≤ b.length := by
  intro b
  induction hn : b.length using Nat.strongRecOn generalizing b with
  | ind n ih =>
    by_cases h : b = []
    · subst h; rw [itemsU_nil]; simp
    · have hpos := List.length_pos_iff.2 h
      cases ht : takeU b with
      | none => rw [itemsU_none h ht]; simp; omega
      | some x =>
        obtain ⟨r, m⟩ := x
        obtain ⟨h1, _, h3, _⟩ := takeU_of ht
        have := ih (b.drop m).length (by simp only [List.length_drop]; omega) (b := b.drop m) rfl
        rw [itemsU_some h ht]
        simp only [List.length_cons, List.length_drop] at this ⊢
        omega
theorem fs_points {Gl : Gh → Prop} (hst : Stays Gl) {b : List UInt8} : FS Tryz.prog Gl 112 [.sl none 1 (bytesAV b)] [] [] (.fn (.func 158) [] [.ptr (0, 0, 0) 0]) [((0, 0, 0), .cells [.sl none 1 (bytesAV b)])] [] := by
  refine FS.of hm hst is_utfpoints (by simp) fun γ hγ hfr => ?_
  (generalize hQ : (fun (ex : Ex) (_ _ : Nat) (s : St) => _) = Q; unfold ir_utfpoints)
  simp +contextual (maxSteps := 1000000) only [go_sem, ↓reduceIte, Nat.reduceAdd, Nat.reduceEqDiff]
  rw [← hQ]
  refine ⟨trivial, [(γ, 0, 0)], by simp, by simp, rfl, ?_, by simp, ?_, ?_, by simp⟩
  · simp [rnH, rnN, rnHB, rnL, Ab.rn]
  · simp [AV.okIn, AV.okInL, nmOK]
  · simp [AV.okIn, AV.okInL, nmOK, HB.okIn]
theorem itemsU_all : ∀ {b : List UInt8}, match allU b with
  | some l => itemsU b = l.map fun r => (r, true)
  | none => ∃ l : List Int, itemsU b = l.map (fun r => (r, true)) ++ [(0, false)] := by
  intro b
  induction hn : b.length using Nat.strongRecOn generalizing b with
  | ind n ih =>
    by_cases h : b = []
    · subst h; rw [allU_nil, itemsU_nil]; rfl
    · cases ht : takeU b with
      | none => rw [allU_none h ht, itemsU_none h ht]; exact ⟨[], rfl⟩
      | some x =>
        obtain ⟨r, m⟩ := x
        have h1 := (takeU_of ht).1
        have := ih (b.drop m).length (by have := List.length_pos_iff.2 h; simp only [List.length_drop]; omega) (b := b.drop m) rfl
        rw [allU_some h ht, itemsU_some h ht]
        cases ha : allU (b.drop m) with
        | none =>
          rw [ha] at this
          obtain ⟨l, hl⟩ := this
          exact ⟨r :: l, by rw [hl]; rfl⟩
        | some l =>
          rw [ha] at this
          show _ = List.map _ (r :: l)
          rw [this]; rfl
set_option maxHeartbeats 4000000 in
theorem fs_allU {Gl : Gh → Prop} (hst : Stays Gl) {b : List UInt8} (hb : b.length ≤ 1000000000000) : FS Tryz.prog Gl 56 [.sl none 1 (bytesAV b)] [] [] (allW b) [] [] := by
  refine FS.ofW hm hst is_utfAll rfl (by simp) fun γ hγ hfr => ?_
  (generalize hQ : (fun (ex : Ex) (_ _ : Nat) (s : St) => _) = Q; unfold ir_utfAll)
  simp +contextual (maxSteps := 1000000) only [go_sem, reduceCtorEq, ↓reduceIte, Nat.reduceAdd, Nat.reduceEqDiff]
  refine CallP.of (fs_points hst (b := b)) (by simp) (by simp) ?_
  simp only [rnH, rnN, rnHB, rnL, Ab.rn]
  simp +contextual (maxSteps := 1000000) only [go_sem, reduceCtorEq, ↓reduceIte, Nat.reduceEqDiff]
  have hall := itemsU_all (b := b)
  have hil : (itemsU b).length ≤ b.length := itemsU_len
  refine rgf_of rfl ((itemsU b).map itemAV)
    (fun i H T => (∀ p ∈ (itemsU b).take i, p.2 = true) ∧ ∃ tk : Option Nm, (tk = none → i = 0) ∧ (∀ x, tk = some x → γ ≤ x.1 ∧ T x) ∧ H = [((γ, 2, 0), .cells [sv tk 1 (intsAV (((itemsU b).take i).map (·.1)))]), ((γ, 1, 0), .cells [.bool false]), ((γ, 0, 0), .cells [.nils])])
    (fun ex H T => ex = .ret ∧ (∃ i : Nat, (itemsU b)[i]? = some (0, false)) ∧ ((γ, 1, 0), .cells [.bool false]) ∈ H ∧ ((γ, 0, 0), .cells [.nils]) ∈ H)
    [((γ, 4, 0), .cells [.sl none 1 (bytesAV b)])] [((γ, 2, 0), .cells [.nils]), ((γ, 1, 0), .cells [.bool false]), ((γ, 0, 0), .cells [.nils])] (fun _ => False)
    (it_points (tb := none) hb) (by simp) (by simp) (by simp) (by simp) ⟨by simp, none, by simp, by simp, rfl⟩ (fun x hx => by obtain ⟨p, _, rfl⟩ := List.mem_map.1 hx; rfl) ?_ ?_ ?_
  · rintro Gl' hst' hG i x H T γ' hx ⟨hok, tk, hk1, hk2, rfl⟩ hlt hfr'
    simp only [List.getElem?_map, Option.map_eq_some_iff] at hx
    obtain ⟨⟨r, ok⟩, hp, rfl⟩ := hx
    have hit : i < (itemsU b).length := (List.getElem?_eq_some_iff.1 hp).1
    have htk : (itemsU b).take (i + 1) = (itemsU b).take i ++ [(r, ok)] := by rw [List.take_add_one, hp]; rfl
    have hln : (intsAV (((itemsU b).take i).map (·.1))).length ≤ b.length := by simp [intsAV]; omega
    generalize hK : kBd _ _ _ = K
    unfold ir_utfAll_b0
    cases ok with
    | false =>
      simp +contextual (maxSteps := 1000000) only [itemAV, go_sem, reduceCtorEq, ↓reduceIte, Nat.reduceAdd, Nat.reduceEqDiff]
      rw [← hK]
      have h0 : r = 0 := by
        have hm := List.mem_of_getElem? hp
        cases ha : allU b with
        | none =>
          rw [ha] at hall
          obtain ⟨l, hl⟩ := hall
          rw [hl] at hm
          simp at hm; exact hm
        | some l =>
          rw [ha] at hall
          have hall : itemsU b = l.map fun r => (r, true) := hall
          rw [hall] at hm
          simp at hm
      subst h0
      refine ⟨rfl, ⟨i, hp⟩, ?_, ?_⟩
      · simp
      · simp
    | true =>
      cases tk with
      | none =>
        obtain rfl := hk1 rfl
        simp +contextual (maxSteps := 1000000) only [itemAV, go_sem, reduceCtorEq, ↓reduceIte, Nat.reduceAdd, Nat.reduceEqDiff, Nat.reduceLeDiff, Nat.reduceMul]
        rw [← hK]
        refine ⟨fun p hp' => ?_, some (γ', 7, 0), by simp, fun x hx => by cases hx; exact ⟨by simp only; omega, .inl rfl⟩, ?_⟩
        · rw [htk] at hp'
          simp only [List.take_zero, List.nil_append, List.mem_singleton] at hp'
          rw [hp']
        · rw [htk]; simp [intsAV, sv]
      | some t0 =>
        simp +contextual (maxSteps := 1000000) only [itemAV, go_sem, reduceCtorEq, ↓reduceIte, Nat.reduceAdd, Nat.reduceEqDiff]
        refine ⟨⟨.inr (hk2 t0 rfl).2, by omega⟩, ?_⟩
        rw [← hK]
        refine ⟨fun p hp' => ?_, some (γ', 7, 0), by simp, fun x hx => by cases hx; exact ⟨by simp only; omega, .inl rfl⟩, ?_⟩
        · rw [htk] at hp'
          rcases List.mem_append.1 hp' with h | h
          · exact hok p h
          · simp only [List.mem_singleton] at h; rw [h]
        · rw [htk]; simp [intsAV, sv]
  · rintro H1 T1 ⟨hok, tk, hk1, hk2, rfl⟩
    rw [List.length_map, List.take_length] at hok
    have hz : allW b = .tup [.sl none 1 (intsAV ((itemsU b).map (·.1))), .bool true] := by
      cases ha : allU b with
      | none =>
        rw [ha] at hall
        obtain ⟨l, hl⟩ := hall
        have := hok (0, false) (by rw [hl]; simp)
        cases this
      | some l =>
        rw [ha] at hall
        have hall : itemsU b = l.map fun r => (r, true) := hall
        rw [allW, allV, ha, hall, List.map_map]
        have : ((fun x : Int × Bool => x.1) ∘ fun r => (r, true)) = _root_.id := rfl
        rw [this, List.map_id]
    refine ⟨_, T1, fun p hp => List.mem_append.2 (.inl hp), fun _ h => .inl h, ?_⟩
    rw [List.length_map] at hk1 ⊢
    rw [List.take_length]
    simp +contextual (maxSteps := 1000000) only [go_sem, reduceCtorEq, ↓reduceIte, Nat.reduceAdd, Nat.reduceEqDiff]
    rw [← hQ, hz]
    refine ⟨trivial, .inl ⟨.tup [sv tk 1 (intsAV ((itemsU b).map (·.1))), .bool true], ?_, ?_⟩⟩
    · simp [resOf, getAll, IRes.get, lf, getH]
    · refine RepLe.tup ⟨?_, RepLe.refl _, trivial⟩
      cases tk with
      | none => rw [List.length_eq_zero_iff.1 (hk1 rfl)]; exact RepLe.nils 1
      | some t0 => exact RepLe.anon _ _ _
  · rintro ex H1 T1 ⟨rfl, ⟨i, hi⟩, h1, h2⟩
    have hz : allW b = .tup [.sl none 1 [], .bool false] := by
      cases ha : allU b with
      | none => rw [allW, allV, ha]; rfl
      | some l =>
        rw [ha] at hall
        have hall : itemsU b = l.map fun r => (r, true) := hall
        have := List.mem_of_getElem? hi
        rw [hall] at this
        simp at this
    refine ⟨[((γ, 1, 0), .cells [.bool false]), ((γ, 0, 0), .cells [.nils])], fun _ => False, fun p hp => List.mem_append.2 (.inl ?_), fun _ h => h.elim, ?_⟩
    · simp only [List.mem_cons, List.not_mem_nil, or_false] at hp
      rcases hp with rfl | rfl
      · exact h1
      · exact h2
    · simp only [w_kBlk_r, w_kSeq_r]
      rw [← hQ, hz]
      refine ⟨trivial, .inl ⟨.tup [.nils, .bool false], ?_, RepLe.tup ⟨RepLe.nils 1, RepLe.refl _, trivial⟩⟩⟩
      simp [resOf, getAll, IRes.get, lf, getH]
end Go.Proofs.YtjankibepgnbfaaGreatDoor

namespace Go.Proofs.YtjankibepgnbfaaGreatDoor
open Go Go.Ab
def ir_keysrows : ICode :=
 (.seq
 (.reg [qA 0 (.mov (.c .nils))] (some []))
 (.seq
 (.reg [qA 1 (.bld [(.int .i64 0), (.int .i64 0), (.int .i64 0), (.str []), .nils, (.str [])] [(0, 1, (qI 9)), (1, 1, (qI 1)), (2, 1, (qI 2))]),
 qA 2 (.bld [(.int .i64 0), (.int .i64 0), (.int .i64 0), (.str []), .nils, (.str [])] [(0, 1, (qI 13)), (1, 1, (qI 1)), (2, 1, (qI 2))]),
 qA 3 (.bld [(.int .i64 0), (.int .i64 0), (.int .i64 0), (.str []), .nils, (.str [])] [(0, 1, (qI 27)), (1, 1, (qI 1)), (2, 1, (qI 2))]),
 qA 4 (.bld [(.int .i64 0), (.int .i64 0), (.int .i64 0), (.str []), .nils, (.str [])] [(0, 1, (qI 127)), (1, 1, (qI 1)), (2, 1, (qI 2))]),
 qA 5 (.row 3 1 [(qI 2), (qI 3)]),
 qA 6 (.bld [(.int .i64 0), (.int .i64 0), (.int .i64 0), (.str []), .nils, (.str [])] [(0, 1, (qI 57348)), (1, 1, (qI 2)), (2, 1, (qI 4)), (4, 1, (.t 5))]),
 qA 7 (.bld [(.int .i64 0), (.int .i64 0), (.int .i64 0), (.str []), .nils, (.str [])] [(0, 1, (qI 57350)), (1, 1, (qI 4)), (2, 1, (qI 3)), (3, 1, (.c (.str [68, 67, 65, 66])))]),
 qA 8 (.row 3 1 [(qI 5), (qI 6)]),
 qA 9 (.bld [(.int .i64 0), (.int .i64 0), (.int .i64 0), (.str []), .nils, (.str [])] [(0, 1, (qI 57354)), (1, 1, (qI 2)), (2, 1, (qI 4)), (4, 1, (.t 8))]),
 qA 10 (.bld [(.int .i64 0), (.int .i64 0), (.int .i64 0), (.str []), .nils, (.str [])] [(0, 1, (qI 57356)), (1, 1, (qI 2)), (2, 1, (qI 3)), (3, 1, (.c (.str [72, 70])))]),
 qA 11 (.bld [(.int .i64 0), (.int .i64 0), (.int .i64 0), (.str []), .nils, (.str [])] [(0, 1, (qI 57358)), (1, 1, (qI 5)), (2, 1, (qI 6))]),
 qA 12 (.row 3 1 [(qI 29)]),
 qA 13 (.bld [(.int .i64 0), (.int .i64 0), (.int .i64 0), (.str []), .nils, (.str [])] [(0, 1, (qI 57363)), (1, 1, (qI 1)), (2, 1, (qI 4)), (4, 1, (.t 12))]),
 qA 14 (.bld [(.int .i64 0), (.int .i64 0), (.int .i64 0), (.str []), .nils, (.str [])] [(0, 1, (qI 57364)), (1, 1, (qI 4)), (2, 1, (qI 3)), (3, 1, (.c (.str [80, 81, 82, 83])))]),
 qA 15 (.row 3 1 [(qI 15), (qI 17), (qI 18), (qI 19), (qI 20), (qI 21), (qI 23), (qI 24)]),
 qA 16 (.bld [(.int .i64 0), (.int .i64 0), (.int .i64 0), (.str []), .nils, (.str [])] [(0, 1, (qI 57368)), (1, 1, (qI 8)), (2, 1, (qI 4)), (4, 1, (.t 15))]),
 qA 17 (.bld [(.int .i64 0), (.int .i64 0), (.int .i64 0), (.str []), .nils, (.str [])] [(0, 1, (qI 57376)), (1, 1, (qI 23)), (2, 1, (qI 6))]),
 qA 18 (.bld [(.int .i64 0), (.int .i64 0), (.int .i64 0), (.str []), .nils, (.str [])] [(0, 1, (qI 57399)), (1, 1, (qI 18)), (2, 1, (qI 5)), (3, 1, (.c (.str [112, 113, 114, 115, 116, 117, 118, 119, 120, 121, 110, 111, 106, 109, 107, 77, 88, 108]))), (5, 1, (.c (.str [48, 49, 50, 51, 52, 53, 54, 55, 56, 57, 46, 47, 42, 45, 43, 13, 61, 44])))]),
 qA 19 (.bld [(.int .i64 0), (.int .i64 0), (.int .i64 0), (.str []), .nils, (.str [])] [(0, 1, (qI 57417)), (1, 1, (qI 4)), (2, 1, (qI 3)), (3, 1, (.c (.str [68, 67, 65, 66])))]),
 qA 20 (.row 3 1 [(qI 5), (qI 6)]),
 qA 21 (.bld [(.int .i64 0), (.int .i64 0), (.int .i64 0), (.str []), .nils, (.str [])] [(0, 1, (qI 57421)), (1, 1, (qI 2)), (2, 1, (qI 4)), (4, 1, (.t 20))]),
 qA 22 (.bld [(.int .i64 0), (.int .i64 0), (.int .i64 0), (.str []), .nils, (.str [])] [(0, 1, (qI 57423)), (1, 1, (qI 2)), (2, 1, (qI 3)), (3, 1, (.c (.str [72, 70])))]),
 qA 23 (.row 3 1 [(qI 2), (qI 3)]),
 qA 24 (.bld [(.int .i64 0), (.int .i64 0), (.int .i64 0), (.str []), .nils, (.str [])] [(0, 1, (qI 57425)), (1, 1, (qI 2)), (2, 1, (qI 4)), (4, 1, (.t 23))]),
 qA 25 (.bld [(.int .i64 0), (.int .i64 0), (.int .i64 0), (.str []), .nils, (.str [])] [(0, 1, (qI 57427)), (1, 1, (qI 1)), (2, 1, (qI 3)), (3, 1, (.c (.str [69])))]),
 qA 26 (.bld [(.int .i64 0), (.int .i64 0), (.int .i64 0), (.str []), .nils, (.str [])] [(0, 1, (qI 57428)), (1, 1, (qI 13)), (2, 1, (qI 6))]),
 qA 27 (.bld [(.int .i64 0), (.int .i64 0), (.int .i64 0), (.str []), .nils, (.str [])] [(0, 1, (qI 57441)), (1, 1, (qI 14)), (2, 1, (qI 7))]),
 qA 28 (.row 180 6 [(.t 1), (.t 2), (.t 3), (.t 4), (.t 6), (.t 7), (.t 9), (.t 10), (.t 11), (.t 13), (.t 14), (.t 16), (.t 17), (.t 18), (.t 19), (.t 21), (.t 22), (.t 24), (.t 25), (.t 26), (.t 27)]),
 qM 0 28] (some [0]))
 .ret))
theorem is_keysrows : IrOf Tryz.prog 154 29 ir_keysrows [.t 0] := ⟨_, Tryz.func154, rfl, by kernel_rfl, by kernel_rfl, by kernel_rfl⟩

def ir_keysrowentry : ICode :=
 (.seq
 (.reg [qA 2 (.box 180 (.t 0)),
 qA 4 (.box 98 (.c (.agg [(.int .i64 0), (.int .u8 0), (.int .i64 0), (.int .i64 0), (.bool false)])))] (some [1,2,4]))
 (.seq
 (.reg [qF 6 2 2,
 qL 7 6,
 qA 8 (.bld [(.int .i64 0), (.int .u8 0), (.int .i64 0), (.int .i64 0), (.bool false)] [(0, 1, (.t 7))]),
 qA 5 (.box 98 (.c (.agg [(.int .i64 0), (.int .u8 0), (.int .i64 0), (.int .i64 0), (.bool false)]))),
 qN (.st 5 (.t 5) (.t 8))] (some [1,2,4,5]))
 (.seq
 (.seq
 (.reg [qF 9 3 2,
 qL 10 9,
 qA 11 (.bin .neq .none (.t 10) (.c (.str [])))] (some [1,2,4,5,11]))
 (.cond (.t 11)
 (.reg [qF 12 3 2,
 qL 13 12,
 qM 14 1,
 qA 15 (.ixs (.t 13) (.t 14)),
 qF 16 1 5,
 qN (.st 1 (.t 16) (.t 15))] (some [1,2,4,5]))
 .skip))
 (.seq
 (.seq
 (.reg [qF 17 4 2,
 qL 18 17,
 qA 19 (.bin .neq .slice (.t 18) (.c .nils))] (some [1,2,4,5,19]))
 (.cond (.t 19)
 (.reg [qF 20 4 2,
 qL 21 20,
 qM 22 1,
 qA 23 (.ia 1 (.t 21) (.t 22)),
 qL 24 23,
 qF 25 2 5,
 qN (.st 1 (.t 25) (.t 24))] (some [1,2,4,5]))
 .skip))
 (.seq
 (.seq
 (.reg [qF 26 5 2,
 qL 27 26,
 qA 28 (.bin .neq .none (.t 27) (.c (.str [])))] (some [1,2,4,5,28]))
 (.cond (.t 28)
 (.reg [qF 29 5 2,
 qL 30 29,
 qM 31 1,
 qA 32 (.ixs (.t 30) (.t 31)),
 qA 33 (.cvi .i64 (.t 32)),
 qF 34 3 5,
 qN (.st 1 (.t 34) (.t 33))] (some [2,4,5]))
 .skip))
 (.seq
 (.reg [qF 35 0 2,
 qL 36 35,
 qA 37 (.bin .geq .none (.t 36) (qI 57399)),
 qM 38 37,
 qG 39 38 true (.fa 2 (.t 2)),
 qG 40 38 true (.ld none (.t 39)),
 qG 41 38 true (.bin .neq .none (.t 40) (qI 6)),
 qA 42 (.pick (.t 38) (.t 41) (qB false)),
 qM 43 42,
 qG 44 43 true (.fa 2 (.t 2)),
 qG 45 43 true (.ld none (.t 44)),
 qG 46 43 true (.bin .neq .none (.t 45) (qI 7)),
 qA 47 (.pick (.t 43) (.t 46) (qB false)),
 qF 48 4 5,
 qN (.st 1 (.t 48) (.t 47))] (some [4,5]))
 (.seq
 (.reg [qA 49 (.ld (some 5) (.t 5)),
 qN (.st 5 (.t 4) (.t 49))] (some [4]))
 .ret)))))))
theorem is_keysrowentry : IrOf Tryz.prog 155 50 ir_keysrowentry [.cell 4 (some 5)] := ⟨_, Tryz.func155, rfl, by kernel_rfl, by kernel_rfl, by kernel_rfl⟩

def ir_clavierref09letter : ICode :=
 (.seq
 (.reg [qA 2 (.mov (.c (.int .u8 0)))] (some [0]))
 (.seq
 (.seq
 (.reg [qM 3 0] (some [0,3]))
 (.blk 0
 (.seq
 (.seq
 (.reg [qA 5 (.bin .eql .none (.t 3) (qI 57350)),
 qM 4 5] (some [0,3,4]))
 (.cond (.t 4)
 .skip
 (.reg [qA 6 (.bin .eql .none (.t 3) (qI 57417)),
 qM 4 6] (some [0,3,4]))))
 (.cond (.t 4)
 (.seq
 (.reg [qA 2 (.mov (.c (.int .u8 68)))] (some [2]))
 .ret)
 (.seq
 (.seq
 (.reg [qA 8 (.bin .eql .none (.t 3) (qI 57351)),
 qM 7 8] (some [0,3,7]))
 (.cond (.t 7)
 .skip
 (.reg [qA 9 (.bin .eql .none (.t 3) (qI 57418)),
 qM 7 9] (some [0,3,7]))))
 (.cond (.t 7)
 (.seq
 (.reg [qA 2 (.mov (.c (.int .u8 67)))] (some [2]))
 .ret)
 (.seq
 (.seq
 (.reg [qA 11 (.bin .eql .none (.t 3) (qI 57352)),
 qM 10 11] (some [0,3,10]))
 (.cond (.t 10)
 .skip
 (.reg [qA 12 (.bin .eql .none (.t 3) (qI 57419)),
 qM 10 12] (some [0,3,10]))))
 (.cond (.t 10)
 (.seq
 (.reg [qA 2 (.mov (.c (.int .u8 65)))] (some [2]))
 .ret)
 (.seq
 (.seq
 (.reg [qA 14 (.bin .eql .none (.t 3) (qI 57353)),
 qM 13 14] (some [0,3,13]))
 (.cond (.t 13)
 .skip
 (.reg [qA 15 (.bin .eql .none (.t 3) (qI 57420)),
 qM 13 15] (some [0,3,13]))))
 (.cond (.t 13)
 (.seq
 (.reg [qA 2 (.mov (.c (.int .u8 66)))] (some [2]))
 .ret)
 (.seq
 (.seq
 (.reg [qA 17 (.bin .eql .none (.t 3) (qI 57356)),
 qM 16 17] (some [0,3,16]))
 (.cond (.t 16)
 .skip
 (.reg [qA 18 (.bin .eql .none (.t 3) (qI 57423)),
 qM 16 18] (some [0,3,16]))))
 (.cond (.t 16)
 (.seq
 (.reg [qA 2 (.mov (.c (.int .u8 72)))] (some [2]))
 .ret)
 (.seq
 (.seq
 (.reg [qA 20 (.bin .eql .none (.t 3) (qI 57357)),
 qM 19 20] (some [0,3,19]))
 (.cond (.t 19)
 .skip
 (.reg [qA 21 (.bin .eql .none (.t 3) (qI 57424)),
 qM 19 21] (some [0,3,19]))))
 (.cond (.t 19)
 (.seq
 (.reg [qA 2 (.mov (.c (.int .u8 70)))] (some [2]))
 .ret)
 (.seq
 (.reg [qA 23 (.bin .eql .none (.t 3) (qI 57427)),
 qM 22 23] (some [0,3,22]))
 (.cond (.t 22)
 (.seq
 (.reg [qA 2 (.mov (.c (.int .u8 69)))] (some [2]))
 .ret)
 (.seq
 (.seq
 (.reg [qA 25 (.bin .eql .none (.t 3) (qI 57364)),
 qM 24 25] (some [0,3,24]))
 (.cond (.t 24)
 .skip
 (.seq
 (.reg [qA 26 (.bin .eql .none (.t 3) (qI 57365)),
 qM 24 26] (some [0,3,24]))
 (.cond (.t 24)
 .skip
 (.seq
 (.reg [qA 27 (.bin .eql .none (.t 3) (qI 57366)),
 qM 24 27] (some [0,3,24]))
 (.cond (.t 24)
 .skip
 (.reg [qA 28 (.bin .eql .none (.t 3) (qI 57367)),
 qM 24 28] (some [0,24]))))))))
 (.cond (.t 24)
 (.seq
 (.reg [qM 29 0,
 qA 30 (.bin .add .none (qI 80) (.t 29)),
 qA 31 (.bin .sub .none (.t 30) (qI 57364)),
 qA 32 (.cvi .u8 (.t 31)),
 qM 2 32] (some [2]))
 .ret)
 .skip))))))))))))))))))
 (.seq
 (.reg [qA 2 (.mov (.c (.int .u8 0)))] (some [2]))
 .ret)))
theorem is_clavierref09letter : IrOf Tryz.prog 44 33 ir_clavierref09letter [.t 2] := ⟨_, Tryz.func44, rfl, by kernel_rfl, by kernel_rfl, by kernel_rfl⟩

def ir_clavierref09number : ICode :=
 (.seq
 (.reg [qA 2 (.mov (qI 0))] (some [0]))
 (.seq
 (.seq
 (.reg [qM 3 0] (some [0,3]))
 (.blk 0
 (.seq
 (.seq
 (.reg [qA 5 (.bin .eql .none (.t 3) (qI 57348)),
 qM 4 5] (some [0,3,4]))
 (.cond (.t 4)
 .skip
 (.reg [qA 6 (.bin .eql .none (.t 3) (qI 57425)),
 qM 4 6] (some [0,3,4]))))
 (.cond (.t 4)
 (.seq
 (.reg [qA 2 (.mov (qI 2))] (some [2]))
 .ret)
 (.seq
 (.seq
 (.reg [qA 8 (.bin .eql .none (.t 3) (qI 57349)),
 qM 7 8] (some [0,3,7]))
 (.cond (.t 7)
 .skip
 (.reg [qA 9 (.bin .eql .none (.t 3) (qI 57426)),
 qM 7 9] (some [0,3,7]))))
 (.cond (.t 7)
 (.seq
 (.reg [qA 2 (.mov (qI 3))] (some [2]))
 .ret)
 (.seq
 (.seq
 (.reg [qA 11 (.bin .eql .none (.t 3) (qI 57354)),
 qM 10 11] (some [0,3,10]))
 (.cond (.t 10)
 .skip
 (.reg [qA 12 (.bin .eql .none (.t 3) (qI 57421)),
 qM 10 12] (some [0,3,10]))))
 (.cond (.t 10)
 (.seq
 (.reg [qA 2 (.mov (qI 5))] (some [2]))
 .ret)
 (.seq
 (.seq
 (.reg [qA 14 (.bin .eql .none (.t 3) (qI 57355)),
 qM 13 14] (some [0,3,13]))
 (.cond (.t 13)
 .skip
 (.reg [qA 15 (.bin .eql .none (.t 3) (qI 57422)),
 qM 13 15] (some [0,3,13]))))
 (.cond (.t 13)
 (.seq
 (.reg [qA 2 (.mov (qI 6))] (some [2]))
 .ret)
 (.seq
 (.reg [qA 17 (.bin .eql .none (.t 3) (qI 57368)),
 qM 16 17] (some [0,3,16]))
 (.cond (.t 16)
 (.seq
 (.reg [qA 2 (.mov (qI 15))] (some [2]))
 .ret)
 (.seq
 (.seq
 (.reg [qA 19 (.bin .eql .none (.t 3) (qI 57369)),
 qM 18 19] (some [0,3,18]))
 (.cond (.t 18)
 .skip
 (.seq
 (.reg [qA 20 (.bin .eql .none (.t 3) (qI 57370)),
 qM 18 20] (some [0,3,18]))
 (.cond (.t 18)
 .skip
 (.seq
 (.reg [qA 21 (.bin .eql .none (.t 3) (qI 57371)),
 qM 18 21] (some [0,3,18]))
 (.cond (.t 18)
 .skip
 (.seq
 (.reg [qA 22 (.bin .eql .none (.t 3) (qI 57372)),
 qM 18 22] (some [0,3,18]))
 (.cond (.t 18)
 .skip
 (.reg [qA 23 (.bin .eql .none (.t 3) (qI 57373)),
 qM 18 23] (some [0,3,18]))))))))))
 (.cond (.t 18)
 (.seq
 (.reg [qM 24 0,
 qA 25 (.bin .add .none (qI 17) (.t 24)),
 qA 26 (.bin .sub .none (.t 25) (qI 57369)),
 qM 2 26] (some [2]))
 .ret)
 (.seq
 (.seq
 (.reg [qA 28 (.bin .eql .none (.t 3) (qI 57374)),
 qM 27 28] (some [0,3,27]))
 (.cond (.t 27)
 .skip
 (.reg [qA 29 (.bin .eql .none (.t 3) (qI 57375)),
 qM 27 29] (some [0,3,27]))))
 (.cond (.t 27)
 (.seq
 (.reg [qM 30 0,
 qA 31 (.bin .add .none (qI 23) (.t 30)),
 qA 32 (.bin .sub .none (.t 31) (qI 57374)),
 qM 2 32] (some [2]))
 .ret)
 (.seq
 (.reg [qA 34 (.bin .eql .none (.t 3) (qI 57363)),
 qM 33 34] (some [33]))
 (.cond (.t 33)
 (.seq
 (.reg [qA 2 (.mov (qI 29))] (some [2]))
 .ret)
 .skip))))))))))))))))))
 (.seq
 (.reg [qA 2 (.mov (qI 0))] (some [2]))
 .ret)))
theorem is_clavierref09number : IrOf Tryz.prog 45 35 ir_clavierref09number [.t 2] := ⟨_, Tryz.func45, rfl, by kernel_rfl, by kernel_rfl, by kernel_rfl⟩

def ir_clavierref09pad : ICode :=
 (.seq
 (.reg [qA 2 (.box 57 (.c (.agg [(.int .i64 0), (.int .u8 0), (.int .i64 0), (.int .i64 0), (.bool false)])))] (some [0,2]))
 (.seq
 (.reg [qA 5 (.bld [(.int .i64 0), (.int .u8 0), (.int .i64 0), (.int .i64 0), (.bool false)] [(0, 1, (qI 5)), (4, 1, (qB true))]),
 qA 3 (.box 57 (.c (.agg [(.int .i64 0), (.int .u8 0), (.int .i64 0), (.int .i64 0), (.bool false)]))),
 qN (.st 5 (.t 3) (.t 5))] (some [0,2,3]))
 (.seq
 (.seq
 (.reg [qM 6 0,
 qA 7 (.bin .leq .none (.t 6) (qI 57408))] (some [0,2,3,7]))
 (.cond (.t 7)
 (.seq
 (.reg [qM 8 0,
 qA 9 (.bin .add .none (qI 48) (.t 8)),
 qA 10 (.bin .sub .none (.t 9) (qI 57399)),
 qF 11 3 3,
 qN (.st 1 (.t 11) (.t 10))] (some [0,2,3]))
 (.seq
 (.reg [qM 12 0,
 qA 13 (.bin .add .none (qI 112) (.t 12)),
 qA 14 (.bin .sub .none (.t 13) (qI 57399)),
 qA 15 (.cvi .u8 (.t 14)),
 qF 16 1 3,
 qN (.st 1 (.t 16) (.t 15))] (some [2,3]))
 (.seq
 (.reg [qA 17 (.ld (some 5) (.t 3)),
 qN (.st 5 (.t 2) (.t 17))] (some [2]))
 .ret)))
 .skip))
 (.seq
 (.reg [qM 18 0,
 qA 19 (.bin .sub .none (.t 18) (qI 57409)),
 qM 4 19] (some [2,3,4]))
 (.seq
 (.reg [qM 20 4,
 qA 21 (.ixs (.c (.str [46, 47, 42, 45, 43, 13, 61, 44])) (.t 20)),
 qA 22 (.cvi .i64 (.t 21)),
 qF 23 3 3,
 qN (.st 1 (.t 23) (.t 22))] (some [2,3,4]))
 (.seq
 (.reg [qM 24 4,
 qA 25 (.ixs (.c (.str [110, 111, 106, 109, 107, 77, 88, 108])) (.t 24)),
 qF 26 1 3,
 qN (.st 1 (.t 26) (.t 25))] (some [2,3]))
 (.seq
 (.reg [qA 27 (.ld (some 5) (.t 3)),
 qN (.st 5 (.t 2) (.t 27))] (some [2]))
 .ret)))))))
theorem is_clavierref09pad : IrOf Tryz.prog 46 28 ir_clavierref09pad [.cell 2 (some 5)] := ⟨_, Tryz.func46, rfl, by kernel_rfl, by kernel_rfl, by kernel_rfl⟩

def ir_clavierref09rest : ICode :=
 (.seq
 (.reg [qA 2 (.mov (qI 0))] (some [0]))
 (.seq
 (.blk 0
 (.seq
 (.reg [qM 4 0,
 qA 5 (.bin .eql .none (.t 4) (qI 9)),
 qM 6 5,
 qG 7 6 false (.mov (.t 0)),
 qG 8 6 false (.bin .eql .none (.t 7) (qI 13)),
 qA 9 (.pick (.t 6) (qB true) (.t 8)),
 qM 10 9,
 qG 11 10 false (.mov (.t 0)),
 qG 12 10 false (.bin .eql .none (.t 11) (qI 27)),
 qA 13 (.pick (.t 10) (qB true) (.t 12)),
 qM 14 13,
 qG 15 14 false (.mov (.t 0)),
 qG 16 14 false (.bin .eql .none (.t 15) (qI 127)),
 qA 17 (.pick (.t 14) (qB true) (.t 16)),
 qM 3 17] (some [0,3]))
 (.cond (.t 3)
 (.seq
 (.reg [qA 2 (.mov (qI 2))] (some [2]))
 .ret)
 (.seq
 (.reg [qM 19 0,
 qA 20 (.bin .geq .none (.t 19) (qI 57358)),
 qM 21 20,
 qG 22 21 true (.mov (.t 0)),
 qG 23 21 true (.bin .leq .none (.t 22) (qI 57362)),
 qA 24 (.pick (.t 21) (.t 23) (qB false)),
 qM 25 24,
 qG 26 25 false (.mov (.t 0)),
 qG 27 25 false (.bin .geq .none (.t 26) (qI 57376)),
 qG 28 25 false (.mov (.t 27)),
 qG 29 28 true (.mov (.t 0)),
 qG 30 28 true (.bin .leq .none (.t 29) (qI 57398)),
 qG 31 25 false (.pick (.t 28) (.t 30) (qB false)),
 qA 32 (.pick (.t 25) (qB true) (.t 31)),
 qM 33 32,
 qG 34 33 false (.mov (.t 0)),
 qG 35 33 false (.bin .geq .none (.t 34) (qI 57428)),
 qG 36 33 false (.mov (.t 35)),
 qG 37 36 true (.mov (.t 0)),
 qG 38 36 true (.bin .leq .none (.t 37) (qI 57440)),
 qG 39 33 false (.pick (.t 36) (.t 38) (qB false)),
 qA 40 (.pick (.t 33) (qB true) (.t 39)),
 qM 18 40] (some [0,18]))
 (.cond (.t 18)
 (.seq
 (.reg [qA 2 (.mov (qI 6))] (some [2]))
 .ret)
 (.seq
 (.reg [qM 42 0,
 qA 43 (.bin .geq .none (.t 42) (qI 57441)),
 qM 44 43,
 qG 45 44 true (.mov (.t 0)),
 qG 46 44 true (.bin .leq .none (.t 45) (qI 57454)),
 qA 47 (.pick (.t 44) (.t 46) (qB false)),
 qM 41 47] (some [0,41]))
 (.cond (.t 41)
 (.seq
 (.reg [qA 2 (.mov (qI 7))] (some [2]))
 .ret)
 (.seq
 (.reg [qM 49 0,
 qA 50 (.call (qC 105) [(.t 49)]),
 qA 51 (.un .not (.t 50)),
 qM 52 51,
 qG 53 52 false (.mov (.t 0)),
 qG 54 52 false (.bin .lss .none (.t 53) (qI 32)),
 qA 55 (.pick (.t 52) (qB true) (.t 54)),
 qM 56 55,
 qG 57 56 false (.mov (.t 0)),
 qG 58 56 false (.bin .geq .none (.t 57) (qI 127)),
 qG 59 56 false (.mov (.t 58)),
 qG 60 59 true (.mov (.t 0)),
 qG 61 59 true (.bin .leq .none (.t 60) (qI 159)),
 qG 62 56 false (.pick (.t 59) (.t 61) (qB false)),
 qA 63 (.pick (.t 56) (qB true) (.t 62)),
 qM 64 63,
 qG 65 64 false (.mov (.t 0)),
 qG 66 64 false (.bin .geq .none (.t 65) (qI 57344)),
 qG 67 64 false (.mov (.t 66)),
 qG 68 67 true (.mov (.t 0)),
 qG 69 67 true (.bin .leq .none (.t 68) (qI 63743)),
 qG 70 64 false (.pick (.t 67) (.t 69) (qB false)),
 qA 71 (.pick (.t 64) (qB true) (.t 70)),
 qM 48 71] (some [48]))
 (.cond (.t 48)
 (.seq
 (.reg [qA 2 (.mov (qI 0))] (some [2]))
 .ret)
 .skip)))))))))
 (.seq
 (.reg [qA 2 (.mov (qI 1))] (some [2]))
 .ret)))
theorem is_clavierref09rest : IrOf Tryz.prog 47 72 ir_clavierref09rest [.t 2] := ⟨_, Tryz.func47, rfl, by kernel_rfl, by kernel_rfl, by kernel_rfl⟩

def ir_clavierref09Look : ICode :=
 (.seq
 (.reg [qA 2 (.box 57 (.c (.agg [(.int .i64 0), (.int .u8 0), (.int .i64 0), (.int .i64 0), (.bool false)])))] (some [0,2]))
 (.seq
 (.reg [qM 4 0,
 qA 5 (.bin .geq .none (.t 4) (qI 57399)),
 qM 3 5] (some [0,2,3]))
 (.seq
 (.seq
 (.reg [qM 6 0,
 qA 7 (.call (qC 44) [(.t 6)]),
 qA 8 (.bin .neq .none (.t 7) (.c (.int .u8 0)))] (some [0,2,3,8]))
 (.cond (.t 8)
 (.seq
 (.reg [qM 9 0,
 qA 10 (.call (qC 44) [(.t 9)]),
 qM 11 3,
 qA 12 (.bld [(.int .i64 0), (.int .u8 0), (.int .i64 0), (.int .i64 0), (.bool false)] [(0, 1, (qI 3)), (1, 1, (.t 10)), (4, 1, (.t 11))]),
 qN (.st 5 (.t 2) (.t 12))] (some [2]))
 .ret)
 .skip))
 (.seq
 (.seq
 (.reg [qM 13 0,
 qA 14 (.call (qC 45) [(.t 13)]),
 qA 15 (.bin .neq .none (.t 14) (qI 0))] (some [0,2,3,15]))
 (.cond (.t 15)
 (.seq
 (.reg [qM 16 0,
 qA 17 (.call (qC 45) [(.t 16)]),
 qM 18 3,
 qA 19 (.bld [(.int .i64 0), (.int .u8 0), (.int .i64 0), (.int .i64 0), (.bool false)] [(0, 1, (qI 4)), (2, 1, (.t 17)), (4, 1, (.t 18))]),
 qN (.st 5 (.t 2) (.t 19))] (some [2]))
 .ret)
 .skip))
 (.seq
 (.seq
 (.reg [qM 20 0,
 qA 21 (.bin .geq .none (.t 20) (qI 57399)),
 qM 22 21,
 qG 23 22 true (.mov (.t 0)),
 qG 24 22 true (.bin .leq .none (.t 23) (qI 57416)),
 qA 25 (.pick (.t 22) (.t 24) (qB false))] (some [0,2,25]))
 (.cond (.t 25)
 (.seq
 (.reg [qM 26 0,
 qA 27 (.call (qC 46) [(.t 26)]),
 qN (.st 5 (.t 2) (.t 27))] (some [2]))
 .ret)
 .skip))
 (.seq
 (.reg [qM 28 0,
 qA 29 (.call (qC 47) [(.t 28)]),
 qA 30 (.bld [(.int .i64 0), (.int .u8 0), (.int .i64 0), (.int .i64 0), (.bool false)] [(0, 1, (.t 29))]),
 qN (.st 5 (.t 2) (.t 30))] (some [2]))
 .ret))))))
theorem is_clavierref09Look : IrOf Tryz.prog 22 31 ir_clavierref09Look [.cell 2 (some 5)] := ⟨_, Tryz.func22, rfl, by kernel_rfl, by kernel_rfl, by kernel_rfl⟩

def numsV (l : List Nat) : AV := if l = [] then .nils else .sl none 1 (intsAV (l.map fun n : Nat => (n : Int)))
def rowAV (r : RowK) : List AV := [.int .i64 (r.lo : Int), .int .i64 (r.many : Int), .int .i64 (r.kind : Int), .str r.finals, numsV r.nums, .str r.chars]
theorem fs_rows {Gl : Gh → Prop} (hst : Stays Gl) : FS Tryz.prog Gl 154 [] [] [] (.sl none 6 (rowsK.map rowAV)) [] [] := by
  refine FS.ofW hm hst is_keysrows rfl (by simp) fun γ hγ hfr => ?_
  (generalize hQ : (fun (ex : Ex) (_ _ : Nat) (s : St) => _) = Q; unfold ir_keysrows)
  simp +contextual (maxSteps := 1000000) only [go_sem, ↓reduceIte, Nat.reduceAdd, Nat.reduceEqDiff, Nat.reduceLeDiff]
  rw [← hQ]
  exact ⟨trivial, .inl ⟨_, rfl, RepLe.anon' rfl⟩⟩
set_option maxHeartbeats 2000000 in
theorem fs_entry {Gl : Gh → Prop} (hst : Stays Gl) {r : RowK} {i : Nat} (h1 : r.finals ≠ [] → i < r.finals.length) (h2 : r.nums ≠ [] → i < r.nums.length) (h3 : r.chars ≠ [] → i < r.chars.length) (h4 : r.many < 1000) : FS Tryz.prog Gl 155 [.agg (rowAV r), .int .i64 (i : Int)] [] [] (.agg (entAV (r.ent i))) [] [] := by
  refine FS.ofW hm hst is_keysrowentry rfl (by simp) fun γ hγ hfr => ?_
  (generalize hQ : (fun (ex : Ex) (_ _ : Nat) (s : St) => _) = Q; unfold ir_keysrowentry)
  obtain ⟨lo, many, kind, finals, nums, chars⟩ := r
  simp only at h1 h2 h3 h4
  unfold rowAV
  have hb : (decide ((lo : Int) ≥ 57399) && (kind : Int) != 6 && (kind : Int) != 7) = (decide (57399 ≤ lo) && (decide (kind ≠ 6) && decide (kind ≠ 7))) := by
    rw [Bool.eq_iff_iff]; simp only [Bool.and_eq_true, decide_eq_true_eq, bne_iff_ne, ne_eq]; omega
  have hw : IntKind.i64.wrap ((chars.getD i 0).toNat : Int) = ((chars.getD i 0).toNat : Int) := by
    have := (chars.getD i 0).toNat_lt
    rw [IntKind.wrap_i64]; omega
  by_cases hf : finals = [] <;> by_cases hn : nums = [] <;> by_cases hc : chars = []
  · subst hf
    subst hn
    have hnv : numsV [] = .nils := rfl
    subst hc
    simp +contextual (maxSteps := 1000000) only [hnv, hw, Int.toNat_natCast, go_sem, reduceCtorEq, ↓reduceIte, Nat.reduceAdd, Nat.reduceEqDiff, Nat.reduceLeDiff]
    rw [← hQ]
    refine ⟨trivial, .inl ⟨.agg (entAV (RowK.ent _ i)), ?_, RepLe.refl _⟩⟩
    simp [resOf, getAll, IRes.get, lf, getH, entAV, RowK.ent, hb]
  · subst hf
    subst hn
    have hnv : numsV [] = .nils := rfl
    have qc : (decide (chars = [])) = false := by simp [hc]
    have lc1 := h3 hc
    simp +contextual (maxSteps := 1000000) only [hnv, qc, hw, Int.toNat_natCast, go_sem, reduceCtorEq, ↓reduceIte, Nat.reduceAdd, Nat.reduceEqDiff, Nat.reduceLeDiff]
    refine ⟨⟨by omega, by omega⟩, ?_⟩
    rw [← hQ]
    refine ⟨trivial, .inl ⟨.agg (entAV (RowK.ent _ i)), ?_, RepLe.refl _⟩⟩
    simp [resOf, getAll, IRes.get, lf, getH, entAV, RowK.ent, hb]
  · subst hf
    have hnv : numsV nums = .sl none 1 (intsAV (nums.map fun n : Nat => (n : Int))) := if_neg hn
    have ln1 := h2 hn
    have hgn : (intsAV (nums.map fun n : Nat => (n : Int))).getD i [] = [.int .i64 ((nums.getD i 0 : Nat) : Int)] := by
      rw [List.getD_eq_getElem?_getD, List.getD_eq_getElem?_getD, intsAV, List.map_map, List.getElem?_map, List.getElem?_eq_getElem ln1]; rfl
    have hrn : (intsAV (nums.map fun n : Nat => (n : Int)) ≠ []) = True := by
      rw [eq_iff_iff, iff_true]; intro e; have := congrArg List.length e; simp [intsAV] at this; exact hn this
    have hln : (intsAV (nums.map fun n : Nat => (n : Int))).length = nums.length := by simp [intsAV]
    subst hc
    simp +contextual (maxSteps := 1000000) only [hnv, hgn, hrn, hln, hw, Int.toNat_natCast, go_sem, reduceCtorEq, ↓reduceIte, Nat.reduceAdd, Nat.reduceEqDiff, Nat.reduceLeDiff]
    refine ⟨⟨by omega, by omega⟩, ?_⟩
    rw [← hQ]
    refine ⟨trivial, .inl ⟨.agg (entAV (RowK.ent _ i)), ?_, RepLe.refl _⟩⟩
    simp [resOf, getAll, IRes.get, lf, getH, entAV, RowK.ent, hb]
  · subst hf
    have hnv : numsV nums = .sl none 1 (intsAV (nums.map fun n : Nat => (n : Int))) := if_neg hn
    have ln1 := h2 hn
    have hgn : (intsAV (nums.map fun n : Nat => (n : Int))).getD i [] = [.int .i64 ((nums.getD i 0 : Nat) : Int)] := by
      rw [List.getD_eq_getElem?_getD, List.getD_eq_getElem?_getD, intsAV, List.map_map, List.getElem?_map, List.getElem?_eq_getElem ln1]; rfl
    have hrn : (intsAV (nums.map fun n : Nat => (n : Int)) ≠ []) = True := by
      rw [eq_iff_iff, iff_true]; intro e; have := congrArg List.length e; simp [intsAV] at this; exact hn this
    have hln : (intsAV (nums.map fun n : Nat => (n : Int))).length = nums.length := by simp [intsAV]
    have qc : (decide (chars = [])) = false := by simp [hc]
    have lc1 := h3 hc
    simp +contextual (maxSteps := 1000000) only [hnv, hgn, hrn, hln, qc, hw, Int.toNat_natCast, go_sem, reduceCtorEq, ↓reduceIte, Nat.reduceAdd, Nat.reduceEqDiff, Nat.reduceLeDiff]
    refine ⟨⟨by omega, by omega⟩, ⟨by omega, by omega⟩, ?_⟩
    rw [← hQ]
    refine ⟨trivial, .inl ⟨.agg (entAV (RowK.ent _ i)), ?_, RepLe.refl _⟩⟩
    simp [resOf, getAll, IRes.get, lf, getH, entAV, RowK.ent, hb]
  · have qf : (decide (finals = [])) = false := by simp [hf]
    have lf1 := h1 hf
    subst hn
    have hnv : numsV [] = .nils := rfl
    subst hc
    simp +contextual (maxSteps := 1000000) only [qf, hnv, hw, Int.toNat_natCast, go_sem, reduceCtorEq, ↓reduceIte, Nat.reduceAdd, Nat.reduceEqDiff, Nat.reduceLeDiff]
    refine ⟨⟨by omega, by omega⟩, ?_⟩
    rw [← hQ]
    refine ⟨trivial, .inl ⟨.agg (entAV (RowK.ent _ i)), ?_, RepLe.refl _⟩⟩
    simp [resOf, getAll, IRes.get, lf, getH, entAV, RowK.ent, hb]
  · have qf : (decide (finals = [])) = false := by simp [hf]
    have lf1 := h1 hf
    subst hn
    have hnv : numsV [] = .nils := rfl
    have qc : (decide (chars = [])) = false := by simp [hc]
    have lc1 := h3 hc
    simp +contextual (maxSteps := 1000000) only [qf, hnv, qc, hw, Int.toNat_natCast, go_sem, reduceCtorEq, ↓reduceIte, Nat.reduceAdd, Nat.reduceEqDiff, Nat.reduceLeDiff]
    refine ⟨⟨by omega, by omega⟩, ⟨by omega, by omega⟩, ?_⟩
    rw [← hQ]
    refine ⟨trivial, .inl ⟨.agg (entAV (RowK.ent _ i)), ?_, RepLe.refl _⟩⟩
    simp [resOf, getAll, IRes.get, lf, getH, entAV, RowK.ent, hb]
  · have qf : (decide (finals = [])) = false := by simp [hf]
    have lf1 := h1 hf
    have hnv : numsV nums = .sl none 1 (intsAV (nums.map fun n : Nat => (n : Int))) := if_neg hn
    have ln1 := h2 hn
    have hgn : (intsAV (nums.map fun n : Nat => (n : Int))).getD i [] = [.int .i64 ((nums.getD i 0 : Nat) : Int)] := by
      rw [List.getD_eq_getElem?_getD, List.getD_eq_getElem?_getD, intsAV, List.map_map, List.getElem?_map, List.getElem?_eq_getElem ln1]; rfl
    have hrn : (intsAV (nums.map fun n : Nat => (n : Int)) ≠ []) = True := by
      rw [eq_iff_iff, iff_true]; intro e; have := congrArg List.length e; simp [intsAV] at this; exact hn this
    have hln : (intsAV (nums.map fun n : Nat => (n : Int))).length = nums.length := by simp [intsAV]
    subst hc
    simp +contextual (maxSteps := 1000000) only [qf, hnv, hgn, hrn, hln, hw, Int.toNat_natCast, go_sem, reduceCtorEq, ↓reduceIte, Nat.reduceAdd, Nat.reduceEqDiff, Nat.reduceLeDiff]
    refine ⟨⟨by omega, by omega⟩, ⟨by omega, by omega⟩, ?_⟩
    rw [← hQ]
    refine ⟨trivial, .inl ⟨.agg (entAV (RowK.ent _ i)), ?_, RepLe.refl _⟩⟩
    simp [resOf, getAll, IRes.get, lf, getH, entAV, RowK.ent, hb]
  · have qf : (decide (finals = [])) = false := by simp [hf]
    have lf1 := h1 hf
    have hnv : numsV nums = .sl none 1 (intsAV (nums.map fun n : Nat => (n : Int))) := if_neg hn
    have ln1 := h2 hn
    have hgn : (intsAV (nums.map fun n : Nat => (n : Int))).getD i [] = [.int .i64 ((nums.getD i 0 : Nat) : Int)] := by
      rw [List.getD_eq_getElem?_getD, List.getD_eq_getElem?_getD, intsAV, List.map_map, List.getElem?_map, List.getElem?_eq_getElem ln1]; rfl
    have hrn : (intsAV (nums.map fun n : Nat => (n : Int)) ≠ []) = True := by
      rw [eq_iff_iff, iff_true]; intro e; have := congrArg List.length e; simp [intsAV] at this; exact hn this
    have hln : (intsAV (nums.map fun n : Nat => (n : Int))).length = nums.length := by simp [intsAV]
    have qc : (decide (chars = [])) = false := by simp [hc]
    have lc1 := h3 hc
    simp +contextual (maxSteps := 1000000) only [qf, hnv, hgn, hrn, hln, qc, hw, Int.toNat_natCast, go_sem, reduceCtorEq, ↓reduceIte, Nat.reduceAdd, Nat.reduceEqDiff, Nat.reduceLeDiff]
    refine ⟨⟨by omega, by omega⟩, ⟨by omega, by omega⟩, ⟨by omega, by omega⟩, ?_⟩
    rw [← hQ]
    refine ⟨trivial, .inl ⟨.agg (entAV (RowK.ent _ i)), ?_, RepLe.refl _⟩⟩
    simp [resOf, getAll, IRes.get, lf, getH, entAV, RowK.ent, hb]
end Go.Proofs.YtjankibepgnbfaaGreatDoor

namespace Go.Proofs.YtjankibepgnbfaaGreatDoor
open Go Go.Ab

set_option maxHeartbeats 2000000 in
theorem fs_letter {Gl : Gh → Prop} (hst : Stays Gl) {c : Int} : FS Tryz.prog Gl 44 [.int .i64 c] [] [] (.int .u8 ((letR c).toNat : Int)) [] [] := by
  refine FS.of hm hst is_clavierref09letter (by simp) fun γ hγ hfr => ?_
  (generalize hQ : (fun (ex : Ex) (_ _ : Nat) (s : St) => _) = Q; unfold ir_clavierref09letter)
  (simp +contextual (maxSteps := 1000000) only [go_sem, reduceCtorEq, ↓reduceIte, Nat.reduceAdd, Nat.reduceEqDiff]; repeat' first | ((first | refine kCond_split (fun hg => ?_) (fun hg => ?_) | refine kGc_split (fun hg => ?_) (fun hg => ?_) | refine kPreG_split (fun hg => ?_) (fun hg => ?_)) <;> (try rw [hg]) <;> simp +contextual (maxSteps := 1000000) only [go_sem, reduceCtorEq, ↓reduceIte, Nat.reduceAdd, Nat.reduceEqDiff]) | refine And.intro (by omega) ?_)
  all_goals
    simp only [beq_iff_eq, beq_eq_false_iff_ne, ne_eq, decide_eq_true_eq, decide_eq_false_iff_not, Bool.or_eq_true, Bool.and_eq_true, Bool.or_eq_false_iff, Bool.and_eq_false_iff] at *
    rw [← hQ]
    clear hQ hfr
    refine ⟨trivial, Ret.flat ?_ rfl⟩
    first
    | (subst_vars; rfl)
    | (have e : letR c = 0 := by
        unfold letR
        repeat (first | rfl | rw [if_neg (by omega)] | rw [if_pos (by omega)])
       rw [e]; rfl)
set_option maxHeartbeats 2000000 in
theorem fs_number {Gl : Gh → Prop} (hst : Stays Gl) {c : Int} : FS Tryz.prog Gl 45 [.int .i64 c] [] [] (.int .i64 (numR c)) [] [] := by
  refine FS.of hm hst is_clavierref09number (by simp) fun γ hγ hfr => ?_
  (generalize hQ : (fun (ex : Ex) (_ _ : Nat) (s : St) => _) = Q; unfold ir_clavierref09number)
  (simp +contextual (maxSteps := 1000000) only [go_sem, reduceCtorEq, ↓reduceIte, Nat.reduceAdd, Nat.reduceEqDiff]; repeat' first | ((first | refine kCond_split (fun hg => ?_) (fun hg => ?_) | refine kGc_split (fun hg => ?_) (fun hg => ?_) | refine kPreG_split (fun hg => ?_) (fun hg => ?_)) <;> (try rw [hg]) <;> simp +contextual (maxSteps := 1000000) only [go_sem, reduceCtorEq, ↓reduceIte, Nat.reduceAdd, Nat.reduceEqDiff]) | refine And.intro (by omega) ?_)
  all_goals
    simp only [beq_iff_eq, beq_eq_false_iff_ne, ne_eq, decide_eq_true_eq, decide_eq_false_iff_not, Bool.or_eq_true, Bool.and_eq_true, Bool.or_eq_false_iff, Bool.and_eq_false_iff] at *
    rw [← hQ]
    clear hQ hfr
    refine ⟨trivial, Ret.flat ?_ rfl⟩
    first
    | (subst_vars; rfl)
    | (have e : numR c = 0 := by
        unfold numR
        repeat (first | rfl | rw [if_neg (by omega)] | rw [if_pos (by omega)])
       rw [e]; rfl)
set_option maxHeartbeats 2000000 in
theorem fs_rest {Gl : Gh → Prop} (hst : Stays Gl) {c : Int} : FS Tryz.prog Gl 47 [.int .i64 c] [] [] (.int .i64 (restR c)) [] [] := by
  refine FS.of hm hst is_clavierref09rest (by simp) fun γ hγ hfr => ?_
  have c1 := fs_rIs (Gl := Gl) hst (r := c)
  (generalize hQ : (fun (ex : Ex) (_ _ : Nat) (s : St) => _) = Q; unfold ir_clavierref09rest)
  rcases Bool.eq_false_or_eq_true (isCP c) with hcp | hcp
  all_goals
    rw [hcp] at c1
    ((try simp +contextual (maxSteps := 1000000) only [go_sem, reduceCtorEq, ↓reduceIte, Nat.reduceAdd, Nat.reduceEqDiff]); repeat' first | ((first | refine kCond_split (fun hg => ?_) (fun hg => ?_) | refine kGc_split (fun hg => ?_) (fun hg => ?_) | refine kPreG_split (fun hg => ?_) (fun hg => ?_)) <;> (try rw [hg]) <;> simp +contextual (maxSteps := 1000000) only [go_sem, reduceCtorEq, ↓reduceIte, Nat.reduceAdd, Nat.reduceEqDiff]) | ((first | refine CallP.pure c1 (fun _ => rfl) ?_) <;> simp +contextual (maxSteps := 1000000) only [go_sem, reduceCtorEq, ↓reduceIte, Nat.reduceAdd, Nat.reduceEqDiff]) | refine And.intro (by omega) ?_)
  all_goals
    simp only [beq_iff_eq, beq_eq_false_iff_ne, ne_eq, decide_eq_true_eq, decide_eq_false_iff_not, Bool.or_eq_true, Bool.and_eq_true, Bool.or_eq_false_iff, Bool.and_eq_false_iff] at *
    rw [← hQ]
    clear hQ hfr c1
    refine ⟨trivial, Ret.flat (show some (AV.int .i64 _) = some (AV.int .i64 _) from congrArg (fun z => some (AV.int .i64 z)) ?_) rfl⟩
    simp only [restR, hcp, Bool.true_eq_false, false_or, true_or]
    repeat (first | rfl | rw [if_neg (by omega)] | rw [if_pos (by omega)] | rw [if_pos trivial])
set_option maxHeartbeats 2000000 in
theorem fs_pad {Gl : Gh → Prop} (hst : Stays Gl) {c : Int} (h1 : 57399 ≤ c) (h2 : c ≤ 57416) : FS Tryz.prog Gl 46 [.int .i64 c] [] [] (.agg (entAV (padR c))) [] [] := by
  refine FS.ofW hm hst is_clavierref09pad rfl (by simp) fun γ hγ hfr => ?_
  (generalize hQ : (fun (ex : Ex) (_ _ : Nat) (s : St) => _) = Q; unfold ir_clavierref09pad)
  by_cases hle : c ≤ 57408
  · have hd : decide (c ≤ 57408) = true := by simp [hle]
    have hw0 : IntKind.i64.wrap (IntKind.i64.wrap (48 + c) - 57399) = 48 + c - 57399 := by simp only [IntKind.wrap_i64]; omega
    have hw1 : IntKind.u8.wrap (IntKind.i64.wrap (IntKind.i64.wrap (112 + c) - 57399)) = ((UInt8.ofNat (112 + c - 57399).toNat).toNat : Int) := by
      refine u8v ?_ (by omega)
      simp only [IntKind.wrap_i64]; omega
    simp +contextual (maxSteps := 1000000) only [hd, hw0, hw1, go_sem, reduceCtorEq, ↓reduceIte, Nat.reduceAdd, Nat.reduceEqDiff, Nat.reduceLeDiff]
    rw [← hQ]
    refine ⟨trivial, .inl ⟨.agg (entAV (padR c)), ?_, RepLe.refl _⟩⟩
    have e : padR c = ⟨5, UInt8.ofNat (112 + c - 57399).toNat, 0, 48 + c - 57399, true⟩ := if_pos hle
    rw [e]
    simp [resOf, getAll, IRes.get, lf, getH, entAV]
  · have hd : decide (c ≤ 57408) = false := by simp [hle]
    have hw0 : IntKind.i64.wrap (c - 57409) = c - 57409 := by rw [IntKind.wrap_i64]; omega
    have hw1 : ∀ x : UInt8, IntKind.i64.wrap (x.toNat : Int) = (x.toNat : Int) := fun x => by
      have := x.toNat_lt
      rw [IntKind.wrap_i64]; omega
    simp +contextual (maxSteps := 1000000) only [hd, hw0, hw1, go_sem, reduceCtorEq, ↓reduceIte, Nat.reduceAdd, Nat.reduceEqDiff, Nat.reduceLeDiff]
    refine ⟨⟨by omega, by omega⟩, ⟨by omega, by omega⟩, ?_⟩
    rw [← hQ]
    refine ⟨trivial, .inl ⟨.agg (entAV (padR c)), ?_, RepLe.refl _⟩⟩
    have e : padR c = ⟨5, [110, 111, 106, 109, 107, 77, 88, 108].getD (c - 57409).toNat 0, 0, (([46, 47, 42, 45, 43, 13, 61, 44].getD (c - 57409).toNat 0 : UInt8).toNat : Int), true⟩ := if_neg hle
    rw [e]
    simp [resOf, getAll, IRes.get, lf, getH, entAV]
theorem fs_rLook {Gl : Gh → Prop} (hst : Stays Gl) {c : Int} : FS Tryz.prog Gl 22 [.int .i64 c] [] [] (.agg (entAV (lookR c))) [] [] := by
  refine FS.ofW hm hst is_clavierref09Look rfl (by simp) fun γ hγ hfr => ?_
  have hge : decide (c ≥ 57399) = decide (57399 ≤ c) := rfl
  (generalize hQ : (fun (ex : Ex) (_ _ : Nat) (s : St) => _) = Q; unfold ir_clavierref09Look)
  simp +contextual (maxSteps := 1000000) only [go_sem, reduceCtorEq, ↓reduceIte, Nat.reduceAdd, Nat.reduceEqDiff]
  by_cases h1 : letR c = 0
  · have hq1 : (((letR c).toNat : Int) != 0) = false := by rw [h1]; rfl
    (refine CallP.pure (fs_letter hst) (fun _ => rfl) ?_; simp +contextual (maxSteps := 1000000) only [hq1, go_sem, reduceCtorEq, ↓reduceIte, Nat.reduceAdd, Nat.reduceEqDiff])
    by_cases h2 : numR c = 0
    · have hq2 : ((numR c) != 0) = false := by rw [h2]; rfl
      (refine CallP.pure (fs_number hst) (fun _ => rfl) ?_; simp +contextual (maxSteps := 1000000) only [hq2, go_sem, reduceCtorEq, ↓reduceIte, Nat.reduceAdd, Nat.reduceEqDiff])
      by_cases h3 : 57399 ≤ c
      · have hq3 : decide (57399 ≤ c) = true := by simp [h3]
        by_cases h4 : c ≤ 57416
        · have hq4 : decide (c ≤ 57416) = true := by simp [h4]
          simp +contextual (maxSteps := 1000000) only [hq3, hq4, hge, go_sem, ↓reduceIte, Nat.reduceAdd]
          (refine CallP.pure (fs_pad hst h3 h4) (fun _ => rfl) ?_; simp +contextual (maxSteps := 1000000) only [go_sem, reduceCtorEq, ↓reduceIte, Nat.reduceAdd, Nat.reduceEqDiff])
          refine ⟨⟨rfl, by simp [entAV, oneL, AV.one]⟩, ?_⟩
          rw [← hQ]
          refine ⟨trivial, .inl ⟨.agg (entAV (lookR c)), ?_, RepLe.refl _⟩⟩
          have e : lookR c = padR c := by rw [lookR, if_neg (fun h => h h1), if_neg (fun h => h h2), if_pos ⟨h3, h4⟩]
          rw [e]
          simp [resOf, getAll, IRes.get, lf, getH, entAV]
        · have hq4 : decide (c ≤ 57416) = false := by simp [h4]
          simp +contextual (maxSteps := 1000000) only [hq3, hq4, hge, go_sem, ↓reduceIte, Nat.reduceAdd]
          (refine CallP.pure (fs_rest hst) (fun _ => rfl) ?_; simp +contextual (maxSteps := 1000000) only [go_sem, reduceCtorEq, ↓reduceIte, Nat.reduceAdd, Nat.reduceEqDiff, Nat.reduceLeDiff])
          rw [← hQ]
          refine ⟨trivial, .inl ⟨.agg (entAV (lookR c)), ?_, RepLe.refl _⟩⟩
          have e : lookR c = ⟨restR c, 0, 0, 0, false⟩ := by rw [lookR, if_neg (fun h => h h1), if_neg (fun h => h h2), if_neg (fun h => h4 h.2)]
          rw [e]
          simp [resOf, getAll, IRes.get, lf, getH, entAV]
      · have hq3 : decide (57399 ≤ c) = false := by simp [h3]
        have hq4 : decide (c ≤ 57416) = true := by simp; omega
        simp +contextual (maxSteps := 1000000) only [hq3, hq4, hge, go_sem, ↓reduceIte, Nat.reduceAdd]
        (refine CallP.pure (fs_rest hst) (fun _ => rfl) ?_; simp +contextual (maxSteps := 1000000) only [go_sem, reduceCtorEq, ↓reduceIte, Nat.reduceAdd, Nat.reduceEqDiff, Nat.reduceLeDiff])
        rw [← hQ]
        refine ⟨trivial, .inl ⟨.agg (entAV (lookR c)), ?_, RepLe.refl _⟩⟩
        have e : lookR c = ⟨restR c, 0, 0, 0, false⟩ := by rw [lookR, if_neg (fun h => h h1), if_neg (fun h => h h2), if_neg (fun h => h3 h.1)]
        rw [e]
        simp [resOf, getAll, IRes.get, lf, getH, entAV]
    · have hq2 : ((numR c) != 0) = true := by simp [h2]
      (refine CallP.pure (fs_number hst) (fun _ => rfl) ?_; simp +contextual (maxSteps := 1000000) only [hq2, go_sem, reduceCtorEq, ↓reduceIte, Nat.reduceAdd, Nat.reduceEqDiff])
      (refine CallP.pure (fs_number hst) (fun _ => rfl) ?_; simp +contextual (maxSteps := 1000000) only [hge, go_sem, reduceCtorEq, ↓reduceIte, Nat.reduceAdd, Nat.reduceEqDiff, Nat.reduceLeDiff])
      rw [← hQ]
      refine ⟨trivial, .inl ⟨.agg (entAV (lookR c)), ?_, RepLe.refl _⟩⟩
      have e : lookR c = ⟨4, 0, numR c, 0, decide (57399 ≤ c)⟩ := by rw [lookR, if_neg (fun h => h h1), if_pos h2]
      rw [e]
      simp [resOf, getAll, IRes.get, lf, getH, entAV]
  · have hq1 : (((letR c).toNat : Int) != 0) = true := by
      simp only [bne_iff_ne, ne_eq]
      intro e
      exact h1 (UInt8.toNat_inj.1 (by simpa using e))
    (refine CallP.pure (fs_letter hst) (fun _ => rfl) ?_; simp +contextual (maxSteps := 1000000) only [hq1, go_sem, reduceCtorEq, ↓reduceIte, Nat.reduceAdd, Nat.reduceEqDiff])
    (refine CallP.pure (fs_letter hst) (fun _ => rfl) ?_; simp +contextual (maxSteps := 1000000) only [hge, go_sem, reduceCtorEq, ↓reduceIte, Nat.reduceAdd, Nat.reduceEqDiff, Nat.reduceLeDiff])
    rw [← hQ]
    refine ⟨trivial, .inl ⟨.agg (entAV (lookR c)), ?_, RepLe.refl _⟩⟩
    have e : lookR c = ⟨3, letR c, 0, 0, decide (57399 ≤ c)⟩ := by rw [lookR, if_pos h1]
    rw [e]
    simp [resOf, getAll, IRes.get, lf, getH, entAV]
end Go.Proofs.YtjankibepgnbfaaGreatDoor

namespace Go.Proofs.YtjankibepgnbfaaGreatDoor
open Go Go.Ab
/- clavier/keys.all$1 -/
def ir_keysall1_l0 : ICode :=
 (.seq
 (.reg [qA 14 (.bin .lss .none (.t 13) (.t 12))] (some [0,3,5,6,7,12,13,14]))
 (.seq
 (.cond (.t 14)
 .skip
 (.exit 2))
 (.seq
 (.blk 3
 (.seq
 (.reg [qM 15 13,
 qM 4 15] (some [0,3,4,5,6,7,12,13]))
 (.seq
 (.drw [⟨qM 16 0, []⟩,
 ⟨qF 17 0 3, []⟩,
 ⟨qL 18 17, [1]⟩,
 ⟨qM 19 4, []⟩,
 ⟨qA 20 (.bin .add .none (.t 18) (.t 19)), [2,3]⟩,
 ⟨qA 21 (.ld (some 6) (.t 3)), []⟩,
 ⟨qM 22 4, []⟩,
 ⟨qA 23 (.call (qC 155) [(.t 21), (.t 22)]), [5,6]⟩]
 [qA 24 (.call (.t 16) [(.t 20), (.t 23)]),
 qA 25 (.un .not (.t 24))] (some [0,3,5,6,7,12,13,25]))
 (.cond (.t 25)
 .ret
 .skip))))
 (.reg [qA 26 (.bin .add .none (.t 13) (qI 1)),
 qM 13 26] (some [0,3,5,6,7,12,13])))))
def ir_keysall1_l1 : ICode :=
 (.seq
 (.reg [qA 8 (.bin .lss .none (.t 7) (.t 6))] (some [0,5,6,7,8]))
 (.seq
 (.cond (.t 8)
 .skip
 (.exit 0))
 (.seq
 (.blk 1
 (.seq
 (.reg [qA 9 (.ia 6 (.t 5) (.t 7)),
 qA 10 (.ld (some 6) (.t 9)),
 qA 3 (.box 180 (.c (.agg [(.int .i64 0), (.int .i64 0), (.int .i64 0), (.str []), .nils, (.str [])]))),
 qN (.st 6 (.t 3) (.t 10))] (some [0,3,5,6,7]))
 (.seq
 (.reg [qF 11 1 3,
 qL 12 11,
 qA 13 (.mov (qI 0))] (some [0,3,5,6,7,12,13]))
 (.blk 2
 (.loop
 ir_keysall1_l0)))))
 (.reg [qA 27 (.bin .add .none (.t 7) (qI 1)),
 qM 7 27] (some [0,5,6,7])))))
def ir_keysall1 : ICode :=
 (.seq
 (.reg [qA 5 (.call (qC 154) []),
 qA 6 (.len (.t 5)),
 qA 7 (.mov (qI 0))] (some [0,5,6,7]))
 (.blk 0
 (.loop
 ir_keysall1_l1)))
theorem is_keysall1 : IrOf Tryz.prog 153 28 ir_keysall1 [] := ⟨_, Tryz.func153, rfl, by kernel_rfl, by kernel_rfl, by kernel_rfl⟩

def ir_keysall : ICode :=
 (.seq
 (.reg [qA 0 (.mov (.c .nilf))] (some []))
 (.seq
 (.reg [qA 0 (.mov (qC 153))] (some [0]))
 .ret))
theorem is_keysall : IrOf Tryz.prog 110 1 ir_keysall [.t 0] := ⟨_, Tryz.func110, rfl, by kernel_rfl, by kernel_rfl, by kernel_rfl⟩

/- clavier/keys.Look -/
def ir_keysLook_b0 : ICode :=
 (.blk 1
 (.seq
 (.reg [qM 9 3,
 qL 10 1,
 qA 11 (.bin .eql .none (.t 9) (.t 10))] (some [2,4,11]))
 (.cond (.t 11)
 (.seq
 (.reg [qA 12 (.ld (some 5) (.t 4)),
 qN (.st 5 (.t 2) (.t 12))] (some []))
 .ret)
 .skip)))
def ir_keysLook : ICode :=
 (.seq
 (.reg [qA 1 (.box 3 (.t 0)),
 qA 2 (.box 98 (.c (.agg [(.int .i64 0), (.int .u8 0), (.int .i64 0), (.int .i64 0), (.bool false)])))] (some [1,2]))
 (.seq
 (.seq
 (.reg [qA 6 (.call (qC 110) [])] (some [1,2,6]))
 (.blk 0
 (.rgf (.t 6) [7, 8]
 (.seq
 (.reg [qM 3 7] (some [1,2,3,8]))
 (.reg [qA 4 (.box 98 (.c (.agg [(.int .i64 0), (.int .u8 0), (.int .i64 0), (.int .i64 0), (.bool false)]))),
 qN (.st 5 (.t 4) (.t 8))] (some [1,2,3,4])))
 ir_keysLook_b0)))
 (.seq
 (.reg [qL 13 1,
 qA 14 (.bin .lss .none (.t 13) (qI 32)),
 qM 15 14,
 qG 16 15 false (.ld none (.t 1)),
 qG 17 15 false (.bin .geq .none (.t 16) (qI 127)),
 qG 18 15 false (.mov (.t 17)),
 qG 19 18 true (.ld none (.t 1)),
 qG 20 18 true (.bin .leq .none (.t 19) (qI 159)),
 qG 21 15 false (.pick (.t 18) (.t 20) (qB false)),
 qA 22 (.pick (.t 15) (qB true) (.t 21)),
 qM 5 22] (some [1,2,5]))
 (.seq
 (.seq
 (.reg [qM 23 5,
 qM 24 23,
 qG 25 24 false (.ld none (.t 1)),
 qG 26 24 false (.bin .geq .none (.t 25) (qI 57344)),
 qG 27 24 false (.mov (.t 26)),
 qG 28 27 true (.ld none (.t 1)),
 qG 29 27 true (.bin .lss .none (.t 28) (qI 63744)),
 qG 30 24 false (.pick (.t 27) (.t 29) (qB false)),
 qA 31 (.pick (.t 24) (qB true) (.t 30)),
 qM 32 31,
 qG 33 32 false (.ld none (.t 1)),
 qG 34 32 false (.call (qC 111) [(.t 33)]),
 qG 35 32 false (.len (.t 34)),
 qG 36 32 false (.bin .eql .none (.t 35) (qI 0)),
 qA 37 (.pick (.t 32) (qB true) (.t 36))] (some [2,37]))
 (.cond (.t 37)
 (.seq
 (.reg [qA 38 (.bld [(.int .i64 0), (.int .u8 0), (.int .i64 0), (.int .i64 0), (.bool false)] []),
 qN (.st 5 (.t 2) (.t 38))] (some [2]))
 .ret)
 .skip))
 (.seq
 (.reg [qA 39 (.bld [(.int .i64 0), (.int .u8 0), (.int .i64 0), (.int .i64 0), (.bool false)] [(0, 1, (qI 1))]),
 qN (.st 5 (.t 2) (.t 39))] (some [2]))
 .ret)))))
theorem is_keysLook : IrOf Tryz.prog 55 40 ir_keysLook [.cell 2 (some 5)] := ⟨_, Tryz.func55, rfl, by kernel_rfl, by kernel_rfl, by kernel_rfl⟩

def rowD : RowK := ⟨0, 0, 0, [], [], []⟩
def rowK (i : Nat) : RowK := rowsK.getD i rowD
def offK (i : Nat) : Nat := ((rowsK.take i).flatMap RowK.all).length
theorem offK_succ : ∀ i : Fin 21, offK (i.val + 1) = offK i.val + (rowK i.val).many := by decide +kernel
theorem offK_all : offK 21 = allK.length := by decide +kernel
theorem allK_at : ∀ i : Fin 21, ∀ j : Fin 23, j.val < (rowK i.val).many → allK[offK i.val + j.val]? = some ((rowK i.val).lo + j.val, (rowK i.val).ent j.val) := by decide +kernel
theorem rowK_many : ∀ i : Fin 21, (rowK i.val).many ≤ 23 ∧ (rowK i.val).lo < 70000 := by decide +kernel
theorem rowK_fits : ∀ i : Fin 21, ((rowK i.val).finals = [] ∨ (rowK i.val).finals.length = (rowK i.val).many) ∧ ((rowK i.val).nums = [] ∨ (rowK i.val).nums.length = (rowK i.val).many) ∧ ((rowK i.val).chars = [] ∨ (rowK i.val).chars.length = (rowK i.val).many) := by decide +kernel
theorem rows_get {i : Nat} (h : i < 21) : (rowsK.map rowAV).getD i [] = rowAV (rowK i) := by
  have hl : i < rowsK.length := h
  rw [List.getD_eq_getElem?_getD, List.getElem?_map, rowK, List.getD_eq_getElem?_getD, List.getElem?_eq_getElem hl]; rfl
def keyAV (p : Nat × Ent) : List AV := [.int .i64 (p.1 : Int), .agg (entAV p.2)]
theorem rowAV_length (r : RowK) : (rowAV r).length = 6 := rfl
theorem rowAV_one (r : RowK) : oneL (rowAV r) = True := by
  rw [eq_iff_iff, iff_true]
  simp only [rowAV, numsV]
  split <;> simp [oneL, AV.one]
set_option maxHeartbeats 4000000 in
theorem it_keys {Gl : Gh → Prop} : IterS Tryz.prog Gl 153 [] [] (allK.map keyAV) := by
  intro Gl' hst hG id J Jx hJid hround H T hJ
  refine FSX.of hm hst is_keysall1 (by simp) fun γ hγ hfr => ?_
  have hlen : rowsK.length = 21 := rfl
  (generalize hQ : (fun (ex : Ex) (_ _ : Nat) (s : St) => _) = Q; unfold ir_keysall1)
  simp +contextual (maxSteps := 1000000) only [go_sem, Nat.reduceAdd]
  (refine CallP.pure (fs_rows hst) (fun _ => rfl) ?_; simp +contextual (maxSteps := 1000000) only [List.length_map, hlen, go_sem, reduceCtorEq, ↓reduceIte, Nat.reduceAdd, Nat.reduceEqDiff])
  refine kLoop_ix (fun q : Nat × Hp × Tk => ⟨lf [(0, .yl id), (5, .sl none 6 (rowsK.map rowAV)), (6, .int .i64 21), (7, .int .i64 (q.1 : Int))], q.2.1, q.2.2⟩)
    (fun q => q.1 ≤ 21 ∧ J (offK q.1) q.2.1 q.2.2) (fun q => 21 - q.1) 0 (0, H, T) ?_ ⟨by simp, hJ⟩ ?_
  · refine Wk.same ?_
    simp only [lfOK, upd, initF]
    repeat' first | exact AVle.refl _ _ | exact trivial | refine And.intro ?_ ?_ | exact AVle.int (by simp only [IntKind.wrap_i64]; omega)
  · rintro γ' ⟨i, Hi, Ti⟩ hf ⟨hi, hJi⟩
    simp only at hi hJi
    generalize hQ' : kIt _ _ _ _ _ = Q'
    unfold ir_keysall1_l1
    by_cases hlt : i < 21
    · have hd : decide ((i : Int) < 21) = true := by simp; omega
      have hg1 := rows_get hlt
      have hfresh : ∀ q ∈ Hi, q.1.1 ≠ γ' := fun q hq => hf.2.1 q hq
      have hs0 : ∀ hb, setH Hi (γ', 3, 0) hb = Hi := fun hb => setH_ne fun q hq e => hfresh q hq (by rw [e])
      have ht6 : ∀ r : RowK, List.take 6 (rowAV r) = rowAV r := fun r => rfl
      have hd1 : ∀ r : RowK, List.drop 1 (rowAV r) = [.int .i64 (r.many : Int), .int .i64 (r.kind : Int), .str r.finals, numsV r.nums, .str r.chars] := fun r => rfl
      have hm23 := rowK_many ⟨i, hlt⟩
      have hfit := rowK_fits ⟨i, hlt⟩
      have hoff := offK_succ ⟨i, hlt⟩
      simp only at hm23 hfit hoff
      simp +contextual (maxSteps := 1000000) only [hd, hg1, rowAV_length, rowAV_one, ht6, hd1, hs0, Int.toNat_natCast, List.length_map, hlen, go_sem, reduceCtorEq, ↓reduceIte, Nat.reduceAdd, Nat.reduceEqDiff]
      refine ⟨⟨by omega, by omega⟩, ?_⟩
      refine kLoop_ix (fun q : Nat × Hp × Tk => ⟨lf [(0, .yl id), (3, .ptr (γ', 3, 0) 0), (5, .sl none 6 (rowsK.map rowAV)), (6, .int .i64 21), (7, .int .i64 (i : Int)), (12, .int .i64 ((rowK i).many : Int)), (13, .int .i64 (q.1 : Int))], ((γ', 3, 0), .cells (rowAV (rowK i))) :: q.2.1, q.2.2⟩)
        (fun q => q.1 ≤ (rowK i).many ∧ J (offK i + q.1) q.2.1 q.2.2 ∧ ∀ p ∈ q.2.1, p.1 ≠ (γ', 3, 0)) (fun q => (rowK i).many - q.1) 0 (0, Hi, Ti) ?_ ⟨by simp, hJi, fun q hq e => hfresh q hq (by rw [e])⟩ ?_
      · refine Wk.same ?_
        simp only [lfOK, upd]
        repeat' first | exact AVle.refl _ _ | exact trivial | refine And.intro ?_ ?_ | exact AVle.int (by simp only [IntKind.wrap_i64]; omega)
      · rintro γ'' ⟨j, Hj, Tj⟩ hf2 ⟨hj, hJj, hnj⟩
        simp only at hj hJj hnj
        generalize hQ2 : kIt _ _ _ _ _ = Q2
        unfold ir_keysall1_l0
        by_cases hlj : j < (rowK i).many
        · have hd2 : decide ((j : Int) < ((rowK i).many : Int)) = true := by simp; omega
          have hat := allK_at ⟨i, hlt⟩ ⟨j, by omega⟩ hlj
          simp only at hat
          have hw : IntKind.i64.wrap (((rowK i).lo : Int) + (j : Int)) = (((rowK i).lo + j : Nat) : Int) := by rw [IntKind.wrap_i64]; omega
          have hrow : ∀ r : RowK, rowAV r = [.int .i64 (r.lo : Int), .int .i64 (r.many : Int), .int .i64 (r.kind : Int), .str r.finals, numsV r.nums, .str r.chars] := fun r => rfl
          have c1 := fs_entry (Gl := Gl') hst (r := rowK i) (i := j) (fun h => by rcases hfit.1 with h1 | h1; exact absurd h1 h; omega) (fun h => by rcases hfit.2.1 with h1 | h1; exact absurd h1 h; omega) (fun h => by rcases hfit.2.2 with h1 | h1; exact absurd h1 h; omega) (by omega)
          rw [hrow] at c1
          have hit : (allK.map keyAV)[offK i + j]? = some [.int .i64 (((rowK i).lo + j : Nat) : Int), .agg (entAV ((rowK i).ent j))] := by
            rw [List.getElem?_map, hat]; rfl
          simp +contextual (maxSteps := 1000000) only [hd2, hrow, hw, go_sem, reduceCtorEq, ↓reduceIte, Nat.reduceAdd, Nat.reduceEqDiff, Nat.reduceBEq]
          refine DCall.new c1 ?_
          simp +contextual (maxSteps := 1000000) only [go_sem, ↓reduceIte, Nat.reduceAdd, Nat.reduceEqDiff]
          refine CallY.splitN (Ha := [((γ', 3, 0), .cells [.int .i64 ((rowK i).lo : Int), .int .i64 ((rowK i).many : Int), .int .i64 ((rowK i).kind : Int), .str (rowK i).finals, numsV (rowK i).nums, .str (rowK i).chars])]) (hround (offK i + j) _ Hj Tj hit hJj) (fun p hp q hq => ?_) fun rv H1 T1 hR hN => ?_
          · simp only [List.mem_cons, List.not_mem_nil, or_false] at hp
            subst hp
            exact hnj q hq
          · rcases hR with ⟨rfl, hR⟩ | ⟨rfl, hR⟩
            · simp +contextual (maxSteps := 1000000) only [go_sem, reduceCtorEq, ↓reduceIte, Nat.reduceAdd, Nat.reduceEqDiff]
              rw [← hQ2]
              simp only [w_kIt_n]
              refine ⟨0, (j + 1, H1, T1), Wk.same ?_, ⟨by simp only; omega, hR, fun p hp => hN _ (List.mem_singleton.2 rfl) p hp⟩, by simp only; omega⟩
              repeat' first | exact AVle.refl _ _ | exact trivial | refine And.intro ?_ ?_ | exact AVle.int (by simp only [IntKind.wrap_i64]; omega)
            · simp +contextual (maxSteps := 1000000) only [go_sem, reduceCtorEq, ↓reduceIte, Nat.reduceAdd, Nat.reduceEqDiff]
              rw [← hQ2]
              simp only [w_kIt_r, w_kBlk_r, w_kSeq_r]
              rw [← hQ']
              simp only [w_kIt_r, w_kBlk_r, w_kSeq_r]
              rw [← hQ]
              exact ⟨trivial, H1, T1, .inr hR, fun p hp => by simp [hp], fun t ht => ht⟩
        · have hd2 : decide ((j : Int) < ((rowK i).many : Int)) = false := by simp; omega
          have hjm : j = (rowK i).many := by omega
          subst hjm
          simp +contextual (maxSteps := 1000000) only [hd2, go_sem, reduceCtorEq, ↓reduceIte, Nat.reduceAdd, Nat.reduceEqDiff]
          rw [← hQ2]
          simp only [w_kIt_e, w_kBlk_e, ↓reduceIte]
          simp +contextual (maxSteps := 1000000) only [go_sem, reduceCtorEq, ↓reduceIte, Nat.reduceAdd, Nat.reduceEqDiff]
          rw [← hQ']
          simp only [w_kIt_n]
          refine ⟨0, (i + 1, Hj, Tj), Wk.perm ?_ (fun p hp => List.mem_cons_of_mem _ hp), ⟨by simp only; omega, ?_⟩, by simp only; omega⟩
          · repeat' first | exact AVle.refl _ _ | exact trivial | refine And.intro ?_ ?_ | exact AVle.int (by simp only [IntKind.wrap_i64]; omega)
          · simp only; rw [hoff]; exact hJj
    · have hi21 : i = 21 := by omega
      subst hi21
      have hd : decide (((21 : Nat) : Int) < 21) = false := by simp
      simp +contextual (maxSteps := 1000000) only [hd, go_sem, reduceCtorEq, ↓reduceIte, Nat.reduceAdd, Nat.reduceEqDiff, Int.reduceLT]
      rw [← hQ']
      simp only [w_kIt_e, w_kBlk_e, ↓reduceIte]
      rw [← hQ]
      rw [offK_all] at hJi
      refine ⟨trivial, Hi, Ti, .inl ?_, fun p hp => hp, fun t ht => ht⟩
      rw [List.length_map]; exact hJi
theorem fs_all {Gl : Gh → Prop} (hst : Stays Gl) : FS Tryz.prog Gl 110 [] [] [] (.fn (.func 153) [] []) [] [] := by
  refine FS.of hm hst is_keysall (by simp) fun γ hγ hfr => ?_
  (generalize hQ : (fun (ex : Ex) (_ _ : Nat) (s : St) => _) = Q; unfold ir_keysall)
  simp +contextual (maxSteps := 1000000) only [go_sem, ↓reduceIte, Nat.reduceAdd]
  rw [← hQ]
  exact ⟨trivial, Ret.plain rfl rfl (by simp) (by simp) ⟨trivial, trivial⟩ (by simp) (by simp)⟩
theorem getH_ne {id : Nm} : ∀ {H : Hp}, (∀ q ∈ H, q.1 ≠ id) → getH H id = none
  | [], _ => rfl
  | p :: H, h => by
    rw [getH_cons, if_neg (h p List.mem_cons_self)]
    exact getH_ne fun q hq => h q (List.mem_cons_of_mem _ hq)
theorem getH_append {id : Nm} : ∀ {H H' : Hp}, getH (H ++ H') id = match getH H id with | some x => some x | none => getH H' id
  | [], _ => rfl
  | p :: H, H' => by
    rw [List.cons_append, getH_cons, getH_cons]
    by_cases h : p.1 = id
    · rw [if_pos h, if_pos h]
    · rw [if_neg h, if_neg h]; exact getH_append
theorem setH_append {id : Nm} {hb : HB} {H H' : Hp} : setH (H ++ H') id hb = setH H id hb ++ setH H' id hb := by simp [setH]
set_option maxHeartbeats 4000000 in
theorem fs_Look {Gl : Gh → Prop} (hst : Stays Gl) {c : Int} : FS Tryz.prog Gl 55 [.int .i64 c] [] [] (.agg (entAV (lookR c))) [] [] := by
  rw [← lookK_eq]
  refine FS.ofW hm hst is_keysLook rfl (by simp) fun γ hγ hfr => ?_
  (generalize hQ : (fun (ex : Ex) (_ _ : Nat) (s : St) => _) = Q; unfold ir_keysLook)
  simp +contextual (maxSteps := 1000000) only [go_sem, ↓reduceIte, Nat.reduceAdd, Nat.reduceEqDiff]
  refine CallP.of (fs_all hst) (by simp) (by simp) ?_
  simp +contextual (maxSteps := 1000000) only [go_sem, ↓reduceIte, Nat.reduceEqDiff]
  refine rgf_of rfl (allK.map keyAV)
    (fun i H T => (∀ p ∈ allK.take i, (p.1 : Int) ≠ c) ∧ ∃ pre : Hp, (∀ q ∈ pre, γ < q.1.1) ∧ H = pre ++ [((γ, 1, 0), .cells [.int .i64 0, .int .u8 0, .int .i64 0, .int .i64 0, .bool false]), ((γ, 0, 0), .cells [.int .i64 c])])
    (fun ex H T => ex = .ret ∧ ∃ (i : Nat) (p : Nat × Ent), allK[i]? = some p ∧ (p.1 : Int) = c ∧ (∀ q ∈ allK.take i, (q.1 : Int) ≠ c) ∧ ((γ, 1, 0), .cells (entAV p.2)) ∈ H)
    [] [((γ, 1, 0), .cells [.int .i64 0, .int .u8 0, .int .i64 0, .int .i64 0, .bool false]), ((γ, 0, 0), .cells [.int .i64 c])] (fun _ => False)
    it_keys (by simp) (by simp) (by simp) (by simp) ⟨by simp, [], by simp, rfl⟩ (fun x hx => by obtain ⟨p, _, rfl⟩ := List.mem_map.1 hx; rfl) ?_ ?_ ?_
  · rintro Gl' hst' hG i x H T γ' hx ⟨hne, pre, hpre, rfl⟩ hlt hfr'
    simp only [List.getElem?_map, Option.map_eq_some_iff] at hx
    obtain ⟨⟨k, e⟩, hp, rfl⟩ := hx
    have htk : allK.take (i + 1) = allK.take i ++ [(k, e)] := by rw [List.take_add_one, hp]; rfl
    have hke : keyAV (k, e) = [.int .i64 (k : Int), .agg [.int .i64 e.kind, .int .u8 (e.final.toNat : Int), .int .i64 e.num, .int .i64 e.char, .bool e.keys]] := rfl
    generalize hK : kBd _ _ _ = K
    unfold ir_keysLook_b0
    have hg1 : (γ = γ') = False := by rw [eq_iff_iff, iff_false]; omega
    have hg2 : (γ' = γ) = False := by rw [eq_iff_iff, iff_false]; omega
    have hn : ∀ q ∈ pre ++ [((γ, 1, 0), .cells [.int .i64 0, .int .u8 0, .int .i64 0, .int .i64 0, .bool false]), ((γ, 0, 0), .cells [.int .i64 c])], q.1.1 ≠ γ' := fun q hq => hfr'.1 q hq
    have hs0 : ∀ hb, setH (pre ++ [((γ, 1, 0), .cells [.int .i64 0, .int .u8 0, .int .i64 0, .int .i64 0, .bool false]), ((γ, 0, 0), .cells [.int .i64 c])]) (γ', 1, 0) hb = pre ++ [((γ, 1, 0), .cells [.int .i64 0, .int .u8 0, .int .i64 0, .int .i64 0, .bool false]), ((γ, 0, 0), .cells [.int .i64 c])] := fun hb => setH_ne fun q hq e => hn q hq (by rw [e])
    have hp0 : getH pre (γ, 0, 0) = none := getH_ne fun q hq e => by have := hpre q hq; rw [e] at this; simp only at this; omega
    have hp1 : getH pre (γ, 1, 0) = none := getH_ne fun q hq e => by have := hpre q hq; rw [e] at this; simp only at this; omega
    have hr0 : getH (pre ++ [((γ, 1, 0), .cells [.int .i64 0, .int .u8 0, .int .i64 0, .int .i64 0, .bool false]), ((γ, 0, 0), .cells [.int .i64 c])]) (γ, 0, 0) = some (.cells [.int .i64 c]) := by rw [getH_append, hp0]; simp [getH]
    have hr1 : getH (pre ++ [((γ, 1, 0), .cells [.int .i64 0, .int .u8 0, .int .i64 0, .int .i64 0, .bool false]), ((γ, 0, 0), .cells [.int .i64 c])]) (γ, 1, 0) = some (.cells [.int .i64 0, .int .u8 0, .int .i64 0, .int .i64 0, .bool false]) := by rw [getH_append, hp1]; simp [getH]
    have hs1 : ∀ hb, setH (pre ++ [((γ, 1, 0), .cells [.int .i64 0, .int .u8 0, .int .i64 0, .int .i64 0, .bool false]), ((γ, 0, 0), .cells [.int .i64 c])]) (γ, 1, 0) hb = pre ++ [((γ, 1, 0), hb), ((γ, 0, 0), .cells [.int .i64 c])] := fun hb => by
      have : setH pre (γ, 1, 0) hb = pre := setH_ne fun q hq e => by have := hpre q hq; rw [e] at this; simp only at this; omega
      rw [setH_append, this]; simp [setH]
    by_cases hkc : (k : Int) = c
    · have hd : ((k : Int) == c) = true := by simp [hkc]
      simp +contextual (maxSteps := 1000000) only [hke, hd, hg1, hg2, false_and, hs0, hr0, hr1, hs1, go_sem, reduceCtorEq, ↓reduceIte, Nat.reduceAdd, Nat.reduceEqDiff]
      rw [← hK]
      refine ⟨rfl, i, (k, e), hp, hkc, hne, ?_⟩
      simp [entAV]
    · have hd : ((k : Int) == c) = false := by simp [hkc]
      simp +contextual (maxSteps := 1000000) only [hke, hd, hg1, hg2, false_and, hs0, hr0, hr1, hs1, go_sem, reduceCtorEq, ↓reduceIte, Nat.reduceAdd, Nat.reduceEqDiff]
      rw [← hK]
      refine ⟨fun p hp' => ?_, ((γ', 1, 0), .cells [.int .i64 e.kind, .int .u8 (e.final.toNat : Int), .int .i64 e.num, .int .i64 e.char, .bool e.keys]) :: pre, fun q hq => ?_, rfl⟩
      · rw [htk] at hp'
        rcases List.mem_append.1 hp' with h | h
        · exact hne p h
        · simp only [List.mem_singleton] at h; rw [h]; exact hkc
      · rcases List.mem_cons.1 hq with rfl | h
        · exact hlt
        · exact hpre q h
  · rintro H1 T1 ⟨hne, pre, hpre, rfl⟩
    rw [List.length_map, List.take_length] at hne
    have hlk : lookK c = if isCP c = false ∨ c < 32 ∨ (127 ≤ c ∧ c ≤ 159) ∨ (57344 ≤ c ∧ c ≤ 63743) then ⟨0, 0, 0, 0, false⟩ else ⟨1, 0, 0, 0, false⟩ := by
      have : (allK.find? fun p => decide ((p.1 : Int) = c)) = none := by
        rw [List.find?_eq_none]; intro p hp; simpa using hne p hp
      rw [lookK, this]
    refine ⟨[((γ, 1, 0), .cells [.int .i64 0, .int .u8 0, .int .i64 0, .int .i64 0, .bool false]), ((γ, 0, 0), .cells [.int .i64 c])], T1, fun p hp => List.mem_append.2 (.inl (List.mem_append.2 (.inr hp))), fun _ h => .inl h, ?_⟩
    by_cases hA : (c < 32 ∨ (127 ≤ c ∧ c ≤ 159)) ∨ (57344 ≤ c ∧ c ≤ 63743)
    · have hA2 : (decide (c < 32) || (decide (c ≥ 127) && decide (c ≤ 159)) || (decide (c ≥ 57344) && decide (c < 63744))) = true := by
        simp only [Bool.or_eq_true, Bool.and_eq_true, decide_eq_true_eq]; omega
      have hfin : lookK c = ⟨0, 0, 0, 0, false⟩ := by rw [hlk, if_pos (by omega)]
      simp +contextual (maxSteps := 1000000) only [hA2, go_sem, reduceCtorEq, ↓reduceIte, Nat.reduceAdd, Nat.reduceEqDiff]
      rw [← hQ, hfin]
      refine ⟨trivial, .inl ⟨.agg (entAV ⟨0, 0, 0, 0, false⟩), ?_, RepLe.refl _⟩⟩
      simp [resOf, getAll, IRes.get, lf, getH, entAV]
    · have hA2 : (decide (c < 32) || (decide (c ≥ 127) && decide (c ≤ 159)) || (decide (c ≥ 57344) && decide (c < 63744))) = false := by
        rw [Bool.eq_false_iff]
        simp only [ne_eq, Bool.or_eq_true, Bool.and_eq_true, decide_eq_true_eq]; omega
      simp +contextual (maxSteps := 1000000) only [hA2, go_sem, reduceCtorEq, ↓reduceIte, Nat.reduceAdd, Nat.reduceEqDiff]
      have hpl : (((putU c).length : Int) == 0) = !isCP c := by
        cases h : isCP c with
        | false => rw [putU, if_neg (by rw [h]; simp)]; rfl
        | true =>
          have := List.length_pos_iff.2 (putU_ne.2 h)
          simp only [Bool.not_true, beq_eq_false_iff_ne, ne_eq]; omega
      (refine CallP.pure (fs_putU hst) (fun _ => rfl) ?_; simp +contextual (maxSteps := 1000000) only [bytesAV_length', hpl, go_sem, reduceCtorEq, ↓reduceIte, Nat.reduceAdd, Nat.reduceEqDiff])
      cases h : isCP c with
      | false =>
        have hfin : lookK c = ⟨0, 0, 0, 0, false⟩ := by rw [hlk, if_pos (.inl h)]
        simp +contextual (maxSteps := 1000000) only [h, go_sem, reduceCtorEq, ↓reduceIte, Nat.reduceAdd, Nat.reduceEqDiff]
        rw [← hQ, hfin]
        refine ⟨trivial, .inl ⟨.agg (entAV ⟨0, 0, 0, 0, false⟩), ?_, RepLe.refl _⟩⟩
        simp [resOf, getAll, IRes.get, lf, getH, entAV]
      | true =>
        have hfin : lookK c = ⟨1, 0, 0, 0, false⟩ := by
          rw [hlk, if_neg]
          rintro (h' | h')
          · rw [h] at h'; cases h'
          · omega
        simp +contextual (maxSteps := 1000000) only [h, go_sem, reduceCtorEq, ↓reduceIte, Nat.reduceAdd, Nat.reduceEqDiff, Nat.reduceLeDiff]
        rw [← hQ, hfin]
        refine ⟨trivial, .inl ⟨.agg (entAV ⟨1, 0, 0, 0, false⟩), ?_, RepLe.refl _⟩⟩
        simp [resOf, getAll, IRes.get, lf, getH, entAV]
  · rintro ex H1 T1 ⟨rfl, i, p, hp, hpc, hne, hm'⟩
    have hlk : lookK c = p.2 := by
      have : (allK.find? fun p => decide ((p.1 : Int) = c)) = some p := by
        have hil := (List.getElem?_eq_some_iff.1 hp).1
        have hs : allK = allK.take i ++ p :: allK.drop (i + 1) := by
          rw [← (List.getElem?_eq_some_iff.1 hp).2, List.getElem_cons_drop, List.take_append_drop]
        rw [hs, List.find?_append]
        have h1 : ((allK.take i).find? fun p => decide ((p.1 : Int) = c)) = none := by
          rw [List.find?_eq_none]; intro q hq; simpa using hne q hq
        rw [h1]
        simp [hpc]
      rw [lookK, this]
    refine ⟨[((γ, 1, 0), .cells (entAV p.2))], fun _ => False, fun q hq => List.mem_append.2 (.inl ?_), fun _ h => h.elim, ?_⟩
    · simp only [List.mem_cons, List.not_mem_nil, or_false] at hq
      subst hq; exact hm'
    · simp only [w_kBlk_r, w_kSeq_r]
      rw [← hQ, hlk]
      refine ⟨trivial, .inl ⟨.agg (entAV p.2), ?_, RepLe.refl _⟩⟩
      simp [resOf, getAll, IRes.get, lf, getH, entAV]
end Go.Proofs.YtjankibepgnbfaaGreatDoor

namespace Go.Proofs.YtjankibepgnbfaaGreatDoor
open Go Go.Ab
def ir_kittyForm : ICode :=
 (.seq
 (.reg [qA 2 (.mov (qI 0)),
 qA 3 (.mov (.c (.int .u8 0)))] (some [0]))
 (.seq
 (.seq
 (.reg [qM 5 0,
 qA 6 (.call (qC 55) [(.t 5)]),
 qA 4 (.box 98 (.c (.agg [(.int .i64 0), (.int .u8 0), (.int .i64 0), (.int .i64 0), (.bool false)]))),
 qN (.st 5 (.t 4) (.t 6))] (some [0,4]))
 (.blk 0
 (.seq
 (.reg [qF 8 0 4,
 qL 9 8,
 qA 10 (.bin .eql .none (.t 9) (qI 0)),
 qM 7 10] (some [0,4,7]))
 (.cond (.t 7)
 (.seq
 (.reg [qA 2 (.mov (qI 0)),
 qA 3 (.mov (.c (.int .u8 0)))] (some [2,3]))
 .ret)
 (.seq
 (.reg [qM 12 0,
 qA 13 (.bin .eql .none (.t 12) (qI 57366)),
 qM 11 13] (some [0,4,11]))
 (.cond (.t 11)
 (.seq
 (.reg [qA 2 (.mov (qI 13)),
 qA 3 (.mov (.c (.int .u8 126)))] (some [2,3]))
 .ret)
 (.seq
 (.reg [qF 15 0 4,
 qL 16 15,
 qA 17 (.bin .eql .none (.t 16) (qI 3)),
 qM 18 17,
 qG 19 18 true (.fa 4 (.t 4)),
 qG 20 18 true (.ld none (.t 19)),
 qG 21 18 true (.un .not (.t 20)),
 qA 22 (.pick (.t 18) (.t 21) (qB false)),
 qM 14 22] (some [0,4,14]))
 (.cond (.t 14)
 (.seq
 (.drw [⟨qF 23 1 4, []⟩,
 ⟨qL 24 23, [0]⟩,
 ⟨qA 2 (.mov (qI 1)), []⟩]
 [qM 3 24] (some [2,3]))
 .ret)
 (.seq
 (.reg [qF 26 0 4,
 qL 27 26,
 qA 28 (.bin .eql .none (.t 27) (qI 4)),
 qM 29 28,
 qG 30 29 true (.fa 4 (.t 4)),
 qG 31 29 true (.ld none (.t 30)),
 qG 32 29 true (.un .not (.t 31)),
 qA 33 (.pick (.t 29) (.t 32) (qB false)),
 qM 25 33] (some [0,4,25]))
 (.cond (.t 25)
 (.seq
 (.reg [qF 34 2 4,
 qL 35 34,
 qM 2 35,
 qA 3 (.mov (.c (.int .u8 126)))] (some [2,3]))
 .ret)
 .skip))))))))))
 (.seq
 (.reg [qM 36 0,
 qM 2 36,
 qA 3 (.mov (.c (.int .u8 117)))] (some [2,3]))
 .ret)))
theorem is_kittyForm : IrOf Tryz.prog 59 37 ir_kittyForm [.t 2, .t 3] := ⟨_, Tryz.func59, rfl, by kernel_rfl, by kernel_rfl, by kernel_rfl⟩

def ir_modsParam : ICode :=
 (.seq
 (.reg [qA 2 (.mov (qI 0))] (some [0]))
 (.seq
 (.seq
 (.reg [qM 3 0,
 qA 4 (.bin .lss .none (.t 3) (qI 0)),
 qM 5 4,
 qG 6 5 false (.mov (.t 0)),
 qG 7 5 false (.bin .gtr .none (.t 6) (qI 255)),
 qA 8 (.pick (.t 5) (qB true) (.t 7))] (some [0,8]))
 (.cond (.t 8)
 (.seq
 (.reg [qA 2 (.mov (qI 1))] (some [2]))
 .ret)
 .skip))
 (.seq
 (.reg [qM 9 0,
 qA 10 (.bin .add .none (.t 9) (qI 1)),
 qM 2 10] (some [2]))
 .ret)))
theorem is_modsParam : IrOf Tryz.prog 69 11 ir_modsParam [.t 2] := ⟨_, Tryz.func69, rfl, by kernel_rfl, by kernel_rfl, by kernel_rfl⟩

def ir_modsShown : ICode :=
 (.seq
 (.reg [qA 1 (.box 27 (.t 0)),
 qA 2 (.mov (qI 0))] (some [1]))
 (.seq
 (.blk 0
 (.seq
 (.reg [qF 4 1 1,
 qL 5 4,
 qA 6 (.mm false (.t 5) (qI 0)),
 qA 7 (.bin .and .none (.t 6) (qI 1)),
 qA 8 (.bin .eql .none (.t 7) (qI 0)),
 qM 3 8] (some [1,3]))
 (.cond (.t 3)
 (.seq
 (.reg [qF 9 0 1,
 qL 10 9,
 qM 2 10] (some [2]))
 .ret)
 (.seq
 (.reg [qF 12 3 1,
 qL 13 12,
 qA 14 (.bin .neq .none (.t 13) (qI 0)),
 qM 11 14] (some [1,11]))
 (.cond (.t 11)
 (.seq
 (.reg [qF 15 3 1,
 qL 16 15,
 qM 2 16] (some [2]))
 .ret)
 (.seq
 (.reg [qF 18 0 1,
 qL 19 18,
 qA 20 (.bin .geq .none (.t 19) (qI 97)),
 qM 21 20,
 qG 22 21 true (.fa 0 (.t 1)),
 qG 23 21 true (.ld none (.t 22)),
 qG 24 21 true (.bin .leq .none (.t 23) (qI 122)),
 qA 25 (.pick (.t 21) (.t 24) (qB false)),
 qM 17 25] (some [1,17]))
 (.cond (.t 17)
 (.seq
 (.reg [qF 26 0 1,
 qL 27 26,
 qA 28 (.bin .sub .none (.t 27) (qI 97)),
 qA 29 (.bin .add .none (.t 28) (qI 65)),
 qM 2 29] (some [2]))
 .ret)
 .skip)))))))
 (.seq
 (.reg [qF 30 0 1,
 qL 31 30,
 qM 2 31] (some [2]))
 .ret)))
theorem is_modsShown : IrOf Tryz.prog 117 32 ir_modsShown [.t 2] := ⟨_, Tryz.func117, rfl, by kernel_rfl, by kernel_rfl, by kernel_rfl⟩

def ir_clavierref10text : ICode :=
 (.seq
 (.reg [qA 2 (.mov (qB false))] (some [0]))
 (.seq
 (.reg [qM 3 0,
 qA 4 (.call (qC 22) [(.t 3)]),
 qA 5 (.fld 0 none (.t 4)),
 qA 6 (.bin .eql .none (.t 5) (qI 1)),
 qM 2 6] (some [2]))
 .ret))
theorem is_clavierref10text : IrOf Tryz.prog 23 7 ir_clavierref10text [.t 2] := ⟨_, Tryz.func23, rfl, by kernel_rfl, by kernel_rfl, by kernel_rfl⟩

/- clavier/clavierref10.clean -/
def ir_clavierref10clean_l0 : ICode :=
 (.seq
 (.seq
 (.reg [qM 19 5,
 qM 20 3,
 qA 21 (.len (.t 20)),
 qA 22 (.bin .lss .none (.t 19) (.t 21))] (some [3,5,22]))
 (.cond (.t 22)
 .skip
 (.exit 0)))
 (.seq
 (.blk 1
 (.seq
 (.reg [qM 25 3,
 qM 26 5,
 qA 27 (.ia 1 (.t 25) (.t 26)),
 qL 28 27,
 qA 29 (.bin .lss .none (.t 28) (qI 32)),
 qM 30 29,
 qG 31 30 false (.mov (.t 3)),
 qG 32 30 false (.mov (.t 5)),
 qG 33 30 false (.ia 1 (.t 31) (.t 32)),
 qG 34 30 false (.ld none (.t 33)),
 qG 35 30 false (.bin .geq .none (.t 34) (qI 127)),
 qG 36 30 false (.mov (.t 35)),
 qG 37 36 true (.mov (.t 3)),
 qG 38 36 true (.mov (.t 5)),
 qG 39 36 true (.ia 1 (.t 37) (.t 38)),
 qG 40 36 true (.ld none (.t 39)),
 qG 41 36 true (.bin .leq .none (.t 40) (qI 159)),
 qG 42 30 false (.pick (.t 36) (.t 41) (qB false)),
 qA 43 (.pick (.t 30) (qB true) (.t 42))] (some [3,5,43]))
 (.cond (.t 43)
 (.seq
 (.reg [qA 2 (.mov (qB false))] (some [2]))
 .ret)
 .skip)))
 (.reg [qM 23 5,
 qA 24 (.bin .add .none (.t 23) (qI 1)),
 qM 5 24] (some [3,5]))))
def ir_clavierref10clean : ICode :=
 (.seq
 (.reg [qA 2 (.mov (qB false))] (some [0]))
 (.seq
 (.reg [qM 7 0,
 qA 8 (.s2b 5 (.t 7)),
 qA 9 (.call (qC 48) [(.t 8)]),
 qM 6 9,
 qE 10 6 0,
 qE 11 6 1,
 qM 3 10,
 qM 4 11] (some [3,4]))
 (.seq
 (.seq
 (.reg [qM 12 4,
 qA 13 (.un .not (.t 12)),
 qM 14 13,
 qG 15 14 false (.mov (.t 3)),
 qG 16 14 false (.len (.t 15)),
 qG 17 14 false (.bin .gtr .none (.t 16) (qI 8)),
 qA 18 (.pick (.t 14) (qB true) (.t 17))] (some [3,18]))
 (.cond (.t 18)
 (.seq
 (.reg [qA 2 (.mov (qB false))] (some [2]))
 .ret)
 .skip))
 (.seq
 (.seq
 (.reg [qA 5 (.mov (qI 0))] (some [3,5]))
 (.blk 0
 (.loop
 ir_clavierref10clean_l0)))
 (.seq
 (.reg [qA 2 (.mov (qB true))] (some [2]))
 .ret)))))
theorem is_clavierref10clean : IrOf Tryz.prog 24 44 ir_clavierref10clean [.t 2] := ⟨_, Tryz.func24, rfl, by kernel_rfl, by kernel_rfl, by kernel_rfl⟩

def ir_modsMay1 : ICode :=
 (.seq
 (.reg [qA 2 (.mov (qB false))] (some [0]))
 (.seq
 (.reg [qM 3 0,
 qA 4 (.bin .eql .none (.t 3) (qI 0)),
 qM 5 4,
 qG 6 5 false (.mov (.t 0)),
 qG 7 5 false (.call (qC 55) [(.t 6)]),
 qG 8 5 false (.fld 0 none (.t 7)),
 qG 9 5 false (.bin .eql .none (.t 8) (qI 1)),
 qA 10 (.pick (.t 5) (qB true) (.t 9)),
 qM 2 10] (some [2]))
 .ret))
theorem is_modsMay1 : IrOf Tryz.prog 54 11 ir_modsMay1 [.t 2] := ⟨_, Tryz.func54, rfl, by kernel_rfl, by kernel_rfl, by kernel_rfl⟩

def ir_clavierref10May : ICode :=
 (.seq
 (.reg [qA 1 (.box 27 (.t 0)),
 qA 2 (.mov (qB false))] (some [1]))
 (.seq
 (.seq
 (.reg [qF 3 0 1,
 qL 4 3,
 qA 5 (.call (qC 22) [(.t 4)]),
 qA 6 (.fld 0 none (.t 5)),
 qA 7 (.bin .eql .none (.t 6) (qI 0)),
 qM 8 7,
 qG 9 8 false (.fa 1 (.t 1)),
 qG 10 8 false (.ld none (.t 9)),
 qG 11 8 false (.bin .lss .none (.t 10) (qI 0)),
 qA 12 (.pick (.t 8) (qB true) (.t 11)),
 qM 13 12,
 qG 14 13 false (.fa 1 (.t 1)),
 qG 15 13 false (.ld none (.t 14)),
 qG 16 13 false (.bin .gtr .none (.t 15) (qI 255)),
 qA 17 (.pick (.t 13) (qB true) (.t 16)),
 qM 18 17,
 qG 19 18 false (.fa 2 (.t 1)),
 qG 20 18 false (.ld none (.t 19)),
 qG 21 18 false (.bin .lss .none (.t 20) (qI 1)),
 qA 22 (.pick (.t 18) (qB true) (.t 21)),
 qM 23 22,
 qG 24 23 false (.fa 2 (.t 1)),
 qG 25 23 false (.ld none (.t 24)),
 qG 26 23 false (.bin .gtr .none (.t 25) (qI 3)),
 qA 27 (.pick (.t 23) (qB true) (.t 26))] (some [1,27]))
 (.cond (.t 27)
 (.seq
 (.reg [qA 2 (.mov (qB false))] (some [2]))
 .ret)
 .skip))
 (.seq
 (.reg [qF 28 3 1,
 qL 29 28,
 qA 30 (.bin .eql .none (.t 29) (qI 0)),
 qM 31 30,
 qG 32 31 false (.fa 3 (.t 1)),
 qG 33 31 false (.ld none (.t 32)),
 qG 34 31 false (.call (qC 23) [(.t 33)]),
 qA 35 (.pick (.t 31) (qB true) (.t 34)),
 qM 36 35,
 qG 37 36 true (.fa 4 (.t 1)),
 qG 38 36 true (.ld none (.t 37)),
 qG 39 36 true (.bin .eql .none (.t 38) (qI 0)),
 qG 40 36 true (.mov (.t 39)),
 qG 41 40 false (.fa 4 (.t 1)),
 qG 42 40 false (.ld none (.t 41)),
 qG 43 40 false (.call (qC 23) [(.t 42)]),
 qG 44 36 true (.pick (.t 40) (qB true) (.t 43)),
 qA 45 (.pick (.t 36) (.t 44) (qB false)),
 qM 46 45,
 qG 47 46 true (.fa 5 (.t 1)),
 qG 48 46 true (.ld none (.t 47)),
 qG 49 46 true (.call (qC 24) [(.t 48)]),
 qA 50 (.pick (.t 46) (.t 49) (qB false)),
 qM 2 50] (some [2]))
 .ret)))
theorem is_clavierref10May : IrOf Tryz.prog 10 51 ir_clavierref10May [.t 2] := ⟨_, Tryz.func10, rfl, by kernel_rfl, by kernel_rfl, by kernel_rfl⟩

theorem ent_eq (e : Ent) : entAV e = [.int .i64 e.kind, .int .u8 (e.final.toNat : Int), .int .i64 e.num, .int .i64 e.char, .bool e.keys] := rfl
theorem maxE (m : Int) : (if 0 > m then (0 : Int) else m) = max m 0 := by split <;> omega
theorem has_and {m : Int} (hm : m ≤ 9223372036854775807) (k : Nat) (hk : k < 63) : (bits .and .i64 (max m 0) ((2 ^ k : Nat) : Int) == 0) = !hasK m ((2 ^ k : Nat) : Int) := by
  obtain ⟨a, ha⟩ := Int.eq_ofNat_of_zero_le (show 0 ≤ max m 0 by omega)
  rw [ha, and_flag (by omega) k hk, hasK, ha]
  have h2 : (a : Int) / ((2 ^ k : Nat) : Int) % 2 = ((a / 2 ^ k % 2 : Nat) : Int) := by simp
  have h3 : 0 < 2 ^ k := Nat.two_pow_pos k
  rw [h2]
  rcases Nat.mod_two_eq_zero_or_one (a / 2 ^ k) with h | h
  · rw [h]; simp
  · rw [h]
    generalize 2 ^ k = p at *
    have h4 : ((1 * p : Nat) : Int) ≠ 0 := by omega
    rw [beq_eq_false_iff_ne.2 h4]; rfl
theorem fs_Form {Gl : Gh → Prop} (hst : Stays Gl) {c : Int} : FS Tryz.prog Gl 59 [.int .i64 c] [] [] (.tup [.int .i64 (formK c).1, .int .u8 ((formK c).2.toNat : Int)]) [] [] := by
  refine FS.ofW hm hst is_kittyForm rfl (by simp) fun γ hγ hfr => ?_
  have c1 := fs_Look (Gl := Gl) hst (c := c)
  have hfk : formK c = (let e := lookR c; if e.kind = 0 then (0, 0) else if c = 57366 then (13, 126) else if e.kind = 3 ∧ e.keys = false then (1, e.final) else if e.kind = 4 ∧ e.keys = false then (e.num, 126) else (c, 117)) := rfl
  rw [ent_eq] at c1
  generalize lookR c = e at *
  obtain ⟨kind, final, num, char, keys⟩ := e
  simp only at c1 hfk
  (generalize hQ : (fun (ex : Ex) (_ _ : Nat) (s : St) => _) = Q; unfold ir_kittyForm)
  ((try simp +contextual (maxSteps := 1000000) only [go_sem, reduceCtorEq, ↓reduceIte, Nat.reduceAdd]); repeat' first | ((first | refine kCond_split (fun hg => ?_) (fun hg => ?_) | refine kGc_split (fun hg => ?_) (fun hg => ?_) | refine kPreG_split (fun hg => ?_) (fun hg => ?_)) <;> (try rw [hg]) <;> simp +contextual (maxSteps := 1000000) only [go_sem, reduceCtorEq, ↓reduceIte, Nat.reduceAdd, Nat.reduceEqDiff]) | ((first | refine CallP.pure c1 (fun _ => rfl) ?_) <;> simp +contextual (maxSteps := 1000000) only [go_sem, reduceCtorEq, ↓reduceIte, Nat.reduceAdd, Nat.reduceEqDiff]) | refine And.intro (by omega) ?_)
  all_goals
    simp only [beq_iff_eq, beq_eq_false_iff_ne, ne_eq, Bool.and_eq_true, Bool.and_eq_false_iff, Bool.not_eq_true', Bool.not_eq_false', Bool.not_eq_true, Bool.not_eq_false] at *
    rw [← hQ, hfk]
    clear hQ hfr
    refine ⟨trivial, .inl ⟨_, rfl, ?_⟩⟩
    show RepLe (.tup [.int .i64 _, .int .u8 _]) _
    repeat' split
    all_goals first | exact RepLe.refl _ | (exfalso; simp_all; done) | (exfalso; simp_all; omega)
theorem fs_Param {Gl : Gh → Prop} (hst : Stays Gl) {m : Int} : FS Tryz.prog Gl 69 [.int .i64 m] [] [] (.int .i64 (paramK m)) [] [] := by
  refine FS.of hm hst is_modsParam (by simp) fun γ hγ hfr => ?_
  (generalize hQ : (fun (ex : Ex) (_ _ : Nat) (s : St) => _) = Q; unfold ir_modsParam)
  (simp +contextual (maxSteps := 1000000) only [go_sem, reduceCtorEq, ↓reduceIte, Nat.reduceAdd, Nat.reduceEqDiff]; repeat' first | ((first | refine kCond_split (fun hg => ?_) (fun hg => ?_) | refine kGc_split (fun hg => ?_) (fun hg => ?_) | refine kPreG_split (fun hg => ?_) (fun hg => ?_)) <;> (try rw [hg]) <;> simp +contextual (maxSteps := 1000000) only [go_sem, reduceCtorEq, ↓reduceIte, Nat.reduceAdd]) | refine And.intro (by omega) ?_)
  all_goals
    rw [← hQ]
    refine ⟨trivial, Ret.flat (show some (AV.int .i64 _) = some (AV.int .i64 _) from congrArg (fun z => some (AV.int .i64 z)) ?_) rfl⟩
    simp only [Bool.or_eq_true, Bool.or_eq_false_iff, decide_eq_true_eq, decide_eq_false_iff_not] at hg
    rw [paramK]
  · rw [if_pos (by omega)]
  · rw [if_neg (by omega), IntKind.wrap_i64]; omega
theorem fs_Shown {Gl : Gh → Prop} (hst : Stays Gl) {k : Ky} (hmm : k.mods ≤ 9223372036854775807) : FS Tryz.prog Gl 117 [.agg (kyAV k)] [] [] (.int .i64 (shownK k)) [] [] := by
  refine FS.of hm hst is_modsShown (by simp) fun γ hγ hfr => ?_
  have ha := has_and hmm 0 (by omega)
  obtain ⟨code, mods, type, shifted, base, text⟩ := k
  simp only [Nat.pow_zero, Int.natCast_one] at ha hmm
  (generalize hQ : (fun (ex : Ex) (_ _ : Nat) (s : St) => _) = Q; unfold ir_modsShown)
  cases hh : hasK mods 1 with
  | false =>
    rw [hh] at ha
    simp +contextual (maxSteps := 1000000) only [kyAV, maxE, ha, go_sem, reduceCtorEq, ↓reduceIte, Nat.reduceAdd, Nat.reduceEqDiff]
    rw [← hQ]
    refine ⟨trivial, Ret.flat (show some (AV.int .i64 _) = some (AV.int .i64 _) from congrArg (fun z => some (AV.int .i64 z)) ?_) rfl⟩
    rw [shownK, if_pos hh]
  | true =>
    rw [hh] at ha
    have hne : ¬ (hasK mods 1 = false) := by rw [hh]; simp
    (simp +contextual (maxSteps := 1000000) only [kyAV, maxE, ha, go_sem, reduceCtorEq, ↓reduceIte, Nat.reduceAdd, Nat.reduceEqDiff]; repeat' first | ((first | refine kCond_split (fun hg => ?_) (fun hg => ?_) | refine kGc_split (fun hg => ?_) (fun hg => ?_) | refine kPreG_split (fun hg => ?_) (fun hg => ?_)) <;> (try rw [hg]) <;> simp +contextual (maxSteps := 1000000) only [kyAV, maxE, ha, go_sem, reduceCtorEq, ↓reduceIte, Nat.reduceAdd, Nat.reduceEqDiff]) | refine And.intro (by omega) ?_)
    all_goals
      simp only [Bool.and_eq_true, Bool.and_eq_false_iff, decide_eq_true_eq, decide_eq_false_iff_not, bne_iff_ne, bne_eq_false_iff_eq, ne_eq] at *
      rw [← hQ]
      refine ⟨trivial, Ret.flat (show some (AV.int .i64 _) = some (AV.int .i64 _) from congrArg (fun z => some (AV.int .i64 z)) ?_) rfl⟩
      simp only [shownK, hh, Bool.true_eq_false, if_false]
      repeat' split
      all_goals first | rfl | omega | (simp only [IntKind.wrap_i64]; omega)
theorem fs_rtext {Gl : Gh → Prop} (hst : Stays Gl) {c : Int} : FS Tryz.prog Gl 23 [.int .i64 c] [] [] (.bool (decide (kindK c = 1))) [] [] := by
  refine FS.of hm hst is_clavierref10text (by simp) fun γ hγ hfr => ?_
  have c1 := fs_rLook (Gl := Gl) hst (c := c)
  rw [ent_eq] at c1
  (generalize hQ : (fun (ex : Ex) (_ _ : Nat) (s : St) => _) = Q; unfold ir_clavierref10text)
  simp +contextual (maxSteps := 1000000) only [go_sem, reduceCtorEq, ↓reduceIte, Nat.reduceAdd]
  (refine CallP.pure (c1) (fun _ => rfl) ?_; simp +contextual (maxSteps := 1000000) only [go_sem, reduceCtorEq, ↓reduceIte, Nat.reduceAdd])
  rw [← hQ]
  refine ⟨trivial, Ret.flat (show some (AV.bool _) = some (AV.bool _) from congrArg (fun z => some (AV.bool z)) ?_) rfl⟩
  rfl
theorem fs_May1 {Gl : Gh → Prop} (hst : Stays Gl) {c : Int} : FS Tryz.prog Gl 54 [.int .i64 c] [] [] (.bool (decide (c = 0) || decide (kindK c = 1))) [] [] := by
  refine FS.of hm hst is_modsMay1 (by simp) fun γ hγ hfr => ?_
  have c1 := fs_Look (Gl := Gl) hst (c := c)
  rw [ent_eq] at c1
  (generalize hQ : (fun (ex : Ex) (_ _ : Nat) (s : St) => _) = Q; unfold ir_modsMay1)
  simp +contextual (maxSteps := 1000000) only [go_sem, reduceCtorEq, ↓reduceIte, Nat.reduceAdd, Nat.reduceEqDiff]
  (refine kGc_call (c1) (fun _ => rfl) (fun hgc => ?_) ?_; (focus (first | (rw [Bool.not_eq_true'] at hgc; simp only [List.map_cons, List.map_nil, List.nil_append, List.append_nil, List.cons_append, Xev_t, Xev_c, upd_app, lf_cons, lf_nil, Nat.reduceEqDiff, ↓reduceIte, hgc, Bool.false_eq_true, Bool.true_eq_false, reduceCtorEq]; done) | (simp only [List.map_cons, List.map_nil, List.nil_append, List.append_nil, List.cons_append, Xev_t, Xev_c, upd_app, lf_cons, lf_nil, Nat.reduceEqDiff, ↓reduceIte, hgc, Bool.false_eq_true, Bool.true_eq_false, reduceCtorEq]; done) | (revert hgc; simp +contextual [Xev_t, Xev_c, upd_app, lf_cons, lf_nil]; done) | simp [Xev_t, Xev_c, upd_app, lf_cons, lf_nil])); simp +contextual (maxSteps := 1000000) only [go_sem, reduceCtorEq, ↓reduceIte, Nat.reduceAdd, Nat.reduceEqDiff])
  all_goals
    rw [← hQ]
    refine ⟨trivial, Ret.flat (show some (AV.bool _) = some (AV.bool _) from congrArg (fun z => some (AV.bool z)) ?_) rfl⟩
    rfl
theorem fs_clean {Gl : Gh → Prop} (hst : Stays Gl) {t : List UInt8} (ht : t.length ≤ 1000000000000) : FS Tryz.prog Gl 24 [.str t] [] [] (.bool (cleanK t)) [] [] := by
  refine FS.of hm hst is_clavierref10clean (by simp) fun γ hγ hfr => ?_
  have c1 := fs_rAllU (Gl := Gl) (tb := none) hst ht
  rw [allW] at c1
  (generalize hQ : (fun (ex : Ex) (_ _ : Nat) (s : St) => _) = Q; unfold ir_clavierref10clean)
  simp +contextual (maxSteps := 1000000) only [go_sem, reduceCtorEq, ↓reduceIte, Nat.reduceAdd]
  refine ⟨by simp only [maxLen]; omega, ?_⟩
  (refine CallP.pure (c1) (fun _ => rfl) ?_; simp +contextual (maxSteps := 1000000) only [go_sem, reduceCtorEq, ↓reduceIte, Nat.reduceAdd, Nat.reduceEqDiff])
  have hcl : cleanK t = ((allV t).2 && decide ((allV t).1.length ≤ 8) && (allV t).1.all fun r => decide (32 ≤ r) && (decide (r < 127) || decide (159 < r))) := by
    rw [cleanK, allV]
    cases allU t with
    | none => rfl
    | some l => simp
  have hil : (intsAV (allV t).1).length = (allV t).1.length := by simp [intsAV]
  generalize hok : (allV t).2 = ok at *
  generalize hl : (allV t).1 = l at *
  refine kCond_split (fun h => ?_) (fun h => ?_)
  · simp +contextual (maxSteps := 1000000) only [go_sem, ↓reduceIte, Nat.reduceAdd]
    rw [← hQ]
    refine ⟨trivial, Ret.flat (show some (AV.bool _) = some (AV.bool _) from congrArg (fun z => some (AV.bool z)) ?_) rfl⟩
    rw [hcl]
    rw [hil] at h
    simp only [Bool.or_eq_true, Bool.not_eq_true', decide_eq_true_eq] at h
    rcases h with h | h
    · rw [h]; rfl
    · have : decide (l.length ≤ 8) = false := by simp; omega
      rw [this]; simp
  · rw [hil] at h
    simp only [Bool.or_eq_false_iff, Bool.not_eq_false', decide_eq_false_iff_not] at h
    have h8 : decide (l.length ≤ 8) = true := by simp; omega
    rw [h.1, h8, Bool.true_and, Bool.true_and] at hcl
    simp +contextual (maxSteps := 1000000) only [go_sem, ↓reduceIte, Nat.reduceAdd, Nat.reduceEqDiff]
    refine kLoop_ix (fun i : Nat => ⟨lf [(3, .sl none 1 (intsAV l)), (5, .int .i64 (i : Int))], [], fun x => x ∈ []⟩) (fun i => i ≤ l.length ∧ ∀ r ∈ l.take i, (decide (32 ≤ r) && (decide (r < 127) || decide (159 < r))) = true) (fun i => l.length - i) 0 0 (Wk.same ?_) ⟨Nat.zero_le _, by simp⟩ ?_
    · (simp only [lfOK, upd, initF]; repeat' first | exact AVle.refl _ _ | exact trivial | refine And.intro ?_ ?_ | exact AVle.int (by simp only [IntKind.wrap_i64]; omega))
    · rintro γ' i hf ⟨hi, hall⟩
      generalize hQ' : kIt _ _ _ _ _ = Q'
      unfold ir_clavierref10clean_l0
      by_cases hlt : i < l.length
      · have hd : decide ((i : Int) < (l.length : Int)) = true := by simp; omega
        have hg1 : (intsAV l).getD i [] = [.int .i64 l[i]] := intsAV_get hlt
        simp +contextual (maxSteps := 1000000) only [hd, hil, hg1, Int.toNat_natCast, go_sem, reduceCtorEq, ↓reduceIte, Nat.reduceAdd, Nat.reduceEqDiff]
        refine ⟨⟨by omega, by omega⟩, fun _ => ⟨by omega, by omega⟩, fun _ => ⟨by omega, by omega⟩, ?_⟩
        have hneg : (decide (32 ≤ l[i]) && (decide (l[i] < 127) || decide (159 < l[i]))) = !(decide (l[i] < 32) || decide (l[i] ≥ 127) && decide (l[i] ≤ 159)) := by
          rw [Bool.eq_iff_iff]; simp only [Bool.and_eq_true, Bool.or_eq_true, Bool.not_eq_true', Bool.or_eq_false_iff, Bool.and_eq_false_iff, decide_eq_true_eq, decide_eq_false_iff_not]; omega
        refine kCond_split (fun h1 => ?_) (fun h1 => ?_)
        · simp +contextual (maxSteps := 1000000) only [go_sem, ↓reduceIte, Nat.reduceAdd]
          rw [← hQ']
          simp only [w_kIt_r, w_kBlk_r, w_kSeq_r]
          rw [← hQ]
          refine ⟨trivial, Ret.flat (show some (AV.bool _) = some (AV.bool _) from congrArg (fun z => some (AV.bool z)) ?_) rfl⟩
          rw [hcl]
          symm
          rw [List.all_eq_false]
          exact ⟨l[i], List.getElem_mem hlt, by rw [hneg, h1]; simp⟩
        · simp +contextual (maxSteps := 1000000) only [go_sem, reduceCtorEq, ↓reduceIte, Nat.reduceAdd, Nat.reduceEqDiff]
          rw [← hQ']
          simp only [w_kIt_n]
          refine ⟨0, i + 1, Wk.same ?_, ⟨by omega, fun r hr => ?_⟩, by omega⟩
          · repeat' first | exact AVle.refl _ _ | exact trivial | refine And.intro ?_ ?_ | exact AVle.int (by simp only [IntKind.wrap_i64]; omega)
          · rw [List.take_add_one, List.getElem?_eq_getElem hlt] at hr
            rcases List.mem_append.1 hr with hr | hr
            · exact hall r hr
            · simp only [Option.toList_some, List.mem_singleton] at hr
              rw [hr, hneg, h1]; rfl
      · have hd : decide ((i : Int) < (l.length : Int)) = false := by simp; omega
        simp +contextual (maxSteps := 1000000) only [hd, hil, go_sem, reduceCtorEq, ↓reduceIte, Nat.reduceAdd, Nat.reduceEqDiff]
        rw [← hQ']
        simp only [w_kIt_e, w_kBlk_e, ↓reduceIte]
        simp +contextual (maxSteps := 1000000) only [go_sem, ↓reduceIte, Nat.reduceAdd]
        rw [← hQ]
        refine ⟨trivial, Ret.flat (show some (AV.bool _) = some (AV.bool _) from congrArg (fun z => some (AV.bool z)) ?_) rfl⟩
        rw [hcl]
        symm
        rw [List.all_eq_true]
        intro r hr
        exact hall r (by rwa [List.take_of_length_le (by omega)])
theorem fs_rMayK {Gl : Gh → Prop} (hst : Stays Gl) {k : Ky} (ht : k.text.length ≤ 1000000000000) : FS Tryz.prog Gl 10 [.agg (kyAV k)] [] [] (.bool (mayK k)) [] [] := by
  refine FS.of hm hst is_clavierref10May (by simp) fun γ hγ hfr => ?_
  obtain ⟨code, mods, type, shifted, base, text⟩ := k
  simp only at ht
  have c1 := fs_rLook (Gl := Gl) hst (c := code)
  rw [ent_eq] at c1
  (generalize hQ : (fun (ex : Ex) (_ _ : Nat) (s : St) => _) = Q; unfold ir_clavierref10May)
  simp +contextual (maxSteps := 1000000) only [kyAV, go_sem, ↓reduceIte, Nat.reduceAdd, Nat.reduceEqDiff]
  (refine CallP.pure (c1) (fun _ => rfl) ?_; simp +contextual (maxSteps := 1000000) only [go_sem, reduceCtorEq, ↓reduceIte, Nat.reduceAdd, Nat.reduceEqDiff])
  have c2 := fs_rtext (Gl := Gl) hst (c := shifted)
  have c3 := fs_rtext (Gl := Gl) hst (c := base)
  have c4 := fs_clean (Gl := Gl) hst ht
  refine kCond_split (fun h => ?_) (fun h => ?_)
  · simp +contextual (maxSteps := 1000000) only [go_sem, ↓reduceIte, Nat.reduceAdd]
    rw [← hQ]
    refine ⟨trivial, Ret.flat (show some (AV.bool _) = some (AV.bool _) from congrArg (fun z => some (AV.bool z)) ?_) rfl⟩
    simp only [Bool.or_eq_true, decide_eq_true_eq, beq_iff_eq] at h
    symm
    rw [Bool.eq_false_iff]
    intro hm'
    simp only [mayK, kindK, Bool.and_eq_true, decide_eq_true_eq, ne_eq] at hm'
    obtain ⟨⟨⟨⟨⟨⟨⟨q1, q2⟩, q3⟩, q4⟩, q5⟩, _⟩, _⟩, _⟩ := hm'
    rcases h with (((h | h) | h) | h) | h
    · exact (of_decide_eq_true q1) h
    · omega
    · omega
    · omega
    · omega
  · simp +contextual (maxSteps := 1000000) only [go_sem, reduceCtorEq, ↓reduceIte, Nat.reduceAdd, Nat.reduceEqDiff]
    (refine kGc_call (c2) (fun _ => rfl) (fun hgc => ?_) ?_; (focus (first | (rw [Bool.not_eq_true'] at hgc; simp only [List.map_cons, List.map_nil, List.nil_append, List.append_nil, List.cons_append, Xev_t, Xev_c, upd_app, lf_cons, lf_nil, Nat.reduceEqDiff, ↓reduceIte, hgc, Bool.false_eq_true, Bool.true_eq_false, reduceCtorEq]; done) | (simp only [List.map_cons, List.map_nil, List.nil_append, List.append_nil, List.cons_append, Xev_t, Xev_c, upd_app, lf_cons, lf_nil, Nat.reduceEqDiff, ↓reduceIte, hgc, Bool.false_eq_true, Bool.true_eq_false, reduceCtorEq]; done) | (revert hgc; simp +contextual [Xev_t, Xev_c, upd_app, lf_cons, lf_nil]; done) | simp [Xev_t, Xev_c, upd_app, lf_cons, lf_nil])); simp +contextual (maxSteps := 1000000) only [go_sem, reduceCtorEq, ↓reduceIte, Nat.reduceAdd, Nat.reduceEqDiff])
    (refine kGc_call (c3) (fun _ => rfl) (fun hgc => ?_) ?_; (focus (first | (rw [Bool.not_eq_true'] at hgc; simp only [List.map_cons, List.map_nil, List.nil_append, List.append_nil, List.cons_append, Xev_t, Xev_c, upd_app, lf_cons, lf_nil, Nat.reduceEqDiff, ↓reduceIte, hgc, Bool.false_eq_true, Bool.true_eq_false, reduceCtorEq]; done) | (simp only [List.map_cons, List.map_nil, List.nil_append, List.append_nil, List.cons_append, Xev_t, Xev_c, upd_app, lf_cons, lf_nil, Nat.reduceEqDiff, ↓reduceIte, hgc, Bool.false_eq_true, Bool.true_eq_false, reduceCtorEq]; done) | (revert hgc; simp +contextual [Xev_t, Xev_c, upd_app, lf_cons, lf_nil]; done) | simp [Xev_t, Xev_c, upd_app, lf_cons, lf_nil])); simp +contextual (maxSteps := 1000000) only [go_sem, ↓reduceIte, Nat.reduceAdd, Nat.reduceEqDiff])
    (refine kGc_call (c4) (fun _ => rfl) (fun hgc => ?_) ?_; (focus (first | (rw [Bool.not_eq_true'] at hgc; simp only [List.map_cons, List.map_nil, List.nil_append, List.append_nil, List.cons_append, Xev_t, Xev_c, upd_app, lf_cons, lf_nil, Nat.reduceEqDiff, ↓reduceIte, hgc, Bool.false_eq_true, Bool.true_eq_false, reduceCtorEq]; done) | (simp only [List.map_cons, List.map_nil, List.nil_append, List.append_nil, List.cons_append, Xev_t, Xev_c, upd_app, lf_cons, lf_nil, Nat.reduceEqDiff, ↓reduceIte, hgc, Bool.false_eq_true, Bool.true_eq_false, reduceCtorEq]; done) | (revert hgc; simp +contextual [Xev_t, Xev_c, upd_app, lf_cons, lf_nil]; done) | simp [Xev_t, Xev_c, upd_app, lf_cons, lf_nil])); simp +contextual (maxSteps := 1000000) only [go_sem, ↓reduceIte, Nat.reduceAdd, Nat.reduceEqDiff])
    all_goals
      rw [← hQ]
      refine ⟨trivial, Ret.flat (show some (AV.bool _) = some (AV.bool _) from congrArg (fun z => some (AV.bool z)) ?_) rfl⟩
      simp only [Bool.or_eq_false_iff, decide_eq_false_iff_not, beq_eq_false_iff_ne, ne_eq] at h
      obtain ⟨⟨⟨⟨q1, q2⟩, q3⟩, q4⟩, q5⟩ := h
      have e1 : decide (kindK code ≠ 0) = true := decide_eq_true q1
      have e2 : decide (0 ≤ mods) = true := by simp; omega
      have e3 : decide (mods ≤ 255) = true := by simp; omega
      have e4 : decide (1 ≤ type) = true := by simp; omega
      have e5 : decide (type ≤ 3) = true := by simp; omega
      rw [mayK]
      simp only [e1, e2, e3, e4, e5, Bool.true_and]
      rfl
end Go.Proofs.YtjankibepgnbfaaGreatDoor

namespace Go.Proofs.YtjankibepgnbfaaGreatDoor
open Go Go.Ab
/- clavier/mods.May -/
def ir_modsMay_l0 : ICode :=
 (.seq
 (.reg [qA 18 (.bin .lss .none (.t 17) (.t 16))] (some [1,3,4,5,15,16,17,18]))
 (.seq
 (.cond (.t 18)
 .skip
 (.exit 0))
 (.seq
 (.blk 1
 (.seq
 (.reg [qA 19 (.ia 1 (.t 15) (.t 17)),
 qL 20 19,
 qM 7 20] (some [1,3,4,5,7,15,16,17]))
 (.reg [qM 21 5,
 qM 22 21,
 qG 23 22 true (.mov (.t 7)),
 qG 24 22 true (.bin .geq .none (.t 23) (qI 32)),
 qA 25 (.pick (.t 22) (.t 24) (qB false)),
 qM 26 25,
 qG 27 26 true (.mov (.t 7)),
 qG 28 26 true (.bin .lss .none (.t 27) (qI 127)),
 qG 29 26 true (.mov (.t 28)),
 qG 30 29 false (.mov (.t 7)),
 qG 31 29 false (.bin .gtr .none (.t 30) (qI 159)),
 qG 32 26 true (.pick (.t 29) (qB true) (.t 31)),
 qA 33 (.pick (.t 26) (.t 32) (qB false)),
 qM 5 33] (some [1,3,4,5,15,16,17]))))
 (.reg [qA 34 (.bin .add .none (.t 17) (qI 1)),
 qM 17 34] (some [1,3,4,5,15,16,17])))))
def ir_modsMay : ICode :=
 (.seq
 (.reg [qA 1 (.box 27 (.t 0)),
 qA 2 (.mov (qB false))] (some [1]))
 (.seq
 (.reg [qA 3 (.mov (qC 54))] (some [1,3]))
 (.seq
 (.reg [qF 9 5 1,
 qL 10 9,
 qA 11 (.s2b 5 (.t 10)),
 qA 12 (.call (qC 56) [(.t 11)]),
 qM 8 12,
 qE 13 8 0,
 qE 14 8 1,
 qM 4 13,
 qM 5 14] (some [1,3,4,5]))
 (.seq
 (.seq
 (.reg [qM 15 4,
 qA 16 (.len (.t 15)),
 qA 17 (.mov (qI 0))] (some [1,3,4,5,15,16,17]))
 (.blk 0
 (.loop
 ir_modsMay_l0)))
 (.seq
 (.blk 2
 (.seq
 (.reg [qM 36 5,
 qA 37 (.un .not (.t 36)),
 qM 38 37,
 qG 39 38 false (.mov (.t 4)),
 qG 40 38 false (.len (.t 39)),
 qG 41 38 false (.bin .gtr .none (.t 40) (qI 8)),
 qA 42 (.pick (.t 38) (qB true) (.t 41)),
 qM 43 42,
 qG 44 43 false (.mov (.t 3)),
 qG 45 43 false (.fa 3 (.t 1)),
 qG 46 43 false (.ld none (.t 45)),
 qG 47 43 false (.call (.t 44) [(.t 46)]),
 qG 48 43 false (.un .not (.t 47)),
 qA 49 (.pick (.t 43) (qB true) (.t 48)),
 qM 50 49,
 qG 51 50 false (.mov (.t 3)),
 qG 52 50 false (.fa 4 (.t 1)),
 qG 53 50 false (.ld none (.t 52)),
 qG 54 50 false (.call (.t 51) [(.t 53)]),
 qG 55 50 false (.un .not (.t 54)),
 qA 56 (.pick (.t 50) (qB true) (.t 55)),
 qM 35 56] (some [1,35]))
 (.cond (.t 35)
 (.seq
 (.reg [qA 2 (.mov (qB false))] (some [2]))
 .ret)
 (.seq
 (.reg [qF 58 1 1,
 qL 59 58,
 qA 60 (.bin .lss .none (.t 59) (qI 0)),
 qM 61 60,
 qG 62 61 false (.fa 1 (.t 1)),
 qG 63 61 false (.ld none (.t 62)),
 qG 64 61 false (.bin .gtr .none (.t 63) (qI 255)),
 qA 65 (.pick (.t 61) (qB true) (.t 64)),
 qM 66 65,
 qG 67 66 false (.fa 2 (.t 1)),
 qG 68 66 false (.ld none (.t 67)),
 qG 69 66 false (.bin .lss .none (.t 68) (qI 1)),
 qA 70 (.pick (.t 66) (qB true) (.t 69)),
 qM 71 70,
 qG 72 71 false (.fa 2 (.t 1)),
 qG 73 71 false (.ld none (.t 72)),
 qG 74 71 false (.bin .gtr .none (.t 73) (qI 3)),
 qA 75 (.pick (.t 71) (qB true) (.t 74)),
 qM 57 75] (some [1,57]))
 (.cond (.t 57)
 (.seq
 (.reg [qA 2 (.mov (qB false))] (some [2]))
 .ret)
 .skip)))))
 (.seq
 (.reg [qF 76 0 1,
 qL 77 76,
 qA 78 (.call (qC 55) [(.t 77)]),
 qA 79 (.fld 0 none (.t 78)),
 qA 80 (.bin .neq .none (.t 79) (qI 0)),
 qM 2 80] (some [2]))
 .ret))))))
theorem is_modsMay : IrOf Tryz.prog 26 81 ir_modsMay [.t 2] := ⟨_, Tryz.func26, rfl, by kernel_rfl, by kernel_rfl, by kernel_rfl⟩

theorem allV_len (b : List UInt8) : (allV b).1.length ≤ b.length := by
  have h := itemsU_all (b := b)
  have h2 := itemsU_len (b := b)
  rw [allV]
  cases ha : allU b with
  | none => simp
  | some l =>
    rw [ha] at h
    have h : itemsU b = l.map fun r => (r, true) := h
    rw [h, List.length_map] at h2
    exact h2
set_option maxHeartbeats 4000000 in
theorem fs_MayK {Gl : Gh → Prop} (hst : Stays Gl) {k : Ky} (ht : k.text.length ≤ 1000000000000) : FS Tryz.prog Gl 26 [.agg (kyAV k)] [] [] (.bool (mayK k)) [] [] := by
  refine FS.of hm hst is_modsMay (by simp) fun γ hγ hfr => ?_
  obtain ⟨code, mods, type, shifted, base, text⟩ := k
  simp only at ht
  have c0 := fs_allU (Gl := Gl) hst ht
  rw [allW] at c0
  have c1 := fs_Look (Gl := Gl) hst (c := code)
  rw [ent_eq] at c1
  have c2 := fs_May1 (Gl := Gl) hst (c := shifted)
  have c3 := fs_May1 (Gl := Gl) hst (c := base)
  have hcl : cleanK text = ((allV text).2 && decide ((allV text).1.length ≤ 8) && (allV text).1.all fun r => decide (32 ≤ r) && (decide (r < 127) || decide (159 < r))) := by
    rw [cleanK, allV]
    cases allU text with
    | none => rfl
    | some l => simp
  have hil : (intsAV (allV text).1).length = (allV text).1.length := by simp [intsAV]
  have hll := allV_len text
  generalize hok : (allV text).2 = ok at *
  generalize hl : (allV text).1 = l at *
  (generalize hQ : (fun (ex : Ex) (_ _ : Nat) (s : St) => _) = Q; unfold ir_modsMay)
  simp +contextual (maxSteps := 1000000) only [kyAV, go_sem, ↓reduceIte, Nat.reduceAdd, Nat.reduceEqDiff]
  refine ⟨by simp only [maxLen]; omega, ?_⟩
  (refine CallP.pure (c0) (fun _ => rfl) ?_; simp +contextual (maxSteps := 1000000) only [hil, go_sem, ↓reduceIte, Nat.reduceAdd, Nat.reduceEqDiff])
  refine kLoop_ix (fun i : Nat => ⟨lf [(1, .ptr (γ, 0, 0) 0), (3, .fn (.func 54) [] []), (4, .sl none 1 (intsAV l)), (5, .bool (ok && (l.take i).all fun r => decide (32 ≤ r) && (decide (r < 127) || decide (159 < r)))), (15, .sl none 1 (intsAV l)), (16, .int .i64 (l.length : Int)), (17, .int .i64 (i : Int))], [((γ, 0, 0), .cells [.int .i64 code, .int .i64 mods, .int .i64 type, .int .i64 shifted, .int .i64 base, .str text])], fun x => x ∈ []⟩) (fun i => i ≤ l.length) (fun i => l.length - i) 0 0 (Wk.same ?_) (Nat.zero_le _) ?_
  · simp only [lfOK, upd, initF, List.take_zero, List.all_nil, Bool.and_true]
    repeat' first | exact AVle.refl _ _ | exact trivial | refine And.intro ?_ ?_ | exact AVle.int (by simp only [IntKind.wrap_i64]; omega)
  · rintro γ' i hf hi
    generalize hQ' : kIt _ _ _ _ _ = Q'
    unfold ir_modsMay_l0
    by_cases hlt : i < l.length
    · have hd : decide ((i : Int) < (l.length : Int)) = true := by simp; omega
      have hg1 : (intsAV l).getD i [] = [.int .i64 l[i]] := intsAV_get hlt
      simp +contextual (maxSteps := 1000000) only [hd, hil, hg1, Int.toNat_natCast, go_sem, reduceCtorEq, ↓reduceIte, Nat.reduceAdd, Nat.reduceEqDiff]
      refine ⟨⟨by omega, by omega⟩, ?_⟩
      rw [← hQ']
      simp only [w_kIt_n]
      refine ⟨0, i + 1, Wk.same ?_, by omega, by omega⟩
      have hall : ((ok && (List.take i l).all fun r => decide (32 ≤ r) && (decide (r < 127) || decide (159 < r))) && decide (l[i] ≥ 32) && (decide (l[i] < 127) || decide (l[i] > 159))) = (ok && (List.take (i + 1) l).all fun r => decide (32 ≤ r) && (decide (r < 127) || decide (159 < r))) := by
        rw [List.take_add_one, List.getElem?_eq_getElem hlt, List.all_append, Option.toList_some, List.all_cons, List.all_nil, Bool.and_true, Bool.and_assoc, Bool.and_assoc]
      rw [hall]
      repeat' first | exact AVle.refl _ _ | exact trivial | refine And.intro ?_ ?_ | exact AVle.int (by simp only [IntKind.wrap_i64]; omega)
    · have hd : decide ((i : Int) < (l.length : Int)) = false := by simp; omega
      rw [List.take_of_length_le (by omega)]
      simp +contextual (maxSteps := 1000000) only [hd, hil, go_sem, reduceCtorEq, ↓reduceIte, Nat.reduceAdd, Nat.reduceEqDiff]
      rw [← hQ']
      simp only [w_kIt_e, w_kBlk_e, ↓reduceIte]
      simp +contextual (maxSteps := 1000000) only [go_sem, reduceCtorEq, ↓reduceIte, Nat.reduceAdd, Nat.reduceEqDiff]
      generalize hall : (ok && l.all fun r => decide (32 ≤ r) && (decide (r < 127) || decide (159 < r))) = oa at *
      have hcl2 : cleanK text = (oa && decide (l.length ≤ 8)) := by
        rw [hcl, ← hall]; cases ok <;> cases decide (l.length ≤ 8) <;> simp
      have h8 : (!oa || decide ((l.length : Int) > 8)) = !cleanK text := by
        have : decide ((l.length : Int) > 8) = !decide (l.length ≤ 8) := by rw [Bool.eq_iff_iff]; simp; omega
        rw [hcl2, this]; cases oa <;> simp
      have fin : ∀ {b : Bool} {γ c : Nat} {H : Hp} {T : Tk}, b = mayK ⟨code, mods, type, shifted, base, text⟩ → Q .ret γ c ⟨lf [(2, .bool b)], H, T⟩ := by
        intro b γ c H T hb
        rw [← hQ, ← hb]
        exact ⟨trivial, Ret.flat rfl rfl⟩
      have hno : cleanK text = false ∨ (shifted == 0 || decide (kindK shifted = 1)) = false ∨ (base == 0 || decide (kindK base = 1)) = false → false = mayK ⟨code, mods, type, shifted, base, text⟩ := fun h => by
        have e1 : (shifted == 0) = decide (shifted = 0) := rfl
        have e2 : (base == 0) = decide (base = 0) := rfl
        rw [e1, e2] at h
        rw [mayK]
        rcases h with h | h | h <;> simp only [h, Bool.and_false, Bool.false_and]
      cases hc : cleanK text with
      | false =>
        rw [hc] at h8
        have h8 : (!oa || decide ((l.length : Int) > 8)) = true := h8
        simp +contextual (maxSteps := 1000000) only [h8, hil, go_sem, ↓reduceIte, Nat.reduceAdd, Nat.reduceEqDiff]
        exact fin (hno (.inl hc))
      | true =>
        rw [hc] at h8
        have h8 : (!oa || decide ((l.length : Int) > 8)) = false := h8
        cases hs : (decide (shifted = 0) || decide (kindK shifted = 1)) with
        | false =>
          rw [hs] at c2
          simp +contextual (maxSteps := 1000000) only [h8, hil, go_sem, ↓reduceIte, Nat.reduceAdd, Nat.reduceEqDiff]
          (refine CallP.pure (c2) (fun _ => rfl) ?_; simp +contextual (maxSteps := 1000000) only [go_sem, ↓reduceIte, Nat.reduceAdd, Nat.reduceEqDiff])
          exact fin (hno (.inr (.inl hs)))
        | true =>
          rw [hs] at c2
          cases hb : (decide (base = 0) || decide (kindK base = 1)) with
          | false =>
            rw [hb] at c3
            simp +contextual (maxSteps := 1000000) only [h8, hil, go_sem, ↓reduceIte, Nat.reduceAdd, Nat.reduceEqDiff]
            (refine CallP.pure (c2) (fun _ => rfl) ?_; simp +contextual (maxSteps := 1000000) only [go_sem, ↓reduceIte, Nat.reduceAdd, Nat.reduceEqDiff])
            (refine CallP.pure (c3) (fun _ => rfl) ?_; simp +contextual (maxSteps := 1000000) only [go_sem, ↓reduceIte, Nat.reduceAdd, Nat.reduceEqDiff])
            exact fin (hno (.inr (.inr hb)))
          | true =>
            rw [hb] at c3
            simp +contextual (maxSteps := 1000000) only [h8, hil, go_sem, ↓reduceIte, Nat.reduceAdd, Nat.reduceEqDiff]
            (refine CallP.pure (c2) (fun _ => rfl) ?_; simp +contextual (maxSteps := 1000000) only [go_sem, ↓reduceIte, Nat.reduceAdd, Nat.reduceEqDiff])
            (refine CallP.pure (c3) (fun _ => rfl) ?_; simp +contextual (maxSteps := 1000000) only [go_sem, reduceCtorEq, ↓reduceIte, Nat.reduceAdd, Nat.reduceEqDiff])
            have hmk : mayK ⟨code, mods, type, shifted, base, text⟩ = (decide (kindK code ≠ 0) && decide (0 ≤ mods) && decide (mods ≤ 255) && decide (1 ≤ type) && decide (type ≤ 3)) := by
              rw [mayK]; simp only [hs, hb, hc, Bool.and_true]
            refine kCond_split (fun h => ?_) (fun h => ?_)
            · simp +contextual (maxSteps := 1000000) only [go_sem, ↓reduceIte, Nat.reduceAdd]
              refine fin ?_
              rw [hmk]
              symm
              simp only [Bool.or_eq_true, decide_eq_true_eq] at h
              rw [Bool.eq_false_iff]
              intro hm'
              simp only [Bool.and_eq_true, decide_eq_true_eq, ne_eq] at hm'
              omega
            · simp +contextual (maxSteps := 1000000) only [go_sem, ↓reduceIte, Nat.reduceAdd]
              (refine CallP.pure (c1) (fun _ => rfl) ?_; simp +contextual (maxSteps := 1000000) only [go_sem, reduceCtorEq, ↓reduceIte, Nat.reduceAdd])
              refine fin ?_
              rw [hmk]
              simp only [Bool.or_eq_false_iff, decide_eq_false_iff_not] at h
              have e2 : decide (0 ≤ mods) = true := by simp; omega
              have e3 : decide (mods ≤ 255) = true := by simp; omega
              have e4 : decide (1 ≤ type) = true := by simp; omega
              have e5 : decide (type ≤ 3) = true := by simp; omega
              simp only [e2, e3, e4, e5, Bool.and_true]
              rw [Bool.eq_iff_iff]; simp only [kindK, bne_iff_ne, ne_eq]
              exact ⟨fun h => decide_eq_true h, fun h => of_decide_eq_true h⟩
end Go.Proofs.YtjankibepgnbfaaGreatDoor

namespace Go.Proofs.YtjankibepgnbfaaGreatDoor
open Go Go.Ab
def ir_kittyeventhas : ICode :=
 (.seq
 (.reg [qA 2 (.box 101 (.t 0)),
 qA 4 (.mov (qB false))] (some [1,2]))
 (.seq
 (.reg [qF 5 6 2,
 qL 6 5,
 qA 7 (.mm false (.t 6) (qI 0)),
 qM 8 1,
 qA 9 (.bin .and .none (.t 7) (.t 8)),
 qA 10 (.bin .neq .none (.t 9) (qI 0)),
 qM 4 10] (some [4]))
 .ret))
theorem is_kittyeventhas : IrOf Tryz.prog 114 11 ir_kittyeventhas [.t 4] := ⟨_, Tryz.func114, rfl, by kernel_rfl, by kernel_rfl, by kernel_rfl⟩

def ir_kittyeventtyped : ICode :=
 (.seq
 (.reg [qA 1 (.box 101 (.t 0)),
 qA 2 (.mov (qB false))] (some [1]))
 (.seq
 (.reg [qF 3 0 1,
 qF 4 0 3,
 qL 5 4,
 qA 6 (.bin .eql .none (.t 5) (qI 9)),
 qM 7 6,
 qG 8 7 false (.fa 0 (.t 1)),
 qG 9 7 false (.fa 0 (.t 8)),
 qG 10 7 false (.ld none (.t 9)),
 qG 11 7 false (.bin .eql .none (.t 10) (qI 13)),
 qA 12 (.pick (.t 7) (qB true) (.t 11)),
 qM 13 12,
 qG 14 13 false (.fa 0 (.t 1)),
 qG 15 13 false (.fa 0 (.t 14)),
 qG 16 13 false (.ld none (.t 15)),
 qG 17 13 false (.bin .eql .none (.t 16) (qI 127)),
 qA 18 (.pick (.t 13) (qB true) (.t 17)),
 qM 2 18] (some [2]))
 .ret))
theorem is_kittyeventtyped : IrOf Tryz.prog 115 19 ir_kittyeventtyped [.t 2] := ⟨_, Tryz.func115, rfl, by kernel_rfl, by kernel_rfl, by kernel_rfl⟩

def ir_kittyeventtext1 : ICode :=
 (.seq
 (.reg [qA 3 (.mov (qB false))] (some [0,1]))
 (.seq
 (.reg [qF 4 0 1,
 qF 5 1 4,
 qL 6 5,
 qM 7 0,
 qA 8 (.bin .or .none (.t 7) (qI 64)),
 qA 9 (.bin .or .none (.t 8) (qI 128)),
 qA 10 (.bin .andNot .none (.t 6) (.t 9)),
 qA 11 (.bin .eql .none (.t 10) (qI 0)),
 qM 3 11] (some [3]))
 .ret))
theorem is_kittyeventtext1 : IrOf Tryz.prog 116 12 ir_kittyeventtext1 [.t 3] := ⟨_, Tryz.func116, rfl, by kernel_rfl, by kernel_rfl, by kernel_rfl⟩

def ir_kittyeventsent1 : ICode :=
 (.seq
 (.reg [qA 1 (.mov (qB false))] (some [0]))
 (.seq
 (.reg [qA 2 (.ld (some 8) (.t 0)),
 qA 3 (.call (qC 114) [(.t 2), (qI 2)]),
 qA 4 (.un .not (.t 3)),
 qM 5 4,
 qG 6 5 false (.ld (some 8) (.t 0)),
 qG 7 5 false (.call (qC 114) [(.t 6), (qI 8)]),
 qG 8 5 false (.un .not (.t 7)),
 qG 9 5 false (.mov (.t 8)),
 qG 10 9 true (.fa 7 (.t 0)),
 qG 11 9 true (.ld none (.t 10)),
 qG 12 9 true (.bin .eql .none (.t 11) (qI 1)),
 qG 13 9 true (.mov (.t 12)),
 qG 14 13 false (.ld (some 8) (.t 0)),
 qG 15 13 false (.call (qC 115) [(.t 14)]),
 qG 16 9 true (.pick (.t 13) (qB true) (.t 15)),
 qG 17 5 false (.pick (.t 9) (.t 16) (qB false)),
 qA 18 (.pick (.t 5) (qB true) (.t 17)),
 qM 1 18] (some [1]))
 .ret))
theorem is_kittyeventsent1 : IrOf Tryz.prog 113 19 ir_kittyeventsent1 [.t 1] := ⟨_, Tryz.func113, rfl, by kernel_rfl, by kernel_rfl, by kernel_rfl⟩

def ir_kittyeventsent : ICode :=
 (.seq
 (.reg [qA 1 (.box 101 (.t 0)),
 qA 2 (.mov (qB false))] (some [1]))
 (.seq
 (.reg [qA 4 (.mkf (.func 113) [] [(.t 1)]),
 qM 3 4] (some [1,3]))
 (.seq
 (.seq
 (.reg [qF 5 0 1,
 qF 6 2 5,
 qL 7 6,
 qA 8 (.bin .eql .none (.t 7) (qI 3)),
 qM 9 8,
 qG 10 9 true (.mov (.t 3)),
 qG 11 9 true (.call (.t 10) []),
 qA 12 (.pick (.t 9) (.t 11) (qB false))] (some [1,12]))
 (.cond (.t 12)
 (.seq
 (.reg [qA 2 (.mov (qB false))] (some [2]))
 .ret)
 .skip))
 (.seq
 (.reg [qF 13 7 1,
 qL 14 13,
 qA 15 (.bin .neq .none (.t 14) (qI 7)),
 qM 16 15,
 qG 17 16 false (.ld (some 8) (.t 1)),
 qG 18 16 false (.call (qC 114) [(.t 17), (qI 8)]),
 qA 19 (.pick (.t 16) (qB true) (.t 18)),
 qM 2 19] (some [2]))
 .ret))))
theorem is_kittyeventsent : IrOf Tryz.prog 57 20 ir_kittyeventsent [.t 2] := ⟨_, Tryz.func57, rfl, by kernel_rfl, by kernel_rfl, by kernel_rfl⟩

def ir_kittyeventtext : ICode :=
 (.seq
 (.reg [qA 1 (.box 101 (.t 0)),
 qA 2 (.mov (.c .nils))] (some [1]))
 (.seq
 (.reg [qA 4 (.mkf (.func 116) [] [(.t 1)]),
 qM 3 4] (some [1,3]))
 (.seq
 (.blk 0
 (.seq
 (.reg [qA 6 (.ld (some 8) (.t 1)),
 qA 7 (.call (qC 114) [(.t 6), (qI 8)]),
 qM 8 7,
 qG 9 8 false (.fa 0 (.t 1)),
 qG 10 8 false (.fa 2 (.t 9)),
 qG 11 8 false (.ld none (.t 10)),
 qG 12 8 false (.bin .eql .none (.t 11) (qI 3)),
 qA 13 (.pick (.t 8) (qB true) (.t 12)),
 qM 5 13] (some [1,3,5]))
 (.cond (.t 5)
 (.seq
 (.reg [qA 2 (.mov (.c .nils))] (some [2]))
 .ret)
 (.seq
 (.reg [qA 15 (.ld (some 8) (.t 1)),
 qA 16 (.call (qC 115) [(.t 15)]),
 qM 17 16,
 qG 18 17 true (.mov (.t 3)),
 qG 19 17 true (.call (.t 18) [(qI 0)]),
 qA 20 (.pick (.t 17) (.t 19) (qB false)),
 qM 14 20] (some [1,3,14]))
 (.cond (.t 14)
 (.seq
 (.reg [qF 21 0 1,
 qF 22 0 21,
 qL 23 22,
 qA 24 (.cvi .u8 (.t 23)),
 qA 25 (.row 5 1 [(.t 24)]),
 qM 2 25] (some [2]))
 .ret)
 (.seq
 (.reg [qF 27 7 1,
 qL 28 27,
 qA 29 (.bin .neq .none (.t 28) (qI 1)),
 qM 30 29,
 qG 31 30 false (.mov (.t 3)),
 qG 32 30 false (.call (.t 31) [(qI 1)]),
 qG 33 30 false (.un .not (.t 32)),
 qA 34 (.pick (.t 30) (qB true) (.t 33)),
 qM 26 34] (some [1,26]))
 (.cond (.t 26)
 (.seq
 (.reg [qA 2 (.mov (.c .nils))] (some [2]))
 .ret)
 (.seq
 (.reg [qF 36 0 1,
 qF 37 5 36,
 qL 38 37,
 qA 39 (.bin .neq .none (.t 38) (.c (.str []))),
 qM 35 39] (some [1,35]))
 (.cond (.t 35)
 (.seq
 (.reg [qF 40 0 1,
 qF 41 5 40,
 qL 42 41,
 qA 43 (.s2b 5 (.t 42)),
 qM 2 43] (some [2]))
 .ret)
 .skip)))))))))
 (.seq
 (.reg [qF 44 0 1,
 qA 45 (.ld (some 6) (.t 44)),
 qA 46 (.call (qC 117) [(.t 45)]),
 qA 47 (.call (qC 111) [(.t 46)]),
 qM 2 47] (some [2]))
 .ret))))
theorem is_kittyeventtext : IrOf Tryz.prog 58 48 ir_kittyeventtext [.t 2] := ⟨_, Tryz.func58, rfl, by kernel_rfl, by kernel_rfl, by kernel_rfl⟩

def evC (k : Ky) (fl kd : Int) : List AV := [.int .i64 k.code, .int .i64 k.mods, .int .i64 k.type, .int .i64 k.shifted, .int .i64 k.base, .str k.text, .int .i64 fl, .int .i64 kd]
def typedK (c : Int) : Bool := decide (c = 9) || decide (c = 13) || decide (c = 127)
def onlyK (m l : Int) : Bool := decide (m % 64 ≤ l)
theorem only0 : ∀ m : Fin 256, (bits .andNot .i64 ((m.val : Nat) : Int) (bits .or .i64 (bits .or .i64 0 64) 128) == 0) = onlyK ((m.val : Nat) : Int) 0 := by decide +kernel
theorem only1 : ∀ m : Fin 256, (bits .andNot .i64 ((m.val : Nat) : Int) (bits .or .i64 (bits .or .i64 1 64) 128) == 0) = onlyK ((m.val : Nat) : Int) 1 := by decide +kernel
theorem only_eq {m l : Int} (h0 : 0 ≤ m) (h1 : m ≤ 255) (hl : l = 0 ∨ l = 1) : (bits .andNot .i64 m (bits .or .i64 (bits .or .i64 l 64) 128) == 0) = onlyK m l := by
  obtain ⟨n, rfl⟩ := Int.eq_ofNat_of_zero_le h0
  rcases hl with rfl | rfl
  · exact only0 ⟨n, by omega⟩
  · exact only1 ⟨n, by omega⟩
theorem rd_ev {k : Ky} {fl kd : Int} {a : Nm} (han : 1 ≤ a.1) : Rd [(a, .cells (evC k fl kd))] := by
  have h : ¬(a.1 = 0 ∧ a.2.1 = 0) := fun h => by omega
  refine ⟨fun f => ?_, ?_⟩
  · simp [rnH, rnN, rnHB, rnL, Ab.rn, evC, h]
  · simp [nmOK, HB.okIn, AV.okInL, AV.okIn, evC]
    intro h1 h2; exact h ⟨h1, h2⟩
theorem fs_has {Gl : Gh → Prop} (hst : Stays Gl) {k : Ky} {fl kd : Int} (j : Nat) (hj : j < 63) {f : Int} (hf : f = ((2 ^ j : Nat) : Int)) (hfl : fl ≤ 9223372036854775807) : FS Tryz.prog Gl 114 [.agg (evC k fl kd), .int .i64 f] [] [] (.bool (hasK fl f)) [] [] := by
  subst hf
  refine FS.of hm hst is_kittyeventhas (by simp) fun γ hγ hfr => ?_
  have ha := has_and hfl j hj
  have ha2 : (bits .and .i64 (max fl 0) ((2 ^ j : Nat) : Int) != 0) = hasK fl ((2 ^ j : Nat) : Int) := by rw [bne, ha, Bool.not_not]
  (generalize hQ : (fun (ex : Ex) (_ _ : Nat) (s : St) => _) = Q; unfold ir_kittyeventhas)
  simp +contextual (maxSteps := 1000000) only [evC, maxE, ha2, go_sem, reduceCtorEq, ↓reduceIte, Nat.reduceAdd, Nat.reduceEqDiff]
  rw [← hQ]
  exact ⟨trivial, Ret.flat rfl rfl⟩
theorem fs_typed {Gl : Gh → Prop} (hst : Stays Gl) {k : Ky} {fl kd : Int} : FS Tryz.prog Gl 115 [.agg (evC k fl kd)] [] [] (.bool (typedK k.code)) [] [] := by
  refine FS.of hm hst is_kittyeventtyped (by simp) fun γ hγ hfr => ?_
  (generalize hQ : (fun (ex : Ex) (_ _ : Nat) (s : St) => _) = Q; unfold ir_kittyeventtyped)
  simp +contextual (maxSteps := 1000000) only [evC, go_sem, reduceCtorEq, ↓reduceIte, Nat.reduceAdd, Nat.reduceEqDiff]
  rw [← hQ]
  refine ⟨trivial, Ret.flat (show some (AV.bool _) = some (AV.bool _) from congrArg (fun z => some (AV.bool z)) ?_) rfl⟩
  rfl
theorem fs_text1 {Gl : Gh → Prop} (hst : Stays Gl) {k : Ky} {fl kd l : Int} {a : Nm} (han : 1 ≤ a.1) (h0 : 0 ≤ k.mods) (h1 : k.mods ≤ 255) (hl : l = 0 ∨ l = 1) : FS Tryz.prog Gl 116 [.int .i64 l, .ptr a 0] [(a, .cells (evC k fl kd))] [] (.bool (onlyK k.mods l)) [(a, .cells (evC k fl kd))] [] := by
  refine FS.of hm hst is_kittyeventtext1 (by simp) fun γ hγ hfr => ?_
  have ho := only_eq h0 h1 hl
  (generalize hQ : (fun (ex : Ex) (_ _ : Nat) (s : St) => _) = Q; unfold ir_kittyeventtext1)
  simp +contextual (maxSteps := 1000000) only [evC, ho, go_sem, reduceCtorEq, ↓reduceIte, Nat.reduceAdd, Nat.reduceEqDiff]
  rw [← hQ]
  exact ⟨trivial, Ret.reads (rd_ev han) rfl rfl (by simp [evC])⟩
theorem fs_sent1 {Gl : Gh → Prop} (hst : Stays Gl) {k : Ky} {fl kd : Int} {a : Nm} (han : 1 ≤ a.1) (hfl : fl ≤ 9223372036854775807) : FS Tryz.prog Gl 113 [.ptr a 0] [(a, .cells (evC k fl kd))] [] (.bool (!hasK fl 2 || !hasK fl 8 && (decide (kd = 1) || typedK k.code))) [(a, .cells (evC k fl kd))] [] := by
  refine FS.of hm hst is_kittyeventsent1 (by simp) fun γ hγ hfr => ?_
  have c1 := fs_has (Gl := Gl) hst (k := k) (kd := kd) 1 (by omega) (f := 2) rfl hfl
  have c2 := fs_has (Gl := Gl) hst (k := k) (kd := kd) 3 (by omega) (f := 8) rfl hfl
  have c3 := fs_typed (Gl := Gl) hst (k := k) (fl := fl) (kd := kd)
  rw [evC] at c1 c2 c3
  (generalize hQ : (fun (ex : Ex) (_ _ : Nat) (s : St) => _) = Q; unfold ir_kittyeventsent1)
  simp +contextual (maxSteps := 1000000) only [evC, go_sem, reduceCtorEq, ↓reduceIte, Nat.reduceAdd]
  (refine CallP.pure (c1) (fun _ => rfl) ?_; simp +contextual (maxSteps := 1000000) only [go_sem, reduceCtorEq, ↓reduceIte, Nat.reduceAdd, Nat.reduceEqDiff])
  (refine kGc_call (c2) (fun _ => rfl) (fun hgc => ?_) ?_; (focus (first | (rw [Bool.not_eq_true'] at hgc; simp only [List.map_cons, List.map_nil, List.nil_append, List.append_nil, List.cons_append, Xev_t, Xev_c, upd_app, lf_cons, lf_nil, Nat.reduceEqDiff, ↓reduceIte, hgc, Bool.false_eq_true, Bool.true_eq_false, reduceCtorEq]; done) | (simp only [List.map_cons, List.map_nil, List.nil_append, List.append_nil, List.cons_append, Xev_t, Xev_c, upd_app, lf_cons, lf_nil, Nat.reduceEqDiff, ↓reduceIte, hgc, Bool.false_eq_true, Bool.true_eq_false, reduceCtorEq]; done) | (revert hgc; simp +contextual [Xev_t, Xev_c, upd_app, lf_cons, lf_nil]; done) | simp [Xev_t, Xev_c, upd_app, lf_cons, lf_nil])); simp +contextual (maxSteps := 1000000) only [go_sem, reduceCtorEq, ↓reduceIte, Nat.reduceAdd, Nat.reduceEqDiff])
  (refine kGc_call (c3) (fun _ => rfl) (fun hgc => ?_) ?_; (focus (first | (rw [Bool.not_eq_true'] at hgc; simp only [List.map_cons, List.map_nil, List.nil_append, List.append_nil, List.cons_append, Xev_t, Xev_c, upd_app, lf_cons, lf_nil, Nat.reduceEqDiff, ↓reduceIte, hgc, Bool.false_eq_true, Bool.true_eq_false, reduceCtorEq]; done) | (simp only [List.map_cons, List.map_nil, List.nil_append, List.append_nil, List.cons_append, Xev_t, Xev_c, upd_app, lf_cons, lf_nil, Nat.reduceEqDiff, ↓reduceIte, hgc, Bool.false_eq_true, Bool.true_eq_false, reduceCtorEq]; done) | (revert hgc; simp +contextual [Xev_t, Xev_c, upd_app, lf_cons, lf_nil]; done) | simp [Xev_t, Xev_c, upd_app, lf_cons, lf_nil])); simp +contextual (maxSteps := 1000000) only [go_sem, ↓reduceIte, Nat.reduceAdd, Nat.reduceEqDiff])
  all_goals
    rw [← hQ]
    exact ⟨trivial, Ret.reads (rd_ev han) rfl rfl (by simp [evC])⟩
theorem dneq {a b : Int} : decide (a ≠ b) = (a != b) := by rw [Bool.eq_iff_iff]; simp
def sentK (fl : Int) (k : Ky) : Bool :=
  !(decide (k.type = 3) && (!hasK fl 2 || !hasK fl 8 && (decide (kindK k.code = 1) || typedK k.code))) && (decide (kindK k.code ≠ 7) || hasK fl 8)
theorem fs_sent {Gl : Gh → Prop} (hst : Stays Gl) {k : Ky} {fl : Int} (hfl : fl ≤ 9223372036854775807) : FS Tryz.prog Gl 57 [.agg (evC k fl (kindK k.code))] [] [] (.bool (sentK fl k)) [] [] := by
  refine FS.of hm hst is_kittyeventsent (by simp) fun γ hγ hfr => ?_
  have c1 := fun (a : Nm) (han : 1 ≤ a.1) => fs_sent1 (Gl := Gl) hst (k := k) (kd := kindK k.code) (a := a) han hfl
  have c2 := fs_has (Gl := Gl) hst (k := k) (kd := kindK k.code) 3 (by omega) (f := 8) rfl hfl
  rw [evC] at c2
  (generalize hQ : (fun (ex : Ex) (_ _ : Nat) (s : St) => _) = Q; unfold ir_kittyeventsent)
  cases h3 : decide (k.type = 3) with
  | true =>
    have h3' : (k.type == 3) = true := h3
    simp +contextual (maxSteps := 1000000) only [evC, h3', go_sem, reduceCtorEq, ↓reduceIte, Nat.reduceAdd, Nat.reduceEqDiff]
    have c1 := c1 (γ, 0, 0) hγ
    rw [evC] at c1
    refine CallP.all c1 (fun _ => rfl) (fun f => (rd_ev (k := k) (fl := fl) (kd := kindK k.code) (a := (γ, 0, 0)) hγ).rn f) ?_
    cases hq : (!hasK fl 2 || !hasK fl 8 && (decide (kindK k.code = 1) || typedK k.code)) with
    | true =>
      simp +contextual (maxSteps := 1000000) only [go_sem, ↓reduceIte, Nat.reduceAdd, Nat.reduceEqDiff]
      rw [← hQ]
      refine ⟨trivial, Ret.flat (show some (AV.bool _) = some (AV.bool _) from congrArg (fun z => some (AV.bool z)) ?_) rfl⟩
      rw [sentK, h3, hq]; rfl
    | false =>
      simp +contextual (maxSteps := 1000000) only [go_sem, reduceCtorEq, ↓reduceIte, Nat.reduceAdd, Nat.reduceEqDiff]
      (refine kGc_call (c2) (fun _ => rfl) (fun hgc => ?_) ?_; (focus (first | (rw [Bool.not_eq_true'] at hgc; simp only [List.map_cons, List.map_nil, List.nil_append, List.append_nil, List.cons_append, Xev_t, Xev_c, upd_app, lf_cons, lf_nil, Nat.reduceEqDiff, ↓reduceIte, hgc, Bool.false_eq_true, Bool.true_eq_false, reduceCtorEq]; done) | (simp only [List.map_cons, List.map_nil, List.nil_append, List.append_nil, List.cons_append, Xev_t, Xev_c, upd_app, lf_cons, lf_nil, Nat.reduceEqDiff, ↓reduceIte, hgc, Bool.false_eq_true, Bool.true_eq_false, reduceCtorEq]; done) | (revert hgc; simp +contextual [Xev_t, Xev_c, upd_app, lf_cons, lf_nil]; done) | simp [Xev_t, Xev_c, upd_app, lf_cons, lf_nil])); simp +contextual (maxSteps := 1000000) only [go_sem, ↓reduceIte, Nat.reduceAdd, Nat.reduceEqDiff])
      all_goals
        rw [← hQ]
        refine ⟨trivial, Ret.flat (show some (AV.bool _) = some (AV.bool _) from congrArg (fun z => some (AV.bool z)) ?_) rfl⟩
        rw [sentK, h3, hq, dneq]; rfl
  | false =>
    have h3' : (k.type == 3) = false := h3
    simp +contextual (maxSteps := 1000000) only [evC, h3', go_sem, reduceCtorEq, ↓reduceIte, Nat.reduceAdd, Nat.reduceEqDiff]
    (refine kGc_call (c2) (fun _ => rfl) (fun hgc => ?_) ?_; (focus (first | (rw [Bool.not_eq_true'] at hgc; simp only [List.map_cons, List.map_nil, List.nil_append, List.append_nil, List.cons_append, Xev_t, Xev_c, upd_app, lf_cons, lf_nil, Nat.reduceEqDiff, ↓reduceIte, hgc, Bool.false_eq_true, Bool.true_eq_false, reduceCtorEq]; done) | (simp only [List.map_cons, List.map_nil, List.nil_append, List.append_nil, List.cons_append, Xev_t, Xev_c, upd_app, lf_cons, lf_nil, Nat.reduceEqDiff, ↓reduceIte, hgc, Bool.false_eq_true, Bool.true_eq_false, reduceCtorEq]; done) | (revert hgc; simp +contextual [Xev_t, Xev_c, upd_app, lf_cons, lf_nil]; done) | simp [Xev_t, Xev_c, upd_app, lf_cons, lf_nil])); simp +contextual (maxSteps := 1000000) only [go_sem, ↓reduceIte, Nat.reduceAdd, Nat.reduceEqDiff])
    all_goals
      rw [← hQ]
      refine ⟨trivial, Ret.flat (show some (AV.bool _) = some (AV.bool _) from congrArg (fun z => some (AV.bool z)) ?_) rfl⟩
      rw [sentK, h3, dneq]; rfl
def textK (fl : Int) (k : Ky) : List UInt8 :=
  if (hasK fl 8 || decide (k.type = 3)) = true then []
  else if (typedK k.code && onlyK k.mods 0) = true then [UInt8.ofNat k.code.toNat]
  else if (decide (kindK k.code ≠ 1) || !onlyK k.mods 1) = true then []
  else if k.text ≠ [] then k.text else putU (shownK k)
set_option maxHeartbeats 2000000 in
theorem fs_text {Gl : Gh → Prop} (hst : Stays Gl) {k : Ky} {fl : Int} (hfl : fl ≤ 9223372036854775807) (h0 : 0 ≤ k.mods) (h1 : k.mods ≤ 255) (ht : k.text.length ≤ 1000000000000) : FS Tryz.prog Gl 58 [.agg (evC k fl (kindK k.code))] [] [] (.sl none 1 (bytesAV (textK fl k))) [] [] := by
  refine FS.ofW hm hst is_kittyeventtext rfl (by simp) fun γ hγ hfr => ?_
  have c1 := fs_text1 (Gl := Gl) hst (k := k) (fl := fl) (kd := kindK k.code) (l := 0) (a := (γ, 0, 0)) hγ h0 h1 (.inl rfl)
  have c1' := fs_text1 (Gl := Gl) hst (k := k) (fl := fl) (kd := kindK k.code) (l := 1) (a := (γ, 0, 0)) hγ h0 h1 (.inr rfl)
  have c2 := fs_has (Gl := Gl) hst (k := k) (kd := kindK k.code) 3 (by omega) (f := 8) rfl hfl
  have c3 := fs_typed (Gl := Gl) hst (k := k) (fl := fl) (kd := kindK k.code)
  have c4 := fs_Shown (Gl := Gl) hst (k := k) (by omega)
  have hrd := (rd_ev (k := k) (fl := fl) (kd := kindK k.code) (a := (γ, 0, 0)) hγ).rn
  rw [evC] at c1 c1' c2 c3 hrd
  rw [kyAV] at c4
  have htx : textK fl k = (if (hasK fl 8 || decide (k.type = 3)) = true then [] else if (typedK k.code && onlyK k.mods 0) = true then [UInt8.ofNat k.code.toNat]
    else if (decide (kindK k.code ≠ 1) || !onlyK k.mods 1) = true then [] else if k.text ≠ [] then k.text else putU (shownK k)) := rfl
  (generalize hQ : (fun (ex : Ex) (_ _ : Nat) (s : St) => _) = Q; unfold ir_kittyeventtext)
  simp +contextual (maxSteps := 1000000) only [evC, go_sem, ↓reduceIte, Nat.reduceAdd, Nat.reduceEqDiff]
  (refine CallP.pure (c2) (fun _ => rfl) ?_; simp +contextual (maxSteps := 1000000) only [go_sem, reduceCtorEq, ↓reduceIte, Nat.reduceAdd, Nat.reduceEqDiff])
  have e3 : (k.type == 3) = decide (k.type = 3) := rfl
  rw [e3]
  cases hA : (hasK fl 8 || decide (k.type = 3)) with
  | true =>
    simp +contextual (maxSteps := 1000000) only [go_sem, ↓reduceIte, Nat.reduceAdd]
    rw [← hQ, htx, hA]
    exact ⟨trivial, .inl ⟨_, rfl, RepLe.nils 1⟩⟩
  | false =>
    simp +contextual (maxSteps := 1000000) only [go_sem, ↓reduceIte, Nat.reduceAdd]
    cases hty : typedK k.code with
    | true =>
      rw [hty] at c3
      (refine CallP.pure (c3) (fun _ => rfl) ?_; simp +contextual (maxSteps := 1000000) only [go_sem, ↓reduceIte, Nat.reduceAdd, Nat.reduceEqDiff])
      refine CallP.all c1 (fun _ => rfl) hrd ?_
      cases hon : onlyK k.mods 0 with
      | true =>
        simp +contextual (maxSteps := 1000000) only [go_sem, ↓reduceIte, Nat.reduceAdd, Nat.reduceEqDiff]
        have hz : textK fl k = [UInt8.ofNat k.code.toNat] := by rw [htx, hA, hty, hon]; rfl
        rw [← hQ, hz]
        refine ⟨trivial, .inl ⟨_, rfl, RepLe.anon' ?_⟩⟩
        have hcc : k.code = 9 ∨ k.code = 13 ∨ k.code = 127 := by
          simp only [typedK, Bool.or_eq_true, decide_eq_true_eq] at hty; omega
        rcases hcc with h | h | h <;> rw [h] <;> rfl
      | false =>
        simp +contextual (maxSteps := 1000000) only [go_sem, reduceCtorEq, ↓reduceIte, Nat.reduceAdd, Nat.reduceEqDiff]
        cases hk : (kindK k.code != 1) with
        | true =>
          simp +contextual (maxSteps := 1000000) only [hk, go_sem, ↓reduceIte, Nat.reduceAdd, Nat.reduceEqDiff]
          have hz : textK fl k = [] := by rw [htx, hA, hty, hon, dneq, hk]; rfl
          rw [← hQ, hz]
          exact ⟨trivial, .inl ⟨_, rfl, RepLe.nils 1⟩⟩
        | false =>
          simp +contextual (maxSteps := 1000000) only [hk, go_sem, ↓reduceIte, Nat.reduceAdd]
          refine CallP.all c1' (fun _ => rfl) hrd ?_
          cases ho1 : onlyK k.mods 1 with
          | false =>
            simp +contextual (maxSteps := 1000000) only [go_sem, ↓reduceIte, Nat.reduceAdd, Nat.reduceEqDiff]
            have hz : textK fl k = [] := by rw [htx, hA, hty, hon, dneq, hk, ho1]; rfl
            rw [← hQ, hz]
            exact ⟨trivial, .inl ⟨_, rfl, RepLe.nils 1⟩⟩
          | true =>
            have hz : textK fl k = if k.text ≠ [] then k.text else putU (shownK k) := by rw [htx, hA, hty, hon, dneq, hk, ho1]; rfl
            by_cases hte : k.text = []
            · have hq : decide (k.text = []) = true := by simp [hte]
              rw [if_neg (fun h => h hte)] at hz
              simp +contextual (maxSteps := 1000000) only [hq, go_sem, ↓reduceIte, Nat.reduceAdd, Nat.reduceEqDiff, Nat.reduceLeDiff]
              (refine CallP.pure (c4) (fun _ => rfl) ?_; simp +contextual (maxSteps := 1000000) only [go_sem, ↓reduceIte, Nat.reduceAdd])
              (refine CallP.pure (fs_putU hst) (fun _ => rfl) ?_; simp +contextual (maxSteps := 1000000) only [go_sem, ↓reduceIte, Nat.reduceAdd])
              rw [← hQ, hz]
              exact ⟨trivial, .inl ⟨_, rfl, RepLe.refl _⟩⟩
            · have hq : decide (k.text = []) = false := by simp [hte]
              rw [if_pos hte] at hz
              simp +contextual (maxSteps := 1000000) only [hq, go_sem, ↓reduceIte, Nat.reduceAdd, Nat.reduceEqDiff]
              refine ⟨by simp only [maxLen]; omega, ?_⟩
              rw [← hQ, hz]
              exact ⟨trivial, .inl ⟨_, rfl, RepLe.refl _⟩⟩
    | false =>
      rw [hty] at c3
      (refine CallP.pure (c3) (fun _ => rfl) ?_; simp +contextual (maxSteps := 1000000) only [go_sem, reduceCtorEq, ↓reduceIte, Nat.reduceAdd, Nat.reduceEqDiff])
      cases hk : (kindK k.code != 1) with
      | true =>
        simp +contextual (maxSteps := 1000000) only [hk, go_sem, ↓reduceIte, Nat.reduceAdd, Nat.reduceEqDiff]
        have hz : textK fl k = [] := by rw [htx, hA, hty, Bool.false_and, dneq, hk]; rfl
        rw [← hQ, hz]
        exact ⟨trivial, .inl ⟨_, rfl, RepLe.nils 1⟩⟩
      | false =>
        simp +contextual (maxSteps := 1000000) only [hk, go_sem, ↓reduceIte, Nat.reduceAdd]
        refine CallP.all c1' (fun _ => rfl) hrd ?_
        cases ho1 : onlyK k.mods 1 with
        | false =>
          simp +contextual (maxSteps := 1000000) only [go_sem, ↓reduceIte, Nat.reduceAdd, Nat.reduceEqDiff]
          have hz : textK fl k = [] := by rw [htx, hA, hty, Bool.false_and, dneq, hk, ho1]; rfl
          rw [← hQ, hz]
          exact ⟨trivial, .inl ⟨_, rfl, RepLe.nils 1⟩⟩
        | true =>
          have hz : textK fl k = if k.text ≠ [] then k.text else putU (shownK k) := by rw [htx, hA, hty, Bool.false_and, dneq, hk, ho1]; rfl
          by_cases hte : k.text = []
          · have hq : decide (k.text = []) = true := by simp [hte]
            rw [if_neg (fun h => h hte)] at hz
            simp +contextual (maxSteps := 1000000) only [hq, go_sem, ↓reduceIte, Nat.reduceAdd, Nat.reduceEqDiff, Nat.reduceLeDiff]
            (refine CallP.pure (c4) (fun _ => rfl) ?_; simp +contextual (maxSteps := 1000000) only [go_sem, ↓reduceIte, Nat.reduceAdd])
            (refine CallP.pure (fs_putU hst) (fun _ => rfl) ?_; simp +contextual (maxSteps := 1000000) only [go_sem, ↓reduceIte, Nat.reduceAdd])
            rw [← hQ, hz]
            exact ⟨trivial, .inl ⟨_, rfl, RepLe.refl _⟩⟩
          · have hq : decide (k.text = []) = false := by simp [hte]
            rw [if_pos hte] at hz
            simp +contextual (maxSteps := 1000000) only [hq, go_sem, ↓reduceIte, Nat.reduceAdd, Nat.reduceEqDiff]
            refine ⟨by simp only [maxLen]; omega, ?_⟩
            rw [← hQ, hz]
            exact ⟨trivial, .inl ⟨_, rfl, RepLe.refl _⟩⟩
end Go.Proofs.YtjankibepgnbfaaGreatDoor

namespace Go.Proofs.YtjankibepgnbfaaGreatDoor
open Go Go.Ab
def ir_kittyeventcode : ICode :=
 (.seq
 (.reg [qA 3 (.box 101 (.t 0)),
 qA 6 (.mov (.c .nils))] (some [1,2,3]))
 (.seq
 (.reg [qM 8 1,
 qA 9 (.row 3 1 [(.t 8)]),
 qM 7 9] (some [2,3,7]))
 (.seq
 (.seq
 (.reg [qA 10 (.ld (some 8) (.t 3)),
 qA 11 (.call (qC 114) [(.t 10), (qI 4)]),
 qA 12 (.un .not (.t 11)),
 qM 13 12,
 qG 14 13 false (.mov (.t 2)),
 qG 15 13 false (.bin .neq .none (.t 14) (.c (.int .u8 117))),
 qA 16 (.pick (.t 13) (qB true) (.t 15))] (some [3,7,16]))
 (.cond (.t 16)
 (.seq
 (.reg [qM 17 7,
 qM 6 17] (some [6]))
 .ret)
 .skip))
 (.seq
 (.seq
 (.reg [qF 18 0 3,
 qF 19 3 18,
 qL 20 19,
 qA 21 (.bin .neq .none (.t 20) (qI 0)),
 qM 22 21,
 qG 23 22 true (.fa 0 (.t 3)),
 qG 24 22 true (.fa 1 (.t 23)),
 qG 25 22 true (.ld none (.t 24)),
 qG 26 22 true (.bin .and .none (.t 25) (qI 1)),
 qG 27 22 true (.bin .neq .none (.t 26) (qI 0)),
 qA 28 (.pick (.t 22) (.t 27) (qB false))] (some [3,7,28]))
 (.cond (.t 28)
 (.reg [qM 29 7,
 qF 30 0 3,
 qF 31 3 30,
 qL 32 31,
 qA 33 (.row 3 1 [(.t 32)]),
 qA 34 (.app 3 1 8 (.t 29) (.t 33)),
 qM 7 34] (some [3,7]))
 .skip))
 (.seq
 (.seq
 (.reg [qF 35 0 3,
 qF 36 4 35,
 qL 37 36,
 qA 38 (.bin .neq .none (.t 37) (qI 0)),
 qM 39 38,
 qG 40 39 true (.fa 0 (.t 3)),
 qG 41 39 true (.fa 4 (.t 40)),
 qG 42 39 true (.ld none (.t 41)),
 qG 43 39 true (.fa 0 (.t 3)),
 qG 44 39 true (.fa 0 (.t 43)),
 qG 45 39 true (.ld none (.t 44)),
 qG 46 39 true (.bin .neq .none (.t 42) (.t 45)),
 qA 47 (.pick (.t 39) (.t 46) (qB false))] (some [3,7,47]))
 (.cond (.t 47)
 (.seq
 (.seq
 (.reg [qM 48 7,
 qA 49 (.len (.t 48)),
 qA 50 (.bin .eql .none (.t 49) (qI 1))] (some [3,7,50]))
 (.cond (.t 50)
 (.reg [qM 51 7,
 qA 52 (.row 3 1 [(qI (-1))]),
 qA 53 (.app 3 1 8 (.t 51) (.t 52)),
 qM 7 53] (some [3,7]))
 .skip))
 (.reg [qM 54 7,
 qF 55 0 3,
 qF 56 4 55,
 qL 57 56,
 qA 58 (.row 3 1 [(.t 57)]),
 qA 59 (.app 3 1 8 (.t 54) (.t 58)),
 qM 7 59] (some [7])))
 .skip))
 (.seq
 (.reg [qM 60 7,
 qM 6 60] (some [6]))
 .ret))))))
theorem is_kittyeventcode : IrOf Tryz.prog 62 61 ir_kittyeventcode [.t 6] := ⟨_, Tryz.func62, rfl, by kernel_rfl, by kernel_rfl, by kernel_rfl⟩

def ir_kittyeventhow : ICode :=
 (.seq
 (.reg [qA 1 (.box 101 (.t 0)),
 qA 2 (.mov (.c .nils))] (some [1]))
 (.seq
 (.blk 0
 (.seq
 (.reg [qA 4 (.ld (some 8) (.t 1)),
 qA 5 (.call (qC 114) [(.t 4), (qI 2)]),
 qM 6 5,
 qG 7 6 true (.fa 0 (.t 1)),
 qG 8 6 true (.fa 2 (.t 7)),
 qG 9 6 true (.ld none (.t 8)),
 qG 10 6 true (.bin .neq .none (.t 9) (qI 1)),
 qA 11 (.pick (.t 6) (.t 10) (qB false)),
 qM 3 11] (some [1,3]))
 (.cond (.t 3)
 (.seq
 (.drw [⟨qF 12 0 1, []⟩,
 ⟨qF 13 1 12, [0]⟩,
 ⟨qL 14 13, [1]⟩,
 ⟨qA 15 (.call (qC 69) [(.t 14)]), [2]⟩,
 ⟨qF 16 0 1, []⟩,
 ⟨qF 17 2 16, [4]⟩,
 ⟨qL 18 17, [5]⟩,
 ⟨qA 19 (.row 3 1 [(.t 15), (.t 18)]), [3,6]⟩]
 [qM 2 19] (some [2]))
 .ret)
 (.seq
 (.reg [qF 21 0 1,
 qF 22 1 21,
 qL 23 22,
 qA 24 (.bin .neq .none (.t 23) (qI 0)),
 qM 20 24] (some [1,20]))
 (.cond (.t 20)
 (.seq
 (.reg [qF 25 0 1,
 qF 26 1 25,
 qL 27 26,
 qA 28 (.call (qC 69) [(.t 27)]),
 qA 29 (.row 3 1 [(.t 28)]),
 qM 2 29] (some [2]))
 .ret)
 .skip)))))
 (.seq
 (.reg [qA 30 (.row 3 1 [(qI (-1))]),
 qM 2 30] (some [2]))
 .ret)))
theorem is_kittyeventhow : IrOf Tryz.prog 63 31 ir_kittyeventhow [.t 2] := ⟨_, Tryz.func63, rfl, by kernel_rfl, by kernel_rfl, by kernel_rfl⟩

def ir_kittyeventtexts : ICode :=
 (.seq
 (.reg [qA 1 (.box 101 (.t 0)),
 qA 2 (.mov (.c .nils))] (some [1]))
 (.seq
 (.seq
 (.reg [qA 5 (.ld (some 8) (.t 1)),
 qA 6 (.call (qC 114) [(.t 5), (qI 16)]),
 qA 7 (.un .not (.t 6)),
 qM 8 7,
 qG 9 8 false (.fa 0 (.t 1)),
 qG 10 8 false (.fa 2 (.t 9)),
 qG 11 8 false (.ld none (.t 10)),
 qG 12 8 false (.bin .eql .none (.t 11) (qI 3)),
 qA 13 (.pick (.t 8) (qB true) (.t 12)),
 qM 14 13,
 qG 15 14 false (.fa 0 (.t 1)),
 qG 16 14 false (.fa 5 (.t 15)),
 qG 17 14 false (.ld none (.t 16)),
 qG 18 14 false (.bin .eql .none (.t 17) (.c (.str []))),
 qA 19 (.pick (.t 14) (qB true) (.t 18))] (some [1,19]))
 (.cond (.t 19)
 (.seq
 (.reg [qA 20 (.row 3 1 [(qI (-1))]),
 qM 2 20] (some [2]))
 .ret)
 .skip))
 (.seq
 (.reg [qF 22 0 1,
 qF 23 5 22,
 qL 24 23,
 qA 25 (.s2b 5 (.t 24)),
 qA 26 (.call (qC 56) [(.t 25)]),
 qM 21 26,
 qE 27 21 0,
 qE 28 21 1,
 qM 3 27,
 qM 4 28] (some [3]))
 (.seq
 (.reg [qM 29 3,
 qM 2 29] (some [2]))
 .ret))))
theorem is_kittyeventtexts : IrOf Tryz.prog 64 30 ir_kittyeventtexts [.t 2] := ⟨_, Tryz.func64, rfl, by kernel_rfl, by kernel_rfl, by kernel_rfl⟩

def ir_kittyparams1 : ICode :=
 (.seq
 (.reg [qA 4 (.mov (qB false))] (some [0,1]))
 (.seq
 (.reg [qM 5 0,
 qA 6 (.len (.t 5)),
 qA 7 (.bin .eql .none (.t 6) (qI 1)),
 qM 8 7,
 qG 9 8 true (.mov (.t 0)),
 qG 10 8 true (.ia 1 (.t 9) (qI 0)),
 qG 11 8 true (.ld none (.t 10)),
 qG 12 8 true (.bin .eql .none (.t 11) (qI (-1))),
 qG 13 8 true (.mov (.t 12)),
 qG 14 13 false (.mov (.t 1)),
 qG 15 13 false (.mov (.t 14)),
 qG 16 15 true (.mov (.t 0)),
 qG 17 15 true (.ia 1 (.t 16) (qI 0)),
 qG 18 15 true (.ld none (.t 17)),
 qG 19 15 true (.bin .eql .none (.t 18) (qI 1)),
 qG 20 13 false (.pick (.t 15) (.t 19) (qB false)),
 qG 21 8 true (.pick (.t 13) (qB true) (.t 20)),
 qA 22 (.pick (.t 8) (.t 21) (qB false)),
 qM 4 22] (some [4]))
 .ret))
theorem is_kittyparams1 : IrOf Tryz.prog 121 23 ir_kittyparams1 [.t 4] := ⟨_, Tryz.func121, rfl, by kernel_rfl, by kernel_rfl, by kernel_rfl⟩

/- clavier/kitty.params -/
def ir_kittyparams_l0 : ICode :=
 (.seq
 (.seq
 (.reg [qM 7 4,
 qA 8 (.bin .gtr .none (.t 7) (qI 0)),
 qM 9 8,
 qG 10 9 true (.mov (.t 3)),
 qG 11 9 true (.mov (.t 0)),
 qG 12 9 true (.mov (.t 4)),
 qG 13 9 true (.bin .sub .none (.t 12) (qI 1)),
 qG 14 9 true (.ia 1 (.t 11) (.t 13)),
 qG 15 9 true (.ld none (.t 14)),
 qG 16 9 true (.mov (.t 4)),
 qG 17 9 true (.bin .eql .none (.t 16) (qI 1)),
 qG 18 9 true (.call (.t 10) [(.t 15), (.t 17)]),
 qA 19 (.pick (.t 9) (.t 18) (qB false))] (some [0,3,4,19]))
 (.cond (.t 19)
 .skip
 (.exit 0)))
 (.seq
 (.blk 1
 (.reg [qM 22 0,
 qM 23 4,
 qA 24 (.bin .sub .none (.t 23) (qI 1)),
 qA 25 (.sll 1 (.t 22) none (some (.t 24)) none),
 qM 0 25] (some [0,3,4])))
 (.reg [qM 20 4,
 qA 21 (.bin .sub .none (.t 20) (qI 1)),
 qM 4 21] (some [0,3,4]))))
def ir_kittyparams : ICode :=
 (.seq
 (.reg [qA 2 (.mov (.c .nils))] (some [0]))
 (.seq
 (.reg [qA 3 (.mov (qC 121))] (some [0,3]))
 (.seq
 (.seq
 (.reg [qM 5 0,
 qA 6 (.len (.t 5)),
 qM 4 6] (some [0,3,4]))
 (.blk 0
 (.loop
 ir_kittyparams_l0)))
 (.seq
 (.reg [qM 26 0,
 qM 2 26] (some [2]))
 .ret))))
theorem is_kittyparams : IrOf Tryz.prog 61 27 ir_kittyparams [.t 2] := ⟨_, Tryz.func61, rfl, by kernel_rfl, by kernel_rfl, by kernel_rfl⟩

def firstK (fl : Int) (k : Ky) (n f : Int) : List Int :=
  if (!hasK fl 4 || (f != 117)) = true then [n]
  else
    let l := if ((k.shifted != 0) && hasK k.mods 1) = true then [n, k.shifted] else [n]
    if ((k.base != 0) && (k.base != k.code)) = true then (if l.length = 1 then l ++ [-1] else l) ++ [k.base] else l
def secondK (fl : Int) (k : Ky) : List Int :=
  if (hasK fl 2 && (k.type != 1)) = true then [paramK k.mods, k.type] else if (k.mods != 0) = true then [paramK k.mods] else [-1]
def thirdK (fl : Int) (k : Ky) : List Int :=
  if (!hasK fl 16 || (k.type == 3) || decide (k.text = [])) = true then [-1] else (allV k.text).1
theorem fs_how {Gl : Gh → Prop} (hst : Stays Gl) {k : Ky} {fl kd : Int} (hfl : fl ≤ 9223372036854775807) : FS Tryz.prog Gl 63 [.agg (evC k fl kd)] [] [] (intsV (secondK fl k)) [] [] := by
  refine FS.ofW hm hst is_kittyeventhow rfl (by simp) fun γ hγ hfr => ?_
  have c1 := fs_has (Gl := Gl) hst (k := k) (kd := kd) 1 (by omega) (f := 2) rfl hfl
  rw [evC] at c1
  have c2 := fs_Param (Gl := Gl) hst (m := k.mods)
  (generalize hQ : (fun (ex : Ex) (_ _ : Nat) (s : St) => _) = Q; unfold ir_kittyeventhow)
  simp +contextual (maxSteps := 1000000) only [evC, go_sem, ↓reduceIte, Nat.reduceAdd, Nat.reduceEqDiff]
  (refine CallP.pure (c1) (fun _ => rfl) ?_; simp +contextual (maxSteps := 1000000) only [go_sem, reduceCtorEq, ↓reduceIte, Nat.reduceAdd, Nat.reduceEqDiff])
  cases hA : (hasK fl 2 && (k.type != 1)) with
  | true =>
    simp +contextual (maxSteps := 1000000) only [go_sem, ↓reduceIte, Nat.reduceAdd]
    refine DCall.new c2 ?_
    simp +contextual (maxSteps := 1000000) only [go_sem, ↓reduceIte, Nat.reduceAdd, Nat.reduceEqDiff, Nat.reduceBEq]
    refine ⟨by simp [AV.closedL, AV.closed], ?_⟩
    have hz : secondK fl k = [paramK k.mods, k.type] := by rw [secondK, if_pos hA]
    rw [← hQ, hz]
    exact ⟨trivial, .inl ⟨_, rfl, RepLe.anon' rfl⟩⟩
  | false =>
    simp +contextual (maxSteps := 1000000) only [go_sem, reduceCtorEq, ↓reduceIte, Nat.reduceAdd, Nat.reduceEqDiff]
    cases hB : (k.mods != 0) with
    | true =>
      simp +contextual (maxSteps := 1000000) only [go_sem, ↓reduceIte, Nat.reduceAdd]
      (refine CallP.pure (c2) (fun _ => rfl) ?_; simp +contextual (maxSteps := 1000000) only [go_sem, ↓reduceIte, Nat.reduceAdd])
      have hz : secondK fl k = [paramK k.mods] := by rw [secondK, hA, hB]; rfl
      rw [← hQ, hz]
      exact ⟨trivial, .inl ⟨_, rfl, RepLe.anon' rfl⟩⟩
    | false =>
      simp +contextual (maxSteps := 1000000) only [go_sem, ↓reduceIte, Nat.reduceAdd]
      have hz : secondK fl k = [-1] := by rw [secondK, hA, hB]; rfl
      rw [← hQ, hz]
      exact ⟨trivial, .inl ⟨_, rfl, RepLe.anon' rfl⟩⟩
theorem fs_texts {Gl : Gh → Prop} (hst : Stays Gl) {k : Ky} {fl kd : Int} (hfl : fl ≤ 9223372036854775807) (ht : k.text.length ≤ 1000000000000) : FS Tryz.prog Gl 64 [.agg (evC k fl kd)] [] [] (intsV (thirdK fl k)) [] [] := by
  refine FS.ofW hm hst is_kittyeventtexts rfl (by simp) fun γ hγ hfr => ?_
  have c1 := fs_has (Gl := Gl) hst (k := k) (kd := kd) 4 (by omega) (f := 16) rfl hfl
  rw [evC] at c1
  have c2 := fs_allU (Gl := Gl) hst ht
  rw [allW] at c2
  (generalize hQ : (fun (ex : Ex) (_ _ : Nat) (s : St) => _) = Q; unfold ir_kittyeventtexts)
  simp +contextual (maxSteps := 1000000) only [evC, go_sem, ↓reduceIte, Nat.reduceAdd, Nat.reduceEqDiff]
  (refine CallP.pure (c1) (fun _ => rfl) ?_; simp +contextual (maxSteps := 1000000) only [go_sem, reduceCtorEq, ↓reduceIte, Nat.reduceAdd, Nat.reduceEqDiff])
  cases hA : (!hasK fl 16 || (k.type == 3) || decide (k.text = [])) with
  | true =>
    simp +contextual (maxSteps := 1000000) only [go_sem, ↓reduceIte, Nat.reduceAdd]
    have hz : thirdK fl k = [-1] := by rw [thirdK, if_pos hA]
    rw [← hQ, hz]
    exact ⟨trivial, .inl ⟨_, rfl, RepLe.anon' rfl⟩⟩
  | false =>
    simp +contextual (maxSteps := 1000000) only [go_sem, ↓reduceIte, Nat.reduceAdd]
    refine ⟨by simp only [maxLen]; omega, ?_⟩
    (refine CallP.pure (c2) (fun _ => rfl) ?_; simp +contextual (maxSteps := 1000000) only [go_sem, ↓reduceIte, Nat.reduceAdd, Nat.reduceEqDiff])
    have hz : thirdK fl k = (allV k.text).1 := by rw [thirdK, hA]; rfl
    rw [← hQ, hz]
    exact ⟨trivial, .inl ⟨_, rfl, RepLe.refl _⟩⟩
set_option maxHeartbeats 2000000 in
theorem fs_code {Gl : Gh → Prop} (hst : Stays Gl) {k : Ky} {fl kd n f : Int} (hfl : fl ≤ 9223372036854775807) (h0 : 0 ≤ k.mods) (h1 : k.mods ≤ 255) : FS Tryz.prog Gl 62 [.agg (evC k fl kd), .int .i64 n, .int .u8 f] [] [] (intsV (firstK fl k n f)) [] [] := by
  refine FS.ofW hm hst is_kittyeventcode rfl (by simp) fun γ hγ hfr => ?_
  have c1 := fs_has (Gl := Gl) hst (k := k) (kd := kd) 2 (by omega) (f := 4) rfl hfl
  rw [evC] at c1
  have hb1 : (bits .and .i64 k.mods 1 != 0) = hasK k.mods 1 := by
    have := has_and (m := k.mods) (by omega) 0 (by omega)
    rw [show max k.mods 0 = k.mods by omega] at this
    simp only [Nat.pow_zero, Int.natCast_one] at this
    rw [bne, this, Bool.not_not]
  (generalize hQ : (fun (ex : Ex) (_ _ : Nat) (s : St) => _) = Q; unfold ir_kittyeventcode)
  simp +contextual (maxSteps := 1000000) only [evC, go_sem, ↓reduceIte, Nat.reduceAdd, Nat.reduceEqDiff]
  (refine CallP.pure (c1) (fun _ => rfl) ?_; simp +contextual (maxSteps := 1000000) only [go_sem, reduceCtorEq, ↓reduceIte, Nat.reduceAdd, Nat.reduceEqDiff])
  cases hA : (!hasK fl 4 || (f != 117)) with
  | true =>
    simp +contextual (maxSteps := 1000000) only [go_sem, ↓reduceIte, Nat.reduceAdd, Nat.reduceEqDiff]
    have hz : firstK fl k n f = [n] := by rw [firstK, if_pos hA]
    rw [← hQ, hz]
    exact ⟨trivial, .inl ⟨_, rfl, RepLe.anon' rfl⟩⟩
  | false =>
    cases hB : ((k.shifted != 0) && hasK k.mods 1) <;> cases hC : ((k.base != 0) && (k.base != k.code))
    all_goals
      simp +contextual (maxSteps := 1000000) only [hb1, hB, hC, go_sem, reduceCtorEq, ↓reduceIte, Nat.reduceAdd, Nat.reduceEqDiff, Nat.reduceLeDiff, Nat.reduceMul, Int.reduceBEq]
      repeat' (refine And.intro (by simp) ?_)
      rw [← hQ, firstK, hA, hB, hC]
      exact ⟨trivial, .inl ⟨_, rfl, RepLe.anon' rfl⟩⟩
def untoldK (p : List Int) (first : Bool) : Bool := (p.length == 1) && ((p.getD 0 0 == -1) || first && (p.getD 0 0 == 1))
theorem fs_untold {Gl : Gh → Prop} (hst : Stays Gl) {p : List Int} {b : Bool} : FS Tryz.prog Gl 121 [intsV p, .bool b] [] [] (.bool (untoldK p b)) [] [] := by
  refine FS.of hm hst is_kittyparams1 (by simp) fun γ hγ hfr => ?_
  (generalize hQ : (fun (ex : Ex) (_ _ : Nat) (s : St) => _) = Q; unfold ir_kittyparams1)
  by_cases hl : p.length = 1
  · obtain ⟨x, rfl⟩ := List.length_eq_one_iff.1 hl
    simp +contextual (maxSteps := 1000000) only [intsV, intsAV, go_sem, reduceCtorEq, ↓reduceIte, Nat.reduceAdd, Nat.reduceEqDiff, Int.reduceLT, Int.reduceLE, Int.reduceToNat]
    rw [← hQ]
    exact ⟨trivial, Ret.flat rfl rfl⟩
  · have hq : (((intsAV p).length : Int) == 1) = false := by rw [intsAV_length]; simp; omega
    simp +contextual (maxSteps := 1000000) only [intsV, hq, go_sem, reduceCtorEq, ↓reduceIte, Nat.reduceAdd, Nat.reduceEqDiff]
    rw [← hQ]
    have hz : untoldK p b = false := by
      have : (p.length == 1) = false := by simp [hl]
      rw [untoldK, this]; rfl
    rw [hz]
    exact ⟨trivial, Ret.flat rfl rfl⟩
def trimK (l : List (List Int)) : Nat → List (List Int)
  | 0 => []
  | n + 1 => if untoldK (l.getD n []) (n == 0) = true then trimK l n else l.take (n + 1)
theorem fs_params {Gl : Gh → Prop} (hst : Stays Gl) {l : List (List Int)} {tb : Option Nm} (hl : l.length ≤ 1000000) : FS Tryz.prog Gl 61 [.sl tb 1 (parsAV l)] [] [] (parsV (trimK l l.length)) [] [] := by
  refine FS.ofW hm hst is_kittyparams rfl (by simp) fun γ hγ hfr => ?_
  (generalize hQ : (fun (ex : Ex) (_ _ : Nat) (s : St) => _) = Q; unfold ir_kittyparams)
  simp +contextual (maxSteps := 1000000) only [parsAV_length, go_sem, reduceCtorEq, ↓reduceIte, Nat.reduceAdd, Nat.reduceEqDiff]
  refine kLoop_ix (fun n : Nat => ⟨lf [(0, .sl none 1 (parsAV (l.take n))), (3, .fn (.func 121) [] []), (4, .int .i64 (n : Int))], [], fun x => x ∈ []⟩) (fun n => n ≤ l.length ∧ trimK l l.length = trimK l n) (fun n => n) 0 l.length ?_ ⟨Nat.le_refl _, rfl⟩ ?_
  · refine Wk.same ?_
    simp only [lfOK, upd, initF, List.take_length]
    repeat' first | exact AVle.refl _ _ | exact trivial | exact AVle.le (RepLe.anon _ _ _) | refine And.intro ?_ ?_
  · rintro γ' n hf ⟨hn, htr⟩
    generalize hQ' : kIt _ _ _ _ _ = Q'
    unfold ir_kittyparams_l0
    cases n with
    | zero =>
      have hd : decide (((0 : Nat) : Int) > 0) = false := by simp
      simp +contextual (maxSteps := 1000000) only [hd, go_sem, reduceCtorEq, ↓reduceIte, Nat.reduceAdd, Nat.reduceEqDiff, Int.reduceGT]
      rw [← hQ']
      simp only [w_kIt_e, w_kBlk_e, ↓reduceIte]
      simp +contextual (maxSteps := 1000000) only [go_sem, ↓reduceIte, Nat.reduceAdd]
      have hz : trimK l l.length = [] := htr
      rw [← hQ, hz]
      exact ⟨trivial, .inl ⟨_, rfl, RepLe.refl _⟩⟩
    | succ m =>
      have hd : decide (((m + 1 : Nat) : Int) > 0) = true := by simp <;> omega
      have hw : IntKind.i64.wrap (((m + 1 : Nat) : Int) - 1) = (m : Int) := by rw [IntKind.wrap_i64]; omega
      have hg1 : (parsAV (l.take (m + 1))).getD m [] = [intsV (l.getD m [])] := by
        rw [parsAV_get (by rw [List.length_take]; omega)]
        congr 2
        rw [List.getElem_take, List.getD_eq_getElem?_getD, List.getElem?_eq_getElem (by omega)]; rfl
      have hq1 : (((m + 1 : Nat) : Int) == 1) = (m == 0) := by rw [Bool.eq_iff_iff]; simp; omega
      have hlt : (l.take (m + 1)).length = m + 1 := by rw [List.length_take]; omega
      have c1 := fs_untold (Gl := Gl) hst (p := l.getD m []) (b := (m == 0))
      have hp1 : parsAV (l.take (m + 1)) = (l.take (m + 1)).map fun p => [intsV p] := rfl
      have hpt : (parsAV (l.take (m + 1))).take m = parsAV (l.take m) := by
        rw [parsAV, ← List.map_take, List.take_take, show min m (m + 1) = m by omega]; rfl
      simp +contextual (maxSteps := 1000000) only [hd, hw, hg1, hq1, Int.toNat_natCast, parsAV_length, hlt, go_sem, reduceCtorEq, ↓reduceIte, Nat.reduceAdd, Nat.reduceEqDiff]
      refine ⟨⟨by omega, by omega⟩, ?_⟩
      cases hu : untoldK (l.getD m []) (m == 0) with
      | true =>
        rw [hu] at c1
        (refine CallP.pure (c1) (fun _ => rfl) ?_; simp +contextual (maxSteps := 1000000) only [hw, hpt, Int.toNat_natCast, parsAV_length, hlt, go_sem, reduceCtorEq, ↓reduceIte, Nat.reduceAdd, Nat.reduceEqDiff, Int.reduceLE, Int.reduceToNat])
        refine ⟨⟨by omega, by omega, by omega, by omega⟩, ?_⟩
        rw [← hQ']
        simp only [w_kIt_n]
        refine ⟨0, m, Wk.same ?_, ⟨by omega, by rw [htr, trimK, hu]; rfl⟩, by omega⟩
        repeat' first | exact AVle.refl _ _ | exact trivial | refine And.intro ?_ ?_ | exact AVle.int (by simp only [IntKind.wrap_i64]; omega)
      | false =>
        rw [hu] at c1
        (refine CallP.pure (c1) (fun _ => rfl) ?_; simp +contextual (maxSteps := 1000000) only [go_sem, reduceCtorEq, ↓reduceIte, Nat.reduceAdd, Nat.reduceEqDiff])
        rw [← hQ']
        simp only [w_kIt_e, w_kBlk_e, ↓reduceIte]
        simp +contextual (maxSteps := 1000000) only [go_sem, ↓reduceIte, Nat.reduceAdd]
        have hz : trimK l l.length = l.take (m + 1) := by rw [htr, trimK, hu]; rfl
        rw [← hQ, hz]
        exact ⟨trivial, .inl ⟨_, rfl, RepLe.refl _⟩⟩
end Go.Proofs.YtjankibepgnbfaaGreatDoor

namespace Go.Proofs.YtjankibepgnbfaaGreatDoor
open Go Go.Ab
def decB (n : Nat) : List UInt8 := if n < 10 then [UInt8.ofNat (48 + n)] else decB (n / 10) ++ [UInt8.ofNat (48 + n % 10)]
termination_by n
decreasing_by omega
def textZ (n : Int) : List UInt8 := if n < 0 then [] else decB n.toNat
theorem decB_len20 {n : Nat} (h : n < 10000000000000000000) : (decB n).length ≤ 19 := by
  have key : ∀ (k n : Nat), n < 10 ^ (k + 1) → (decB n).length ≤ k + 1 := by
    intro k
    induction k with
    | zero => intro n h; rw [decB, if_pos (by omega)]; simp
    | succ k ih =>
      intro n h
      rw [decB]
      split
      · simp
      · have := ih (n / 10) (by rw [Nat.pow_succ] at h; omega)
        simp; omega
  exact key 18 n h
theorem isByte_one (c : UInt8) : (∀ r ∈ [[AV.int .u8 (c.toNat : Int)]], isByte r) = True := by
  simp only [List.mem_singleton, forall_eq, isByte_c]
theorem unbyte_c (c : UInt8) : [[AV.int .u8 (c.toNat : Int)]].map unbyte = [c] := by
  simp [unbyte]
end Go.Proofs.YtjankibepgnbfaaGreatDoor

namespace Go.Proofs.YtjankibepgnbfaaGreatDoor
open Go Go.Ab
end Go.Proofs.YtjankibepgnbfaaGreatDoor

namespace Go.Proofs.YtjankibepgnbfaaGreatDoor
open Go Go.Ab
def ir_stringsindexFunc : ICode :=
 (.seq
 (.reg [qA 6 (.mov (qI 0))] (some [0,1,2]))
 (.seq
 (.seq
 (.reg [qM 9 0,
 qA 10 (.rng (.t 9))] (some [1,2,10]))
 (.blk 0
 (.loop
 (.seq
 (.reg [qA 11 (.nxt (.t 10)),
 qE 12 11 0] (some [1,2,10,11,12]))
 (.seq
 (.cond (.t 12)
 .skip
 (.exit 0))
 (.blk 1
 (.seq
 (.reg [qE 13 11 1,
 qE 14 11 2,
 qM 7 13,
 qM 8 14] (some [1,2,7,8,10]))
 (.seq
 (.reg [qM 15 1,
 qM 16 8,
 qA 17 (.call (.t 15) [(.t 16)]),
 qM 18 2,
 qA 19 (.bin .eql .bool (.t 17) (.t 18))] (some [1,2,7,10,19]))
 (.cond (.t 19)
 (.seq
 (.reg [qM 20 7,
 qM 6 20] (some [6]))
 .ret)
 .skip)))))))))
 (.seq
 (.reg [qA 6 (.mov (qI (-1)))] (some [6]))
 .ret)))
theorem is_stringsindexFunc : IrOf Tryz.prog 221 21 ir_stringsindexFunc [.t 6] := ⟨_, Tryz.func221, rfl, by kernel_rfl, by kernel_rfl, by kernel_rfl⟩

def ir_stringsIndexFunc : ICode :=
 (.seq
 (.reg [qA 4 (.mov (qI 0))] (some [0,1]))
 (.seq
 (.reg [qM 5 0,
 qM 6 1,
 qA 7 (.call (qC 221) [(.t 5), (.t 6), (qB true)]),
 qM 4 7] (some [4]))
 .ret))
theorem is_stringsIndexFunc : IrOf Tryz.prog 211 8 ir_stringsIndexFunc [.t 4] := ⟨_, Tryz.func211, rfl, by kernel_rfl, by kernel_rfl, by kernel_rfl⟩

def ir_stringsContainsFunc : ICode :=
 (.seq
 (.reg [qA 4 (.mov (qB false))] (some [0,1]))
 (.seq
 (.reg [qM 5 0,
 qM 6 1,
 qA 7 (.call (qC 211) [(.t 5), (.t 6)]),
 qA 8 (.bin .geq .none (.t 7) (qI 0)),
 qM 4 8] (some [4]))
 .ret))
theorem is_stringsContainsFunc : IrOf Tryz.prog 188 9 ir_stringsContainsFunc [.t 4] := ⟨_, Tryz.func188, rfl, by kernel_rfl, by kernel_rfl, by kernel_rfl⟩

def idxF (s : ByteArray) (q : Nat → Bool) : Nat → Nat → Int
  | 0, _ => -1
  | m + 1, pos => if pos < s.size then if q (Utf8.decode s pos).1 = true then pos else idxF s q m (pos + (Utf8.decode s pos).2) else -1

theorem fs_indexFunc {Gl : Gh → Prop} (hst : Stays Gl) {s : List UInt8} {k : Nat} {caps : List AV} {Hc : Hp} {q : Nat → Bool} (hs : s.length < 9223372036854775808) (hR : Rd Hc)
    (hk : ∀ c : Nat, FS Tryz.prog Gl k (.int .i32 c :: caps) Hc [] (.bool (q c)) Hc []) :
    FS Tryz.prog Gl 221 [.str s, .fn (.func k) [] caps, .bool true] Hc [] (.int .i64 (idxF ⟨s.toArray⟩ q (s.length + 1) 0)) Hc [] := by
  refine FS.of hm hst is_stringsindexFunc (by simp) fun γ hγ hfr => ?_
  generalize hQ : (fun (ex : Ex) (_ _ : Nat) (s : St) => _) = Q
  unfold ir_stringsindexFunc
  simp +contextual (maxSteps := 1000000) only [go_sem, reduceCtorEq, ↓reduceIte, Nat.reduceAdd, Nat.reduceEqDiff]
  have hap : ∀ p ∈ Hc, p.1 ≠ ((γ, 2, 0) : Nm) := fun p hp e => hfr.1 p hp (by rw [e])
  refine kLoop_ix (fun pos : Nat => ⟨lf [(1, .fn (.func k) [] caps), (2, .bool true), (10, .ptr (γ, 2, 0) 0)], Hc ++ [((γ, 2, 0), .obj (.stringIter ⟨s.toArray⟩ pos))], fun x => x ∈ []⟩) (fun pos => ∃ m, s.length - pos < m ∧ idxF ⟨s.toArray⟩ q (s.length + 1) 0 = idxF ⟨s.toArray⟩ q m pos) (fun pos => s.length - pos) 0 0 (Wk.perm ?_ ?_) ?_ ?_
  · simp only [lfOK, upd, initF]
    repeat' first | exact AVle.refl _ _ | exact trivial | refine And.intro ?_ ?_
  · intro p hp; simp only [List.mem_append, List.mem_singleton, List.mem_cons] at hp ⊢; rcases hp with h | h; exact .inr h; exact .inl (by simpa using h)
  · exact ⟨s.length + 1, by omega, rfl⟩
  · rintro γ' pos hf ⟨m, hm1, hinv⟩
    generalize hQ' : kIt _ _ _ _ _ = Q'
    have hget : getH (Hc ++ [((γ, 2, 0), HB.obj (.stringIter ⟨s.toArray⟩ pos))]) (γ, 2, 0) = some (.obj (.stringIter ⟨s.toArray⟩ pos)) := getH_last hap
    have hset : ∀ o, setH (Hc ++ [((γ, 2, 0), HB.obj (.stringIter ⟨s.toArray⟩ pos))]) (γ, 2, 0) (.obj o) = Hc ++ [((γ, 2, 0), HB.obj o)] := fun o => setH_last hap
    have hsz : (⟨s.toArray⟩ : ByteArray).size = s.length := by simp [ByteArray.size]
    obtain ⟨m, rfl⟩ : ∃ m', m = m' + 1 := ⟨m - 1, by omega⟩
    have hmem : ∀ o, ∀ p ∈ Hc, p ∈ Hc ++ [(((γ, 2, 0) : Nm), HB.obj o)] := fun o p hp => List.mem_append.2 (.inl hp)
    by_cases hlt : pos < s.length
    · have hw := Lib.decode_width_pos ⟨s.toArray⟩ pos (by rw [hsz]; exact hlt)
      simp +contextual (maxSteps := 1000000) only [hget, hset, hsz, hlt, if_true, go_sem, ↓reduceIte, Nat.reduceAdd, Nat.reduceEqDiff]
      refine CallP.read (hk _) (fun _ => rfl) hR.rn (fun p hp q' hq' => ?_) ?_
      · simp only [List.mem_singleton] at hp; subst hp; exact hap q' hq'
      · cases hq' : q (Utf8.decode ⟨s.toArray⟩ pos).1 with
        | true =>
          simp +contextual (maxSteps := 1000000) only [go_sem, ↓reduceIte, Nat.reduceAdd, Nat.reduceEqDiff]
          rw [← hQ']
          simp only [w_kIt_r, w_kBlk_r, w_kSeq_r]
          rw [← hQ, hinv, idxF, if_pos (by rw [hsz]; exact hlt), if_pos hq']
          exact ⟨trivial, Ret.reads hR rfl rfl (hmem _)⟩
        | false =>
          simp +contextual (maxSteps := 1000000) only [go_sem, ↓reduceIte, Nat.reduceAdd, Nat.reduceEqDiff]
          rw [← hQ']
          simp only [w_kIt_n]
          refine ⟨0, pos + (Utf8.decode ⟨s.toArray⟩ pos).2, Wk.perm ?_ (fun p hp => hp), ⟨m, by omega, ?_⟩, by omega⟩
          · repeat' first | exact AVle.refl _ _ | exact trivial | refine And.intro ?_ ?_
          · rw [hinv, idxF, if_pos (by rw [hsz]; exact hlt), if_neg (by rw [hq']; simp)]
    · simp +contextual (maxSteps := 1000000) only [hget, hset, hsz, hlt, if_false, go_sem, ↓reduceIte, Nat.reduceAdd, Nat.reduceEqDiff]
      rw [← hQ']
      simp only [w_kIt_e, w_kBlk_e, ↓reduceIte]
      simp +contextual (maxSteps := 1000000) only [go_sem, ↓reduceIte, Nat.reduceAdd]
      rw [← hQ, hinv, idxF, if_neg (by rw [hsz]; exact hlt)]
      exact ⟨trivial, Ret.reads hR rfl rfl (hmem _)⟩

theorem fs_IndexFunc {Gl : Gh → Prop} (hst : Stays Gl) {s : List UInt8} {k : Nat} {caps : List AV} {Hc : Hp} {q : Nat → Bool} (hs : s.length < 9223372036854775808) (hR : Rd Hc)
    (hk : ∀ c : Nat, FS Tryz.prog Gl k (.int .i32 c :: caps) Hc [] (.bool (q c)) Hc []) :
    FS Tryz.prog Gl 211 [.str s, .fn (.func k) [] caps] Hc [] (.int .i64 (idxF ⟨s.toArray⟩ q (s.length + 1) 0)) Hc [] := by
  refine FS.of hm hst is_stringsIndexFunc (by simp) fun γ hγ hfr => ?_
  generalize hQ : (fun (ex : Ex) (_ _ : Nat) (s : St) => _) = Q
  unfold ir_stringsIndexFunc
  simp +contextual (maxSteps := 1000000) only [go_sem, reduceCtorEq, ↓reduceIte, Nat.reduceAdd, Nat.reduceEqDiff]
  refine CallP.all (fs_indexFunc hst hs hR hk) (fun _ => rfl) hR.rn ?_
  simp +contextual (maxSteps := 1000000) only [go_sem, ↓reduceIte, Nat.reduceAdd]
  rw [← hQ]
  exact ⟨trivial, Ret.reads hR rfl rfl (fun _ h => h)⟩

theorem fs_ContainsFunc {Gl : Gh → Prop} (hst : Stays Gl) {s : List UInt8} {k : Nat} {caps : List AV} {Hc : Hp} {q : Nat → Bool} (hs : s.length < 9223372036854775808) (hR : Rd Hc)
    (hk : ∀ c : Nat, FS Tryz.prog Gl k (.int .i32 c :: caps) Hc [] (.bool (q c)) Hc []) :
    FS Tryz.prog Gl 188 [.str s, .fn (.func k) [] caps] Hc [] (.bool (decide (idxF ⟨s.toArray⟩ q (s.length + 1) 0 ≥ 0))) Hc [] := by
  refine FS.of hm hst is_stringsContainsFunc (by simp) fun γ hγ hfr => ?_
  generalize hQ : (fun (ex : Ex) (_ _ : Nat) (s : St) => _) = Q
  unfold ir_stringsContainsFunc
  simp +contextual (maxSteps := 1000000) only [go_sem, reduceCtorEq, ↓reduceIte, Nat.reduceAdd, Nat.reduceEqDiff]
  refine CallP.all (fs_IndexFunc hst hs hR hk) (fun _ => rfl) hR.rn ?_
  simp +contextual (maxSteps := 1000000) only [go_sem, reduceCtorEq, ↓reduceIte, Nat.reduceAdd]
  rw [← hQ]
  exact ⟨trivial, Ret.reads hR rfl rfl (fun _ h => h)⟩
end Go.Proofs.YtjankibepgnbfaaGreatDoor

