/- Part 1 of 4 of a proof: the given statement BoardTells, whatever the input that its row lets in. Conditions: those of the given row and card alone. -/
import Derived.Test.YtbepihadhmfklaaGreatDoorChecked
import Derived.Test.YtbepihadhmfklaaGreatDoorPBoardTellsAb12
set_option linter.unusedVariables false
set_option linter.unusedSimpArgs false
namespace Go.Proofs.YtbepihadhmfklaaGreatDoor
open Go Go.Ab
theorem hm : Tryz.prog.follows .mixedOrders = true := by kernel_rfl
def intsAV (l : List Int) : List (List AV) := l.map fun n => [.int .i64 n]
theorem intsAV_length (l : List Int) : (intsAV l).length = l.length := by simp [intsAV]
theorem intsAV_get {l : List Int} {i : Nat} (h : i < l.length) : (intsAV l).getD i [] = [.int .i64 l[i]] := by
  rw [List.getD_eq_getElem?_getD]; simp [intsAV, h]
def intsV (l : List Int) : AV := .sl none 1 (intsAV l)
def parsAV (l : List (List Int)) : List (List AV) := l.map fun p => [intsV p]
def parsV (l : List (List Int)) : AV := .sl none 1 (parsAV l)
theorem parsAV_length (l : List (List Int)) : (parsAV l).length = l.length := by simp [parsAV]
theorem parsAV_get {l : List (List Int)} {i : Nat} (h : i < l.length) : (parsAV l).getD i [] = [intsV l[i]] := by
  rw [List.getD_eq_getElem?_getD]; simp [parsAV, h]
theorem bytesAV_length' (l : List UInt8) : (bytesAV l).length = l.length := by simp [bytesAV]
structure Sq where
  k : Int
  pr : Int
  ps : List (List Int)
  it : List UInt8
  fi : Int
  da : List UInt8
  deriving DecidableEq
def Sq.c (s : Sq) : List AV := [.int .i64 s.k, .int .u8 s.pr, parsV s.ps, .str s.it, .int .u8 s.fi, .str s.da]
theorem c_intsV (l : List Int) : (intsV l).cells = [intsV l] := rfl
theorem o_intsV (l : List Int) : (intsV l).one = true := rfl
theorem c_parsV (l : List (List Int)) : (parsV l).cells = [parsV l] := rfl
theorem o_parsV (l : List (List Int)) : (parsV l).one = true := rfl
theorem s_intsV (l : List Int) : (intsV l).strip = intsV l := rfl
theorem s_parsV (l : List (List Int)) : (parsV l).strip = parsV l := rfl
theorem cl_intsV (l : List Int) : (intsV l).closed = true := rfl
theorem cl_parsV (l : List (List Int)) : (parsV l).closed = true := rfl
attribute [go_sem] c_intsV o_intsV c_parsV o_parsV s_intsV s_parsV cl_intsV cl_parsV Int.natCast_one Int.natCast_zero Int.cast_ofNat_Int
def sv (t : Option Nm) (sz : Nat) (rows : List (List AV)) : AV :=
  match t with
  | none => .nils
  | some t => .sl (some t) sz rows
theorem sv_one {t : Option Nm} {sz : Nat} {rows : List (List AV)} : (sv t sz rows).one = true := by cases t <;> rfl
theorem sv_cells {t : Option Nm} {sz : Nat} {rows : List (List AV)} : (sv t sz rows).cells = [sv t sz rows] := by cases t <;> rfl
theorem sv_none {sz : Nat} {rows : List (List AV)} : sv none sz rows = .nils := rfl
theorem sv_some {nm : Nm} {sz : Nat} {rows : List (List AV)} : sv (some nm) sz rows = .sl (some nm) sz rows := rfl
attribute [go_sem] sv_one sv_cells sv_none sv_some
end Go.Proofs.YtbepihadhmfklaaGreatDoor

set_option maxRecDepth 100000
namespace Go.Proofs.YtbepihadhmfklaaGreatDoor
open Go Go.Ab

theorem bits_and64 (a b : Int) : bits .and .i64 a b = IntKind.i64.wrap (((BitVec.ofInt 64 a &&& BitVec.ofInt 64 b).toNat : Nat) : Int) := rfl
theorem bits_or64 (a b : Int) : bits .or .i64 a b = IntKind.i64.wrap (((BitVec.ofInt 64 a ||| BitVec.ofInt 64 b).toNat : Nat) : Int) := rfl
theorem bits_and8 (a b : Int) : bits .and .u8 a b = IntKind.u8.wrap (((BitVec.ofInt 8 a &&& BitVec.ofInt 8 b).toNat : Nat) : Int) := rfl
theorem bits_or8 (a b : Int) : bits .or .u8 a b = IntKind.u8.wrap (((BitVec.ofInt 8 a ||| BitVec.ofInt 8 b).toNat : Nat) : Int) := rfl
theorem and_i64 {a b : Nat} (ha : a < 9223372036854775808) (hb : b < 9223372036854775808) : bits .and .i64 (a : Int) (b : Int) = ((a &&& b : Nat) : Int) := by
  have h : a &&& b ≤ a := Nat.and_le_left
  rw [bits_and64, BitVec.ofInt_natCast, BitVec.ofInt_natCast, BitVec.toNat_and, BitVec.toNat_ofNat, BitVec.toNat_ofNat, Nat.mod_eq_of_lt (by omega), Nat.mod_eq_of_lt (by omega), IntKind.wrap_i64]
  omega
theorem or_i64 {a b : Nat} (ha : a < 4611686018427387904) (hb : b < 4611686018427387904) : bits .or .i64 (a : Int) (b : Int) = ((a ||| b : Nat) : Int) := by
  have h : a ||| b < 2 ^ 62 := Nat.or_lt_two_pow (by omega) (by omega)
  rw [bits_or64, BitVec.ofInt_natCast, BitVec.ofInt_natCast, BitVec.toNat_or, BitVec.toNat_ofNat, BitVec.toNat_ofNat, Nat.mod_eq_of_lt (by omega), Nat.mod_eq_of_lt (by omega), IntKind.wrap_i64]
  omega
theorem and_u8 {a b : Nat} (ha : a < 256) (hb : b < 256) : bits .and .u8 (a : Int) (b : Int) = ((a &&& b : Nat) : Int) := by
  have h : a &&& b ≤ a := Nat.and_le_left
  rw [bits_and8, BitVec.ofInt_natCast, BitVec.ofInt_natCast, BitVec.toNat_and, BitVec.toNat_ofNat, BitVec.toNat_ofNat, Nat.mod_eq_of_lt (by omega), Nat.mod_eq_of_lt (by omega), IntKind.wrap_u8]
  omega
theorem or_u8 {a b : Nat} (ha : a < 256) (hb : b < 256) : bits .or .u8 (a : Int) (b : Int) = ((a ||| b : Nat) : Int) := by
  have h : a ||| b < 2 ^ 8 := Nat.or_lt_two_pow (by omega) (by omega)
  rw [bits_or8, BitVec.ofInt_natCast, BitVec.ofInt_natCast, BitVec.toNat_or, BitVec.toNat_ofNat, BitVec.toNat_ofNat, Nat.mod_eq_of_lt (by omega), Nat.mod_eq_of_lt (by omega), IntKind.wrap_u8]
  omega
theorem and63 {a : Nat} (ha : a < 9223372036854775808) : bits .and .i64 (a : Int) 63 = ((a % 64 : Nat) : Int) := by
  rw [show (63 : Int) = ((63 : Nat) : Int) from rfl, and_i64 ha (by omega), show (63 : Nat) = 2 ^ 6 - 1 from rfl, Nat.and_two_pow_sub_one_eq_mod]
theorem and_low {a : Nat} (ha : a < 256) (k : Nat) (hk : k ≤ 8) : bits .and .u8 (a : Int) ((2 ^ k - 1 : Nat) : Int) = ((a % 2 ^ k : Nat) : Int) := by
  have : 2 ^ k ≤ 2 ^ 8 := Nat.pow_le_pow_right (by omega) hk
  rw [and_u8 ha (by omega), Nat.and_two_pow_sub_one_eq_mod]
theorem or_put {a b k : Nat} (hb : b < 2 ^ k) (h : 2 ^ k * a + b < 256) : bits .or .u8 ((2 ^ k * a : Nat) : Int) (b : Int) = ((2 ^ k * a + b : Nat) : Int) := by
  rw [or_u8 (by omega) (by omega), Nat.two_pow_add_eq_or_of_lt hb]
theorem or_tail {b : Nat} (hb : b < 64) : bits .or .u8 128 (b : Int) = ((128 + b : Nat) : Int) := by
  have := or_put (a := 2) (b := b) (k := 6) (by omega) (by omega)
  simpa using this
theorem or_shift {a b : Nat} (hb : b < 64) (ha : a < 16777216) : bits .or .i64 ((a * 64 : Nat) : Int) (b : Int) = ((a * 64 + b : Nat) : Int) := by
  rw [or_i64 (by omega) (by omega)]
  have := Nat.two_pow_add_eq_or_of_lt (i := 6) (b := b) (by omega) a
  rw [show a * 64 = 2 ^ 6 * a by omega]
  omega
theorem and_flag {a : Nat} (ha : a < 9223372036854775808) (k : Nat) (hk : k < 63) : bits .and .i64 (a : Int) ((2 ^ k : Nat) : Int) = ((a / 2 ^ k % 2 * 2 ^ k : Nat) : Int) := by
  have : 2 ^ k < 2 ^ 63 := Nat.pow_lt_pow_right (by omega) hk
  rw [and_i64 ha (by omega)]
  congr 1
  apply Nat.eq_of_testBit_eq
  intro i
  rw [Nat.testBit_and, Nat.testBit_two_pow, Nat.mul_comm, Nat.testBit_two_pow_mul]
  by_cases h : i = k
  · subst h
    simp [Nat.testBit_eq_decide_div_mod_eq]
  · by_cases h2 : k < i
    · have h3 : a / 2 ^ k % 2 < 2 ^ (i - k) := Nat.lt_of_lt_of_le (Nat.mod_lt _ (by omega)) (by have := Nat.pow_le_pow_right (n := 2) (by omega) (show 1 ≤ i - k by omega); simpa using this)
      simp [Nat.testBit_lt_two_pow h3, show k ≠ i by omega]
    · simp [show k ≠ i by omega, show ¬ k ≤ i by omega]

/-! ### Code points -/
def isCP (r : Int) : Bool := decide (0 ≤ r) && decide (r ≤ 1114111) && (decide (r < 55296) || decide (57343 < r))
def putN (r : Nat) : List Nat :=
  if r < 128 then [r]
  else if r < 2048 then [192 + r / 64, 128 + r % 64]
  else if r < 65536 then [224 + r / 4096, 128 + r / 64 % 64, 128 + r % 64]
  else [240 + r / 262144, 128 + r / 4096 % 64, 128 + r / 64 % 64, 128 + r % 64]
def putU (r : Int) : List UInt8 := if isCP r = true then (putN r.toNat).map UInt8.ofNat else []
theorem putN_len (r : Nat) : 1 ≤ (putN r).length ∧ (putN r).length ≤ 4 := by
  unfold putN
  split
  · simp
  · split
    · simp
    · split <;> simp
theorem putU_len (r : Int) : (putU r).length ≤ 4 := by
  unfold putU
  split
  · simpa using (putN_len r.toNat).2
  · simp
theorem isCP_spec {r : Int} (h : isCP r = true) : ∃ n : Nat, r = n ∧ n ≤ 1114111 ∧ (n < 55296 ∨ 57343 < n) := by
  simp only [isCP, Bool.and_eq_true, Bool.or_eq_true, decide_eq_true_eq] at h
  exact ⟨r.toNat, by omega, by omega, by omega⟩
def decN : List Nat → Nat
  | [a] => a % 128
  | [a, b] => a % 32 * 64 + b % 64
  | [a, b, c] => (a % 16 * 64 + b % 64) * 64 + c % 64
  | [a, b, c, d] => ((a % 8 * 64 + b % 64) * 64 + c % 64) * 64 + d % 64
  | _ => 0
theorem decN_putN {n : Nat} (h : n ≤ 1114111) : decN (putN n) = n := by
  unfold putN
  split
  · simp only [decN]; omega
  · split
    · simp only [decN]; omega
    · split
      · simp only [decN]; omega
      · simp only [decN]; omega
theorem putN_lt {n : Nat} (h : n ≤ 1114111) : ∀ x ∈ putN n, x < 256 := by
  unfold putN
  split
  · simp; omega
  · split
    · simp; omega
    · split <;> (simp; omega)
def decU (b : List UInt8) : Int := (decN (b.map UInt8.toNat) : Nat)
theorem map_ofNat : ∀ {l : List Nat}, (∀ x ∈ l, x < 256) → (l.map UInt8.ofNat).map UInt8.toNat = l
  | [], _ => rfl
  | x :: xs, h => by
    have := h x (by simp)
    simp only [List.map_cons, UInt8.toNat_ofNat', map_ofNat (l := xs) (fun y hy => h y (by simp [hy]))]
    rw [Nat.mod_eq_of_lt (by omega)]
theorem decU_putU {r : Int} (h : isCP r = true) : decU (putU r) = r := by
  obtain ⟨n, rfl, h1, h2⟩ := isCP_spec h
  rw [putU, if_pos h, decU, Int.toNat_natCast, map_ofNat (putN_lt h1), decN_putN h1]
theorem putU_ne {r : Int} : (putU r ≠ []) ↔ isCP r = true := by
  unfold putU
  split
  · rename_i h
    have := (putN_len r.toNat).1
    refine ⟨fun _ => h, fun _ e => ?_⟩
    have h2 := congrArg List.length e
    simp only [List.length_map, List.length_nil] at h2; omega
  · simp [*]
def tryU (b : List UInt8) (n : Nat) : Option (Int × Nat) := if n ≤ b.length ∧ putU (decU (b.take n)) = b.take n then some (decU (b.take n), n) else none
def takeU (b : List UInt8) : Option (Int × Nat) := (tryU b 1).or ((tryU b 2).or ((tryU b 3).or (tryU b 4)))
theorem tryU_some {b : List UInt8} {n : Nat} (h1 : 1 ≤ n) {r : Int} (hr : putU r = b.take n) (hl : n ≤ b.length) : tryU b n = some (r, n) := by
  have hne : putU r ≠ [] := by rw [hr]; intro e; have := congrArg List.length e; simp only [List.length_take, List.length_nil] at this; omega
  have hd := decU_putU (putU_ne.1 hne)
  rw [hr] at hd
  rw [tryU, hd, if_pos ⟨hl, hr⟩]
theorem tryU_of {b : List UInt8} {n m : Nat} {r : Int} (h : tryU b n = some (r, m)) : m = n ∧ n ≤ b.length ∧ putU r = b.take n := by
  unfold tryU at h
  split at h
  · rename_i hh
    simp only [Option.some.injEq, Prod.mk.injEq] at h
    obtain ⟨rfl, rfl⟩ := h
    exact ⟨rfl, hh.1, hh.2⟩
  · cases h
theorem takeU_of {b : List UInt8} {r : Int} {n : Nat} (h : takeU b = some (r, n)) : 1 ≤ n ∧ n ≤ 4 ∧ n ≤ b.length ∧ putU r = b.take n := by
  unfold takeU at h
  simp only [Option.or_eq_some_iff] at h
  rcases h with h | ⟨_, h | ⟨_, h | ⟨_, h⟩⟩⟩ <;> obtain ⟨rfl, h1, h2⟩ := tryU_of h <;> exact ⟨by omega, by omega, h1, h2⟩
def allU (b : List UInt8) : Option (List Int) :=
  if h : b = [] then some []
  else match takeU b with
    | none => none
    | some (r, n) => (allU (b.drop (n - 1 + 1))).map (r :: ·)
termination_by b.length
decreasing_by
  have : b.length ≠ 0 := fun e => h (List.length_eq_zero_iff.1 e)
  simp only [List.length_drop]; omega
theorem allU_nil : allU [] = some [] := by rw [allU]; simp
theorem allU_none {b : List UInt8} (h : b ≠ []) (ht : takeU b = none) : allU b = none := by rw [allU, dif_neg h, ht]
theorem allU_some {b : List UInt8} {r : Int} {n : Nat} (h : b ≠ []) (ht : takeU b = some (r, n)) : allU b = (allU (b.drop n)).map (r :: ·) := by
  have h1 := (takeU_of ht).1
  rw [allU, dif_neg h, ht]
  show (allU (b.drop (n - 1 + 1))).map (r :: ·) = _
  rw [show n - 1 + 1 = n by omega]
end Go.Proofs.YtbepihadhmfklaaGreatDoor

namespace Go.Proofs.YtbepihadhmfklaaGreatDoor
open Go Go.Ab

structure Ent where
  kind : Int
  final : UInt8
  num : Int
  char : Int
  keys : Bool
  deriving DecidableEq, Inhabited
structure RowK where
  lo : Nat
  many : Nat
  kind : Nat
  finals : List UInt8
  nums : List Nat
  chars : List UInt8
def rowsK : List RowK := [
  ⟨9, 1, 2, [], [], []⟩, ⟨13, 1, 2, [], [], []⟩, ⟨27, 1, 2, [], [], []⟩, ⟨127, 1, 2, [], [], []⟩,
  ⟨57348, 2, 4, [], [2, 3], []⟩, ⟨57350, 4, 3, [68, 67, 65, 66], [], []⟩, ⟨57354, 2, 4, [], [5, 6], []⟩, ⟨57356, 2, 3, [72, 70], [], []⟩,
  ⟨57358, 5, 6, [], [], []⟩, ⟨57363, 1, 4, [], [29], []⟩, ⟨57364, 4, 3, [80, 81, 82, 83], [], []⟩, ⟨57368, 8, 4, [], [15, 17, 18, 19, 20, 21, 23, 24], []⟩,
  ⟨57376, 23, 6, [], [], []⟩, ⟨57399, 18, 5, [112, 113, 114, 115, 116, 117, 118, 119, 120, 121, 110, 111, 106, 109, 107, 77, 88, 108], [], [48, 49, 50, 51, 52, 53, 54, 55, 56, 57, 46, 47, 42, 45, 43, 13, 61, 44]⟩,
  ⟨57417, 4, 3, [68, 67, 65, 66], [], []⟩, ⟨57421, 2, 4, [], [5, 6], []⟩, ⟨57423, 2, 3, [72, 70], [], []⟩, ⟨57425, 2, 4, [], [2, 3], []⟩,
  ⟨57427, 1, 3, [69], [], []⟩, ⟨57428, 13, 6, [], [], []⟩, ⟨57441, 14, 7, [], [], []⟩]
def RowK.ent (r : RowK) (i : Nat) : Ent :=
  ⟨r.kind, r.finals.getD i 0, ((r.nums.getD i 0 : Nat) : Int), ((r.chars.getD i 0).toNat : Int), decide (57399 ≤ r.lo) && (decide (r.kind ≠ 6) && decide (r.kind ≠ 7))⟩
def RowK.all (r : RowK) : List (Nat × Ent) := (List.range r.many).map fun i => (r.lo + i, r.ent i)
def allK : List (Nat × Ent) := rowsK.flatMap RowK.all
def lookK (c : Int) : Ent :=
  match allK.find? fun p => decide ((p.1 : Int) = c) with
  | some p => p.2
  | none => if isCP c = false ∨ c < 32 ∨ (127 ≤ c ∧ c ≤ 159) ∨ (57344 ≤ c ∧ c ≤ 63743) then ⟨0, 0, 0, 0, false⟩ else ⟨1, 0, 0, 0, false⟩

def letR (c : Int) : UInt8 :=
  if c = 57350 ∨ c = 57417 then 68 else if c = 57351 ∨ c = 57418 then 67 else if c = 57352 ∨ c = 57419 then 65 else if c = 57353 ∨ c = 57420 then 66
  else if c = 57356 ∨ c = 57423 then 72 else if c = 57357 ∨ c = 57424 then 70 else if c = 57427 then 69 else if 57364 ≤ c ∧ c ≤ 57367 then UInt8.ofNat (80 + c - 57364).toNat else 0
def numR (c : Int) : Int :=
  if c = 57348 ∨ c = 57425 then 2 else if c = 57349 ∨ c = 57426 then 3 else if c = 57354 ∨ c = 57421 then 5 else if c = 57355 ∨ c = 57422 then 6
  else if c = 57368 then 15 else if 57369 ≤ c ∧ c ≤ 57373 then 17 + c - 57369 else if 57374 ≤ c ∧ c ≤ 57375 then 23 + c - 57374 else if c = 57363 then 29 else 0
def padR (c : Int) : Ent :=
  if c ≤ 57408 then ⟨5, UInt8.ofNat (112 + c - 57399).toNat, 0, 48 + c - 57399, true⟩
  else ⟨5, [110, 111, 106, 109, 107, 77, 88, 108].getD (c - 57409).toNat 0, 0, (([46, 47, 42, 45, 43, 13, 61, 44].getD (c - 57409).toNat 0 : UInt8).toNat : Int), true⟩
def restR (c : Int) : Int :=
  if c = 9 ∨ c = 13 ∨ c = 27 ∨ c = 127 then 2
  else if (57358 ≤ c ∧ c ≤ 57362) ∨ (57376 ≤ c ∧ c ≤ 57398) ∨ (57428 ≤ c ∧ c ≤ 57440) then 6
  else if 57441 ≤ c ∧ c ≤ 57454 then 7
  else if isCP c = false ∨ c < 32 ∨ (127 ≤ c ∧ c ≤ 159) ∨ (57344 ≤ c ∧ c ≤ 63743) then 0 else 1
def lookR (c : Int) : Ent :=
  if letR c ≠ 0 then ⟨3, letR c, 0, 0, decide (57399 ≤ c)⟩
  else if numR c ≠ 0 then ⟨4, 0, numR c, 0, decide (57399 ≤ c)⟩
  else if 57399 ≤ c ∧ c ≤ 57416 then padR c
  else ⟨restR c, 0, 0, 0, false⟩
theorem allK_codes : ∀ p ∈ allK, p.1 = 9 ∨ p.1 = 13 ∨ p.1 = 27 ∨ p.1 = 127 ∨ (57348 ≤ p.1 ∧ p.1 ≤ 57454) := by decide +kernel
theorem look_mid : ∀ k : Fin 107, lookK ((57348 + k.val : Nat) : Int) = lookR ((57348 + k.val : Nat) : Int) := by decide +kernel
theorem lookK_eq (c : Int) : lookK c = lookR c := by
  by_cases h : 57348 ≤ c ∧ c ≤ 57454
  · have := look_mid ⟨(c - 57348).toNat, by omega⟩
    rwa [show ((57348 + (c - 57348).toNat : Nat) : Int) = c by omega] at this
  · by_cases h2 : c = 9 ∨ c = 13 ∨ c = 27 ∨ c = 127
    · rcases h2 with rfl | rfl | rfl | rfl <;> decide +kernel
    · have hf : (allK.find? fun p => decide ((p.1 : Int) = c)) = none := by
        rw [List.find?_eq_none]
        intro p hp
        have := allK_codes p hp
        simp only [decide_eq_true_eq]
        omega
      have h3 : letR c = 0 := by
        unfold letR
        repeat (first | rfl | rw [if_neg (by omega)])
      have h4 : numR c = 0 := by
        unfold numR
        repeat (first | rfl | rw [if_neg (by omega)])
      have e : lookR c = ⟨restR c, 0, 0, 0, false⟩ := by
        unfold lookR
        rw [if_neg (by rw [h3]; simp), if_neg (by rw [h4]; simp), if_neg (by omega)]
      have h5 : restR c = if isCP c = false ∨ c < 32 ∨ (127 ≤ c ∧ c ≤ 159) ∨ (57344 ≤ c ∧ c ≤ 63743) then 0 else 1 := by
        rw [restR, if_neg h2, if_neg (by omega), if_neg (by omega)]
      rw [lookK, hf, e, h5]
      by_cases hc : isCP c = false ∨ c < 32 ∨ (127 ≤ c ∧ c ≤ 159) ∨ (57344 ≤ c ∧ c ≤ 63743)
      · simp only [if_pos hc]
      · simp only [if_neg hc]

def kindK (c : Int) : Int := (lookR c).kind
structure Ky where
  code : Int
  mods : Int
  type : Int
  shifted : Int
  base : Int
  text : List UInt8
def kyAV (k : Ky) : List AV := [.int .i64 k.code, .int .i64 k.mods, .int .i64 k.type, .int .i64 k.shifted, .int .i64 k.base, .str k.text]
def entAV (e : Ent) : List AV := [.int .i64 e.kind, .int .u8 (e.final.toNat : Int), .int .i64 e.num, .int .i64 e.char, .bool e.keys]
def cleanK (t : List UInt8) : Bool := match allU t with
  | some l => decide (l.length ≤ 8) && l.all fun r => decide (32 ≤ r) && (decide (r < 127) || decide (159 < r))
  | none => false
def mayK (k : Ky) : Bool := decide (kindK k.code ≠ 0) && decide (0 ≤ k.mods) && decide (k.mods ≤ 255) && decide (1 ≤ k.type) && decide (k.type ≤ 3) &&
  (decide (k.shifted = 0) || decide (kindK k.shifted = 1)) && (decide (k.base = 0) || decide (kindK k.base = 1)) && cleanK k.text
def hasK (m one : Int) : Bool := decide (max m 0 / one % 2 = 1)
def paramK (m : Int) : Int := if m < 0 ∨ 255 < m then 1 else m + 1
def shownK (k : Ky) : Int :=
  if hasK k.mods 1 = false then k.code else if k.shifted ≠ 0 then k.shifted else if 97 ≤ k.code ∧ k.code ≤ 122 then k.code - 32 else k.code
def formK (c : Int) : Int × UInt8 :=
  let e := lookR c
  if e.kind = 0 then (0, 0) else if c = 57366 then (13, 126) else if e.kind = 3 ∧ e.keys = false then (1, e.final) else if e.kind = 4 ∧ e.keys = false then (e.num, 126) else (c, 117)
end Go.Proofs.YtbepihadhmfklaaGreatDoor

namespace Go.Proofs.YtbepihadhmfklaaGreatDoor
open Go Go.Ab
def ir_utfis : ICode :=
 (.seq
 (.reg [⟨some 2, none, .mov (.c (.bool false))⟩] (some [0]))
 (.seq
 (.reg [⟨some 3, none, .mov (.t 0)⟩,
 ⟨some 4, none, .bin .geq .none (.t 3) (.c (.int .i64 0))⟩,
 ⟨some 5, none, .mov (.t 4)⟩,
 ⟨some 6, some (5, true), .mov (.t 0)⟩,
 ⟨some 7, some (5, true), .bin .leq .none (.t 6) (.c (.int .i64 1114111))⟩,
 ⟨some 8, none, .pick (.t 5) (.t 7) (.c (.bool false))⟩,
 ⟨some 9, none, .mov (.t 8)⟩,
 ⟨some 10, some (9, true), .mov (.t 0)⟩,
 ⟨some 11, some (9, true), .bin .lss .none (.t 10) (.c (.int .i64 55296))⟩,
 ⟨some 12, some (9, true), .mov (.t 11)⟩,
 ⟨some 13, some (12, false), .mov (.t 0)⟩,
 ⟨some 14, some (12, false), .bin .gtr .none (.t 13) (.c (.int .i64 57343))⟩,
 ⟨some 15, some (9, true), .pick (.t 12) (.c (.bool true)) (.t 14)⟩,
 ⟨some 16, none, .pick (.t 9) (.t 15) (.c (.bool false))⟩,
 ⟨some 2, none, .mov (.t 16)⟩] (some [2]))
 .ret))
theorem is_utfis : IrOf Tryz.prog 98 17 ir_utfis [.t 2] := ⟨_, Tryz.func98, rfl, by kernel_rfl, by kernel_rfl, by kernel_rfl⟩

def ir_clavierref02Is : ICode :=
 (.seq
 (.reg [⟨some 2, none, .mov (.c (.bool false))⟩] (some [0]))
 (.seq
 (.reg [⟨some 3, none, .mov (.t 0)⟩,
 ⟨some 4, none, .bin .geq .none (.t 3) (.c (.int .i64 0))⟩,
 ⟨some 5, none, .mov (.t 4)⟩,
 ⟨some 6, some (5, true), .mov (.t 0)⟩,
 ⟨some 7, some (5, true), .bin .leq .none (.t 6) (.c (.int .i64 1114111))⟩,
 ⟨some 8, none, .pick (.t 5) (.t 7) (.c (.bool false))⟩,
 ⟨some 9, none, .mov (.t 8)⟩,
 ⟨some 10, some (9, true), .mov (.t 0)⟩,
 ⟨some 11, some (9, true), .bin .lss .none (.t 10) (.c (.int .i64 55296))⟩,
 ⟨some 12, some (9, true), .mov (.t 11)⟩,
 ⟨some 13, some (12, false), .mov (.t 0)⟩,
 ⟨some 14, some (12, false), .bin .gtr .none (.t 13) (.c (.int .i64 57343))⟩,
 ⟨some 15, some (9, true), .pick (.t 12) (.c (.bool true)) (.t 14)⟩,
 ⟨some 16, none, .pick (.t 9) (.t 15) (.c (.bool false))⟩,
 ⟨some 2, none, .mov (.t 16)⟩] (some [2]))
 .ret))
theorem is_clavierref02Is : IrOf Tryz.prog 113 17 ir_clavierref02Is [.t 2] := ⟨_, Tryz.func113, rfl, by kernel_rfl, by kernel_rfl, by kernel_rfl⟩

def ir_utfsizes : ICode :=
 (.seq
 (.reg [⟨some 0, none, .box 112 (.c (.agg [(.int .i64 0), (.int .i64 0), (.int .u8 0), (.int .u8 0), (.int .i64 0), (.int .i64 0), (.int .u8 0), (.int .u8 0), (.int .i64 0), (.int .i64 0), (.int .u8 0), (.int .u8 0), (.int .i64 0), (.int .i64 0), (.int .u8 0), (.int .u8 0)]))⟩] (some [0]))
 (.seq
 (.reg [⟨some 1, none, .bld [(.int .i64 0), (.int .i64 0), (.int .u8 0), (.int .u8 0)] [(0, 1, (.c (.int .i64 1))), (1, 1, (.c (.int .i64 127))), (2, 1, (.c (.int .u8 0))), (3, 1, (.c (.int .u8 127)))]⟩,
 ⟨some 2, none, .bld [(.int .i64 0), (.int .i64 0), (.int .u8 0), (.int .u8 0)] [(0, 1, (.c (.int .i64 2))), (1, 1, (.c (.int .i64 2047))), (2, 1, (.c (.int .u8 192))), (3, 1, (.c (.int .u8 31)))]⟩,
 ⟨some 3, none, .bld [(.int .i64 0), (.int .i64 0), (.int .u8 0), (.int .u8 0)] [(0, 1, (.c (.int .i64 3))), (1, 1, (.c (.int .i64 65535))), (2, 1, (.c (.int .u8 224))), (3, 1, (.c (.int .u8 15)))]⟩,
 ⟨some 4, none, .bld [(.int .i64 0), (.int .i64 0), (.int .u8 0), (.int .u8 0)] [(0, 1, (.c (.int .i64 4))), (1, 1, (.c (.int .i64 1114111))), (2, 1, (.c (.int .u8 240))), (3, 1, (.c (.int .u8 7)))]⟩,
 ⟨some 5, none, .bld [(.int .i64 0), (.int .i64 0), (.int .u8 0), (.int .u8 0), (.int .i64 0), (.int .i64 0), (.int .u8 0), (.int .u8 0), (.int .i64 0), (.int .i64 0), (.int .u8 0), (.int .u8 0), (.int .i64 0), (.int .i64 0), (.int .u8 0), (.int .u8 0)] [(0, 4, (.t 1)), (4, 4, (.t 2)), (8, 4, (.t 3)), (12, 4, (.t 4))]⟩,
 ⟨none, none, .st 16 (.t 0) (.t 5)⟩] (some [0]))
 .ret))
theorem is_utfsizes : IrOf Tryz.prog 99 6 ir_utfsizes [.cell 0 (some 16)] := ⟨_, Tryz.func99, rfl, by kernel_rfl, by kernel_rfl, by kernel_rfl⟩

/- clavier/utf.Put -/
def ir_utfPut_l0 : ICode :=
 (.seq
 (.seq
 (.reg [⟨some 24, none, .mov (.t 6)⟩,
 ⟨some 25, none, .bin .gtr .none (.t 24) (.c (.int .i64 0))⟩] (some [0, 4, 5, 6, 25]))
 (.cond (.t 25)
 .skip
 (.exit 2)))
 (.seq
 (.blk 3
 (.seq
 (.reg [⟨some 28, none, .mov (.t 5)⟩,
 ⟨some 29, none, .mov (.t 6)⟩,
 ⟨some 30, none, .mov (.t 0)⟩,
 ⟨some 31, none, .bin .and .none (.t 30) (.c (.int .i64 63))⟩,
 ⟨some 32, none, .cvi .u8 (.t 31)⟩,
 ⟨some 33, none, .bin .or .none (.c (.int .u8 128)) (.t 32)⟩,
 ⟨some 34, none, .ia 1 (.t 28) (.t 29)⟩,
 ⟨none, none, .st 1 (.t 34) (.t 33)⟩] (some [0, 4, 5, 6]))
 (.reg [⟨some 35, none, .mov (.t 0)⟩,
 ⟨some 36, none, .bin .shr .none (.t 35) (.c (.int .u64 6))⟩,
 ⟨some 0, none, .mov (.t 36)⟩] (some [0, 4, 5, 6]))))
 (.reg [⟨some 26, none, .mov (.t 6)⟩,
 ⟨some 27, none, .bin .sub .none (.t 26) (.c (.int .i64 1))⟩,
 ⟨some 6, none, .mov (.t 27)⟩] (some [0, 4, 5, 6]))))
def ir_utfPut_l1 : ICode :=
 (.seq
 (.reg [⟨some 12, none, .bin .lss .none (.t 11) (.c (.int .i64 4))⟩] (some [0, 10, 11, 12]))
 (.seq
 (.cond (.t 12)
 .skip
 (.exit 0))
 (.seq
 (.blk 1
 (.seq
 (.reg [⟨some 13, none, .ixa 4 4 (some 4) (.t 10) (.t 11)⟩,
 ⟨some 4, none, .box 111 (.c (.agg [(.int .i64 0), (.int .i64 0), (.int .u8 0), (.int .u8 0)]))⟩,
 ⟨none, none, .st 4 (.t 4) (.t 13)⟩] (some [0, 4, 10, 11]))
 (.seq
 (.seq
 (.reg [⟨some 14, none, .mov (.t 0)⟩,
 ⟨some 15, none, .fa 1 (.t 4)⟩,
 ⟨some 16, none, .ld none (.t 15)⟩,
 ⟨some 17, none, .bin .gtr .none (.t 14) (.t 16)⟩] (some [0, 4, 10, 11, 17]))
 (.cond (.t 17)
 (.exit 1)
 .skip))
 (.seq
 (.reg [⟨some 18, none, .fa 0 (.t 4)⟩,
 ⟨some 19, none, .ld none (.t 18)⟩,
 ⟨some 20, none, .mks 5 1 (.agg [(.int .u8 0)]) (.t 19)⟩,
 ⟨some 5, none, .mov (.t 20)⟩] (some [0, 4, 5]))
 (.seq
 (.seq
 (.reg [⟨some 21, none, .fa 0 (.t 4)⟩,
 ⟨some 22, none, .ld none (.t 21)⟩,
 ⟨some 23, none, .bin .sub .none (.t 22) (.c (.int .i64 1))⟩,
 ⟨some 6, none, .mov (.t 23)⟩] (some [0, 4, 5, 6]))
 (.blk 2
 (.loop
 ir_utfPut_l0)))
 (.seq
 (.reg [⟨some 37, none, .mov (.t 5)⟩,
 ⟨some 38, none, .fa 2 (.t 4)⟩,
 ⟨some 39, none, .ld none (.t 38)⟩,
 ⟨some 40, none, .mov (.t 0)⟩,
 ⟨some 41, none, .cvi .u8 (.t 40)⟩,
 ⟨some 42, none, .bin .or .none (.t 39) (.t 41)⟩,
 ⟨some 43, none, .ia 1 (.t 37) (.c (.int .i64 0))⟩,
 ⟨none, none, .st 1 (.t 43) (.t 42)⟩] (some [5]))
 (.seq
 (.reg [⟨some 44, none, .mov (.t 5)⟩,
 ⟨some 2, none, .mov (.t 44)⟩] (some [2]))
 .ret)))))))
 (.reg [⟨some 45, none, .bin .add .none (.t 11) (.c (.int .i64 1))⟩,
 ⟨some 11, none, .mov (.t 45)⟩] (some [0, 10, 11])))))
def ir_utfPut : ICode :=
 (.seq
 (.reg [⟨some 2, none, .mov (.c .nils)⟩] (some [0]))
 (.seq
 (.seq
 (.reg [⟨some 7, none, .mov (.t 0)⟩,
 ⟨some 8, none, .call (.c (.fn (.func 98) [] [])) [(.t 7)]⟩,
 ⟨some 9, none, .un .not (.t 8)⟩] (some [0, 9]))
 (.cond (.t 9)
 (.seq
 (.reg [⟨some 2, none, .mov (.c .nils)⟩] (some [2]))
 .ret)
 .skip))
 (.seq
 (.seq
 (.reg [⟨some 10, none, .call (.c (.fn (.func 99) [] [])) []⟩,
 ⟨some 11, none, .mov (.c (.int .i64 0))⟩] (some [0, 10, 11]))
 (.blk 0
 (.loop
 ir_utfPut_l1)))
 (.seq
 (.reg [⟨some 2, none, .mov (.c .nils)⟩] (some [2]))
 .ret))))
theorem is_utfPut : IrOf Tryz.prog 51 46 ir_utfPut [.t 2] := ⟨_, Tryz.func51, rfl, by kernel_rfl, by kernel_rfl, by kernel_rfl⟩

def ir_clavierref02Put : ICode :=
 (.seq
 (.reg [⟨some 2, none, .mov (.c .nils)⟩] (some [0]))
 (.seq
 (.seq
 (.reg [⟨some 3, none, .mov (.t 0)⟩,
 ⟨some 4, none, .call (.c (.fn (.func 113) [] [])) [(.t 3)]⟩,
 ⟨some 5, none, .un .not (.t 4)⟩] (some [0, 5]))
 (.cond (.t 5)
 (.seq
 (.reg [⟨some 2, none, .mov (.c .nils)⟩] (some [2]))
 .ret)
 .skip))
 (.seq
 (.seq
 (.reg [⟨some 6, none, .mov (.t 0)⟩,
 ⟨some 7, none, .bin .lss .none (.t 6) (.c (.int .i64 128))⟩] (some [0, 7]))
 (.cond (.t 7)
 (.seq
 (.reg [⟨some 8, none, .mov (.t 0)⟩,
 ⟨some 9, none, .cvi .u8 (.t 8)⟩,
 ⟨some 10, none, .row 5 1 [(.t 9)]⟩,
 ⟨some 2, none, .mov (.t 10)⟩] (some [2]))
 .ret)
 .skip))
 (.seq
 (.seq
 (.reg [⟨some 11, none, .mov (.t 0)⟩,
 ⟨some 12, none, .bin .lss .none (.t 11) (.c (.int .i64 2048))⟩] (some [0, 12]))
 (.cond (.t 12)
 (.seq
 (.reg [⟨some 13, none, .mov (.t 0)⟩,
 ⟨some 14, none, .bin .quo .none (.t 13) (.c (.int .i64 64))⟩,
 ⟨some 15, none, .bin .add .none (.c (.int .i64 192)) (.t 14)⟩,
 ⟨some 16, none, .cvi .u8 (.t 15)⟩,
 ⟨some 17, none, .mov (.t 0)⟩,
 ⟨some 18, none, .bin .rem .none (.t 17) (.c (.int .i64 64))⟩,
 ⟨some 19, none, .bin .add .none (.c (.int .i64 128)) (.t 18)⟩,
 ⟨some 20, none, .cvi .u8 (.t 19)⟩,
 ⟨some 21, none, .row 5 1 [(.t 16), (.t 20)]⟩,
 ⟨some 2, none, .mov (.t 21)⟩] (some [2]))
 .ret)
 .skip))
 (.seq
 (.seq
 (.reg [⟨some 22, none, .mov (.t 0)⟩,
 ⟨some 23, none, .bin .lss .none (.t 22) (.c (.int .i64 65536))⟩] (some [0, 23]))
 (.cond (.t 23)
 (.seq
 (.reg [⟨some 24, none, .mov (.t 0)⟩,
 ⟨some 25, none, .bin .quo .none (.t 24) (.c (.int .i64 4096))⟩,
 ⟨some 26, none, .bin .add .none (.c (.int .i64 224)) (.t 25)⟩,
 ⟨some 27, none, .cvi .u8 (.t 26)⟩,
 ⟨some 28, none, .mov (.t 0)⟩,
 ⟨some 29, none, .bin .quo .none (.t 28) (.c (.int .i64 64))⟩,
 ⟨some 30, none, .bin .rem .none (.t 29) (.c (.int .i64 64))⟩,
 ⟨some 31, none, .bin .add .none (.c (.int .i64 128)) (.t 30)⟩,
 ⟨some 32, none, .cvi .u8 (.t 31)⟩,
 ⟨some 33, none, .mov (.t 0)⟩,
 ⟨some 34, none, .bin .rem .none (.t 33) (.c (.int .i64 64))⟩,
 ⟨some 35, none, .bin .add .none (.c (.int .i64 128)) (.t 34)⟩,
 ⟨some 36, none, .cvi .u8 (.t 35)⟩,
 ⟨some 37, none, .row 5 1 [(.t 27), (.t 32), (.t 36)]⟩,
 ⟨some 2, none, .mov (.t 37)⟩] (some [2]))
 .ret)
 .skip))
 (.seq
 (.reg [⟨some 38, none, .mov (.t 0)⟩,
 ⟨some 39, none, .bin .quo .none (.t 38) (.c (.int .i64 262144))⟩,
 ⟨some 40, none, .bin .add .none (.c (.int .i64 240)) (.t 39)⟩,
 ⟨some 41, none, .cvi .u8 (.t 40)⟩,
 ⟨some 42, none, .mov (.t 0)⟩,
 ⟨some 43, none, .bin .quo .none (.t 42) (.c (.int .i64 4096))⟩,
 ⟨some 44, none, .bin .rem .none (.t 43) (.c (.int .i64 64))⟩,
 ⟨some 45, none, .bin .add .none (.c (.int .i64 128)) (.t 44)⟩,
 ⟨some 46, none, .cvi .u8 (.t 45)⟩,
 ⟨some 47, none, .mov (.t 0)⟩,
 ⟨some 48, none, .bin .quo .none (.t 47) (.c (.int .i64 64))⟩,
 ⟨some 49, none, .bin .rem .none (.t 48) (.c (.int .i64 64))⟩,
 ⟨some 50, none, .bin .add .none (.c (.int .i64 128)) (.t 49)⟩,
 ⟨some 51, none, .cvi .u8 (.t 50)⟩,
 ⟨some 52, none, .mov (.t 0)⟩,
 ⟨some 53, none, .bin .rem .none (.t 52) (.c (.int .i64 64))⟩,
 ⟨some 54, none, .bin .add .none (.c (.int .i64 128)) (.t 53)⟩,
 ⟨some 55, none, .cvi .u8 (.t 54)⟩,
 ⟨some 56, none, .row 5 1 [(.t 41), (.t 46), (.t 51), (.t 55)]⟩,
 ⟨some 2, none, .mov (.t 56)⟩] (some [2]))
 .ret))))))
theorem is_clavierref02Put : IrOf Tryz.prog 70 57 ir_clavierref02Put [.t 2] := ⟨_, Tryz.func70, rfl, by kernel_rfl, by kernel_rfl, by kernel_rfl⟩

theorem fs_is {Gl : Gh → Prop} (hst : Stays Gl) {r : Int} : FS Tryz.prog Gl 98 [.int .i64 r] [] [] (.bool (isCP r)) [] [] := by
  refine FS.of hm hst is_utfis (by simp) fun γ hγ hfr => ?_
  (generalize hQ : (fun (ex : Ex) (_ _ : Nat) (s : St) => _) = Q; unfold ir_utfis)
  (simp +contextual (maxSteps := 1000000) only [go_sem, reduceCtorEq, ↓reduceIte, Nat.reduceAdd, Nat.reduceEqDiff]; repeat' first | ((first | refine kCond_split (fun hg => ?_) (fun hg => ?_) | refine kGc_split (fun hg => ?_) (fun hg => ?_) | refine kPreG_split (fun hg => ?_) (fun hg => ?_)) <;> (try rw [hg]) <;> simp +contextual (maxSteps := 1000000) only [go_sem, reduceCtorEq, ↓reduceIte, Nat.reduceAdd, Nat.reduceEqDiff]) | refine And.intro (by omega) ?_)
  all_goals (rw [← hQ]; clear hQ hfr; refine ⟨trivial, Ret.flat ?_ rfl⟩; first | (simp only [resOf, getAll, IRes.get, lf_cons, lf_nil, ↓reduceIte, Bool.false_eq_true, Option.some.injEq, AV.bool.injEq, AV.int.injEq, AV.tup.injEq, List.cons.injEq, true_and, and_true, isCP, *]; done) | (simp [resOf, getAll, IRes.get, lf_cons, lf_nil, ↓reduceIte, Bool.false_eq_true, Option.some.injEq, AV.bool.injEq, AV.int.injEq, AV.tup.injEq, List.cons.injEq, true_and, and_true, isCP, *]; done) | (simp_all [resOf, getAll, IRes.get, lf_cons, lf_nil, ↓reduceIte, Bool.false_eq_true, Option.some.injEq, AV.bool.injEq, AV.int.injEq, AV.tup.injEq, List.cons.injEq, true_and, and_true, isCP]; done) | (simp_all [resOf, getAll, IRes.get, lf_cons, lf_nil, ↓reduceIte, Bool.false_eq_true, Option.some.injEq, AV.bool.injEq, AV.int.injEq, AV.tup.injEq, List.cons.injEq, true_and, and_true, isCP]; omega))
theorem fs_rIs {Gl : Gh → Prop} (hst : Stays Gl) {r : Int} : FS Tryz.prog Gl 113 [.int .i64 r] [] [] (.bool (isCP r)) [] [] := by
  refine FS.of hm hst is_clavierref02Is (by simp) fun γ hγ hfr => ?_
  (generalize hQ : (fun (ex : Ex) (_ _ : Nat) (s : St) => _) = Q; unfold ir_clavierref02Is)
  (simp +contextual (maxSteps := 1000000) only [go_sem, reduceCtorEq, ↓reduceIte, Nat.reduceAdd, Nat.reduceEqDiff, Nat.reduceLeDiff, Nat.reduceMul, Nat.reduceBEq, Int.reduceBEq, Int.reduceBNe, Int.reduceLT, Int.reduceLE, Int.reduceGT, Int.reduceGE, Int.reduceToNat]; repeat' first | ((first | refine kCond_split (fun hg => ?_) (fun hg => ?_) | refine kGc_split (fun hg => ?_) (fun hg => ?_) | refine kPreG_split (fun hg => ?_) (fun hg => ?_)) <;> (try rw [hg]) <;> simp +contextual (maxSteps := 1000000) only [go_sem, reduceCtorEq, ↓reduceIte, Nat.reduceAdd, Nat.reduceEqDiff, Nat.reduceLeDiff, Nat.reduceMul, Nat.reduceBEq, Int.reduceBEq, Int.reduceBNe, Int.reduceLT, Int.reduceLE, Int.reduceGT, Int.reduceGE, Int.reduceToNat]) | refine And.intro (by omega) ?_)
  all_goals (rw [← hQ]; clear hQ hfr; refine ⟨trivial, Ret.flat ?_ rfl⟩; first | (simp only [resOf, getAll, IRes.get, lf_cons, lf_nil, ↓reduceIte, Bool.false_eq_true, Option.some.injEq, AV.bool.injEq, AV.int.injEq, AV.tup.injEq, List.cons.injEq, true_and, and_true, isCP, *]; done) | (simp [resOf, getAll, IRes.get, lf_cons, lf_nil, ↓reduceIte, Bool.false_eq_true, Option.some.injEq, AV.bool.injEq, AV.int.injEq, AV.tup.injEq, List.cons.injEq, true_and, and_true, isCP, *]; done) | (simp_all [resOf, getAll, IRes.get, lf_cons, lf_nil, ↓reduceIte, Bool.false_eq_true, Option.some.injEq, AV.bool.injEq, AV.int.injEq, AV.tup.injEq, List.cons.injEq, true_and, and_true, isCP]; done) | (simp_all [resOf, getAll, IRes.get, lf_cons, lf_nil, ↓reduceIte, Bool.false_eq_true, Option.some.injEq, AV.bool.injEq, AV.int.injEq, AV.tup.injEq, List.cons.injEq, true_and, and_true, isCP]; omega))
def szMost (i : Nat) : Nat := [127, 2047, 65535, 1114111].getD i 0
def szMark (i : Nat) : Nat := [0, 192, 224, 240].getD i 0
def szRest (i : Nat) : Nat := [127, 31, 15, 7].getD i 0
def szAV (i : Nat) : List AV := [.int .i64 ((i + 1 : Nat) : Int), .int .i64 (szMost i : Int), .int .u8 (szMark i : Int), .int .u8 (szRest i : Int)]
def szsAV : List AV := szAV 0 ++ szAV 1 ++ szAV 2 ++ szAV 3
theorem fs_sizes {Gl : Gh → Prop} (hst : Stays Gl) : FS Tryz.prog Gl 99 [] [] [] (.agg szsAV) [] [] := by
  refine FS.of hm hst is_utfsizes (by simp) fun γ hγ hfr => ?_
  (generalize hQ : (fun (ex : Ex) (_ _ : Nat) (s : St) => _) = Q; unfold ir_utfsizes)
  (simp +contextual (maxSteps := 1000000) only [go_sem, reduceCtorEq, ↓reduceIte, Nat.reduceAdd, Nat.reduceEqDiff, Nat.reduceLeDiff, Nat.reduceMul, Nat.reduceBEq, Int.reduceBEq, Int.reduceBNe, Int.reduceLT, Int.reduceLE, Int.reduceGT, Int.reduceGE, Int.reduceToNat]; repeat' first | ((first | refine kCond_split (fun hg => ?_) (fun hg => ?_) | refine kGc_split (fun hg => ?_) (fun hg => ?_) | refine kPreG_split (fun hg => ?_) (fun hg => ?_)) <;> (try rw [hg]) <;> simp +contextual (maxSteps := 1000000) only [go_sem, reduceCtorEq, ↓reduceIte, Nat.reduceAdd, Nat.reduceEqDiff, Nat.reduceLeDiff, Nat.reduceMul, Nat.reduceBEq, Int.reduceBEq, Int.reduceBNe, Int.reduceLT, Int.reduceLE, Int.reduceGT, Int.reduceGE, Int.reduceToNat]) | refine And.intro (by omega) ?_)
  rw [← hQ]
  refine ⟨trivial, Ret.flatT (by simp [resOf, getAll, IRes.get, lf, getH, szsAV, szAV, szMost, szMark, szRest]) rfl⟩
theorem u8v {x : Int} {k : Nat} (h : x = k) (hk : k < 256) : IntKind.u8.wrap x = ((UInt8.ofNat k).toNat : Int) := by
  rw [h, UInt8.toNat_ofNat', Nat.mod_eq_of_lt (by omega), IntKind.wrap_u8]; omega
theorem fs_rPutU {Gl : Gh → Prop} (hst : Stays Gl) {r : Int} : FS Tryz.prog Gl 70 [.int .i64 r] [] [] (.sl none 1 (bytesAV (putU r))) [] [] := by
  refine FS.ofW hm hst is_clavierref02Put rfl (by simp) fun γ hγ hfr => ?_
  (generalize hQ : (fun (ex : Ex) (_ _ : Nat) (s : St) => _) = Q; unfold ir_clavierref02Put)
  ((try simp +contextual (maxSteps := 1000000) only [go_sem, reduceCtorEq, ↓reduceIte, Nat.reduceAdd, Nat.reduceEqDiff, Nat.reduceLeDiff, Nat.reduceMul, Nat.reduceBEq, Int.reduceBEq, Int.reduceBNe, Int.reduceLT, Int.reduceLE, Int.reduceGT, Int.reduceGE, Int.reduceToNat]); repeat' first | ((first | refine kCond_split (fun hg => ?_) (fun hg => ?_) | refine kGc_split (fun hg => ?_) (fun hg => ?_) | refine kPreG_split (fun hg => ?_) (fun hg => ?_)) <;> (try rw [hg]) <;> simp +contextual (maxSteps := 1000000) only [go_sem, reduceCtorEq, ↓reduceIte, Nat.reduceAdd, Nat.reduceEqDiff, Nat.reduceLeDiff, Nat.reduceMul, Nat.reduceBEq, Int.reduceBEq, Int.reduceBNe, Int.reduceLT, Int.reduceLE, Int.reduceGT, Int.reduceGE, Int.reduceToNat]) | ((first | refine CallP.pure (fs_rIs hst) (fun _ => rfl) ?_) <;> simp +contextual (maxSteps := 1000000) only [go_sem, reduceCtorEq, ↓reduceIte, Nat.reduceAdd, Nat.reduceEqDiff, Nat.reduceLeDiff, Nat.reduceMul, Nat.reduceBEq, Int.reduceBEq, Int.reduceBNe, Int.reduceLT, Int.reduceLE, Int.reduceGT, Int.reduceGE, Int.reduceToNat]) | refine And.intro (by omega) ?_)
  · rw [← hQ]
    refine ⟨trivial, .inl ⟨_, rfl, ?_⟩⟩
    have : putU r = [] := by rw [putU, if_neg (by simpa using hg)]
    rw [this]; exact RepLe.nils 1
  all_goals
    rw [← hQ]
    refine ⟨trivial, .inl ⟨_, rfl, RepLe.anon' ?_⟩⟩
    have hcp : isCP r = true := by rcases Bool.eq_false_or_eq_true (isCP r) with h | h; exact h; simp_all
    clear hQ hfr
    obtain ⟨n, rfl, h1, h2⟩ := isCP_spec hcp
    have hq1 : IntKind.i64.wrap ((n : Int).tdiv 64) = ((n / 64 : Nat) : Int) := by rw [Int.tdiv_eq_ediv_of_nonneg (by omega), IntKind.wrap_i64]; omega
    have hq2 : IntKind.i64.wrap ((n : Int).tdiv 4096) = ((n / 4096 : Nat) : Int) := by rw [Int.tdiv_eq_ediv_of_nonneg (by omega), IntKind.wrap_i64]; omega
    have hq3 : IntKind.i64.wrap ((n : Int).tdiv 262144) = ((n / 262144 : Nat) : Int) := by rw [Int.tdiv_eq_ediv_of_nonneg (by omega), IntKind.wrap_i64]; omega
    have hm : ∀ m : Nat, (m : Int).tmod 64 = ((m % 64 : Nat) : Int) := fun m => by rw [Int.tmod_eq_emod_of_nonneg (by omega)]; omega
    simp only [decide_eq_true_eq, decide_eq_false_iff_not] at *
    simp only [hq1, hq2, hq3, hm, putU, hcp, if_true, Int.toNat_natCast, putN]
  · rw [if_pos (by omega)]
    simp only [bytesAV, List.map_cons, List.map_nil, List.cons.injEq, AV.int.injEq, true_and, and_true]
    exact u8v rfl (by omega)
  · rw [if_neg (by omega), if_pos (by omega)]
    simp only [bytesAV, List.map_cons, List.map_nil, List.cons.injEq, AV.int.injEq, true_and, and_true]
    refine ⟨u8v ?_ ?_, u8v ?_ ?_⟩ <;> first | omega | (rw [IntKind.wrap_i64]; omega)
  · rw [if_neg (by omega), if_neg (by omega), if_pos (by omega)]
    simp only [bytesAV, List.map_cons, List.map_nil, List.cons.injEq, AV.int.injEq, true_and, and_true]
    refine ⟨u8v ?_ ?_, u8v ?_ ?_, u8v ?_ ?_⟩ <;> first | omega | (rw [IntKind.wrap_i64]; omega)
  · rw [if_neg (by omega), if_neg (by omega), if_neg (by omega)]
    simp only [bytesAV, List.map_cons, List.map_nil, List.cons.injEq, AV.int.injEq, true_and, and_true]
    refine ⟨u8v ?_ ?_, u8v ?_ ?_, u8v ?_ ?_, u8v ?_ ?_⟩ <;> first | omega | (rw [IntKind.wrap_i64]; omega)

def tailB (n : Nat) : Nat → List Nat
  | 0 => []
  | j + 1 => (128 + n / 64 ^ j % 64) :: tailB n j
def cellsB (l : List Nat) : List AV := l.map fun c : Nat => AV.int .u8 (c : Int)
theorem tailB_len (n : Nat) : ∀ j, (tailB n j).length = j
  | 0 => rfl
  | j + 1 => by simp [tailB, tailB_len n j]
theorem bytes_cells : ∀ {l : List Nat}, (∀ x ∈ l, x < 256) → (bytesAV (l.map UInt8.ofNat)).flatten = cellsB l
  | [], _ => rfl
  | x :: xs, h => by
    have h1 := h x (by simp)
    have h2 := bytes_cells (l := xs) fun y hy => h y (by simp [hy])
    simp only [bytesAV, cellsB, List.map_cons, List.flatten_cons] at h2 ⊢
    rw [h2, UInt8.toNat_ofNat', Nat.mod_eq_of_lt (by omega)]; rfl
theorem cellsB_closed : ∀ l : List Nat, AV.closedL (cellsB l) = true
  | [] => rfl
  | x :: xs => by
    show (true && AV.closedL (cellsB xs)) = true
    rw [cellsB_closed xs]; rfl
theorem cellsB_len (l : List Nat) : (cellsB l).length = l.length := by simp [cellsB]
theorem cells_set {k : Nat} {t : List Nat} {x : Nat} : List.take k (cellsB (List.replicate (k + 1) 0 ++ t)) ++ [AV.int .u8 (x : Int)] ++ List.drop (k + 1) (cellsB (List.replicate (k + 1) 0 ++ t)) = cellsB (List.replicate k 0 ++ x :: t) := by
  have h1 : cellsB (List.replicate (k + 1) 0 ++ t) = List.replicate (k + 1) (AV.int .u8 0) ++ cellsB t := by simp [cellsB]
  have h2 : cellsB (List.replicate k 0 ++ x :: t) = List.replicate k (AV.int .u8 0) ++ AV.int .u8 (x : Int) :: cellsB t := by simp [cellsB]
  rw [h1, h2, List.take_append_of_le_length (by simp), List.drop_append_of_le_length (by simp)]
  simp
theorem pow64_succ (n j : Nat) : n / 64 ^ (j + 1) = n / 64 ^ j / 64 := by rw [Nat.pow_succ, Nat.div_div_eq_div_mul]
theorem sh6 (n j : Nat) : shOp .shr .i64 ((n / 64 ^ j : Nat) : Int) 6 = some (True, .int .i64 ((n / 64 ^ (j + 1) : Nat) : Int)) := by
  rw [pow64_succ]
  show some ((0 : Int) ≤ 6 ∧ (6 : Int) ≤ IntKind.i64.bits, AV.int .i64 (((n / 64 ^ j : Nat) : Int) / 2 ^ (6 : Int).toNat)) = _
  have h1 : ((0 : Int) ≤ 6 ∧ (6 : Int) ≤ IntKind.i64.bits) = True := by simp [IntKind.bits]
  have h2 : ((n / 64 ^ j : Nat) : Int) / 2 ^ (6 : Int).toNat = ((n / 64 ^ j / 64 : Nat) : Int) := rfl
  rw [h1, h2]
theorem putN_eq {n i : Nat} (h1 : n ≤ szMost i) (h2 : i = 0 ∨ i = 1 ∧ 127 < n ∨ i = 2 ∧ 2047 < n ∨ i = 3 ∧ 65535 < n) : putN n = (szMark i + n / 64 ^ i) :: tailB n i := by
  rcases h2 with rfl | ⟨rfl, h⟩ | ⟨rfl, h⟩ | ⟨rfl, h⟩ <;> simp only [szMost, List.getD_cons_zero, List.getD_cons_succ] at h1
  · rw [putN, if_pos (by omega)]; simp [szMark, tailB]
  · rw [putN, if_neg (by omega), if_pos (by omega)]; simp [szMark, tailB]
  · rw [putN, if_neg (by omega), if_neg (by omega), if_pos (by omega)]; simp [szMark, tailB]
  · rw [putN, if_neg (by omega), if_neg (by omega), if_neg (by omega)]; simp [szMark, tailB]
theorem mark_or {n i : Nat} (h1 : n ≤ szMost i) (h2 : i = 0 ∨ i = 1 ∧ 127 < n ∨ i = 2 ∧ 2047 < n ∨ i = 3 ∧ 65535 < n) : IntKind.u8.wrap ((n / 64 ^ i : Nat) : Int) = ((n / 64 ^ i : Nat) : Int) ∧ bits .or .u8 (szMark i : Int) ((n / 64 ^ i : Nat) : Int) = ((szMark i + n / 64 ^ i : Nat) : Int) := by
  rcases h2 with rfl | ⟨rfl, h⟩ | ⟨rfl, h⟩ | ⟨rfl, h⟩ <;> simp only [szMost, List.getD_cons_zero, List.getD_cons_succ] at h1
  · exact ⟨by rw [IntKind.wrap_u8]; omega, or_put (a := 0) (k := 7) (b := n / 64 ^ 0) (by omega) (by omega)⟩
  · exact ⟨by rw [IntKind.wrap_u8]; omega, or_put (a := 6) (k := 5) (b := n / 64 ^ 1) (by omega) (by omega)⟩
  · exact ⟨by rw [IntKind.wrap_u8]; omega, or_put (a := 14) (k := 4) (b := n / 64 ^ 2) (by omega) (by omega)⟩
  · exact ⟨by rw [IntKind.wrap_u8]; omega, or_put (a := 30) (k := 3) (b := n / 64 ^ 3) (by omega) (by omega)⟩
set_option maxHeartbeats 2000000 in
theorem fs_putU {Gl : Gh → Prop} (hst : Stays Gl) {r : Int} : FS Tryz.prog Gl 51 [.int .i64 r] [] [] (.sl none 1 (bytesAV (putU r))) [] [] := by
  refine FS.ofW hm hst is_utfPut rfl (by simp) fun γ hγ hfr => ?_
  (generalize hQ : (fun (ex : Ex) (_ _ : Nat) (s : St) => _) = Q; unfold ir_utfPut)
  simp +contextual (maxSteps := 1000000) only [go_sem, reduceCtorEq, ↓reduceIte, Nat.reduceAdd, Nat.reduceEqDiff, Nat.reduceLeDiff, Nat.reduceMul, Nat.reduceBEq, Int.reduceBEq, Int.reduceBNe, Int.reduceLT, Int.reduceLE, Int.reduceGT, Int.reduceGE, Int.reduceToNat]
  (refine CallP.pure (fs_is hst) (fun _ => rfl) ?_; simp +contextual (maxSteps := 1000000) only [go_sem, reduceCtorEq, ↓reduceIte, Nat.reduceAdd, Nat.reduceEqDiff, Nat.reduceLeDiff, Nat.reduceMul, Nat.reduceBEq, Int.reduceBEq, Int.reduceBNe, Int.reduceLT, Int.reduceLE, Int.reduceGT, Int.reduceGE, Int.reduceToNat])
  refine kCond_split (fun h => ?_) (fun h => ?_)
  · simp +contextual (maxSteps := 1000000) only [go_sem, reduceCtorEq, ↓reduceIte, Nat.reduceAdd, Nat.reduceEqDiff, Nat.reduceLeDiff, Nat.reduceMul, Nat.reduceBEq, Int.reduceBEq, Int.reduceBNe, Int.reduceLT, Int.reduceLE, Int.reduceGT, Int.reduceGE, Int.reduceToNat]
    rw [← hQ]
    refine ⟨trivial, .inl ⟨_, rfl, ?_⟩⟩
    have : putU r = [] := by rw [putU, if_neg (by simpa using h)]
    rw [this]; exact RepLe.nils 1
  have hcp : isCP r = true := by simpa using h
  obtain ⟨n, rfl, h1, h2⟩ := isCP_spec hcp
  simp +contextual (maxSteps := 1000000) only [go_sem, reduceCtorEq, ↓reduceIte, Nat.reduceAdd, Nat.reduceEqDiff, Nat.reduceLeDiff, Nat.reduceMul, Nat.reduceBEq, Int.reduceBEq, Int.reduceBNe, Int.reduceLT, Int.reduceLE, Int.reduceGT, Int.reduceGE, Int.reduceToNat]
  (refine CallP.pure (fs_sizes hst) (fun _ => rfl) ?_; simp +contextual (maxSteps := 1000000) only [go_sem, reduceCtorEq, ↓reduceIte, Nat.reduceAdd, Nat.reduceEqDiff, Nat.reduceLeDiff, Nat.reduceMul, Nat.reduceBEq, Int.reduceBEq, Int.reduceBNe, Int.reduceLT, Int.reduceLE, Int.reduceGT, Int.reduceGE, Int.reduceToNat])
  refine kLoop_ix (fun i : Nat => ⟨lf [(0, .int .i64 (n : Int)), (10, .agg szsAV), (11, .int .i64 (i : Int))], [], fun x => x ∈ []⟩) (fun i => i = 0 ∨ i = 1 ∧ 127 < n ∨ i = 2 ∧ 2047 < n ∨ i = 3 ∧ 65535 < n) (fun i => 4 - i) 0 0 ?_ (.inl rfl) ?_
  · refine Wk.same ?_
    (simp only [lfOK, upd, initF]; repeat' first | exact AVle.refl _ _ | exact trivial | refine And.intro ?_ ?_ | exact AVle.int (by simp only [IntKind.wrap_i64]; omega))
  · rintro γ' i hf hi
    generalize hQ' : kIt _ _ _ _ _ = Q'
    unfold ir_utfPut_l1
    have hd : decide ((i : Int) < 4) = true := by rcases hi with h | h | h | h <;> simp <;> omega
    have hx : List.take 4 (List.drop (i * 4) szsAV) = [.int .i64 ((i + 1 : Nat) : Int), .int .i64 (szMost i : Int), .int .u8 (szMark i : Int), .int .u8 (szRest i : Int)] := by
      rcases hi with rfl | ⟨rfl, _⟩ | ⟨rfl, _⟩ | ⟨rfl, _⟩ <;> rfl
    have hl : 4 ≤ (List.drop (i * 4) szsAV).length := by
      rcases hi with rfl | ⟨rfl, _⟩ | ⟨rfl, _⟩ | ⟨rfl, _⟩ <;> decide
    simp +contextual (maxSteps := 1000000) only [hd, Int.toNat_natCast, hx, hl, go_sem, reduceCtorEq, ↓reduceIte, Nat.reduceAdd, Nat.reduceEqDiff, Nat.reduceLeDiff, Nat.reduceMul, Nat.reduceBEq, Int.reduceBEq, Int.reduceBNe, Int.reduceLT, Int.reduceLE, Int.reduceGT, Int.reduceGE, Int.reduceToNat]
    refine ⟨⟨by omega, by rcases hi with h | h | h | h <;> omega⟩, ?_⟩
    refine kCond_split (fun hg => ?_) (fun hg => ?_)
    · simp +contextual (maxSteps := 1000000) only [go_sem, reduceCtorEq, ↓reduceIte, Nat.reduceAdd, Nat.reduceEqDiff, Nat.reduceLeDiff, Nat.reduceMul, Nat.reduceBEq, Int.reduceBEq, Int.reduceBNe, Int.reduceLT, Int.reduceLE, Int.reduceGT, Int.reduceGE, Int.reduceToNat]
      rw [← hQ']
      simp only [w_kIt_n]
      have hg : szMost i < n := by simpa using hg
      refine ⟨0, i + 1, Wk.perm ?_ (fun p hp => by cases hp), ?_, by rcases hi with h | h | h | h <;> omega⟩
      · repeat' first | exact AVle.refl _ _ | exact trivial | refine And.intro ?_ ?_ | exact AVle.int (by simp only [IntKind.wrap_i64]; omega)
      · rcases hi with rfl | ⟨rfl, h⟩ | ⟨rfl, h⟩ | ⟨rfl, h⟩ <;> simp only [szMost, List.getD_cons_zero, List.getD_cons_succ] at hg <;> omega
    · have hle : n ≤ szMost i := by simpa using hg
      have hi3 : i ≤ 3 := by rcases hi with h | h | h | h <;> omega
      have hz : (List.replicate ((i + 1 : Nat) : Int).toNat [AV.int .u8 0]).flatten = cellsB (List.replicate (i + 1) 0) := by
        rw [Int.toNat_natCast, cellsB, List.map_replicate, List.flatten_replicate_singleton]; rfl
      simp +contextual (maxSteps := 1000000) only [hz, go_sem, reduceCtorEq, ↓reduceIte, Nat.reduceAdd, Nat.reduceEqDiff, Nat.reduceLeDiff, Nat.reduceMul, Nat.reduceBEq, Int.reduceBEq, Int.reduceBNe, Int.reduceLT, Int.reduceLE, Int.reduceGT, Int.reduceGE, Int.reduceToNat]
      refine ⟨⟨by omega, by omega⟩, ?_⟩
      refine kLoop_ix (fun j : Nat => ⟨lf [(0, .int .i64 ((n / 64 ^ j : Nat) : Int)), (4, .ptr (γ', 2, 0) 0), (5, .ms (γ', 10, 0) 1 (i + 1)), (6, .int .i64 ((i : Int) - (j : Int)))], [((γ', 10, 0), .cells (cellsB (List.replicate (i + 1 - j) 0 ++ tailB n j))), ((γ', 2, 0), .cells [.int .i64 ((i + 1 : Nat) : Int), .int .i64 (szMost i : Int), .int .u8 (szMark i : Int), .int .u8 (szRest i : Int)])], fun x => x ∈ []⟩) (fun j => j ≤ i) (fun j => i - j) 0 0 ?_ (Nat.zero_le _) ?_
      · refine Wk.perm ?_ (fun p hp => by simpa [tailB] using hp)
        simp only [lfOK, upd]
        repeat' first | exact AVle.refl _ _ | exact trivial | refine And.intro ?_ ?_ | exact AVle.int (by simp only [IntKind.wrap_i64, Nat.pow_zero, Nat.div_one] <;> omega)
      · rintro γ'' j hf2 hj
        generalize hQ2 : kIt _ _ _ _ _ = Q2
        unfold ir_utfPut_l0
        by_cases hij : j < i
        · have hd : decide ((i : Int) - (j : Int) > 0) = true := by simp; omega
          have hm1 : bits .and .i64 ((n / 64 ^ j : Nat) : Int) 63 = ((n / 64 ^ j % 64 : Nat) : Int) := and63 (Nat.lt_of_le_of_lt (Nat.div_le_self _ _) (by omega))
          have hw : IntKind.u8.wrap ((n / 64 ^ j % 64 : Nat) : Int) = ((n / 64 ^ j % 64 : Nat) : Int) := by rw [IntKind.wrap_u8]; omega
          have hor := or_tail (b := n / 64 ^ j % 64) (by omega)
          have he : ((i : Int) - (j : Int)).toNat = i - j := by omega
          have hc : List.take (i - j) (cellsB (List.replicate (i + 1 - j) 0 ++ tailB n j)) ++ [AV.int .u8 ((128 + n / 64 ^ j % 64 : Nat) : Int)] ++ List.drop (i - j + 1) (cellsB (List.replicate (i + 1 - j) 0 ++ tailB n j)) = cellsB (List.replicate (i - j) 0 ++ tailB n (j + 1)) := by
            rw [show i + 1 - j = i - j + 1 by omega]; exact cells_set
          simp +contextual (maxSteps := 1000000) only [hd, hm1, hw, hor, he, hc, Nat.mul_one, cellsB_len, sh6, go_sem, reduceCtorEq, ↓reduceIte, Nat.reduceAdd, Nat.reduceEqDiff, Nat.reduceLeDiff, Nat.reduceMul, Nat.reduceBEq, Int.reduceBEq, Int.reduceBNe, Int.reduceLT, Int.reduceLE, Int.reduceGT, Int.reduceGE, Int.reduceToNat]
          refine ⟨⟨by omega, by omega⟩, by simp [tailB_len] <;> omega, ?_⟩
          rw [← hQ2]
          simp only [w_kIt_n]
          refine ⟨0, j + 1, Wk.perm ?_ (fun p hp => ?_), by omega, by omega⟩
          · repeat' first | exact AVle.refl _ _ | exact trivial | refine And.intro ?_ ?_ | exact AVle.int (by simp only [IntKind.wrap_i64]; omega)
          · rwa [show i + 1 - (j + 1) = i - j by omega] at hp
        · have hd : decide ((i : Int) - (j : Int) > 0) = false := by simp; omega
          have hji : j = i := by omega
          subst hji
          obtain ⟨hk1, hk2⟩ := mark_or hle hi
          have hc : AV.int .u8 ((szMark j + n / 64 ^ j : Nat) : Int) :: List.drop 1 (cellsB (List.replicate (j + 1 - j) 0 ++ tailB n j)) = cellsB (putN n) := by
            rw [show j + 1 - j = 0 + 1 by omega, putN_eq hle hi]
            simpa using cells_set (k := 0) (t := tailB n j) (x := szMark j + n / 64 ^ j)
          simp +contextual (maxSteps := 1000000) only [hd, go_sem, reduceCtorEq, ↓reduceIte, Nat.reduceAdd, Nat.reduceEqDiff, Nat.reduceLeDiff, Nat.reduceMul, Nat.reduceBEq, Int.reduceBEq, Int.reduceBNe, Int.reduceLT, Int.reduceLE, Int.reduceGT, Int.reduceGE, Int.reduceToNat]
          rw [← hQ2]
          simp +contextual (maxSteps := 1000000) only [hk1, hk2, hc, cellsB_len, go_sem, reduceCtorEq, ↓reduceIte, Nat.reduceAdd, Nat.reduceEqDiff, Nat.reduceLeDiff, Nat.reduceMul, Nat.reduceBEq, Int.reduceBEq, Int.reduceBNe, Int.reduceLT, Int.reduceLE, Int.reduceGT, Int.reduceGE, Int.reduceToNat]
          refine ⟨by omega, by simp [tailB_len] <;> omega, ?_⟩
          rw [← hQ']
          simp only [w_kIt_r, w_kBlk_r, w_kSeq_r]
          rw [← hQ]
          have hpu : putU (n : Int) = (putN n).map UInt8.ofNat := by rw [putU, if_pos hcp, Int.toNat_natCast]
          have hlen : (putN n).length = j + 1 := by rw [putN_eq hle hi]; simp [tailB_len]
          refine ⟨trivial, .inr ⟨1, bytesAV (putU n), rfl, 2, (γ', 10, 0), rfl, ?_, hf.1, ?_, ?_, ?_, by omega, ?_⟩⟩
          · show AV.ms _ 1 (j + 1) = _
            rw [bytesAV_length', hpu, List.length_map, hlen]
          · rw [hpu, bytes_cells (putN_lt h1)]; exact List.mem_cons_self
          · rw [hpu, bytes_cells (putN_lt h1)]; exact cellsB_closed _
          · intro x hx
            obtain ⟨c, _, rfl⟩ := List.mem_map.1 hx
            rfl
          · rw [bytesAV_length', hpu, List.length_map, hlen]
            simp only [maxLen]; omega
end Go.Proofs.YtbepihadhmfklaaGreatDoor

namespace Go.Proofs.YtbepihadhmfklaaGreatDoor
open Go Go.Ab
def ir_slicesEqualbytebyte : ICode :=
 (.seq
 (.reg [⟨some 4, none, .mov (.c (.bool false))⟩] (some [0, 1]))
 (.seq
 (.seq
 (.reg [⟨some 6, none, .mov (.t 0)⟩,
 ⟨some 7, none, .len (.t 6)⟩,
 ⟨some 8, none, .mov (.t 1)⟩,
 ⟨some 9, none, .len (.t 8)⟩,
 ⟨some 10, none, .bin .neq .none (.t 7) (.t 9)⟩] (some [0, 1, 10]))
 (.cond (.t 10)
 (.seq
 (.reg [⟨some 4, none, .mov (.c (.bool false))⟩] (some [4]))
 .ret)
 .skip))
 (.seq
 (.seq
 (.reg [⟨some 11, none, .mov (.t 0)⟩,
 ⟨some 12, none, .len (.t 11)⟩,
 ⟨some 13, none, .mov (.c (.int .i64 0))⟩] (some [0, 1, 12, 13]))
 (.blk 0
 (.loop
 (.seq
 (.reg [⟨some 14, none, .bin .lss .none (.t 13) (.t 12)⟩] (some [0, 1, 12, 13, 14]))
 (.seq
 (.cond (.t 14)
 .skip
 (.exit 0))
 (.seq
 (.blk 1
 (.seq
 (.reg [⟨some 15, none, .mov (.t 13)⟩,
 ⟨some 5, none, .mov (.t 15)⟩] (some [0, 1, 5, 12, 13]))
 (.seq
 (.drw [⟨⟨some 16, none, .mov (.t 0)⟩, []⟩,
 ⟨⟨some 17, none, .mov (.t 5)⟩, []⟩,
 ⟨⟨some 18, none, .ia 1 (.t 16) (.t 17)⟩, [0, 1]⟩,
 ⟨⟨some 19, none, .ld none (.t 18)⟩, [2]⟩,
 ⟨⟨some 20, none, .mov (.t 1)⟩, []⟩,
 ⟨⟨some 21, none, .mov (.t 5)⟩, []⟩,
 ⟨⟨some 22, none, .ia 1 (.t 20) (.t 21)⟩, [4, 5]⟩,
 ⟨⟨some 23, none, .ld none (.t 22)⟩, [6]⟩,
 ⟨⟨some 24, none, .bin .neq .none (.t 19) (.t 23)⟩, [3, 7]⟩]
 [] (some [0, 1, 12, 13, 24]))
 (.cond (.t 24)
 (.seq
 (.reg [⟨some 4, none, .mov (.c (.bool false))⟩] (some [4]))
 .ret)
 .skip))))
 (.reg [⟨some 25, none, .bin .add .none (.t 13) (.c (.int .i64 1))⟩,
 ⟨some 13, none, .mov (.t 25)⟩] (some [0, 1, 12, 13]))))))))
 (.seq
 (.reg [⟨some 4, none, .mov (.c (.bool true))⟩] (some [4]))
 .ret))))
theorem is_slicesEqualbytebyte : IrOf Tryz.prog 145 26 ir_slicesEqualbytebyte [.t 4] := ⟨_, Tryz.func145, rfl, by kernel_rfl, by kernel_rfl, by kernel_rfl⟩

/- clavier/utf.Take -/
def ir_utfTake_l0 : ICode :=
 (.seq
 (.reg [⟨some 42, none, .bin .lss .none (.t 41) (.t 40)⟩] (some [0, 5, 6, 9, 10, 39, 40, 41, 42]))
 (.seq
 (.cond (.t 42)
 .skip
 (.exit 2))
 (.seq
 (.blk 3
 (.seq
 (.reg [⟨some 43, none, .ia 1 (.t 39) (.t 41)⟩,
 ⟨some 44, none, .ld none (.t 43)⟩,
 ⟨some 8, none, .mov (.t 44)⟩] (some [0, 5, 6, 8, 9, 10, 39, 40, 41]))
 (.reg [⟨some 45, none, .mov (.t 6)⟩,
 ⟨some 46, none, .bin .shl .none (.t 45) (.c (.int .u64 6))⟩,
 ⟨some 47, none, .mov (.t 8)⟩,
 ⟨some 48, none, .bin .and .none (.t 47) (.c (.int .u8 63))⟩,
 ⟨some 49, none, .cvi .i64 (.t 48)⟩,
 ⟨some 50, none, .bin .or .none (.t 46) (.t 49)⟩,
 ⟨some 6, none, .mov (.t 50)⟩] (some [0, 5, 6, 9, 10, 39, 40, 41]))))
 (.reg [⟨some 51, none, .bin .add .none (.t 41) (.c (.int .i64 1))⟩,
 ⟨some 41, none, .mov (.t 51)⟩] (some [0, 5, 6, 9, 10, 39, 40, 41])))))
def ir_utfTake_l1 : ICode :=
 (.seq
 (.reg [⟨some 11, none, .bin .lss .none (.t 10) (.c (.int .i64 4))⟩] (some [0, 9, 10, 11]))
 (.seq
 (.cond (.t 11)
 .skip
 (.exit 0))
 (.seq
 (.blk 1
 (.seq
 (.reg [⟨some 12, none, .ixa 4 4 (some 4) (.t 9) (.t 10)⟩,
 ⟨some 5, none, .box 111 (.c (.agg [(.int .i64 0), (.int .i64 0), (.int .u8 0), (.int .u8 0)]))⟩,
 ⟨none, none, .st 4 (.t 5) (.t 12)⟩] (some [0, 5, 9, 10]))
 (.seq
 (.seq
 (.drw [⟨⟨some 13, none, .mov (.t 0)⟩, []⟩,
 ⟨⟨some 14, none, .len (.t 13)⟩, [0]⟩,
 ⟨⟨some 15, none, .fa 0 (.t 5)⟩, []⟩,
 ⟨⟨some 16, none, .ld none (.t 15)⟩, [2]⟩,
 ⟨⟨some 17, none, .bin .lss .none (.t 14) (.t 16)⟩, [1, 3]⟩,
 ⟨⟨some 18, none, .mov (.t 17)⟩, [4]⟩,
 ⟨⟨some 19, some (18, false), .mov (.t 0)⟩, [5]⟩,
 ⟨⟨some 20, some (18, false), .ia 1 (.t 19) (.c (.int .i64 0))⟩, [6, 5]⟩,
 ⟨⟨some 21, some (18, false), .ld none (.t 20)⟩, [7, 5]⟩,
 ⟨⟨some 22, some (18, false), .fa 3 (.t 5)⟩, [5]⟩,
 ⟨⟨some 23, some (18, false), .ld none (.t 22)⟩, [9, 5]⟩,
 ⟨⟨some 24, some (18, false), .bin .andNot .none (.t 21) (.t 23)⟩, [8, 10, 5]⟩,
 ⟨⟨some 25, some (18, false), .fa 2 (.t 5)⟩, [5]⟩,
 ⟨⟨some 26, some (18, false), .ld none (.t 25)⟩, [12, 5]⟩,
 ⟨⟨some 27, some (18, false), .bin .neq .none (.t 24) (.t 26)⟩, [11, 13, 5]⟩,
 ⟨⟨some 28, none, .pick (.t 18) (.c (.bool true)) (.t 27)⟩, [5, 14]⟩]
 [] (some [0, 5, 9, 10, 28]))
 (.cond (.t 28)
 (.exit 1)
 .skip))
 (.seq
 (.drw [⟨⟨some 29, none, .mov (.t 0)⟩, []⟩,
 ⟨⟨some 30, none, .ia 1 (.t 29) (.c (.int .i64 0))⟩, [0]⟩,
 ⟨⟨some 31, none, .ld none (.t 30)⟩, [1]⟩,
 ⟨⟨some 32, none, .fa 3 (.t 5)⟩, []⟩,
 ⟨⟨some 33, none, .ld none (.t 32)⟩, [3]⟩,
 ⟨⟨some 34, none, .bin .and .none (.t 31) (.t 33)⟩, [2, 4]⟩,
 ⟨⟨some 35, none, .cvi .i64 (.t 34)⟩, [5]⟩]
 [⟨some 6, none, .mov (.t 35)⟩] (some [0, 5, 6, 9, 10]))
 (.seq
 (.seq
 (.reg [⟨some 36, none, .mov (.t 0)⟩,
 ⟨some 37, none, .fa 0 (.t 5)⟩,
 ⟨some 38, none, .ld none (.t 37)⟩,
 ⟨some 39, none, .sll 1 (.t 36) (some (.c (.int .i64 1))) (some (.t 38)) none⟩,
 ⟨some 40, none, .len (.t 39)⟩,
 ⟨some 41, none, .mov (.c (.int .i64 0))⟩] (some [0, 5, 6, 9, 10, 39, 40, 41]))
 (.blk 2
 (.loop
 ir_utfTake_l0)))
 (.seq
 (.drw [⟨⟨some 52, none, .mov (.t 6)⟩, []⟩,
 ⟨⟨some 53, none, .call (.c (.fn (.func 51) [] [])) [(.t 52)]⟩, [0]⟩,
 ⟨⟨some 54, none, .mov (.t 0)⟩, []⟩,
 ⟨⟨some 55, none, .fa 0 (.t 5)⟩, []⟩,
 ⟨⟨some 56, none, .ld none (.t 55)⟩, [3]⟩,
 ⟨⟨some 57, none, .sll 1 (.t 54) none (some (.t 56)) none⟩, [2, 4]⟩,
 ⟨⟨some 58, none, .call (.c (.fn (.func 145) [] [])) [(.t 53), (.t 57)]⟩, [1, 5, 1]⟩]
 [] (some [0, 5, 6, 9, 10, 58]))
 (.cond (.t 58)
 (.seq
 (.drw [⟨⟨some 59, none, .mov (.t 6)⟩, []⟩,
 ⟨⟨some 60, none, .fa 0 (.t 5)⟩, []⟩,
 ⟨⟨some 61, none, .ld none (.t 60)⟩, [1]⟩,
 ⟨⟨some 2, none, .mov (.t 59)⟩, [0, 0]⟩]
 [⟨some 3, none, .mov (.t 61)⟩] (some [2, 3]))
 .ret)
 .skip)))))))
 (.reg [⟨some 62, none, .bin .add .none (.t 10) (.c (.int .i64 1))⟩,
 ⟨some 10, none, .mov (.t 62)⟩] (some [0, 9, 10])))))
def ir_utfTake : ICode :=
 (.seq
 (.reg [⟨some 2, none, .mov (.c (.int .i64 0))⟩,
 ⟨some 3, none, .mov (.c (.int .i64 0))⟩] (some [0]))
 (.seq
 (.seq
 (.reg [⟨some 9, none, .call (.c (.fn (.func 99) [] [])) []⟩,
 ⟨some 10, none, .mov (.c (.int .i64 0))⟩] (some [0, 9, 10]))
 (.blk 0
 (.loop
 ir_utfTake_l1)))
 (.seq
 (.reg [⟨some 2, none, .mov (.c (.int .i64 0))⟩,
 ⟨some 3, none, .mov (.c (.int .i64 0))⟩] (some [2, 3]))
 .ret)))
theorem is_utfTake : IrOf Tryz.prog 133 63 ir_utfTake [.t 2, .t 3] := ⟨_, Tryz.func133, rfl, by kernel_rfl, by kernel_rfl, by kernel_rfl⟩

/- clavier/clavierref02.Take -/
def ir_clavierref02Take_l0 : ICode :=
 (.seq
 (.seq
 (.reg [⟨some 6, none, .mov (.t 4)⟩,
 ⟨some 7, none, .bin .leq .none (.t 6) (.c (.int .i64 4))⟩,
 ⟨some 8, none, .mov (.t 7)⟩,
 ⟨some 9, some (8, true), .mov (.t 4)⟩,
 ⟨some 10, some (8, true), .mov (.t 0)⟩,
 ⟨some 11, some (8, true), .len (.t 10)⟩,
 ⟨some 12, some (8, true), .bin .leq .none (.t 9) (.t 11)⟩,
 ⟨some 13, none, .pick (.t 8) (.t 12) (.c (.bool false))⟩] (some [0, 4, 13]))
 (.cond (.t 13)
 .skip
 (.exit 0)))
 (.seq
 (.blk 1
 (.seq
 (.reg [⟨some 16, none, .mov (.t 0)⟩,
 ⟨some 17, none, .mov (.t 4)⟩,
 ⟨some 18, none, .call (.c (.fn (.func 131) [] [])) [(.t 16), (.t 17)]⟩,
 ⟨some 5, none, .mov (.t 18)⟩] (some [0, 4, 5]))
 (.seq
 (.drw [⟨⟨some 19, none, .mov (.t 5)⟩, []⟩,
 ⟨⟨some 20, none, .call (.c (.fn (.func 70) [] [])) [(.t 19)]⟩, [0]⟩,
 ⟨⟨some 21, none, .len (.t 20)⟩, [1]⟩,
 ⟨⟨some 22, none, .mov (.t 4)⟩, []⟩,
 ⟨⟨some 23, none, .bin .eql .none (.t 21) (.t 22)⟩, [2, 3]⟩,
 ⟨⟨some 24, none, .mov (.t 23)⟩, [4, 1]⟩,
 ⟨⟨some 25, some (24, true), .mov (.t 5)⟩, [5]⟩,
 ⟨⟨some 26, some (24, true), .call (.c (.fn (.func 70) [] [])) [(.t 25)]⟩, [6, 5, 5]⟩,
 ⟨⟨some 27, some (24, true), .b2s (.t 26)⟩, [7, 5]⟩,
 ⟨⟨some 28, some (24, true), .mov (.t 0)⟩, [5]⟩,
 ⟨⟨some 29, some (24, true), .mov (.t 4)⟩, [5]⟩,
 ⟨⟨some 30, some (24, true), .sll 1 (.t 28) none (some (.t 29)) none⟩, [9, 10, 5]⟩,
 ⟨⟨some 31, some (24, true), .b2s (.t 30)⟩, [11, 5]⟩,
 ⟨⟨some 32, some (24, true), .bin .eql .none (.t 27) (.t 31)⟩, [8, 12, 5]⟩,
 ⟨⟨some 33, none, .pick (.t 24) (.t 32) (.c (.bool false))⟩, [5, 13]⟩]
 [] (some [0, 4, 5, 33]))
 (.cond (.t 33)
 (.seq
 (.reg [⟨some 34, none, .mov (.t 5)⟩,
 ⟨some 35, none, .mov (.t 4)⟩,
 ⟨some 2, none, .mov (.t 34)⟩,
 ⟨some 3, none, .mov (.t 35)⟩] (some [2, 3]))
 .ret)
 .skip))))
 (.reg [⟨some 14, none, .mov (.t 4)⟩,
 ⟨some 15, none, .bin .add .none (.t 14) (.c (.int .i64 1))⟩,
 ⟨some 4, none, .mov (.t 15)⟩] (some [0, 4]))))
def ir_clavierref02Take : ICode :=
 (.seq
 (.reg [⟨some 2, none, .mov (.c (.int .i64 0))⟩,
 ⟨some 3, none, .mov (.c (.int .i64 0))⟩] (some [0]))
 (.seq
 (.seq
 (.reg [⟨some 4, none, .mov (.c (.int .i64 1))⟩] (some [0, 4]))
 (.blk 0
 (.loop
 ir_clavierref02Take_l0)))
 (.seq
 (.reg [⟨some 2, none, .mov (.c (.int .i64 0))⟩,
 ⟨some 3, none, .mov (.c (.int .i64 0))⟩] (some [2, 3]))
 .ret)))
theorem is_clavierref02Take : IrOf Tryz.prog 117 36 ir_clavierref02Take [.t 2, .t 3] := ⟨_, Tryz.func117, rfl, by kernel_rfl, by kernel_rfl, by kernel_rfl⟩

def ir_clavierref02guess : ICode :=
 (.seq
 (.reg [⟨some 4, none, .mov (.c (.int .i64 0))⟩] (some [0, 1]))
 (.seq
 (.seq
 (.reg [⟨some 5, none, .mov (.t 1)⟩] (some [0, 5]))
 (.blk 0
 (.seq
 (.reg [⟨some 7, none, .bin .eql .none (.t 5) (.c (.int .i64 1))⟩,
 ⟨some 6, none, .mov (.t 7)⟩] (some [0, 5, 6]))
 (.cond (.t 6)
 (.seq
 (.reg [⟨some 8, none, .mov (.t 0)⟩,
 ⟨some 9, none, .ia 1 (.t 8) (.c (.int .i64 0))⟩,
 ⟨some 10, none, .ld none (.t 9)⟩,
 ⟨some 11, none, .cvi .i64 (.t 10)⟩,
 ⟨some 4, none, .mov (.t 11)⟩] (some [4]))
 .ret)
 (.seq
 (.reg [⟨some 13, none, .bin .eql .none (.t 5) (.c (.int .i64 2))⟩,
 ⟨some 12, none, .mov (.t 13)⟩] (some [0, 5, 12]))
 (.cond (.t 12)
 (.seq
 (.drw [⟨⟨some 14, none, .mov (.t 0)⟩, []⟩,
 ⟨⟨some 15, none, .ia 1 (.t 14) (.c (.int .i64 0))⟩, [0]⟩,
 ⟨⟨some 16, none, .ld none (.t 15)⟩, [1]⟩,
 ⟨⟨some 17, none, .bin .sub .none (.t 16) (.c (.int .u8 192))⟩, [2]⟩,
 ⟨⟨some 18, none, .cvi .i64 (.t 17)⟩, [3]⟩,
 ⟨⟨some 19, none, .bin .mul .none (.t 18) (.c (.int .i64 64))⟩, [4]⟩,
 ⟨⟨some 20, none, .mov (.t 0)⟩, []⟩,
 ⟨⟨some 21, none, .ia 1 (.t 20) (.c (.int .i64 1))⟩, [6]⟩,
 ⟨⟨some 22, none, .ld none (.t 21)⟩, [7]⟩,
 ⟨⟨some 23, none, .bin .sub .none (.t 22) (.c (.int .u8 128))⟩, [8]⟩,
 ⟨⟨some 24, none, .cvi .i64 (.t 23)⟩, [9]⟩,
 ⟨⟨some 25, none, .bin .add .none (.t 19) (.t 24)⟩, [5, 10]⟩]
 [⟨some 4, none, .mov (.t 25)⟩] (some [4]))
 .ret)
 (.seq
 (.reg [⟨some 27, none, .bin .eql .none (.t 5) (.c (.int .i64 3))⟩,
 ⟨some 26, none, .mov (.t 27)⟩] (some [0, 26]))
 (.cond (.t 26)
 (.seq
 (.drw [⟨⟨some 28, none, .mov (.t 0)⟩, []⟩,
 ⟨⟨some 29, none, .ia 1 (.t 28) (.c (.int .i64 0))⟩, [0]⟩,
 ⟨⟨some 30, none, .ld none (.t 29)⟩, [1]⟩,
 ⟨⟨some 31, none, .bin .sub .none (.t 30) (.c (.int .u8 224))⟩, [2]⟩,
 ⟨⟨some 32, none, .cvi .i64 (.t 31)⟩, [3]⟩,
 ⟨⟨some 33, none, .bin .mul .none (.t 32) (.c (.int .i64 4096))⟩, [4]⟩,
 ⟨⟨some 34, none, .mov (.t 0)⟩, []⟩,
 ⟨⟨some 35, none, .ia 1 (.t 34) (.c (.int .i64 1))⟩, [6]⟩,
 ⟨⟨some 36, none, .ld none (.t 35)⟩, [7]⟩,
 ⟨⟨some 37, none, .bin .sub .none (.t 36) (.c (.int .u8 128))⟩, [8]⟩,
 ⟨⟨some 38, none, .cvi .i64 (.t 37)⟩, [9]⟩,
 ⟨⟨some 39, none, .bin .mul .none (.t 38) (.c (.int .i64 64))⟩, [10]⟩,
 ⟨⟨some 40, none, .bin .add .none (.t 33) (.t 39)⟩, [5, 11]⟩,
 ⟨⟨some 41, none, .mov (.t 0)⟩, []⟩,
 ⟨⟨some 42, none, .ia 1 (.t 41) (.c (.int .i64 2))⟩, [13]⟩,
 ⟨⟨some 43, none, .ld none (.t 42)⟩, [14]⟩,
 ⟨⟨some 44, none, .bin .sub .none (.t 43) (.c (.int .u8 128))⟩, [15]⟩,
 ⟨⟨some 45, none, .cvi .i64 (.t 44)⟩, [16]⟩,
 ⟨⟨some 46, none, .bin .add .none (.t 40) (.t 45)⟩, [12, 17]⟩]
 [⟨some 4, none, .mov (.t 46)⟩] (some [4]))
 .ret)
 .skip))))))))
 (.seq
 (.drw [⟨⟨some 47, none, .mov (.t 0)⟩, []⟩,
 ⟨⟨some 48, none, .ia 1 (.t 47) (.c (.int .i64 0))⟩, [0]⟩,
 ⟨⟨some 49, none, .ld none (.t 48)⟩, [1]⟩,
 ⟨⟨some 50, none, .bin .sub .none (.t 49) (.c (.int .u8 240))⟩, [2]⟩,
 ⟨⟨some 51, none, .cvi .i64 (.t 50)⟩, [3]⟩,
 ⟨⟨some 52, none, .bin .mul .none (.t 51) (.c (.int .i64 262144))⟩, [4]⟩,
 ⟨⟨some 53, none, .mov (.t 0)⟩, []⟩,
 ⟨⟨some 54, none, .ia 1 (.t 53) (.c (.int .i64 1))⟩, [6]⟩,
 ⟨⟨some 55, none, .ld none (.t 54)⟩, [7]⟩,
 ⟨⟨some 56, none, .bin .sub .none (.t 55) (.c (.int .u8 128))⟩, [8]⟩,
 ⟨⟨some 57, none, .cvi .i64 (.t 56)⟩, [9]⟩,
 ⟨⟨some 58, none, .bin .mul .none (.t 57) (.c (.int .i64 4096))⟩, [10]⟩,
 ⟨⟨some 59, none, .bin .add .none (.t 52) (.t 58)⟩, [5, 11]⟩,
 ⟨⟨some 60, none, .mov (.t 0)⟩, []⟩,
 ⟨⟨some 61, none, .ia 1 (.t 60) (.c (.int .i64 2))⟩, [13]⟩,
 ⟨⟨some 62, none, .ld none (.t 61)⟩, [14]⟩,
 ⟨⟨some 63, none, .bin .sub .none (.t 62) (.c (.int .u8 128))⟩, [15]⟩,
 ⟨⟨some 64, none, .cvi .i64 (.t 63)⟩, [16]⟩,
 ⟨⟨some 65, none, .bin .mul .none (.t 64) (.c (.int .i64 64))⟩, [17]⟩,
 ⟨⟨some 66, none, .bin .add .none (.t 59) (.t 65)⟩, [12, 18]⟩,
 ⟨⟨some 67, none, .mov (.t 0)⟩, []⟩,
 ⟨⟨some 68, none, .ia 1 (.t 67) (.c (.int .i64 3))⟩, [20]⟩,
 ⟨⟨some 69, none, .ld none (.t 68)⟩, [21]⟩,
 ⟨⟨some 70, none, .bin .sub .none (.t 69) (.c (.int .u8 128))⟩, [22]⟩,
 ⟨⟨some 71, none, .cvi .i64 (.t 70)⟩, [23]⟩,
 ⟨⟨some 72, none, .bin .add .none (.t 66) (.t 71)⟩, [19, 24]⟩]
 [⟨some 4, none, .mov (.t 72)⟩] (some [4]))
 .ret)))
theorem is_clavierref02guess : IrOf Tryz.prog 131 73 ir_clavierref02guess [.t 4] := ⟨_, Tryz.func131, rfl, by kernel_rfl, by kernel_rfl, by kernel_rfl⟩

theorem bb_get {l : List UInt8} {i : Nat} (h : i < l.length) : (bytesAV l).getD i [] = [.int .u8 (l[i].toNat : Int)] := by
  rw [List.getD_eq_getElem?_getD, bytesAV, List.getElem?_map, List.getElem?_eq_getElem h]; rfl
theorem bb_un (l : List UInt8) : (bytesAV l).map unbyte = l := by
  rw [bytesAV, List.map_map]
  have : (unbyte ∘ fun c : UInt8 => [AV.int .u8 (c.toNat : Int)]) = _root_.id := by funext c; simp [unbyte]
  rw [this, List.map_id]
theorem bb_is (l : List UInt8) : (∀ r ∈ bytesAV l, isByte r) = True := by
  rw [eq_iff_iff, iff_true]
  intro r hr
  obtain ⟨c, _, rfl⟩ := List.mem_map.1 hr
  rw [isByte_c]; trivial
theorem bytesAV_cons (c : UInt8) (l : List UInt8) : bytesAV (c :: l) = [.int .u8 (c.toNat : Int)] :: bytesAV l := rfl
theorem bytesAV_take (n : Nat) (l : List UInt8) : (bytesAV l).take n = bytesAV (l.take n) := by simp [bytesAV, List.map_take]
theorem bytesAV_drop (n : Nat) (l : List UInt8) : (bytesAV l).drop n = bytesAV (l.drop n) := by simp [bytesAV, List.map_drop]
theorem fs_EqualBytes {Gl : Gh → Prop} (hst : Stays Gl) {a b : List UInt8} {ta tb : Option Nm} (ha : a.length < 9223372036854775808) (hb : b.length < 9223372036854775808) : FS Tryz.prog Gl 145 [.sl ta 1 (bytesAV a), .sl tb 1 (bytesAV b)] [] [] (.bool (decide (a = b))) [] [] := by
  refine FS.of hm hst is_slicesEqualbytebyte (by simp) fun γ hγ hfr => ?_
  (generalize hQ : (fun (ex : Ex) (_ _ : Nat) (s : St) => _) = Q; unfold ir_slicesEqualbytebyte)
  simp +contextual (maxSteps := 1000000) only [bytesAV_length, go_sem, reduceCtorEq, ↓reduceIte, Nat.reduceAdd, Nat.reduceEqDiff]
  refine kCond_split (fun h => ?_) (fun h => ?_)
  · simp +contextual (maxSteps := 1000000) only [go_sem, reduceCtorEq, ↓reduceIte, Nat.reduceAdd, Nat.reduceEqDiff]
    rw [← hQ]
    have : decide (a = b) = false := by
      simp only [bne_iff_ne, ne_eq] at h
      rw [decide_eq_false_iff_not]; intro e; subst e; simp at h
    rw [this]
    exact ⟨trivial, Ret.flat rfl rfl⟩
  · have hl : a.length = b.length := by simp at h; omega
    simp +contextual (maxSteps := 1000000) only [bytesAV_length, go_sem, reduceCtorEq, ↓reduceIte, Nat.reduceAdd, Nat.reduceEqDiff]
    refine kLoop_ix (fun i : Nat => ⟨lf [(0, .sl ta 1 (bytesAV a)), (1, .sl tb 1 (bytesAV b)), (12, .int .i64 a.length), (13, .int .i64 i)], [], fun x => x ∈ []⟩) (fun i => i ≤ a.length ∧ a.take i = b.take i) (fun i => a.length - i) 0 0 (Wk.same ?_) ?_ ?_
    · (simp only [lfOK, upd, initF]; repeat' first | exact AVle.refl _ _ | exact trivial | refine And.intro ?_ ?_ | exact AVle.int (by simp only [IntKind.wrap_i64]; omega))
    · simp
    · rintro γ' i hf ⟨hi, hinv⟩
      generalize hQ' : kIt _ _ _ _ _ = Q'
      by_cases hlt : i < a.length
      · have hd : decide ((i : Int) < (a.length : Int)) = true := by simp; omega
        have g1 : (bytesAV a).getD (i : Int).toNat [] = [.int .u8 (a[i].toNat : Int)] := by rw [Int.toNat_natCast]; exact bb_get hlt
        have g2 : (bytesAV b).getD (i : Int).toNat [] = [.int .u8 ((b[i]'(by omega)).toNat : Int)] := by rw [Int.toNat_natCast]; exact bb_get (by omega)
        simp +contextual (maxSteps := 1000000) only [bytesAV_length, hd, g1, g2, go_sem, reduceCtorEq, ↓reduceIte, Nat.reduceAdd, Nat.reduceEqDiff]
        refine ⟨by omega, by omega, kCond_split (fun h1 => ?_) (fun h1 => ?_)⟩
        · simp +contextual (maxSteps := 1000000) only [go_sem, reduceCtorEq, ↓reduceIte, Nat.reduceAdd, Nat.reduceEqDiff]
          rw [← hQ']
          simp only [w_kIt_r, w_kBlk_r, w_kSeq_r]
          have e : decide (a = b) = false := by
            simp only [bne_iff_ne, ne_eq] at h1
            rw [decide_eq_false_iff_not]; intro e; subst e; exact h1 rfl
          rw [← hQ, e]
          exact ⟨trivial, Ret.flat rfl rfl⟩
        · simp +contextual (maxSteps := 1000000) only [go_sem, reduceCtorEq, ↓reduceIte, Nat.reduceAdd, Nat.reduceEqDiff]
          rw [← hQ']
          simp only [w_kIt_n]
          refine ⟨0, i + 1, Wk.same ?_, ⟨by omega, ?_⟩, by omega⟩
          · repeat' first | exact AVle.refl _ _ | exact trivial | refine And.intro ?_ ?_ | exact AVle.int (by simp only [IntKind.wrap_i64]; omega)
          · have h2 : a[i] = b[i]'(by omega) := by
              have h3 : (a[i].toNat : Int) = ((b[i]'(by omega)).toNat : Int) := by simpa using h1
              exact UInt8.toNat_inj.1 (by omega)
            rw [List.take_add_one, List.take_add_one, hinv, List.getElem?_eq_getElem hlt, List.getElem?_eq_getElem (show i < b.length by omega), h2]
      · have hd : decide ((i : Int) < (a.length : Int)) = false := by simp; omega
        simp +contextual (maxSteps := 1000000) only [bytesAV_length, hd, go_sem, reduceCtorEq, ↓reduceIte, Nat.reduceAdd, Nat.reduceEqDiff]
        rw [← hQ']
        simp only [w_kIt_e, w_kBlk_e, ↓reduceIte]
        simp +contextual (maxSteps := 1000000) only [go_sem, reduceCtorEq, ↓reduceIte, Nat.reduceAdd, Nat.reduceEqDiff]
        have e : decide (a = b) = true := by
          rw [decide_eq_true_eq]
          have h3 := hinv
          rw [List.take_of_length_le (by omega), List.take_of_length_le (by omega)] at h3
          exact h3
        rw [← hQ, e]
        exact ⟨trivial, Ret.flat rfl rfl⟩

def gueZ : List UInt8 → Int
  | [a] => a.toNat
  | [a, b] => IntKind.u8.wrap (a.toNat - 192) * 64 + IntKind.u8.wrap (b.toNat - 128)
  | [a, b, c] => IntKind.u8.wrap (a.toNat - 224) * 4096 + IntKind.u8.wrap (b.toNat - 128) * 64 + IntKind.u8.wrap (c.toNat - 128)
  | [a, b, c, d] => IntKind.u8.wrap (a.toNat - 240) * 262144 + IntKind.u8.wrap (b.toNat - 128) * 4096 + IntKind.u8.wrap (c.toNat - 128) * 64 + IntKind.u8.wrap (d.toNat - 128)
  | _ => 0
theorem gueZ_put {r : Int} (h : isCP r = true) : gueZ (putU r) = r := by
  obtain ⟨n, rfl, h1, h2⟩ := isCP_spec h
  rw [putU, if_pos h, Int.toNat_natCast]
  unfold putN
  split
  · simp only [List.map_cons, List.map_nil, gueZ, UInt8.toNat_ofNat']; omega
  · split
    · simp only [List.map_cons, List.map_nil, gueZ, UInt8.toNat_ofNat', IntKind.wrap_u8]; omega
    · split
      · simp only [List.map_cons, List.map_nil, gueZ, UInt8.toNat_ofNat', IntKind.wrap_u8]; omega
      · simp only [List.map_cons, List.map_nil, gueZ, UInt8.toNat_ofNat', IntKind.wrap_u8]; omega
theorem u8w (x : Int) : 0 ≤ IntKind.u8.wrap x ∧ IntKind.u8.wrap x < 256 := by rw [IntKind.wrap_u8]; omega
set_option maxHeartbeats 2000000 in
theorem fs_guess {Gl : Gh → Prop} (hst : Stays Gl) {b : List UInt8} {tb : Option Nm} {n : Nat} (h1 : 1 ≤ n) (h4 : n ≤ 4) (hl : n ≤ b.length) : FS Tryz.prog Gl 131 [.sl tb 1 (bytesAV b), .int .i64 (n : Int)] [] [] (.int .i64 (gueZ (b.take n))) [] [] := by
  refine FS.of hm hst is_clavierref02guess (by simp) fun γ hγ hfr => ?_
  (generalize hQ : (fun (ex : Ex) (_ _ : Nat) (s : St) => _) = Q; unfold ir_clavierref02guess)
  obtain ⟨a, b, rfl⟩ : ∃ a b', b = a :: b' := by cases b with
    | nil => simp at hl; omega
    | cons a b => exact ⟨a, b, rfl⟩
  have w0 := a.toNat_lt
  have key : n = 1 ∨ n = 2 ∨ n = 3 ∨ n = 4 := by omega
  rcases key with rfl | rfl | rfl | rfl
  · simp +contextual (maxSteps := 1000000) only [bytesAV_cons, go_sem, reduceCtorEq, ↓reduceIte, Nat.reduceAdd, Nat.reduceEqDiff, Nat.reduceLeDiff, Nat.reduceMul, Nat.reduceBEq, Int.reduceBEq, Int.reduceBNe, Int.reduceLT, Int.reduceLE, Int.reduceGT, Int.reduceGE, Int.reduceToNat]
    refine ⟨by omega, ?_⟩
    rw [← hQ]
    refine ⟨trivial, Ret.flat (show some (AV.int .i64 _) = some (AV.int .i64 _) from congrArg (fun z => some (AV.int .i64 z)) ?_) rfl⟩
    simp only [List.take_succ_cons, List.take_zero, gueZ, IntKind.wrap_i64]
    omega
  · obtain ⟨c, b, rfl⟩ : ∃ a b', b = a :: b' := by cases b with
      | nil => simp at hl
      | cons a b => exact ⟨a, b, rfl⟩
    simp +contextual (maxSteps := 1000000) only [bytesAV_cons, go_sem, reduceCtorEq, ↓reduceIte, Nat.reduceAdd, Nat.reduceEqDiff, Nat.reduceLeDiff, Nat.reduceMul, Nat.reduceBEq, Int.reduceBEq, Int.reduceBNe, Int.reduceLT, Int.reduceLE, Int.reduceGT, Int.reduceGE, Int.reduceToNat]
    have u0 := u8w ((a.toNat : Int) - 192)
    have u1 := u8w ((c.toNat : Int) - 128)
    refine ⟨by omega, by omega, ?_⟩
    rw [← hQ]
    refine ⟨trivial, Ret.flat (show some (AV.int .i64 _) = some (AV.int .i64 _) from congrArg (fun z => some (AV.int .i64 z)) ?_) rfl⟩
    simp only [List.take_succ_cons, List.take_zero, gueZ, IntKind.wrap_i64]
    omega
  · obtain ⟨c, b, rfl⟩ : ∃ a b', b = a :: b' := by cases b with
      | nil => simp at hl
      | cons a b => exact ⟨a, b, rfl⟩
    obtain ⟨d, b, rfl⟩ : ∃ a b', b = a :: b' := by cases b with
      | nil => simp at hl
      | cons a b => exact ⟨a, b, rfl⟩
    simp +contextual (maxSteps := 1000000) only [bytesAV_cons, go_sem, reduceCtorEq, ↓reduceIte, Nat.reduceAdd, Nat.reduceEqDiff, Nat.reduceLeDiff, Nat.reduceMul, Nat.reduceBEq, Int.reduceBEq, Int.reduceBNe, Int.reduceLT, Int.reduceLE, Int.reduceGT, Int.reduceGE, Int.reduceToNat]
    have u0 := u8w ((a.toNat : Int) - 224)
    have u1 := u8w ((c.toNat : Int) - 128)
    have u2 := u8w ((d.toNat : Int) - 128)
    refine ⟨by omega, by omega, by omega, ?_⟩
    rw [← hQ]
    refine ⟨trivial, Ret.flat (show some (AV.int .i64 _) = some (AV.int .i64 _) from congrArg (fun z => some (AV.int .i64 z)) ?_) rfl⟩
    simp only [List.take_succ_cons, List.take_zero, gueZ, IntKind.wrap_i64]
    omega
  · obtain ⟨c, b, rfl⟩ : ∃ a b', b = a :: b' := by cases b with
      | nil => simp at hl
      | cons a b => exact ⟨a, b, rfl⟩
    obtain ⟨d, b, rfl⟩ : ∃ a b', b = a :: b' := by cases b with
      | nil => simp at hl
      | cons a b => exact ⟨a, b, rfl⟩
    obtain ⟨e, b, rfl⟩ : ∃ a b', b = a :: b' := by cases b with
      | nil => simp at hl
      | cons a b => exact ⟨a, b, rfl⟩
    simp +contextual (maxSteps := 1000000) only [bytesAV_cons, go_sem, reduceCtorEq, ↓reduceIte, Nat.reduceAdd, Nat.reduceEqDiff, Nat.reduceLeDiff, Nat.reduceMul, Nat.reduceBEq, Int.reduceBEq, Int.reduceBNe, Int.reduceLT, Int.reduceLE, Int.reduceGT, Int.reduceGE, Int.reduceToNat]
    have u0 := u8w ((a.toNat : Int) - 240)
    have u1 := u8w ((c.toNat : Int) - 128)
    have u2 := u8w ((d.toNat : Int) - 128)
    have u3 := u8w ((e.toNat : Int) - 128)
    refine ⟨by omega, by omega, by omega, by omega, ?_⟩
    rw [← hQ]
    refine ⟨trivial, Ret.flat (show some (AV.int .i64 _) = some (AV.int .i64 _) from congrArg (fun z => some (AV.int .i64 z)) ?_) rfl⟩
    simp only [List.take_succ_cons, List.take_zero, gueZ, IntKind.wrap_i64]
    omega
theorem takeU_none {b : List UInt8} (h : ∀ m, 1 ≤ m → m ≤ 4 → tryU b m = none) : takeU b = none := by
  simp [takeU, h 1, h 2, h 3, h 4]
theorem takeU_first {b : List UInt8} {n : Nat} {x : Int × Nat} (h : ∀ m, 1 ≤ m → m < n → tryU b m = none) (h1 : 1 ≤ n) (h4 : n ≤ 4) (hx : tryU b n = some x) : takeU b = some x := by
  have key : n = 1 ∨ n = 2 ∨ n = 3 ∨ n = 4 := by omega
  rcases key with rfl | rfl | rfl | rfl
  · simp [takeU, hx]
  · simp [takeU, hx, h 1]
  · simp [takeU, hx, h 1, h 2]
  · simp [takeU, hx, h 1, h 2, h 3]
theorem tryU_long {b : List UInt8} {n : Nat} (h : b.length < n) : tryU b n = none := by
  rw [tryU, if_neg (by omega)]
def takeZ (b : List UInt8) : Int × Int := match takeU b with
  | some (r, n) => (r, (n : Int))
  | none => (0, 0)
theorem try_gue {b : List UInt8} {n : Nat} (h1 : 1 ≤ n) (hl : n ≤ b.length) : tryU b n = if putU (gueZ (b.take n)) = b.take n then some (gueZ (b.take n), n) else none := by
  split
  · rename_i h; exact tryU_some h1 h hl
  · rename_i h
    cases ht : tryU b n with
    | none => rfl
    | some x =>
      obtain ⟨r, m⟩ := x
      obtain ⟨rfl, h2, h3⟩ := tryU_of ht
      have hne : putU r ≠ [] := by rw [h3]; intro e; have := congrArg List.length e; simp only [List.length_take, List.length_nil] at this; omega
      have := gueZ_put (putU_ne.1 hne)
      rw [h3] at this
      rw [this] at h
      exact absurd h3 h
set_option maxHeartbeats 2000000 in
theorem fs_rTakeU {Gl : Gh → Prop} (hst : Stays Gl) {b : List UInt8} {tb : Option Nm} (hb : b.length ≤ maxLen) : FS Tryz.prog Gl 117 [.sl tb 1 (bytesAV b)] [] [] (.tup [.int .i64 (takeZ b).1, .int .i64 (takeZ b).2]) [] [] := by
  refine FS.of hm hst is_clavierref02Take (by simp) fun γ hγ hfr => ?_
  (generalize hQ : (fun (ex : Ex) (_ _ : Nat) (s : St) => _) = Q; unfold ir_clavierref02Take)
  simp +contextual (maxSteps := 1000000) only [go_sem, reduceCtorEq, ↓reduceIte, Nat.reduceAdd, Nat.reduceEqDiff, Nat.reduceLeDiff, Nat.reduceMul, Nat.reduceBEq, Int.reduceBEq, Int.reduceBNe, Int.reduceLT, Int.reduceLE, Int.reduceGT, Int.reduceGE, Int.reduceToNat]
  refine kLoop_ix (fun i : Nat => ⟨lf [(0, .sl tb 1 (bytesAV b)), (4, .int .i64 ((i + 1 : Nat) : Int))], [], fun x => x ∈ []⟩) (fun i => i ≤ 4 ∧ ∀ m, 1 ≤ m → m ≤ i → tryU b m = none) (fun i => 5 - i) 0 0 ?_ ⟨by omega, fun m h1 h2 => by omega⟩ ?_
  · refine Wk.same ?_
    (simp only [lfOK, upd, initF]; repeat' first | exact AVle.refl _ _ | exact trivial | refine And.intro ?_ ?_ | exact AVle.int (by simp only [IntKind.wrap_i64]; omega))
  · rintro γ' i hf ⟨hi, hn⟩
    generalize hQ' : kIt _ _ _ _ _ = Q'
    unfold ir_clavierref02Take_l0
    by_cases hgo : i + 1 ≤ 4 ∧ i + 1 ≤ b.length
    · have hd : decide (((i + 1 : Nat) : Int) ≤ 4) = true := by simp; omega
      have hd2 : decide (((i + 1 : Nat) : Int) ≤ (b.length : Int)) = true := by simp; omega
      simp +contextual (maxSteps := 1000000) only [hd, hd2, bytesAV_length', go_sem, reduceCtorEq, ↓reduceIte, Nat.reduceAdd, Nat.reduceEqDiff, Nat.reduceLeDiff, Nat.reduceMul, Nat.reduceBEq, Int.reduceBEq, Int.reduceBNe, Int.reduceLT, Int.reduceLE, Int.reduceGT, Int.reduceGE, Int.reduceToNat]
      (refine CallP.pure (fs_guess hst (b := b) (tb := tb) (n := i+1) (by omega) hgo.1 hgo.2) (fun _ => rfl) ?_; simp +contextual (maxSteps := 1000000) only [bytesAV_length', go_sem, reduceCtorEq, ↓reduceIte, Nat.reduceAdd, Nat.reduceEqDiff, Nat.reduceLeDiff, Nat.reduceMul, Nat.reduceBEq, Int.reduceBEq, Int.reduceBNe, Int.reduceLT, Int.reduceLE, Int.reduceGT, Int.reduceGE, Int.reduceToNat])
      generalize hg : gueZ (List.take (i + 1) b) = g0
      refine DCall.new (fs_rPutU hst) ?_
      have hpl := putU_len g0
      by_cases hL : (putU g0).length = i + 1
      · have hq : (((putU g0).length : Int) == ((i + 1 : Nat) : Int)) = true := by rw [hL]; simp
        simp +contextual (maxSteps := 1000000) only [hq, bytesAV_length', go_sem, reduceCtorEq, ↓reduceIte, Nat.reduceAdd, Nat.reduceEqDiff, Nat.reduceLeDiff, Nat.reduceMul, Nat.reduceBEq, Int.reduceBEq, Int.reduceBNe, Int.reduceLT, Int.reduceLE, Int.reduceGT, Int.reduceGE, Int.reduceToNat]
        refine DCall.new (fs_rPutU hst) ?_
        have htk : (List.take (i + 1) b).length = i + 1 := by rw [List.length_take]; omega
        by_cases he : putU g0 = List.take (i + 1) b
        · have hde : decide (putU g0 = List.take (i + 1) b) = true := by simp [he]
          simp +contextual (maxSteps := 1000000) only [bb_un, bb_is, bytesAV_take, bytesAV_length', Int.toNat_natCast, hde, go_sem, reduceCtorEq, ↓reduceIte, Nat.reduceAdd, Nat.reduceEqDiff, Nat.reduceLeDiff, Nat.reduceMul, Nat.reduceBEq, Int.reduceBEq, Int.reduceBNe, Int.reduceLT, Int.reduceLE, Int.reduceGT, Int.reduceGE, Int.reduceToNat]
          refine ⟨⟨by omega, by omega⟩, ?_⟩
          rw [← hQ']
          simp only [w_kIt_r, w_kBlk_r, w_kSeq_r]
          have ht := takeU_first (n := i + 1) (fun m h1 h2 => hn m h1 (by omega)) (by omega) hgo.1 (x := (g0, i + 1)) (by rw [try_gue (by omega) hgo.2, hg, if_pos he])
          have hz : takeZ b = (g0, ((i + 1 : Nat) : Int)) := by rw [takeZ, ht]
          rw [← hQ, hz]
          exact ⟨trivial, Ret.flat2⟩
        · have hde : decide (putU g0 = List.take (i + 1) b) = false := by simp [he]
          simp +contextual (maxSteps := 1000000) only [bb_un, bb_is, bytesAV_take, bytesAV_length', Int.toNat_natCast, hde, go_sem, reduceCtorEq, ↓reduceIte, Nat.reduceAdd, Nat.reduceEqDiff, Nat.reduceLeDiff, Nat.reduceMul, Nat.reduceBEq, Int.reduceBEq, Int.reduceBNe, Int.reduceLT, Int.reduceLE, Int.reduceGT, Int.reduceGE, Int.reduceToNat]
          refine ⟨⟨by omega, by omega⟩, ?_⟩
          rw [← hQ']
          simp only [w_kIt_n]
          refine ⟨0, i + 1, Wk.same ?_, ⟨by omega, fun m h1 h2 => ?_⟩, by omega⟩
          · repeat' first | exact AVle.refl _ _ | exact trivial | refine And.intro ?_ ?_ | exact AVle.int (by simp only [IntKind.wrap_i64]; omega)
          · by_cases hm : m = i + 1
            · subst hm; rw [try_gue (by omega) hgo.2, hg, if_neg he]
            · exact hn m h1 (by omega)
      · have hq : (((putU g0).length : Int) == ((i + 1 : Nat) : Int)) = false := by simp; omega
        simp +contextual (maxSteps := 1000000) only [hq, bytesAV_length', go_sem, reduceCtorEq, ↓reduceIte, Nat.reduceAdd, Nat.reduceEqDiff, Nat.reduceLeDiff, Nat.reduceMul, Nat.reduceBEq, Int.reduceBEq, Int.reduceBNe, Int.reduceLT, Int.reduceLE, Int.reduceGT, Int.reduceGE, Int.reduceToNat]
        rw [← hQ']
        simp only [w_kIt_n]
        refine ⟨0, i + 1, Wk.same ?_, ⟨by omega, fun m h1 h2 => ?_⟩, by omega⟩
        · repeat' first | exact AVle.refl _ _ | exact trivial | refine And.intro ?_ ?_ | exact AVle.int (by simp only [IntKind.wrap_i64]; omega)
        · by_cases hm : m = i + 1
          · subst hm
            rw [try_gue (by omega) hgo.2, hg, if_neg (fun e => hL (by rw [e, List.length_take]; omega))]
          · exact hn m h1 (by omega)
    · have hz : takeZ b = (0, 0) := by
        rw [takeZ, takeU_none fun m h1 h2 => ?_]
        by_cases hm : m ≤ i
        · exact hn m h1 hm
        · exact tryU_long (by omega)
      by_cases h4 : i + 1 ≤ 4
      · have hd : decide (((i + 1 : Nat) : Int) ≤ 4) = true := by simp; omega
        have hd2 : decide (((i + 1 : Nat) : Int) ≤ (b.length : Int)) = false := by simp; omega
        simp +contextual (maxSteps := 1000000) only [hd, hd2, bytesAV_length', go_sem, reduceCtorEq, ↓reduceIte, Nat.reduceAdd, Nat.reduceEqDiff, Nat.reduceLeDiff, Nat.reduceMul, Nat.reduceBEq, Int.reduceBEq, Int.reduceBNe, Int.reduceLT, Int.reduceLE, Int.reduceGT, Int.reduceGE, Int.reduceToNat]
        rw [← hQ']
        simp only [w_kIt_e, w_kBlk_e, ↓reduceIte]
        simp +contextual (maxSteps := 1000000) only [go_sem, reduceCtorEq, ↓reduceIte, Nat.reduceAdd, Nat.reduceEqDiff, Nat.reduceLeDiff, Nat.reduceMul, Nat.reduceBEq, Int.reduceBEq, Int.reduceBNe, Int.reduceLT, Int.reduceLE, Int.reduceGT, Int.reduceGE, Int.reduceToNat]
        rw [← hQ, hz]
        exact ⟨trivial, Ret.flat2⟩
      · have hd : decide (((i + 1 : Nat) : Int) ≤ 4) = false := by simp; omega
        simp +contextual (maxSteps := 1000000) only [hd, bytesAV_length', go_sem, reduceCtorEq, ↓reduceIte, Nat.reduceAdd, Nat.reduceEqDiff, Nat.reduceLeDiff, Nat.reduceMul, Nat.reduceBEq, Int.reduceBEq, Int.reduceBNe, Int.reduceLT, Int.reduceLE, Int.reduceGT, Int.reduceGE, Int.reduceToNat]
        rw [← hQ']
        simp only [w_kIt_e, w_kBlk_e, ↓reduceIte]
        simp +contextual (maxSteps := 1000000) only [go_sem, reduceCtorEq, ↓reduceIte, Nat.reduceAdd, Nat.reduceEqDiff, Nat.reduceLeDiff, Nat.reduceMul, Nat.reduceBEq, Int.reduceBEq, Int.reduceBNe, Int.reduceLT, Int.reduceLE, Int.reduceGT, Int.reduceGE, Int.reduceToNat]
        rw [← hQ, hz]
        exact ⟨trivial, Ret.flat2⟩
/-! ### The program's -/
theorem andN : ∀ i : Fin 4, ∀ c : Fin 256, bits .andNot .u8 ((c.val : Nat) : Int) ((szRest i.val : Nat) : Int) = ((c.val - c.val % (szRest i.val + 1) : Nat) : Int) := by decide +kernel
theorem andR : ∀ i : Fin 4, ∀ c : Fin 256, bits .and .u8 ((c.val : Nat) : Int) ((szRest i.val : Nat) : Int) = ((c.val % (szRest i.val + 1) : Nat) : Int) := by decide +kernel
def decF (i : Nat) (b : List UInt8) : Nat → Nat
  | 0 => (b.getD 0 0).toNat % (szRest i + 1)
  | j + 1 => decF i b j * 64 + (b.getD (j + 1) 0).toNat % 64
theorem decF_all {i : Nat} (hi : i < 4) {b : List UInt8} (hl : i + 1 ≤ b.length) : ((decF i b i : Nat) : Int) = decU (b.take (i + 1)) := by
  have key : i = 0 ∨ i = 1 ∨ i = 2 ∨ i = 3 := by omega
  match b, hl with
  | b0 :: l, hl =>
  rcases key with rfl | rfl | rfl | rfl
  · rfl
  · match l, hl with
    | b1 :: l, hl => rfl
  · match l, hl with
    | b1 :: b2 :: l, hl => rfl
  · match l, hl with
    | b1 :: b2 :: b3 :: l, hl => rfl
theorem try_first {i : Nat} (hi : i < 4) {b : List UInt8} (hl : i + 1 ≤ b.length) (h : (b.getD 0 0).toNat - (b.getD 0 0).toNat % (szRest i + 1) ≠ szMark i) : tryU b (i + 1) = none := by
  cases ht : tryU b (i + 1) with
  | none => rfl
  | some x =>
    obtain ⟨r, m⟩ := x
    obtain ⟨rfl, h2, h3⟩ := tryU_of ht
    have hne : putU r ≠ [] := by rw [h3]; intro e; have := congrArg List.length e; simp only [List.length_take, List.length_nil] at this; omega
    have hcp := putU_ne.1 hne
    obtain ⟨n, rfl, g1, g2⟩ := isCP_spec hcp
    have hlen : (putN n).length = i + 1 := by
      have := congrArg List.length h3
      rw [putU, if_pos hcp, Int.toNat_natCast, List.length_map, List.length_take] at this
      omega
    have h0 : (b.getD 0 0).toNat = (putN n).getD 0 0 := by
      have e := congrArg (fun l : List UInt8 => (l.getD 0 0).toNat) h3
      match b, hl with
      | b0 :: l, hl =>
      simp only [List.take_succ_cons, List.getD_cons_zero] at e ⊢
      rw [← e, putU, if_pos hcp, Int.toNat_natCast]
      have hlt := putN_lt g1
      cases hp : putN n with
      | nil => rw [hp] at hlen; simp at hlen
      | cons x xs =>
        have := hlt x (by rw [hp]; simp)
        simp only [List.map_cons, List.getD_cons_zero, UInt8.toNat_ofNat']
        rw [Nat.mod_eq_of_lt (by omega)]
    exfalso
    apply h
    rw [h0]
    have key : i = 0 ∨ i = 1 ∨ i = 2 ∨ i = 3 := by omega
    unfold putN at hlen ⊢
    split at hlen
    · rename_i hn
      rw [if_pos hn]
      rcases key with rfl | rfl | rfl | rfl <;> simp at hlen
      simp [szRest, szMark]; omega
    · rename_i hn
      rw [if_neg hn]
      split at hlen
      · rename_i hn2
        rw [if_pos hn2]
        rcases key with rfl | rfl | rfl | rfl <;> simp at hlen
        simp [szRest, szMark]; omega
      · rename_i hn2
        rw [if_neg hn2]
        split at hlen
        · rename_i hn3
          rw [if_pos hn3]
          rcases key with rfl | rfl | rfl | rfl <;> simp at hlen
          simp [szRest, szMark]; omega
        · rename_i hn3
          rw [if_neg hn3]
          rcases key with rfl | rfl | rfl | rfl <;> simp at hlen
          simp [szRest, szMark]; omega
end Go.Proofs.YtbepihadhmfklaaGreatDoor

namespace Go.Proofs.YtbepihadhmfklaaGreatDoor
open Go Go.Ab

theorem sh6l {a : Nat} (h : a < 16777216) : shOp .shl .i64 (a : Int) 6 = some (True, .int .i64 ((a * 64 : Nat) : Int)) := by
  show some ((0 : Int) ≤ 6 ∧ (6 : Int) ≤ IntKind.i64.bits, AV.int .i64 (IntKind.i64.wrap ((a : Int) * 2 ^ (6 : Int).toNat))) = _
  have h1 : ((0 : Int) ≤ 6 ∧ (6 : Int) ≤ IntKind.i64.bits) = True := by simp [IntKind.bits]
  have h2 : IntKind.i64.wrap ((a : Int) * 2 ^ (6 : Int).toNat) = ((a * 64 : Nat) : Int) := by
    rw [show (2 : Int) ^ (6 : Int).toNat = 64 from rfl, IntKind.wrap_i64]; omega
  rw [h1, h2]
theorem decF_lt {i : Nat} {b : List UInt8} (hi : i < 4) : ∀ j, j ≤ 3 → decF i b j < 128 * 64 ^ j
  | 0, _ => by
    have key : i = 0 ∨ i = 1 ∨ i = 2 ∨ i = 3 := by omega
    rcases key with rfl | rfl | rfl | rfl <;> simp only [decF, szRest, List.getD_cons_zero, List.getD_cons_succ] <;> omega
  | j + 1, h => by
    have := decF_lt (b := b) hi j (by omega)
    simp only [decF, Nat.pow_succ]
    omega
theorem decF_lt3 {i : Nat} {b : List UInt8} (hi : i < 4) {j : Nat} (hj : j < 3) : decF i b j < 16777216 := by
  have h := decF_lt (b := b) hi j (by omega)
  have : 64 ^ j ≤ 64 ^ 2 := Nat.pow_le_pow_right (by omega) (by omega)
  omega
set_option maxHeartbeats 4000000 in
theorem fs_takeU {Gl : Gh → Prop} (hst : Stays Gl) {b : List UInt8} {tb : Option Nm} (hb : b.length ≤ maxLen) : FS Tryz.prog Gl 133 [.sl tb 1 (bytesAV b)] [] [] (.tup [.int .i64 (takeZ b).1, .int .i64 (takeZ b).2]) [] [] := by
  refine FS.of hm hst is_utfTake (by simp) fun γ hγ hfr => ?_
  (generalize hQ : (fun (ex : Ex) (_ _ : Nat) (s : St) => _) = Q; unfold ir_utfTake)
  simp +contextual (maxSteps := 1000000) only [go_sem, reduceCtorEq, ↓reduceIte, Nat.reduceAdd, Nat.reduceEqDiff, Nat.reduceLeDiff, Nat.reduceMul, Nat.reduceBEq, Int.reduceBEq, Int.reduceBNe, Int.reduceLT, Int.reduceLE, Int.reduceGT, Int.reduceGE, Int.reduceToNat]
  (refine CallP.pure (fs_sizes hst) (fun _ => rfl) ?_; simp +contextual (maxSteps := 1000000) only [go_sem, reduceCtorEq, ↓reduceIte, Nat.reduceAdd, Nat.reduceEqDiff, Nat.reduceLeDiff, Nat.reduceMul, Nat.reduceBEq, Int.reduceBEq, Int.reduceBNe, Int.reduceLT, Int.reduceLE, Int.reduceGT, Int.reduceGE, Int.reduceToNat])
  refine kLoop_ix (fun i : Nat => ⟨lf [(0, .sl tb 1 (bytesAV b)), (9, .agg szsAV), (10, .int .i64 (i : Int))], [], fun x => x ∈ []⟩) (fun i => i ≤ 4 ∧ ∀ m, 1 ≤ m → m ≤ i → tryU b m = none) (fun i => 4 - i) 0 0 ?_ ⟨by omega, fun m h1 h2 => by omega⟩ ?_
  · refine Wk.same ?_
    (simp only [lfOK, upd, initF]; repeat' first | exact AVle.refl _ _ | exact trivial | refine And.intro ?_ ?_ | exact AVle.int (by simp only [IntKind.wrap_i64]; omega))
  · rintro γ' i hf ⟨hi, hn⟩
    generalize hQ' : kIt _ _ _ _ _ = Q'
    unfold ir_utfTake_l1
    have hnext : tryU b (i + 1) = none → ∀ m, 1 ≤ m → m ≤ i + 1 → tryU b m = none := fun h m h1 h2 => by
      by_cases hm : m = i + 1
      · subst hm; exact h
      · exact hn m h1 (by omega)
    by_cases h4 : i < 4
    · have hd : decide ((i : Int) < 4) = true := by simp; omega
      have key : i = 0 ∨ i = 1 ∨ i = 2 ∨ i = 3 := by omega
      have hx : List.take 4 (List.drop (i * 4) szsAV) = [.int .i64 ((i + 1 : Nat) : Int), .int .i64 (szMost i : Int), .int .u8 (szMark i : Int), .int .u8 (szRest i : Int)] := by
        rcases key with rfl | rfl | rfl | rfl <;> rfl
      have hl : 4 ≤ (List.drop (i * 4) szsAV).length := by
        rcases key with rfl | rfl | rfl | rfl <;> decide
      by_cases hlen : i + 1 ≤ b.length
      · have hd2 : decide ((b.length : Int) < ((i + 1 : Nat) : Int)) = false := by simp; omega
        have hget : (bytesAV b).getD 0 [] = [.int .u8 ((b.getD 0 0).toNat : Int)] := by
          cases b with
          | nil => simp at hlen
          | cons c l => rfl
        have hand := andN ⟨i, h4⟩ ⟨(b.getD 0 0).toNat, (b.getD 0 0).toNat_lt⟩
        have hanr := andR ⟨i, h4⟩ ⟨(b.getD 0 0).toNat, (b.getD 0 0).toNat_lt⟩
        simp only at hand hanr
        by_cases hfirst : (b.getD 0 0).toNat - (b.getD 0 0).toNat % (szRest i + 1) = szMark i
        · have hne : (((((b.getD 0 0).toNat - (b.getD 0 0).toNat % (szRest i + 1) : Nat) : Int)) != (szMark i : Int)) = false := by simp only [bne_eq_false_iff_eq]; omega
          have hll : ((b.take (i + 1)).drop 1).length = i := by simp; omega
          have hw0 : IntKind.i64.wrap (((b.getD 0 0).toNat % (szRest i + 1) : Nat) : Int) = ((decF i b 0 : Nat) : Int) := by
            have := (b.getD 0 0).toNat_lt
            have h2 : (b.getD 0 0).toNat % (szRest i + 1) ≤ (b.getD 0 0).toNat := Nat.mod_le _ _
            rw [IntKind.wrap_i64]; simp only [decF]; omega
          simp +contextual (maxSteps := 1000000) only [hd, hd2, hx, hl, hget, hand, hanr, hne, Int.toNat_natCast, bytesAV_length', bytesAV_take, bytesAV_drop, hll, hw0, go_sem, reduceCtorEq, ↓reduceIte, Nat.reduceAdd, Nat.reduceEqDiff, Nat.reduceLeDiff, Nat.reduceMul, Nat.reduceBEq, Int.reduceBEq, Int.reduceBNe, Int.reduceLT, Int.reduceLE, Int.reduceGT, Int.reduceGE, Int.reduceToNat]
          refine ⟨⟨by omega, by omega⟩, by omega, by omega, ⟨by omega, by omega, by omega, by omega⟩, ?_⟩
          refine kLoop_ix (fun j : Nat => ⟨lf [(0, .sl tb 1 (bytesAV b)), (5, .ptr (γ', 2, 0) 0), (6, .int .i64 ((decF i b j : Nat) : Int)), (9, .agg szsAV), (10, .int .i64 (i : Int)), (39, .sl none 1 (bytesAV ((b.take (i + 1)).drop 1))), (40, .int .i64 (i : Int)), (41, .int .i64 (j : Int))], [((γ', 2, 0), .cells [.int .i64 ((i + 1 : Nat) : Int), .int .i64 (szMost i : Int), .int .u8 (szMark i : Int), .int .u8 (szRest i : Int)])], fun x => x ∈ []⟩) (fun j => j ≤ i) (fun j => i - j) 0 0 ?_ (Nat.zero_le _) ?_
          · refine Wk.same ?_
            (simp only [lfOK, upd, initF]; repeat' first | exact AVle.refl _ _ | exact trivial | refine And.intro ?_ ?_ | exact AVle.int (by simp only [IntKind.wrap_i64]; omega))
          · rintro γ'' j hf2 hj
            generalize hQ2 : kIt _ _ _ _ _ = Q2
            unfold ir_utfTake_l0
            by_cases hij : j < i
            · have hd3 : decide ((j : Int) < (i : Int)) = true := by simp; omega
              have hg1 : (bytesAV ((b.take (i + 1)).drop 1)).getD j [] = [.int .u8 ((b.getD (j + 1) 0).toNat : Int)] := by
                rw [bb_get (by omega)]
                congr 3
                rw [List.getD_eq_getElem?_getD, List.getElem?_eq_getElem (by omega)]
                simp [Nat.add_comm]
              have hc := (b.getD (j + 1) 0).toNat_lt
              have hba : bits .and .u8 ((b.getD (j + 1) 0).toNat : Int) 63 = (((b.getD (j + 1) 0).toNat % 64 : Nat) : Int) := by
                have := and_low hc 6 (by omega)
                simpa using this
              have hw1 : IntKind.i64.wrap (((b.getD (j + 1) 0).toNat % 64 : Nat) : Int) = (((b.getD (j + 1) 0).toNat % 64 : Nat) : Int) := by rw [IntKind.wrap_i64]; omega
              have hfl := decF_lt3 (b := b) h4 (j := j) (by omega)
              have hsh := sh6l hfl
              have hor := or_shift (a := decF i b j) (b := (b.getD (j + 1) 0).toNat % 64) (by omega) hfl
              simp +contextual (maxSteps := 1000000) only [hd3, hg1, hba, hw1, hsh, hor, Int.toNat_natCast, bytesAV_length', hll, go_sem, reduceCtorEq, ↓reduceIte, Nat.reduceAdd, Nat.reduceEqDiff, Nat.reduceLeDiff, Nat.reduceMul, Nat.reduceBEq, Int.reduceBEq, Int.reduceBNe, Int.reduceLT, Int.reduceLE, Int.reduceGT, Int.reduceGE, Int.reduceToNat]
              refine ⟨⟨by omega, by omega⟩, ?_⟩
              rw [← hQ2]
              simp only [w_kIt_n]
              refine ⟨0, j + 1, Wk.same ?_, by omega, by omega⟩
              repeat' first | exact AVle.refl _ _ | exact trivial | refine And.intro ?_ ?_ | exact AVle.int (by simp only [IntKind.wrap_i64]; omega)
            · have hd3 : decide ((j : Int) < (i : Int)) = false := by simp; omega
              have hji : j = i := by omega
              subst hji
              simp +contextual (maxSteps := 1000000) only [hd3, go_sem, reduceCtorEq, ↓reduceIte, Nat.reduceAdd, Nat.reduceEqDiff, Nat.reduceLeDiff, Nat.reduceMul, Nat.reduceBEq, Int.reduceBEq, Int.reduceBNe, Int.reduceLT, Int.reduceLE, Int.reduceGT, Int.reduceGE, Int.reduceToNat]
              rw [← hQ2]
              have hdec := decF_all h4 hlen
              have htk : (List.take (j + 1) b).length = j + 1 := by rw [List.length_take]; omega
              simp +contextual (maxSteps := 1000000) only [go_sem, reduceCtorEq, ↓reduceIte, Nat.reduceAdd, Nat.reduceEqDiff, Nat.reduceLeDiff, Nat.reduceMul, Nat.reduceBEq, Int.reduceBEq, Int.reduceBNe, Int.reduceLT, Int.reduceLE, Int.reduceGT, Int.reduceGE, Int.reduceToNat]
              refine DCall.new (fs_putU hst) ?_
              simp +contextual (maxSteps := 1000000) only [Int.toNat_natCast, bytesAV_length', bytesAV_take, go_sem, reduceCtorEq, ↓reduceIte, Nat.reduceAdd, Nat.reduceEqDiff, Nat.reduceLeDiff, Nat.reduceMul, Nat.reduceBEq, Int.reduceBEq, Int.reduceBNe, Int.reduceLT, Int.reduceLE, Int.reduceGT, Int.reduceGE, Int.reduceToNat]
              have hpl := putU_len ((decF j b j : Nat) : Int)
              refine ⟨⟨by omega, by omega⟩, DCall.new (fs_EqualBytes (ta := none) (tb := none) hst (by omega) (by omega)) ?_⟩
              simp +contextual (maxSteps := 1000000) only [go_sem, reduceCtorEq, ↓reduceIte, Nat.reduceAdd, Nat.reduceEqDiff, Nat.reduceLeDiff, Nat.reduceMul, Nat.reduceBEq, Int.reduceBEq, Int.reduceBNe, Int.reduceLT, Int.reduceLE, Int.reduceGT, Int.reduceGE, Int.reduceToNat]
              have htry : tryU b (j + 1) = if putU ((decF j b j : Nat) : Int) = List.take (j + 1) b then some (((decF j b j : Nat) : Int), j + 1) else none := by
                rw [tryU, ← hdec]
                by_cases h : putU ((decF j b j : Nat) : Int) = List.take (j + 1) b
                · rw [if_pos ⟨hlen, h⟩, if_pos h]
                · rw [if_neg (fun hh => h hh.2), if_neg h]
              by_cases he : putU ((decF j b j : Nat) : Int) = List.take (j + 1) b
              · rw [if_pos he] at htry
                have hz : takeZ b = (((decF j b j : Nat) : Int), ((j + 1 : Nat) : Int)) := by
                  rw [takeZ, takeU_first (n := j + 1) (fun m h1 h2 => hn m h1 (by omega)) (by omega) (by omega) htry]
                have hde : decide (putU ((decF j b j : Nat) : Int) = List.take (j + 1) b) = true := by simp [he]
                simp +contextual (maxSteps := 1000000) only [hde, go_sem, reduceCtorEq, ↓reduceIte, Nat.reduceAdd, Nat.reduceEqDiff, Nat.reduceLeDiff, Nat.reduceMul, Nat.reduceBEq, Int.reduceBEq, Int.reduceBNe, Int.reduceLT, Int.reduceLE, Int.reduceGT, Int.reduceGE, Int.reduceToNat]
                rw [← hQ']
                simp only [w_kIt_r, w_kBlk_r, w_kSeq_r]
                rw [← hQ, hz]
                exact ⟨trivial, Ret.flat2⟩
              · rw [if_neg he] at htry
                have hde : decide (putU ((decF j b j : Nat) : Int) = List.take (j + 1) b) = false := by simp [he]
                simp +contextual (maxSteps := 1000000) only [hde, go_sem, reduceCtorEq, ↓reduceIte, Nat.reduceAdd, Nat.reduceEqDiff, Nat.reduceLeDiff, Nat.reduceMul, Nat.reduceBEq, Int.reduceBEq, Int.reduceBNe, Int.reduceLT, Int.reduceLE, Int.reduceGT, Int.reduceGE, Int.reduceToNat]
                rw [← hQ']
                simp only [w_kIt_n]
                refine ⟨0, j + 1, Wk.perm ?_ (fun p hp => by cases hp), ⟨by omega, hnext htry⟩, by omega⟩
                repeat' first | exact AVle.refl _ _ | exact trivial | refine And.intro ?_ ?_ | exact AVle.int (by simp only [IntKind.wrap_i64]; omega)
        · have hne : (((((b.getD 0 0).toNat - (b.getD 0 0).toNat % (szRest i + 1) : Nat) : Int)) != (szMark i : Int)) = true := by simp only [bne_iff_ne, ne_eq]; omega
          simp +contextual (maxSteps := 1000000) only [hd, hd2, hx, hl, hget, hand, hne, Int.toNat_natCast, bytesAV_length', go_sem, reduceCtorEq, ↓reduceIte, Nat.reduceAdd, Nat.reduceEqDiff, Nat.reduceLeDiff, Nat.reduceMul, Nat.reduceBEq, Int.reduceBEq, Int.reduceBNe, Int.reduceLT, Int.reduceLE, Int.reduceGT, Int.reduceGE, Int.reduceToNat]
          refine ⟨⟨by omega, by omega⟩, by omega, ?_⟩
          rw [← hQ']
          simp only [w_kIt_n]
          refine ⟨0, i + 1, Wk.perm ?_ (fun p hp => by cases hp), ⟨by omega, hnext (try_first h4 hlen hfirst)⟩, by omega⟩
          repeat' first | exact AVle.refl _ _ | exact trivial | refine And.intro ?_ ?_ | exact AVle.int (by simp only [IntKind.wrap_i64]; omega)
      · have hd2 : decide ((b.length : Int) < ((i + 1 : Nat) : Int)) = true := by simp; omega
        simp +contextual (maxSteps := 1000000) only [hd, hd2, hx, hl, Int.toNat_natCast, bytesAV_length', go_sem, reduceCtorEq, ↓reduceIte, Nat.reduceAdd, Nat.reduceEqDiff, Nat.reduceLeDiff, Nat.reduceMul, Nat.reduceBEq, Int.reduceBEq, Int.reduceBNe, Int.reduceLT, Int.reduceLE, Int.reduceGT, Int.reduceGE, Int.reduceToNat]
        refine ⟨⟨by omega, by omega⟩, ?_⟩
        rw [← hQ']
        simp only [w_kIt_n]
        refine ⟨0, i + 1, Wk.perm ?_ (fun p hp => by cases hp), ⟨by omega, hnext (tryU_long (by omega))⟩, by omega⟩
        repeat' first | exact AVle.refl _ _ | exact trivial | refine And.intro ?_ ?_ | exact AVle.int (by simp only [IntKind.wrap_i64]; omega)
    · have hd : decide ((i : Int) < 4) = false := by simp; omega
      simp +contextual (maxSteps := 1000000) only [hd, go_sem, reduceCtorEq, ↓reduceIte, Nat.reduceAdd, Nat.reduceEqDiff, Nat.reduceLeDiff, Nat.reduceMul, Nat.reduceBEq, Int.reduceBEq, Int.reduceBNe, Int.reduceLT, Int.reduceLE, Int.reduceGT, Int.reduceGE, Int.reduceToNat]
      rw [← hQ']
      simp only [w_kIt_e, w_kBlk_e, ↓reduceIte]
      simp +contextual (maxSteps := 1000000) only [go_sem, reduceCtorEq, ↓reduceIte, Nat.reduceAdd, Nat.reduceEqDiff, Nat.reduceLeDiff, Nat.reduceMul, Nat.reduceBEq, Int.reduceBEq, Int.reduceBNe, Int.reduceLT, Int.reduceLE, Int.reduceGT, Int.reduceGE, Int.reduceToNat]
      have hz : takeZ b = (0, 0) := by rw [takeZ, takeU_none fun m h1 h2 => hn m h1 (by omega)]
      rw [← hQ, hz]
      exact ⟨trivial, Ret.flat2⟩
end Go.Proofs.YtbepihadhmfklaaGreatDoor

namespace Go.Proofs.YtbepihadhmfklaaGreatDoor
open Go Go.Ab
/- clavier/clavierref02.All -/
def ir_clavierref02All_l0 : ICode :=
 (.seq
 (.seq
 (.reg [⟨some 8, none, .mov (.t 5)⟩,
 ⟨some 9, none, .mov (.t 0)⟩,
 ⟨some 10, none, .len (.t 9)⟩,
 ⟨some 11, none, .bin .lss .none (.t 8) (.t 10)⟩] (some [0, 4, 5, 11]))
 (.cond (.t 11)
 .skip
 (.exit 0)))
 (.blk 1
 (.seq
 (.reg [⟨some 13, none, .mov (.t 0)⟩,
 ⟨some 14, none, .mov (.t 5)⟩,
 ⟨some 15, none, .sll 1 (.t 13) (some (.t 14)) none none⟩,
 ⟨some 16, none, .call (.c (.fn (.func 117) [] [])) [(.t 15)]⟩,
 ⟨some 12, none, .mov (.t 16)⟩,
 ⟨some 17, none, .ext (.t 12) 0⟩,
 ⟨some 18, none, .ext (.t 12) 1⟩,
 ⟨some 6, none, .mov (.t 17)⟩,
 ⟨some 7, none, .mov (.t 18)⟩] (some [0, 4, 5, 6, 7]))
 (.seq
 (.seq
 (.reg [⟨some 19, none, .mov (.t 7)⟩,
 ⟨some 20, none, .bin .eql .none (.t 19) (.c (.int .i64 0))⟩] (some [0, 4, 5, 6, 7, 20]))
 (.cond (.t 20)
 (.seq
 (.reg [⟨some 2, none, .mov (.c .nils)⟩,
 ⟨some 3, none, .mov (.c (.bool false))⟩] (some [2, 3]))
 .ret)
 .skip))
 (.seq
 (.reg [⟨some 21, none, .mov (.t 4)⟩,
 ⟨some 22, none, .mov (.t 6)⟩,
 ⟨some 23, none, .row 3 1 [(.t 22)]⟩,
 ⟨some 24, none, .app 3 1 8 (.t 21) (.t 23)⟩,
 ⟨some 4, none, .mov (.t 24)⟩] (some [0, 4, 5, 7]))
 (.reg [⟨some 25, none, .mov (.t 5)⟩,
 ⟨some 26, none, .mov (.t 7)⟩,
 ⟨some 27, none, .bin .add .none (.t 25) (.t 26)⟩,
 ⟨some 5, none, .mov (.t 27)⟩] (some [0, 4, 5])))))))
def ir_clavierref02All : ICode :=
 (.seq
 (.reg [⟨some 2, none, .mov (.c .nils)⟩,
 ⟨some 3, none, .mov (.c (.bool false))⟩] (some [0]))
 (.seq
 (.reg [⟨some 4, none, .mov (.c .nils)⟩] (some [0, 4]))
 (.seq
 (.seq
 (.reg [⟨some 5, none, .mov (.c (.int .i64 0))⟩] (some [0, 4, 5]))
 (.blk 0
 (.loop
 ir_clavierref02All_l0)))
 (.seq
 (.reg [⟨some 28, none, .mov (.t 4)⟩,
 ⟨some 2, none, .mov (.t 28)⟩,
 ⟨some 3, none, .mov (.c (.bool true))⟩] (some [2, 3]))
 .ret))))
theorem is_clavierref02All : IrOf Tryz.prog 81 29 ir_clavierref02All [.t 2, .t 3] := ⟨_, Tryz.func81, rfl, by kernel_rfl, by kernel_rfl, by kernel_rfl⟩

theorem RepLe.tup {xs ys : List AV} (h : LeL xs ys) : RepLe (.tup xs) (.tup ys) := fun g v ⟨vs, e, k⟩ => ⟨vs, e, h.rep k⟩
def allV (b : List UInt8) : List Int × Bool := match allU b with
  | some l => (l, true)
  | none => ([], false)
def allW (b : List UInt8) : AV := .tup [.sl none 1 (intsAV (allV b).1), .bool (allV b).2]
theorem takeZ_none {b : List UInt8} (h : takeU b = none) : takeZ b = (0, 0) := by rw [takeZ, h]
theorem takeZ_some {b : List UInt8} {r : Int} {n : Nat} (h : takeU b = some (r, n)) : takeZ b = (r, (n : Int)) := by rw [takeZ, h]
theorem intsAV_snoc (l : List Int) (r : Int) : intsAV (l ++ [r]) = intsAV l ++ [[.int .i64 r]] := by simp [intsAV]
set_option maxHeartbeats 4000000 in
theorem fs_rAllU {Gl : Gh → Prop} (hst : Stays Gl) {b : List UInt8} {tb : Option Nm} (hb : b.length ≤ 1000000000000) : FS Tryz.prog Gl 81 [.sl tb 1 (bytesAV b)] [] [] (allW b) [] [] := by
  refine FS.ofW hm hst is_clavierref02All rfl (by simp) fun γ hγ hfr => ?_
  (generalize hQ : (fun (ex : Ex) (_ _ : Nat) (s : St) => _) = Q; unfold ir_clavierref02All)
  simp +contextual (maxSteps := 1000000) only [go_sem, reduceCtorEq, ↓reduceIte, Nat.reduceAdd, Nat.reduceEqDiff, Nat.reduceLeDiff, Nat.reduceMul, Nat.reduceBEq, Int.reduceBEq, Int.reduceBNe, Int.reduceLT, Int.reduceLE, Int.reduceGT, Int.reduceGE, Int.reduceToNat]
  refine kLoop_ix (fun q : Nat × List Int × Option Nm => ⟨lf [(0, .sl tb 1 (bytesAV b)), (4, sv q.2.2 1 (intsAV q.2.1)), (5, .int .i64 (q.1 : Int))], [], fun x => q.2.2 = some x⟩)
    (fun q => q.1 ≤ b.length ∧ q.2.1.length ≤ q.1 ∧ (q.2.2 = none → q.2.1 = []) ∧ allU b = (allU (b.drop q.1)).map (q.2.1 ++ ·)) (fun q => b.length - q.1) 0 (0, [], none) ?_ ⟨by omega, by simp, by simp, by simp⟩ ?_
  · refine Wk.perm' ?_ (fun p hp => by cases hp) (fun t ht => by cases ht)
    simp only [lfOK, upd]
    repeat' first | exact AVle.refl _ _ | exact trivial | refine And.intro ?_ ?_ | exact AVle.int (by simp only [IntKind.wrap_i64]; omega)
  · rintro γ' ⟨i, acc, tk⟩ hf ⟨hi, hal, htk, hall⟩
    simp only at hi hal htk hall
    generalize hQ' : kIt _ _ _ _ _ = Q'
    unfold ir_clavierref02All_l0
    by_cases hlt : i < b.length
    · have hd : decide ((i : Int) < (b.length : Int)) = true := by simp; omega
      have hne : b.drop i ≠ [] := by intro e; have := congrArg List.length e; simp at this; omega
      simp +contextual (maxSteps := 1000000) only [hd, bytesAV_length', bytesAV_take, bytesAV_drop, List.take_length, Int.toNat_natCast, go_sem, reduceCtorEq, ↓reduceIte, Nat.reduceAdd, Nat.reduceEqDiff, Nat.reduceLeDiff, Nat.reduceMul, Nat.reduceBEq, Int.reduceBEq, Int.reduceBNe, Int.reduceLT, Int.reduceLE, Int.reduceGT, Int.reduceGE, Int.reduceToNat]
      refine ⟨⟨by omega, by omega⟩, ?_⟩
      have c1 := fs_rTakeU (tb := none) (b := b.drop i) hst (by simp only [List.length_drop, maxLen]; omega)
      cases htu : takeU (b.drop i) with
      | none =>
        rw [takeZ_none htu] at c1
        (refine CallP.pure (c1) (fun _ => rfl) ?_; simp +contextual (maxSteps := 1000000) only [go_sem, reduceCtorEq, ↓reduceIte, Nat.reduceAdd, Nat.reduceEqDiff, Nat.reduceLeDiff, Nat.reduceMul, Nat.reduceBEq, Int.reduceBEq, Int.reduceBNe, Int.reduceLT, Int.reduceLE, Int.reduceGT, Int.reduceGE, Int.reduceToNat])
        rw [← hQ']
        simp only [w_kIt_r, w_kBlk_r, w_kSeq_r]
        have hz : allW b = .tup [.sl none 1 [], .bool false] := by
          rw [allW, allV, hall, allU_none hne htu]; rfl
        rw [← hQ, hz]
        exact ⟨trivial, .inl ⟨_, rfl, RepLe.tup ⟨RepLe.nils 1, RepLe.refl _, trivial⟩⟩⟩
      | some x =>
        obtain ⟨r, n⟩ := x
        obtain ⟨h1, h4, hnl, _⟩ := takeU_of htu
        rw [List.length_drop] at hnl
        rw [takeZ_some htu] at c1
        have hn0 : ((n : Int) == 0) = false := by simp; omega
        have hstep : allU b = (allU (b.drop (i + n))).map ((acc ++ [r]) ++ ·) := by
          rw [hall, allU_some hne htu, List.drop_drop, Option.map_map]
          congr 1
          funext l
          simp
        have hial : (intsAV acc).length = acc.length := by simp [intsAV]
        cases tk with
        | none =>
          obtain rfl := htk rfl
          (refine CallP.pure (c1) (fun _ => rfl) ?_; simp +contextual (maxSteps := 1000000) only [hn0, go_sem, reduceCtorEq, ↓reduceIte, Nat.reduceAdd, Nat.reduceEqDiff, Nat.reduceLeDiff, Nat.reduceMul, Nat.reduceBEq, Int.reduceBEq, Int.reduceBNe, Int.reduceLT, Int.reduceLE, Int.reduceGT, Int.reduceGE, Int.reduceToNat])
          rw [← hQ']
          simp only [w_kIt_n]
          refine ⟨0, (i + n, [r], some (γ', 18, 0)), Wk.perm' ?_ (fun p hp => by cases hp) ?_, ⟨by simp only; omega, by simp; omega, by simp, hstep⟩, by simp only; omega⟩
          · simp only [sv_some, intsAV, List.map_cons, List.map_nil]
            repeat' first | exact AVle.refl _ _ | exact trivial | refine And.intro ?_ ?_ | exact AVle.int (by simp only [IntKind.wrap_i64]; omega)
          · intro t ht
            cases ht
            exact .inl rfl
        | some t0 =>
          (refine CallP.pure (c1) (fun _ => rfl) ?_; simp +contextual (maxSteps := 1000000) only [hn0, go_sem, reduceCtorEq, ↓reduceIte, Nat.reduceAdd, Nat.reduceEqDiff, Nat.reduceLeDiff, Nat.reduceMul, Nat.reduceBEq, Int.reduceBEq, Int.reduceBNe, Int.reduceLT, Int.reduceLE, Int.reduceGT, Int.reduceGE, Int.reduceToNat])
          refine ⟨⟨.inr trivial, by omega⟩, ?_⟩
          rw [← hQ']
          simp only [w_kIt_n]
          refine ⟨0, (i + n, acc ++ [r], some (γ', 18, 0)), Wk.perm' ?_ (fun p hp => by cases hp) ?_, ⟨by simp only; omega, by simp; omega, by simp, hstep⟩, by simp only; omega⟩
          · simp only [sv_some, intsAV_snoc]
            repeat' first | exact AVle.refl _ _ | exact trivial | refine And.intro ?_ ?_ | exact AVle.int (by simp only [IntKind.wrap_i64]; omega)
          · intro t ht
            cases ht
            exact .inl rfl
    · have hd : decide ((i : Int) < (b.length : Int)) = false := by simp; omega
      simp +contextual (maxSteps := 1000000) only [hd, bytesAV_length', go_sem, reduceCtorEq, ↓reduceIte, Nat.reduceAdd, Nat.reduceEqDiff, Nat.reduceLeDiff, Nat.reduceMul, Nat.reduceBEq, Int.reduceBEq, Int.reduceBNe, Int.reduceLT, Int.reduceLE, Int.reduceGT, Int.reduceGE, Int.reduceToNat]
      rw [← hQ']
      simp only [w_kIt_e, w_kBlk_e, ↓reduceIte]
      simp +contextual (maxSteps := 1000000) only [go_sem, reduceCtorEq, ↓reduceIte, Nat.reduceAdd, Nat.reduceEqDiff, Nat.reduceLeDiff, Nat.reduceMul, Nat.reduceBEq, Int.reduceBEq, Int.reduceBNe, Int.reduceLT, Int.reduceLE, Int.reduceGT, Int.reduceGE, Int.reduceToNat]
      have hz : allW b = .tup [.sl none 1 (intsAV acc), .bool true] := by
        rw [allW, allV, hall, List.drop_of_length_le (by omega), allU_nil]; simp
      rw [← hQ, hz]
      refine ⟨trivial, .inl ⟨_, rfl, RepLe.tup ⟨?_, RepLe.refl _, trivial⟩⟩⟩
      cases tk with
      | none => rw [htk rfl]; exact RepLe.nils 1
      | some t0 => exact RepLe.anon _ _ _
end Go.Proofs.YtbepihadhmfklaaGreatDoor

namespace Go.Proofs.YtbepihadhmfklaaGreatDoor
open Go Go.Ab
/- clavier/utf.points$1 -/
def ir_utfpoints1_l0 : ICode :=
 (.seq
 (.seq
 (.reg [⟨some 5, none, .ld none (.t 1)⟩,
 ⟨some 6, none, .len (.t 5)⟩,
 ⟨some 7, none, .bin .gtr .none (.t 6) (.c (.int .i64 0))⟩] (some [0, 1, 7]))
 (.cond (.t 7)
 .skip
 (.exit 0)))
 (.blk 1
 (.seq
 (.reg [⟨some 9, none, .ld none (.t 1)⟩,
 ⟨some 10, none, .call (.c (.fn (.func 133) [] [])) [(.t 9)]⟩,
 ⟨some 8, none, .mov (.t 10)⟩,
 ⟨some 11, none, .ext (.t 8) 0⟩,
 ⟨some 12, none, .ext (.t 8) 1⟩,
 ⟨some 3, none, .mov (.t 11)⟩,
 ⟨some 4, none, .mov (.t 12)⟩] (some [0, 1, 3, 4]))
 (.seq
 (.seq
 (.reg [⟨some 13, none, .mov (.t 0)⟩,
 ⟨some 14, none, .mov (.t 3)⟩,
 ⟨some 15, none, .mov (.t 4)⟩,
 ⟨some 16, none, .bin .gtr .none (.t 15) (.c (.int .i64 0))⟩,
 ⟨some 17, none, .call (.t 13) [(.t 14), (.t 16)]⟩,
 ⟨some 18, none, .un .not (.t 17)⟩,
 ⟨some 19, none, .mov (.t 18)⟩,
 ⟨some 20, some (19, false), .mov (.t 4)⟩,
 ⟨some 21, some (19, false), .bin .eql .none (.t 20) (.c (.int .i64 0))⟩,
 ⟨some 22, none, .pick (.t 19) (.c (.bool true)) (.t 21)⟩] (some [0, 1, 4, 22]))
 (.cond (.t 22)
 .ret
 .skip))
 (.reg [⟨some 23, none, .ld none (.t 1)⟩,
 ⟨some 24, none, .mov (.t 4)⟩,
 ⟨some 25, none, .sll 1 (.t 23) (some (.t 24)) none none⟩,
 ⟨none, none, .st 1 (.t 1) (.t 25)⟩] (some [0, 1]))))))
def ir_utfpoints1 : ICode :=
 (.blk 0
 (.loop
 ir_utfpoints1_l0))
theorem is_utfpoints1 : IrOf Tryz.prog 132 26 ir_utfpoints1 [] := ⟨_, Tryz.func132, rfl, by kernel_rfl, by kernel_rfl, by kernel_rfl⟩

def ir_utfpoints : ICode :=
 (.seq
 (.reg [⟨some 1, none, .box 27 (.t 0)⟩,
 ⟨some 2, none, .mov (.c .nilf)⟩] (some [1]))
 (.seq
 (.reg [⟨some 3, none, .mkf (.func 132) [] [(.t 1)]⟩,
 ⟨some 2, none, .mov (.t 3)⟩] (some [2]))
 .ret))
theorem is_utfpoints : IrOf Tryz.prog 118 4 ir_utfpoints [.t 2] := ⟨_, Tryz.func118, rfl, by kernel_rfl, by kernel_rfl, by kernel_rfl⟩

/- clavier/utf.All -/
def ir_utfAll_b0 : ICode :=
 (.blk 1
 (.seq
 (.seq
 (.reg [⟨some 11, none, .mov (.t 6)⟩,
 ⟨some 12, none, .un .not (.t 11)⟩] (some [2, 3, 4, 5, 12]))
 (.cond (.t 12)
 (.seq
 (.reg [⟨none, none, .st 1 (.t 2) (.c .nils)⟩,
 ⟨none, none, .st 1 (.t 3) (.c (.bool false))⟩] (some []))
 .ret)
 .skip))
 (.reg [⟨some 13, none, .ld none (.t 4)⟩,
 ⟨some 14, none, .mov (.t 5)⟩,
 ⟨some 15, none, .row 3 1 [(.t 14)]⟩,
 ⟨some 16, none, .app 3 1 8 (.t 13) (.t 15)⟩,
 ⟨none, none, .st 1 (.t 4) (.t 16)⟩] (some []))))
def ir_utfAll : ICode :=
 (.seq
 (.reg [⟨some 2, none, .box 64 (.c .nils)⟩,
 ⟨some 3, none, .box 4 (.c (.bool false))⟩] (some [0, 2, 3]))
 (.seq
 (.reg [⟨some 4, none, .box 64 (.c .nils)⟩] (some [0, 2, 3, 4]))
 (.seq
 (.seq
 (.reg [⟨some 7, none, .mov (.t 0)⟩,
 ⟨some 8, none, .call (.c (.fn (.func 118) [] [])) [(.t 7)]⟩] (some [2, 3, 4, 8]))
 (.blk 0
 (.rgf (.t 8) [9, 10]
 (.seq
 (.reg [⟨some 5, none, .mov (.t 9)⟩] (some [2, 3, 4, 5, 10]))
 (.reg [⟨some 6, none, .mov (.t 10)⟩] (some [2, 3, 4, 5, 6])))
 ir_utfAll_b0)))
 (.seq
 (.reg [⟨some 17, none, .ld none (.t 4)⟩,
 ⟨none, none, .st 1 (.t 2) (.t 17)⟩,
 ⟨none, none, .st 1 (.t 3) (.c (.bool true))⟩] (some [2, 3]))
 .ret))))
theorem is_utfAll : IrOf Tryz.prog 86 18 ir_utfAll [.cell 2 none, .cell 3 none] := ⟨_, Tryz.func86, rfl, by kernel_rfl, by kernel_rfl, by kernel_rfl⟩

def itemsU (b : List UInt8) : List (Int × Bool) :=
  if h : b = [] then []
  else match takeU b with
    | none => [(0, false)]
    | some (r, n) => (r, true) :: itemsU (b.drop (n - 1 + 1))
termination_by b.length
decreasing_by
  have : b.length ≠ 0 := fun e => h (List.length_eq_zero_iff.1 e)
  simp only [List.length_drop]; omega
theorem itemsU_nil : itemsU [] = [] := by rw [itemsU]; simp
theorem itemsU_none {b : List UInt8} (h : b ≠ []) (ht : takeU b = none) : itemsU b = [(0, false)] := by rw [itemsU, dif_neg h, ht]
theorem itemsU_some {b : List UInt8} {r : Int} {n : Nat} (h : b ≠ []) (ht : takeU b = some (r, n)) : itemsU b = (r, true) :: itemsU (b.drop n) := by
  have h1 := (takeU_of ht).1
  rw [itemsU, dif_neg h, ht]
  show (r, true) :: itemsU (b.drop (n - 1 + 1)) = _
  rw [show n - 1 + 1 = n by omega]
def itemAV (p : Int × Bool) : List AV := [.int .i64 p.1, .bool p.2]
theorem it_points {Gl : Gh → Prop} {b : List UInt8} {tb : Option Nm} {a : Nm} (hb : b.length ≤ 1000000000000) :
    IterS Tryz.prog Gl 132 [.ptr a 0] [(a, .cells [.sl none 1 (bytesAV b)])] ((itemsU b).map itemAV) := by
  intro Gl' hst hG id J Jx hJid hround H T hJ
  refine FSX.of hm hst is_utfpoints1 (by simp) fun γ hγ hfr => ?_
  (generalize hQ : (fun (ex : Ex) (_ _ : Nat) (s : St) => _) = Q; unfold ir_utfpoints1)
  simp +contextual (maxSteps := 1000000) only [go_sem, reduceCtorEq, ↓reduceIte, Nat.reduceAdd, Nat.reduceEqDiff, Nat.reduceLeDiff, Nat.reduceMul, Nat.reduceBEq, Int.reduceBEq, Int.reduceBNe, Int.reduceLT, Int.reduceLE, Int.reduceGT, Int.reduceGE, Int.reduceToNat]
  refine kLoop_ix (fun q : Nat × List UInt8 × Hp × Tk => ⟨lf [(0, .yl id), (1, .ptr a 0)], [(a, .cells [.sl none 1 (bytesAV q.2.1)])] ++ q.2.2.1, q.2.2.2⟩)
    (fun q => J q.1 q.2.2.1 q.2.2.2 ∧ q.2.1.length ≤ b.length ∧ ∃ done : List (Int × Bool), done.length = q.1 ∧ itemsU b = done ++ itemsU q.2.1)
    (fun q => q.2.1.length) 0 (0, b, H, T) ?_ ?_ ?_
  · refine Wk.same ?_
    (simp only [lfOK, upd, initF]; repeat' first | exact AVle.refl _ _ | exact trivial | refine And.intro ?_ ?_ | exact AVle.int (by simp only [IntKind.wrap_i64]; omega))
  · exact ⟨hJ, Nat.le_refl _, [], rfl, rfl⟩
  · rintro γ' ⟨j, r, Hj, Tj⟩ hf ⟨hJj, hrl, done, hdone, hsp⟩
    simp only at hJj hrl hdone hsp
    generalize hQ' : kIt _ _ _ _ _ = Q'
    have hap := hJid j Hj Tj hJj
    unfold ir_utfpoints1_l0
    by_cases hr0 : r = []
    · subst hr0
      simp +contextual (maxSteps := 1000000) only [bytesAV_length', go_sem, reduceCtorEq, ↓reduceIte, Nat.reduceAdd, Nat.reduceEqDiff, Nat.reduceLeDiff, Nat.reduceMul, Nat.reduceBEq, Int.reduceBEq, Int.reduceBNe, Int.reduceLT, Int.reduceLE, Int.reduceGT, Int.reduceGE, Int.reduceToNat]
      rw [← hQ']
      simp only [w_kIt_e, w_kBlk_e, ↓reduceIte]
      rw [← hQ]
      rw [itemsU_nil, List.append_nil] at hsp
      refine ⟨trivial, Hj, Tj, .inl ?_, fun p hp => by simp [hp], fun t ht => ht⟩
      rw [List.length_map, hsp, hdone]; exact hJj
    · have hd : decide ((r.length : Int) > 0) = true := by
        have := List.length_pos_iff.2 hr0
        simp; omega
      simp +contextual (maxSteps := 1000000) only [hd, bytesAV_length', go_sem, reduceCtorEq, ↓reduceIte, Nat.reduceAdd, Nat.reduceEqDiff, Nat.reduceLeDiff, Nat.reduceMul, Nat.reduceBEq, Int.reduceBEq, Int.reduceBNe, Int.reduceLT, Int.reduceLE, Int.reduceGT, Int.reduceGE, Int.reduceToNat]
      have c1 := fs_takeU (tb := none) (b := r) hst (by simp only [maxLen]; omega)
      cases htu : takeU r with
      | none =>
        rw [takeZ_none htu] at c1
        rw [itemsU_none hr0 htu] at hsp
        (refine CallP.pure (c1) (fun _ => rfl) ?_; simp +contextual (maxSteps := 1000000) only [go_sem, reduceCtorEq, ↓reduceIte, Nat.reduceAdd, Nat.reduceEqDiff, Nat.reduceLeDiff, Nat.reduceMul, Nat.reduceBEq, Int.reduceBEq, Int.reduceBNe, Int.reduceLT, Int.reduceLE, Int.reduceGT, Int.reduceGE, Int.reduceToNat])
        have hit : ((itemsU b).map itemAV)[j]? = some [.int .i64 0, .bool false] := by
          rw [hsp, ← hdone]; simp [itemAV]
        have hlen : ((itemsU b).map itemAV).length = j + 1 := by rw [hsp]; simp [hdone]
        refine CallY.splitT (Ha := [(a, .cells [.sl none 1 (bytesAV r)])]) (hround j _ Hj Tj hit hJj) (fun p hp q hq => ?_) fun rv H1 T1 hR => ?_
        · simp only [List.mem_cons, List.not_mem_nil, or_false] at hp
          subst hp
          exact hap (a, .cells [.sl none 1 (bytesAV b)]) (by simp) q hq
        · rcases hR with ⟨rfl, hR⟩ | ⟨rfl, hR⟩
          · simp +contextual (maxSteps := 1000000) only [go_sem, reduceCtorEq, ↓reduceIte, Nat.reduceAdd, Nat.reduceEqDiff, Nat.reduceLeDiff, Nat.reduceMul, Nat.reduceBEq, Int.reduceBEq, Int.reduceBNe, Int.reduceLT, Int.reduceLE, Int.reduceGT, Int.reduceGE, Int.reduceToNat]
            rw [← hQ']
            simp only [w_kIt_r, w_kBlk_r, w_kSeq_r]
            rw [← hQ]
            exact ⟨trivial, H1, T1, .inl (by rw [hlen]; exact hR), fun p hp => by simp [hp], fun t ht => ht⟩
          · simp +contextual (maxSteps := 1000000) only [go_sem, reduceCtorEq, ↓reduceIte, Nat.reduceAdd, Nat.reduceEqDiff, Nat.reduceLeDiff, Nat.reduceMul, Nat.reduceBEq, Int.reduceBEq, Int.reduceBNe, Int.reduceLT, Int.reduceLE, Int.reduceGT, Int.reduceGE, Int.reduceToNat]
            rw [← hQ']
            simp only [w_kIt_r, w_kBlk_r, w_kSeq_r]
            rw [← hQ]
            exact ⟨trivial, H1, T1, .inr hR, fun p hp => by simp [hp], fun t ht => ht⟩
      | some x =>
        obtain ⟨c, n⟩ := x
        obtain ⟨h1, h4, hnl, _⟩ := takeU_of htu
        rw [takeZ_some htu] at c1
        rw [itemsU_some hr0 htu] at hsp
        have hd2 : decide ((n : Int) > 0) = true := by simp; omega
        have hn0 : ((n : Int) == 0) = false := by simp; omega
        (refine CallP.pure (c1) (fun _ => rfl) ?_; simp +contextual (maxSteps := 1000000) only [hd2, hn0, go_sem, reduceCtorEq, ↓reduceIte, Nat.reduceAdd, Nat.reduceEqDiff, Nat.reduceLeDiff, Nat.reduceMul, Nat.reduceBEq, Int.reduceBEq, Int.reduceBNe, Int.reduceLT, Int.reduceLE, Int.reduceGT, Int.reduceGE, Int.reduceToNat])
        have hit : ((itemsU b).map itemAV)[j]? = some [.int .i64 c, .bool true] := by
          rw [hsp, ← hdone]; simp [itemAV]
        refine CallY.splitT (Ha := [(a, .cells [.sl none 1 (bytesAV r)])]) (hround j _ Hj Tj hit hJj) (fun p hp q hq => ?_) fun rv H1 T1 hR => ?_
        · simp only [List.mem_cons, List.not_mem_nil, or_false] at hp
          subst hp
          exact hap (a, .cells [.sl none 1 (bytesAV b)]) (by simp) q hq
        · rcases hR with ⟨rfl, hR⟩ | ⟨rfl, hR⟩
          · have hs1 : ∀ hb, setH H1 a hb = H1 := fun hb => setH_ne fun q hq => hJid _ _ _ hR (a, .cells [.sl none 1 (bytesAV b)]) (by simp) q hq
            simp +contextual (maxSteps := 1000000) only [hn0, hs1, bytesAV_length', bytesAV_take, bytesAV_drop, List.take_length, Int.toNat_natCast, go_sem, reduceCtorEq, ↓reduceIte, Nat.reduceAdd, Nat.reduceEqDiff, Nat.reduceLeDiff, Nat.reduceMul, Nat.reduceBEq, Int.reduceBEq, Int.reduceBNe, Int.reduceLT, Int.reduceLE, Int.reduceGT, Int.reduceGE, Int.reduceToNat]
            refine ⟨⟨by omega, by omega⟩, ?_⟩
            rw [← hQ']
            simp only [w_kIt_n]
            refine ⟨0, (j + 1, r.drop n, H1, T1), Wk.same ?_, ⟨hR, by simp only [List.length_drop]; omega, done ++ [(c, true)], by simp [hdone], by rw [hsp]; simp⟩, by simp only [List.length_drop]; have := List.length_pos_iff.2 hr0; omega⟩
            repeat' first | exact AVle.refl _ _ | exact trivial | refine And.intro ?_ ?_ | exact AVle.int (by simp only [IntKind.wrap_i64]; omega)
          · simp +contextual (maxSteps := 1000000) only [go_sem, reduceCtorEq, ↓reduceIte, Nat.reduceAdd, Nat.reduceEqDiff, Nat.reduceLeDiff, Nat.reduceMul, Nat.reduceBEq, Int.reduceBEq, Int.reduceBNe, Int.reduceLT, Int.reduceLE, Int.reduceGT, Int.reduceGE, Int.reduceToNat]
            rw [← hQ']
            simp only [w_kIt_r, w_kBlk_r, w_kSeq_r]
            rw [← hQ]
            exact ⟨trivial, H1, T1, .inr hR, fun p hp => by simp [hp], fun t ht => ht⟩
theorem itemsU_len : ∀ {b : List UInt8}, (itemsU b).length ≤ b.length := by
  intro b
  induction hn : b.length using Nat.strongRecOn generalizing b with
  | ind n ih =>
    by_cases h : b = []
    · subst h; rw [itemsU_nil]; simp
    · have hpos := List.length_pos_iff.2 h
      cases ht : takeU b with
      | none => rw [itemsU_none h ht]; simp; omega
      | some x =>
        obtain ⟨r, m⟩ := x
        obtain ⟨h1, _, h3, _⟩ := takeU_of ht
        have := ih (b.drop m).length (by simp only [List.length_drop]; omega) (b := b.drop m) rfl
        rw [itemsU_some h ht]
        simp only [List.length_cons, List.length_drop] at this ⊢
        omega
theorem fs_points {Gl : Gh → Prop} (hst : Stays Gl) {b : List UInt8} : FS Tryz.prog Gl 118 [.sl none 1 (bytesAV b)] [] [] (.fn (.func 132) [] [.ptr (0, 0, 0) 0]) [((0, 0, 0), .cells [.sl none 1 (bytesAV b)])] [] := by
  refine FS.of hm hst is_utfpoints (by simp) fun γ hγ hfr => ?_
  (generalize hQ : (fun (ex : Ex) (_ _ : Nat) (s : St) => _) = Q; unfold ir_utfpoints)
  simp +contextual (maxSteps := 1000000) only [go_sem, reduceCtorEq, ↓reduceIte, Nat.reduceAdd, Nat.reduceEqDiff]
  rw [← hQ]
  refine ⟨trivial, [(γ, 0, 0)], by simp, by simp, rfl, ?_, by simp, ?_, ?_, by simp⟩
  · simp [rnH, rnN, rnHB, rnL, Ab.rn]
  · simp [AV.okIn, AV.okInL, nmOK]
  · simp [AV.okIn, AV.okInL, nmOK, HB.okIn]
theorem itemsU_all : ∀ {b : List UInt8}, match allU b with
  | some l => itemsU b = l.map fun r => (r, true)
  | none => ∃ l : List Int, itemsU b = l.map (fun r => (r, true)) ++ [(0, false)] := by
  intro b
  induction hn : b.length using Nat.strongRecOn generalizing b with
  | ind n ih =>
    by_cases h : b = []
    · subst h; rw [allU_nil, itemsU_nil]; rfl
    · cases ht : takeU b with
      | none => rw [allU_none h ht, itemsU_none h ht]; exact ⟨[], rfl⟩
      | some x =>
        obtain ⟨r, m⟩ := x
        have h1 := (takeU_of ht).1
        have := ih (b.drop m).length (by have := List.length_pos_iff.2 h; simp only [List.length_drop]; omega) (b := b.drop m) rfl
        rw [allU_some h ht, itemsU_some h ht]
        cases ha : allU (b.drop m) with
        | none =>
          rw [ha] at this
          obtain ⟨l, hl⟩ := this
          exact ⟨r :: l, by rw [hl]; rfl⟩
        | some l =>
          rw [ha] at this
          show _ = List.map _ (r :: l)
          rw [this]; rfl
set_option maxHeartbeats 4000000 in
theorem fs_allU {Gl : Gh → Prop} (hst : Stays Gl) {b : List UInt8} (hb : b.length ≤ 1000000000000) : FS Tryz.prog Gl 86 [.sl none 1 (bytesAV b)] [] [] (allW b) [] [] := by
  refine FS.ofW hm hst is_utfAll rfl (by simp) fun γ hγ hfr => ?_
  (generalize hQ : (fun (ex : Ex) (_ _ : Nat) (s : St) => _) = Q; unfold ir_utfAll)
  simp +contextual (maxSteps := 1000000) only [go_sem, reduceCtorEq, ↓reduceIte, Nat.reduceAdd, Nat.reduceEqDiff, Nat.reduceLeDiff, Nat.reduceMul, Nat.reduceBEq, Int.reduceBEq, Int.reduceBNe, Int.reduceLT, Int.reduceLE, Int.reduceGT, Int.reduceGE, Int.reduceToNat]
  refine CallP.of (fs_points hst (b := b)) (by simp) (by simp) ?_
  simp only [rnH, rnN, rnHB, rnL, Ab.rn]
  simp +contextual (maxSteps := 1000000) only [go_sem, reduceCtorEq, ↓reduceIte, Nat.reduceAdd, Nat.reduceEqDiff, Nat.reduceLeDiff, Nat.reduceMul, Nat.reduceBEq, Int.reduceBEq, Int.reduceBNe, Int.reduceLT, Int.reduceLE, Int.reduceGT, Int.reduceGE, Int.reduceToNat]
  have hall := itemsU_all (b := b)
  have hil : (itemsU b).length ≤ b.length := itemsU_len
  refine rgf_of rfl ((itemsU b).map itemAV)
    (fun i H T => (∀ p ∈ (itemsU b).take i, p.2 = true) ∧ ∃ tk : Option Nm, (tk = none → i = 0) ∧ (∀ x, tk = some x → γ ≤ x.1 ∧ T x) ∧ H = [((γ, 2, 0), .cells [sv tk 1 (intsAV (((itemsU b).take i).map (·.1)))]), ((γ, 1, 0), .cells [.bool false]), ((γ, 0, 0), .cells [.nils])])
    (fun ex H T => ex = .ret ∧ (∃ i : Nat, (itemsU b)[i]? = some (0, false)) ∧ ((γ, 1, 0), .cells [.bool false]) ∈ H ∧ ((γ, 0, 0), .cells [.nils]) ∈ H)
    [((γ, 4, 0), .cells [.sl none 1 (bytesAV b)])] [((γ, 2, 0), .cells [.nils]), ((γ, 1, 0), .cells [.bool false]), ((γ, 0, 0), .cells [.nils])] (fun _ => False)
    (it_points (tb := none) hb) (by simp) (by simp) (by simp) (by simp) ⟨by simp, none, by simp, by simp, rfl⟩ (fun x hx => by obtain ⟨p, _, rfl⟩ := List.mem_map.1 hx; rfl) ?_ ?_ ?_
  · rintro Gl' hst' hG i x H T γ' hx ⟨hok, tk, hk1, hk2, rfl⟩ hlt hfr'
    simp only [List.getElem?_map, Option.map_eq_some_iff] at hx
    obtain ⟨⟨r, ok⟩, hp, rfl⟩ := hx
    have hit : i < (itemsU b).length := (List.getElem?_eq_some_iff.1 hp).1
    have htk : (itemsU b).take (i + 1) = (itemsU b).take i ++ [(r, ok)] := by rw [List.take_add_one, hp]; rfl
    have hln : (intsAV (((itemsU b).take i).map (·.1))).length ≤ b.length := by simp [intsAV]; omega
    generalize hK : kBd _ _ _ = K
    unfold ir_utfAll_b0
    cases ok with
    | false =>
      simp +contextual (maxSteps := 1000000) only [itemAV, go_sem, reduceCtorEq, ↓reduceIte, Nat.reduceAdd, Nat.reduceEqDiff, Nat.reduceLeDiff, Nat.reduceMul, Nat.reduceBEq, Int.reduceBEq, Int.reduceBNe, Int.reduceLT, Int.reduceLE, Int.reduceGT, Int.reduceGE, Int.reduceToNat]
      rw [← hK]
      have h0 : r = 0 := by
        have hm := List.mem_of_getElem? hp
        cases ha : allU b with
        | none =>
          rw [ha] at hall
          obtain ⟨l, hl⟩ := hall
          rw [hl] at hm
          simp at hm; exact hm
        | some l =>
          rw [ha] at hall
          have hall : itemsU b = l.map fun r => (r, true) := hall
          rw [hall] at hm
          simp at hm
      subst h0
      refine ⟨rfl, ⟨i, hp⟩, ?_, ?_⟩
      · simp
      · simp
    | true =>
      cases tk with
      | none =>
        obtain rfl := hk1 rfl
        simp +contextual (maxSteps := 1000000) only [itemAV, go_sem, reduceCtorEq, ↓reduceIte, Nat.reduceAdd, Nat.reduceEqDiff, Nat.reduceLeDiff, Nat.reduceMul, Nat.reduceBEq, Int.reduceBEq, Int.reduceBNe, Int.reduceLT, Int.reduceLE, Int.reduceGT, Int.reduceGE, Int.reduceToNat]
        rw [← hK]
        refine ⟨fun p hp' => ?_, some (γ', 7, 0), by simp, fun x hx => by cases hx; exact ⟨by simp only; omega, .inl rfl⟩, ?_⟩
        · rw [htk] at hp'
          simp only [List.take_zero, List.nil_append, List.mem_singleton] at hp'
          rw [hp']
        · rw [htk]; simp [intsAV, sv]
      | some t0 =>
        simp +contextual (maxSteps := 1000000) only [itemAV, go_sem, reduceCtorEq, ↓reduceIte, Nat.reduceAdd, Nat.reduceEqDiff, Nat.reduceLeDiff, Nat.reduceMul, Nat.reduceBEq, Int.reduceBEq, Int.reduceBNe, Int.reduceLT, Int.reduceLE, Int.reduceGT, Int.reduceGE, Int.reduceToNat]
        refine ⟨⟨.inr (hk2 t0 rfl).2, by omega⟩, ?_⟩
        rw [← hK]
        refine ⟨fun p hp' => ?_, some (γ', 7, 0), by simp, fun x hx => by cases hx; exact ⟨by simp only; omega, .inl rfl⟩, ?_⟩
        · rw [htk] at hp'
          rcases List.mem_append.1 hp' with h | h
          · exact hok p h
          · simp only [List.mem_singleton] at h; rw [h]
        · rw [htk]; simp [intsAV, sv]
  · rintro H1 T1 ⟨hok, tk, hk1, hk2, rfl⟩
    rw [List.length_map, List.take_length] at hok
    have hz : allW b = .tup [.sl none 1 (intsAV ((itemsU b).map (·.1))), .bool true] := by
      cases ha : allU b with
      | none =>
        rw [ha] at hall
        obtain ⟨l, hl⟩ := hall
        have := hok (0, false) (by rw [hl]; simp)
        cases this
      | some l =>
        rw [ha] at hall
        have hall : itemsU b = l.map fun r => (r, true) := hall
        rw [allW, allV, ha, hall, List.map_map]
        have : ((fun x : Int × Bool => x.1) ∘ fun r => (r, true)) = _root_.id := rfl
        rw [this, List.map_id]
    refine ⟨_, T1, fun p hp => List.mem_append.2 (.inl hp), fun _ h => .inl h, ?_⟩
    rw [List.length_map] at hk1 ⊢
    rw [List.take_length]
    simp +contextual (maxSteps := 1000000) only [go_sem, reduceCtorEq, ↓reduceIte, Nat.reduceAdd, Nat.reduceEqDiff, Nat.reduceLeDiff, Nat.reduceMul, Nat.reduceBEq, Int.reduceBEq, Int.reduceBNe, Int.reduceLT, Int.reduceLE, Int.reduceGT, Int.reduceGE, Int.reduceToNat]
    rw [← hQ, hz]
    refine ⟨trivial, .inl ⟨.tup [sv tk 1 (intsAV ((itemsU b).map (·.1))), .bool true], ?_, ?_⟩⟩
    · simp [resOf, getAll, IRes.get, lf, getH]
    · refine RepLe.tup ⟨?_, RepLe.refl _, trivial⟩
      cases tk with
      | none => rw [List.length_eq_zero_iff.1 (hk1 rfl)]; exact RepLe.nils 1
      | some t0 => exact RepLe.anon _ _ _
  · rintro ex H1 T1 ⟨rfl, ⟨i, hi⟩, h1, h2⟩
    have hz : allW b = .tup [.sl none 1 [], .bool false] := by
      cases ha : allU b with
      | none => rw [allW, allV, ha]; rfl
      | some l =>
        rw [ha] at hall
        have hall : itemsU b = l.map fun r => (r, true) := hall
        have := List.mem_of_getElem? hi
        rw [hall] at this
        simp at this
    refine ⟨[((γ, 1, 0), .cells [.bool false]), ((γ, 0, 0), .cells [.nils])], fun _ => False, fun p hp => List.mem_append.2 (.inl ?_), fun _ h => h.elim, ?_⟩
    · simp only [List.mem_cons, List.not_mem_nil, or_false] at hp
      rcases hp with rfl | rfl
      · exact h1
      · exact h2
    · simp only [w_kBlk_r, w_kSeq_r]
      rw [← hQ, hz]
      refine ⟨trivial, .inl ⟨.tup [.nils, .bool false], ?_, RepLe.tup ⟨RepLe.nils 1, RepLe.refl _, trivial⟩⟩⟩
      simp [resOf, getAll, IRes.get, lf, getH]
end Go.Proofs.YtbepihadhmfklaaGreatDoor

namespace Go.Proofs.YtbepihadhmfklaaGreatDoor
open Go Go.Ab
def ir_keysrows : ICode :=
 (.seq
 (.reg [⟨some 0, none, .mov (.c .nils)⟩] (some []))
 (.seq
 (.reg [⟨some 1, none, .bld [(.int .i64 0), (.int .i64 0), (.int .i64 0), (.str []), .nils, (.str [])] [(0, 1, (.c (.int .i64 9))), (1, 1, (.c (.int .i64 1))), (2, 1, (.c (.int .i64 2)))]⟩,
 ⟨some 2, none, .bld [(.int .i64 0), (.int .i64 0), (.int .i64 0), (.str []), .nils, (.str [])] [(0, 1, (.c (.int .i64 13))), (1, 1, (.c (.int .i64 1))), (2, 1, (.c (.int .i64 2)))]⟩,
 ⟨some 3, none, .bld [(.int .i64 0), (.int .i64 0), (.int .i64 0), (.str []), .nils, (.str [])] [(0, 1, (.c (.int .i64 27))), (1, 1, (.c (.int .i64 1))), (2, 1, (.c (.int .i64 2)))]⟩,
 ⟨some 4, none, .bld [(.int .i64 0), (.int .i64 0), (.int .i64 0), (.str []), .nils, (.str [])] [(0, 1, (.c (.int .i64 127))), (1, 1, (.c (.int .i64 1))), (2, 1, (.c (.int .i64 2)))]⟩,
 ⟨some 5, none, .row 3 1 [(.c (.int .i64 2)), (.c (.int .i64 3))]⟩,
 ⟨some 6, none, .bld [(.int .i64 0), (.int .i64 0), (.int .i64 0), (.str []), .nils, (.str [])] [(0, 1, (.c (.int .i64 57348))), (1, 1, (.c (.int .i64 2))), (2, 1, (.c (.int .i64 4))), (4, 1, (.t 5))]⟩,
 ⟨some 7, none, .bld [(.int .i64 0), (.int .i64 0), (.int .i64 0), (.str []), .nils, (.str [])] [(0, 1, (.c (.int .i64 57350))), (1, 1, (.c (.int .i64 4))), (2, 1, (.c (.int .i64 3))), (3, 1, (.c (.str [68, 67, 65, 66])))]⟩,
 ⟨some 8, none, .row 3 1 [(.c (.int .i64 5)), (.c (.int .i64 6))]⟩,
 ⟨some 9, none, .bld [(.int .i64 0), (.int .i64 0), (.int .i64 0), (.str []), .nils, (.str [])] [(0, 1, (.c (.int .i64 57354))), (1, 1, (.c (.int .i64 2))), (2, 1, (.c (.int .i64 4))), (4, 1, (.t 8))]⟩,
 ⟨some 10, none, .bld [(.int .i64 0), (.int .i64 0), (.int .i64 0), (.str []), .nils, (.str [])] [(0, 1, (.c (.int .i64 57356))), (1, 1, (.c (.int .i64 2))), (2, 1, (.c (.int .i64 3))), (3, 1, (.c (.str [72, 70])))]⟩,
 ⟨some 11, none, .bld [(.int .i64 0), (.int .i64 0), (.int .i64 0), (.str []), .nils, (.str [])] [(0, 1, (.c (.int .i64 57358))), (1, 1, (.c (.int .i64 5))), (2, 1, (.c (.int .i64 6)))]⟩,
 ⟨some 12, none, .row 3 1 [(.c (.int .i64 29))]⟩,
 ⟨some 13, none, .bld [(.int .i64 0), (.int .i64 0), (.int .i64 0), (.str []), .nils, (.str [])] [(0, 1, (.c (.int .i64 57363))), (1, 1, (.c (.int .i64 1))), (2, 1, (.c (.int .i64 4))), (4, 1, (.t 12))]⟩,
 ⟨some 14, none, .bld [(.int .i64 0), (.int .i64 0), (.int .i64 0), (.str []), .nils, (.str [])] [(0, 1, (.c (.int .i64 57364))), (1, 1, (.c (.int .i64 4))), (2, 1, (.c (.int .i64 3))), (3, 1, (.c (.str [80, 81, 82, 83])))]⟩,
 ⟨some 15, none, .row 3 1 [(.c (.int .i64 15)), (.c (.int .i64 17)), (.c (.int .i64 18)), (.c (.int .i64 19)), (.c (.int .i64 20)), (.c (.int .i64 21)), (.c (.int .i64 23)), (.c (.int .i64 24))]⟩,
 ⟨some 16, none, .bld [(.int .i64 0), (.int .i64 0), (.int .i64 0), (.str []), .nils, (.str [])] [(0, 1, (.c (.int .i64 57368))), (1, 1, (.c (.int .i64 8))), (2, 1, (.c (.int .i64 4))), (4, 1, (.t 15))]⟩,
 ⟨some 17, none, .bld [(.int .i64 0), (.int .i64 0), (.int .i64 0), (.str []), .nils, (.str [])] [(0, 1, (.c (.int .i64 57376))), (1, 1, (.c (.int .i64 23))), (2, 1, (.c (.int .i64 6)))]⟩,
 ⟨some 18, none, .bld [(.int .i64 0), (.int .i64 0), (.int .i64 0), (.str []), .nils, (.str [])] [(0, 1, (.c (.int .i64 57399))), (1, 1, (.c (.int .i64 18))), (2, 1, (.c (.int .i64 5))), (3, 1, (.c (.str [112, 113, 114, 115, 116, 117, 118, 119, 120, 121, 110, 111, 106, 109, 107, 77, 88, 108]))), (5, 1, (.c (.str [48, 49, 50, 51, 52, 53, 54, 55, 56, 57, 46, 47, 42, 45, 43, 13, 61, 44])))]⟩,
 ⟨some 19, none, .bld [(.int .i64 0), (.int .i64 0), (.int .i64 0), (.str []), .nils, (.str [])] [(0, 1, (.c (.int .i64 57417))), (1, 1, (.c (.int .i64 4))), (2, 1, (.c (.int .i64 3))), (3, 1, (.c (.str [68, 67, 65, 66])))]⟩,
 ⟨some 20, none, .row 3 1 [(.c (.int .i64 5)), (.c (.int .i64 6))]⟩,
 ⟨some 21, none, .bld [(.int .i64 0), (.int .i64 0), (.int .i64 0), (.str []), .nils, (.str [])] [(0, 1, (.c (.int .i64 57421))), (1, 1, (.c (.int .i64 2))), (2, 1, (.c (.int .i64 4))), (4, 1, (.t 20))]⟩,
 ⟨some 22, none, .bld [(.int .i64 0), (.int .i64 0), (.int .i64 0), (.str []), .nils, (.str [])] [(0, 1, (.c (.int .i64 57423))), (1, 1, (.c (.int .i64 2))), (2, 1, (.c (.int .i64 3))), (3, 1, (.c (.str [72, 70])))]⟩,
 ⟨some 23, none, .row 3 1 [(.c (.int .i64 2)), (.c (.int .i64 3))]⟩,
 ⟨some 24, none, .bld [(.int .i64 0), (.int .i64 0), (.int .i64 0), (.str []), .nils, (.str [])] [(0, 1, (.c (.int .i64 57425))), (1, 1, (.c (.int .i64 2))), (2, 1, (.c (.int .i64 4))), (4, 1, (.t 23))]⟩,
 ⟨some 25, none, .bld [(.int .i64 0), (.int .i64 0), (.int .i64 0), (.str []), .nils, (.str [])] [(0, 1, (.c (.int .i64 57427))), (1, 1, (.c (.int .i64 1))), (2, 1, (.c (.int .i64 3))), (3, 1, (.c (.str [69])))]⟩,
 ⟨some 26, none, .bld [(.int .i64 0), (.int .i64 0), (.int .i64 0), (.str []), .nils, (.str [])] [(0, 1, (.c (.int .i64 57428))), (1, 1, (.c (.int .i64 13))), (2, 1, (.c (.int .i64 6)))]⟩,
 ⟨some 27, none, .bld [(.int .i64 0), (.int .i64 0), (.int .i64 0), (.str []), .nils, (.str [])] [(0, 1, (.c (.int .i64 57441))), (1, 1, (.c (.int .i64 14))), (2, 1, (.c (.int .i64 7)))]⟩,
 ⟨some 28, none, .row 109 6 [(.t 1), (.t 2), (.t 3), (.t 4), (.t 6), (.t 7), (.t 9), (.t 10), (.t 11), (.t 13), (.t 14), (.t 16), (.t 17), (.t 18), (.t 19), (.t 21), (.t 22), (.t 24), (.t 25), (.t 26), (.t 27)]⟩,
 ⟨some 0, none, .mov (.t 28)⟩] (some [0]))
 .ret))
theorem is_keysrows : IrOf Tryz.prog 96 29 ir_keysrows [.t 0] := ⟨_, Tryz.func96, rfl, by kernel_rfl, by kernel_rfl, by kernel_rfl⟩

def ir_keysrowentry : ICode :=
 (.seq
 (.reg [⟨some 2, none, .box 109 (.t 0)⟩,
 ⟨some 4, none, .box 41 (.c (.agg [(.int .i64 0), (.int .u8 0), (.int .i64 0), (.int .i64 0), (.bool false)]))⟩] (some [1, 2, 4]))
 (.seq
 (.reg [⟨some 6, none, .fa 2 (.t 2)⟩,
 ⟨some 7, none, .ld none (.t 6)⟩,
 ⟨some 8, none, .bld [(.int .i64 0), (.int .u8 0), (.int .i64 0), (.int .i64 0), (.bool false)] [(0, 1, (.t 7))]⟩,
 ⟨some 5, none, .box 41 (.c (.agg [(.int .i64 0), (.int .u8 0), (.int .i64 0), (.int .i64 0), (.bool false)]))⟩,
 ⟨none, none, .st 5 (.t 5) (.t 8)⟩] (some [1, 2, 4, 5]))
 (.seq
 (.seq
 (.reg [⟨some 9, none, .fa 3 (.t 2)⟩,
 ⟨some 10, none, .ld none (.t 9)⟩,
 ⟨some 11, none, .bin .neq .none (.t 10) (.c (.str []))⟩] (some [1, 2, 4, 5, 11]))
 (.cond (.t 11)
 (.reg [⟨some 12, none, .fa 3 (.t 2)⟩,
 ⟨some 13, none, .ld none (.t 12)⟩,
 ⟨some 14, none, .mov (.t 1)⟩,
 ⟨some 15, none, .ixs (.t 13) (.t 14)⟩,
 ⟨some 16, none, .fa 1 (.t 5)⟩,
 ⟨none, none, .st 1 (.t 16) (.t 15)⟩] (some [1, 2, 4, 5]))
 .skip))
 (.seq
 (.seq
 (.reg [⟨some 17, none, .fa 4 (.t 2)⟩,
 ⟨some 18, none, .ld none (.t 17)⟩,
 ⟨some 19, none, .bin .neq .slice (.t 18) (.c .nils)⟩] (some [1, 2, 4, 5, 19]))
 (.cond (.t 19)
 (.reg [⟨some 20, none, .fa 4 (.t 2)⟩,
 ⟨some 21, none, .ld none (.t 20)⟩,
 ⟨some 22, none, .mov (.t 1)⟩,
 ⟨some 23, none, .ia 1 (.t 21) (.t 22)⟩,
 ⟨some 24, none, .ld none (.t 23)⟩,
 ⟨some 25, none, .fa 2 (.t 5)⟩,
 ⟨none, none, .st 1 (.t 25) (.t 24)⟩] (some [1, 2, 4, 5]))
 .skip))
 (.seq
 (.seq
 (.reg [⟨some 26, none, .fa 5 (.t 2)⟩,
 ⟨some 27, none, .ld none (.t 26)⟩,
 ⟨some 28, none, .bin .neq .none (.t 27) (.c (.str []))⟩] (some [1, 2, 4, 5, 28]))
 (.cond (.t 28)
 (.reg [⟨some 29, none, .fa 5 (.t 2)⟩,
 ⟨some 30, none, .ld none (.t 29)⟩,
 ⟨some 31, none, .mov (.t 1)⟩,
 ⟨some 32, none, .ixs (.t 30) (.t 31)⟩,
 ⟨some 33, none, .cvi .i64 (.t 32)⟩,
 ⟨some 34, none, .fa 3 (.t 5)⟩,
 ⟨none, none, .st 1 (.t 34) (.t 33)⟩] (some [2, 4, 5]))
 .skip))
 (.seq
 (.reg [⟨some 35, none, .fa 0 (.t 2)⟩,
 ⟨some 36, none, .ld none (.t 35)⟩,
 ⟨some 37, none, .bin .geq .none (.t 36) (.c (.int .i64 57399))⟩,
 ⟨some 38, none, .mov (.t 37)⟩,
 ⟨some 39, some (38, true), .fa 2 (.t 2)⟩,
 ⟨some 40, some (38, true), .ld none (.t 39)⟩,
 ⟨some 41, some (38, true), .bin .neq .none (.t 40) (.c (.int .i64 6))⟩,
 ⟨some 42, none, .pick (.t 38) (.t 41) (.c (.bool false))⟩,
 ⟨some 43, none, .mov (.t 42)⟩,
 ⟨some 44, some (43, true), .fa 2 (.t 2)⟩,
 ⟨some 45, some (43, true), .ld none (.t 44)⟩,
 ⟨some 46, some (43, true), .bin .neq .none (.t 45) (.c (.int .i64 7))⟩,
 ⟨some 47, none, .pick (.t 43) (.t 46) (.c (.bool false))⟩,
 ⟨some 48, none, .fa 4 (.t 5)⟩,
 ⟨none, none, .st 1 (.t 48) (.t 47)⟩] (some [4, 5]))
 (.seq
 (.reg [⟨some 49, none, .ld (some 5) (.t 5)⟩,
 ⟨none, none, .st 5 (.t 4) (.t 49)⟩] (some [4]))
 .ret)))))))
theorem is_keysrowentry : IrOf Tryz.prog 97 50 ir_keysrowentry [.cell 4 (some 5)] := ⟨_, Tryz.func97, rfl, by kernel_rfl, by kernel_rfl, by kernel_rfl⟩

def ir_clavierref09letter : ICode :=
 (.seq
 (.reg [⟨some 2, none, .mov (.c (.int .u8 0))⟩] (some [0]))
 (.seq
 (.seq
 (.reg [⟨some 3, none, .mov (.t 0)⟩] (some [0, 3]))
 (.blk 0
 (.seq
 (.seq
 (.reg [⟨some 5, none, .bin .eql .none (.t 3) (.c (.int .i64 57350))⟩,
 ⟨some 4, none, .mov (.t 5)⟩] (some [0, 3, 4]))
 (.cond (.t 4)
 .skip
 (.reg [⟨some 6, none, .bin .eql .none (.t 3) (.c (.int .i64 57417))⟩,
 ⟨some 4, none, .mov (.t 6)⟩] (some [0, 3, 4]))))
 (.cond (.t 4)
 (.seq
 (.reg [⟨some 2, none, .mov (.c (.int .u8 68))⟩] (some [2]))
 .ret)
 (.seq
 (.seq
 (.reg [⟨some 8, none, .bin .eql .none (.t 3) (.c (.int .i64 57351))⟩,
 ⟨some 7, none, .mov (.t 8)⟩] (some [0, 3, 7]))
 (.cond (.t 7)
 .skip
 (.reg [⟨some 9, none, .bin .eql .none (.t 3) (.c (.int .i64 57418))⟩,
 ⟨some 7, none, .mov (.t 9)⟩] (some [0, 3, 7]))))
 (.cond (.t 7)
 (.seq
 (.reg [⟨some 2, none, .mov (.c (.int .u8 67))⟩] (some [2]))
 .ret)
 (.seq
 (.seq
 (.reg [⟨some 11, none, .bin .eql .none (.t 3) (.c (.int .i64 57352))⟩,
 ⟨some 10, none, .mov (.t 11)⟩] (some [0, 3, 10]))
 (.cond (.t 10)
 .skip
 (.reg [⟨some 12, none, .bin .eql .none (.t 3) (.c (.int .i64 57419))⟩,
 ⟨some 10, none, .mov (.t 12)⟩] (some [0, 3, 10]))))
 (.cond (.t 10)
 (.seq
 (.reg [⟨some 2, none, .mov (.c (.int .u8 65))⟩] (some [2]))
 .ret)
 (.seq
 (.seq
 (.reg [⟨some 14, none, .bin .eql .none (.t 3) (.c (.int .i64 57353))⟩,
 ⟨some 13, none, .mov (.t 14)⟩] (some [0, 3, 13]))
 (.cond (.t 13)
 .skip
 (.reg [⟨some 15, none, .bin .eql .none (.t 3) (.c (.int .i64 57420))⟩,
 ⟨some 13, none, .mov (.t 15)⟩] (some [0, 3, 13]))))
 (.cond (.t 13)
 (.seq
 (.reg [⟨some 2, none, .mov (.c (.int .u8 66))⟩] (some [2]))
 .ret)
 (.seq
 (.seq
 (.reg [⟨some 17, none, .bin .eql .none (.t 3) (.c (.int .i64 57356))⟩,
 ⟨some 16, none, .mov (.t 17)⟩] (some [0, 3, 16]))
 (.cond (.t 16)
 .skip
 (.reg [⟨some 18, none, .bin .eql .none (.t 3) (.c (.int .i64 57423))⟩,
 ⟨some 16, none, .mov (.t 18)⟩] (some [0, 3, 16]))))
 (.cond (.t 16)
 (.seq
 (.reg [⟨some 2, none, .mov (.c (.int .u8 72))⟩] (some [2]))
 .ret)
 (.seq
 (.seq
 (.reg [⟨some 20, none, .bin .eql .none (.t 3) (.c (.int .i64 57357))⟩,
 ⟨some 19, none, .mov (.t 20)⟩] (some [0, 3, 19]))
 (.cond (.t 19)
 .skip
 (.reg [⟨some 21, none, .bin .eql .none (.t 3) (.c (.int .i64 57424))⟩,
 ⟨some 19, none, .mov (.t 21)⟩] (some [0, 3, 19]))))
 (.cond (.t 19)
 (.seq
 (.reg [⟨some 2, none, .mov (.c (.int .u8 70))⟩] (some [2]))
 .ret)
 (.seq
 (.reg [⟨some 23, none, .bin .eql .none (.t 3) (.c (.int .i64 57427))⟩,
 ⟨some 22, none, .mov (.t 23)⟩] (some [0, 3, 22]))
 (.cond (.t 22)
 (.seq
 (.reg [⟨some 2, none, .mov (.c (.int .u8 69))⟩] (some [2]))
 .ret)
 (.seq
 (.seq
 (.reg [⟨some 25, none, .bin .eql .none (.t 3) (.c (.int .i64 57364))⟩,
 ⟨some 24, none, .mov (.t 25)⟩] (some [0, 3, 24]))
 (.cond (.t 24)
 .skip
 (.seq
 (.reg [⟨some 26, none, .bin .eql .none (.t 3) (.c (.int .i64 57365))⟩,
 ⟨some 24, none, .mov (.t 26)⟩] (some [0, 3, 24]))
 (.cond (.t 24)
 .skip
 (.seq
 (.reg [⟨some 27, none, .bin .eql .none (.t 3) (.c (.int .i64 57366))⟩,
 ⟨some 24, none, .mov (.t 27)⟩] (some [0, 3, 24]))
 (.cond (.t 24)
 .skip
 (.reg [⟨some 28, none, .bin .eql .none (.t 3) (.c (.int .i64 57367))⟩,
 ⟨some 24, none, .mov (.t 28)⟩] (some [0, 24]))))))))
 (.cond (.t 24)
 (.seq
 (.reg [⟨some 29, none, .mov (.t 0)⟩,
 ⟨some 30, none, .bin .add .none (.c (.int .i64 80)) (.t 29)⟩,
 ⟨some 31, none, .bin .sub .none (.t 30) (.c (.int .i64 57364))⟩,
 ⟨some 32, none, .cvi .u8 (.t 31)⟩,
 ⟨some 2, none, .mov (.t 32)⟩] (some [2]))
 .ret)
 .skip))))))))))))))))))
 (.seq
 (.reg [⟨some 2, none, .mov (.c (.int .u8 0))⟩] (some [2]))
 .ret)))
theorem is_clavierref09letter : IrOf Tryz.prog 77 33 ir_clavierref09letter [.t 2] := ⟨_, Tryz.func77, rfl, by kernel_rfl, by kernel_rfl, by kernel_rfl⟩

def ir_clavierref09number : ICode :=
 (.seq
 (.reg [⟨some 2, none, .mov (.c (.int .i64 0))⟩] (some [0]))
 (.seq
 (.seq
 (.reg [⟨some 3, none, .mov (.t 0)⟩] (some [0, 3]))
 (.blk 0
 (.seq
 (.seq
 (.reg [⟨some 5, none, .bin .eql .none (.t 3) (.c (.int .i64 57348))⟩,
 ⟨some 4, none, .mov (.t 5)⟩] (some [0, 3, 4]))
 (.cond (.t 4)
 .skip
 (.reg [⟨some 6, none, .bin .eql .none (.t 3) (.c (.int .i64 57425))⟩,
 ⟨some 4, none, .mov (.t 6)⟩] (some [0, 3, 4]))))
 (.cond (.t 4)
 (.seq
 (.reg [⟨some 2, none, .mov (.c (.int .i64 2))⟩] (some [2]))
 .ret)
 (.seq
 (.seq
 (.reg [⟨some 8, none, .bin .eql .none (.t 3) (.c (.int .i64 57349))⟩,
 ⟨some 7, none, .mov (.t 8)⟩] (some [0, 3, 7]))
 (.cond (.t 7)
 .skip
 (.reg [⟨some 9, none, .bin .eql .none (.t 3) (.c (.int .i64 57426))⟩,
 ⟨some 7, none, .mov (.t 9)⟩] (some [0, 3, 7]))))
 (.cond (.t 7)
 (.seq
 (.reg [⟨some 2, none, .mov (.c (.int .i64 3))⟩] (some [2]))
 .ret)
 (.seq
 (.seq
 (.reg [⟨some 11, none, .bin .eql .none (.t 3) (.c (.int .i64 57354))⟩,
 ⟨some 10, none, .mov (.t 11)⟩] (some [0, 3, 10]))
 (.cond (.t 10)
 .skip
 (.reg [⟨some 12, none, .bin .eql .none (.t 3) (.c (.int .i64 57421))⟩,
 ⟨some 10, none, .mov (.t 12)⟩] (some [0, 3, 10]))))
 (.cond (.t 10)
 (.seq
 (.reg [⟨some 2, none, .mov (.c (.int .i64 5))⟩] (some [2]))
 .ret)
 (.seq
 (.seq
 (.reg [⟨some 14, none, .bin .eql .none (.t 3) (.c (.int .i64 57355))⟩,
 ⟨some 13, none, .mov (.t 14)⟩] (some [0, 3, 13]))
 (.cond (.t 13)
 .skip
 (.reg [⟨some 15, none, .bin .eql .none (.t 3) (.c (.int .i64 57422))⟩,
 ⟨some 13, none, .mov (.t 15)⟩] (some [0, 3, 13]))))
 (.cond (.t 13)
 (.seq
 (.reg [⟨some 2, none, .mov (.c (.int .i64 6))⟩] (some [2]))
 .ret)
 (.seq
 (.reg [⟨some 17, none, .bin .eql .none (.t 3) (.c (.int .i64 57368))⟩,
 ⟨some 16, none, .mov (.t 17)⟩] (some [0, 3, 16]))
 (.cond (.t 16)
 (.seq
 (.reg [⟨some 2, none, .mov (.c (.int .i64 15))⟩] (some [2]))
 .ret)
 (.seq
 (.seq
 (.reg [⟨some 19, none, .bin .eql .none (.t 3) (.c (.int .i64 57369))⟩,
 ⟨some 18, none, .mov (.t 19)⟩] (some [0, 3, 18]))
 (.cond (.t 18)
 .skip
 (.seq
 (.reg [⟨some 20, none, .bin .eql .none (.t 3) (.c (.int .i64 57370))⟩,
 ⟨some 18, none, .mov (.t 20)⟩] (some [0, 3, 18]))
 (.cond (.t 18)
 .skip
 (.seq
 (.reg [⟨some 21, none, .bin .eql .none (.t 3) (.c (.int .i64 57371))⟩,
 ⟨some 18, none, .mov (.t 21)⟩] (some [0, 3, 18]))
 (.cond (.t 18)
 .skip
 (.seq
 (.reg [⟨some 22, none, .bin .eql .none (.t 3) (.c (.int .i64 57372))⟩,
 ⟨some 18, none, .mov (.t 22)⟩] (some [0, 3, 18]))
 (.cond (.t 18)
 .skip
 (.reg [⟨some 23, none, .bin .eql .none (.t 3) (.c (.int .i64 57373))⟩,
 ⟨some 18, none, .mov (.t 23)⟩] (some [0, 3, 18]))))))))))
 (.cond (.t 18)
 (.seq
 (.reg [⟨some 24, none, .mov (.t 0)⟩,
 ⟨some 25, none, .bin .add .none (.c (.int .i64 17)) (.t 24)⟩,
 ⟨some 26, none, .bin .sub .none (.t 25) (.c (.int .i64 57369))⟩,
 ⟨some 2, none, .mov (.t 26)⟩] (some [2]))
 .ret)
 (.seq
 (.seq
 (.reg [⟨some 28, none, .bin .eql .none (.t 3) (.c (.int .i64 57374))⟩,
 ⟨some 27, none, .mov (.t 28)⟩] (some [0, 3, 27]))
 (.cond (.t 27)
 .skip
 (.reg [⟨some 29, none, .bin .eql .none (.t 3) (.c (.int .i64 57375))⟩,
 ⟨some 27, none, .mov (.t 29)⟩] (some [0, 3, 27]))))
 (.cond (.t 27)
 (.seq
 (.reg [⟨some 30, none, .mov (.t 0)⟩,
 ⟨some 31, none, .bin .add .none (.c (.int .i64 23)) (.t 30)⟩,
 ⟨some 32, none, .bin .sub .none (.t 31) (.c (.int .i64 57374))⟩,
 ⟨some 2, none, .mov (.t 32)⟩] (some [2]))
 .ret)
 (.seq
 (.reg [⟨some 34, none, .bin .eql .none (.t 3) (.c (.int .i64 57363))⟩,
 ⟨some 33, none, .mov (.t 34)⟩] (some [33]))
 (.cond (.t 33)
 (.seq
 (.reg [⟨some 2, none, .mov (.c (.int .i64 29))⟩] (some [2]))
 .ret)
 .skip))))))))))))))))))
 (.seq
 (.reg [⟨some 2, none, .mov (.c (.int .i64 0))⟩] (some [2]))
 .ret)))
theorem is_clavierref09number : IrOf Tryz.prog 78 35 ir_clavierref09number [.t 2] := ⟨_, Tryz.func78, rfl, by kernel_rfl, by kernel_rfl, by kernel_rfl⟩

def ir_clavierref09pad : ICode :=
 (.seq
 (.reg [⟨some 2, none, .box 55 (.c (.agg [(.int .i64 0), (.int .u8 0), (.int .i64 0), (.int .i64 0), (.bool false)]))⟩] (some [0, 2]))
 (.seq
 (.reg [⟨some 5, none, .bld [(.int .i64 0), (.int .u8 0), (.int .i64 0), (.int .i64 0), (.bool false)] [(0, 1, (.c (.int .i64 5))), (4, 1, (.c (.bool true)))]⟩,
 ⟨some 3, none, .box 55 (.c (.agg [(.int .i64 0), (.int .u8 0), (.int .i64 0), (.int .i64 0), (.bool false)]))⟩,
 ⟨none, none, .st 5 (.t 3) (.t 5)⟩] (some [0, 2, 3]))
 (.seq
 (.seq
 (.reg [⟨some 6, none, .mov (.t 0)⟩,
 ⟨some 7, none, .bin .leq .none (.t 6) (.c (.int .i64 57408))⟩] (some [0, 2, 3, 7]))
 (.cond (.t 7)
 (.seq
 (.reg [⟨some 8, none, .mov (.t 0)⟩,
 ⟨some 9, none, .bin .add .none (.c (.int .i64 48)) (.t 8)⟩,
 ⟨some 10, none, .bin .sub .none (.t 9) (.c (.int .i64 57399))⟩,
 ⟨some 11, none, .fa 3 (.t 3)⟩,
 ⟨none, none, .st 1 (.t 11) (.t 10)⟩] (some [0, 2, 3]))
 (.seq
 (.reg [⟨some 12, none, .mov (.t 0)⟩,
 ⟨some 13, none, .bin .add .none (.c (.int .i64 112)) (.t 12)⟩,
 ⟨some 14, none, .bin .sub .none (.t 13) (.c (.int .i64 57399))⟩,
 ⟨some 15, none, .cvi .u8 (.t 14)⟩,
 ⟨some 16, none, .fa 1 (.t 3)⟩,
 ⟨none, none, .st 1 (.t 16) (.t 15)⟩] (some [2, 3]))
 (.seq
 (.reg [⟨some 17, none, .ld (some 5) (.t 3)⟩,
 ⟨none, none, .st 5 (.t 2) (.t 17)⟩] (some [2]))
 .ret)))
 .skip))
 (.seq
 (.reg [⟨some 18, none, .mov (.t 0)⟩,
 ⟨some 19, none, .bin .sub .none (.t 18) (.c (.int .i64 57409))⟩,
 ⟨some 4, none, .mov (.t 19)⟩] (some [2, 3, 4]))
 (.seq
 (.reg [⟨some 20, none, .mov (.t 4)⟩,
 ⟨some 21, none, .ixs (.c (.str [46, 47, 42, 45, 43, 13, 61, 44])) (.t 20)⟩,
 ⟨some 22, none, .cvi .i64 (.t 21)⟩,
 ⟨some 23, none, .fa 3 (.t 3)⟩,
 ⟨none, none, .st 1 (.t 23) (.t 22)⟩] (some [2, 3, 4]))
 (.seq
 (.reg [⟨some 24, none, .mov (.t 4)⟩,
 ⟨some 25, none, .ixs (.c (.str [110, 111, 106, 109, 107, 77, 88, 108])) (.t 24)⟩,
 ⟨some 26, none, .fa 1 (.t 3)⟩,
 ⟨none, none, .st 1 (.t 26) (.t 25)⟩] (some [2, 3]))
 (.seq
 (.reg [⟨some 27, none, .ld (some 5) (.t 3)⟩,
 ⟨none, none, .st 5 (.t 2) (.t 27)⟩] (some [2]))
 .ret)))))))
theorem is_clavierref09pad : IrOf Tryz.prog 79 28 ir_clavierref09pad [.cell 2 (some 5)] := ⟨_, Tryz.func79, rfl, by kernel_rfl, by kernel_rfl, by kernel_rfl⟩

def ir_clavierref09rest : ICode :=
 (.seq
 (.reg [⟨some 2, none, .mov (.c (.int .i64 0))⟩] (some [0]))
 (.seq
 (.blk 0
 (.seq
 (.reg [⟨some 4, none, .mov (.t 0)⟩,
 ⟨some 5, none, .bin .eql .none (.t 4) (.c (.int .i64 9))⟩,
 ⟨some 6, none, .mov (.t 5)⟩,
 ⟨some 7, some (6, false), .mov (.t 0)⟩,
 ⟨some 8, some (6, false), .bin .eql .none (.t 7) (.c (.int .i64 13))⟩,
 ⟨some 9, none, .pick (.t 6) (.c (.bool true)) (.t 8)⟩,
 ⟨some 10, none, .mov (.t 9)⟩,
 ⟨some 11, some (10, false), .mov (.t 0)⟩,
 ⟨some 12, some (10, false), .bin .eql .none (.t 11) (.c (.int .i64 27))⟩,
 ⟨some 13, none, .pick (.t 10) (.c (.bool true)) (.t 12)⟩,
 ⟨some 14, none, .mov (.t 13)⟩,
 ⟨some 15, some (14, false), .mov (.t 0)⟩,
 ⟨some 16, some (14, false), .bin .eql .none (.t 15) (.c (.int .i64 127))⟩,
 ⟨some 17, none, .pick (.t 14) (.c (.bool true)) (.t 16)⟩,
 ⟨some 3, none, .mov (.t 17)⟩] (some [0, 3]))
 (.cond (.t 3)
 (.seq
 (.reg [⟨some 2, none, .mov (.c (.int .i64 2))⟩] (some [2]))
 .ret)
 (.seq
 (.reg [⟨some 19, none, .mov (.t 0)⟩,
 ⟨some 20, none, .bin .geq .none (.t 19) (.c (.int .i64 57358))⟩,
 ⟨some 21, none, .mov (.t 20)⟩,
 ⟨some 22, some (21, true), .mov (.t 0)⟩,
 ⟨some 23, some (21, true), .bin .leq .none (.t 22) (.c (.int .i64 57362))⟩,
 ⟨some 24, none, .pick (.t 21) (.t 23) (.c (.bool false))⟩,
 ⟨some 25, none, .mov (.t 24)⟩,
 ⟨some 26, some (25, false), .mov (.t 0)⟩,
 ⟨some 27, some (25, false), .bin .geq .none (.t 26) (.c (.int .i64 57376))⟩,
 ⟨some 28, some (25, false), .mov (.t 27)⟩,
 ⟨some 29, some (28, true), .mov (.t 0)⟩,
 ⟨some 30, some (28, true), .bin .leq .none (.t 29) (.c (.int .i64 57398))⟩,
 ⟨some 31, some (25, false), .pick (.t 28) (.t 30) (.c (.bool false))⟩,
 ⟨some 32, none, .pick (.t 25) (.c (.bool true)) (.t 31)⟩,
 ⟨some 33, none, .mov (.t 32)⟩,
 ⟨some 34, some (33, false), .mov (.t 0)⟩,
 ⟨some 35, some (33, false), .bin .geq .none (.t 34) (.c (.int .i64 57428))⟩,
 ⟨some 36, some (33, false), .mov (.t 35)⟩,
 ⟨some 37, some (36, true), .mov (.t 0)⟩,
 ⟨some 38, some (36, true), .bin .leq .none (.t 37) (.c (.int .i64 57440))⟩,
 ⟨some 39, some (33, false), .pick (.t 36) (.t 38) (.c (.bool false))⟩,
 ⟨some 40, none, .pick (.t 33) (.c (.bool true)) (.t 39)⟩,
 ⟨some 18, none, .mov (.t 40)⟩] (some [0, 18]))
 (.cond (.t 18)
 (.seq
 (.reg [⟨some 2, none, .mov (.c (.int .i64 6))⟩] (some [2]))
 .ret)
 (.seq
 (.reg [⟨some 42, none, .mov (.t 0)⟩,
 ⟨some 43, none, .bin .geq .none (.t 42) (.c (.int .i64 57441))⟩,
 ⟨some 44, none, .mov (.t 43)⟩,
 ⟨some 45, some (44, true), .mov (.t 0)⟩,
 ⟨some 46, some (44, true), .bin .leq .none (.t 45) (.c (.int .i64 57454))⟩,
 ⟨some 47, none, .pick (.t 44) (.t 46) (.c (.bool false))⟩,
 ⟨some 41, none, .mov (.t 47)⟩] (some [0, 41]))
 (.cond (.t 41)
 (.seq
 (.reg [⟨some 2, none, .mov (.c (.int .i64 7))⟩] (some [2]))
 .ret)
 (.seq
 (.reg [⟨some 49, none, .mov (.t 0)⟩,
 ⟨some 50, none, .call (.c (.fn (.func 113) [] [])) [(.t 49)]⟩,
 ⟨some 51, none, .un .not (.t 50)⟩,
 ⟨some 52, none, .mov (.t 51)⟩,
 ⟨some 53, some (52, false), .mov (.t 0)⟩,
 ⟨some 54, some (52, false), .bin .lss .none (.t 53) (.c (.int .i64 32))⟩,
 ⟨some 55, none, .pick (.t 52) (.c (.bool true)) (.t 54)⟩,
 ⟨some 56, none, .mov (.t 55)⟩,
 ⟨some 57, some (56, false), .mov (.t 0)⟩,
 ⟨some 58, some (56, false), .bin .geq .none (.t 57) (.c (.int .i64 127))⟩,
 ⟨some 59, some (56, false), .mov (.t 58)⟩,
 ⟨some 60, some (59, true), .mov (.t 0)⟩,
 ⟨some 61, some (59, true), .bin .leq .none (.t 60) (.c (.int .i64 159))⟩,
 ⟨some 62, some (56, false), .pick (.t 59) (.t 61) (.c (.bool false))⟩,
 ⟨some 63, none, .pick (.t 56) (.c (.bool true)) (.t 62)⟩,
 ⟨some 64, none, .mov (.t 63)⟩,
 ⟨some 65, some (64, false), .mov (.t 0)⟩,
 ⟨some 66, some (64, false), .bin .geq .none (.t 65) (.c (.int .i64 57344))⟩,
 ⟨some 67, some (64, false), .mov (.t 66)⟩,
 ⟨some 68, some (67, true), .mov (.t 0)⟩,
 ⟨some 69, some (67, true), .bin .leq .none (.t 68) (.c (.int .i64 63743))⟩,
 ⟨some 70, some (64, false), .pick (.t 67) (.t 69) (.c (.bool false))⟩,
 ⟨some 71, none, .pick (.t 64) (.c (.bool true)) (.t 70)⟩,
 ⟨some 48, none, .mov (.t 71)⟩] (some [48]))
 (.cond (.t 48)
 (.seq
 (.reg [⟨some 2, none, .mov (.c (.int .i64 0))⟩] (some [2]))
 .ret)
 .skip)))))))))
 (.seq
 (.reg [⟨some 2, none, .mov (.c (.int .i64 1))⟩] (some [2]))
 .ret)))
theorem is_clavierref09rest : IrOf Tryz.prog 80 72 ir_clavierref09rest [.t 2] := ⟨_, Tryz.func80, rfl, by kernel_rfl, by kernel_rfl, by kernel_rfl⟩

def ir_clavierref09Look : ICode :=
 (.seq
 (.reg [⟨some 2, none, .box 55 (.c (.agg [(.int .i64 0), (.int .u8 0), (.int .i64 0), (.int .i64 0), (.bool false)]))⟩] (some [0, 2]))
 (.seq
 (.reg [⟨some 4, none, .mov (.t 0)⟩,
 ⟨some 5, none, .bin .geq .none (.t 4) (.c (.int .i64 57399))⟩,
 ⟨some 3, none, .mov (.t 5)⟩] (some [0, 2, 3]))
 (.seq
 (.seq
 (.reg [⟨some 6, none, .mov (.t 0)⟩,
 ⟨some 7, none, .call (.c (.fn (.func 77) [] [])) [(.t 6)]⟩,
 ⟨some 8, none, .bin .neq .none (.t 7) (.c (.int .u8 0))⟩] (some [0, 2, 3, 8]))
 (.cond (.t 8)
 (.seq
 (.reg [⟨some 9, none, .mov (.t 0)⟩,
 ⟨some 10, none, .call (.c (.fn (.func 77) [] [])) [(.t 9)]⟩,
 ⟨some 11, none, .mov (.t 3)⟩,
 ⟨some 12, none, .bld [(.int .i64 0), (.int .u8 0), (.int .i64 0), (.int .i64 0), (.bool false)] [(0, 1, (.c (.int .i64 3))), (1, 1, (.t 10)), (4, 1, (.t 11))]⟩,
 ⟨none, none, .st 5 (.t 2) (.t 12)⟩] (some [2]))
 .ret)
 .skip))
 (.seq
 (.seq
 (.reg [⟨some 13, none, .mov (.t 0)⟩,
 ⟨some 14, none, .call (.c (.fn (.func 78) [] [])) [(.t 13)]⟩,
 ⟨some 15, none, .bin .neq .none (.t 14) (.c (.int .i64 0))⟩] (some [0, 2, 3, 15]))
 (.cond (.t 15)
 (.seq
 (.reg [⟨some 16, none, .mov (.t 0)⟩,
 ⟨some 17, none, .call (.c (.fn (.func 78) [] [])) [(.t 16)]⟩,
 ⟨some 18, none, .mov (.t 3)⟩,
 ⟨some 19, none, .bld [(.int .i64 0), (.int .u8 0), (.int .i64 0), (.int .i64 0), (.bool false)] [(0, 1, (.c (.int .i64 4))), (2, 1, (.t 17)), (4, 1, (.t 18))]⟩,
 ⟨none, none, .st 5 (.t 2) (.t 19)⟩] (some [2]))
 .ret)
 .skip))
 (.seq
 (.seq
 (.reg [⟨some 20, none, .mov (.t 0)⟩,
 ⟨some 21, none, .bin .geq .none (.t 20) (.c (.int .i64 57399))⟩,
 ⟨some 22, none, .mov (.t 21)⟩,
 ⟨some 23, some (22, true), .mov (.t 0)⟩,
 ⟨some 24, some (22, true), .bin .leq .none (.t 23) (.c (.int .i64 57416))⟩,
 ⟨some 25, none, .pick (.t 22) (.t 24) (.c (.bool false))⟩] (some [0, 2, 25]))
 (.cond (.t 25)
 (.seq
 (.reg [⟨some 26, none, .mov (.t 0)⟩,
 ⟨some 27, none, .call (.c (.fn (.func 79) [] [])) [(.t 26)]⟩,
 ⟨none, none, .st 5 (.t 2) (.t 27)⟩] (some [2]))
 .ret)
 .skip))
 (.seq
 (.reg [⟨some 28, none, .mov (.t 0)⟩,
 ⟨some 29, none, .call (.c (.fn (.func 80) [] [])) [(.t 28)]⟩,
 ⟨some 30, none, .bld [(.int .i64 0), (.int .u8 0), (.int .i64 0), (.int .i64 0), (.bool false)] [(0, 1, (.t 29))]⟩,
 ⟨none, none, .st 5 (.t 2) (.t 30)⟩] (some [2]))
 .ret))))))
theorem is_clavierref09Look : IrOf Tryz.prog 33 31 ir_clavierref09Look [.cell 2 (some 5)] := ⟨_, Tryz.func33, rfl, by kernel_rfl, by kernel_rfl, by kernel_rfl⟩

def numsV (l : List Nat) : AV := if l = [] then .nils else .sl none 1 (intsAV (l.map fun n : Nat => (n : Int)))
def rowAV (r : RowK) : List AV := [.int .i64 (r.lo : Int), .int .i64 (r.many : Int), .int .i64 (r.kind : Int), .str r.finals, numsV r.nums, .str r.chars]
theorem fs_rows {Gl : Gh → Prop} (hst : Stays Gl) : FS Tryz.prog Gl 96 [] [] [] (.sl none 6 (rowsK.map rowAV)) [] [] := by
  refine FS.ofW hm hst is_keysrows rfl (by simp) fun γ hγ hfr => ?_
  (generalize hQ : (fun (ex : Ex) (_ _ : Nat) (s : St) => _) = Q; unfold ir_keysrows)
  simp +contextual (maxSteps := 1000000) only [go_sem, reduceCtorEq, ↓reduceIte, Nat.reduceAdd, Nat.reduceEqDiff, Nat.reduceLeDiff, Nat.reduceMul, Nat.reduceBEq, Int.reduceBEq, Int.reduceBNe, Int.reduceLT, Int.reduceLE, Int.reduceGT, Int.reduceGE, Int.reduceToNat]
  rw [← hQ]
  exact ⟨trivial, .inl ⟨_, rfl, RepLe.anon' rfl⟩⟩
set_option maxHeartbeats 2000000 in
theorem fs_entry {Gl : Gh → Prop} (hst : Stays Gl) {r : RowK} {i : Nat} (h1 : r.finals ≠ [] → i < r.finals.length) (h2 : r.nums ≠ [] → i < r.nums.length) (h3 : r.chars ≠ [] → i < r.chars.length) (h4 : r.many < 1000) : FS Tryz.prog Gl 97 [.agg (rowAV r), .int .i64 (i : Int)] [] [] (.agg (entAV (r.ent i))) [] [] := by
  refine FS.ofW hm hst is_keysrowentry rfl (by simp) fun γ hγ hfr => ?_
  (generalize hQ : (fun (ex : Ex) (_ _ : Nat) (s : St) => _) = Q; unfold ir_keysrowentry)
  obtain ⟨lo, many, kind, finals, nums, chars⟩ := r
  simp only at h1 h2 h3 h4
  unfold rowAV
  have hb : (decide ((lo : Int) ≥ 57399) && (kind : Int) != 6 && (kind : Int) != 7) = (decide (57399 ≤ lo) && (decide (kind ≠ 6) && decide (kind ≠ 7))) := by
    rw [Bool.eq_iff_iff]; simp only [Bool.and_eq_true, decide_eq_true_eq, bne_iff_ne, ne_eq]; omega
  have hw : IntKind.i64.wrap ((chars.getD i 0).toNat : Int) = ((chars.getD i 0).toNat : Int) := by
    have := (chars.getD i 0).toNat_lt
    rw [IntKind.wrap_i64]; omega
  by_cases hf : finals = [] <;> by_cases hn : nums = [] <;> by_cases hc : chars = []
  · subst hf
    subst hn
    have hnv : numsV [] = .nils := rfl
    subst hc
    simp +contextual (maxSteps := 1000000) only [hnv, hw, Int.toNat_natCast, go_sem, reduceCtorEq, ↓reduceIte, Nat.reduceAdd, Nat.reduceEqDiff, Nat.reduceLeDiff, Nat.reduceMul, Nat.reduceBEq, Int.reduceBEq, Int.reduceBNe, Int.reduceLT, Int.reduceLE, Int.reduceGT, Int.reduceGE, Int.reduceToNat]
    rw [← hQ]
    refine ⟨trivial, .inl ⟨.agg (entAV (RowK.ent _ i)), ?_, RepLe.refl _⟩⟩
    simp [resOf, getAll, IRes.get, lf, getH, entAV, RowK.ent, hb]
  · subst hf
    subst hn
    have hnv : numsV [] = .nils := rfl
    have qc : (decide (chars = [])) = false := by simp [hc]
    have lc1 := h3 hc
    simp +contextual (maxSteps := 1000000) only [hnv, qc, hw, Int.toNat_natCast, go_sem, reduceCtorEq, ↓reduceIte, Nat.reduceAdd, Nat.reduceEqDiff, Nat.reduceLeDiff, Nat.reduceMul, Nat.reduceBEq, Int.reduceBEq, Int.reduceBNe, Int.reduceLT, Int.reduceLE, Int.reduceGT, Int.reduceGE, Int.reduceToNat]
    refine ⟨⟨by omega, by omega⟩, ?_⟩
    rw [← hQ]
    refine ⟨trivial, .inl ⟨.agg (entAV (RowK.ent _ i)), ?_, RepLe.refl _⟩⟩
    simp [resOf, getAll, IRes.get, lf, getH, entAV, RowK.ent, hb]
  · subst hf
    have hnv : numsV nums = .sl none 1 (intsAV (nums.map fun n : Nat => (n : Int))) := if_neg hn
    have ln1 := h2 hn
    have hgn : (intsAV (nums.map fun n : Nat => (n : Int))).getD i [] = [.int .i64 ((nums.getD i 0 : Nat) : Int)] := by
      rw [List.getD_eq_getElem?_getD, List.getD_eq_getElem?_getD, intsAV, List.map_map, List.getElem?_map, List.getElem?_eq_getElem ln1]; rfl
    have hrn : (intsAV (nums.map fun n : Nat => (n : Int)) ≠ []) = True := by
      rw [eq_iff_iff, iff_true]; intro e; have := congrArg List.length e; simp [intsAV] at this; exact hn this
    have hln : (intsAV (nums.map fun n : Nat => (n : Int))).length = nums.length := by simp [intsAV]
    subst hc
    simp +contextual (maxSteps := 1000000) only [hnv, hgn, hrn, hln, hw, Int.toNat_natCast, go_sem, reduceCtorEq, ↓reduceIte, Nat.reduceAdd, Nat.reduceEqDiff, Nat.reduceLeDiff, Nat.reduceMul, Nat.reduceBEq, Int.reduceBEq, Int.reduceBNe, Int.reduceLT, Int.reduceLE, Int.reduceGT, Int.reduceGE, Int.reduceToNat]
    refine ⟨⟨by omega, by omega⟩, ?_⟩
    rw [← hQ]
    refine ⟨trivial, .inl ⟨.agg (entAV (RowK.ent _ i)), ?_, RepLe.refl _⟩⟩
    simp [resOf, getAll, IRes.get, lf, getH, entAV, RowK.ent, hb]
  · subst hf
    have hnv : numsV nums = .sl none 1 (intsAV (nums.map fun n : Nat => (n : Int))) := if_neg hn
    have ln1 := h2 hn
    have hgn : (intsAV (nums.map fun n : Nat => (n : Int))).getD i [] = [.int .i64 ((nums.getD i 0 : Nat) : Int)] := by
      rw [List.getD_eq_getElem?_getD, List.getD_eq_getElem?_getD, intsAV, List.map_map, List.getElem?_map, List.getElem?_eq_getElem ln1]; rfl
    have hrn : (intsAV (nums.map fun n : Nat => (n : Int)) ≠ []) = True := by
      rw [eq_iff_iff, iff_true]; intro e; have := congrArg List.length e; simp [intsAV] at this; exact hn this
    have hln : (intsAV (nums.map fun n : Nat => (n : Int))).length = nums.length := by simp [intsAV]
    have qc : (decide (chars = [])) = false := by simp [hc]
    have lc1 := h3 hc
    simp +contextual (maxSteps := 1000000) only [hnv, hgn, hrn, hln, qc, hw, Int.toNat_natCast, go_sem, reduceCtorEq, ↓reduceIte, Nat.reduceAdd, Nat.reduceEqDiff, Nat.reduceLeDiff, Nat.reduceMul, Nat.reduceBEq, Int.reduceBEq, Int.reduceBNe, Int.reduceLT, Int.reduceLE, Int.reduceGT, Int.reduceGE, Int.reduceToNat]
    refine ⟨⟨by omega, by omega⟩, ⟨by omega, by omega⟩, ?_⟩
    rw [← hQ]
    refine ⟨trivial, .inl ⟨.agg (entAV (RowK.ent _ i)), ?_, RepLe.refl _⟩⟩
    simp [resOf, getAll, IRes.get, lf, getH, entAV, RowK.ent, hb]
  · have qf : (decide (finals = [])) = false := by simp [hf]
    have lf1 := h1 hf
    subst hn
    have hnv : numsV [] = .nils := rfl
    subst hc
    simp +contextual (maxSteps := 1000000) only [qf, hnv, hw, Int.toNat_natCast, go_sem, reduceCtorEq, ↓reduceIte, Nat.reduceAdd, Nat.reduceEqDiff, Nat.reduceLeDiff, Nat.reduceMul, Nat.reduceBEq, Int.reduceBEq, Int.reduceBNe, Int.reduceLT, Int.reduceLE, Int.reduceGT, Int.reduceGE, Int.reduceToNat]
    refine ⟨⟨by omega, by omega⟩, ?_⟩
    rw [← hQ]
    refine ⟨trivial, .inl ⟨.agg (entAV (RowK.ent _ i)), ?_, RepLe.refl _⟩⟩
    simp [resOf, getAll, IRes.get, lf, getH, entAV, RowK.ent, hb]
  · have qf : (decide (finals = [])) = false := by simp [hf]
    have lf1 := h1 hf
    subst hn
    have hnv : numsV [] = .nils := rfl
    have qc : (decide (chars = [])) = false := by simp [hc]
    have lc1 := h3 hc
    simp +contextual (maxSteps := 1000000) only [qf, hnv, qc, hw, Int.toNat_natCast, go_sem, reduceCtorEq, ↓reduceIte, Nat.reduceAdd, Nat.reduceEqDiff, Nat.reduceLeDiff, Nat.reduceMul, Nat.reduceBEq, Int.reduceBEq, Int.reduceBNe, Int.reduceLT, Int.reduceLE, Int.reduceGT, Int.reduceGE, Int.reduceToNat]
    refine ⟨⟨by omega, by omega⟩, ⟨by omega, by omega⟩, ?_⟩
    rw [← hQ]
    refine ⟨trivial, .inl ⟨.agg (entAV (RowK.ent _ i)), ?_, RepLe.refl _⟩⟩
    simp [resOf, getAll, IRes.get, lf, getH, entAV, RowK.ent, hb]
  · have qf : (decide (finals = [])) = false := by simp [hf]
    have lf1 := h1 hf
    have hnv : numsV nums = .sl none 1 (intsAV (nums.map fun n : Nat => (n : Int))) := if_neg hn
    have ln1 := h2 hn
    have hgn : (intsAV (nums.map fun n : Nat => (n : Int))).getD i [] = [.int .i64 ((nums.getD i 0 : Nat) : Int)] := by
      rw [List.getD_eq_getElem?_getD, List.getD_eq_getElem?_getD, intsAV, List.map_map, List.getElem?_map, List.getElem?_eq_getElem ln1]; rfl
    have hrn : (intsAV (nums.map fun n : Nat => (n : Int)) ≠ []) = True := by
      rw [eq_iff_iff, iff_true]; intro e; have := congrArg List.length e; simp [intsAV] at this; exact hn this
    have hln : (intsAV (nums.map fun n : Nat => (n : Int))).length = nums.length := by simp [intsAV]
    subst hc
    simp +contextual (maxSteps := 1000000) only [qf, hnv, hgn, hrn, hln, hw, Int.toNat_natCast, go_sem, reduceCtorEq, ↓reduceIte, Nat.reduceAdd, Nat.reduceEqDiff, Nat.reduceLeDiff, Nat.reduceMul, Nat.reduceBEq, Int.reduceBEq, Int.reduceBNe, Int.reduceLT, Int.reduceLE, Int.reduceGT, Int.reduceGE, Int.reduceToNat]
    refine ⟨⟨by omega, by omega⟩, ⟨by omega, by omega⟩, ?_⟩
    rw [← hQ]
    refine ⟨trivial, .inl ⟨.agg (entAV (RowK.ent _ i)), ?_, RepLe.refl _⟩⟩
    simp [resOf, getAll, IRes.get, lf, getH, entAV, RowK.ent, hb]
  · have qf : (decide (finals = [])) = false := by simp [hf]
    have lf1 := h1 hf
    have hnv : numsV nums = .sl none 1 (intsAV (nums.map fun n : Nat => (n : Int))) := if_neg hn
    have ln1 := h2 hn
    have hgn : (intsAV (nums.map fun n : Nat => (n : Int))).getD i [] = [.int .i64 ((nums.getD i 0 : Nat) : Int)] := by
      rw [List.getD_eq_getElem?_getD, List.getD_eq_getElem?_getD, intsAV, List.map_map, List.getElem?_map, List.getElem?_eq_getElem ln1]; rfl
    have hrn : (intsAV (nums.map fun n : Nat => (n : Int)) ≠ []) = True := by
      rw [eq_iff_iff, iff_true]; intro e; have := congrArg List.length e; simp [intsAV] at this; exact hn this
    have hln : (intsAV (nums.map fun n : Nat => (n : Int))).length = nums.length := by simp [intsAV]
    have qc : (decide (chars = [])) = false := by simp [hc]
    have lc1 := h3 hc
    simp +contextual (maxSteps := 1000000) only [qf, hnv, hgn, hrn, hln, qc, hw, Int.toNat_natCast, go_sem, reduceCtorEq, ↓reduceIte, Nat.reduceAdd, Nat.reduceEqDiff, Nat.reduceLeDiff, Nat.reduceMul, Nat.reduceBEq, Int.reduceBEq, Int.reduceBNe, Int.reduceLT, Int.reduceLE, Int.reduceGT, Int.reduceGE, Int.reduceToNat]
    refine ⟨⟨by omega, by omega⟩, ⟨by omega, by omega⟩, ⟨by omega, by omega⟩, ?_⟩
    rw [← hQ]
    refine ⟨trivial, .inl ⟨.agg (entAV (RowK.ent _ i)), ?_, RepLe.refl _⟩⟩
    simp [resOf, getAll, IRes.get, lf, getH, entAV, RowK.ent, hb]
end Go.Proofs.YtbepihadhmfklaaGreatDoor

namespace Go.Proofs.YtbepihadhmfklaaGreatDoor
open Go Go.Ab

set_option maxHeartbeats 2000000 in
theorem fs_letter {Gl : Gh → Prop} (hst : Stays Gl) {c : Int} : FS Tryz.prog Gl 77 [.int .i64 c] [] [] (.int .u8 ((letR c).toNat : Int)) [] [] := by
  refine FS.of hm hst is_clavierref09letter (by simp) fun γ hγ hfr => ?_
  (generalize hQ : (fun (ex : Ex) (_ _ : Nat) (s : St) => _) = Q; unfold ir_clavierref09letter)
  (simp +contextual (maxSteps := 1000000) only [go_sem, reduceCtorEq, ↓reduceIte, Nat.reduceAdd, Nat.reduceEqDiff, Nat.reduceLeDiff, Nat.reduceMul, Nat.reduceBEq, Int.reduceBEq, Int.reduceBNe, Int.reduceLT, Int.reduceLE, Int.reduceGT, Int.reduceGE, Int.reduceToNat]; repeat' first | ((first | refine kCond_split (fun hg => ?_) (fun hg => ?_) | refine kGc_split (fun hg => ?_) (fun hg => ?_) | refine kPreG_split (fun hg => ?_) (fun hg => ?_)) <;> (try rw [hg]) <;> simp +contextual (maxSteps := 1000000) only [go_sem, reduceCtorEq, ↓reduceIte, Nat.reduceAdd, Nat.reduceEqDiff, Nat.reduceLeDiff, Nat.reduceMul, Nat.reduceBEq, Int.reduceBEq, Int.reduceBNe, Int.reduceLT, Int.reduceLE, Int.reduceGT, Int.reduceGE, Int.reduceToNat]) | refine And.intro (by omega) ?_)
  all_goals
    simp only [beq_iff_eq, beq_eq_false_iff_ne, ne_eq, decide_eq_true_eq, decide_eq_false_iff_not, Bool.or_eq_true, Bool.and_eq_true, Bool.or_eq_false_iff, Bool.and_eq_false_iff] at *
    rw [← hQ]
    clear hQ hfr
    refine ⟨trivial, Ret.flat ?_ rfl⟩
    first
    | (subst_vars; rfl)
    | (have e : letR c = 0 := by
        unfold letR
        repeat (first | rfl | rw [if_neg (by omega)] | rw [if_pos (by omega)])
       rw [e]; rfl)
set_option maxHeartbeats 2000000 in
theorem fs_number {Gl : Gh → Prop} (hst : Stays Gl) {c : Int} : FS Tryz.prog Gl 78 [.int .i64 c] [] [] (.int .i64 (numR c)) [] [] := by
  refine FS.of hm hst is_clavierref09number (by simp) fun γ hγ hfr => ?_
  (generalize hQ : (fun (ex : Ex) (_ _ : Nat) (s : St) => _) = Q; unfold ir_clavierref09number)
  (simp +contextual (maxSteps := 1000000) only [go_sem, reduceCtorEq, ↓reduceIte, Nat.reduceAdd, Nat.reduceEqDiff, Nat.reduceLeDiff, Nat.reduceMul, Nat.reduceBEq, Int.reduceBEq, Int.reduceBNe, Int.reduceLT, Int.reduceLE, Int.reduceGT, Int.reduceGE, Int.reduceToNat]; repeat' first | ((first | refine kCond_split (fun hg => ?_) (fun hg => ?_) | refine kGc_split (fun hg => ?_) (fun hg => ?_) | refine kPreG_split (fun hg => ?_) (fun hg => ?_)) <;> (try rw [hg]) <;> simp +contextual (maxSteps := 1000000) only [go_sem, reduceCtorEq, ↓reduceIte, Nat.reduceAdd, Nat.reduceEqDiff, Nat.reduceLeDiff, Nat.reduceMul, Nat.reduceBEq, Int.reduceBEq, Int.reduceBNe, Int.reduceLT, Int.reduceLE, Int.reduceGT, Int.reduceGE, Int.reduceToNat]) | refine And.intro (by omega) ?_)
  all_goals
    simp only [beq_iff_eq, beq_eq_false_iff_ne, ne_eq, decide_eq_true_eq, decide_eq_false_iff_not, Bool.or_eq_true, Bool.and_eq_true, Bool.or_eq_false_iff, Bool.and_eq_false_iff] at *
    rw [← hQ]
    clear hQ hfr
    refine ⟨trivial, Ret.flat ?_ rfl⟩
    first
    | (subst_vars; rfl)
    | (have e : numR c = 0 := by
        unfold numR
        repeat (first | rfl | rw [if_neg (by omega)] | rw [if_pos (by omega)])
       rw [e]; rfl)
set_option maxHeartbeats 2000000 in
theorem fs_rest {Gl : Gh → Prop} (hst : Stays Gl) {c : Int} : FS Tryz.prog Gl 80 [.int .i64 c] [] [] (.int .i64 (restR c)) [] [] := by
  refine FS.of hm hst is_clavierref09rest (by simp) fun γ hγ hfr => ?_
  have c1 := fs_rIs (Gl := Gl) hst (r := c)
  (generalize hQ : (fun (ex : Ex) (_ _ : Nat) (s : St) => _) = Q; unfold ir_clavierref09rest)
  rcases Bool.eq_false_or_eq_true (isCP c) with hcp | hcp
  all_goals
    rw [hcp] at c1
    ((try simp +contextual (maxSteps := 1000000) only [go_sem, reduceCtorEq, ↓reduceIte, Nat.reduceAdd, Nat.reduceEqDiff, Nat.reduceLeDiff, Nat.reduceMul, Nat.reduceBEq, Int.reduceBEq, Int.reduceBNe, Int.reduceLT, Int.reduceLE, Int.reduceGT, Int.reduceGE, Int.reduceToNat]); repeat' first | ((first | refine kCond_split (fun hg => ?_) (fun hg => ?_) | refine kGc_split (fun hg => ?_) (fun hg => ?_) | refine kPreG_split (fun hg => ?_) (fun hg => ?_)) <;> (try rw [hg]) <;> simp +contextual (maxSteps := 1000000) only [go_sem, reduceCtorEq, ↓reduceIte, Nat.reduceAdd, Nat.reduceEqDiff, Nat.reduceLeDiff, Nat.reduceMul, Nat.reduceBEq, Int.reduceBEq, Int.reduceBNe, Int.reduceLT, Int.reduceLE, Int.reduceGT, Int.reduceGE, Int.reduceToNat]) | ((first | refine CallP.pure c1 (fun _ => rfl) ?_) <;> simp +contextual (maxSteps := 1000000) only [go_sem, reduceCtorEq, ↓reduceIte, Nat.reduceAdd, Nat.reduceEqDiff, Nat.reduceLeDiff, Nat.reduceMul, Nat.reduceBEq, Int.reduceBEq, Int.reduceBNe, Int.reduceLT, Int.reduceLE, Int.reduceGT, Int.reduceGE, Int.reduceToNat]) | refine And.intro (by omega) ?_)
  all_goals
    simp only [beq_iff_eq, beq_eq_false_iff_ne, ne_eq, decide_eq_true_eq, decide_eq_false_iff_not, Bool.or_eq_true, Bool.and_eq_true, Bool.or_eq_false_iff, Bool.and_eq_false_iff] at *
    rw [← hQ]
    clear hQ hfr c1
    refine ⟨trivial, Ret.flat (show some (AV.int .i64 _) = some (AV.int .i64 _) from congrArg (fun z => some (AV.int .i64 z)) ?_) rfl⟩
    simp only [restR, hcp, Bool.true_eq_false, false_or, true_or]
    repeat (first | rfl | rw [if_neg (by omega)] | rw [if_pos (by omega)] | rw [if_pos trivial])
set_option maxHeartbeats 2000000 in
theorem fs_pad {Gl : Gh → Prop} (hst : Stays Gl) {c : Int} (h1 : 57399 ≤ c) (h2 : c ≤ 57416) : FS Tryz.prog Gl 79 [.int .i64 c] [] [] (.agg (entAV (padR c))) [] [] := by
  refine FS.ofW hm hst is_clavierref09pad rfl (by simp) fun γ hγ hfr => ?_
  (generalize hQ : (fun (ex : Ex) (_ _ : Nat) (s : St) => _) = Q; unfold ir_clavierref09pad)
  by_cases hle : c ≤ 57408
  · have hd : decide (c ≤ 57408) = true := by simp [hle]
    have hw0 : IntKind.i64.wrap (IntKind.i64.wrap (48 + c) - 57399) = 48 + c - 57399 := by simp only [IntKind.wrap_i64]; omega
    have hw1 : IntKind.u8.wrap (IntKind.i64.wrap (IntKind.i64.wrap (112 + c) - 57399)) = ((UInt8.ofNat (112 + c - 57399).toNat).toNat : Int) := by
      refine u8v ?_ (by omega)
      simp only [IntKind.wrap_i64]; omega
    simp +contextual (maxSteps := 1000000) only [hd, hw0, hw1, go_sem, reduceCtorEq, ↓reduceIte, Nat.reduceAdd, Nat.reduceEqDiff, Nat.reduceLeDiff, Nat.reduceMul, Nat.reduceBEq, Int.reduceBEq, Int.reduceBNe, Int.reduceLT, Int.reduceLE, Int.reduceGT, Int.reduceGE, Int.reduceToNat]
    rw [← hQ]
    refine ⟨trivial, .inl ⟨.agg (entAV (padR c)), ?_, RepLe.refl _⟩⟩
    have e : padR c = ⟨5, UInt8.ofNat (112 + c - 57399).toNat, 0, 48 + c - 57399, true⟩ := if_pos hle
    rw [e]
    simp [resOf, getAll, IRes.get, lf, getH, entAV]
  · have hd : decide (c ≤ 57408) = false := by simp [hle]
    have hw0 : IntKind.i64.wrap (c - 57409) = c - 57409 := by rw [IntKind.wrap_i64]; omega
    have hw1 : ∀ x : UInt8, IntKind.i64.wrap (x.toNat : Int) = (x.toNat : Int) := fun x => by
      have := x.toNat_lt
      rw [IntKind.wrap_i64]; omega
    simp +contextual (maxSteps := 1000000) only [hd, hw0, hw1, go_sem, reduceCtorEq, ↓reduceIte, Nat.reduceAdd, Nat.reduceEqDiff, Nat.reduceLeDiff, Nat.reduceMul, Nat.reduceBEq, Int.reduceBEq, Int.reduceBNe, Int.reduceLT, Int.reduceLE, Int.reduceGT, Int.reduceGE, Int.reduceToNat]
    refine ⟨⟨by omega, by omega⟩, ⟨by omega, by omega⟩, ?_⟩
    rw [← hQ]
    refine ⟨trivial, .inl ⟨.agg (entAV (padR c)), ?_, RepLe.refl _⟩⟩
    have e : padR c = ⟨5, [110, 111, 106, 109, 107, 77, 88, 108].getD (c - 57409).toNat 0, 0, (([46, 47, 42, 45, 43, 13, 61, 44].getD (c - 57409).toNat 0 : UInt8).toNat : Int), true⟩ := if_neg hle
    rw [e]
    simp [resOf, getAll, IRes.get, lf, getH, entAV]
theorem fs_rLook {Gl : Gh → Prop} (hst : Stays Gl) {c : Int} : FS Tryz.prog Gl 33 [.int .i64 c] [] [] (.agg (entAV (lookR c))) [] [] := by
  refine FS.ofW hm hst is_clavierref09Look rfl (by simp) fun γ hγ hfr => ?_
  have hge : decide (c ≥ 57399) = decide (57399 ≤ c) := rfl
  (generalize hQ : (fun (ex : Ex) (_ _ : Nat) (s : St) => _) = Q; unfold ir_clavierref09Look)
  simp +contextual (maxSteps := 1000000) only [go_sem, reduceCtorEq, ↓reduceIte, Nat.reduceAdd, Nat.reduceEqDiff, Nat.reduceLeDiff, Nat.reduceMul, Nat.reduceBEq, Int.reduceBEq, Int.reduceBNe, Int.reduceLT, Int.reduceLE, Int.reduceGT, Int.reduceGE, Int.reduceToNat]
  by_cases h1 : letR c = 0
  · have hq1 : (((letR c).toNat : Int) != 0) = false := by rw [h1]; rfl
    (refine CallP.pure (fs_letter hst) (fun _ => rfl) ?_; simp +contextual (maxSteps := 1000000) only [hq1, go_sem, reduceCtorEq, ↓reduceIte, Nat.reduceAdd, Nat.reduceEqDiff, Nat.reduceLeDiff, Nat.reduceMul, Nat.reduceBEq, Int.reduceBEq, Int.reduceBNe, Int.reduceLT, Int.reduceLE, Int.reduceGT, Int.reduceGE, Int.reduceToNat])
    by_cases h2 : numR c = 0
    · have hq2 : ((numR c) != 0) = false := by rw [h2]; rfl
      (refine CallP.pure (fs_number hst) (fun _ => rfl) ?_; simp +contextual (maxSteps := 1000000) only [hq2, go_sem, reduceCtorEq, ↓reduceIte, Nat.reduceAdd, Nat.reduceEqDiff, Nat.reduceLeDiff, Nat.reduceMul, Nat.reduceBEq, Int.reduceBEq, Int.reduceBNe, Int.reduceLT, Int.reduceLE, Int.reduceGT, Int.reduceGE, Int.reduceToNat])
      by_cases h3 : 57399 ≤ c
      · have hq3 : decide (57399 ≤ c) = true := by simp [h3]
        by_cases h4 : c ≤ 57416
        · have hq4 : decide (c ≤ 57416) = true := by simp [h4]
          simp +contextual (maxSteps := 1000000) only [hq3, hq4, hge, go_sem, reduceCtorEq, ↓reduceIte, Nat.reduceAdd, Nat.reduceEqDiff, Nat.reduceLeDiff, Nat.reduceMul, Nat.reduceBEq, Int.reduceBEq, Int.reduceBNe, Int.reduceLT, Int.reduceLE, Int.reduceGT, Int.reduceGE, Int.reduceToNat]
          (refine CallP.pure (fs_pad hst h3 h4) (fun _ => rfl) ?_; simp +contextual (maxSteps := 1000000) only [go_sem, reduceCtorEq, ↓reduceIte, Nat.reduceAdd, Nat.reduceEqDiff, Nat.reduceLeDiff, Nat.reduceMul, Nat.reduceBEq, Int.reduceBEq, Int.reduceBNe, Int.reduceLT, Int.reduceLE, Int.reduceGT, Int.reduceGE, Int.reduceToNat])
          refine ⟨⟨rfl, by simp [entAV, oneL, AV.one]⟩, ?_⟩
          rw [← hQ]
          refine ⟨trivial, .inl ⟨.agg (entAV (lookR c)), ?_, RepLe.refl _⟩⟩
          have e : lookR c = padR c := by rw [lookR, if_neg (fun h => h h1), if_neg (fun h => h h2), if_pos ⟨h3, h4⟩]
          rw [e]
          simp [resOf, getAll, IRes.get, lf, getH, entAV]
        · have hq4 : decide (c ≤ 57416) = false := by simp [h4]
          simp +contextual (maxSteps := 1000000) only [hq3, hq4, hge, go_sem, reduceCtorEq, ↓reduceIte, Nat.reduceAdd, Nat.reduceEqDiff, Nat.reduceLeDiff, Nat.reduceMul, Nat.reduceBEq, Int.reduceBEq, Int.reduceBNe, Int.reduceLT, Int.reduceLE, Int.reduceGT, Int.reduceGE, Int.reduceToNat]
          (refine CallP.pure (fs_rest hst) (fun _ => rfl) ?_; simp +contextual (maxSteps := 1000000) only [go_sem, reduceCtorEq, ↓reduceIte, Nat.reduceAdd, Nat.reduceEqDiff, Nat.reduceLeDiff, Nat.reduceMul, Nat.reduceBEq, Int.reduceBEq, Int.reduceBNe, Int.reduceLT, Int.reduceLE, Int.reduceGT, Int.reduceGE, Int.reduceToNat])
          rw [← hQ]
          refine ⟨trivial, .inl ⟨.agg (entAV (lookR c)), ?_, RepLe.refl _⟩⟩
          have e : lookR c = ⟨restR c, 0, 0, 0, false⟩ := by rw [lookR, if_neg (fun h => h h1), if_neg (fun h => h h2), if_neg (fun h => h4 h.2)]
          rw [e]
          simp [resOf, getAll, IRes.get, lf, getH, entAV]
      · have hq3 : decide (57399 ≤ c) = false := by simp [h3]
        have hq4 : decide (c ≤ 57416) = true := by simp; omega
        simp +contextual (maxSteps := 1000000) only [hq3, hq4, hge, go_sem, reduceCtorEq, ↓reduceIte, Nat.reduceAdd, Nat.reduceEqDiff, Nat.reduceLeDiff, Nat.reduceMul, Nat.reduceBEq, Int.reduceBEq, Int.reduceBNe, Int.reduceLT, Int.reduceLE, Int.reduceGT, Int.reduceGE, Int.reduceToNat]
        (refine CallP.pure (fs_rest hst) (fun _ => rfl) ?_; simp +contextual (maxSteps := 1000000) only [go_sem, reduceCtorEq, ↓reduceIte, Nat.reduceAdd, Nat.reduceEqDiff, Nat.reduceLeDiff, Nat.reduceMul, Nat.reduceBEq, Int.reduceBEq, Int.reduceBNe, Int.reduceLT, Int.reduceLE, Int.reduceGT, Int.reduceGE, Int.reduceToNat])
        rw [← hQ]
        refine ⟨trivial, .inl ⟨.agg (entAV (lookR c)), ?_, RepLe.refl _⟩⟩
        have e : lookR c = ⟨restR c, 0, 0, 0, false⟩ := by rw [lookR, if_neg (fun h => h h1), if_neg (fun h => h h2), if_neg (fun h => h3 h.1)]
        rw [e]
        simp [resOf, getAll, IRes.get, lf, getH, entAV]
    · have hq2 : ((numR c) != 0) = true := by simp [h2]
      (refine CallP.pure (fs_number hst) (fun _ => rfl) ?_; simp +contextual (maxSteps := 1000000) only [hq2, go_sem, reduceCtorEq, ↓reduceIte, Nat.reduceAdd, Nat.reduceEqDiff, Nat.reduceLeDiff, Nat.reduceMul, Nat.reduceBEq, Int.reduceBEq, Int.reduceBNe, Int.reduceLT, Int.reduceLE, Int.reduceGT, Int.reduceGE, Int.reduceToNat])
      (refine CallP.pure (fs_number hst) (fun _ => rfl) ?_; simp +contextual (maxSteps := 1000000) only [hge, go_sem, reduceCtorEq, ↓reduceIte, Nat.reduceAdd, Nat.reduceEqDiff, Nat.reduceLeDiff, Nat.reduceMul, Nat.reduceBEq, Int.reduceBEq, Int.reduceBNe, Int.reduceLT, Int.reduceLE, Int.reduceGT, Int.reduceGE, Int.reduceToNat])
      rw [← hQ]
      refine ⟨trivial, .inl ⟨.agg (entAV (lookR c)), ?_, RepLe.refl _⟩⟩
      have e : lookR c = ⟨4, 0, numR c, 0, decide (57399 ≤ c)⟩ := by rw [lookR, if_neg (fun h => h h1), if_pos h2]
      rw [e]
      simp [resOf, getAll, IRes.get, lf, getH, entAV]
  · have hq1 : (((letR c).toNat : Int) != 0) = true := by
      simp only [bne_iff_ne, ne_eq]
      intro e
      exact h1 (UInt8.toNat_inj.1 (by simpa using e))
    (refine CallP.pure (fs_letter hst) (fun _ => rfl) ?_; simp +contextual (maxSteps := 1000000) only [hq1, go_sem, reduceCtorEq, ↓reduceIte, Nat.reduceAdd, Nat.reduceEqDiff, Nat.reduceLeDiff, Nat.reduceMul, Nat.reduceBEq, Int.reduceBEq, Int.reduceBNe, Int.reduceLT, Int.reduceLE, Int.reduceGT, Int.reduceGE, Int.reduceToNat])
    (refine CallP.pure (fs_letter hst) (fun _ => rfl) ?_; simp +contextual (maxSteps := 1000000) only [hge, go_sem, reduceCtorEq, ↓reduceIte, Nat.reduceAdd, Nat.reduceEqDiff, Nat.reduceLeDiff, Nat.reduceMul, Nat.reduceBEq, Int.reduceBEq, Int.reduceBNe, Int.reduceLT, Int.reduceLE, Int.reduceGT, Int.reduceGE, Int.reduceToNat])
    rw [← hQ]
    refine ⟨trivial, .inl ⟨.agg (entAV (lookR c)), ?_, RepLe.refl _⟩⟩
    have e : lookR c = ⟨3, letR c, 0, 0, decide (57399 ≤ c)⟩ := by rw [lookR, if_pos h1]
    rw [e]
    simp [resOf, getAll, IRes.get, lf, getH, entAV]
end Go.Proofs.YtbepihadhmfklaaGreatDoor

namespace Go.Proofs.YtbepihadhmfklaaGreatDoor
open Go Go.Ab
/- clavier/keys.all$1 -/
def ir_keysall1_l0 : ICode :=
 (.seq
 (.reg [⟨some 14, none, .bin .lss .none (.t 13) (.t 12)⟩] (some [0, 3, 5, 6, 7, 12, 13, 14]))
 (.seq
 (.cond (.t 14)
 .skip
 (.exit 2))
 (.seq
 (.blk 3
 (.seq
 (.reg [⟨some 15, none, .mov (.t 13)⟩,
 ⟨some 4, none, .mov (.t 15)⟩] (some [0, 3, 4, 5, 6, 7, 12, 13]))
 (.seq
 (.drw [⟨⟨some 16, none, .mov (.t 0)⟩, []⟩,
 ⟨⟨some 17, none, .fa 0 (.t 3)⟩, []⟩,
 ⟨⟨some 18, none, .ld none (.t 17)⟩, [1]⟩,
 ⟨⟨some 19, none, .mov (.t 4)⟩, []⟩,
 ⟨⟨some 20, none, .bin .add .none (.t 18) (.t 19)⟩, [2, 3]⟩,
 ⟨⟨some 21, none, .ld (some 6) (.t 3)⟩, []⟩,
 ⟨⟨some 22, none, .mov (.t 4)⟩, []⟩,
 ⟨⟨some 23, none, .call (.c (.fn (.func 97) [] [])) [(.t 21), (.t 22)]⟩, [5, 6]⟩]
 [⟨some 24, none, .call (.t 16) [(.t 20), (.t 23)]⟩,
 ⟨some 25, none, .un .not (.t 24)⟩] (some [0, 3, 5, 6, 7, 12, 13, 25]))
 (.cond (.t 25)
 .ret
 .skip))))
 (.reg [⟨some 26, none, .bin .add .none (.t 13) (.c (.int .i64 1))⟩,
 ⟨some 13, none, .mov (.t 26)⟩] (some [0, 3, 5, 6, 7, 12, 13])))))
def ir_keysall1_l1 : ICode :=
 (.seq
 (.reg [⟨some 8, none, .bin .lss .none (.t 7) (.t 6)⟩] (some [0, 5, 6, 7, 8]))
 (.seq
 (.cond (.t 8)
 .skip
 (.exit 0))
 (.seq
 (.blk 1
 (.seq
 (.reg [⟨some 9, none, .ia 6 (.t 5) (.t 7)⟩,
 ⟨some 10, none, .ld (some 6) (.t 9)⟩,
 ⟨some 3, none, .box 109 (.c (.agg [(.int .i64 0), (.int .i64 0), (.int .i64 0), (.str []), .nils, (.str [])]))⟩,
 ⟨none, none, .st 6 (.t 3) (.t 10)⟩] (some [0, 3, 5, 6, 7]))
 (.seq
 (.reg [⟨some 11, none, .fa 1 (.t 3)⟩,
 ⟨some 12, none, .ld none (.t 11)⟩,
 ⟨some 13, none, .mov (.c (.int .i64 0))⟩] (some [0, 3, 5, 6, 7, 12, 13]))
 (.blk 2
 (.loop
 ir_keysall1_l0)))))
 (.reg [⟨some 27, none, .bin .add .none (.t 7) (.c (.int .i64 1))⟩,
 ⟨some 7, none, .mov (.t 27)⟩] (some [0, 5, 6, 7])))))
def ir_keysall1 : ICode :=
 (.seq
 (.reg [⟨some 5, none, .call (.c (.fn (.func 96) [] [])) []⟩,
 ⟨some 6, none, .len (.t 5)⟩,
 ⟨some 7, none, .mov (.c (.int .i64 0))⟩] (some [0, 5, 6, 7]))
 (.blk 0
 (.loop
 ir_keysall1_l1)))
theorem is_keysall1 : IrOf Tryz.prog 95 28 ir_keysall1 [] := ⟨_, Tryz.func95, rfl, by kernel_rfl, by kernel_rfl, by kernel_rfl⟩

def ir_keysall : ICode :=
 (.seq
 (.reg [⟨some 0, none, .mov (.c .nilf)⟩] (some []))
 (.seq
 (.reg [⟨some 0, none, .mov (.c (.fn (.func 95) [] []))⟩] (some [0]))
 .ret))
theorem is_keysall : IrOf Tryz.prog 50 1 ir_keysall [.t 0] := ⟨_, Tryz.func50, rfl, by kernel_rfl, by kernel_rfl, by kernel_rfl⟩

/- clavier/keys.Look -/
def ir_keysLook_b0 : ICode :=
 (.blk 1
 (.seq
 (.reg [⟨some 9, none, .mov (.t 3)⟩,
 ⟨some 10, none, .ld none (.t 1)⟩,
 ⟨some 11, none, .bin .eql .none (.t 9) (.t 10)⟩] (some [2, 4, 11]))
 (.cond (.t 11)
 (.seq
 (.reg [⟨some 12, none, .ld (some 5) (.t 4)⟩,
 ⟨none, none, .st 5 (.t 2) (.t 12)⟩] (some []))
 .ret)
 .skip)))
def ir_keysLook : ICode :=
 (.seq
 (.reg [⟨some 1, none, .box 3 (.t 0)⟩,
 ⟨some 2, none, .box 41 (.c (.agg [(.int .i64 0), (.int .u8 0), (.int .i64 0), (.int .i64 0), (.bool false)]))⟩] (some [1, 2]))
 (.seq
 (.seq
 (.reg [⟨some 6, none, .call (.c (.fn (.func 50) [] [])) []⟩] (some [1, 2, 6]))
 (.blk 0
 (.rgf (.t 6) [7, 8]
 (.seq
 (.reg [⟨some 3, none, .mov (.t 7)⟩] (some [1, 2, 3, 8]))
 (.reg [⟨some 4, none, .box 41 (.c (.agg [(.int .i64 0), (.int .u8 0), (.int .i64 0), (.int .i64 0), (.bool false)]))⟩,
 ⟨none, none, .st 5 (.t 4) (.t 8)⟩] (some [1, 2, 3, 4])))
 ir_keysLook_b0)))
 (.seq
 (.reg [⟨some 13, none, .ld none (.t 1)⟩,
 ⟨some 14, none, .bin .lss .none (.t 13) (.c (.int .i64 32))⟩,
 ⟨some 15, none, .mov (.t 14)⟩,
 ⟨some 16, some (15, false), .ld none (.t 1)⟩,
 ⟨some 17, some (15, false), .bin .geq .none (.t 16) (.c (.int .i64 127))⟩,
 ⟨some 18, some (15, false), .mov (.t 17)⟩,
 ⟨some 19, some (18, true), .ld none (.t 1)⟩,
 ⟨some 20, some (18, true), .bin .leq .none (.t 19) (.c (.int .i64 159))⟩,
 ⟨some 21, some (15, false), .pick (.t 18) (.t 20) (.c (.bool false))⟩,
 ⟨some 22, none, .pick (.t 15) (.c (.bool true)) (.t 21)⟩,
 ⟨some 5, none, .mov (.t 22)⟩] (some [1, 2, 5]))
 (.seq
 (.seq
 (.reg [⟨some 23, none, .mov (.t 5)⟩,
 ⟨some 24, none, .mov (.t 23)⟩,
 ⟨some 25, some (24, false), .ld none (.t 1)⟩,
 ⟨some 26, some (24, false), .bin .geq .none (.t 25) (.c (.int .i64 57344))⟩,
 ⟨some 27, some (24, false), .mov (.t 26)⟩,
 ⟨some 28, some (27, true), .ld none (.t 1)⟩,
 ⟨some 29, some (27, true), .bin .lss .none (.t 28) (.c (.int .i64 63744))⟩,
 ⟨some 30, some (24, false), .pick (.t 27) (.t 29) (.c (.bool false))⟩,
 ⟨some 31, none, .pick (.t 24) (.c (.bool true)) (.t 30)⟩,
 ⟨some 32, none, .mov (.t 31)⟩,
 ⟨some 33, some (32, false), .ld none (.t 1)⟩,
 ⟨some 34, some (32, false), .call (.c (.fn (.func 51) [] [])) [(.t 33)]⟩,
 ⟨some 35, some (32, false), .len (.t 34)⟩,
 ⟨some 36, some (32, false), .bin .eql .none (.t 35) (.c (.int .i64 0))⟩,
 ⟨some 37, none, .pick (.t 32) (.c (.bool true)) (.t 36)⟩] (some [2, 37]))
 (.cond (.t 37)
 (.seq
 (.reg [⟨some 38, none, .bld [(.int .i64 0), (.int .u8 0), (.int .i64 0), (.int .i64 0), (.bool false)] []⟩,
 ⟨none, none, .st 5 (.t 2) (.t 38)⟩] (some [2]))
 .ret)
 .skip))
 (.seq
 (.reg [⟨some 39, none, .bld [(.int .i64 0), (.int .u8 0), (.int .i64 0), (.int .i64 0), (.bool false)] [(0, 1, (.c (.int .i64 1)))]⟩,
 ⟨none, none, .st 5 (.t 2) (.t 39)⟩] (some [2]))
 .ret)))))
theorem is_keysLook : IrOf Tryz.prog 24 40 ir_keysLook [.cell 2 (some 5)] := ⟨_, Tryz.func24, rfl, by kernel_rfl, by kernel_rfl, by kernel_rfl⟩

def rowD : RowK := ⟨0, 0, 0, [], [], []⟩
def rowK (i : Nat) : RowK := rowsK.getD i rowD
def offK (i : Nat) : Nat := ((rowsK.take i).flatMap RowK.all).length
theorem offK_succ : ∀ i : Fin 21, offK (i.val + 1) = offK i.val + (rowK i.val).many := by decide +kernel
theorem offK_all : offK 21 = allK.length := by decide +kernel
theorem allK_at : ∀ i : Fin 21, ∀ j : Fin 23, j.val < (rowK i.val).many → allK[offK i.val + j.val]? = some ((rowK i.val).lo + j.val, (rowK i.val).ent j.val) := by decide +kernel
theorem rowK_many : ∀ i : Fin 21, (rowK i.val).many ≤ 23 ∧ (rowK i.val).lo < 70000 := by decide +kernel
theorem rowK_fits : ∀ i : Fin 21, ((rowK i.val).finals = [] ∨ (rowK i.val).finals.length = (rowK i.val).many) ∧ ((rowK i.val).nums = [] ∨ (rowK i.val).nums.length = (rowK i.val).many) ∧ ((rowK i.val).chars = [] ∨ (rowK i.val).chars.length = (rowK i.val).many) := by decide +kernel
theorem rows_get {i : Nat} (h : i < 21) : (rowsK.map rowAV).getD i [] = rowAV (rowK i) := by
  have hl : i < rowsK.length := h
  rw [List.getD_eq_getElem?_getD, List.getElem?_map, rowK, List.getD_eq_getElem?_getD, List.getElem?_eq_getElem hl]; rfl
def keyAV (p : Nat × Ent) : List AV := [.int .i64 (p.1 : Int), .agg (entAV p.2)]
theorem rowAV_length (r : RowK) : (rowAV r).length = 6 := rfl
theorem rowAV_one (r : RowK) : oneL (rowAV r) = True := by
  rw [eq_iff_iff, iff_true]
  simp only [rowAV, numsV]
  split <;> simp [oneL, AV.one]
set_option maxHeartbeats 4000000 in
theorem it_keys {Gl : Gh → Prop} : IterS Tryz.prog Gl 95 [] [] (allK.map keyAV) := by
  intro Gl' hst hG id J Jx hJid hround H T hJ
  refine FSX.of hm hst is_keysall1 (by simp) fun γ hγ hfr => ?_
  have hlen : rowsK.length = 21 := rfl
  (generalize hQ : (fun (ex : Ex) (_ _ : Nat) (s : St) => _) = Q; unfold ir_keysall1)
  simp +contextual (maxSteps := 1000000) only [go_sem, reduceCtorEq, ↓reduceIte, Nat.reduceAdd, Nat.reduceEqDiff, Nat.reduceLeDiff, Nat.reduceMul, Nat.reduceBEq, Int.reduceBEq, Int.reduceBNe, Int.reduceLT, Int.reduceLE, Int.reduceGT, Int.reduceGE, Int.reduceToNat]
  (refine CallP.pure (fs_rows hst) (fun _ => rfl) ?_; simp +contextual (maxSteps := 1000000) only [List.length_map, hlen, go_sem, reduceCtorEq, ↓reduceIte, Nat.reduceAdd, Nat.reduceEqDiff, Nat.reduceLeDiff, Nat.reduceMul, Nat.reduceBEq, Int.reduceBEq, Int.reduceBNe, Int.reduceLT, Int.reduceLE, Int.reduceGT, Int.reduceGE, Int.reduceToNat])
  refine kLoop_ix (fun q : Nat × Hp × Tk => ⟨lf [(0, .yl id), (5, .sl none 6 (rowsK.map rowAV)), (6, .int .i64 21), (7, .int .i64 (q.1 : Int))], q.2.1, q.2.2⟩)
    (fun q => q.1 ≤ 21 ∧ J (offK q.1) q.2.1 q.2.2) (fun q => 21 - q.1) 0 (0, H, T) ?_ ⟨by simp, hJ⟩ ?_
  · refine Wk.same ?_
    simp only [lfOK, upd, initF]
    repeat' first | exact AVle.refl _ _ | exact trivial | refine And.intro ?_ ?_ | exact AVle.int (by simp only [IntKind.wrap_i64]; omega)
  · rintro γ' ⟨i, Hi, Ti⟩ hf ⟨hi, hJi⟩
    simp only at hi hJi
    generalize hQ' : kIt _ _ _ _ _ = Q'
    unfold ir_keysall1_l1
    by_cases hlt : i < 21
    · have hd : decide ((i : Int) < 21) = true := by simp; omega
      have hg1 := rows_get hlt
      have hfresh : ∀ q ∈ Hi, q.1.1 ≠ γ' := fun q hq => hf.2.1 q hq
      have hs0 : ∀ hb, setH Hi (γ', 3, 0) hb = Hi := fun hb => setH_ne fun q hq e => hfresh q hq (by rw [e])
      have ht6 : ∀ r : RowK, List.take 6 (rowAV r) = rowAV r := fun r => rfl
      have hd1 : ∀ r : RowK, List.drop 1 (rowAV r) = [.int .i64 (r.many : Int), .int .i64 (r.kind : Int), .str r.finals, numsV r.nums, .str r.chars] := fun r => rfl
      have hm23 := rowK_many ⟨i, hlt⟩
      have hfit := rowK_fits ⟨i, hlt⟩
      have hoff := offK_succ ⟨i, hlt⟩
      simp only at hm23 hfit hoff
      simp +contextual (maxSteps := 1000000) only [hd, hg1, rowAV_length, rowAV_one, ht6, hd1, hs0, Int.toNat_natCast, List.length_map, hlen, go_sem, reduceCtorEq, ↓reduceIte, Nat.reduceAdd, Nat.reduceEqDiff, Nat.reduceLeDiff, Nat.reduceMul, Nat.reduceBEq, Int.reduceBEq, Int.reduceBNe, Int.reduceLT, Int.reduceLE, Int.reduceGT, Int.reduceGE, Int.reduceToNat]
      refine ⟨⟨by omega, by omega⟩, ?_⟩
      refine kLoop_ix (fun q : Nat × Hp × Tk => ⟨lf [(0, .yl id), (3, .ptr (γ', 3, 0) 0), (5, .sl none 6 (rowsK.map rowAV)), (6, .int .i64 21), (7, .int .i64 (i : Int)), (12, .int .i64 ((rowK i).many : Int)), (13, .int .i64 (q.1 : Int))], ((γ', 3, 0), .cells (rowAV (rowK i))) :: q.2.1, q.2.2⟩)
        (fun q => q.1 ≤ (rowK i).many ∧ J (offK i + q.1) q.2.1 q.2.2 ∧ ∀ p ∈ q.2.1, p.1 ≠ (γ', 3, 0)) (fun q => (rowK i).many - q.1) 0 (0, Hi, Ti) ?_ ⟨by simp, hJi, fun q hq e => hfresh q hq (by rw [e])⟩ ?_
      · refine Wk.same ?_
        simp only [lfOK, upd]
        repeat' first | exact AVle.refl _ _ | exact trivial | refine And.intro ?_ ?_ | exact AVle.int (by simp only [IntKind.wrap_i64]; omega)
      · rintro γ'' ⟨j, Hj, Tj⟩ hf2 ⟨hj, hJj, hnj⟩
        simp only at hj hJj hnj
        generalize hQ2 : kIt _ _ _ _ _ = Q2
        unfold ir_keysall1_l0
        by_cases hlj : j < (rowK i).many
        · have hd2 : decide ((j : Int) < ((rowK i).many : Int)) = true := by simp; omega
          have hat := allK_at ⟨i, hlt⟩ ⟨j, by omega⟩ hlj
          simp only at hat
          have hw : IntKind.i64.wrap (((rowK i).lo : Int) + (j : Int)) = (((rowK i).lo + j : Nat) : Int) := by rw [IntKind.wrap_i64]; omega
          have hrow : ∀ r : RowK, rowAV r = [.int .i64 (r.lo : Int), .int .i64 (r.many : Int), .int .i64 (r.kind : Int), .str r.finals, numsV r.nums, .str r.chars] := fun r => rfl
          have c1 := fs_entry (Gl := Gl') hst (r := rowK i) (i := j) (fun h => by rcases hfit.1 with h1 | h1; exact absurd h1 h; omega) (fun h => by rcases hfit.2.1 with h1 | h1; exact absurd h1 h; omega) (fun h => by rcases hfit.2.2 with h1 | h1; exact absurd h1 h; omega) (by omega)
          rw [hrow] at c1
          have hit : (allK.map keyAV)[offK i + j]? = some [.int .i64 (((rowK i).lo + j : Nat) : Int), .agg (entAV ((rowK i).ent j))] := by
            rw [List.getElem?_map, hat]; rfl
          simp +contextual (maxSteps := 1000000) only [hd2, hrow, hw, go_sem, reduceCtorEq, ↓reduceIte, Nat.reduceAdd, Nat.reduceEqDiff, Nat.reduceLeDiff, Nat.reduceMul, Nat.reduceBEq, Int.reduceBEq, Int.reduceBNe, Int.reduceLT, Int.reduceLE, Int.reduceGT, Int.reduceGE, Int.reduceToNat]
          refine DCall.new c1 ?_
          simp +contextual (maxSteps := 1000000) only [go_sem, reduceCtorEq, ↓reduceIte, Nat.reduceAdd, Nat.reduceEqDiff, Nat.reduceLeDiff, Nat.reduceMul, Nat.reduceBEq, Int.reduceBEq, Int.reduceBNe, Int.reduceLT, Int.reduceLE, Int.reduceGT, Int.reduceGE, Int.reduceToNat]
          refine CallY.splitN (Ha := [((γ', 3, 0), .cells [.int .i64 ((rowK i).lo : Int), .int .i64 ((rowK i).many : Int), .int .i64 ((rowK i).kind : Int), .str (rowK i).finals, numsV (rowK i).nums, .str (rowK i).chars])]) (hround (offK i + j) _ Hj Tj hit hJj) (fun p hp q hq => ?_) fun rv H1 T1 hR hN => ?_
          · simp only [List.mem_cons, List.not_mem_nil, or_false] at hp
            subst hp
            exact hnj q hq
          · rcases hR with ⟨rfl, hR⟩ | ⟨rfl, hR⟩
            · simp +contextual (maxSteps := 1000000) only [go_sem, reduceCtorEq, ↓reduceIte, Nat.reduceAdd, Nat.reduceEqDiff, Nat.reduceLeDiff, Nat.reduceMul, Nat.reduceBEq, Int.reduceBEq, Int.reduceBNe, Int.reduceLT, Int.reduceLE, Int.reduceGT, Int.reduceGE, Int.reduceToNat]
              rw [← hQ2]
              simp only [w_kIt_n]
              refine ⟨0, (j + 1, H1, T1), Wk.same ?_, ⟨by simp only; omega, hR, fun p hp => hN _ (List.mem_singleton.2 rfl) p hp⟩, by simp only; omega⟩
              repeat' first | exact AVle.refl _ _ | exact trivial | refine And.intro ?_ ?_ | exact AVle.int (by simp only [IntKind.wrap_i64]; omega)
            · simp +contextual (maxSteps := 1000000) only [go_sem, reduceCtorEq, ↓reduceIte, Nat.reduceAdd, Nat.reduceEqDiff, Nat.reduceLeDiff, Nat.reduceMul, Nat.reduceBEq, Int.reduceBEq, Int.reduceBNe, Int.reduceLT, Int.reduceLE, Int.reduceGT, Int.reduceGE, Int.reduceToNat]
              rw [← hQ2]
              simp only [w_kIt_r, w_kBlk_r, w_kSeq_r]
              rw [← hQ']
              simp only [w_kIt_r, w_kBlk_r, w_kSeq_r]
              rw [← hQ]
              exact ⟨trivial, H1, T1, .inr hR, fun p hp => by simp [hp], fun t ht => ht⟩
        · have hd2 : decide ((j : Int) < ((rowK i).many : Int)) = false := by simp; omega
          have hjm : j = (rowK i).many := by omega
          subst hjm
          simp +contextual (maxSteps := 1000000) only [hd2, go_sem, reduceCtorEq, ↓reduceIte, Nat.reduceAdd, Nat.reduceEqDiff, Nat.reduceLeDiff, Nat.reduceMul, Nat.reduceBEq, Int.reduceBEq, Int.reduceBNe, Int.reduceLT, Int.reduceLE, Int.reduceGT, Int.reduceGE, Int.reduceToNat]
          rw [← hQ2]
          simp only [w_kIt_e, w_kBlk_e, ↓reduceIte]
          simp +contextual (maxSteps := 1000000) only [go_sem, reduceCtorEq, ↓reduceIte, Nat.reduceAdd, Nat.reduceEqDiff, Nat.reduceLeDiff, Nat.reduceMul, Nat.reduceBEq, Int.reduceBEq, Int.reduceBNe, Int.reduceLT, Int.reduceLE, Int.reduceGT, Int.reduceGE, Int.reduceToNat]
          rw [← hQ']
          simp only [w_kIt_n]
          refine ⟨0, (i + 1, Hj, Tj), Wk.perm ?_ (fun p hp => List.mem_cons_of_mem _ hp), ⟨by simp only; omega, ?_⟩, by simp only; omega⟩
          · repeat' first | exact AVle.refl _ _ | exact trivial | refine And.intro ?_ ?_ | exact AVle.int (by simp only [IntKind.wrap_i64]; omega)
          · simp only; rw [hoff]; exact hJj
    · have hi21 : i = 21 := by omega
      subst hi21
      have hd : decide (((21 : Nat) : Int) < 21) = false := by simp
      simp +contextual (maxSteps := 1000000) only [hd, go_sem, reduceCtorEq, ↓reduceIte, Nat.reduceAdd, Nat.reduceEqDiff, Nat.reduceLeDiff, Nat.reduceMul, Nat.reduceBEq, Int.reduceBEq, Int.reduceBNe, Int.reduceLT, Int.reduceLE, Int.reduceGT, Int.reduceGE, Int.reduceToNat]
      rw [← hQ']
      simp only [w_kIt_e, w_kBlk_e, ↓reduceIte]
      rw [← hQ]
      rw [offK_all] at hJi
      refine ⟨trivial, Hi, Ti, .inl ?_, fun p hp => hp, fun t ht => ht⟩
      rw [List.length_map]; exact hJi
theorem fs_all {Gl : Gh → Prop} (hst : Stays Gl) : FS Tryz.prog Gl 50 [] [] [] (.fn (.func 95) [] []) [] [] := by
  refine FS.of hm hst is_keysall (by simp) fun γ hγ hfr => ?_
  (generalize hQ : (fun (ex : Ex) (_ _ : Nat) (s : St) => _) = Q; unfold ir_keysall)
  simp +contextual (maxSteps := 1000000) only [go_sem, reduceCtorEq, ↓reduceIte, Nat.reduceAdd, Nat.reduceEqDiff]
  rw [← hQ]
  exact ⟨trivial, Ret.plain rfl rfl (by simp) (by simp) ⟨trivial, trivial⟩ (by simp) (by simp)⟩
theorem getH_ne {id : Nm} : ∀ {H : Hp}, (∀ q ∈ H, q.1 ≠ id) → getH H id = none
  | [], _ => rfl
  | p :: H, h => by
    rw [getH_cons, if_neg (h p List.mem_cons_self)]
    exact getH_ne fun q hq => h q (List.mem_cons_of_mem _ hq)
theorem getH_append {id : Nm} : ∀ {H H' : Hp}, getH (H ++ H') id = match getH H id with | some x => some x | none => getH H' id
  | [], _ => rfl
  | p :: H, H' => by
    rw [List.cons_append, getH_cons, getH_cons]
    by_cases h : p.1 = id
    · rw [if_pos h, if_pos h]
    · rw [if_neg h, if_neg h]; exact getH_append
theorem setH_append {id : Nm} {hb : HB} {H H' : Hp} : setH (H ++ H') id hb = setH H id hb ++ setH H' id hb := by simp [setH]
set_option maxHeartbeats 4000000 in
theorem fs_Look {Gl : Gh → Prop} (hst : Stays Gl) {c : Int} : FS Tryz.prog Gl 24 [.int .i64 c] [] [] (.agg (entAV (lookR c))) [] [] := by
  rw [← lookK_eq]
  refine FS.ofW hm hst is_keysLook rfl (by simp) fun γ hγ hfr => ?_
  (generalize hQ : (fun (ex : Ex) (_ _ : Nat) (s : St) => _) = Q; unfold ir_keysLook)
  simp +contextual (maxSteps := 1000000) only [go_sem, reduceCtorEq, ↓reduceIte, Nat.reduceAdd, Nat.reduceEqDiff, Nat.reduceLeDiff, Nat.reduceMul, Nat.reduceBEq, Int.reduceBEq, Int.reduceBNe, Int.reduceLT, Int.reduceLE, Int.reduceGT, Int.reduceGE, Int.reduceToNat]
  refine CallP.of (fs_all hst) (by simp) (by simp) ?_
  simp +contextual (maxSteps := 1000000) only [go_sem, reduceCtorEq, ↓reduceIte, Nat.reduceAdd, Nat.reduceEqDiff, Nat.reduceLeDiff, Nat.reduceMul, Nat.reduceBEq, Int.reduceBEq, Int.reduceBNe, Int.reduceLT, Int.reduceLE, Int.reduceGT, Int.reduceGE, Int.reduceToNat]
  refine rgf_of rfl (allK.map keyAV)
    (fun i H T => (∀ p ∈ allK.take i, (p.1 : Int) ≠ c) ∧ ∃ pre : Hp, (∀ q ∈ pre, γ < q.1.1) ∧ H = pre ++ [((γ, 1, 0), .cells [.int .i64 0, .int .u8 0, .int .i64 0, .int .i64 0, .bool false]), ((γ, 0, 0), .cells [.int .i64 c])])
    (fun ex H T => ex = .ret ∧ ∃ (i : Nat) (p : Nat × Ent), allK[i]? = some p ∧ (p.1 : Int) = c ∧ (∀ q ∈ allK.take i, (q.1 : Int) ≠ c) ∧ ((γ, 1, 0), .cells (entAV p.2)) ∈ H)
    [] [((γ, 1, 0), .cells [.int .i64 0, .int .u8 0, .int .i64 0, .int .i64 0, .bool false]), ((γ, 0, 0), .cells [.int .i64 c])] (fun _ => False)
    it_keys (by simp) (by simp) (by simp) (by simp) ⟨by simp, [], by simp, rfl⟩ (fun x hx => by obtain ⟨p, _, rfl⟩ := List.mem_map.1 hx; rfl) ?_ ?_ ?_
  · rintro Gl' hst' hG i x H T γ' hx ⟨hne, pre, hpre, rfl⟩ hlt hfr'
    simp only [List.getElem?_map, Option.map_eq_some_iff] at hx
    obtain ⟨⟨k, e⟩, hp, rfl⟩ := hx
    have htk : allK.take (i + 1) = allK.take i ++ [(k, e)] := by rw [List.take_add_one, hp]; rfl
    have hke : keyAV (k, e) = [.int .i64 (k : Int), .agg [.int .i64 e.kind, .int .u8 (e.final.toNat : Int), .int .i64 e.num, .int .i64 e.char, .bool e.keys]] := rfl
    generalize hK : kBd _ _ _ = K
    unfold ir_keysLook_b0
    have hg1 : (γ = γ') = False := by rw [eq_iff_iff, iff_false]; omega
    have hg2 : (γ' = γ) = False := by rw [eq_iff_iff, iff_false]; omega
    have hn : ∀ q ∈ pre ++ [((γ, 1, 0), .cells [.int .i64 0, .int .u8 0, .int .i64 0, .int .i64 0, .bool false]), ((γ, 0, 0), .cells [.int .i64 c])], q.1.1 ≠ γ' := fun q hq => hfr'.1 q hq
    have hs0 : ∀ hb, setH (pre ++ [((γ, 1, 0), .cells [.int .i64 0, .int .u8 0, .int .i64 0, .int .i64 0, .bool false]), ((γ, 0, 0), .cells [.int .i64 c])]) (γ', 1, 0) hb = pre ++ [((γ, 1, 0), .cells [.int .i64 0, .int .u8 0, .int .i64 0, .int .i64 0, .bool false]), ((γ, 0, 0), .cells [.int .i64 c])] := fun hb => setH_ne fun q hq e => hn q hq (by rw [e])
    have hp0 : getH pre (γ, 0, 0) = none := getH_ne fun q hq e => by have := hpre q hq; rw [e] at this; simp only at this; omega
    have hp1 : getH pre (γ, 1, 0) = none := getH_ne fun q hq e => by have := hpre q hq; rw [e] at this; simp only at this; omega
    have hr0 : getH (pre ++ [((γ, 1, 0), .cells [.int .i64 0, .int .u8 0, .int .i64 0, .int .i64 0, .bool false]), ((γ, 0, 0), .cells [.int .i64 c])]) (γ, 0, 0) = some (.cells [.int .i64 c]) := by rw [getH_append, hp0]; simp [getH]
    have hr1 : getH (pre ++ [((γ, 1, 0), .cells [.int .i64 0, .int .u8 0, .int .i64 0, .int .i64 0, .bool false]), ((γ, 0, 0), .cells [.int .i64 c])]) (γ, 1, 0) = some (.cells [.int .i64 0, .int .u8 0, .int .i64 0, .int .i64 0, .bool false]) := by rw [getH_append, hp1]; simp [getH]
    have hs1 : ∀ hb, setH (pre ++ [((γ, 1, 0), .cells [.int .i64 0, .int .u8 0, .int .i64 0, .int .i64 0, .bool false]), ((γ, 0, 0), .cells [.int .i64 c])]) (γ, 1, 0) hb = pre ++ [((γ, 1, 0), hb), ((γ, 0, 0), .cells [.int .i64 c])] := fun hb => by
      have : setH pre (γ, 1, 0) hb = pre := setH_ne fun q hq e => by have := hpre q hq; rw [e] at this; simp only at this; omega
      rw [setH_append, this]; simp [setH]
    by_cases hkc : (k : Int) = c
    · have hd : ((k : Int) == c) = true := by simp [hkc]
      simp +contextual (maxSteps := 1000000) only [hke, hd, hg1, hg2, false_and, hs0, hr0, hr1, hs1, go_sem, reduceCtorEq, ↓reduceIte, Nat.reduceAdd, Nat.reduceEqDiff, Nat.reduceLeDiff, Nat.reduceMul, Nat.reduceBEq, Int.reduceBEq, Int.reduceBNe, Int.reduceLT, Int.reduceLE, Int.reduceGT, Int.reduceGE, Int.reduceToNat]
      rw [← hK]
      refine ⟨rfl, i, (k, e), hp, hkc, hne, ?_⟩
      simp [entAV]
    · have hd : ((k : Int) == c) = false := by simp [hkc]
      simp +contextual (maxSteps := 1000000) only [hke, hd, hg1, hg2, false_and, hs0, hr0, hr1, hs1, go_sem, reduceCtorEq, ↓reduceIte, Nat.reduceAdd, Nat.reduceEqDiff, Nat.reduceLeDiff, Nat.reduceMul, Nat.reduceBEq, Int.reduceBEq, Int.reduceBNe, Int.reduceLT, Int.reduceLE, Int.reduceGT, Int.reduceGE, Int.reduceToNat]
      rw [← hK]
      refine ⟨fun p hp' => ?_, ((γ', 1, 0), .cells [.int .i64 e.kind, .int .u8 (e.final.toNat : Int), .int .i64 e.num, .int .i64 e.char, .bool e.keys]) :: pre, fun q hq => ?_, rfl⟩
      · rw [htk] at hp'
        rcases List.mem_append.1 hp' with h | h
        · exact hne p h
        · simp only [List.mem_singleton] at h; rw [h]; exact hkc
      · rcases List.mem_cons.1 hq with rfl | h
        · exact hlt
        · exact hpre q h
  · rintro H1 T1 ⟨hne, pre, hpre, rfl⟩
    rw [List.length_map, List.take_length] at hne
    have hlk : lookK c = if isCP c = false ∨ c < 32 ∨ (127 ≤ c ∧ c ≤ 159) ∨ (57344 ≤ c ∧ c ≤ 63743) then ⟨0, 0, 0, 0, false⟩ else ⟨1, 0, 0, 0, false⟩ := by
      have : (allK.find? fun p => decide ((p.1 : Int) = c)) = none := by
        rw [List.find?_eq_none]; intro p hp; simpa using hne p hp
      rw [lookK, this]
    refine ⟨[((γ, 1, 0), .cells [.int .i64 0, .int .u8 0, .int .i64 0, .int .i64 0, .bool false]), ((γ, 0, 0), .cells [.int .i64 c])], T1, fun p hp => List.mem_append.2 (.inl (List.mem_append.2 (.inr hp))), fun _ h => .inl h, ?_⟩
    by_cases hA : (c < 32 ∨ (127 ≤ c ∧ c ≤ 159)) ∨ (57344 ≤ c ∧ c ≤ 63743)
    · have hA2 : (decide (c < 32) || (decide (c ≥ 127) && decide (c ≤ 159)) || (decide (c ≥ 57344) && decide (c < 63744))) = true := by
        simp only [Bool.or_eq_true, Bool.and_eq_true, decide_eq_true_eq]; omega
      have hfin : lookK c = ⟨0, 0, 0, 0, false⟩ := by rw [hlk, if_pos (by omega)]
      simp +contextual (maxSteps := 1000000) only [hA2, go_sem, reduceCtorEq, ↓reduceIte, Nat.reduceAdd, Nat.reduceEqDiff, Nat.reduceLeDiff, Nat.reduceMul, Nat.reduceBEq, Int.reduceBEq, Int.reduceBNe, Int.reduceLT, Int.reduceLE, Int.reduceGT, Int.reduceGE, Int.reduceToNat]
      rw [← hQ, hfin]
      refine ⟨trivial, .inl ⟨.agg (entAV ⟨0, 0, 0, 0, false⟩), ?_, RepLe.refl _⟩⟩
      simp [resOf, getAll, IRes.get, lf, getH, entAV]
    · have hA2 : (decide (c < 32) || (decide (c ≥ 127) && decide (c ≤ 159)) || (decide (c ≥ 57344) && decide (c < 63744))) = false := by
        rw [Bool.eq_false_iff]
        simp only [ne_eq, Bool.or_eq_true, Bool.and_eq_true, decide_eq_true_eq]; omega
      simp +contextual (maxSteps := 1000000) only [hA2, go_sem, reduceCtorEq, ↓reduceIte, Nat.reduceAdd, Nat.reduceEqDiff, Nat.reduceLeDiff, Nat.reduceMul, Nat.reduceBEq, Int.reduceBEq, Int.reduceBNe, Int.reduceLT, Int.reduceLE, Int.reduceGT, Int.reduceGE, Int.reduceToNat]
      have hpl : (((putU c).length : Int) == 0) = !isCP c := by
        cases h : isCP c with
        | false => rw [putU, if_neg (by rw [h]; simp)]; rfl
        | true =>
          have := List.length_pos_iff.2 (putU_ne.2 h)
          simp only [Bool.not_true, beq_eq_false_iff_ne, ne_eq]; omega
      (refine CallP.pure (fs_putU hst) (fun _ => rfl) ?_; simp +contextual (maxSteps := 1000000) only [bytesAV_length', hpl, go_sem, reduceCtorEq, ↓reduceIte, Nat.reduceAdd, Nat.reduceEqDiff, Nat.reduceLeDiff, Nat.reduceMul, Nat.reduceBEq, Int.reduceBEq, Int.reduceBNe, Int.reduceLT, Int.reduceLE, Int.reduceGT, Int.reduceGE, Int.reduceToNat])
      cases h : isCP c with
      | false =>
        have hfin : lookK c = ⟨0, 0, 0, 0, false⟩ := by rw [hlk, if_pos (.inl h)]
        simp +contextual (maxSteps := 1000000) only [h, go_sem, reduceCtorEq, ↓reduceIte, Nat.reduceAdd, Nat.reduceEqDiff, Nat.reduceLeDiff, Nat.reduceMul, Nat.reduceBEq, Int.reduceBEq, Int.reduceBNe, Int.reduceLT, Int.reduceLE, Int.reduceGT, Int.reduceGE, Int.reduceToNat]
        rw [← hQ, hfin]
        refine ⟨trivial, .inl ⟨.agg (entAV ⟨0, 0, 0, 0, false⟩), ?_, RepLe.refl _⟩⟩
        simp [resOf, getAll, IRes.get, lf, getH, entAV]
      | true =>
        have hfin : lookK c = ⟨1, 0, 0, 0, false⟩ := by
          rw [hlk, if_neg]
          rintro (h' | h')
          · rw [h] at h'; cases h'
          · omega
        simp +contextual (maxSteps := 1000000) only [h, go_sem, reduceCtorEq, ↓reduceIte, Nat.reduceAdd, Nat.reduceEqDiff, Nat.reduceLeDiff, Nat.reduceMul, Nat.reduceBEq, Int.reduceBEq, Int.reduceBNe, Int.reduceLT, Int.reduceLE, Int.reduceGT, Int.reduceGE, Int.reduceToNat]
        rw [← hQ, hfin]
        refine ⟨trivial, .inl ⟨.agg (entAV ⟨1, 0, 0, 0, false⟩), ?_, RepLe.refl _⟩⟩
        simp [resOf, getAll, IRes.get, lf, getH, entAV]
  · rintro ex H1 T1 ⟨rfl, i, p, hp, hpc, hne, hm'⟩
    have hlk : lookK c = p.2 := by
      have : (allK.find? fun p => decide ((p.1 : Int) = c)) = some p := by
        have hil := (List.getElem?_eq_some_iff.1 hp).1
        have hs : allK = allK.take i ++ p :: allK.drop (i + 1) := by
          rw [← (List.getElem?_eq_some_iff.1 hp).2, List.getElem_cons_drop, List.take_append_drop]
        rw [hs, List.find?_append]
        have h1 : ((allK.take i).find? fun p => decide ((p.1 : Int) = c)) = none := by
          rw [List.find?_eq_none]; intro q hq; simpa using hne q hq
        rw [h1]
        simp [hpc]
      rw [lookK, this]
    refine ⟨[((γ, 1, 0), .cells (entAV p.2))], fun _ => False, fun q hq => List.mem_append.2 (.inl ?_), fun _ h => h.elim, ?_⟩
    · simp only [List.mem_cons, List.not_mem_nil, or_false] at hq
      subst hq; exact hm'
    · simp only [w_kBlk_r, w_kSeq_r]
      rw [← hQ, hlk]
      refine ⟨trivial, .inl ⟨.agg (entAV p.2), ?_, RepLe.refl _⟩⟩
      simp [resOf, getAll, IRes.get, lf, getH, entAV]
end Go.Proofs.YtbepihadhmfklaaGreatDoor

namespace Go.Proofs.YtbepihadhmfklaaGreatDoor
open Go Go.Ab
def ir_kittyForm : ICode :=
 (.seq
 (.reg [⟨some 2, none, .mov (.c (.int .i64 0))⟩,
 ⟨some 3, none, .mov (.c (.int .u8 0))⟩] (some [0]))
 (.seq
 (.seq
 (.reg [⟨some 5, none, .mov (.t 0)⟩,
 ⟨some 6, none, .call (.c (.fn (.func 24) [] [])) [(.t 5)]⟩,
 ⟨some 4, none, .box 41 (.c (.agg [(.int .i64 0), (.int .u8 0), (.int .i64 0), (.int .i64 0), (.bool false)]))⟩,
 ⟨none, none, .st 5 (.t 4) (.t 6)⟩] (some [0, 4]))
 (.blk 0
 (.seq
 (.reg [⟨some 8, none, .fa 0 (.t 4)⟩,
 ⟨some 9, none, .ld none (.t 8)⟩,
 ⟨some 10, none, .bin .eql .none (.t 9) (.c (.int .i64 0))⟩,
 ⟨some 7, none, .mov (.t 10)⟩] (some [0, 4, 7]))
 (.cond (.t 7)
 (.seq
 (.reg [⟨some 2, none, .mov (.c (.int .i64 0))⟩,
 ⟨some 3, none, .mov (.c (.int .u8 0))⟩] (some [2, 3]))
 .ret)
 (.seq
 (.reg [⟨some 12, none, .mov (.t 0)⟩,
 ⟨some 13, none, .bin .eql .none (.t 12) (.c (.int .i64 57366))⟩,
 ⟨some 11, none, .mov (.t 13)⟩] (some [0, 4, 11]))
 (.cond (.t 11)
 (.seq
 (.reg [⟨some 2, none, .mov (.c (.int .i64 13))⟩,
 ⟨some 3, none, .mov (.c (.int .u8 126))⟩] (some [2, 3]))
 .ret)
 (.seq
 (.reg [⟨some 15, none, .fa 0 (.t 4)⟩,
 ⟨some 16, none, .ld none (.t 15)⟩,
 ⟨some 17, none, .bin .eql .none (.t 16) (.c (.int .i64 3))⟩,
 ⟨some 18, none, .mov (.t 17)⟩,
 ⟨some 19, some (18, true), .fa 4 (.t 4)⟩,
 ⟨some 20, some (18, true), .ld none (.t 19)⟩,
 ⟨some 21, some (18, true), .un .not (.t 20)⟩,
 ⟨some 22, none, .pick (.t 18) (.t 21) (.c (.bool false))⟩,
 ⟨some 14, none, .mov (.t 22)⟩] (some [0, 4, 14]))
 (.cond (.t 14)
 (.seq
 (.drw [⟨⟨some 23, none, .fa 1 (.t 4)⟩, []⟩,
 ⟨⟨some 24, none, .ld none (.t 23)⟩, [0]⟩,
 ⟨⟨some 2, none, .mov (.c (.int .i64 1))⟩, []⟩]
 [⟨some 3, none, .mov (.t 24)⟩] (some [2, 3]))
 .ret)
 (.seq
 (.reg [⟨some 26, none, .fa 0 (.t 4)⟩,
 ⟨some 27, none, .ld none (.t 26)⟩,
 ⟨some 28, none, .bin .eql .none (.t 27) (.c (.int .i64 4))⟩,
 ⟨some 29, none, .mov (.t 28)⟩,
 ⟨some 30, some (29, true), .fa 4 (.t 4)⟩,
 ⟨some 31, some (29, true), .ld none (.t 30)⟩,
 ⟨some 32, some (29, true), .un .not (.t 31)⟩,
 ⟨some 33, none, .pick (.t 29) (.t 32) (.c (.bool false))⟩,
 ⟨some 25, none, .mov (.t 33)⟩] (some [0, 4, 25]))
 (.cond (.t 25)
 (.seq
 (.reg [⟨some 34, none, .fa 2 (.t 4)⟩,
 ⟨some 35, none, .ld none (.t 34)⟩,
 ⟨some 2, none, .mov (.t 35)⟩,
 ⟨some 3, none, .mov (.c (.int .u8 126))⟩] (some [2, 3]))
 .ret)
 .skip))))))))))
 (.seq
 (.reg [⟨some 36, none, .mov (.t 0)⟩,
 ⟨some 2, none, .mov (.t 36)⟩,
 ⟨some 3, none, .mov (.c (.int .u8 117))⟩] (some [2, 3]))
 .ret)))
theorem is_kittyForm : IrOf Tryz.prog 56 37 ir_kittyForm [.t 2, .t 3] := ⟨_, Tryz.func56, rfl, by kernel_rfl, by kernel_rfl, by kernel_rfl⟩

def ir_clavierref13Form : ICode :=
 (.seq
 (.reg [⟨some 2, none, .mov (.c (.int .i64 0))⟩,
 ⟨some 3, none, .mov (.c (.int .u8 0))⟩] (some [0]))
 (.seq
 (.reg [⟨some 5, none, .mov (.t 0)⟩,
 ⟨some 6, none, .call (.c (.fn (.func 33) [] [])) [(.t 5)]⟩,
 ⟨some 4, none, .box 55 (.c (.agg [(.int .i64 0), (.int .u8 0), (.int .i64 0), (.int .i64 0), (.bool false)]))⟩,
 ⟨none, none, .st 5 (.t 4) (.t 6)⟩] (some [0, 4]))
 (.seq
 (.blk 0
 (.seq
 (.reg [⟨some 8, none, .fa 0 (.t 4)⟩,
 ⟨some 9, none, .ld none (.t 8)⟩,
 ⟨some 10, none, .bin .eql .none (.t 9) (.c (.int .i64 0))⟩,
 ⟨some 7, none, .mov (.t 10)⟩] (some [0, 4, 7]))
 (.cond (.t 7)
 (.seq
 (.reg [⟨some 2, none, .mov (.c (.int .i64 0))⟩,
 ⟨some 3, none, .mov (.c (.int .u8 0))⟩] (some [2, 3]))
 .ret)
 (.seq
 (.reg [⟨some 12, none, .mov (.t 0)⟩,
 ⟨some 13, none, .bin .eql .none (.t 12) (.c (.int .i64 57366))⟩,
 ⟨some 11, none, .mov (.t 13)⟩] (some [0, 4, 11]))
 (.cond (.t 11)
 (.seq
 (.reg [⟨some 2, none, .mov (.c (.int .i64 13))⟩,
 ⟨some 3, none, .mov (.c (.int .u8 126))⟩] (some [2, 3]))
 .ret)
 (.seq
 (.reg [⟨some 15, none, .fa 0 (.t 4)⟩,
 ⟨some 16, none, .ld none (.t 15)⟩,
 ⟨some 17, none, .bin .eql .none (.t 16) (.c (.int .i64 3))⟩,
 ⟨some 18, none, .mov (.t 17)⟩,
 ⟨some 19, some (18, true), .fa 4 (.t 4)⟩,
 ⟨some 20, some (18, true), .ld none (.t 19)⟩,
 ⟨some 21, some (18, true), .un .not (.t 20)⟩,
 ⟨some 22, none, .pick (.t 18) (.t 21) (.c (.bool false))⟩,
 ⟨some 14, none, .mov (.t 22)⟩] (some [0, 4, 14]))
 (.cond (.t 14)
 (.seq
 (.drw [⟨⟨some 23, none, .fa 1 (.t 4)⟩, []⟩,
 ⟨⟨some 24, none, .ld none (.t 23)⟩, [0]⟩,
 ⟨⟨some 2, none, .mov (.c (.int .i64 1))⟩, []⟩]
 [⟨some 3, none, .mov (.t 24)⟩] (some [2, 3]))
 .ret)
 (.seq
 (.reg [⟨some 26, none, .fa 0 (.t 4)⟩,
 ⟨some 27, none, .ld none (.t 26)⟩,
 ⟨some 28, none, .bin .eql .none (.t 27) (.c (.int .i64 4))⟩,
 ⟨some 29, none, .mov (.t 28)⟩,
 ⟨some 30, some (29, true), .fa 4 (.t 4)⟩,
 ⟨some 31, some (29, true), .ld none (.t 30)⟩,
 ⟨some 32, some (29, true), .un .not (.t 31)⟩,
 ⟨some 33, none, .pick (.t 29) (.t 32) (.c (.bool false))⟩,
 ⟨some 25, none, .mov (.t 33)⟩] (some [0, 4, 25]))
 (.cond (.t 25)
 (.seq
 (.reg [⟨some 34, none, .fa 2 (.t 4)⟩,
 ⟨some 35, none, .ld none (.t 34)⟩,
 ⟨some 2, none, .mov (.t 35)⟩,
 ⟨some 3, none, .mov (.c (.int .u8 126))⟩] (some [2, 3]))
 .ret)
 .skip)))))))))
 (.seq
 (.reg [⟨some 36, none, .mov (.t 0)⟩,
 ⟨some 2, none, .mov (.t 36)⟩,
 ⟨some 3, none, .mov (.c (.int .u8 117))⟩] (some [2, 3]))
 .ret))))
theorem is_clavierref13Form : IrOf Tryz.prog 114 37 ir_clavierref13Form [.t 2, .t 3] := ⟨_, Tryz.func114, rfl, by kernel_rfl, by kernel_rfl, by kernel_rfl⟩

def ir_modsParam : ICode :=
 (.seq
 (.reg [⟨some 2, none, .mov (.c (.int .i64 0))⟩] (some [0]))
 (.seq
 (.seq
 (.reg [⟨some 3, none, .mov (.t 0)⟩,
 ⟨some 4, none, .bin .lss .none (.t 3) (.c (.int .i64 0))⟩,
 ⟨some 5, none, .mov (.t 4)⟩,
 ⟨some 6, some (5, false), .mov (.t 0)⟩,
 ⟨some 7, some (5, false), .bin .gtr .none (.t 6) (.c (.int .i64 255))⟩,
 ⟨some 8, none, .pick (.t 5) (.c (.bool true)) (.t 7)⟩] (some [0, 8]))
 (.cond (.t 8)
 (.seq
 (.reg [⟨some 2, none, .mov (.c (.int .i64 1))⟩] (some [2]))
 .ret)
 .skip))
 (.seq
 (.reg [⟨some 9, none, .mov (.t 0)⟩,
 ⟨some 10, none, .bin .add .none (.t 9) (.c (.int .i64 1))⟩,
 ⟨some 2, none, .mov (.t 10)⟩] (some [2]))
 .ret)))
theorem is_modsParam : IrOf Tryz.prog 42 11 ir_modsParam [.t 2] := ⟨_, Tryz.func42, rfl, by kernel_rfl, by kernel_rfl, by kernel_rfl⟩

def ir_modsShown : ICode :=
 (.seq
 (.reg [⟨some 1, none, .box 25 (.t 0)⟩,
 ⟨some 2, none, .mov (.c (.int .i64 0))⟩] (some [1]))
 (.seq
 (.blk 0
 (.seq
 (.reg [⟨some 4, none, .fa 1 (.t 1)⟩,
 ⟨some 5, none, .ld none (.t 4)⟩,
 ⟨some 6, none, .mm false (.t 5) (.c (.int .i64 0))⟩,
 ⟨some 7, none, .bin .and .none (.t 6) (.c (.int .i64 1))⟩,
 ⟨some 8, none, .bin .eql .none (.t 7) (.c (.int .i64 0))⟩,
 ⟨some 3, none, .mov (.t 8)⟩] (some [1, 3]))
 (.cond (.t 3)
 (.seq
 (.reg [⟨some 9, none, .fa 0 (.t 1)⟩,
 ⟨some 10, none, .ld none (.t 9)⟩,
 ⟨some 2, none, .mov (.t 10)⟩] (some [2]))
 .ret)
 (.seq
 (.reg [⟨some 12, none, .fa 3 (.t 1)⟩,
 ⟨some 13, none, .ld none (.t 12)⟩,
 ⟨some 14, none, .bin .neq .none (.t 13) (.c (.int .i64 0))⟩,
 ⟨some 11, none, .mov (.t 14)⟩] (some [1, 11]))
 (.cond (.t 11)
 (.seq
 (.reg [⟨some 15, none, .fa 3 (.t 1)⟩,
 ⟨some 16, none, .ld none (.t 15)⟩,
 ⟨some 2, none, .mov (.t 16)⟩] (some [2]))
 .ret)
 (.seq
 (.reg [⟨some 18, none, .fa 0 (.t 1)⟩,
 ⟨some 19, none, .ld none (.t 18)⟩,
 ⟨some 20, none, .bin .geq .none (.t 19) (.c (.int .i64 97))⟩,
 ⟨some 21, none, .mov (.t 20)⟩,
 ⟨some 22, some (21, true), .fa 0 (.t 1)⟩,
 ⟨some 23, some (21, true), .ld none (.t 22)⟩,
 ⟨some 24, some (21, true), .bin .leq .none (.t 23) (.c (.int .i64 122))⟩,
 ⟨some 25, none, .pick (.t 21) (.t 24) (.c (.bool false))⟩,
 ⟨some 17, none, .mov (.t 25)⟩] (some [1, 17]))
 (.cond (.t 17)
 (.seq
 (.reg [⟨some 26, none, .fa 0 (.t 1)⟩,
 ⟨some 27, none, .ld none (.t 26)⟩,
 ⟨some 28, none, .bin .sub .none (.t 27) (.c (.int .i64 97))⟩,
 ⟨some 29, none, .bin .add .none (.t 28) (.c (.int .i64 65))⟩,
 ⟨some 2, none, .mov (.t 29)⟩] (some [2]))
 .ret)
 .skip)))))))
 (.seq
 (.reg [⟨some 30, none, .fa 0 (.t 1)⟩,
 ⟨some 31, none, .ld none (.t 30)⟩,
 ⟨some 2, none, .mov (.t 31)⟩] (some [2]))
 .ret)))
theorem is_modsShown : IrOf Tryz.prog 84 32 ir_modsShown [.t 2] := ⟨_, Tryz.func84, rfl, by kernel_rfl, by kernel_rfl, by kernel_rfl⟩

def ir_clavierref10Has : ICode :=
 (.seq
 (.reg [⟨some 4, none, .mov (.c (.bool false))⟩] (some [0, 1]))
 (.seq
 (.reg [⟨some 5, none, .mov (.t 0)⟩,
 ⟨some 6, none, .mm false (.t 5) (.c (.int .i64 0))⟩,
 ⟨some 7, none, .mov (.t 1)⟩,
 ⟨some 8, none, .bin .quo .none (.t 6) (.t 7)⟩,
 ⟨some 9, none, .bin .rem .none (.t 8) (.c (.int .i64 2))⟩,
 ⟨some 10, none, .bin .eql .none (.t 9) (.c (.int .i64 1))⟩,
 ⟨some 4, none, .mov (.t 10)⟩] (some [4]))
 .ret))
theorem is_clavierref10Has : IrOf Tryz.prog 49 11 ir_clavierref10Has [.t 4] := ⟨_, Tryz.func49, rfl, by kernel_rfl, by kernel_rfl, by kernel_rfl⟩

def ir_clavierref10Shown : ICode :=
 (.seq
 (.reg [⟨some 1, none, .box 25 (.t 0)⟩,
 ⟨some 2, none, .mov (.c (.int .i64 0))⟩] (some [1]))
 (.seq
 (.seq
 (.reg [⟨some 3, none, .fa 1 (.t 1)⟩,
 ⟨some 4, none, .ld none (.t 3)⟩,
 ⟨some 5, none, .call (.c (.fn (.func 49) [] [])) [(.t 4), (.c (.int .i64 1))]⟩,
 ⟨some 6, none, .un .not (.t 5)⟩] (some [1, 6]))
 (.cond (.t 6)
 (.seq
 (.reg [⟨some 7, none, .fa 0 (.t 1)⟩,
 ⟨some 8, none, .ld none (.t 7)⟩,
 ⟨some 2, none, .mov (.t 8)⟩] (some [2]))
 .ret)
 .skip))
 (.seq
 (.seq
 (.reg [⟨some 9, none, .fa 3 (.t 1)⟩,
 ⟨some 10, none, .ld none (.t 9)⟩,
 ⟨some 11, none, .bin .neq .none (.t 10) (.c (.int .i64 0))⟩] (some [1, 11]))
 (.cond (.t 11)
 (.seq
 (.reg [⟨some 12, none, .fa 3 (.t 1)⟩,
 ⟨some 13, none, .ld none (.t 12)⟩,
 ⟨some 2, none, .mov (.t 13)⟩] (some [2]))
 .ret)
 .skip))
 (.seq
 (.seq
 (.reg [⟨some 14, none, .fa 0 (.t 1)⟩,
 ⟨some 15, none, .ld none (.t 14)⟩,
 ⟨some 16, none, .bin .geq .none (.t 15) (.c (.int .i64 97))⟩,
 ⟨some 17, none, .mov (.t 16)⟩,
 ⟨some 18, some (17, true), .fa 0 (.t 1)⟩,
 ⟨some 19, some (17, true), .ld none (.t 18)⟩,
 ⟨some 20, some (17, true), .bin .leq .none (.t 19) (.c (.int .i64 122))⟩,
 ⟨some 21, none, .pick (.t 17) (.t 20) (.c (.bool false))⟩] (some [1, 21]))
 (.cond (.t 21)
 (.seq
 (.reg [⟨some 22, none, .fa 0 (.t 1)⟩,
 ⟨some 23, none, .ld none (.t 22)⟩,
 ⟨some 24, none, .bin .sub .none (.t 23) (.c (.int .i64 32))⟩,
 ⟨some 2, none, .mov (.t 24)⟩] (some [2]))
 .ret)
 .skip))
 (.seq
 (.reg [⟨some 25, none, .fa 0 (.t 1)⟩,
 ⟨some 26, none, .ld none (.t 25)⟩,
 ⟨some 2, none, .mov (.t 26)⟩] (some [2]))
 .ret)))))
theorem is_clavierref10Shown : IrOf Tryz.prog 23 27 ir_clavierref10Shown [.t 2] := ⟨_, Tryz.func23, rfl, by kernel_rfl, by kernel_rfl, by kernel_rfl⟩

def ir_clavierref10text : ICode :=
 (.seq
 (.reg [⟨some 2, none, .mov (.c (.bool false))⟩] (some [0]))
 (.seq
 (.reg [⟨some 3, none, .mov (.t 0)⟩,
 ⟨some 4, none, .call (.c (.fn (.func 33) [] [])) [(.t 3)]⟩,
 ⟨some 5, none, .fld 0 none (.t 4)⟩,
 ⟨some 6, none, .bin .eql .none (.t 5) (.c (.int .i64 1))⟩,
 ⟨some 2, none, .mov (.t 6)⟩] (some [2]))
 .ret))
theorem is_clavierref10text : IrOf Tryz.prog 34 7 ir_clavierref10text [.t 2] := ⟨_, Tryz.func34, rfl, by kernel_rfl, by kernel_rfl, by kernel_rfl⟩

/- clavier/clavierref10.clean -/
def ir_clavierref10clean_l0 : ICode :=
 (.seq
 (.seq
 (.reg [⟨some 19, none, .mov (.t 5)⟩,
 ⟨some 20, none, .mov (.t 3)⟩,
 ⟨some 21, none, .len (.t 20)⟩,
 ⟨some 22, none, .bin .lss .none (.t 19) (.t 21)⟩] (some [3, 5, 22]))
 (.cond (.t 22)
 .skip
 (.exit 0)))
 (.seq
 (.blk 1
 (.seq
 (.reg [⟨some 25, none, .mov (.t 3)⟩,
 ⟨some 26, none, .mov (.t 5)⟩,
 ⟨some 27, none, .ia 1 (.t 25) (.t 26)⟩,
 ⟨some 28, none, .ld none (.t 27)⟩,
 ⟨some 29, none, .bin .lss .none (.t 28) (.c (.int .i64 32))⟩,
 ⟨some 30, none, .mov (.t 29)⟩,
 ⟨some 31, some (30, false), .mov (.t 3)⟩,
 ⟨some 32, some (30, false), .mov (.t 5)⟩,
 ⟨some 33, some (30, false), .ia 1 (.t 31) (.t 32)⟩,
 ⟨some 34, some (30, false), .ld none (.t 33)⟩,
 ⟨some 35, some (30, false), .bin .geq .none (.t 34) (.c (.int .i64 127))⟩,
 ⟨some 36, some (30, false), .mov (.t 35)⟩,
 ⟨some 37, some (36, true), .mov (.t 3)⟩,
 ⟨some 38, some (36, true), .mov (.t 5)⟩,
 ⟨some 39, some (36, true), .ia 1 (.t 37) (.t 38)⟩,
 ⟨some 40, some (36, true), .ld none (.t 39)⟩,
 ⟨some 41, some (36, true), .bin .leq .none (.t 40) (.c (.int .i64 159))⟩,
 ⟨some 42, some (30, false), .pick (.t 36) (.t 41) (.c (.bool false))⟩,
 ⟨some 43, none, .pick (.t 30) (.c (.bool true)) (.t 42)⟩] (some [3, 5, 43]))
 (.cond (.t 43)
 (.seq
 (.reg [⟨some 2, none, .mov (.c (.bool false))⟩] (some [2]))
 .ret)
 .skip)))
 (.reg [⟨some 23, none, .mov (.t 5)⟩,
 ⟨some 24, none, .bin .add .none (.t 23) (.c (.int .i64 1))⟩,
 ⟨some 5, none, .mov (.t 24)⟩] (some [3, 5]))))
def ir_clavierref10clean : ICode :=
 (.seq
 (.reg [⟨some 2, none, .mov (.c (.bool false))⟩] (some [0]))
 (.seq
 (.reg [⟨some 7, none, .mov (.t 0)⟩,
 ⟨some 8, none, .s2b 5 (.t 7)⟩,
 ⟨some 9, none, .call (.c (.fn (.func 81) [] [])) [(.t 8)]⟩,
 ⟨some 6, none, .mov (.t 9)⟩,
 ⟨some 10, none, .ext (.t 6) 0⟩,
 ⟨some 11, none, .ext (.t 6) 1⟩,
 ⟨some 3, none, .mov (.t 10)⟩,
 ⟨some 4, none, .mov (.t 11)⟩] (some [3, 4]))
 (.seq
 (.seq
 (.reg [⟨some 12, none, .mov (.t 4)⟩,
 ⟨some 13, none, .un .not (.t 12)⟩,
 ⟨some 14, none, .mov (.t 13)⟩,
 ⟨some 15, some (14, false), .mov (.t 3)⟩,
 ⟨some 16, some (14, false), .len (.t 15)⟩,
 ⟨some 17, some (14, false), .bin .gtr .none (.t 16) (.c (.int .i64 8))⟩,
 ⟨some 18, none, .pick (.t 14) (.c (.bool true)) (.t 17)⟩] (some [3, 18]))
 (.cond (.t 18)
 (.seq
 (.reg [⟨some 2, none, .mov (.c (.bool false))⟩] (some [2]))
 .ret)
 .skip))
 (.seq
 (.seq
 (.reg [⟨some 5, none, .mov (.c (.int .i64 0))⟩] (some [3, 5]))
 (.blk 0
 (.loop
 ir_clavierref10clean_l0)))
 (.seq
 (.reg [⟨some 2, none, .mov (.c (.bool true))⟩] (some [2]))
 .ret)))))
theorem is_clavierref10clean : IrOf Tryz.prog 35 44 ir_clavierref10clean [.t 2] := ⟨_, Tryz.func35, rfl, by kernel_rfl, by kernel_rfl, by kernel_rfl⟩

def ir_modsMay1 : ICode :=
 (.seq
 (.reg [⟨some 2, none, .mov (.c (.bool false))⟩] (some [0]))
 (.seq
 (.reg [⟨some 3, none, .mov (.t 0)⟩,
 ⟨some 4, none, .bin .eql .none (.t 3) (.c (.int .i64 0))⟩,
 ⟨some 5, none, .mov (.t 4)⟩,
 ⟨some 6, some (5, false), .mov (.t 0)⟩,
 ⟨some 7, some (5, false), .call (.c (.fn (.func 24) [] [])) [(.t 6)]⟩,
 ⟨some 8, some (5, false), .fld 0 none (.t 7)⟩,
 ⟨some 9, some (5, false), .bin .eql .none (.t 8) (.c (.int .i64 1))⟩,
 ⟨some 10, none, .pick (.t 5) (.c (.bool true)) (.t 9)⟩,
 ⟨some 2, none, .mov (.t 10)⟩] (some [2]))
 .ret))
theorem is_modsMay1 : IrOf Tryz.prog 85 11 ir_modsMay1 [.t 2] := ⟨_, Tryz.func85, rfl, by kernel_rfl, by kernel_rfl, by kernel_rfl⟩

def ir_clavierref10May : ICode :=
 (.seq
 (.reg [⟨some 1, none, .box 25 (.t 0)⟩,
 ⟨some 2, none, .mov (.c (.bool false))⟩] (some [1]))
 (.seq
 (.seq
 (.reg [⟨some 3, none, .fa 0 (.t 1)⟩,
 ⟨some 4, none, .ld none (.t 3)⟩,
 ⟨some 5, none, .call (.c (.fn (.func 33) [] [])) [(.t 4)]⟩,
 ⟨some 6, none, .fld 0 none (.t 5)⟩,
 ⟨some 7, none, .bin .eql .none (.t 6) (.c (.int .i64 0))⟩,
 ⟨some 8, none, .mov (.t 7)⟩,
 ⟨some 9, some (8, false), .fa 1 (.t 1)⟩,
 ⟨some 10, some (8, false), .ld none (.t 9)⟩,
 ⟨some 11, some (8, false), .bin .lss .none (.t 10) (.c (.int .i64 0))⟩,
 ⟨some 12, none, .pick (.t 8) (.c (.bool true)) (.t 11)⟩,
 ⟨some 13, none, .mov (.t 12)⟩,
 ⟨some 14, some (13, false), .fa 1 (.t 1)⟩,
 ⟨some 15, some (13, false), .ld none (.t 14)⟩,
 ⟨some 16, some (13, false), .bin .gtr .none (.t 15) (.c (.int .i64 255))⟩,
 ⟨some 17, none, .pick (.t 13) (.c (.bool true)) (.t 16)⟩,
 ⟨some 18, none, .mov (.t 17)⟩,
 ⟨some 19, some (18, false), .fa 2 (.t 1)⟩,
 ⟨some 20, some (18, false), .ld none (.t 19)⟩,
 ⟨some 21, some (18, false), .bin .lss .none (.t 20) (.c (.int .i64 1))⟩,
 ⟨some 22, none, .pick (.t 18) (.c (.bool true)) (.t 21)⟩,
 ⟨some 23, none, .mov (.t 22)⟩,
 ⟨some 24, some (23, false), .fa 2 (.t 1)⟩,
 ⟨some 25, some (23, false), .ld none (.t 24)⟩,
 ⟨some 26, some (23, false), .bin .gtr .none (.t 25) (.c (.int .i64 3))⟩,
 ⟨some 27, none, .pick (.t 23) (.c (.bool true)) (.t 26)⟩] (some [1, 27]))
 (.cond (.t 27)
 (.seq
 (.reg [⟨some 2, none, .mov (.c (.bool false))⟩] (some [2]))
 .ret)
 .skip))
 (.seq
 (.reg [⟨some 28, none, .fa 3 (.t 1)⟩,
 ⟨some 29, none, .ld none (.t 28)⟩,
 ⟨some 30, none, .bin .eql .none (.t 29) (.c (.int .i64 0))⟩,
 ⟨some 31, none, .mov (.t 30)⟩,
 ⟨some 32, some (31, false), .fa 3 (.t 1)⟩,
 ⟨some 33, some (31, false), .ld none (.t 32)⟩,
 ⟨some 34, some (31, false), .call (.c (.fn (.func 34) [] [])) [(.t 33)]⟩,
 ⟨some 35, none, .pick (.t 31) (.c (.bool true)) (.t 34)⟩,
 ⟨some 36, none, .mov (.t 35)⟩,
 ⟨some 37, some (36, true), .fa 4 (.t 1)⟩,
 ⟨some 38, some (36, true), .ld none (.t 37)⟩,
 ⟨some 39, some (36, true), .bin .eql .none (.t 38) (.c (.int .i64 0))⟩,
 ⟨some 40, some (36, true), .mov (.t 39)⟩,
 ⟨some 41, some (40, false), .fa 4 (.t 1)⟩,
 ⟨some 42, some (40, false), .ld none (.t 41)⟩,
 ⟨some 43, some (40, false), .call (.c (.fn (.func 34) [] [])) [(.t 42)]⟩,
 ⟨some 44, some (36, true), .pick (.t 40) (.c (.bool true)) (.t 43)⟩,
 ⟨some 45, none, .pick (.t 36) (.t 44) (.c (.bool false))⟩,
 ⟨some 46, none, .mov (.t 45)⟩,
 ⟨some 47, some (46, true), .fa 5 (.t 1)⟩,
 ⟨some 48, some (46, true), .ld none (.t 47)⟩,
 ⟨some 49, some (46, true), .call (.c (.fn (.func 35) [] [])) [(.t 48)]⟩,
 ⟨some 50, none, .pick (.t 46) (.t 49) (.c (.bool false))⟩,
 ⟨some 2, none, .mov (.t 50)⟩] (some [2]))
 .ret)))
theorem is_clavierref10May : IrOf Tryz.prog 17 51 ir_clavierref10May [.t 2] := ⟨_, Tryz.func17, rfl, by kernel_rfl, by kernel_rfl, by kernel_rfl⟩

theorem ent_eq (e : Ent) : entAV e = [.int .i64 e.kind, .int .u8 (e.final.toNat : Int), .int .i64 e.num, .int .i64 e.char, .bool e.keys] := rfl
theorem maxE (m : Int) : (if 0 > m then (0 : Int) else m) = max m 0 := by split <;> omega
theorem has_tdiv {m one : Int} (h1 : 1 ≤ one) (hm : m ≤ 9223372036854775807) : ((IntKind.i64.wrap ((max m 0).tdiv one)).tmod 2 == 1) = hasK m one := by
  have h0 : 0 ≤ max m 0 := by omega
  rw [Int.tdiv_eq_ediv_of_nonneg h0]
  have h2 : 0 ≤ max m 0 / one := Int.ediv_nonneg h0 (by omega)
  have h3 : max m 0 / one ≤ max m 0 := Int.ediv_le_self _ h0
  have h4 : IntKind.i64.wrap (max m 0 / one) = max m 0 / one := by rw [IntKind.wrap_i64]; omega
  rw [h4, Int.tmod_eq_emod_of_nonneg h2, hasK, Bool.eq_iff_iff]
  simp
theorem has_and {m : Int} (hm : m ≤ 9223372036854775807) (k : Nat) (hk : k < 63) : (bits .and .i64 (max m 0) ((2 ^ k : Nat) : Int) == 0) = !hasK m ((2 ^ k : Nat) : Int) := by
  obtain ⟨a, ha⟩ := Int.eq_ofNat_of_zero_le (show 0 ≤ max m 0 by omega)
  rw [ha, and_flag (by omega) k hk, hasK, ha]
  have h2 : (a : Int) / ((2 ^ k : Nat) : Int) % 2 = ((a / 2 ^ k % 2 : Nat) : Int) := by simp
  have h3 : 0 < 2 ^ k := Nat.two_pow_pos k
  rw [h2]
  rcases Nat.mod_two_eq_zero_or_one (a / 2 ^ k) with h | h
  · rw [h]; simp
  · rw [h]
    generalize 2 ^ k = p at *
    have h4 : ((1 * p : Nat) : Int) ≠ 0 := by omega
    rw [beq_eq_false_iff_ne.2 h4]; rfl
theorem fs_Form {Gl : Gh → Prop} (hst : Stays Gl) {c : Int} : FS Tryz.prog Gl 56 [.int .i64 c] [] [] (.tup [.int .i64 (formK c).1, .int .u8 ((formK c).2.toNat : Int)]) [] [] := by
  refine FS.ofW hm hst is_kittyForm rfl (by simp) fun γ hγ hfr => ?_
  have c1 := fs_Look (Gl := Gl) hst (c := c)
  have hfk : formK c = (let e := lookR c; if e.kind = 0 then (0, 0) else if c = 57366 then (13, 126) else if e.kind = 3 ∧ e.keys = false then (1, e.final) else if e.kind = 4 ∧ e.keys = false then (e.num, 126) else (c, 117)) := rfl
  rw [ent_eq] at c1
  generalize lookR c = e at *
  obtain ⟨kind, final, num, char, keys⟩ := e
  simp only at c1 hfk
  (generalize hQ : (fun (ex : Ex) (_ _ : Nat) (s : St) => _) = Q; unfold ir_kittyForm)
  ((try simp +contextual (maxSteps := 1000000) only [go_sem, reduceCtorEq, ↓reduceIte, Nat.reduceAdd, Nat.reduceEqDiff]); repeat' first | ((first | refine kCond_split (fun hg => ?_) (fun hg => ?_) | refine kGc_split (fun hg => ?_) (fun hg => ?_) | refine kPreG_split (fun hg => ?_) (fun hg => ?_)) <;> (try rw [hg]) <;> simp +contextual (maxSteps := 1000000) only [go_sem, reduceCtorEq, ↓reduceIte, Nat.reduceAdd, Nat.reduceEqDiff]) | ((first | refine CallP.pure c1 (fun _ => rfl) ?_) <;> simp +contextual (maxSteps := 1000000) only [go_sem, reduceCtorEq, ↓reduceIte, Nat.reduceAdd, Nat.reduceEqDiff]) | refine And.intro (by omega) ?_)
  all_goals
    simp only [beq_iff_eq, beq_eq_false_iff_ne, ne_eq, Bool.and_eq_true, Bool.and_eq_false_iff, Bool.not_eq_true', Bool.not_eq_false', Bool.not_eq_true, Bool.not_eq_false] at *
    rw [← hQ, hfk]
    clear hQ hfr
    refine ⟨trivial, .inl ⟨_, rfl, ?_⟩⟩
    show RepLe (.tup [.int .i64 _, .int .u8 _]) _
    repeat' split
    all_goals first | exact RepLe.refl _ | (exfalso; simp_all; done) | (exfalso; simp_all; omega)
theorem fs_rForm {Gl : Gh → Prop} (hst : Stays Gl) {c : Int} : FS Tryz.prog Gl 114 [.int .i64 c] [] [] (.tup [.int .i64 (formK c).1, .int .u8 ((formK c).2.toNat : Int)]) [] [] := by
  refine FS.ofW hm hst is_clavierref13Form rfl (by simp) fun γ hγ hfr => ?_
  have c1 := fs_rLook (Gl := Gl) hst (c := c)
  have hfk : formK c = (let e := lookR c; if e.kind = 0 then (0, 0) else if c = 57366 then (13, 126) else if e.kind = 3 ∧ e.keys = false then (1, e.final) else if e.kind = 4 ∧ e.keys = false then (e.num, 126) else (c, 117)) := rfl
  rw [ent_eq] at c1
  generalize lookR c = e at *
  obtain ⟨kind, final, num, char, keys⟩ := e
  simp only at c1 hfk
  (generalize hQ : (fun (ex : Ex) (_ _ : Nat) (s : St) => _) = Q; unfold ir_clavierref13Form)
  ((try simp +contextual (maxSteps := 1000000) only [go_sem, reduceCtorEq, ↓reduceIte, Nat.reduceAdd, Nat.reduceEqDiff, Nat.reduceLeDiff, Nat.reduceMul, Nat.reduceBEq, Int.reduceBEq, Int.reduceBNe, Int.reduceLT, Int.reduceLE, Int.reduceGT, Int.reduceGE, Int.reduceToNat]); repeat' first | ((first | refine kCond_split (fun hg => ?_) (fun hg => ?_) | refine kGc_split (fun hg => ?_) (fun hg => ?_) | refine kPreG_split (fun hg => ?_) (fun hg => ?_)) <;> (try rw [hg]) <;> simp +contextual (maxSteps := 1000000) only [go_sem, reduceCtorEq, ↓reduceIte, Nat.reduceAdd, Nat.reduceEqDiff, Nat.reduceLeDiff, Nat.reduceMul, Nat.reduceBEq, Int.reduceBEq, Int.reduceBNe, Int.reduceLT, Int.reduceLE, Int.reduceGT, Int.reduceGE, Int.reduceToNat]) | ((first | refine CallP.pure c1 (fun _ => rfl) ?_) <;> simp +contextual (maxSteps := 1000000) only [go_sem, reduceCtorEq, ↓reduceIte, Nat.reduceAdd, Nat.reduceEqDiff, Nat.reduceLeDiff, Nat.reduceMul, Nat.reduceBEq, Int.reduceBEq, Int.reduceBNe, Int.reduceLT, Int.reduceLE, Int.reduceGT, Int.reduceGE, Int.reduceToNat]) | refine And.intro (by omega) ?_)
  all_goals
    simp only [beq_iff_eq, beq_eq_false_iff_ne, ne_eq, Bool.and_eq_true, Bool.and_eq_false_iff, Bool.not_eq_true', Bool.not_eq_false', Bool.not_eq_true, Bool.not_eq_false] at *
    rw [← hQ, hfk]
    clear hQ hfr
    refine ⟨trivial, .inl ⟨_, rfl, ?_⟩⟩
    show RepLe (.tup [.int .i64 _, .int .u8 _]) _
    repeat' split
    all_goals first | exact RepLe.refl _ | (exfalso; simp_all; done) | (exfalso; simp_all; omega)
theorem fs_Param {Gl : Gh → Prop} (hst : Stays Gl) {m : Int} : FS Tryz.prog Gl 42 [.int .i64 m] [] [] (.int .i64 (paramK m)) [] [] := by
  refine FS.of hm hst is_modsParam (by simp) fun γ hγ hfr => ?_
  (generalize hQ : (fun (ex : Ex) (_ _ : Nat) (s : St) => _) = Q; unfold ir_modsParam)
  (simp +contextual (maxSteps := 1000000) only [go_sem, reduceCtorEq, ↓reduceIte, Nat.reduceAdd, Nat.reduceEqDiff]; repeat' first | ((first | refine kCond_split (fun hg => ?_) (fun hg => ?_) | refine kGc_split (fun hg => ?_) (fun hg => ?_) | refine kPreG_split (fun hg => ?_) (fun hg => ?_)) <;> (try rw [hg]) <;> simp +contextual (maxSteps := 1000000) only [go_sem, reduceCtorEq, ↓reduceIte, Nat.reduceAdd, Nat.reduceEqDiff]) | refine And.intro (by omega) ?_)
  all_goals
    rw [← hQ]
    refine ⟨trivial, Ret.flat (show some (AV.int .i64 _) = some (AV.int .i64 _) from congrArg (fun z => some (AV.int .i64 z)) ?_) rfl⟩
    simp only [Bool.or_eq_true, Bool.or_eq_false_iff, decide_eq_true_eq, decide_eq_false_iff_not] at hg
    rw [paramK]
  · rw [if_pos (by omega)]
  · rw [if_neg (by omega), IntKind.wrap_i64]; omega
theorem fs_Has {Gl : Gh → Prop} (hst : Stays Gl) {m one : Int} (h1 : 1 ≤ one) (hmm : m ≤ 9223372036854775807) : FS Tryz.prog Gl 49 [.int .i64 m, .int .i64 one] [] [] (.bool (hasK m one)) [] [] := by
  refine FS.of hm hst is_clavierref10Has (by simp) fun γ hγ hfr => ?_
  (generalize hQ : (fun (ex : Ex) (_ _ : Nat) (s : St) => _) = Q; unfold ir_clavierref10Has)
  simp +contextual (maxSteps := 1000000) only [maxE, has_tdiv h1 hmm, go_sem, reduceCtorEq, ↓reduceIte, Nat.reduceAdd, Nat.reduceEqDiff, Nat.reduceLeDiff, Nat.reduceMul, Nat.reduceBEq, Int.reduceBEq, Int.reduceBNe, Int.reduceLT, Int.reduceLE, Int.reduceGT, Int.reduceGE, Int.reduceToNat]
  refine ⟨by omega, by omega, ?_⟩
  rw [← hQ]
  exact ⟨trivial, Ret.flat rfl rfl⟩
theorem fs_Shown {Gl : Gh → Prop} (hst : Stays Gl) {k : Ky} (hmm : k.mods ≤ 9223372036854775807) : FS Tryz.prog Gl 84 [.agg (kyAV k)] [] [] (.int .i64 (shownK k)) [] [] := by
  refine FS.of hm hst is_modsShown (by simp) fun γ hγ hfr => ?_
  have ha := has_and hmm 0 (by omega)
  obtain ⟨code, mods, type, shifted, base, text⟩ := k
  simp only [Nat.pow_zero, Int.natCast_one] at ha hmm
  (generalize hQ : (fun (ex : Ex) (_ _ : Nat) (s : St) => _) = Q; unfold ir_modsShown)
  cases hh : hasK mods 1 with
  | false =>
    rw [hh] at ha
    simp +contextual (maxSteps := 1000000) only [kyAV, maxE, ha, go_sem, reduceCtorEq, ↓reduceIte, Nat.reduceAdd, Nat.reduceEqDiff]
    rw [← hQ]
    refine ⟨trivial, Ret.flat (show some (AV.int .i64 _) = some (AV.int .i64 _) from congrArg (fun z => some (AV.int .i64 z)) ?_) rfl⟩
    rw [shownK, if_pos hh]
  | true =>
    rw [hh] at ha
    have hne : ¬ (hasK mods 1 = false) := by rw [hh]; simp
    (simp +contextual (maxSteps := 1000000) only [kyAV, maxE, ha, go_sem, reduceCtorEq, ↓reduceIte, Nat.reduceAdd, Nat.reduceEqDiff]; repeat' first | ((first | refine kCond_split (fun hg => ?_) (fun hg => ?_) | refine kGc_split (fun hg => ?_) (fun hg => ?_) | refine kPreG_split (fun hg => ?_) (fun hg => ?_)) <;> (try rw [hg]) <;> simp +contextual (maxSteps := 1000000) only [kyAV, maxE, ha, go_sem, reduceCtorEq, ↓reduceIte, Nat.reduceAdd, Nat.reduceEqDiff]) | refine And.intro (by omega) ?_)
    all_goals
      simp only [Bool.and_eq_true, Bool.and_eq_false_iff, decide_eq_true_eq, decide_eq_false_iff_not, bne_iff_ne, bne_eq_false_iff_eq, ne_eq] at *
      rw [← hQ]
      refine ⟨trivial, Ret.flat (show some (AV.int .i64 _) = some (AV.int .i64 _) from congrArg (fun z => some (AV.int .i64 z)) ?_) rfl⟩
      simp only [shownK, hh, Bool.true_eq_false, if_false]
      repeat' split
      all_goals first | rfl | omega | (simp only [IntKind.wrap_i64]; omega)
theorem fs_rShown {Gl : Gh → Prop} (hst : Stays Gl) {k : Ky} (hmm : k.mods ≤ 9223372036854775807) : FS Tryz.prog Gl 23 [.agg (kyAV k)] [] [] (.int .i64 (shownK k)) [] [] := by
  refine FS.of hm hst is_clavierref10Shown (by simp) fun γ hγ hfr => ?_
  have c1 := fs_Has (Gl := Gl) hst (m := k.mods) (one := 1) (by omega) hmm
  obtain ⟨code, mods, type, shifted, base, text⟩ := k
  simp only at c1 hmm
  (generalize hQ : (fun (ex : Ex) (_ _ : Nat) (s : St) => _) = Q; unfold ir_clavierref10Shown)
  cases hh : hasK mods 1 with
  | false =>
    rw [hh] at c1
    simp +contextual (maxSteps := 1000000) only [kyAV, go_sem, reduceCtorEq, ↓reduceIte, Nat.reduceAdd, Nat.reduceEqDiff, Nat.reduceLeDiff, Nat.reduceMul, Nat.reduceBEq, Int.reduceBEq, Int.reduceBNe, Int.reduceLT, Int.reduceLE, Int.reduceGT, Int.reduceGE, Int.reduceToNat]
    (refine CallP.pure (c1) (fun _ => rfl) ?_; simp +contextual (maxSteps := 1000000) only [go_sem, reduceCtorEq, ↓reduceIte, Nat.reduceAdd, Nat.reduceEqDiff, Nat.reduceLeDiff, Nat.reduceMul, Nat.reduceBEq, Int.reduceBEq, Int.reduceBNe, Int.reduceLT, Int.reduceLE, Int.reduceGT, Int.reduceGE, Int.reduceToNat])
    rw [← hQ]
    refine ⟨trivial, Ret.flat (show some (AV.int .i64 _) = some (AV.int .i64 _) from congrArg (fun z => some (AV.int .i64 z)) ?_) rfl⟩
    rw [shownK, if_pos hh]
  | true =>
    rw [hh] at c1
    simp +contextual (maxSteps := 1000000) only [kyAV, go_sem, reduceCtorEq, ↓reduceIte, Nat.reduceAdd, Nat.reduceEqDiff, Nat.reduceLeDiff, Nat.reduceMul, Nat.reduceBEq, Int.reduceBEq, Int.reduceBNe, Int.reduceLT, Int.reduceLE, Int.reduceGT, Int.reduceGE, Int.reduceToNat]
    ((try simp +contextual (maxSteps := 1000000) only [go_sem, reduceCtorEq, ↓reduceIte, Nat.reduceAdd, Nat.reduceEqDiff, Nat.reduceLeDiff, Nat.reduceMul, Nat.reduceBEq, Int.reduceBEq, Int.reduceBNe, Int.reduceLT, Int.reduceLE, Int.reduceGT, Int.reduceGE, Int.reduceToNat]); repeat' first | ((first | refine kCond_split (fun hg => ?_) (fun hg => ?_) | refine kGc_split (fun hg => ?_) (fun hg => ?_) | refine kPreG_split (fun hg => ?_) (fun hg => ?_)) <;> (try rw [hg]) <;> simp +contextual (maxSteps := 1000000) only [go_sem, reduceCtorEq, ↓reduceIte, Nat.reduceAdd, Nat.reduceEqDiff, Nat.reduceLeDiff, Nat.reduceMul, Nat.reduceBEq, Int.reduceBEq, Int.reduceBNe, Int.reduceLT, Int.reduceLE, Int.reduceGT, Int.reduceGE, Int.reduceToNat]) | ((first | refine CallP.pure c1 (fun _ => rfl) ?_) <;> simp +contextual (maxSteps := 1000000) only [go_sem, reduceCtorEq, ↓reduceIte, Nat.reduceAdd, Nat.reduceEqDiff, Nat.reduceLeDiff, Nat.reduceMul, Nat.reduceBEq, Int.reduceBEq, Int.reduceBNe, Int.reduceLT, Int.reduceLE, Int.reduceGT, Int.reduceGE, Int.reduceToNat]) | refine And.intro (by omega) ?_)
    all_goals
      simp only [Bool.and_eq_true, Bool.and_eq_false_iff, decide_eq_true_eq, decide_eq_false_iff_not, bne_iff_ne, bne_eq_false_iff_eq, ne_eq] at *
      rw [← hQ]
      refine ⟨trivial, Ret.flat (show some (AV.int .i64 _) = some (AV.int .i64 _) from congrArg (fun z => some (AV.int .i64 z)) ?_) rfl⟩
      simp only [shownK, hh, Bool.true_eq_false, if_false]
      repeat' split
      all_goals first | rfl | omega | (simp only [IntKind.wrap_i64]; omega)
theorem fs_rtext {Gl : Gh → Prop} (hst : Stays Gl) {c : Int} : FS Tryz.prog Gl 34 [.int .i64 c] [] [] (.bool (decide (kindK c = 1))) [] [] := by
  refine FS.of hm hst is_clavierref10text (by simp) fun γ hγ hfr => ?_
  have c1 := fs_rLook (Gl := Gl) hst (c := c)
  rw [ent_eq] at c1
  (generalize hQ : (fun (ex : Ex) (_ _ : Nat) (s : St) => _) = Q; unfold ir_clavierref10text)
  simp +contextual (maxSteps := 1000000) only [go_sem, reduceCtorEq, ↓reduceIte, Nat.reduceAdd, Nat.reduceEqDiff, Nat.reduceLeDiff, Nat.reduceMul, Nat.reduceBEq, Int.reduceBEq, Int.reduceBNe, Int.reduceLT, Int.reduceLE, Int.reduceGT, Int.reduceGE, Int.reduceToNat]
  (refine CallP.pure (c1) (fun _ => rfl) ?_; simp +contextual (maxSteps := 1000000) only [go_sem, reduceCtorEq, ↓reduceIte, Nat.reduceAdd, Nat.reduceEqDiff, Nat.reduceLeDiff, Nat.reduceMul, Nat.reduceBEq, Int.reduceBEq, Int.reduceBNe, Int.reduceLT, Int.reduceLE, Int.reduceGT, Int.reduceGE, Int.reduceToNat])
  rw [← hQ]
  refine ⟨trivial, Ret.flat (show some (AV.bool _) = some (AV.bool _) from congrArg (fun z => some (AV.bool z)) ?_) rfl⟩
  rfl
theorem fs_May1 {Gl : Gh → Prop} (hst : Stays Gl) {c : Int} : FS Tryz.prog Gl 85 [.int .i64 c] [] [] (.bool (decide (c = 0) || decide (kindK c = 1))) [] [] := by
  refine FS.of hm hst is_modsMay1 (by simp) fun γ hγ hfr => ?_
  have c1 := fs_Look (Gl := Gl) hst (c := c)
  rw [ent_eq] at c1
  (generalize hQ : (fun (ex : Ex) (_ _ : Nat) (s : St) => _) = Q; unfold ir_modsMay1)
  simp +contextual (maxSteps := 1000000) only [go_sem, reduceCtorEq, ↓reduceIte, Nat.reduceAdd, Nat.reduceEqDiff]
  (refine kGc_call (c1) (fun _ => rfl) (fun hgc => ?_) ?_; (focus (first | (rw [Bool.not_eq_true'] at hgc; simp only [List.map_cons, List.map_nil, List.nil_append, List.append_nil, List.cons_append, Xev_t, Xev_c, upd_app, lf_cons, lf_nil, Nat.reduceEqDiff, ↓reduceIte, hgc, Bool.false_eq_true, Bool.true_eq_false, reduceCtorEq]; done) | (simp only [List.map_cons, List.map_nil, List.nil_append, List.append_nil, List.cons_append, Xev_t, Xev_c, upd_app, lf_cons, lf_nil, Nat.reduceEqDiff, ↓reduceIte, hgc, Bool.false_eq_true, Bool.true_eq_false, reduceCtorEq]; done) | (revert hgc; simp +contextual [Xev_t, Xev_c, upd_app, lf_cons, lf_nil]; done) | simp [Xev_t, Xev_c, upd_app, lf_cons, lf_nil])); simp +contextual (maxSteps := 1000000) only [go_sem, reduceCtorEq, ↓reduceIte, Nat.reduceAdd, Nat.reduceEqDiff])
  all_goals
    rw [← hQ]
    refine ⟨trivial, Ret.flat (show some (AV.bool _) = some (AV.bool _) from congrArg (fun z => some (AV.bool z)) ?_) rfl⟩
    rfl
theorem fs_clean {Gl : Gh → Prop} (hst : Stays Gl) {t : List UInt8} (ht : t.length ≤ 1000000000000) : FS Tryz.prog Gl 35 [.str t] [] [] (.bool (cleanK t)) [] [] := by
  refine FS.of hm hst is_clavierref10clean (by simp) fun γ hγ hfr => ?_
  have c1 := fs_rAllU (Gl := Gl) (tb := none) hst ht
  rw [allW] at c1
  (generalize hQ : (fun (ex : Ex) (_ _ : Nat) (s : St) => _) = Q; unfold ir_clavierref10clean)
  simp +contextual (maxSteps := 1000000) only [go_sem, reduceCtorEq, ↓reduceIte, Nat.reduceAdd, Nat.reduceEqDiff, Nat.reduceLeDiff, Nat.reduceMul, Nat.reduceBEq, Int.reduceBEq, Int.reduceBNe, Int.reduceLT, Int.reduceLE, Int.reduceGT, Int.reduceGE, Int.reduceToNat]
  refine ⟨by simp only [maxLen]; omega, ?_⟩
  (refine CallP.pure (c1) (fun _ => rfl) ?_; simp +contextual (maxSteps := 1000000) only [go_sem, reduceCtorEq, ↓reduceIte, Nat.reduceAdd, Nat.reduceEqDiff, Nat.reduceLeDiff, Nat.reduceMul, Nat.reduceBEq, Int.reduceBEq, Int.reduceBNe, Int.reduceLT, Int.reduceLE, Int.reduceGT, Int.reduceGE, Int.reduceToNat])
  have hcl : cleanK t = ((allV t).2 && decide ((allV t).1.length ≤ 8) && (allV t).1.all fun r => decide (32 ≤ r) && (decide (r < 127) || decide (159 < r))) := by
    rw [cleanK, allV]
    cases allU t with
    | none => rfl
    | some l => simp
  have hil : (intsAV (allV t).1).length = (allV t).1.length := by simp [intsAV]
  generalize hok : (allV t).2 = ok at *
  generalize hl : (allV t).1 = l at *
  refine kCond_split (fun h => ?_) (fun h => ?_)
  · simp +contextual (maxSteps := 1000000) only [go_sem, reduceCtorEq, ↓reduceIte, Nat.reduceAdd, Nat.reduceEqDiff, Nat.reduceLeDiff, Nat.reduceMul, Nat.reduceBEq, Int.reduceBEq, Int.reduceBNe, Int.reduceLT, Int.reduceLE, Int.reduceGT, Int.reduceGE, Int.reduceToNat]
    rw [← hQ]
    refine ⟨trivial, Ret.flat (show some (AV.bool _) = some (AV.bool _) from congrArg (fun z => some (AV.bool z)) ?_) rfl⟩
    rw [hcl]
    rw [hil] at h
    simp only [Bool.or_eq_true, Bool.not_eq_true', decide_eq_true_eq] at h
    rcases h with h | h
    · rw [h]; rfl
    · have : decide (l.length ≤ 8) = false := by simp; omega
      rw [this]; simp
  · rw [hil] at h
    simp only [Bool.or_eq_false_iff, Bool.not_eq_false', decide_eq_false_iff_not] at h
    have h8 : decide (l.length ≤ 8) = true := by simp; omega
    rw [h.1, h8, Bool.true_and, Bool.true_and] at hcl
    simp +contextual (maxSteps := 1000000) only [go_sem, reduceCtorEq, ↓reduceIte, Nat.reduceAdd, Nat.reduceEqDiff, Nat.reduceLeDiff, Nat.reduceMul, Nat.reduceBEq, Int.reduceBEq, Int.reduceBNe, Int.reduceLT, Int.reduceLE, Int.reduceGT, Int.reduceGE, Int.reduceToNat]
    refine kLoop_ix (fun i : Nat => ⟨lf [(3, .sl none 1 (intsAV l)), (5, .int .i64 (i : Int))], [], fun x => x ∈ []⟩) (fun i => i ≤ l.length ∧ ∀ r ∈ l.take i, (decide (32 ≤ r) && (decide (r < 127) || decide (159 < r))) = true) (fun i => l.length - i) 0 0 (Wk.same ?_) ⟨Nat.zero_le _, by simp⟩ ?_
    · (simp only [lfOK, upd, initF]; repeat' first | exact AVle.refl _ _ | exact trivial | refine And.intro ?_ ?_ | exact AVle.int (by simp only [IntKind.wrap_i64]; omega))
    · rintro γ' i hf ⟨hi, hall⟩
      generalize hQ' : kIt _ _ _ _ _ = Q'
      unfold ir_clavierref10clean_l0
      by_cases hlt : i < l.length
      · have hd : decide ((i : Int) < (l.length : Int)) = true := by simp; omega
        have hg1 : (intsAV l).getD i [] = [.int .i64 l[i]] := intsAV_get hlt
        simp +contextual (maxSteps := 1000000) only [hd, hil, hg1, Int.toNat_natCast, go_sem, reduceCtorEq, ↓reduceIte, Nat.reduceAdd, Nat.reduceEqDiff, Nat.reduceLeDiff, Nat.reduceMul, Nat.reduceBEq, Int.reduceBEq, Int.reduceBNe, Int.reduceLT, Int.reduceLE, Int.reduceGT, Int.reduceGE, Int.reduceToNat]
        refine ⟨⟨by omega, by omega⟩, fun _ => ⟨by omega, by omega⟩, fun _ => ⟨by omega, by omega⟩, ?_⟩
        have hneg : (decide (32 ≤ l[i]) && (decide (l[i] < 127) || decide (159 < l[i]))) = !(decide (l[i] < 32) || decide (l[i] ≥ 127) && decide (l[i] ≤ 159)) := by
          rw [Bool.eq_iff_iff]; simp only [Bool.and_eq_true, Bool.or_eq_true, Bool.not_eq_true', Bool.or_eq_false_iff, Bool.and_eq_false_iff, decide_eq_true_eq, decide_eq_false_iff_not]; omega
        refine kCond_split (fun h1 => ?_) (fun h1 => ?_)
        · simp +contextual (maxSteps := 1000000) only [go_sem, reduceCtorEq, ↓reduceIte, Nat.reduceAdd, Nat.reduceEqDiff, Nat.reduceLeDiff, Nat.reduceMul, Nat.reduceBEq, Int.reduceBEq, Int.reduceBNe, Int.reduceLT, Int.reduceLE, Int.reduceGT, Int.reduceGE, Int.reduceToNat]
          rw [← hQ']
          simp only [w_kIt_r, w_kBlk_r, w_kSeq_r]
          rw [← hQ]
          refine ⟨trivial, Ret.flat (show some (AV.bool _) = some (AV.bool _) from congrArg (fun z => some (AV.bool z)) ?_) rfl⟩
          rw [hcl]
          symm
          rw [List.all_eq_false]
          exact ⟨l[i], List.getElem_mem hlt, by rw [hneg, h1]; simp⟩
        · simp +contextual (maxSteps := 1000000) only [go_sem, reduceCtorEq, ↓reduceIte, Nat.reduceAdd, Nat.reduceEqDiff, Nat.reduceLeDiff, Nat.reduceMul, Nat.reduceBEq, Int.reduceBEq, Int.reduceBNe, Int.reduceLT, Int.reduceLE, Int.reduceGT, Int.reduceGE, Int.reduceToNat]
          rw [← hQ']
          simp only [w_kIt_n]
          refine ⟨0, i + 1, Wk.same ?_, ⟨by omega, fun r hr => ?_⟩, by omega⟩
          · repeat' first | exact AVle.refl _ _ | exact trivial | refine And.intro ?_ ?_ | exact AVle.int (by simp only [IntKind.wrap_i64]; omega)
          · rw [List.take_add_one, List.getElem?_eq_getElem hlt] at hr
            rcases List.mem_append.1 hr with hr | hr
            · exact hall r hr
            · simp only [Option.toList_some, List.mem_singleton] at hr
              rw [hr, hneg, h1]; rfl
      · have hd : decide ((i : Int) < (l.length : Int)) = false := by simp; omega
        simp +contextual (maxSteps := 1000000) only [hd, hil, go_sem, reduceCtorEq, ↓reduceIte, Nat.reduceAdd, Nat.reduceEqDiff, Nat.reduceLeDiff, Nat.reduceMul, Nat.reduceBEq, Int.reduceBEq, Int.reduceBNe, Int.reduceLT, Int.reduceLE, Int.reduceGT, Int.reduceGE, Int.reduceToNat]
        rw [← hQ']
        simp only [w_kIt_e, w_kBlk_e, ↓reduceIte]
        simp +contextual (maxSteps := 1000000) only [go_sem, reduceCtorEq, ↓reduceIte, Nat.reduceAdd, Nat.reduceEqDiff, Nat.reduceLeDiff, Nat.reduceMul, Nat.reduceBEq, Int.reduceBEq, Int.reduceBNe, Int.reduceLT, Int.reduceLE, Int.reduceGT, Int.reduceGE, Int.reduceToNat]
        rw [← hQ]
        refine ⟨trivial, Ret.flat (show some (AV.bool _) = some (AV.bool _) from congrArg (fun z => some (AV.bool z)) ?_) rfl⟩
        rw [hcl]
        symm
        rw [List.all_eq_true]
        intro r hr
        exact hall r (by rwa [List.take_of_length_le (by omega)])
theorem fs_rMayK {Gl : Gh → Prop} (hst : Stays Gl) {k : Ky} (ht : k.text.length ≤ 1000000000000) : FS Tryz.prog Gl 17 [.agg (kyAV k)] [] [] (.bool (mayK k)) [] [] := by
  refine FS.of hm hst is_clavierref10May (by simp) fun γ hγ hfr => ?_
  obtain ⟨code, mods, type, shifted, base, text⟩ := k
  simp only at ht
  have c1 := fs_rLook (Gl := Gl) hst (c := code)
  rw [ent_eq] at c1
  (generalize hQ : (fun (ex : Ex) (_ _ : Nat) (s : St) => _) = Q; unfold ir_clavierref10May)
  simp +contextual (maxSteps := 1000000) only [kyAV, go_sem, reduceCtorEq, ↓reduceIte, Nat.reduceAdd, Nat.reduceEqDiff, Nat.reduceLeDiff, Nat.reduceMul, Nat.reduceBEq, Int.reduceBEq, Int.reduceBNe, Int.reduceLT, Int.reduceLE, Int.reduceGT, Int.reduceGE, Int.reduceToNat]
  (refine CallP.pure (c1) (fun _ => rfl) ?_; simp +contextual (maxSteps := 1000000) only [go_sem, reduceCtorEq, ↓reduceIte, Nat.reduceAdd, Nat.reduceEqDiff, Nat.reduceLeDiff, Nat.reduceMul, Nat.reduceBEq, Int.reduceBEq, Int.reduceBNe, Int.reduceLT, Int.reduceLE, Int.reduceGT, Int.reduceGE, Int.reduceToNat])
  have c2 := fs_rtext (Gl := Gl) hst (c := shifted)
  have c3 := fs_rtext (Gl := Gl) hst (c := base)
  have c4 := fs_clean (Gl := Gl) hst ht
  refine kCond_split (fun h => ?_) (fun h => ?_)
  · simp +contextual (maxSteps := 1000000) only [go_sem, reduceCtorEq, ↓reduceIte, Nat.reduceAdd, Nat.reduceEqDiff, Nat.reduceLeDiff, Nat.reduceMul, Nat.reduceBEq, Int.reduceBEq, Int.reduceBNe, Int.reduceLT, Int.reduceLE, Int.reduceGT, Int.reduceGE, Int.reduceToNat]
    rw [← hQ]
    refine ⟨trivial, Ret.flat (show some (AV.bool _) = some (AV.bool _) from congrArg (fun z => some (AV.bool z)) ?_) rfl⟩
    simp only [Bool.or_eq_true, decide_eq_true_eq, beq_iff_eq] at h
    symm
    rw [Bool.eq_false_iff]
    intro hm'
    simp only [mayK, kindK, Bool.and_eq_true, decide_eq_true_eq, ne_eq] at hm'
    obtain ⟨⟨⟨⟨⟨⟨⟨q1, q2⟩, q3⟩, q4⟩, q5⟩, _⟩, _⟩, _⟩ := hm'
    rcases h with (((h | h) | h) | h) | h
    · exact (of_decide_eq_true q1) h
    · omega
    · omega
    · omega
    · omega
  · simp +contextual (maxSteps := 1000000) only [go_sem, reduceCtorEq, ↓reduceIte, Nat.reduceAdd, Nat.reduceEqDiff, Nat.reduceLeDiff, Nat.reduceMul, Nat.reduceBEq, Int.reduceBEq, Int.reduceBNe, Int.reduceLT, Int.reduceLE, Int.reduceGT, Int.reduceGE, Int.reduceToNat]
    (refine kGc_call (c2) (fun _ => rfl) (fun hgc => ?_) ?_; (focus (first | (rw [Bool.not_eq_true'] at hgc; simp only [List.map_cons, List.map_nil, List.nil_append, List.append_nil, List.cons_append, Xev_t, Xev_c, upd_app, lf_cons, lf_nil, Nat.reduceEqDiff, ↓reduceIte, hgc, Bool.false_eq_true, Bool.true_eq_false, reduceCtorEq]; done) | (simp only [List.map_cons, List.map_nil, List.nil_append, List.append_nil, List.cons_append, Xev_t, Xev_c, upd_app, lf_cons, lf_nil, Nat.reduceEqDiff, ↓reduceIte, hgc, Bool.false_eq_true, Bool.true_eq_false, reduceCtorEq]; done) | (revert hgc; simp +contextual [Xev_t, Xev_c, upd_app, lf_cons, lf_nil]; done) | simp [Xev_t, Xev_c, upd_app, lf_cons, lf_nil])); simp +contextual (maxSteps := 1000000) only [go_sem, reduceCtorEq, ↓reduceIte, Nat.reduceAdd, Nat.reduceEqDiff, Nat.reduceLeDiff, Nat.reduceMul, Nat.reduceBEq, Int.reduceBEq, Int.reduceBNe, Int.reduceLT, Int.reduceLE, Int.reduceGT, Int.reduceGE, Int.reduceToNat])
    (refine kGc_call (c3) (fun _ => rfl) (fun hgc => ?_) ?_; (focus (first | (rw [Bool.not_eq_true'] at hgc; simp only [List.map_cons, List.map_nil, List.nil_append, List.append_nil, List.cons_append, Xev_t, Xev_c, upd_app, lf_cons, lf_nil, Nat.reduceEqDiff, ↓reduceIte, hgc, Bool.false_eq_true, Bool.true_eq_false, reduceCtorEq]; done) | (simp only [List.map_cons, List.map_nil, List.nil_append, List.append_nil, List.cons_append, Xev_t, Xev_c, upd_app, lf_cons, lf_nil, Nat.reduceEqDiff, ↓reduceIte, hgc, Bool.false_eq_true, Bool.true_eq_false, reduceCtorEq]; done) | (revert hgc; simp +contextual [Xev_t, Xev_c, upd_app, lf_cons, lf_nil]; done) | simp [Xev_t, Xev_c, upd_app, lf_cons, lf_nil])); simp +contextual (maxSteps := 1000000) only [go_sem, reduceCtorEq, ↓reduceIte, Nat.reduceAdd, Nat.reduceEqDiff, Nat.reduceLeDiff, Nat.reduceMul, Nat.reduceBEq, Int.reduceBEq, Int.reduceBNe, Int.reduceLT, Int.reduceLE, Int.reduceGT, Int.reduceGE, Int.reduceToNat])
    (refine kGc_call (c4) (fun _ => rfl) (fun hgc => ?_) ?_; (focus (first | (rw [Bool.not_eq_true'] at hgc; simp only [List.map_cons, List.map_nil, List.nil_append, List.append_nil, List.cons_append, Xev_t, Xev_c, upd_app, lf_cons, lf_nil, Nat.reduceEqDiff, ↓reduceIte, hgc, Bool.false_eq_true, Bool.true_eq_false, reduceCtorEq]; done) | (simp only [List.map_cons, List.map_nil, List.nil_append, List.append_nil, List.cons_append, Xev_t, Xev_c, upd_app, lf_cons, lf_nil, Nat.reduceEqDiff, ↓reduceIte, hgc, Bool.false_eq_true, Bool.true_eq_false, reduceCtorEq]; done) | (revert hgc; simp +contextual [Xev_t, Xev_c, upd_app, lf_cons, lf_nil]; done) | simp [Xev_t, Xev_c, upd_app, lf_cons, lf_nil])); simp +contextual (maxSteps := 1000000) only [go_sem, reduceCtorEq, ↓reduceIte, Nat.reduceAdd, Nat.reduceEqDiff, Nat.reduceLeDiff, Nat.reduceMul, Nat.reduceBEq, Int.reduceBEq, Int.reduceBNe, Int.reduceLT, Int.reduceLE, Int.reduceGT, Int.reduceGE, Int.reduceToNat])
    all_goals
      rw [← hQ]
      refine ⟨trivial, Ret.flat (show some (AV.bool _) = some (AV.bool _) from congrArg (fun z => some (AV.bool z)) ?_) rfl⟩
      simp only [Bool.or_eq_false_iff, decide_eq_false_iff_not, beq_eq_false_iff_ne, ne_eq] at h
      obtain ⟨⟨⟨⟨q1, q2⟩, q3⟩, q4⟩, q5⟩ := h
      have e1 : decide (kindK code ≠ 0) = true := decide_eq_true q1
      have e2 : decide (0 ≤ mods) = true := by simp; omega
      have e3 : decide (mods ≤ 255) = true := by simp; omega
      have e4 : decide (1 ≤ type) = true := by simp; omega
      have e5 : decide (type ≤ 3) = true := by simp; omega
      rw [mayK]
      simp only [e1, e2, e3, e4, e5, Bool.true_and]
      rfl
end Go.Proofs.YtbepihadhmfklaaGreatDoor

