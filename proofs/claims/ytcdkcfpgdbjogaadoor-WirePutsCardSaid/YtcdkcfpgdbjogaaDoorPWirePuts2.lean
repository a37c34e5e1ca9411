/- Part 2 of 3 of a proof: the given statement WirePuts, whatever the input that its row lets in. Conditions: those of the given row and card alone. -/
import Derived.Test.YtcdkcfpgdbjogaaDoorChecked
import Derived.Test.YtcdkcfpgdbjogaaDoorPWirePutsAb12
import Derived.Laws.RangeAny
import Derived.Lib.RuneCount
import Derived.Test.YtcdkcfpgdbjogaaDoorShelf
import Derived.Test.YtcdkcfpgdbjogaaDoorPWirePuts1
set_option linter.unusedVariables false
set_option linter.unusedSimpArgs false
namespace Go.Proofs.YtcdkcfpgdbjogaaDoor
open Go Go.Ab
theorem hm : Tryd.prog.follows .mixedOrders = true := by kernel_rfl
def intsAV (l : List Int) : List (List AV) := l.map fun n => [.int .i64 n]
theorem intsAV_length (l : List Int) : (intsAV l).length = l.length := by simp [intsAV]
theorem intsAV_get {l : List Int} {i : Nat} (h : i < l.length) : (intsAV l).getD i [] = [.int .i64 l[i]] := by
  rw [List.getD_eq_getElem?_getD]; simp [intsAV, h]
def intsV (l : List Int) : AV := .sl none 1 (intsAV l)
def parsAV (l : List (List Int)) : List (List AV) := l.map fun p => [intsV p]
def parsV (l : List (List Int)) : AV := .sl none 1 (parsAV l)
theorem parsAV_length (l : List (List Int)) : (parsAV l).length = l.length := by simp [parsAV]
theorem parsAV_get {l : List (List Int)} {i : Nat} (h : i < l.length) : (parsAV l).getD i [] = [intsV l[i]] := by
  rw [List.getD_eq_getElem?_getD]; simp [parsAV, h]
theorem bytesAV_length' (l : List UInt8) : (bytesAV l).length = l.length := by simp [bytesAV]
structure Sq where
  k : Int
  pr : Int
  ps : List (List Int)
  it : List UInt8
  fi : Int
  da : List UInt8
  deriving DecidableEq
def Sq.c (s : Sq) : List AV := [.int .i64 s.k, .int .u8 s.pr, parsV s.ps, .str s.it, .int .u8 s.fi, .str s.da]
theorem c_intsV (l : List Int) : (intsV l).cells = [intsV l] := rfl
theorem o_intsV (l : List Int) : (intsV l).one = true := rfl
theorem c_parsV (l : List (List Int)) : (parsV l).cells = [parsV l] := rfl
theorem o_parsV (l : List (List Int)) : (parsV l).one = true := rfl
theorem s_intsV (l : List Int) : (intsV l).strip = intsV l := rfl
theorem s_parsV (l : List (List Int)) : (parsV l).strip = parsV l := rfl
theorem cl_intsV (l : List Int) : (intsV l).closed = true := rfl
theorem cl_parsV (l : List (List Int)) : (parsV l).closed = true := rfl
attribute [go_sem] c_intsV o_intsV c_parsV o_parsV s_intsV s_parsV cl_intsV cl_parsV Int.natCast_one Int.natCast_zero Int.cast_ofNat_Int
def sv (t : Option Nm) (sz : Nat) (rows : List (List AV)) : AV :=
  match t with
  | none => .nils
  | some t => .sl (some t) sz rows
theorem sv_one {t : Option Nm} {sz : Nat} {rows : List (List AV)} : (sv t sz rows).one = true := by cases t <;> rfl
theorem sv_cells {t : Option Nm} {sz : Nat} {rows : List (List AV)} : (sv t sz rows).cells = [sv t sz rows] := by cases t <;> rfl
theorem sv_none {sz : Nat} {rows : List (List AV)} : sv none sz rows = .nils := rfl
theorem sv_some {nm : Nm} {sz : Nat} {rows : List (List AV)} : sv (some nm) sz rows = .sl (some nm) sz rows := rfl
attribute [go_sem] sv_one sv_cells sv_none sv_some
end Go.Proofs.YtcdkcfpgdbjogaaDoor

set_option maxRecDepth 100000
namespace Go.Proofs.YtcdkcfpgdbjogaaDoor
open Go Go.Ab
def ir_clavierref01Text : ICode :=
 (.seq
 (.reg [⟨some 2, none, .mov (.c (.str []))⟩] (some [0]))
 (.seq
 (.seq
 (.reg [⟨some 3, none, .mov (.t 0)⟩,
 ⟨some 4, none, .bin .lss .none (.t 3) (.c (.int .i64 0))⟩] (some [0, 4]))
 (.cond (.t 4)
 (.seq
 (.reg [⟨some 2, none, .mov (.c (.str []))⟩] (some [2]))
 .ret)
 .skip))
 (.seq
 (.seq
 (.reg [⟨some 5, none, .mov (.t 0)⟩,
 ⟨some 6, none, .bin .lss .none (.t 5) (.c (.int .i64 10))⟩] (some [0, 6]))
 (.cond (.t 6)
 (.seq
 (.reg [⟨some 7, none, .mov (.t 0)⟩,
 ⟨some 8, none, .bin .add .none (.c (.int .i64 48)) (.t 7)⟩,
 ⟨some 9, none, .cvi .u8 (.t 8)⟩,
 ⟨some 10, none, .row 5 1 [(.t 9)]⟩,
 ⟨some 11, none, .b2s (.t 10)⟩,
 ⟨some 2, none, .mov (.t 11)⟩] (some [2]))
 .ret)
 .skip))
 (.seq
 (.drw [⟨⟨some 12, none, .mov (.t 0)⟩, []⟩,
 ⟨⟨some 13, none, .bin .quo .none (.t 12) (.c (.int .i64 10))⟩, [0]⟩,
 ⟨⟨some 14, none, .call (.c (.fn (.func 31) [] [])) [(.t 13)]⟩, [1]⟩,
 ⟨⟨some 15, none, .mov (.t 0)⟩, []⟩,
 ⟨⟨some 16, none, .bin .rem .none (.t 15) (.c (.int .i64 10))⟩, [3]⟩,
 ⟨⟨some 17, none, .bin .add .none (.c (.int .i64 48)) (.t 16)⟩, [4]⟩,
 ⟨⟨some 18, none, .cvi .u8 (.t 17)⟩, [5]⟩,
 ⟨⟨some 19, none, .row 5 1 [(.t 18)]⟩, [6]⟩,
 ⟨⟨some 20, none, .b2s (.t 19)⟩, [7]⟩,
 ⟨⟨some 21, none, .bin .add .none (.t 14) (.t 20)⟩, [2, 8]⟩]
 [⟨some 2, none, .mov (.t 21)⟩] (some [2]))
 .ret))))
theorem is_clavierref01Text : IrOf Tryd.prog 31 22 ir_clavierref01Text [.t 2] := ⟨_, Tryd.func31, rfl, by kernel_rfl, by kernel_rfl, by kernel_rfl⟩

def decB (n : Nat) : List UInt8 := if n < 10 then [UInt8.ofNat (48 + n)] else decB (n / 10) ++ [UInt8.ofNat (48 + n % 10)]
termination_by n
decreasing_by omega
def textZ (n : Int) : List UInt8 := if n < 0 then [] else decB n.toNat
theorem textZ_nat (k : Nat) : textZ (k : Int) = decB k := by rw [textZ, if_neg (by omega), Int.toNat_natCast]
theorem decB_len20 {n : Nat} (h : n < 10000000000000000000) : (decB n).length ≤ 19 := by
  have key : ∀ (k n : Nat), n < 10 ^ (k + 1) → (decB n).length ≤ k + 1 := by
    intro k
    induction k with
    | zero => intro n h; rw [decB, if_pos (by omega)]; simp
    | succ k ih =>
      intro n h
      rw [decB]
      split
      · simp
      · have := ih (n / 10) (by rw [Nat.pow_succ] at h; omega)
        simp; omega
  exact key 18 n h
theorem u8wrap {n : Nat} (h : n < 256) : IntKind.u8.wrap (n : Int) = ((UInt8.ofNat n).toNat : Int) := by
  rw [UInt8.toNat_ofNat', Nat.mod_eq_of_lt (by omega), IntKind.wrap_u8]; omega
theorem isByte_one (c : UInt8) : (∀ r ∈ [[AV.int .u8 (c.toNat : Int)]], isByte r) = True := by
  simp only [List.mem_singleton, forall_eq, isByte_c]
theorem unbyte_c (c : UInt8) : [[AV.int .u8 (c.toNat : Int)]].map unbyte = [c] := by
  simp [unbyte]
set_option maxHeartbeats 1000000 in
theorem fs_rText {Gl : Gh → Prop} (hst : Stays Gl) : ∀ {n : Int}, n < 9223372036854775808 → FS Tryd.prog Gl 31 [.int .i64 n] [] [] (.str (textZ n)) [] [] := by
  have key : ∀ (m : Nat) {n : Int}, n.toNat = m → n < 9223372036854775808 → FS Tryd.prog Gl 31 [.int .i64 n] [] [] (.str (textZ n)) [] [] := by
    intro m
    induction m using Nat.strongRecOn with
    | ind m ih =>
      intro n hm2 hn
      refine FS.of hm hst is_clavierref01Text (by simp) fun γ hγ hfr => ?_
      (generalize hQ : (fun (ex : Ex) (_ _ : Nat) (s : St) => _) = Q; unfold ir_clavierref01Text)
      simp +contextual (maxSteps := 1000000) only [go_sem, reduceCtorEq, ↓reduceIte, Nat.reduceAdd, Nat.reduceEqDiff, Nat.reduceLeDiff, Nat.reduceMul, Nat.reduceBEq, Int.reduceBEq, Int.reduceBNe, Int.reduceLT, Int.reduceLE, Int.reduceGT, Int.reduceGE, Int.reduceToNat]
      refine kCond_split (fun h => ?_) (fun h => ?_)
      · simp +contextual (maxSteps := 1000000) only [go_sem, reduceCtorEq, ↓reduceIte, Nat.reduceAdd, Nat.reduceEqDiff, Nat.reduceLeDiff, Nat.reduceMul, Nat.reduceBEq, Int.reduceBEq, Int.reduceBNe, Int.reduceLT, Int.reduceLE, Int.reduceGT, Int.reduceGE, Int.reduceToNat]
        rw [← hQ]
        refine ⟨trivial, Ret.flat ?_ rfl⟩
        rw [textZ, if_pos (by simpa using h)]; rfl
      · have hn0 : 0 ≤ n := by simpa using h
        obtain ⟨k, rfl⟩ := Int.eq_ofNat_of_zero_le hn0
        have hk : k = m := by simpa using hm2
        subst hk
        have ht : textZ (k : Int) = decB k := textZ_nat k
        rw [ht] at hQ
        simp +contextual (maxSteps := 1000000) only [go_sem, reduceCtorEq, ↓reduceIte, Nat.reduceAdd, Nat.reduceEqDiff, Nat.reduceLeDiff, Nat.reduceMul, Nat.reduceBEq, Int.reduceBEq, Int.reduceBNe, Int.reduceLT, Int.reduceLE, Int.reduceGT, Int.reduceGE, Int.reduceToNat]
        refine kCond_split (fun h => ?_) (fun h => ?_)
        · have hk10 : k < 10 := by simp at h; omega
          have hw : IntKind.u8.wrap (IntKind.i64.wrap (48 + (k : Int))) = ((UInt8.ofNat (48 + k)).toNat : Int) := by
            exact (congrArg IntKind.u8.wrap (by rw [IntKind.wrap_i64]; omega)).trans (u8wrap (by omega))
          simp +contextual (maxSteps := 1000000) only [hw, isByte_one, unbyte_c, go_sem, reduceCtorEq, ↓reduceIte, Nat.reduceAdd, Nat.reduceEqDiff, Nat.reduceLeDiff, Nat.reduceMul, Nat.reduceBEq, Int.reduceBEq, Int.reduceBNe, Int.reduceLT, Int.reduceLE, Int.reduceGT, Int.reduceGE, Int.reduceToNat]
          rw [← hQ]
          refine ⟨trivial, Ret.flat ?_ rfl⟩
          rw [decB, if_pos hk10]; rfl
        · have hk10 : 10 ≤ k := by simp at h; omega
          have hq : IntKind.i64.wrap ((k : Int).tdiv 10) = ((k / 10 : Nat) : Int) := by
            rw [IntKind.wrap_i64, show ((k : Int).tdiv 10) = ((k / 10 : Nat) : Int) from (Int.ofNat_tdiv k 10).symm]; omega
          have hr : IntKind.u8.wrap (IntKind.i64.wrap (48 + (k : Int).tmod 10)) = ((UInt8.ofNat (48 + k % 10)).toNat : Int) := by
            have h1 : ((k : Int).tmod 10) = ((k % 10 : Nat) : Int) := (Int.ofNat_tmod k 10).symm
            exact (congrArg IntKind.u8.wrap (by rw [h1, IntKind.wrap_i64]; omega)).trans (u8wrap (by omega))
          have hd : textZ ((k / 10 : Nat) : Int) = decB (k / 10) := textZ_nat _
          have he : decB k = decB (k / 10) ++ [UInt8.ofNat (48 + k % 10)] := by rw [decB, if_neg (by omega)]
          have c1 := ih (k / 10) (by omega) (n := ((k / 10 : Nat) : Int)) (Int.toNat_natCast _) (by omega)
          rw [hd] at c1
          have hl := decB_len20 (n := k / 10) (by omega)
          simp +contextual (maxSteps := 1000000) only [hq, go_sem, reduceCtorEq, ↓reduceIte, Nat.reduceAdd, Nat.reduceEqDiff, Nat.reduceLeDiff, Nat.reduceMul, Nat.reduceBEq, Int.reduceBEq, Int.reduceBNe, Int.reduceLT, Int.reduceLE, Int.reduceGT, Int.reduceGE, Int.reduceToNat]
          refine ⟨by decide, DCall.new c1 ?_⟩
          simp +contextual (maxSteps := 1000000) only [hr, isByte_one, unbyte_c, go_sem, reduceCtorEq, ↓reduceIte, Nat.reduceAdd, Nat.reduceEqDiff, Nat.reduceLeDiff, Nat.reduceMul, Nat.reduceBEq, Int.reduceBEq, Int.reduceBNe, Int.reduceLT, Int.reduceLE, Int.reduceGT, Int.reduceGE, Int.reduceToNat]
          refine ⟨by decide, by omega, ?_⟩
          rw [← hQ]
          refine ⟨trivial, Ret.flat ?_ rfl⟩
          rw [he]; rfl
  exact fun {n} hn => key _ rfl hn
end Go.Proofs.YtcdkcfpgdbjogaaDoor

namespace Go.Proofs.YtcdkcfpgdbjogaaDoor
open Go Go.Ab
def ir_clavierref03within : ICode :=
 (.seq
 (.reg [⟨some 6, none, .mov (.c (.bool false))⟩] (some [0, 1, 2]))
 (.seq
 (.seq
 (.reg [⟨some 7, none, .mov (.c (.int .i64 0))⟩] (some [0, 1, 2, 7]))
 (.blk 0
 (.loop
 (.seq
 (.seq
 (.reg [⟨some 8, none, .mov (.t 7)⟩,
 ⟨some 9, none, .mov (.t 0)⟩,
 ⟨some 10, none, .lns (.t 9)⟩,
 ⟨some 11, none, .bin .lss .none (.t 8) (.t 10)⟩] (some [0, 1, 2, 7, 11]))
 (.cond (.t 11)
 .skip
 (.exit 0)))
 (.seq
 (.blk 1
 (.seq
 (.reg [⟨some 14, none, .mov (.t 0)⟩,
 ⟨some 15, none, .mov (.t 7)⟩,
 ⟨some 16, none, .ixs (.t 14) (.t 15)⟩,
 ⟨some 17, none, .mov (.t 1)⟩,
 ⟨some 18, none, .bin .lss .none (.t 16) (.t 17)⟩,
 ⟨some 19, none, .mov (.t 18)⟩,
 ⟨some 20, some (19, false), .mov (.t 0)⟩,
 ⟨some 21, some (19, false), .mov (.t 7)⟩,
 ⟨some 22, some (19, false), .ixs (.t 20) (.t 21)⟩,
 ⟨some 23, some (19, false), .mov (.t 2)⟩,
 ⟨some 24, some (19, false), .bin .gtr .none (.t 22) (.t 23)⟩,
 ⟨some 25, none, .pick (.t 19) (.c (.bool true)) (.t 24)⟩] (some [0, 1, 2, 7, 25]))
 (.cond (.t 25)
 (.seq
 (.reg [⟨some 6, none, .mov (.c (.bool false))⟩] (some [6]))
 .ret)
 .skip)))
 (.reg [⟨some 12, none, .mov (.t 7)⟩,
 ⟨some 13, none, .bin .add .none (.t 12) (.c (.int .i64 1))⟩,
 ⟨some 7, none, .mov (.t 13)⟩] (some [0, 1, 2, 7])))))))
 (.seq
 (.reg [⟨some 6, none, .mov (.c (.bool true))⟩] (some [6]))
 .ret)))
theorem is_clavierref03within : IrOf Tryd.prog 22 26 ir_clavierref03within [.t 6] := ⟨_, Tryd.func22, rfl, by kernel_rfl, by kernel_rfl, by kernel_rfl⟩

theorem fs_within {Gl : Gh → Prop} (hst : Stays Gl) {s : List UInt8} {x y : Int} (hl : s.length < 9223372036854775808) : FS Tryd.prog Gl 22 [.str s, .int .u8 x, .int .u8 y] [] [] (.bool (s.all fun c => decide (x ≤ c.toNat) && decide ((c.toNat : Int) ≤ y))) [] [] := by
  refine FS.of hm hst is_clavierref03within (by simp) fun γ hγ hfr => ?_
  (generalize hQ : (fun (ex : Ex) (_ _ : Nat) (s : St) => _) = Q; unfold ir_clavierref03within)
  simp +contextual (maxSteps := 1000000) only [go_sem, reduceCtorEq, ↓reduceIte, Nat.reduceAdd, Nat.reduceEqDiff, Nat.reduceLeDiff, Nat.reduceMul, Nat.reduceBEq, Int.reduceBEq, Int.reduceBNe, Int.reduceLT, Int.reduceLE, Int.reduceGT, Int.reduceGE, Int.reduceToNat]
  refine kLoop_ix (fun i : Nat => ⟨lf [(0, .str s), (1, .int .u8 x), (2, .int .u8 y), (7, .int .i64 i)], [], fun x => x ∈ []⟩) (fun i => i ≤ s.length ∧ (s.all fun c => decide (x ≤ c.toNat) && decide ((c.toNat : Int) ≤ y)) = ((s.drop i).all fun c => decide (x ≤ c.toNat) && decide ((c.toNat : Int) ≤ y))) (fun i => s.length - i) 0 0 (Wk.same ?_) (by simp) ?_
  · (simp only [lfOK, upd, initF]; repeat' first | exact AVle.refl _ _ | exact trivial | refine And.intro ?_ ?_ | exact AVle.int (by simp only [IntKind.wrap_i64]; omega))
  · rintro γ' i hf ⟨hi, hinv⟩
    generalize hQ' : kIt _ _ _ _ _ = Q'
    by_cases hlt : i < s.length
    · have hd : decide ((i : Int) < (s.length : Int)) = true := by simp; omega
      have hg0 : s.getD (i : Int).toNat 0 = s[i] := by rw [Int.toNat_natCast, List.getD_eq_getElem?_getD, List.getElem?_eq_getElem hlt]; rfl
      have hdrop : s.drop i = s[i] :: s.drop (i + 1) := List.drop_eq_getElem_cons hlt
      rw [hdrop, List.all_cons] at hinv
      have hor : (decide (((s[i]).toNat : Int) < x) || decide (((s[i]).toNat : Int) > y)) = !(decide (x ≤ (s[i]).toNat) && decide (((s[i]).toNat : Int) ≤ y)) := by
        rw [Bool.eq_iff_iff]; simp
      generalize (decide (x ≤ (s[i]).toNat) && decide (((s[i]).toNat : Int) ≤ y)) = q at hor hinv
      (simp +contextual (maxSteps := 1000000) only [hd, hg0, go_sem, reduceCtorEq, ↓reduceIte, Nat.reduceAdd, Nat.reduceEqDiff, Nat.reduceLeDiff, Nat.reduceMul, Nat.reduceBEq, Int.reduceBEq, Int.reduceBNe, Int.reduceLT, Int.reduceLE, Int.reduceGT, Int.reduceGE, Int.reduceToNat]; repeat' first | ((first | refine kCond_split (fun hg => ?_) (fun hg => ?_) | refine kGc_split (fun hg => ?_) (fun hg => ?_) | refine kPreG_split (fun hg => ?_) (fun hg => ?_)) <;> (try rw [hg]) <;> simp +contextual (maxSteps := 1000000) only [hd, hg0, go_sem, reduceCtorEq, ↓reduceIte, Nat.reduceAdd, Nat.reduceEqDiff, Nat.reduceLeDiff, Nat.reduceMul, Nat.reduceBEq, Int.reduceBEq, Int.reduceBNe, Int.reduceLT, Int.reduceLE, Int.reduceGT, Int.reduceGE, Int.reduceToNat]) | refine And.intro (by omega) ?_)
      all_goals rw [← hQ']; simp only [w_kIt_n, w_kIt_e, w_kIt_r, w_kBlk_n, w_kBlk_e, w_kBlk_r, w_kSeq_n, w_kSeq_e, w_kSeq_r, ↓reduceIte]
      · have hq : q = false := by rw [hor] at hg; simpa using hg
        rw [← hQ, hinv, hq]
        exact ⟨trivial, Ret.flat rfl rfl⟩
      · have hq : q = true := by rw [hor] at hg; simpa using hg
        refine ⟨0, i + 1, Wk.same ?_, ⟨by omega, ?_⟩, by omega⟩
        · repeat' first | exact AVle.refl _ _ | exact trivial | refine And.intro ?_ ?_ | exact AVle.int (by simp only [IntKind.wrap_i64]; omega)
        · rw [hinv, hq, Bool.true_and]
    · have hd : decide ((i : Int) < (s.length : Int)) = false := by simp; omega
      simp +contextual (maxSteps := 1000000) only [hd, go_sem, reduceCtorEq, ↓reduceIte, Nat.reduceAdd, Nat.reduceEqDiff, Nat.reduceLeDiff, Nat.reduceMul, Nat.reduceBEq, Int.reduceBEq, Int.reduceBNe, Int.reduceLT, Int.reduceLE, Int.reduceGT, Int.reduceGE, Int.reduceToNat]
      rw [← hQ']
      simp only [w_kIt_e, w_kBlk_e, ↓reduceIte]
      simp +contextual (maxSteps := 1000000) only [go_sem, reduceCtorEq, ↓reduceIte, Nat.reduceAdd, Nat.reduceEqDiff, Nat.reduceLeDiff, Nat.reduceMul, Nat.reduceBEq, Int.reduceBEq, Int.reduceBNe, Int.reduceLT, Int.reduceLE, Int.reduceGT, Int.reduceGE, Int.reduceToNat]
      rw [List.drop_of_length_le (by omega)] at hinv
      rw [← hQ, hinv]
      exact ⟨trivial, Ret.flat rfl rfl⟩
end Go.Proofs.YtcdkcfpgdbjogaaDoor

namespace Go.Proofs.YtcdkcfpgdbjogaaDoor
open Go Go.Ab
def ir_stringsindexFunc : ICode :=
 (.seq
 (.reg [⟨some 6, none, .mov (.c (.int .i64 0))⟩] (some [0, 1, 2]))
 (.seq
 (.seq
 (.reg [⟨some 9, none, .mov (.t 0)⟩,
 ⟨some 10, none, .rng (.t 9)⟩] (some [1, 2, 10]))
 (.blk 0
 (.loop
 (.seq
 (.reg [⟨some 11, none, .nxt (.t 10)⟩,
 ⟨some 12, none, .ext (.t 11) 0⟩] (some [1, 2, 10, 11, 12]))
 (.seq
 (.cond (.t 12)
 .skip
 (.exit 0))
 (.blk 1
 (.seq
 (.reg [⟨some 13, none, .ext (.t 11) 1⟩,
 ⟨some 14, none, .ext (.t 11) 2⟩,
 ⟨some 7, none, .mov (.t 13)⟩,
 ⟨some 8, none, .mov (.t 14)⟩] (some [1, 2, 7, 8, 10]))
 (.seq
 (.reg [⟨some 15, none, .mov (.t 1)⟩,
 ⟨some 16, none, .mov (.t 8)⟩,
 ⟨some 17, none, .call (.t 15) [(.t 16)]⟩,
 ⟨some 18, none, .mov (.t 2)⟩,
 ⟨some 19, none, .bin .eql .bool (.t 17) (.t 18)⟩] (some [1, 2, 7, 10, 19]))
 (.cond (.t 19)
 (.seq
 (.reg [⟨some 20, none, .mov (.t 7)⟩,
 ⟨some 6, none, .mov (.t 20)⟩] (some [6]))
 .ret)
 .skip)))))))))
 (.seq
 (.reg [⟨some 6, none, .mov (.c (.int .i64 (-1)))⟩] (some [6]))
 .ret)))
theorem is_stringsindexFunc : IrOf Tryd.prog 55 21 ir_stringsindexFunc [.t 6] := ⟨_, Tryd.func55, rfl, by kernel_rfl, by kernel_rfl, by kernel_rfl⟩

def ir_stringsIndexFunc : ICode :=
 (.seq
 (.reg [⟨some 4, none, .mov (.c (.int .i64 0))⟩] (some [0, 1]))
 (.seq
 (.reg [⟨some 5, none, .mov (.t 0)⟩,
 ⟨some 6, none, .mov (.t 1)⟩,
 ⟨some 7, none, .call (.c (.fn (.func 55) [] [])) [(.t 5), (.t 6), (.c (.bool true))]⟩,
 ⟨some 4, none, .mov (.t 7)⟩] (some [4]))
 .ret))
theorem is_stringsIndexFunc : IrOf Tryd.prog 47 8 ir_stringsIndexFunc [.t 4] := ⟨_, Tryd.func47, rfl, by kernel_rfl, by kernel_rfl, by kernel_rfl⟩

def ir_stringsContainsFunc : ICode :=
 (.seq
 (.reg [⟨some 4, none, .mov (.c (.bool false))⟩] (some [0, 1]))
 (.seq
 (.reg [⟨some 5, none, .mov (.t 0)⟩,
 ⟨some 6, none, .mov (.t 1)⟩,
 ⟨some 7, none, .call (.c (.fn (.func 47) [] [])) [(.t 5), (.t 6)]⟩,
 ⟨some 8, none, .bin .geq .none (.t 7) (.c (.int .i64 0))⟩,
 ⟨some 4, none, .mov (.t 8)⟩] (some [4]))
 .ret))
theorem is_stringsContainsFunc : IrOf Tryd.prog 32 9 ir_stringsContainsFunc [.t 4] := ⟨_, Tryd.func32, rfl, by kernel_rfl, by kernel_rfl, by kernel_rfl⟩

def idxF (s : ByteArray) (q : Nat → Bool) : Nat → Nat → Int
  | 0, _ => -1
  | m + 1, pos => if pos < s.size then if q (Utf8.decode s pos).1 = true then pos else idxF s q m (pos + (Utf8.decode s pos).2) else -1

theorem fs_indexFunc {Gl : Gh → Prop} (hst : Stays Gl) {s : List UInt8} {k : Nat} {caps : List AV} {Hc : Hp} {q : Nat → Bool} (hs : s.length < 9223372036854775808) (hR : Rd Hc)
    (hk : ∀ c : Nat, FS Tryd.prog Gl k (.int .i32 c :: caps) Hc [] (.bool (q c)) Hc []) :
    FS Tryd.prog Gl 55 [.str s, .fn (.func k) [] caps, .bool true] Hc [] (.int .i64 (idxF ⟨s.toArray⟩ q (s.length + 1) 0)) Hc [] := by
  refine FS.of hm hst is_stringsindexFunc (by simp) fun γ hγ hfr => ?_
  generalize hQ : (fun (ex : Ex) (_ _ : Nat) (s : St) => _) = Q
  unfold ir_stringsindexFunc
  simp +contextual (maxSteps := 1000000) only [go_sem, reduceCtorEq, ↓reduceIte, Nat.reduceAdd, Nat.reduceEqDiff]
  have hap : ∀ p ∈ Hc, p.1 ≠ ((γ, 2, 0) : Nm) := fun p hp e => hfr.1 p hp (by rw [e])
  refine kLoop_ix (fun pos : Nat => ⟨lf [(1, .fn (.func k) [] caps), (2, .bool true), (10, .ptr (γ, 2, 0) 0)], Hc ++ [((γ, 2, 0), .obj (.stringIter ⟨s.toArray⟩ pos))], fun x => x ∈ []⟩) (fun pos => ∃ m, s.length - pos < m ∧ idxF ⟨s.toArray⟩ q (s.length + 1) 0 = idxF ⟨s.toArray⟩ q m pos) (fun pos => s.length - pos) 0 0 (Wk.perm ?_ ?_) ?_ ?_
  · simp only [lfOK, upd, initF]
    repeat' first | exact AVle.refl _ _ | exact trivial | refine And.intro ?_ ?_
  · intro p hp; simp only [List.mem_append, List.mem_singleton, List.mem_cons] at hp ⊢; rcases hp with h | h; exact .inr h; exact .inl (by simpa using h)
  · exact ⟨s.length + 1, by omega, rfl⟩
  · rintro γ' pos hf ⟨m, hm1, hinv⟩
    generalize hQ' : kIt _ _ _ _ _ = Q'
    have hget : getH (Hc ++ [((γ, 2, 0), HB.obj (.stringIter ⟨s.toArray⟩ pos))]) (γ, 2, 0) = some (.obj (.stringIter ⟨s.toArray⟩ pos)) := getH_last hap
    have hset : ∀ o, setH (Hc ++ [((γ, 2, 0), HB.obj (.stringIter ⟨s.toArray⟩ pos))]) (γ, 2, 0) (.obj o) = Hc ++ [((γ, 2, 0), HB.obj o)] := fun o => setH_last hap
    have hsz : (⟨s.toArray⟩ : ByteArray).size = s.length := by simp [ByteArray.size]
    obtain ⟨m, rfl⟩ : ∃ m', m = m' + 1 := ⟨m - 1, by omega⟩
    have hmem : ∀ o, ∀ p ∈ Hc, p ∈ Hc ++ [(((γ, 2, 0) : Nm), HB.obj o)] := fun o p hp => List.mem_append.2 (.inl hp)
    by_cases hlt : pos < s.length
    · have hw := Lib.decode_width_pos ⟨s.toArray⟩ pos (by rw [hsz]; exact hlt)
      simp +contextual (maxSteps := 1000000) only [hget, hset, hsz, hlt, if_true, go_sem, reduceCtorEq, ↓reduceIte, Nat.reduceAdd, Nat.reduceEqDiff]
      refine CallP.read (hk _) (fun _ => rfl) hR.rn (fun p hp q' hq' => ?_) ?_
      · simp only [List.mem_singleton] at hp; subst hp; exact hap q' hq'
      · cases hq' : q (Utf8.decode ⟨s.toArray⟩ pos).1 with
        | true =>
          simp +contextual (maxSteps := 1000000) only [go_sem, reduceCtorEq, ↓reduceIte, Nat.reduceAdd, Nat.reduceEqDiff]
          rw [← hQ']
          simp only [w_kIt_r, w_kBlk_r, w_kSeq_r]
          rw [← hQ, hinv, idxF, if_pos (by rw [hsz]; exact hlt), if_pos hq']
          exact ⟨trivial, Ret.reads hR rfl rfl (hmem _)⟩
        | false =>
          simp +contextual (maxSteps := 1000000) only [go_sem, reduceCtorEq, ↓reduceIte, Nat.reduceAdd, Nat.reduceEqDiff]
          rw [← hQ']
          simp only [w_kIt_n]
          refine ⟨0, pos + (Utf8.decode ⟨s.toArray⟩ pos).2, Wk.perm ?_ (fun p hp => hp), ⟨m, by omega, ?_⟩, by omega⟩
          · repeat' first | exact AVle.refl _ _ | exact trivial | refine And.intro ?_ ?_
          · rw [hinv, idxF, if_pos (by rw [hsz]; exact hlt), if_neg (by rw [hq']; simp)]
    · simp +contextual (maxSteps := 1000000) only [hget, hset, hsz, hlt, if_false, go_sem, reduceCtorEq, ↓reduceIte, Nat.reduceAdd, Nat.reduceEqDiff]
      rw [← hQ']
      simp only [w_kIt_e, w_kBlk_e, ↓reduceIte]
      simp +contextual (maxSteps := 1000000) only [go_sem, reduceCtorEq, ↓reduceIte, Nat.reduceAdd, Nat.reduceEqDiff]
      rw [← hQ, hinv, idxF, if_neg (by rw [hsz]; exact hlt)]
      exact ⟨trivial, Ret.reads hR rfl rfl (hmem _)⟩

theorem fs_IndexFunc {Gl : Gh → Prop} (hst : Stays Gl) {s : List UInt8} {k : Nat} {caps : List AV} {Hc : Hp} {q : Nat → Bool} (hs : s.length < 9223372036854775808) (hR : Rd Hc)
    (hk : ∀ c : Nat, FS Tryd.prog Gl k (.int .i32 c :: caps) Hc [] (.bool (q c)) Hc []) :
    FS Tryd.prog Gl 47 [.str s, .fn (.func k) [] caps] Hc [] (.int .i64 (idxF ⟨s.toArray⟩ q (s.length + 1) 0)) Hc [] := by
  refine FS.of hm hst is_stringsIndexFunc (by simp) fun γ hγ hfr => ?_
  generalize hQ : (fun (ex : Ex) (_ _ : Nat) (s : St) => _) = Q
  unfold ir_stringsIndexFunc
  simp +contextual (maxSteps := 1000000) only [go_sem, reduceCtorEq, ↓reduceIte, Nat.reduceAdd, Nat.reduceEqDiff]
  refine CallP.all (fs_indexFunc hst hs hR hk) (fun _ => rfl) hR.rn ?_
  simp +contextual (maxSteps := 1000000) only [go_sem, reduceCtorEq, ↓reduceIte, Nat.reduceAdd, Nat.reduceEqDiff]
  rw [← hQ]
  exact ⟨trivial, Ret.reads hR rfl rfl (fun _ h => h)⟩

theorem fs_ContainsFunc {Gl : Gh → Prop} (hst : Stays Gl) {s : List UInt8} {k : Nat} {caps : List AV} {Hc : Hp} {q : Nat → Bool} (hs : s.length < 9223372036854775808) (hR : Rd Hc)
    (hk : ∀ c : Nat, FS Tryd.prog Gl k (.int .i32 c :: caps) Hc [] (.bool (q c)) Hc []) :
    FS Tryd.prog Gl 32 [.str s, .fn (.func k) [] caps] Hc [] (.bool (decide (idxF ⟨s.toArray⟩ q (s.length + 1) 0 ≥ 0))) Hc [] := by
  refine FS.of hm hst is_stringsContainsFunc (by simp) fun γ hγ hfr => ?_
  generalize hQ : (fun (ex : Ex) (_ _ : Nat) (s : St) => _) = Q
  unfold ir_stringsContainsFunc
  simp +contextual (maxSteps := 1000000) only [go_sem, reduceCtorEq, ↓reduceIte, Nat.reduceAdd, Nat.reduceEqDiff]
  refine CallP.all (fs_IndexFunc hst hs hR hk) (fun _ => rfl) hR.rn ?_
  simp +contextual (maxSteps := 1000000) only [go_sem, reduceCtorEq, ↓reduceIte, Nat.reduceAdd, Nat.reduceEqDiff]
  rw [← hQ]
  exact ⟨trivial, Ret.reads hR rfl rfl (fun _ h => h)⟩
end Go.Proofs.YtcdkcfpgdbjogaaDoor

namespace Go.Proofs.YtcdkcfpgdbjogaaDoor
open Go Go.Ab
def ir_wirebetween1 : ICode :=
 (.seq
 (.reg [⟨some 4, none, .mov (.c (.bool false))⟩] (some [0, 1, 2]))
 (.seq
 (.reg [⟨some 5, none, .mov (.t 0)⟩,
 ⟨some 6, none, .ld none (.t 1)⟩,
 ⟨some 7, none, .cvi .i32 (.t 6)⟩,
 ⟨some 8, none, .bin .lss .none (.t 5) (.t 7)⟩,
 ⟨some 9, none, .mov (.t 8)⟩,
 ⟨some 10, some (9, false), .mov (.t 0)⟩,
 ⟨some 11, some (9, false), .ld none (.t 2)⟩,
 ⟨some 12, some (9, false), .cvi .i32 (.t 11)⟩,
 ⟨some 13, some (9, false), .bin .gtr .none (.t 10) (.t 12)⟩,
 ⟨some 14, none, .pick (.t 9) (.c (.bool true)) (.t 13)⟩,
 ⟨some 4, none, .mov (.t 14)⟩] (some [4]))
 .ret))
theorem is_wirebetween1 : IrOf Tryd.prog 33 15 ir_wirebetween1 [.t 4] := ⟨_, Tryd.func33, rfl, by kernel_rfl, by kernel_rfl, by kernel_rfl⟩

def ir_wirebetween : ICode :=
 (.seq
 (.reg [⟨some 4, none, .box 5 (.t 1)⟩,
 ⟨some 5, none, .box 5 (.t 2)⟩,
 ⟨some 6, none, .mov (.c (.bool false))⟩] (some [0, 4, 5]))
 (.seq
 (.reg [⟨some 7, none, .mov (.t 0)⟩,
 ⟨some 8, none, .mkf (.func 33) [] [(.t 4), (.t 5)]⟩,
 ⟨some 9, none, .call (.c (.fn (.func 32) [] [])) [(.t 7), (.t 8)]⟩,
 ⟨some 10, none, .un .not (.t 9)⟩,
 ⟨some 6, none, .mov (.t 10)⟩] (some [6]))
 .ret))
theorem is_wirebetween : IrOf Tryd.prog 18 11 ir_wirebetween [.t 6] := ⟨_, Tryd.func18, rfl, by kernel_rfl, by kernel_rfl, by kernel_rfl⟩

theorem rd2 {a b : Nm} {x y : Int} (ha : 1 ≤ a.1) (hb : 1 ≤ b.1) : Rd [(b, HB.cells [.int .u8 y]), (a, .cells [.int .u8 x])] := by
  refine ⟨fun f => ?_, fun p hp => ?_⟩
  · have e1 : rnN f a = a := by unfold rnN; rw [if_neg]; omega
    have e2 : rnN f b = b := by unfold rnN; rw [if_neg]; omega
    simp only [rnH, List.map_cons, List.map_nil, e1, e2, rnHB, rnL, Ab.rn]
  · simp only [List.mem_cons, List.not_mem_nil, or_false] at hp
    rcases hp with rfl | rfl
    · exact ⟨by unfold nmOK; rw [if_neg (by simp only; omega)]; simp, trivial, trivial⟩
    · exact ⟨by unfold nmOK; rw [if_neg (by simp only; omega)]; simp, trivial, trivial⟩

theorem fs_between1 {Gl : Gh → Prop} (hst : Stays Gl) {c : Nat} {x y : Int} {a b : Nm} (hab : a ≠ b) (ha : 1 ≤ a.1) (hb : 1 ≤ b.1) (hx : 0 ≤ x ∧ x < 256) (hy : 0 ≤ y ∧ y < 256) :
    FS Tryd.prog Gl 33 [.int .i32 c, .ptr a 0, .ptr b 0] [(b, .cells [.int .u8 y]), (a, .cells [.int .u8 x])] [] (.bool (decide ((c : Int) < x) || decide ((c : Int) > y))) [(b, .cells [.int .u8 y]), (a, .cells [.int .u8 x])] [] := by
  refine FS.of hm hst is_wirebetween1 (by simp) fun γ hγ hfr => ?_
  have hR := rd2 (x := x) (y := y) ha hb
  have w1 : IntKind.i32.wrap x = x := by rw [IntKind.wrap_i32]; omega
  have w2 : IntKind.i32.wrap y = y := by rw [IntKind.wrap_i32]; omega
  generalize hQ : (fun (ex : Ex) (_ _ : Nat) (s : St) => _) = Q
  unfold ir_wirebetween1
  simp +contextual (maxSteps := 1000000) only [hab, (Ne.symm hab), w1, w2, go_sem, reduceCtorEq, ↓reduceIte, Nat.reduceAdd, Nat.reduceEqDiff]
  rw [← hQ]; exact ⟨trivial, Ret.reads hR rfl rfl (fun _ h => h)⟩

theorem bytes_get (s : List UInt8) (pos : Nat) (h : pos < s.length) (h' : pos < (⟨s.toArray⟩ : ByteArray).size) : (⟨s.toArray⟩ : ByteArray)[pos]'h' = s[pos] := rfl
theorem idxF_all {s : List UInt8} {x y : Int} (hy : y < 128) : ∀ (m pos : Nat), s.length - pos < m → (decide (idxF ⟨s.toArray⟩ (fun c => decide ((c : Int) < x) || decide ((c : Int) > y)) m pos ≥ 0) = !((s.drop pos).all fun c => decide (x ≤ c.toNat) && decide ((c.toNat : Int) ≤ y)))
  | 0, pos, h => by omega
  | m + 1, pos, h => by
    have hsz : (⟨s.toArray⟩ : ByteArray).size = s.length := by simp [ByteArray.size]
    unfold idxF
    by_cases hlt : pos < s.length
    · rw [if_pos (by rw [hsz]; exact hlt)]
      have hd : s.drop pos = s[pos] :: s.drop (pos + 1) := List.drop_eq_getElem_cons hlt
      by_cases ha : (s[pos]).toNat < 128
      · have hdec := decode_ascii ⟨s.toArray⟩ pos (by rw [hsz]; exact hlt) ha
        rw [bytes_get s pos hlt] at hdec
        rw [hdec, hd]
        simp only [List.all_cons]
        by_cases hq : (decide (((s[pos]).toNat : Int) < x) || decide (((s[pos]).toNat : Int) > y)) = true
        · rw [if_pos hq]
          have : (decide (x ≤ ((s[pos]).toNat : Int)) && decide (((s[pos]).toNat : Int) ≤ y)) = false := by
            rw [Bool.eq_false_iff]; simp at hq ⊢; omega
          rw [this]
          simp
        · rw [if_neg hq, idxF_all hy m (pos + 1) (by omega)]
          have : (decide (x ≤ ((s[pos]).toNat : Int)) && decide (((s[pos]).toNat : Int) ≤ y)) = true := by
            simp at hq ⊢; omega
          rw [this, Bool.true_and]
      · have hdec := decode_high ⟨s.toArray⟩ pos (by rw [hsz]; exact hlt) (by rw [bytes_get s pos hlt]; omega)
        rw [if_pos (by simp; right; omega), hd]
        have : (decide (x ≤ ((s[pos]).toNat : Int)) && decide (((s[pos]).toNat : Int) ≤ y)) = false := by
          rw [Bool.eq_false_iff]; simp; omega
        simp only [List.all_cons, this]
        simp
    · rw [if_neg (by rw [hsz]; exact hlt), List.drop_eq_nil_of_le (by omega)]
      simp

theorem fs_between {Gl : Gh → Prop} (hst : Stays Gl) {s : List UInt8} {x y : Int} (hs : s.length < 9223372036854775808) (hx : 0 ≤ x ∧ x < 256) (hy : 0 ≤ y ∧ y < 128) :
    FS Tryd.prog Gl 18 [.str s, .int .u8 x, .int .u8 y] [] [] (.bool (s.all fun c => decide (x ≤ c.toNat) && decide ((c.toNat : Int) ≤ y))) [] [] := by
  refine FS.of hm hst is_wirebetween (by simp) fun γ hγ hfr => ?_
  generalize hQ : (fun (ex : Ex) (_ _ : Nat) (s : St) => _) = Q
  unfold ir_wirebetween
  simp +contextual (maxSteps := 1000000) only [go_sem, reduceCtorEq, ↓reduceIte, Nat.reduceAdd, Nat.reduceEqDiff]
  refine CallP.all (fs_ContainsFunc hst hs (rd2 hγ hγ) fun c => fs_between1 hst (by simp) hγ hγ hx (by omega)) (fun _ => rfl) (rd2 hγ hγ).rn ?_
  simp +contextual (maxSteps := 1000000) only [go_sem, reduceCtorEq, ↓reduceIte, Nat.reduceAdd, Nat.reduceEqDiff]
  rw [← hQ]
  have e := idxF_all (s := s) (x := x) hy.2 (s.length + 1) 0 (by omega)
  rw [List.drop_zero] at e
  refine ⟨trivial, ?_⟩
  rw [e, Bool.not_not]
  exact Ret.flat rfl rfl
end Go.Proofs.YtcdkcfpgdbjogaaDoor

namespace Go.Proofs.YtcdkcfpgdbjogaaDoor
open Go Go.Ab
def ir_numTake1 : ICode :=
 (.seq
 (.reg [⟨some 2, none, .mov (.c (.bool false))⟩] (some [0]))
 (.seq
 (.reg [⟨some 3, none, .mov (.t 0)⟩,
 ⟨some 4, none, .bin .geq .none (.t 3) (.c (.int .u8 48))⟩,
 ⟨some 5, none, .mov (.t 4)⟩,
 ⟨some 6, some (5, true), .mov (.t 0)⟩,
 ⟨some 7, some (5, true), .bin .leq .none (.t 6) (.c (.int .u8 57))⟩,
 ⟨some 8, none, .pick (.t 5) (.t 7) (.c (.bool false))⟩,
 ⟨some 2, none, .mov (.t 8)⟩] (some [2]))
 .ret))
theorem is_numTake1 : IrOf Tryd.prog 69 9 ir_numTake1 [.t 2] := ⟨_, Tryd.func69, rfl, by kernel_rfl, by kernel_rfl, by kernel_rfl⟩

def ir_numTake : ICode :=
 (.seq
 (.reg [⟨some 2, none, .mov (.c (.int .i64 0))⟩,
 ⟨some 3, none, .mov (.c (.int .i64 0))⟩] (some [0]))
 (.seq
 (.reg [⟨some 4, none, .mov (.c (.fn (.func 69) [] []))⟩] (some [0, 4]))
 (.seq
 (.reg [⟨some 5, none, .mov (.c (.int .i64 0))⟩] (some [0, 4, 5]))
 (.seq
 (.seq
 (.reg [⟨some 7, none, .mov (.t 0)⟩,
 ⟨some 8, none, .len (.t 7)⟩,
 ⟨some 9, none, .mov (.c (.int .i64 0))⟩] (some [0, 4, 5, 8, 9]))
 (.blk 0
 (.loop
 (.seq
 (.reg [⟨some 10, none, .bin .lss .none (.t 9) (.t 8)⟩] (some [0, 4, 5, 8, 9, 10]))
 (.seq
 (.cond (.t 10)
 .skip
 (.exit 0))
 (.seq
 (.blk 1
 (.seq
 (.reg [⟨some 11, none, .mov (.t 9)⟩,
 ⟨some 6, none, .mov (.t 11)⟩] (some [0, 4, 5, 6, 8, 9]))
 (.seq
 (.seq
 (.reg [⟨some 12, none, .mov (.t 4)⟩,
 ⟨some 13, none, .mov (.t 0)⟩,
 ⟨some 14, none, .mov (.t 6)⟩,
 ⟨some 15, none, .ia 1 (.t 13) (.t 14)⟩,
 ⟨some 16, none, .ld none (.t 15)⟩,
 ⟨some 17, none, .call (.t 12) [(.t 16)]⟩,
 ⟨some 18, none, .un .not (.t 17)⟩] (some [0, 4, 5, 6, 8, 9, 18]))
 (.cond (.t 18)
 (.seq
 (.reg [⟨some 19, none, .mov (.t 5)⟩,
 ⟨some 20, none, .mov (.t 6)⟩,
 ⟨some 2, none, .mov (.t 19)⟩,
 ⟨some 3, none, .mov (.t 20)⟩] (some [2, 3]))
 .ret)
 .skip))
 (.reg [⟨some 21, none, .mov (.t 5)⟩,
 ⟨some 22, none, .bin .mul .none (.c (.int .i64 10)) (.t 21)⟩,
 ⟨some 23, none, .mov (.t 0)⟩,
 ⟨some 24, none, .mov (.t 6)⟩,
 ⟨some 25, none, .ia 1 (.t 23) (.t 24)⟩,
 ⟨some 26, none, .ld none (.t 25)⟩,
 ⟨some 27, none, .bin .sub .none (.t 26) (.c (.int .u8 48))⟩,
 ⟨some 28, none, .cvi .i64 (.t 27)⟩,
 ⟨some 29, none, .bin .add .none (.t 22) (.t 28)⟩,
 ⟨some 30, none, .mm true (.t 29) (.c (.int .i64 1114111))⟩,
 ⟨some 5, none, .mov (.t 30)⟩] (some [0, 4, 5, 8, 9])))))
 (.reg [⟨some 31, none, .bin .add .none (.t 9) (.c (.int .i64 1))⟩,
 ⟨some 9, none, .mov (.t 31)⟩] (some [0, 4, 5, 8, 9]))))))))
 (.seq
 (.reg [⟨some 32, none, .mov (.t 5)⟩,
 ⟨some 33, none, .mov (.t 0)⟩,
 ⟨some 34, none, .len (.t 33)⟩,
 ⟨some 2, none, .mov (.t 32)⟩,
 ⟨some 3, none, .mov (.t 34)⟩] (some [2, 3]))
 .ret)))))
theorem is_numTake : IrOf Tryd.prog 61 35 ir_numTake [.t 2, .t 3] := ⟨_, Tryd.func61, rfl, by kernel_rfl, by kernel_rfl, by kernel_rfl⟩

def fig (c : UInt8) : Bool := decide (48 ≤ c.toNat) && decide (c.toNat ≤ 57)
theorem fs_take1 {Gl : Gh → Prop} (hst : Stays Gl) {c : UInt8} : FS Tryd.prog Gl 69 [.int .u8 (c.toNat : Int)] [] [] (.bool (fig c)) [] [] := by
  refine FS.of hm hst is_numTake1 (by simp) fun γ hγ hfr => ?_
  generalize hQ : (fun (ex : Ex) (_ _ : Nat) (s : St) => _) = Q
  unfold ir_numTake1
  simp +contextual (maxSteps := 1000000) only [go_sem, reduceCtorEq, ↓reduceIte, Nat.reduceAdd, Nat.reduceEqDiff]
  have e : (decide ((c.toNat : Int) ≥ 48) && decide ((c.toNat : Int) ≤ 57)) = fig c := by
    unfold fig; rw [Bool.eq_iff_iff]; simp; omega
  rw [← hQ, e]
  exact ⟨trivial, Ret.flat rfl rfl⟩

def takeN : List UInt8 → Nat → Nat → Nat × Nat
  | [], n, k => (n, k)
  | c :: l, n, k => if fig c = true then takeN l (min (10 * n + (c.toNat - 48)) 1114111) (k + 1) else (n, k)

theorem bytesAV_get {b : List UInt8} {i : Nat} (h : i < b.length) : (bytesAV b).getD i [] = [.int .u8 ((b[i]).toNat : Int)] := by
  rw [List.getD_eq_getElem?_getD]
  simp [bytesAV, h]

theorem fs_take {Gl : Gh → Prop} (hst : Stays Gl) {b : List UInt8} {t0 : Option Nm} (hb : b.length < 9223372036854775808) : FS Tryd.prog Gl 61 [.sl t0 1 (bytesAV b)] [] [] (.tup [.int .i64 (takeN b 0 0).1, .int .i64 (takeN b 0 0).2]) [] [] := by
  refine FS.of hm hst is_numTake (by simp) fun γ hγ hfr => ?_
  generalize hQ : (fun (ex : Ex) (_ _ : Nat) (s : St) => _) = Q
  unfold ir_numTake
  simp +contextual (maxSteps := 1000000) only [go_sem, reduceCtorEq, ↓reduceIte, Nat.reduceAdd, Nat.reduceEqDiff]
  refine kLoop_ix (fun q : Nat × Nat => ⟨lf [(0, .sl t0 1 (bytesAV b)), (4, .fn (.func 69) [] []), (5, .int .i64 (q.2 : Int)), (8, .int .i64 (b.length : Int)), (9, .int .i64 (q.1 : Int))], [], fun x => x ∈ []⟩) (fun q => q.1 ≤ b.length ∧ q.2 ≤ 1114111 ∧ takeN b 0 0 = takeN (b.drop q.1) q.2 q.1) (fun q => b.length - q.1) 0 (0, 0) (Wk.same ?_) ?_ ?_
  · simp only [lfOK, upd, initF, bytesAV_length]
    repeat' first | exact AVle.refl _ _ | exact trivial | refine And.intro ?_ ?_
  · simp
  · rintro γ' ⟨i, n⟩ hf ⟨hi, hn, hinv⟩
    simp only at hi hn hinv
    generalize hQ' : kIt _ _ _ _ _ = Q'
    by_cases hlt : i < b.length
    · have hd : decide ((i : Int) < (b.length : Int)) = true := by simp; omega
      have hget : (bytesAV b).getD (i : Int).toNat [] = [.int .u8 ((b[i]).toNat : Int)] := by rw [Int.toNat_natCast]; exact bytesAV_get hlt
      have hdrop : b.drop i = b[i] :: b.drop (i + 1) := (List.drop_eq_getElem_cons hlt)
      simp +contextual (maxSteps := 1000000) only [hd, hget, bytesAV_length, go_sem, reduceCtorEq, ↓reduceIte, Nat.reduceAdd, Nat.reduceEqDiff]
      refine ⟨by omega, CallP.pure (fs_take1 hst) (fun _ => rfl) ?_⟩
      cases hfig : fig b[i] with
      | false =>
        simp +contextual (maxSteps := 1000000) only [go_sem, reduceCtorEq, ↓reduceIte, Nat.reduceAdd, Nat.reduceEqDiff]
        rw [← hQ']
        simp only [w_kIt_r, w_kBlk_r, w_kSeq_r]
        rw [← hQ, hinv, hdrop, takeN, if_neg (by rw [hfig]; simp)]
        exact ⟨trivial, Ret.flat2⟩
      | true =>
        simp +contextual (maxSteps := 1000000) only [hget, bytesAV_length, go_sem, reduceCtorEq, ↓reduceIte, Nat.reduceAdd, Nat.reduceEqDiff]
        refine ⟨by omega, ?_⟩
        have hc : 48 ≤ (b[i]).toNat ∧ (b[i]).toNat ≤ 57 := by simpa [fig] using hfig
        rw [← hQ']
        simp only [w_kIt_n]
        refine ⟨0, (i + 1, min (10 * n + ((b[i]).toNat - 48)) 1114111), Wk.same ?_, ⟨by simp only; omega, by simp only; omega, ?_⟩, by simp only; omega⟩
        · repeat' first | exact AVle.refl _ _ | exact trivial | refine And.intro ?_ ?_
          · refine AVle.int ?_
            simp only [IntKind.wrap_i64, IntKind.wrap_u8]
            split <;> omega
          · exact AVle.int (by simp only [IntKind.wrap_i64]; omega)
        · simp only
          rw [hinv, hdrop, takeN, if_pos hfig]
    · have hd : decide ((i : Int) < (b.length : Int)) = false := by simp; omega
      simp +contextual (maxSteps := 1000000) only [hd, go_sem, reduceCtorEq, ↓reduceIte, Nat.reduceAdd, Nat.reduceEqDiff]
      rw [← hQ']
      simp only [w_kIt_e, w_kBlk_e, ↓reduceIte]
      simp +contextual (maxSteps := 1000000) only [go_sem, reduceCtorEq, ↓reduceIte, Nat.reduceAdd, Nat.reduceEqDiff]
      have hi' : i = b.length := by omega
      rw [← hQ, hinv, hi', List.drop_length, takeN]
      refine ⟨trivial, ?_⟩
      rw [bytesAV_length]
      exact Ret.flat2
end Go.Proofs.YtcdkcfpgdbjogaaDoor

namespace Go.Proofs.YtcdkcfpgdbjogaaDoor
open Go Go.Ab
def ir_stringsIndex : ICode :=
 (.seq
 (.reg [⟨some 4, none, .mov (.c (.int .i64 0))⟩] (some [0, 1]))
 (.seq
 (.reg [⟨some 5, none, .mov (.t 0)⟩,
 ⟨some 6, none, .mov (.t 1)⟩,
 ⟨some 7, none, .call (.c (.fn (.func 73) [] [])) [(.t 5), (.t 6)]⟩,
 ⟨some 4, none, .mov (.t 7)⟩] (some [4]))
 .ret))
theorem is_stringsIndex : IrOf Tryd.prog 68 8 ir_stringsIndex [.t 4] := ⟨_, Tryd.func68, rfl, by kernel_rfl, by kernel_rfl, by kernel_rfl⟩

def ir_stringssplitSeq1 : ICode :=
 (.seq
 (.seq
 (.reg [⟨some 9, none, .ld none (.t 1)⟩,
 ⟨some 10, none, .lns (.t 9)⟩,
 ⟨some 11, none, .bin .eql .none (.t 10) (.c (.int .i64 0))⟩] (some [0, 1, 2, 3, 11]))
 (.cond (.t 11)
 (.seq
 (.blk 0
 (.loop
 (.seq
 (.seq
 (.reg [⟨some 12, none, .ld none (.t 2)⟩,
 ⟨some 13, none, .lns (.t 12)⟩,
 ⟨some 14, none, .bin .gtr .none (.t 13) (.c (.int .i64 0))⟩] (some [0, 2, 14]))
 (.cond (.t 14)
 .skip
 (.exit 0)))
 (.blk 1
 (.seq
 (.reg [⟨some 16, none, .ld none (.t 2)⟩,
 ⟨some 17, none, .call (.c (.fn (.func 67) [] [])) [(.t 16)]⟩,
 ⟨some 15, none, .mov (.t 17)⟩,
 ⟨some 18, none, .ext (.t 15) 0⟩,
 ⟨some 19, none, .ext (.t 15) 1⟩,
 ⟨some 5, none, .mov (.t 18)⟩,
 ⟨some 6, none, .mov (.t 19)⟩] (some [0, 2, 6]))
 (.seq
 (.seq
 (.reg [⟨some 20, none, .mov (.t 0)⟩,
 ⟨some 21, none, .ld none (.t 2)⟩,
 ⟨some 22, none, .mov (.t 6)⟩,
 ⟨some 23, none, .sls (.t 21) none (some (.t 22))⟩,
 ⟨some 24, none, .call (.t 20) [(.t 23)]⟩,
 ⟨some 25, none, .un .not (.t 24)⟩] (some [0, 2, 6, 25]))
 (.cond (.t 25)
 .ret
 .skip))
 (.reg [⟨some 26, none, .ld none (.t 2)⟩,
 ⟨some 27, none, .mov (.t 6)⟩,
 ⟨some 28, none, .sls (.t 26) (some (.t 27)) none⟩,
 ⟨none, none, .st 1 (.t 2) (.t 28)⟩] (some [0, 2]))))))))
 .ret)
 .skip))
 (.seq
 (.blk 2
 (.loop
 (.blk 3
 (.seq
 (.reg [⟨some 29, none, .ld none (.t 2)⟩,
 ⟨some 30, none, .ld none (.t 1)⟩,
 ⟨some 31, none, .call (.c (.fn (.func 68) [] [])) [(.t 29), (.t 30)]⟩,
 ⟨some 7, none, .mov (.t 31)⟩] (some [0, 1, 2, 3, 7]))
 (.seq
 (.seq
 (.reg [⟨some 32, none, .mov (.t 7)⟩,
 ⟨some 33, none, .bin .lss .none (.t 32) (.c (.int .i64 0))⟩] (some [0, 1, 2, 3, 7, 33]))
 (.cond (.t 33)
 (.exit 2)
 .skip))
 (.seq
 (.reg [⟨some 34, none, .ld none (.t 2)⟩,
 ⟨some 35, none, .mov (.t 7)⟩,
 ⟨some 36, none, .ld none (.t 3)⟩,
 ⟨some 37, none, .bin .add .none (.t 35) (.t 36)⟩,
 ⟨some 38, none, .sls (.t 34) none (some (.t 37))⟩,
 ⟨some 8, none, .mov (.t 38)⟩] (some [0, 1, 2, 3, 7, 8]))
 (.seq
 (.seq
 (.reg [⟨some 39, none, .mov (.t 0)⟩,
 ⟨some 40, none, .mov (.t 8)⟩,
 ⟨some 41, none, .call (.t 39) [(.t 40)]⟩,
 ⟨some 42, none, .un .not (.t 41)⟩] (some [0, 1, 2, 3, 7, 42]))
 (.cond (.t 42)
 .ret
 .skip))
 (.reg [⟨some 43, none, .ld none (.t 2)⟩,
 ⟨some 44, none, .mov (.t 7)⟩,
 ⟨some 45, none, .ld none (.t 1)⟩,
 ⟨some 46, none, .lns (.t 45)⟩,
 ⟨some 47, none, .bin .add .none (.t 44) (.t 46)⟩,
 ⟨some 48, none, .sls (.t 43) (some (.t 47)) none⟩,
 ⟨none, none, .st 1 (.t 2) (.t 48)⟩] (some [0, 1, 2, 3])))))))))
 (.reg [⟨some 49, none, .mov (.t 0)⟩,
 ⟨some 50, none, .ld none (.t 2)⟩,
 ⟨some 51, none, .call (.t 49) [(.t 50)]⟩] (some []))))
theorem is_stringssplitSeq1 : IrOf Tryd.prog 66 52 ir_stringssplitSeq1 [] := ⟨_, Tryd.func66, rfl, by kernel_rfl, by kernel_rfl, by kernel_rfl⟩

def ir_stringssplitSeq : ICode :=
 (.seq
 (.reg [⟨some 3, none, .box 9 (.t 0)⟩,
 ⟨some 4, none, .box 9 (.t 1)⟩,
 ⟨some 5, none, .box 3 (.t 2)⟩,
 ⟨some 6, none, .mov (.c .nilf)⟩] (some [3, 4, 5]))
 (.seq
 (.reg [⟨some 7, none, .mkf (.func 66) [] [(.t 4), (.t 3), (.t 5)]⟩,
 ⟨some 6, none, .mov (.t 7)⟩] (some [6]))
 .ret))
theorem is_stringssplitSeq : IrOf Tryd.prog 60 8 ir_stringssplitSeq [.t 6] := ⟨_, Tryd.func60, rfl, by kernel_rfl, by kernel_rfl, by kernel_rfl⟩

def ir_stringsSplitSeq : ICode :=
 (.seq
 (.reg [⟨some 4, none, .mov (.c .nilf)⟩] (some [0, 1]))
 (.seq
 (.reg [⟨some 5, none, .mov (.t 0)⟩,
 ⟨some 6, none, .mov (.t 1)⟩,
 ⟨some 7, none, .call (.c (.fn (.func 60) [] [])) [(.t 5), (.t 6), (.c (.int .i64 0))]⟩,
 ⟨some 4, none, .mov (.t 7)⟩] (some [4]))
 .ret))
theorem is_stringsSplitSeq : IrOf Tryd.prog 50 8 ir_stringsSplitSeq [.t 4] := ⟨_, Tryd.func50, rfl, by kernel_rfl, by kernel_rfl, by kernel_rfl⟩

def idxB (c : UInt8) : List UInt8 → Option Nat
  | [] => none
  | d :: l => if d = c then some 0 else (idxB c l).map (· + 1)
def splitB (c : UInt8) : List UInt8 → List (List UInt8)
  | [] => [[]]
  | d :: l => if d = c then [] :: splitB c l else match splitB c l with
    | p :: ps => (d :: p) :: ps
    | [] => [[d]]
theorem splitB_ne (c : UInt8) : ∀ l, splitB c l ≠ []
  | [] => by simp [splitB]
  | d :: l => by
    simp only [splitB]
    split
    · simp
    · split <;> simp
theorem splitB_eq (c : UInt8) : ∀ l, splitB c l = match idxB c l with | none => [l] | some i => l.take i :: splitB c (l.drop (i + 1))
  | [] => rfl
  | d :: l => by
    simp only [splitB, idxB]
    split
    · rename_i h; simp
    · have ih := splitB_eq c l
      cases h : idxB c l with
      | none => rw [h] at ih; simp only at ih; rw [ih]; simp
      | some i => rw [h] at ih; simp only at ih; rw [ih]; simp
theorem idxB_lt {c : UInt8} : ∀ {l : List UInt8} {i : Nat}, idxB c l = some i → i < l.length
  | [], _, h => by simp [idxB] at h
  | d :: l, i, h => by
    simp only [idxB] at h
    split at h
    · cases h; simp
    · obtain ⟨j, hj, rfl⟩ := Option.map_eq_some_iff.1 h
      have := idxB_lt hj
      simp; omega
theorem indexByte_idxB (c : UInt8) : ∀ l, Lib.indexByte l c = match idxB c l with | some i => (i : Int) | none => -1
  | [] => rfl
  | d :: l => by
    simp only [Lib.indexByte, idxB, indexByte_idxB c l]
    by_cases h : d = c
    · simp [h]
    · have hb : (d == c) = false := by simpa using h
      rw [hb, if_neg h]
      cases hi : idxB c l with
      | none => simp
      | some i =>
        simp only [Option.map_some]
        have : ((i : Int) == -1) = false := by simp
        simp [this]

theorem fs_index {Gl : Gh → Prop} {s : List UInt8} {c : UInt8} : FS Tryd.prog Gl 68 [.str s, .str [c]] [] [] (.int .i64 (match idxB c s with | some i => (i : Int) | none => -1)) [] [] := by
  refine FS.of_calls is_stringsIndex.enters (fun _ => rfl) fun g w vs hinv hgl hargs => ?_
  obtain ⟨v1, r1, rfl, h1, v2, r2, rfl, h2, h3⟩ := hargs
  cases h1; cases h2; cases h3
  refine ⟨_, rfl, (Tryd.strings_Index_one ⟨s.toArray⟩ c w).mono ?_⟩
  rintro e w' ⟨rfl, rfl⟩
  exact ⟨by rw [indexByte_idxB], rfl⟩

theorem it_split {Gl : Gh → Prop} {s : List UInt8} {c : UInt8} {a b d : Nm} (hab : a ≠ b) (had : a ≠ d) (hbd : b ≠ d) (hs : s.length < 4294967281) :
    IterS Tryd.prog Gl 66 [.ptr b 0, .ptr a 0, .ptr d 0] [(d, .cells [.int .i64 0]), (b, .cells [.str [c]]), (a, .cells [.str s])] ((splitB c s).map fun p => [.str p]) := by
  intro Gl' hst hG id J Jx hJid hround H T hJ
  refine FSX.of hm hst is_stringssplitSeq1 (by simp) fun γ hγ hfr => ?_
  generalize hQ : (fun (ex : Ex) (_ _ : Nat) (s : St) => _) = Q
  unfold ir_stringssplitSeq1
  simp +contextual (maxSteps := 1000000) only [hab, had, hbd, (Ne.symm hab), (Ne.symm had), (Ne.symm hbd), go_sem, reduceCtorEq, ↓reduceIte, Nat.reduceAdd, Nat.reduceEqDiff, Nat.reduceLeDiff, Nat.reduceMul, Nat.reduceBEq, Int.reduceBEq, Int.reduceBNe, Int.reduceLT, Int.reduceLE, Int.reduceGT, Int.reduceGE, Int.reduceToNat]
  refine kLoop_ix (fun q : Nat × List UInt8 × Hp × Tk => ⟨lf [(0, .yl id), (1, .ptr b 0), (2, .ptr a 0), (3, .ptr d 0)], [(d, .cells [.int .i64 0]), (b, .cells [.str [c]]), (a, .cells [.str q.2.1])] ++ q.2.2.1, q.2.2.2⟩)
    (fun q => J q.1 q.2.2.1 q.2.2.2 ∧ q.2.1.length ≤ s.length ∧ ∃ done : List (List UInt8), done.length = q.1 ∧ splitB c s = done ++ splitB c q.2.1)
    (fun q => q.2.1.length) 0 (0, s, H, T) ?_ ?_ ?_
  · refine Wk.same ?_
    simp only [lfOK, upd, initF]
    repeat' first | exact AVle.refl _ _ | exact trivial | refine And.intro ?_ ?_
  · exact ⟨hJ, Nat.le_refl _, [], rfl, rfl⟩
  · rintro γ' ⟨j, r, Hj, Tj⟩ hf ⟨hJj, hrl, done, hdone, hsp⟩
    simp only at hJj hrl hdone hsp
    generalize hQ' : kIt _ _ _ _ _ = Q'
    have hap := hJid j Hj Tj hJj
    simp +contextual (maxSteps := 1000000) only [hab, had, hbd, (Ne.symm hab), (Ne.symm had), (Ne.symm hbd), go_sem, reduceCtorEq, ↓reduceIte, Nat.reduceAdd, Nat.reduceEqDiff, Nat.reduceLeDiff, Nat.reduceMul, Nat.reduceBEq, Int.reduceBEq, Int.reduceBNe, Int.reduceLT, Int.reduceLE, Int.reduceGT, Int.reduceGE, Int.reduceToNat]
    refine CallP.pure fs_index (fun _ => rfl) ?_
    rw [splitB_eq c r] at hsp
    cases hix : idxB c r with
    | none =>
      rw [hix] at hsp
      simp only at hsp
      simp +contextual (maxSteps := 1000000) only [hab, had, hbd, (Ne.symm hab), (Ne.symm had), (Ne.symm hbd), go_sem, reduceCtorEq, ↓reduceIte, Nat.reduceAdd, Nat.reduceEqDiff, Nat.reduceLeDiff, Nat.reduceMul, Nat.reduceBEq, Int.reduceBEq, Int.reduceBNe, Int.reduceLT, Int.reduceLE, Int.reduceGT, Int.reduceGE, Int.reduceToNat]
      rw [← hQ']
      simp +contextual (maxSteps := 1000000) only [hab, had, hbd, (Ne.symm hab), (Ne.symm had), (Ne.symm hbd), go_sem, reduceCtorEq, ↓reduceIte, Nat.reduceAdd, Nat.reduceEqDiff, Nat.reduceLeDiff, Nat.reduceMul, Nat.reduceBEq, Int.reduceBEq, Int.reduceBNe, Int.reduceLT, Int.reduceLE, Int.reduceGT, Int.reduceGE, Int.reduceToNat]
      have hit : ((splitB c s).map fun p => [AV.str p])[j]? = some [.str r] := by
        rw [hsp, ← hdone]; simp
      have hlen : ((splitB c s).map fun p => [AV.str p]).length = j + 1 := by rw [hsp]; simp [hdone]
      refine CallY.splitT (Ha := [(d, .cells [.int .i64 0]), (b, .cells [.str [c]]), (a, .cells [.str r])]) (hround j _ Hj Tj hit hJj) (fun p hp q hq => ?_) fun rv H1 T1 hR => ?_
      · simp only [List.mem_cons, List.not_mem_nil, or_false] at hp
        rcases hp with rfl | rfl | rfl
        · exact hap _ (by simp) q hq
        · exact hap _ (List.mem_cons_of_mem _ List.mem_cons_self) q hq
        · exact hap _ (List.mem_cons_of_mem _ (List.mem_cons_of_mem _ List.mem_cons_self)) q hq
      · simp +contextual (maxSteps := 1000000) only [go_sem, reduceCtorEq, ↓reduceIte, Nat.reduceAdd, Nat.reduceEqDiff, Nat.reduceLeDiff, Nat.reduceMul, Nat.reduceBEq, Int.reduceBEq, Int.reduceBNe, Int.reduceLT, Int.reduceLE, Int.reduceGT, Int.reduceGE, Int.reduceToNat]
        rw [← hQ]
        refine ⟨trivial, H1, T1, ?_, fun p hp => by simp [hp], fun t ht => ht⟩
        rw [hlen]
        rcases hR with ⟨_, h⟩ | ⟨_, h⟩
        · exact .inl h
        · exact .inr h
    | some i =>
      rw [hix] at hsp
      simp only at hsp
      have hil := idxB_lt hix
      have hd : decide ((i : Int) < 0) = false := by simp
      have hw : IntKind.i64.wrap ((i : Int) + 0) = i := by rw [IntKind.wrap_i64]; omega
      have hw2 : IntKind.i64.wrap ((i : Int) + 1) = ((i + 1 : Nat) : Int) := by rw [IntKind.wrap_i64]; omega
      simp +contextual (maxSteps := 1000000) only [hab, had, hbd, (Ne.symm hab), (Ne.symm had), (Ne.symm hbd), hd, hw, Int.toNat_natCast, Int.toNat_zero, go_sem, reduceCtorEq, ↓reduceIte, Nat.reduceAdd, Nat.reduceEqDiff, Nat.reduceLeDiff, Nat.reduceMul, Nat.reduceBEq, Int.reduceBEq, Int.reduceBNe, Int.reduceLT, Int.reduceLE, Int.reduceGT, Int.reduceGE, Int.reduceToNat]
      refine ⟨⟨by omega, by omega⟩, ?_⟩
      have hit : ((splitB c s).map fun p => [AV.str p])[j]? = some [.str (r.take i)] := by
        rw [hsp, ← hdone]; simp
      refine CallY.splitT (Ha := [(d, .cells [.int .i64 0]), (b, .cells [.str [c]]), (a, .cells [.str r])]) (hround j _ Hj Tj hit hJj) (fun p hp q hq => ?_) fun rv H1 T1 hR => ?_
      · simp only [List.mem_cons, List.not_mem_nil, or_false] at hp
        rcases hp with rfl | rfl | rfl
        · exact hap _ (by simp) q hq
        · exact hap _ (List.mem_cons_of_mem _ List.mem_cons_self) q hq
        · exact hap _ (List.mem_cons_of_mem _ (List.mem_cons_of_mem _ List.mem_cons_self)) q hq
      · rcases hR with ⟨rfl, hR⟩ | ⟨rfl, hR⟩
        · have hs1 : ∀ hb, setH H1 a hb = H1 := fun hb => setH_ne fun q hq => hJid _ _ _ hR (a, .cells [.str s]) (by simp) q hq
          simp +contextual (maxSteps := 1000000) only [hab, had, hbd, (Ne.symm hab), (Ne.symm had), (Ne.symm hbd), hw2, hs1, Int.toNat_natCast, Int.toNat_zero, go_sem, reduceCtorEq, ↓reduceIte, Nat.reduceAdd, Nat.reduceEqDiff, Nat.reduceLeDiff, Nat.reduceMul, Nat.reduceBEq, Int.reduceBEq, Int.reduceBNe, Int.reduceLT, Int.reduceLE, Int.reduceGT, Int.reduceGE, Int.reduceToNat]
          refine ⟨⟨by omega, by omega, by omega⟩, ?_⟩
          rw [← hQ']
          simp only [w_kIt_n, w_kBlk_n, w_kSeq_n]
          refine ⟨0, (j + 1, r.drop (i + 1), H1, T1), ?_, ⟨hR, by simp only [List.length_drop]; omega, done ++ [r.take i], by simp [hdone], by rw [hsp]; simp⟩, by simp only [List.length_drop]; omega⟩
          refine Wk.perm ?_ (fun p hp => ?_)
          · repeat' first | exact AVle.refl _ _ | exact trivial | refine And.intro ?_ ?_
          · simp only [List.take_length]
            exact hp
        · simp +contextual (maxSteps := 1000000) only [hab, had, hbd, (Ne.symm hab), (Ne.symm had), (Ne.symm hbd), go_sem, reduceCtorEq, ↓reduceIte, Nat.reduceAdd, Nat.reduceEqDiff, Nat.reduceLeDiff, Nat.reduceMul, Nat.reduceBEq, Int.reduceBEq, Int.reduceBNe, Int.reduceLT, Int.reduceLE, Int.reduceGT, Int.reduceGE, Int.reduceToNat]
          rw [← hQ']
          simp +contextual (maxSteps := 1000000) only [go_sem, reduceCtorEq, ↓reduceIte, Nat.reduceAdd, Nat.reduceEqDiff, Nat.reduceLeDiff, Nat.reduceMul, Nat.reduceBEq, Int.reduceBEq, Int.reduceBNe, Int.reduceLT, Int.reduceLE, Int.reduceGT, Int.reduceGE, Int.reduceToNat]
          rw [← hQ]
          exact ⟨trivial, H1, T1, .inr hR, fun p hp => by simp [hp], fun t ht => ht⟩

def hpSplit (s : List UInt8) (c : UInt8) (a b d : Nm) : Hp := [(d, .cells [.int .i64 0]), (b, .cells [.str [c]]), (a, .cells [.str s])]
theorem fs_splitSeq0 {Gl : Gh → Prop} (hst : Stays Gl) {s : List UInt8} {c : UInt8} : FS Tryd.prog Gl 60 [.str s, .str [c], .int .i64 0] [] [] (.fn (.func 66) [] [.ptr (0, 0, 1) 0, .ptr (0, 0, 0) 0, .ptr (0, 0, 2) 0]) (hpSplit s c (0, 0, 0) (0, 0, 1) (0, 0, 2)) [] := by
  refine FS.of hm hst is_stringssplitSeq (by simp) fun γ hγ hfr => ?_
  generalize hQ : (fun (ex : Ex) (_ _ : Nat) (s : St) => _) = Q
  unfold ir_stringssplitSeq
  simp +contextual (maxSteps := 1000000) only [go_sem, reduceCtorEq, ↓reduceIte, Nat.reduceAdd, Nat.reduceEqDiff]
  rw [← hQ]
  refine ⟨trivial, [(γ, 0, 0), (γ, 1, 0), (γ, 2, 0)], by simp, by simp, rfl, ?_, by simp, ?_, ?_, by simp⟩
  · simp [rnH, hpSplit, rnN, rnHB, rnL, Ab.rn]
  · simp [AV.okIn, AV.okInL, nmOK]
  · simp [hpSplit, AV.okIn, AV.okInL, nmOK, HB.okIn]
theorem fs_SplitSeq {Gl : Gh → Prop} (hst : Stays Gl) {s : List UInt8} {c : UInt8} : FS Tryd.prog Gl 50 [.str s, .str [c]] [] [] (.fn (.func 66) [] [.ptr (0, 0, 1) 0, .ptr (0, 0, 0) 0, .ptr (0, 0, 2) 0]) (hpSplit s c (0, 0, 0) (0, 0, 1) (0, 0, 2)) [] := by
  refine FS.of hm hst is_stringsSplitSeq (by simp) fun γ hγ hfr => ?_
  generalize hQ : (fun (ex : Ex) (_ _ : Nat) (s : St) => _) = Q
  unfold ir_stringsSplitSeq
  simp +contextual (maxSteps := 1000000) only [go_sem, reduceCtorEq, ↓reduceIte, Nat.reduceAdd, Nat.reduceEqDiff]
  refine CallP.of (fs_splitSeq0 hst) (by simp) (by simp) ?_
  simp only [rnH, hpSplit, rnN, rnHB, rnL, Ab.rn]
  simp +contextual (maxSteps := 1000000) only [go_sem, reduceCtorEq, ↓reduceIte, Nat.reduceAdd, Nat.reduceEqDiff]
  rw [← hQ]
  refine ⟨trivial, [(γ, 3, 0), (γ, 3, 1), (γ, 3, 2)], by simp, by simp, rfl, ?_, by simp, ?_, ?_, by simp⟩
  · simp [rnH, hpSplit, rnN, rnHB, rnL, Ab.rn]
  · simp [AV.okIn, AV.okInL, nmOK]
  · simp [hpSplit, AV.okIn, AV.okInL, nmOK, HB.okIn]
end Go.Proofs.YtcdkcfpgdbjogaaDoor

namespace Go.Proofs.YtcdkcfpgdbjogaaDoor
open Go Go.Ab
def ir_slicesEqualintint : ICode :=
 (.seq
 (.reg [⟨some 4, none, .mov (.c (.bool false))⟩] (some [0, 1]))
 (.seq
 (.seq
 (.reg [⟨some 6, none, .mov (.t 0)⟩,
 ⟨some 7, none, .len (.t 6)⟩,
 ⟨some 8, none, .mov (.t 1)⟩,
 ⟨some 9, none, .len (.t 8)⟩,
 ⟨some 10, none, .bin .neq .none (.t 7) (.t 9)⟩] (some [0, 1, 10]))
 (.cond (.t 10)
 (.seq
 (.reg [⟨some 4, none, .mov (.c (.bool false))⟩] (some [4]))
 .ret)
 .skip))
 (.seq
 (.seq
 (.reg [⟨some 11, none, .mov (.t 0)⟩,
 ⟨some 12, none, .len (.t 11)⟩,
 ⟨some 13, none, .mov (.c (.int .i64 0))⟩] (some [0, 1, 12, 13]))
 (.blk 0
 (.loop
 (.seq
 (.reg [⟨some 14, none, .bin .lss .none (.t 13) (.t 12)⟩] (some [0, 1, 12, 13, 14]))
 (.seq
 (.cond (.t 14)
 .skip
 (.exit 0))
 (.seq
 (.blk 1
 (.seq
 (.reg [⟨some 15, none, .mov (.t 13)⟩,
 ⟨some 5, none, .mov (.t 15)⟩] (some [0, 1, 5, 12, 13]))
 (.seq
 (.drw [⟨⟨some 16, none, .mov (.t 0)⟩, []⟩,
 ⟨⟨some 17, none, .mov (.t 5)⟩, []⟩,
 ⟨⟨some 18, none, .ia 1 (.t 16) (.t 17)⟩, [0, 1]⟩,
 ⟨⟨some 19, none, .ld none (.t 18)⟩, [2]⟩,
 ⟨⟨some 20, none, .mov (.t 1)⟩, []⟩,
 ⟨⟨some 21, none, .mov (.t 5)⟩, []⟩,
 ⟨⟨some 22, none, .ia 1 (.t 20) (.t 21)⟩, [4, 5]⟩,
 ⟨⟨some 23, none, .ld none (.t 22)⟩, [6]⟩,
 ⟨⟨some 24, none, .bin .neq .none (.t 19) (.t 23)⟩, [3, 7]⟩]
 [] (some [0, 1, 12, 13, 24]))
 (.cond (.t 24)
 (.seq
 (.reg [⟨some 4, none, .mov (.c (.bool false))⟩] (some [4]))
 .ret)
 .skip))))
 (.reg [⟨some 25, none, .bin .add .none (.t 13) (.c (.int .i64 1))⟩,
 ⟨some 13, none, .mov (.t 25)⟩] (some [0, 1, 12, 13]))))))))
 (.seq
 (.reg [⟨some 4, none, .mov (.c (.bool true))⟩] (some [4]))
 .ret))))
theorem is_slicesEqualintint : IrOf Tryd.prog 28 26 ir_slicesEqualintint [.t 4] := ⟨_, Tryd.func28, rfl, by kernel_rfl, by kernel_rfl, by kernel_rfl⟩

def ir_slicesIndexFuncintint : ICode :=
 (.seq
 (.reg [⟨some 4, none, .mov (.c (.int .i64 0))⟩] (some [0, 1]))
 (.seq
 (.seq
 (.reg [⟨some 6, none, .mov (.t 0)⟩,
 ⟨some 7, none, .len (.t 6)⟩,
 ⟨some 8, none, .mov (.c (.int .i64 0))⟩] (some [0, 1, 7, 8]))
 (.blk 0
 (.loop
 (.seq
 (.reg [⟨some 9, none, .bin .lss .none (.t 8) (.t 7)⟩] (some [0, 1, 7, 8, 9]))
 (.seq
 (.cond (.t 9)
 .skip
 (.exit 0))
 (.seq
 (.blk 1
 (.seq
 (.reg [⟨some 10, none, .mov (.t 8)⟩,
 ⟨some 5, none, .mov (.t 10)⟩] (some [0, 1, 5, 7, 8]))
 (.seq
 (.reg [⟨some 11, none, .mov (.t 1)⟩,
 ⟨some 12, none, .mov (.t 0)⟩,
 ⟨some 13, none, .mov (.t 5)⟩,
 ⟨some 14, none, .ia 1 (.t 12) (.t 13)⟩,
 ⟨some 15, none, .ld none (.t 14)⟩,
 ⟨some 16, none, .call (.t 11) [(.t 15)]⟩] (some [0, 1, 5, 7, 8, 16]))
 (.cond (.t 16)
 (.seq
 (.reg [⟨some 17, none, .mov (.t 5)⟩,
 ⟨some 4, none, .mov (.t 17)⟩] (some [4]))
 .ret)
 .skip))))
 (.reg [⟨some 18, none, .bin .add .none (.t 8) (.c (.int .i64 1))⟩,
 ⟨some 8, none, .mov (.t 18)⟩] (some [0, 1, 7, 8]))))))))
 (.seq
 (.reg [⟨some 4, none, .mov (.c (.int .i64 (-1)))⟩] (some [4]))
 .ret)))
theorem is_slicesIndexFuncintint : IrOf Tryd.prog 48 19 ir_slicesIndexFuncintint [.t 4] := ⟨_, Tryd.func48, rfl, by kernel_rfl, by kernel_rfl, by kernel_rfl⟩

def ir_slicesContainsFuncintint : ICode :=
 (.seq
 (.reg [⟨some 4, none, .mov (.c (.bool false))⟩] (some [0, 1]))
 (.seq
 (.reg [⟨some 5, none, .mov (.t 0)⟩,
 ⟨some 6, none, .mov (.t 1)⟩,
 ⟨some 7, none, .call (.c (.fn (.func 48) [] [])) [(.t 5), (.t 6)]⟩,
 ⟨some 8, none, .bin .geq .none (.t 7) (.c (.int .i64 0))⟩,
 ⟨some 4, none, .mov (.t 8)⟩] (some [4]))
 .ret))
theorem is_slicesContainsFuncintint : IrOf Tryd.prog 34 9 ir_slicesContainsFuncintint [.t 4] := ⟨_, Tryd.func34, rfl, by kernel_rfl, by kernel_rfl, by kernel_rfl⟩

def ir_wirelisted1 : ICode :=
 (.seq
 (.reg [⟨some 2, none, .mov (.c (.bool false))⟩] (some [0]))
 (.seq
 (.reg [⟨some 3, none, .mov (.t 0)⟩,
 ⟨some 4, none, .bin .lss .none (.t 3) (.c (.int .i64 (-1)))⟩,
 ⟨some 5, none, .mov (.t 4)⟩,
 ⟨some 6, some (5, false), .mov (.t 0)⟩,
 ⟨some 7, some (5, false), .bin .gtr .none (.t 6) (.c (.int .i64 1114111))⟩,
 ⟨some 8, none, .pick (.t 5) (.c (.bool true)) (.t 7)⟩,
 ⟨some 2, none, .mov (.t 8)⟩] (some [2]))
 .ret))
theorem is_wirelisted1 : IrOf Tryd.prog 35 9 ir_wirelisted1 [.t 2] := ⟨_, Tryd.func35, rfl, by kernel_rfl, by kernel_rfl, by kernel_rfl⟩

/- clavier/wire.listed -/
def ir_wirelisted_l0 : ICode :=
 (.seq
 (.reg [⟨some 24, none, .bin .lss .none (.t 23) (.t 22)⟩] (some [21, 22, 23, 24]))
 (.seq
 (.cond (.t 24)
 .skip
 (.exit 0))
 (.seq
 (.blk 1
 (.seq
 (.reg [⟨some 25, none, .ia 1 (.t 21) (.t 23)⟩,
 ⟨some 26, none, .ld none (.t 25)⟩,
 ⟨some 4, none, .mov (.t 26)⟩] (some [4, 21, 22, 23]))
 (.seq
 (.reg [⟨some 27, none, .mov (.t 4)⟩,
 ⟨some 28, none, .call (.c (.fn (.func 34) [] [])) [(.t 27), (.c (.fn (.func 35) [] []))]⟩,
 ⟨some 5, none, .mov (.t 28)⟩] (some [4, 5, 21, 22, 23]))
 (.seq
 (.reg [⟨some 29, none, .mov (.t 5)⟩,
 ⟨some 30, none, .mov (.t 29)⟩,
 ⟨some 31, some (30, false), .mov (.t 4)⟩,
 ⟨some 32, some (30, false), .len (.t 31)⟩,
 ⟨some 33, some (30, false), .bin .lss .none (.t 32) (.c (.int .i64 1))⟩,
 ⟨some 34, none, .pick (.t 30) (.c (.bool true)) (.t 33)⟩,
 ⟨some 35, none, .mov (.t 34)⟩,
 ⟨some 36, some (35, false), .mov (.t 4)⟩,
 ⟨some 37, some (35, false), .len (.t 36)⟩,
 ⟨some 38, some (35, false), .bin .gtr .none (.t 37) (.c (.int .i64 8))⟩,
 ⟨some 39, none, .pick (.t 35) (.c (.bool true)) (.t 38)⟩] (some [21, 22, 23, 39]))
 (.cond (.t 39)
 (.seq
 (.reg [⟨some 2, none, .mov (.c (.bool false))⟩] (some [2]))
 .ret)
 .skip)))))
 (.reg [⟨some 40, none, .bin .add .none (.t 23) (.c (.int .i64 1))⟩,
 ⟨some 23, none, .mov (.t 40)⟩] (some [21, 22, 23])))))
def ir_wirelisted : ICode :=
 (.seq
 (.reg [⟨some 2, none, .mov (.c (.bool false))⟩] (some [0]))
 (.seq
 (.seq
 (.reg [⟨some 6, none, .mov (.t 0)⟩,
 ⟨some 7, none, .len (.t 6)⟩,
 ⟨some 8, none, .bin .gtr .none (.t 7) (.c (.int .i64 16))⟩,
 ⟨some 9, none, .mov (.t 8)⟩,
 ⟨some 10, some (9, false), .mov (.t 0)⟩,
 ⟨some 11, some (9, false), .len (.t 10)⟩,
 ⟨some 12, some (9, false), .bin .eql .none (.t 11) (.c (.int .i64 1))⟩,
 ⟨some 13, some (9, false), .mov (.t 12)⟩,
 ⟨some 14, some (13, true), .mov (.t 0)⟩,
 ⟨some 15, some (13, true), .ia 1 (.t 14) (.c (.int .i64 0))⟩,
 ⟨some 16, some (13, true), .ld none (.t 15)⟩,
 ⟨some 17, some (13, true), .row 3 1 [(.c (.int .i64 (-1)))]⟩,
 ⟨some 18, some (13, true), .call (.c (.fn (.func 28) [] [])) [(.t 16), (.t 17)]⟩,
 ⟨some 19, some (9, false), .pick (.t 13) (.t 18) (.c (.bool false))⟩,
 ⟨some 20, none, .pick (.t 9) (.c (.bool true)) (.t 19)⟩] (some [0, 20]))
 (.cond (.t 20)
 (.seq
 (.reg [⟨some 2, none, .mov (.c (.bool false))⟩] (some [2]))
 .ret)
 .skip))
 (.seq
 (.seq
 (.reg [⟨some 21, none, .mov (.t 0)⟩,
 ⟨some 22, none, .len (.t 21)⟩,
 ⟨some 23, none, .mov (.c (.int .i64 0))⟩] (some [21, 22, 23]))
 (.blk 0
 (.loop
 ir_wirelisted_l0)))
 (.seq
 (.reg [⟨some 2, none, .mov (.c (.bool true))⟩] (some [2]))
 .ret))))
theorem is_wirelisted : IrOf Tryd.prog 19 41 ir_wirelisted [.t 2] := ⟨_, Tryd.func19, rfl, by kernel_rfl, by kernel_rfl, by kernel_rfl⟩

theorem fs_EqualInts {Gl : Gh → Prop} (hst : Stays Gl) {a b : List Int} {ta tb : Option Nm} (ha : a.length < 9223372036854775808) (hb : b.length < 9223372036854775808) : FS Tryd.prog Gl 28 [.sl ta 1 (intsAV a), .sl tb 1 (intsAV b)] [] [] (.bool (decide (a = b))) [] [] := by
  refine FS.of hm hst is_slicesEqualintint (by simp) fun γ hγ hfr => ?_
  (generalize hQ : (fun (ex : Ex) (_ _ : Nat) (s : St) => _) = Q; unfold ir_slicesEqualintint)
  simp +contextual (maxSteps := 1000000) only [intsAV_length, go_sem, reduceCtorEq, ↓reduceIte, Nat.reduceAdd, Nat.reduceEqDiff]
  refine kCond_split (fun h => ?_) (fun h => ?_)
  · simp +contextual (maxSteps := 1000000) only [go_sem, reduceCtorEq, ↓reduceIte, Nat.reduceAdd, Nat.reduceEqDiff]
    rw [← hQ]
    have : decide (a = b) = false := by
      simp only [bne_iff_ne, ne_eq] at h
      rw [decide_eq_false_iff_not]; intro e; subst e; simp at h
    rw [this]
    exact ⟨trivial, Ret.flat rfl rfl⟩
  · have hl : a.length = b.length := by simp at h; omega
    simp +contextual (maxSteps := 1000000) only [intsAV_length, go_sem, reduceCtorEq, ↓reduceIte, Nat.reduceAdd, Nat.reduceEqDiff]
    refine kLoop_ix (fun i : Nat => ⟨lf [(0, .sl ta 1 (intsAV a)), (1, .sl tb 1 (intsAV b)), (12, .int .i64 a.length), (13, .int .i64 i)], [], fun x => x ∈ []⟩) (fun i => i ≤ a.length ∧ a.take i = b.take i) (fun i => a.length - i) 0 0 (Wk.same ?_) ?_ ?_
    · (simp only [lfOK, upd, initF]; repeat' first | exact AVle.refl _ _ | exact trivial | refine And.intro ?_ ?_ | exact AVle.int (by simp only [IntKind.wrap_i64]; omega))
    · simp
    · rintro γ' i hf ⟨hi, hinv⟩
      generalize hQ' : kIt _ _ _ _ _ = Q'
      by_cases hlt : i < a.length
      · have hd : decide ((i : Int) < (a.length : Int)) = true := by simp; omega
        have g1 : (intsAV a).getD (i : Int).toNat [] = [.int .i64 a[i]] := by rw [Int.toNat_natCast]; exact intsAV_get hlt
        have g2 : (intsAV b).getD (i : Int).toNat [] = [.int .i64 (b[i]'(by omega))] := by rw [Int.toNat_natCast]; exact intsAV_get (by omega)
        simp +contextual (maxSteps := 1000000) only [intsAV_length, hd, g1, g2, go_sem, reduceCtorEq, ↓reduceIte, Nat.reduceAdd, Nat.reduceEqDiff]
        refine ⟨by omega, by omega, kCond_split (fun h1 => ?_) (fun h1 => ?_)⟩
        · simp +contextual (maxSteps := 1000000) only [go_sem, reduceCtorEq, ↓reduceIte, Nat.reduceAdd, Nat.reduceEqDiff]
          rw [← hQ']
          simp only [w_kIt_r, w_kBlk_r, w_kSeq_r]
          have e : decide (a = b) = false := by
            simp only [bne_iff_ne, ne_eq] at h1
            rw [decide_eq_false_iff_not]; intro e; subst e; exact h1 rfl
          rw [← hQ, e]
          exact ⟨trivial, Ret.flat rfl rfl⟩
        · simp +contextual (maxSteps := 1000000) only [go_sem, reduceCtorEq, ↓reduceIte, Nat.reduceAdd, Nat.reduceEqDiff]
          rw [← hQ']
          simp only [w_kIt_n]
          refine ⟨0, i + 1, Wk.same ?_, ⟨by omega, ?_⟩, by omega⟩
          · repeat' first | exact AVle.refl _ _ | exact trivial | refine And.intro ?_ ?_ | exact AVle.int (by simp only [IntKind.wrap_i64]; omega)
          · have h2 : a[i] = b[i]'(by omega) := by simpa using h1
            rw [List.take_add_one, List.take_add_one, hinv, List.getElem?_eq_getElem hlt, List.getElem?_eq_getElem (show i < b.length by omega), h2]
      · have hd : decide ((i : Int) < (a.length : Int)) = false := by simp; omega
        simp +contextual (maxSteps := 1000000) only [intsAV_length, hd, go_sem, reduceCtorEq, ↓reduceIte, Nat.reduceAdd, Nat.reduceEqDiff]
        rw [← hQ']
        simp only [w_kIt_e, w_kBlk_e, ↓reduceIte]
        simp +contextual (maxSteps := 1000000) only [go_sem, reduceCtorEq, ↓reduceIte, Nat.reduceAdd, Nat.reduceEqDiff]
        have e : decide (a = b) = true := by
          rw [decide_eq_true_eq]
          have h3 := hinv
          rw [List.take_of_length_le (by omega), List.take_of_length_le (by omega)] at h3
          exact h3
        rw [← hQ, e]
        exact ⟨trivial, Ret.flat rfl rfl⟩

def idxP (q : Int → Bool) : List Int → Option Nat
  | [] => none
  | n :: l => if q n = true then some 0 else (idxP q l).map (· + 1)
theorem idxP_any (q : Int → Bool) : ∀ l, (idxP q l).isSome = l.any q
  | [] => rfl
  | n :: l => by
    simp only [idxP, List.any_cons]
    split
    · rename_i h; simp [h]
    · rename_i h
      have h : q n = false := by simpa using h
      simp [h, idxP_any q l]
theorem fs_IndexFuncInts {Gl : Gh → Prop} (hst : Stays Gl) {a : List Int} {ta : Option Nm} {k : Nat} {caps : List AV} {q : Int → Bool} (ha : a.length < 9223372036854775808) (hk : ∀ c, c ∈ a → FS Tryd.prog Gl k (.int .i64 c :: caps) [] [] (.bool (q c)) [] []) :
    FS Tryd.prog Gl 48 [.sl ta 1 (intsAV a), .fn (.func k) [] caps] [] [] (.int .i64 (match idxP q a with | some i => (i : Int) | none => -1)) [] [] := by
  refine FS.of hm hst is_slicesIndexFuncintint (by simp) fun γ hγ hfr => ?_
  (generalize hQ : (fun (ex : Ex) (_ _ : Nat) (s : St) => _) = Q; unfold ir_slicesIndexFuncintint)
  simp +contextual (maxSteps := 1000000) only [intsAV_length, go_sem, reduceCtorEq, ↓reduceIte, Nat.reduceAdd, Nat.reduceEqDiff]
  refine kLoop_ix (fun i : Nat => ⟨lf [(0, .sl ta 1 (intsAV a)), (1, .fn (.func k) [] caps), (7, .int .i64 a.length), (8, .int .i64 i)], [], fun x => x ∈ []⟩) (fun i => i ≤ a.length ∧ idxP q a = (idxP q (a.drop i)).map (· + i)) (fun i => a.length - i) 0 0 (Wk.same ?_) ?_ ?_
  · (simp only [lfOK, upd, initF]; repeat' first | exact AVle.refl _ _ | exact trivial | refine And.intro ?_ ?_ | exact AVle.int (by simp only [IntKind.wrap_i64]; omega))
  · simp
  · rintro γ' i hf ⟨hi, hinv⟩
    generalize hQ' : kIt _ _ _ _ _ = Q'
    by_cases hlt : i < a.length
    · have hd : decide ((i : Int) < (a.length : Int)) = true := by simp; omega
      have g1 : (intsAV a).getD (i : Int).toNat [] = [.int .i64 a[i]] := by rw [Int.toNat_natCast]; exact intsAV_get hlt
      have hdrop : a.drop i = a[i] :: a.drop (i + 1) := List.drop_eq_getElem_cons hlt
      rw [hdrop] at hinv
      simp +contextual (maxSteps := 1000000) only [intsAV_length, hd, g1, go_sem, reduceCtorEq, ↓reduceIte, Nat.reduceAdd, Nat.reduceEqDiff]
      refine ⟨by omega, CallP.pure (hk _ (List.getElem_mem hlt)) (fun _ => rfl) ?_⟩
      cases hq : q a[i] with
      | true =>
        simp +contextual (maxSteps := 1000000) only [go_sem, reduceCtorEq, ↓reduceIte, Nat.reduceAdd, Nat.reduceEqDiff]
        rw [← hQ', ← hQ, hinv]
        simp only [w_kIt_r, w_kBlk_r, w_kSeq_r, idxP, hq, if_true]
        exact ⟨trivial, Ret.flat (by simp [resOf, getAll, IRes.get, lf]) rfl⟩
      | false =>
        simp +contextual (maxSteps := 1000000) only [go_sem, reduceCtorEq, ↓reduceIte, Nat.reduceAdd, Nat.reduceEqDiff]
        rw [← hQ']
        simp only [w_kIt_n]
        refine ⟨0, i + 1, Wk.same ?_, ⟨by omega, ?_⟩, by omega⟩
        · repeat' first | exact AVle.refl _ _ | exact trivial | refine And.intro ?_ ?_ | exact AVle.int (by simp only [IntKind.wrap_i64]; omega)
        · rw [hinv]
          simp only [idxP, hq, Bool.false_eq_true, if_false, Option.map_map]
          congr 1
          funext x; simp; omega
    · have hd : decide ((i : Int) < (a.length : Int)) = false := by simp; omega
      simp +contextual (maxSteps := 1000000) only [intsAV_length, hd, go_sem, reduceCtorEq, ↓reduceIte, Nat.reduceAdd, Nat.reduceEqDiff]
      rw [← hQ']
      simp only [w_kIt_e, w_kBlk_e, ↓reduceIte]
      simp +contextual (maxSteps := 1000000) only [go_sem, reduceCtorEq, ↓reduceIte, Nat.reduceAdd, Nat.reduceEqDiff]
      rw [List.drop_of_length_le (by omega)] at hinv
      rw [← hQ, hinv]
      exact ⟨trivial, Ret.flat rfl rfl⟩

theorem fs_ContainsFuncInts {Gl : Gh → Prop} (hst : Stays Gl) {a : List Int} {ta : Option Nm} {k : Nat} {caps : List AV} {q : Int → Bool} (ha : a.length < 9223372036854775808) (hk : ∀ c, c ∈ a → FS Tryd.prog Gl k (.int .i64 c :: caps) [] [] (.bool (q c)) [] []) :
    FS Tryd.prog Gl 34 [.sl ta 1 (intsAV a), .fn (.func k) [] caps] [] [] (.bool (a.any q)) [] [] := by
  refine FS.of hm hst is_slicesContainsFuncintint (by simp) fun γ hγ hfr => ?_
  (generalize hQ : (fun (ex : Ex) (_ _ : Nat) (s : St) => _) = Q; unfold ir_slicesContainsFuncintint)
  simp +contextual (maxSteps := 1000000) only [go_sem, reduceCtorEq, ↓reduceIte, Nat.reduceAdd, Nat.reduceEqDiff]
  refine CallP.pure (fs_IndexFuncInts hst ha hk) (fun _ => rfl) ?_
  have hi : decide ((match idxP q a with | some i => (i : Int) | none => -1) ≥ 0) = a.any q := by
    rw [← idxP_any]
    cases idxP q a with
    | none => rfl
    | some i => simp
  generalize (match idxP q a with | some i => (i : Int) | none => -1) = x at hi
  simp +contextual (maxSteps := 1000000) only [hi, go_sem, reduceCtorEq, ↓reduceIte, Nat.reduceAdd, Nat.reduceEqDiff]
  rw [← hQ]
  exact ⟨trivial, Ret.flat rfl rfl⟩

theorem fs_listed1 {Gl : Gh → Prop} (hst : Stays Gl) {n : Int} : FS Tryd.prog Gl 35 [.int .i64 n] [] [] (.bool (decide (n < -1) || decide (n > 1114111))) [] [] := by
  refine FS.of hm hst is_wirelisted1 (by simp) fun γ hγ hfr => ?_
  (generalize hQ : (fun (ex : Ex) (_ _ : Nat) (s : St) => _) = Q; unfold ir_wirelisted1)
  simp +contextual (maxSteps := 1000000) only [go_sem, reduceCtorEq, ↓reduceIte, Nat.reduceAdd, Nat.reduceEqDiff]
  rw [← hQ]
  exact ⟨trivial, Ret.flat rfl rfl⟩

def parBad (p : List Int) : Bool := p.any (fun n => decide (n < -1) || decide (n > 1114111)) || (decide (p.length < 1) || decide (p.length > 8))
theorem lp_listed {Gl : Gh → Prop} (hst : Stays Gl) {l : List (List Int)} (ha : l.length < 9223372036854775808) (hb : ∀ p ∈ l, p.length < 9223372036854775808) {γ c : Nat} {F : Nat → AV} {T : Tk} {K : Ex → Nat → Nat → St → Prop}
    (hF : lfOK [] F [(21, .sl none 1 (parsAV l)), (22, .int .i64 l.length), (23, .int .i64 0)])
    (hret : l.any parBad = true → ∀ γ c F, F 2 = .bool false → K .ret γ c ⟨F, [], T⟩) (hex : l.any parBad = false → ∀ γ c F, K (.exit 0) γ c ⟨F, [], T⟩) : kLoop Tryd.prog Gl ir_wirelisted_l0 γ c ⟨F, [], T⟩ K := by
  refine kLoop_ix (fun i : Nat => ⟨lf [(21, .sl none 1 (parsAV l)), (22, .int .i64 l.length), (23, .int .i64 i)], [], T⟩) (fun i => i ≤ l.length ∧ l.any parBad = (l.drop i).any parBad) (fun i => l.length - i) 0 0 (Wk.same hF) (by simp) ?_
  rintro γ' i hf ⟨hi, hinv⟩
  generalize hK : kIt _ _ _ _ _ = K'
  unfold ir_wirelisted_l0
  by_cases hlt : i < l.length
  · have hd : decide ((i : Int) < (l.length : Int)) = true := by simp; omega
    have g1 : (parsAV l).getD (i : Int).toNat [] = [intsV l[i]] := by rw [Int.toNat_natCast]; exact parsAV_get hlt
    have hdrop : l.drop i = l[i] :: l.drop (i + 1) := List.drop_eq_getElem_cons hlt
    rw [hdrop, List.any_cons] at hinv
    have hm : l[i] ∈ l := List.getElem_mem hlt
    generalize l[i] = p at g1 hinv hm
    simp +contextual (maxSteps := 1000000) only [parsAV_length, hd, g1, go_sem, reduceCtorEq, ↓reduceIte, Nat.reduceAdd, Nat.reduceEqDiff]
    refine ⟨by omega, CallP.pure (fs_ContainsFuncInts hst (hb p hm) (fun c _ => fs_listed1 hst)) (fun _ => rfl) ?_⟩
    have fin1 : parBad p = true → ∀ γ c F, F 2 = .bool false → K' .ret γ c ⟨F, [], T⟩ := fun h γ c F hF => by
      rw [← hK]; simp only [w_kIt_r]; exact hret (by rw [hinv, h]; rfl) γ c F hF
    have fin2 : parBad p = false → ∀ γ c F, F 21 = .sl none 1 (parsAV l) → F 22 = .int .i64 l.length → F 23 = .int .i64 (i + 1 : Nat) → K' .normal γ c ⟨F, [], T⟩ := fun h γ c F h1 h2 h3 => by
      rw [← hK]; simp only [w_kIt_n]
      refine ⟨0, i + 1, Wk.same ⟨.inl h1.symm, .inl h2.symm, .inl h3.symm, trivial⟩, ⟨by omega, ?_⟩, by omega⟩
      rw [hinv, h]; rfl
    have hw : IntKind.i64.wrap ((i : Int) + 1) = ((i + 1 : Nat) : Int) := by rw [IntKind.wrap_i64]; omega
    unfold parBad at fin1 fin2
    cases h1 : p.any (fun n => decide (n < -1) || decide (n > 1114111)) with
    | true =>
      rw [h1] at fin1
      simp +contextual (maxSteps := 1000000) only [go_sem, reduceCtorEq, ↓reduceIte, Nat.reduceAdd, Nat.reduceEqDiff]
      exact fin1 rfl _ _ _ rfl
    | false =>
      rw [h1] at fin1 fin2
      have i1 : decide ((p.length : Int) < 1) = decide (p.length < 1) := by rw [decide_eq_decide]; omega
      have i2 : decide ((p.length : Int) > 8) = decide (p.length > 8) := by rw [decide_eq_decide]; omega
      cases h2 : decide (p.length < 1) with
      | true =>
        rw [h2] at fin1
        simp +contextual (maxSteps := 1000000) only [intsV, intsAV_length, i1, h2, go_sem, reduceCtorEq, ↓reduceIte, Nat.reduceAdd, Nat.reduceEqDiff]
        exact fin1 rfl _ _ _ rfl
      | false =>
        rw [h2] at fin1 fin2
        cases h3 : decide (p.length > 8) with
        | true =>
          rw [h3] at fin1
          simp +contextual (maxSteps := 1000000) only [intsV, intsAV_length, i1, h2, i2, h3, go_sem, reduceCtorEq, ↓reduceIte, Nat.reduceAdd, Nat.reduceEqDiff]
          exact fin1 rfl _ _ _ rfl
        | false =>
          rw [h3] at fin2
          simp +contextual (maxSteps := 1000000) only [intsV, intsAV_length, i1, h2, i2, h3, hw, go_sem, reduceCtorEq, ↓reduceIte, Nat.reduceAdd, Nat.reduceEqDiff]
          exact fin2 rfl _ _ _ rfl rfl rfl
  · have hd : decide ((i : Int) < (l.length : Int)) = false := by simp; omega
    simp +contextual (maxSteps := 1000000) only [hd, go_sem, reduceCtorEq, ↓reduceIte, Nat.reduceAdd, Nat.reduceEqDiff]
    rw [← hK]
    simp only [w_kIt_e]
    rw [List.drop_of_length_le (by omega)] at hinv
    exact hex hinv _ _ _

def parsOk (l : List (List Int)) : Bool := !(decide (l.length > 16) || decide (l = [[-1]])) && !l.any parBad
set_option maxHeartbeats 1000000 in
theorem fs_listed {Gl : Gh → Prop} (hst : Stays Gl) {l : List (List Int)} (ha : l.length < 9223372036854775808) (hb : ∀ p ∈ l, p.length < 9223372036854775808) : FS Tryd.prog Gl 19 [parsV l] [] [] (.bool (parsOk l)) [] [] := by
  refine FS.of hm hst is_wirelisted (by simp) fun γ hγ hfr => ?_
  (generalize hQ : (fun (ex : Ex) (_ _ : Nat) (s : St) => _) = Q; unfold ir_wirelisted)
  simp only [parsV]
  have i1 : decide ((l.length : Int) > 16) = decide (l.length > 16) := by rw [decide_eq_decide]; omega
  have i2 : ((l.length : Int) == 1) = decide (l.length = 1) := by rw [Bool.eq_iff_iff]; simp; omega
  have loop : ∀ c F T, lfOK [] F [(21, .sl none 1 (parsAV l)), (22, .int .i64 l.length), (23, .int .i64 0)] → decide (l.length > 16) = false → decide (l = [[-1]]) = false →
      kLoop Tryd.prog Gl ir_wirelisted_l0 γ c ⟨F, [], T⟩ (kBlk 0 (kSeq Tryd.prog Gl (.seq (.reg [⟨some 2, none, .mov (.c (.bool true))⟩] (some [2])) .ret) Q)) := fun c F T hF h16 h1 => by
    refine lp_listed hst ha hb hF (fun h γ c F hF => ?_) (fun h γ c F => ?_)
    · simp +contextual (maxSteps := 1000000) only [go_sem, reduceCtorEq, ↓reduceIte, Nat.reduceAdd, Nat.reduceEqDiff, Nat.reduceLeDiff, Nat.reduceMul, Nat.reduceBEq, Int.reduceBEq, Int.reduceBNe, Int.reduceLT, Int.reduceLE, Int.reduceGT, Int.reduceGE, Int.reduceToNat]
      rw [← hQ, parsOk, h16, h1, h]
      exact ⟨trivial, Ret.flat (by simp [resOf, getAll, IRes.get, hF]) rfl⟩
    · simp +contextual (maxSteps := 1000000) only [go_sem, reduceCtorEq, ↓reduceIte, Nat.reduceAdd, Nat.reduceEqDiff, Nat.reduceLeDiff, Nat.reduceMul, Nat.reduceBEq, Int.reduceBEq, Int.reduceBNe, Int.reduceLT, Int.reduceLE, Int.reduceGT, Int.reduceGE, Int.reduceToNat]
      rw [← hQ, parsOk, h16, h1, h]
      exact ⟨trivial, Ret.flat rfl rfl⟩
  cases h16 : decide (l.length > 16) with
  | true =>
    simp +contextual (maxSteps := 1000000) only [parsAV_length, i1, h16, go_sem, reduceCtorEq, ↓reduceIte, Nat.reduceAdd, Nat.reduceEqDiff, Nat.reduceLeDiff, Nat.reduceMul, Nat.reduceBEq, Int.reduceBEq, Int.reduceBNe, Int.reduceLT, Int.reduceLE, Int.reduceGT, Int.reduceGE, Int.reduceToNat]
    rw [← hQ, parsOk, h16]
    exact ⟨trivial, Ret.flat rfl rfl⟩
  | false =>
    cases h1 : decide (l.length = 1) with
    | false =>
      simp +contextual (maxSteps := 1000000) only [parsAV_length, i1, h16, i2, h1, go_sem, reduceCtorEq, ↓reduceIte, Nat.reduceAdd, Nat.reduceEqDiff, Nat.reduceLeDiff, Nat.reduceMul, Nat.reduceBEq, Int.reduceBEq, Int.reduceBNe, Int.reduceLT, Int.reduceLE, Int.reduceGT, Int.reduceGE, Int.reduceToNat]
      refine loop _ _ _ ?_ h16 ?_
      · (simp only [lfOK, upd, initF]; repeat' first | exact AVle.refl _ _ | exact trivial | refine And.intro ?_ ?_ | exact AVle.int (by simp only [IntKind.wrap_i64]; omega))
      · simp only [decide_eq_false_iff_not] at h1 ⊢
        intro e; subst e; exact h1 rfl
    | true =>
      obtain ⟨p, rfl⟩ : ∃ p, l = [p] := by
        match l, h1 with
        | [p], _ => exact ⟨p, rfl⟩
        | [], h => simp at h
        | _ :: _ :: _, h => simp at h
      have hp := hb p (by simp)
      have g1 : (parsAV [p]).getD 0 [] = [intsV p] := rfl
      simp +contextual (maxSteps := 1000000) only [parsAV_length, g1, go_sem, reduceCtorEq, ↓reduceIte, Nat.reduceAdd, Nat.reduceEqDiff, Nat.reduceLeDiff, Nat.reduceMul, Nat.reduceBEq, Int.reduceBEq, Int.reduceBNe, Int.reduceLT, Int.reduceLE, Int.reduceGT, Int.reduceGE, Int.reduceToNat]
      have hfs : FS Tryd.prog Gl 28 [intsV p, .sl (some (γ, 12, 0)) 1 [[.int .i64 (-1)]]] [] [] (.bool (decide (p = [-1]))) [] [] := fs_EqualInts (ta := none) (b := [-1]) hst hp (by simp)
      refine CallP.pure hfs (fun _ => rfl) ?_
      cases h2 : decide (p = [-1]) with
      | true =>
        have hp1 : decide ([p] = [[-1]]) = true := by simpa using h2
        simp +contextual (maxSteps := 1000000) only [go_sem, reduceCtorEq, ↓reduceIte, Nat.reduceAdd, Nat.reduceEqDiff, Nat.reduceLeDiff, Nat.reduceMul, Nat.reduceBEq, Int.reduceBEq, Int.reduceBNe, Int.reduceLT, Int.reduceLE, Int.reduceGT, Int.reduceGE, Int.reduceToNat]
        rw [← hQ, parsOk, h16, hp1]
        exact ⟨trivial, Ret.flat rfl rfl⟩
      | false =>
        have hp1 : decide ([p] = [[-1]]) = false := by simpa using h2
        simp +contextual (maxSteps := 1000000) only [go_sem, reduceCtorEq, ↓reduceIte, Nat.reduceAdd, Nat.reduceEqDiff, Nat.reduceLeDiff, Nat.reduceMul, Nat.reduceBEq, Int.reduceBEq, Int.reduceBNe, Int.reduceLT, Int.reduceLE, Int.reduceGT, Int.reduceGE, Int.reduceToNat]
        refine loop _ _ _ ?_ h16 hp1
        (simp only [lfOK, upd, initF]; repeat' first | exact AVle.refl _ _ | exact trivial | refine And.intro ?_ ?_ | exact AVle.int (by simp only [IntKind.wrap_i64]; omega))
end Go.Proofs.YtcdkcfpgdbjogaaDoor

namespace Go.Proofs.YtcdkcfpgdbjogaaDoor
open Go Go.Ab
def ir_stringsContainsRune : ICode :=
 (.seq
 (.reg [⟨some 4, none, .mov (.c (.bool false))⟩] (some [0, 1]))
 (.seq
 (.reg [⟨some 5, none, .mov (.t 0)⟩,
 ⟨some 6, none, .mov (.t 1)⟩,
 ⟨some 7, none, .call (.c (.fn (.func 49) [] [])) [(.t 5), (.t 6)]⟩,
 ⟨some 8, none, .bin .geq .none (.t 7) (.c (.int .i64 0))⟩,
 ⟨some 4, none, .mov (.t 8)⟩] (some [4]))
 .ret))
theorem is_stringsContainsRune : IrOf Tryd.prog 36 9 ir_stringsContainsRune [.t 4] := ⟨_, Tryd.func36, rfl, by kernel_rfl, by kernel_rfl, by kernel_rfl⟩

def ir_wireshaped : ICode :=
 (.seq
 (.reg [⟨some 1, none, .box 24 (.t 0)⟩,
 ⟨some 2, none, .mov (.c (.bool false))⟩] (some [1]))
 (.seq
 (.reg [⟨some 5, none, .fa 1 (.t 1)⟩,
 ⟨some 6, none, .ld none (.t 5)⟩,
 ⟨some 7, none, .bin .eql .none (.t 6) (.c (.int .u8 0))⟩,
 ⟨some 8, none, .mov (.t 7)⟩,
 ⟨some 9, some (8, true), .fa 2 (.t 1)⟩,
 ⟨some 10, some (8, true), .ld none (.t 9)⟩,
 ⟨some 11, some (8, true), .len (.t 10)⟩,
 ⟨some 12, some (8, true), .bin .eql .none (.t 11) (.c (.int .i64 0))⟩,
 ⟨some 13, none, .pick (.t 8) (.t 12) (.c (.bool false))⟩,
 ⟨some 3, none, .mov (.t 13)⟩] (some [1, 3]))
 (.seq
 (.seq
 (.reg [⟨some 14, none, .fa 0 (.t 1)⟩,
 ⟨some 15, none, .ld none (.t 14)⟩] (some [1, 3, 15]))
 (.blk 0
 (.seq
 (.reg [⟨some 17, none, .bin .eql .none (.t 15) (.c (.int .i64 1))⟩,
 ⟨some 16, none, .mov (.t 17)⟩] (some [1, 3, 15, 16]))
 (.cond (.t 16)
 (.seq
 (.reg [⟨some 18, none, .fa 5 (.t 1)⟩,
 ⟨some 19, none, .ld none (.t 18)⟩,
 ⟨some 20, none, .bin .eql .none (.t 19) (.c (.str []))⟩,
 ⟨some 21, none, .mov (.t 20)⟩,
 ⟨some 22, some (21, true), .fa 4 (.t 1)⟩,
 ⟨some 23, some (21, true), .ld none (.t 22)⟩,
 ⟨some 24, some (21, true), .bin .geq .none (.t 23) (.c (.int .u8 64))⟩,
 ⟨some 25, none, .pick (.t 21) (.t 24) (.c (.bool false))⟩,
 ⟨some 26, none, .mov (.t 25)⟩,
 ⟨some 27, some (26, true), .fa 4 (.t 1)⟩,
 ⟨some 28, some (26, true), .ld none (.t 27)⟩,
 ⟨some 29, some (26, true), .bin .leq .none (.t 28) (.c (.int .u8 126))⟩,
 ⟨some 30, none, .pick (.t 26) (.t 29) (.c (.bool false))⟩,
 ⟨some 2, none, .mov (.t 30)⟩] (some [2]))
 .ret)
 (.seq
 (.reg [⟨some 32, none, .bin .eql .none (.t 15) (.c (.int .i64 3))⟩,
 ⟨some 31, none, .mov (.t 32)⟩] (some [1, 3, 15, 31]))
 (.cond (.t 31)
 (.seq
 (.reg [⟨some 33, none, .fa 4 (.t 1)⟩,
 ⟨some 34, none, .ld none (.t 33)⟩,
 ⟨some 35, none, .bin .geq .none (.t 34) (.c (.int .u8 64))⟩,
 ⟨some 36, none, .mov (.t 35)⟩,
 ⟨some 37, some (36, true), .fa 4 (.t 1)⟩,
 ⟨some 38, some (36, true), .ld none (.t 37)⟩,
 ⟨some 39, some (36, true), .bin .leq .none (.t 38) (.c (.int .u8 126))⟩,
 ⟨some 40, none, .pick (.t 36) (.t 39) (.c (.bool false))⟩,
 ⟨some 2, none, .mov (.t 40)⟩] (some [2]))
 .ret)
 (.seq
 (.reg [⟨some 42, none, .bin .eql .none (.t 15) (.c (.int .i64 2))⟩,
 ⟨some 41, none, .mov (.t 42)⟩] (some [1, 3, 15, 41]))
 (.cond (.t 41)
 (.seq
 (.reg [⟨some 43, none, .mov (.t 3)⟩,
 ⟨some 44, none, .mov (.t 43)⟩,
 ⟨some 45, some (44, true), .fa 3 (.t 1)⟩,
 ⟨some 46, some (44, true), .ld none (.t 45)⟩,
 ⟨some 47, some (44, true), .bin .eql .none (.t 46) (.c (.str []))⟩,
 ⟨some 48, none, .pick (.t 44) (.t 47) (.c (.bool false))⟩,
 ⟨some 49, none, .mov (.t 48)⟩,
 ⟨some 50, some (49, true), .fa 5 (.t 1)⟩,
 ⟨some 51, some (49, true), .ld none (.t 50)⟩,
 ⟨some 52, some (49, true), .bin .eql .none (.t 51) (.c (.str []))⟩,
 ⟨some 53, none, .pick (.t 49) (.t 52) (.c (.bool false))⟩,
 ⟨some 54, none, .mov (.t 53)⟩,
 ⟨some 55, some (54, true), .fa 4 (.t 1)⟩,
 ⟨some 56, some (54, true), .ld none (.t 55)⟩,
 ⟨some 57, some (54, true), .bin .geq .none (.t 56) (.c (.int .u8 64))⟩,
 ⟨some 58, none, .pick (.t 54) (.t 57) (.c (.bool false))⟩,
 ⟨some 59, none, .mov (.t 58)⟩,
 ⟨some 60, some (59, true), .fa 4 (.t 1)⟩,
 ⟨some 61, some (59, true), .ld none (.t 60)⟩,
 ⟨some 62, some (59, true), .bin .leq .none (.t 61) (.c (.int .u8 126))⟩,
 ⟨some 63, none, .pick (.t 59) (.t 62) (.c (.bool false))⟩,
 ⟨some 2, none, .mov (.t 63)⟩] (some [2]))
 .ret)
 (.seq
 (.reg [⟨some 65, none, .bin .eql .none (.t 15) (.c (.int .i64 4))⟩,
 ⟨some 64, none, .mov (.t 65)⟩] (some [1, 3, 15, 64]))
 (.cond (.t 64)
 (.seq
 (.reg [⟨some 66, none, .mov (.t 3)⟩,
 ⟨some 67, none, .mov (.t 66)⟩,
 ⟨some 68, some (67, true), .fa 3 (.t 1)⟩,
 ⟨some 69, some (67, true), .ld none (.t 68)⟩,
 ⟨some 70, some (67, true), .bin .eql .none (.t 69) (.c (.str []))⟩,
 ⟨some 71, none, .pick (.t 67) (.t 70) (.c (.bool false))⟩,
 ⟨some 72, none, .mov (.t 71)⟩,
 ⟨some 73, some (72, true), .fa 4 (.t 1)⟩,
 ⟨some 74, some (72, true), .ld none (.t 73)⟩,
 ⟨some 75, some (72, true), .bin .eql .none (.t 74) (.c (.int .u8 0))⟩,
 ⟨some 76, none, .pick (.t 72) (.t 75) (.c (.bool false))⟩,
 ⟨some 2, none, .mov (.t 76)⟩] (some [2]))
 .ret)
 (.seq
 (.reg [⟨some 78, none, .bin .eql .none (.t 15) (.c (.int .i64 5))⟩,
 ⟨some 77, none, .mov (.t 78)⟩] (some [1, 3, 77]))
 (.cond (.t 77)
 (.seq
 (.reg [⟨some 79, none, .fa 3 (.t 1)⟩,
 ⟨some 80, none, .ld none (.t 79)⟩,
 ⟨some 81, none, .bin .neq .none (.t 80) (.c (.str []))⟩,
 ⟨some 82, none, .mov (.t 81)⟩,
 ⟨some 83, some (82, false), .fa 4 (.t 1)⟩,
 ⟨some 84, some (82, false), .ld none (.t 83)⟩,
 ⟨some 85, some (82, false), .cvi .i32 (.t 84)⟩,
 ⟨some 86, some (82, false), .call (.c (.fn (.func 36) [] [])) [(.c (.str [79, 80, 88, 91, 93, 92, 94, 95])), (.t 85)]⟩,
 ⟨some 87, some (82, false), .un .not (.t 86)⟩,
 ⟨some 88, none, .pick (.t 82) (.c (.bool true)) (.t 87)⟩,
 ⟨some 4, none, .mov (.t 88)⟩] (some [1, 3, 4]))
 (.seq
 (.reg [⟨some 89, none, .mov (.t 3)⟩,
 ⟨some 90, none, .mov (.t 89)⟩,
 ⟨some 91, some (90, true), .fa 5 (.t 1)⟩,
 ⟨some 92, some (90, true), .ld none (.t 91)⟩,
 ⟨some 93, some (90, true), .bin .eql .none (.t 92) (.c (.str []))⟩,
 ⟨some 94, none, .pick (.t 90) (.t 93) (.c (.bool false))⟩,
 ⟨some 95, none, .mov (.t 94)⟩,
 ⟨some 96, some (95, true), .mov (.t 4)⟩,
 ⟨some 97, none, .pick (.t 95) (.t 96) (.c (.bool false))⟩,
 ⟨some 98, none, .mov (.t 97)⟩,
 ⟨some 99, some (98, true), .fa 4 (.t 1)⟩,
 ⟨some 100, some (98, true), .ld none (.t 99)⟩,
 ⟨some 101, some (98, true), .bin .geq .none (.t 100) (.c (.int .u8 48))⟩,
 ⟨some 102, none, .pick (.t 98) (.t 101) (.c (.bool false))⟩,
 ⟨some 103, none, .mov (.t 102)⟩,
 ⟨some 104, some (103, true), .fa 4 (.t 1)⟩,
 ⟨some 105, some (103, true), .ld none (.t 104)⟩,
 ⟨some 106, some (103, true), .bin .leq .none (.t 105) (.c (.int .u8 126))⟩,
 ⟨some 107, none, .pick (.t 103) (.t 106) (.c (.bool false))⟩,
 ⟨some 2, none, .mov (.t 107)⟩] (some [2]))
 .ret))
 .skip))))))))))))
 (.seq
 (.reg [⟨some 2, none, .mov (.c (.bool false))⟩] (some [2]))
 .ret))))
theorem is_wireshaped : IrOf Tryd.prog 20 108 ir_wireshaped [.t 2] := ⟨_, Tryd.func20, rfl, by kernel_rfl, by kernel_rfl, by kernel_rfl⟩

theorem indexByte_mem : ∀ (l : List UInt8) (c : UInt8), decide (0 ≤ Lib.indexByte l c) = l.contains c
  | [], c => rfl
  | d :: l, c => by
    have ih := indexByte_mem l c
    have hg := Lib.indexByte_ge l c
    rw [List.contains_cons]
    have hu : Lib.indexByte (d :: l) c = if d == c then 0 else if Lib.indexByte l c == -1 then -1 else Lib.indexByte l c + 1 := rfl
    rw [hu]
    by_cases h : d = c
    · subst h; simp
    · have hb : (d == c) = false := by simpa using h
      have hb2 : (c == d) = false := by simpa using Ne.symm h
      rw [hb2, Bool.false_or, ← ih, decide_eq_decide]
      simp only [hb, Bool.false_eq_true, if_false]
      by_cases h1 : Lib.indexByte l c = -1
      · simp [h1]
      · have : (Lib.indexByte l c == -1) = false := by simpa using h1
        simp only [this, Bool.false_eq_true, if_false]
        omega
theorem fs_ContainsRune {Gl : Gh → Prop} {s : List UInt8} {r : Int} (h0 : 0 ≤ r) (h1 : r < 128) : FS Tryd.prog Gl 36 [.str s, .int .i32 r] [] [] (.bool (s.contains r.toNat.toUInt8)) [] [] := by
  refine FS.of_calls is_stringsContainsRune.enters (fun _ => rfl) fun g w vs hinv hgl hargs => ?_
  obtain ⟨v1, r1, rfl, h1', v2, r2, rfl, h2', h3'⟩ := hargs
  cases h1'; cases h2'; cases h3'
  refine ⟨_, rfl, (Tryd.strings_ContainsRune_ascii ⟨s.toArray⟩ r w h0 h1).mono ?_⟩
  rintro e w' ⟨rfl, rfl⟩
  exact ⟨by rw [indexByte_mem], rfl⟩

theorem firsts_high : ∀ k : Fin 128, ([79, 80, 88, 91, 93, 92, 94, 95] : List UInt8).contains ((128 + k.val : Nat) : Int).toNat.toUInt8 = false := by decide +kernel
theorem fs_ContainsFirsts {Gl : Gh → Prop} {r : Int} (h0 : 0 ≤ r) (h1 : r < 256) : FS Tryd.prog Gl 36 [.str [79, 80, 88, 91, 93, 92, 94, 95], .int .i32 r] [] [] (.bool (([79, 80, 88, 91, 93, 92, 94, 95] : List UInt8).contains r.toNat.toUInt8)) [] [] := by
  by_cases h : r < 128
  · exact fs_ContainsRune h0 h
  · have hf := firsts_high ⟨(r - 128).toNat, by omega⟩
    simp only at hf
    rw [show ((128 + (r - 128).toNat : Nat) : Int) = r by omega] at hf
    rw [hf]
    refine FS.of_below is_stringsContainsRune.enters (fun _ => rfl) fun g w vs hinv hgl hargs => ?_
    obtain ⟨v1, r1, rfl, h1', v2, r2, rfl, h2', h3'⟩ := hargs
    cases h1'; cases h2'; cases h3'
    refine ⟨_, rfl, (hi_ContainsRune Tryd.lays151 Tryd.lays151.t21 Tryd.lays151.t9 w r (by omega) h1).mono ?_⟩
    rintro e w' ⟨rfl, hw⟩
    exact ⟨rfl, hw⟩
def shapedP (s : Sq) : Bool :=
  if s.k = 1 then decide (s.da = []) && decide (s.fi ≥ 64) && decide (s.fi ≤ 126)
  else if s.k = 3 then decide (s.fi ≥ 64) && decide (s.fi ≤ 126)
  else if s.k = 2 then s.pr == 0 && (s.ps.length : Int) == 0 && decide (s.it = []) && decide (s.da = []) && decide (s.fi ≥ 64) && decide (s.fi ≤ 126)
  else if s.k = 4 then s.pr == 0 && (s.ps.length : Int) == 0 && decide (s.it = []) && s.fi == 0
  else if s.k = 5 then s.pr == 0 && (s.ps.length : Int) == 0 && decide (s.da = []) && (!decide (s.it = []) || !([79, 80, 88, 91, 93, 92, 94, 95] : List UInt8).contains s.fi.toNat.toUInt8) && decide (s.fi ≥ 48) && decide (s.fi ≤ 126)
  else false

theorem fs_shaped {Gl : Gh → Prop} (hst : Stays Gl) {s : Sq} (hf0 : 0 ≤ s.fi) (hf1 : s.fi < 256) : FS Tryd.prog Gl 20 [.agg s.c] [] [] (.bool (shapedP s)) [] [] := by
  refine FS.of hm hst is_wireshaped (by simp) fun γ hγ hfr => ?_
  obtain ⟨k, pr, ps, it, fi, da⟩ := s
  simp only [Sq.c] at hf0 hf1 ⊢
  have hw : IntKind.i32.wrap fi = fi := by rw [IntKind.wrap_i32]; omega
  simp only [shapedP]
  generalize hp0 : (pr == 0) = p0
  generalize hps : ((ps.length : Int) == 0) = ps0
  generalize hda : decide (da = []) = da0
  generalize hit : decide (it = []) = it0
  generalize h64 : decide (fi ≥ 64) = f64
  generalize h126 : decide (fi ≤ 126) = f126
  generalize h48 : decide (fi ≥ 48) = f48
  generalize hfz : (fi == 0) = fz
  generalize hcr : ([79, 80, 88, 91, 93, 92, 94, 95] : List UInt8).contains fi.toNat.toUInt8 = cr
  have hcall : FS Tryd.prog Gl 36 [.str [79, 80, 88, 91, 93, 92, 94, 95], .int .i32 fi] [] [] (.bool cr) [] [] := hcr ▸ fs_ContainsFirsts hf0 hf1
  have x1 : (k == 1) = decide (k = 1) := by rw [Bool.eq_iff_iff]; simp
  have x3 : (k == 3) = decide (k = 3) := by rw [Bool.eq_iff_iff]; simp
  have x2 : (k == 2) = decide (k = 2) := by rw [Bool.eq_iff_iff]; simp
  have x4 : (k == 4) = decide (k = 4) := by rw [Bool.eq_iff_iff]; simp
  have x5 : (k == 5) = decide (k = 5) := by rw [Bool.eq_iff_iff]; simp
  by_cases h1 : k = 1
  · simp only [if_pos h1]
    (generalize hQ : (fun (ex : Ex) (_ _ : Nat) (s : St) => _) = Q; unfold ir_wireshaped)
    simp +contextual (maxSteps := 1000000) only [parsV, parsAV_length, hp0, hps, hda, hit, h64, h126, h48, hfz, hw, x1, h1, if_true, if_false, go_sem, reduceCtorEq, ↓reduceIte, Nat.reduceAdd, Nat.reduceEqDiff, Nat.reduceLeDiff, Nat.reduceMul, Nat.reduceBEq, Int.reduceBEq, Int.reduceBNe, Int.reduceLT, Int.reduceLE, Int.reduceGT, Int.reduceGE, Int.reduceToNat]
    rw [← hQ]; exact ⟨trivial, Ret.flat rfl rfl⟩
  by_cases h3 : k = 3
  · simp only [if_neg h1, if_pos h3]
    (generalize hQ : (fun (ex : Ex) (_ _ : Nat) (s : St) => _) = Q; unfold ir_wireshaped)
    simp +contextual (maxSteps := 1000000) only [parsV, parsAV_length, hp0, hps, hda, hit, h64, h126, h48, hfz, hw, x1, h1, x3, h3, if_true, if_false, go_sem, reduceCtorEq, ↓reduceIte, Nat.reduceAdd, Nat.reduceEqDiff, Nat.reduceLeDiff, Nat.reduceMul, Nat.reduceBEq, Int.reduceBEq, Int.reduceBNe, Int.reduceLT, Int.reduceLE, Int.reduceGT, Int.reduceGE, Int.reduceToNat]
    rw [← hQ]; exact ⟨trivial, Ret.flat rfl rfl⟩
  by_cases h2 : k = 2
  · simp only [if_neg h1, if_neg h3, if_pos h2]
    (generalize hQ : (fun (ex : Ex) (_ _ : Nat) (s : St) => _) = Q; unfold ir_wireshaped)
    simp +contextual (maxSteps := 1000000) only [parsV, parsAV_length, hp0, hps, hda, hit, h64, h126, h48, hfz, hw, x1, h1, x3, h3, x2, h2, if_true, if_false, go_sem, reduceCtorEq, ↓reduceIte, Nat.reduceAdd, Nat.reduceEqDiff, Nat.reduceLeDiff, Nat.reduceMul, Nat.reduceBEq, Int.reduceBEq, Int.reduceBNe, Int.reduceLT, Int.reduceLE, Int.reduceGT, Int.reduceGE, Int.reduceToNat]
    rw [← hQ]; exact ⟨trivial, Ret.flat rfl rfl⟩
  by_cases h4 : k = 4
  · simp only [if_neg h1, if_neg h3, if_neg h2, if_pos h4]
    (generalize hQ : (fun (ex : Ex) (_ _ : Nat) (s : St) => _) = Q; unfold ir_wireshaped)
    simp +contextual (maxSteps := 1000000) only [parsV, parsAV_length, hp0, hps, hda, hit, h64, h126, h48, hfz, hw, x1, h1, x3, h3, x2, h2, x4, h4, if_true, if_false, go_sem, reduceCtorEq, ↓reduceIte, Nat.reduceAdd, Nat.reduceEqDiff, Nat.reduceLeDiff, Nat.reduceMul, Nat.reduceBEq, Int.reduceBEq, Int.reduceBNe, Int.reduceLT, Int.reduceLE, Int.reduceGT, Int.reduceGE, Int.reduceToNat]
    rw [← hQ]; exact ⟨trivial, Ret.flat rfl rfl⟩
  by_cases h5 : k = 5
  · simp only [if_neg h1, if_neg h3, if_neg h2, if_neg h4, if_pos h5]
    (generalize hQ : (fun (ex : Ex) (_ _ : Nat) (s : St) => _) = Q; unfold ir_wireshaped)
    simp +contextual (maxSteps := 1000000) only [parsV, parsAV_length, hp0, hps, hda, hit, h64, h126, h48, hfz, hw, x1, h1, x3, h3, x2, h2, x4, h4, x5, h5, if_true, if_false, go_sem, reduceCtorEq, ↓reduceIte, Nat.reduceAdd, Nat.reduceEqDiff, Nat.reduceLeDiff, Nat.reduceMul, Nat.reduceBEq, Int.reduceBEq, Int.reduceBNe, Int.reduceLT, Int.reduceLE, Int.reduceGT, Int.reduceGE, Int.reduceToNat]
    refine kGc_call hcall (fun _ => rfl) (fun hg => ?_) ?_
    · revert hg
      simp +contextual [Xev_t, Xev_c, upd_app, lf_cons, lf_nil]
    · simp +contextual (maxSteps := 1000000) only [parsV, parsAV_length, hp0, hps, hda, hit, h64, h126, h48, hfz, go_sem, reduceCtorEq, ↓reduceIte, Nat.reduceAdd, Nat.reduceEqDiff, Nat.reduceLeDiff, Nat.reduceMul, Nat.reduceBEq, Int.reduceBEq, Int.reduceBNe, Int.reduceLT, Int.reduceLE, Int.reduceGT, Int.reduceGE, Int.reduceToNat]
      rw [← hQ]; exact ⟨trivial, Ret.flat rfl rfl⟩
  have e1 : decide (k = 1) = false := decide_eq_false h1
  have e2 : decide (k = 2) = false := decide_eq_false h2
  have e3 : decide (k = 3) = false := decide_eq_false h3
  have e4 : decide (k = 4) = false := decide_eq_false h4
  have e5 : decide (k = 5) = false := decide_eq_false h5
  simp only [if_neg h1, if_neg h3, if_neg h2, if_neg h4, if_neg h5]
  (generalize hQ : (fun (ex : Ex) (_ _ : Nat) (s : St) => _) = Q; unfold ir_wireshaped)
  simp +contextual (maxSteps := 1000000) only [parsV, parsAV_length, hp0, hps, x1, x2, x3, x4, x5, e1, e2, e3, e4, e5, go_sem, reduceCtorEq, ↓reduceIte, Nat.reduceAdd, Nat.reduceEqDiff, Nat.reduceLeDiff, Nat.reduceMul, Nat.reduceBEq, Int.reduceBEq, Int.reduceBNe, Int.reduceLT, Int.reduceLE, Int.reduceGT, Int.reduceGE, Int.reduceToNat]
  rw [← hQ]; exact ⟨trivial, Ret.flat rfl rfl⟩
end Go.Proofs.YtcdkcfpgdbjogaaDoor

namespace Go.Proofs.YtcdkcfpgdbjogaaDoor
open Go Go.Ab
def ir_wireMay : ICode :=
 (.seq
 (.reg [⟨some 1, none, .box 24 (.t 0)⟩,
 ⟨some 2, none, .mov (.c (.int .i64 0))⟩] (some [1]))
 (.seq
 (.reg [⟨some 5, none, .fa 1 (.t 1)⟩,
 ⟨some 6, none, .ld none (.t 5)⟩,
 ⟨some 7, none, .bin .eql .none (.t 6) (.c (.int .u8 0))⟩,
 ⟨some 8, none, .mov (.t 7)⟩,
 ⟨some 9, some (8, false), .fa 1 (.t 1)⟩,
 ⟨some 10, some (8, false), .ld none (.t 9)⟩,
 ⟨some 11, some (8, false), .bin .geq .none (.t 10) (.c (.int .u8 60))⟩,
 ⟨some 12, some (8, false), .mov (.t 11)⟩,
 ⟨some 13, some (12, true), .fa 1 (.t 1)⟩,
 ⟨some 14, some (12, true), .ld none (.t 13)⟩,
 ⟨some 15, some (12, true), .bin .leq .none (.t 14) (.c (.int .u8 63))⟩,
 ⟨some 16, some (8, false), .pick (.t 12) (.t 15) (.c (.bool false))⟩,
 ⟨some 17, none, .pick (.t 8) (.c (.bool true)) (.t 16)⟩,
 ⟨some 3, none, .mov (.t 17)⟩] (some [1, 3]))
 (.seq
 (.reg [⟨some 18, none, .fa 3 (.t 1)⟩,
 ⟨some 19, none, .ld none (.t 18)⟩,
 ⟨some 20, none, .lns (.t 19)⟩,
 ⟨some 21, none, .bin .leq .none (.t 20) (.c (.int .i64 2))⟩,
 ⟨some 22, none, .mov (.t 21)⟩,
 ⟨some 23, some (22, true), .fa 3 (.t 1)⟩,
 ⟨some 24, some (22, true), .ld none (.t 23)⟩,
 ⟨some 25, some (22, true), .call (.c (.fn (.func 18) [] [])) [(.t 24), (.c (.int .u8 32)), (.c (.int .u8 47))]⟩,
 ⟨some 26, none, .pick (.t 22) (.t 25) (.c (.bool false))⟩,
 ⟨some 4, none, .mov (.t 26)⟩] (some [1, 3, 4]))
 (.seq
 (.blk 0
 (.seq
 (.reg [⟨some 28, none, .fa 5 (.t 1)⟩,
 ⟨some 29, none, .ld none (.t 28)⟩,
 ⟨some 30, none, .lns (.t 29)⟩,
 ⟨some 31, none, .bin .gtr .none (.t 30) (.c (.int .i64 4096))⟩,
 ⟨some 27, none, .mov (.t 31)⟩] (some [1, 3, 4, 27]))
 (.cond (.t 27)
 (.seq
 (.reg [⟨some 2, none, .mov (.c (.int .i64 4))⟩] (some [2]))
 .ret)
 (.seq
 (.reg [⟨some 33, none, .mov (.t 3)⟩,
 ⟨some 34, none, .un .not (.t 33)⟩,
 ⟨some 35, none, .mov (.t 34)⟩,
 ⟨some 36, some (35, false), .mov (.t 4)⟩,
 ⟨some 37, some (35, false), .un .not (.t 36)⟩,
 ⟨some 38, none, .pick (.t 35) (.c (.bool true)) (.t 37)⟩,
 ⟨some 39, none, .mov (.t 38)⟩,
 ⟨some 40, some (39, false), .fa 2 (.t 1)⟩,
 ⟨some 41, some (39, false), .ld none (.t 40)⟩,
 ⟨some 42, some (39, false), .call (.c (.fn (.func 19) [] [])) [(.t 41)]⟩,
 ⟨some 43, some (39, false), .un .not (.t 42)⟩,
 ⟨some 44, none, .pick (.t 39) (.c (.bool true)) (.t 43)⟩,
 ⟨some 45, none, .mov (.t 44)⟩,
 ⟨some 46, some (45, false), .fa 5 (.t 1)⟩,
 ⟨some 47, some (45, false), .ld none (.t 46)⟩,
 ⟨some 48, some (45, false), .call (.c (.fn (.func 18) [] [])) [(.t 47), (.c (.int .u8 32)), (.c (.int .u8 126))]⟩,
 ⟨some 49, some (45, false), .un .not (.t 48)⟩,
 ⟨some 50, none, .pick (.t 45) (.c (.bool true)) (.t 49)⟩,
 ⟨some 51, none, .mov (.t 50)⟩,
 ⟨some 52, some (51, false), .ld (some 6) (.t 1)⟩,
 ⟨some 53, some (51, false), .call (.c (.fn (.func 20) [] [])) [(.t 52)]⟩,
 ⟨some 54, some (51, false), .un .not (.t 53)⟩,
 ⟨some 55, none, .pick (.t 51) (.c (.bool true)) (.t 54)⟩,
 ⟨some 32, none, .mov (.t 55)⟩] (some [32]))
 (.cond (.t 32)
 (.seq
 (.reg [⟨some 2, none, .mov (.c (.int .i64 1))⟩] (some [2]))
 .ret)
 .skip)))))
 (.seq
 (.reg [⟨some 2, none, .mov (.c (.int .i64 0))⟩] (some [2]))
 .ret)))))
theorem is_wireMay : IrOf Tryd.prog 9 56 ir_wireMay [.t 2] := ⟨_, Tryd.func9, rfl, by kernel_rfl, by kernel_rfl, by kernel_rfl⟩

def within (x y : Int) (s : List UInt8) : Bool := s.all fun c => decide (x ≤ c.toNat) && decide ((c.toNat : Int) ≤ y)
def mayP (s : Sq) : Int :=
  if decide ((s.da.length : Int) > 4096) = true then 4
  else if (!(s.pr == 0 || (decide (s.pr ≥ 60) && decide (s.pr ≤ 63))) || !(decide ((s.it.length : Int) ≤ 2) && within 32 47 s.it) || !parsOk s.ps || !within 32 126 s.da || !shapedP s) = true then 1 else 0

set_option maxHeartbeats 2000000 in
theorem fs_May {Gl : Gh → Prop} (hst : Stays Gl) {s : Sq} (hf0 : 0 ≤ s.fi) (hf1 : s.fi < 256) (h1 : s.ps.length < 9223372036854775808) (h2 : ∀ p ∈ s.ps, p.length < 9223372036854775808) (h3 : s.it.length < 9223372036854775808) (h4 : s.da.length < 9223372036854775808) :
    FS Tryd.prog Gl 9 [.agg s.c] [] [] (.int .i64 (mayP s)) [] [] := by
  have c1 := fs_between hst h3 (x := 32) (y := 47) (by omega) (by omega)
  have c2 := fs_listed hst h1 h2
  have c3 := fs_between hst h4 (x := 32) (y := 126) (by omega) (by omega)
  have c4 := fs_shaped hst hf0 hf1
  refine FS.of hm hst is_wireMay (by simp) fun γ hγ hfr => ?_
  have hsp : mayP s = if decide ((s.da.length : Int) > 4096) = true then 4 else if (!(s.pr == 0 || (decide (s.pr ≥ 60) && decide (s.pr ≤ 63))) || !(decide ((s.it.length : Int) ≤ 2) && within 32 47 s.it) || !parsOk s.ps || !within 32 126 s.da || !shapedP s) = true then 1 else 0 := rfl
  rw [hsp]
  change FS _ _ _ _ _ _ (.bool (within 32 47 s.it)) _ _ at c1
  change FS _ _ _ _ _ _ (.bool (within 32 126 s.da)) _ _ at c3
  obtain ⟨k, pr, ps, it, fi, da⟩ := s
  simp only at c1 c2 c3 c4 ⊢
  generalize hp0 : (pr == 0) = p0
  generalize hp1 : decide (pr ≥ 60) = p1
  generalize hp2 : decide (pr ≤ 63) = p2
  generalize hit : decide ((it.length : Int) ≤ 2) = it2
  generalize hda : decide ((da.length : Int) > 4096) = da4
  generalize within 32 47 it = w1 at c1
  generalize within 32 126 da = w2 at c3
  generalize parsOk ps = pk at c2
  generalize shapedP _ = sh at c4
  simp only [Sq.c] at c4 ⊢
  have cl : AV.closedL [AV.int .i64 k, .int .u8 pr, parsV ps, .str it, .int .u8 fi, .str da] = true := rfl
  (generalize hQ : (fun (ex : Ex) (_ _ : Nat) (s : St) => _) = Q; unfold ir_wireMay)
  simp +contextual (maxSteps := 1000000) only [hp0, hp1, hp2, hit, hda, go_sem, reduceCtorEq, ↓reduceIte, Nat.reduceAdd, Nat.reduceEqDiff]
  generalize (p0 || p1 && p2) = b0 at hQ ⊢
  (refine kGc_call (c1) (fun _ => rfl) (fun hgc => ?_) ?_; (focus (first | (rw [Bool.not_eq_true'] at hgc; simp only [List.map_cons, List.map_nil, List.nil_append, List.append_nil, List.cons_append, Xev_t, Xev_c, upd_app, lf_cons, lf_nil, Nat.reduceEqDiff, ↓reduceIte, hgc, Bool.false_eq_true, Bool.true_eq_false, reduceCtorEq]; done) | (simp only [List.map_cons, List.map_nil, List.nil_append, List.append_nil, List.cons_append, Xev_t, Xev_c, upd_app, lf_cons, lf_nil, Nat.reduceEqDiff, ↓reduceIte, hgc, Bool.false_eq_true, Bool.true_eq_false, reduceCtorEq]; done) | (revert hgc; simp +contextual [Xev_t, Xev_c, upd_app, lf_cons, lf_nil]; done) | simp [Xev_t, Xev_c, upd_app, lf_cons, lf_nil])); simp +contextual (maxSteps := 1000000) only [hp0, hp1, hp2, hit, hda, go_sem, reduceCtorEq, ↓reduceIte, Nat.reduceAdd, Nat.reduceEqDiff])
  generalize (it2 && w1) = b1 at hQ ⊢
  cases da4
  · simp +contextual (maxSteps := 1000000) only [go_sem, reduceCtorEq, ↓reduceIte, Nat.reduceAdd, Nat.reduceEqDiff]
    (refine kGc_call (c2) (fun _ => rfl) (fun hgc => ?_) ?_; (focus (first | (rw [Bool.not_eq_true'] at hgc; simp only [List.map_cons, List.map_nil, List.nil_append, List.append_nil, List.cons_append, Xev_t, Xev_c, upd_app, lf_cons, lf_nil, Nat.reduceEqDiff, ↓reduceIte, hgc, Bool.false_eq_true, Bool.true_eq_false, reduceCtorEq]; done) | (simp only [List.map_cons, List.map_nil, List.nil_append, List.append_nil, List.cons_append, Xev_t, Xev_c, upd_app, lf_cons, lf_nil, Nat.reduceEqDiff, ↓reduceIte, hgc, Bool.false_eq_true, Bool.true_eq_false, reduceCtorEq]; done) | (revert hgc; simp +contextual [Xev_t, Xev_c, upd_app, lf_cons, lf_nil]; done) | simp [Xev_t, Xev_c, upd_app, lf_cons, lf_nil])); simp +contextual (maxSteps := 1000000) only [hp0, go_sem, reduceCtorEq, ↓reduceIte, Nat.reduceAdd, Nat.reduceEqDiff])
    (refine kGc_call (c3) (fun _ => rfl) (fun hgc => ?_) ?_; (focus (first | (rw [Bool.not_eq_true'] at hgc; simp only [List.map_cons, List.map_nil, List.nil_append, List.append_nil, List.cons_append, Xev_t, Xev_c, upd_app, lf_cons, lf_nil, Nat.reduceEqDiff, ↓reduceIte, hgc, Bool.false_eq_true, Bool.true_eq_false, reduceCtorEq]; done) | (simp only [List.map_cons, List.map_nil, List.nil_append, List.append_nil, List.cons_append, Xev_t, Xev_c, upd_app, lf_cons, lf_nil, Nat.reduceEqDiff, ↓reduceIte, hgc, Bool.false_eq_true, Bool.true_eq_false, reduceCtorEq]; done) | (revert hgc; simp +contextual [Xev_t, Xev_c, upd_app, lf_cons, lf_nil]; done) | simp [Xev_t, Xev_c, upd_app, lf_cons, lf_nil])); simp +contextual (maxSteps := 1000000) only [hp0, go_sem, reduceCtorEq, ↓reduceIte, Nat.reduceAdd, Nat.reduceEqDiff])
    (refine kGc_call (c4) (fun _ => rfl) (fun hgc => ?_) ?_; (focus (first | (rw [Bool.not_eq_true'] at hgc; simp only [List.map_cons, List.map_nil, List.nil_append, List.append_nil, List.cons_append, Xev_t, Xev_c, upd_app, lf_cons, lf_nil, Nat.reduceEqDiff, ↓reduceIte, hgc, Bool.false_eq_true, Bool.true_eq_false, reduceCtorEq]; done) | (simp only [List.map_cons, List.map_nil, List.nil_append, List.append_nil, List.cons_append, Xev_t, Xev_c, upd_app, lf_cons, lf_nil, Nat.reduceEqDiff, ↓reduceIte, hgc, Bool.false_eq_true, Bool.true_eq_false, reduceCtorEq]; done) | (revert hgc; simp +contextual [Xev_t, Xev_c, upd_app, lf_cons, lf_nil]; done) | simp [Xev_t, Xev_c, upd_app, lf_cons, lf_nil])); simp +contextual (maxSteps := 1000000) only [hp0, go_sem, reduceCtorEq, ↓reduceIte, Nat.reduceAdd, Nat.reduceEqDiff])
    cases hb : (!b0 || !b1 || !pk || !w2 || !sh) <;> rw [hb] at hQ <;> simp +contextual (maxSteps := 1000000) only [hb, go_sem, reduceCtorEq, ↓reduceIte, Nat.reduceAdd, Nat.reduceEqDiff] <;> rw [← hQ] <;> exact ⟨trivial, Ret.flat rfl rfl⟩
  · simp +contextual (maxSteps := 1000000) only [go_sem, reduceCtorEq, ↓reduceIte, Nat.reduceAdd, Nat.reduceEqDiff]
    rw [← hQ]; exact ⟨trivial, Ret.flat rfl rfl⟩
end Go.Proofs.YtcdkcfpgdbjogaaDoor

namespace Go.Proofs.YtcdkcfpgdbjogaaDoor
open Go Go.Ab
/- clavier/clavierref03.params -/
def ir_clavierref03params_l0 : ICode :=
 (.seq
 (.seq
 (.reg [⟨some 48, none, .mov (.t 4)⟩,
 ⟨some 49, none, .mov (.t 0)⟩,
 ⟨some 50, none, .mov (.t 3)⟩,
 ⟨some 51, none, .ia 1 (.t 49) (.t 50)⟩,
 ⟨some 52, none, .ld none (.t 51)⟩,
 ⟨some 53, none, .len (.t 52)⟩,
 ⟨some 54, none, .bin .lss .none (.t 48) (.t 53)⟩] (some [0, 3, 4, 54]))
 (.cond (.t 54)
 .skip
 (.exit 2)))
 (.seq
 (.blk 3
 (.seq
 (.reg [⟨some 57, none, .mov (.t 0)⟩,
 ⟨some 58, none, .mov (.t 3)⟩,
 ⟨some 59, none, .ia 1 (.t 57) (.t 58)⟩,
 ⟨some 60, none, .ld none (.t 59)⟩,
 ⟨some 61, none, .mov (.t 4)⟩,
 ⟨some 62, none, .ia 1 (.t 60) (.t 61)⟩,
 ⟨some 63, none, .ld none (.t 62)⟩,
 ⟨some 64, none, .bin .lss .none (.t 63) (.c (.int .i64 (-1)))⟩,
 ⟨some 65, none, .mov (.t 64)⟩,
 ⟨some 66, some (65, false), .mov (.t 0)⟩,
 ⟨some 67, some (65, false), .mov (.t 3)⟩,
 ⟨some 68, some (65, false), .ia 1 (.t 66) (.t 67)⟩,
 ⟨some 69, some (65, false), .ld none (.t 68)⟩,
 ⟨some 70, some (65, false), .mov (.t 4)⟩,
 ⟨some 71, some (65, false), .ia 1 (.t 69) (.t 70)⟩,
 ⟨some 72, some (65, false), .ld none (.t 71)⟩,
 ⟨some 73, some (65, false), .bin .gtr .none (.t 72) (.c (.int .i64 1114111))⟩,
 ⟨some 74, none, .pick (.t 65) (.c (.bool true)) (.t 73)⟩] (some [0, 3, 4, 74]))
 (.cond (.t 74)
 (.seq
 (.reg [⟨some 2, none, .mov (.c (.bool false))⟩] (some [2]))
 .ret)
 .skip)))
 (.reg [⟨some 55, none, .mov (.t 4)⟩,
 ⟨some 56, none, .bin .add .none (.t 55) (.c (.int .i64 1))⟩,
 ⟨some 4, none, .mov (.t 56)⟩] (some [0, 3, 4]))))
def ir_clavierref03params_l1 : ICode :=
 (.seq
 (.seq
 (.reg [⟨some 28, none, .mov (.t 3)⟩,
 ⟨some 29, none, .mov (.t 0)⟩,
 ⟨some 30, none, .len (.t 29)⟩,
 ⟨some 31, none, .bin .lss .none (.t 28) (.t 30)⟩] (some [0, 3, 31]))
 (.cond (.t 31)
 .skip
 (.exit 0)))
 (.seq
 (.blk 1
 (.seq
 (.seq
 (.reg [⟨some 34, none, .mov (.t 0)⟩,
 ⟨some 35, none, .mov (.t 3)⟩,
 ⟨some 36, none, .ia 1 (.t 34) (.t 35)⟩,
 ⟨some 37, none, .ld none (.t 36)⟩,
 ⟨some 38, none, .len (.t 37)⟩,
 ⟨some 39, none, .bin .lss .none (.t 38) (.c (.int .i64 1))⟩,
 ⟨some 40, none, .mov (.t 39)⟩,
 ⟨some 41, some (40, false), .mov (.t 0)⟩,
 ⟨some 42, some (40, false), .mov (.t 3)⟩,
 ⟨some 43, some (40, false), .ia 1 (.t 41) (.t 42)⟩,
 ⟨some 44, some (40, false), .ld none (.t 43)⟩,
 ⟨some 45, some (40, false), .len (.t 44)⟩,
 ⟨some 46, some (40, false), .bin .gtr .none (.t 45) (.c (.int .i64 8))⟩,
 ⟨some 47, none, .pick (.t 40) (.c (.bool true)) (.t 46)⟩] (some [0, 3, 47]))
 (.cond (.t 47)
 (.seq
 (.reg [⟨some 2, none, .mov (.c (.bool false))⟩] (some [2]))
 .ret)
 .skip))
 (.seq
 (.reg [⟨some 4, none, .mov (.c (.int .i64 0))⟩] (some [0, 3, 4]))
 (.blk 2
 (.loop
 ir_clavierref03params_l0)))))
 (.reg [⟨some 32, none, .mov (.t 3)⟩,
 ⟨some 33, none, .bin .add .none (.t 32) (.c (.int .i64 1))⟩,
 ⟨some 3, none, .mov (.t 33)⟩] (some [0, 3]))))
def ir_clavierref03params_t3 : ICode :=
 (.seq
 (.reg [⟨some 2, none, .mov (.c (.bool true))⟩] (some [2]))
 .ret)
def ir_clavierref03params_t2 : ICode :=
 (.seq
 (.seq
 (.reg [⟨some 3, none, .mov (.c (.int .i64 0))⟩] (some [0, 3]))
 (.blk 0
 (.loop
 ir_clavierref03params_l1)))
 ir_clavierref03params_t3)
def ir_clavierref03params_t1 : ICode :=
 (.seq
 (.seq
 (.reg [⟨some 5, none, .mov (.t 0)⟩,
 ⟨some 6, none, .len (.t 5)⟩,
 ⟨some 7, none, .bin .gtr .none (.t 6) (.c (.int .i64 16))⟩,
 ⟨some 8, none, .mov (.t 7)⟩,
 ⟨some 9, some (8, false), .mov (.t 0)⟩,
 ⟨some 10, some (8, false), .len (.t 9)⟩,
 ⟨some 11, some (8, false), .bin .eql .none (.t 10) (.c (.int .i64 1))⟩,
 ⟨some 12, some (8, false), .mov (.t 11)⟩,
 ⟨some 13, some (12, true), .mov (.t 0)⟩,
 ⟨some 14, some (12, true), .ia 1 (.t 13) (.c (.int .i64 0))⟩,
 ⟨some 15, some (12, true), .ld none (.t 14)⟩,
 ⟨some 16, some (12, true), .len (.t 15)⟩,
 ⟨some 17, some (12, true), .bin .eql .none (.t 16) (.c (.int .i64 1))⟩,
 ⟨some 18, some (8, false), .pick (.t 12) (.t 17) (.c (.bool false))⟩,
 ⟨some 19, some (8, false), .mov (.t 18)⟩,
 ⟨some 20, some (19, true), .mov (.t 0)⟩,
 ⟨some 21, some (19, true), .ia 1 (.t 20) (.c (.int .i64 0))⟩,
 ⟨some 22, some (19, true), .ld none (.t 21)⟩,
 ⟨some 23, some (19, true), .ia 1 (.t 22) (.c (.int .i64 0))⟩,
 ⟨some 24, some (19, true), .ld none (.t 23)⟩,
 ⟨some 25, some (19, true), .bin .eql .none (.t 24) (.c (.int .i64 (-1)))⟩,
 ⟨some 26, some (8, false), .pick (.t 19) (.t 25) (.c (.bool false))⟩,
 ⟨some 27, none, .pick (.t 8) (.c (.bool true)) (.t 26)⟩] (some [0, 27]))
 (.cond (.t 27)
 (.seq
 (.reg [⟨some 2, none, .mov (.c (.bool false))⟩] (some [2]))
 .ret)
 .skip))
 ir_clavierref03params_t2)
def ir_clavierref03params : ICode :=
 (.seq
 (.reg [⟨some 2, none, .mov (.c (.bool false))⟩] (some [0]))
 ir_clavierref03params_t1)
theorem is_clavierref03params : IrOf Tryd.prog 21 75 ir_clavierref03params [.t 2] := ⟨_, Tryd.func21, rfl, by kernel_rfl, by kernel_rfl, by kernel_rfl⟩

def subBad (n : Int) : Bool := decide (n < -1) || decide (n > 1114111)
theorem parBad_eq (p : List Int) : parBad p = (p.any subBad || (decide (p.length < 1) || decide (p.length > 8))) := rfl
set_option maxHeartbeats 1000000 in
theorem fs_rParams {Gl : Gh → Prop} (hst : Stays Gl) {l : List (List Int)} (ha : l.length < 9223372036854775808) (hb : ∀ p ∈ l, p.length < 9223372036854775808) : FS Tryd.prog Gl 21 [parsV l] [] [] (.bool (parsOk l)) [] [] := by
  refine FS.of hm hst is_clavierref03params (by simp) fun γ hγ hfr => ?_
  (generalize hQ : (fun (ex : Ex) (_ _ : Nat) (s : St) => _) = Q; unfold ir_clavierref03params)
  simp only [parsV]
  simp +contextual (maxSteps := 1000000) only [go_sem, reduceCtorEq, ↓reduceIte, Nat.reduceAdd, Nat.reduceEqDiff, Nat.reduceLeDiff, Nat.reduceMul, Nat.reduceBEq, Int.reduceBEq, Int.reduceBNe, Int.reduceLT, Int.reduceLE, Int.reduceGT, Int.reduceGE, Int.reduceToNat]
  unfold ir_clavierref03params_t1
  have i1 : decide ((l.length : Int) > 16) = decide (l.length > 16) := by rw [decide_eq_decide]; omega
  have i2 : ((l.length : Int) == 1) = decide (l.length = 1) := by rw [Bool.eq_iff_iff]; simp; omega
  have loop : ∀ F c, lfOK [] F [(0, .sl none 1 (parsAV l)), (3, .int .i64 0)] → decide (l.length > 16) = false → decide (l = [[-1]]) = false → kLoop Tryd.prog Gl ir_clavierref03params_l1 γ c ⟨F, [], fun x => x ∈ []⟩ (kBlk 0 (kSeq Tryd.prog Gl ir_clavierref03params_t3 Q)) := by
    intro F c hF e1 e2
    refine kLoop_ix (fun i : Nat => ⟨lf [(0, .sl none 1 (parsAV l)), (3, .int .i64 i)], [], fun x => x ∈ []⟩) (fun i => i ≤ l.length ∧ l.any parBad = (l.drop i).any parBad) (fun i => l.length - i) 0 0 (Wk.same hF) (by simp) ?_
    rintro γ' i hf ⟨hi, hinv⟩
    generalize hQ' : kIt _ _ _ _ _ = Q'
    unfold ir_clavierref03params_l1
    by_cases hlt : i < l.length
    · have hd : decide ((i : Int) < (l.length : Int)) = true := by simp; omega
      have hg1 : (parsAV l).getD i [] = [intsV l[i]] := parsAV_get hlt
      have hdrop : l.drop i = l[i] :: l.drop (i + 1) := List.drop_eq_getElem_cons hlt
      have hpl := hb _ (List.getElem_mem hlt)
      have hw : IntKind.i64.wrap ((i : Int) + 1) = ((i + 1 : Nat) : Int) := by rw [IntKind.wrap_i64]; omega
      rw [hdrop, List.any_cons] at hinv
      generalize l[i] = p at hg1 hinv hpl
      have i3 : decide ((p.length : Int) < 1) = decide (p.length < 1) := by rw [decide_eq_decide]; omega
      have i4 : decide ((p.length : Int) > 8) = decide (p.length > 8) := by rw [decide_eq_decide]; omega
      simp +contextual (maxSteps := 1000000) only [hd, hg1, parsAV_length, Int.toNat_natCast, intsV, intsAV_length, i3, i4, go_sem, reduceCtorEq, ↓reduceIte, Nat.reduceAdd, Nat.reduceEqDiff, Nat.reduceLeDiff, Nat.reduceMul, Nat.reduceBEq, Int.reduceBEq, Int.reduceBNe, Int.reduceLT, Int.reduceLE, Int.reduceGT, Int.reduceGE, Int.reduceToNat]
      refine ⟨by omega, by omega, ?_⟩
      refine kCond_split (fun h => ?_) (fun h => ?_)
      · simp +contextual (maxSteps := 1000000) only [go_sem, reduceCtorEq, ↓reduceIte, Nat.reduceAdd, Nat.reduceEqDiff, Nat.reduceLeDiff, Nat.reduceMul, Nat.reduceBEq, Int.reduceBEq, Int.reduceBNe, Int.reduceLT, Int.reduceLE, Int.reduceGT, Int.reduceGE, Int.reduceToNat]
        rw [← hQ']
        simp only [w_kIt_r, w_kBlk_r, w_kSeq_r]
        rw [← hQ]
        refine ⟨trivial, Ret.flat ?_ rfl⟩
        have e : parBad p = true := by rw [parBad_eq, h, Bool.or_true]
        have : parsOk l = false := by simp only [parsOk, hinv, e, Bool.true_or, Bool.not_true, Bool.and_false]
        rw [this]; rfl
      · have h' : p.any subBad = parBad p := by
          rw [parBad_eq]
          rw [h, Bool.or_false]
        simp +contextual (maxSteps := 1000000) only [go_sem, reduceCtorEq, ↓reduceIte, Nat.reduceAdd, Nat.reduceEqDiff, Nat.reduceLeDiff, Nat.reduceMul, Nat.reduceBEq, Int.reduceBEq, Int.reduceBNe, Int.reduceLT, Int.reduceLE, Int.reduceGT, Int.reduceGE, Int.reduceToNat]
        refine kLoop_ix (fun k : Nat => ⟨lf [(0, .sl none 1 (parsAV l)), (3, .int .i64 i), (4, .int .i64 k)], [], fun x => x ∈ []⟩) (fun k => k ≤ p.length ∧ p.any subBad = (p.drop k).any subBad) (fun k => p.length - k) 0 0 (Wk.same ?_) (by simp) ?_
        · (simp only [lfOK, upd, initF]; repeat' first | exact AVle.refl _ _ | exact trivial | refine And.intro ?_ ?_ | exact AVle.int (by simp only [IntKind.wrap_i64]; omega))
        rintro γ2 k hf2 ⟨hk, hinv2⟩
        generalize hQ2 : kIt _ _ _ _ _ = Q2
        unfold ir_clavierref03params_l0
        by_cases hlt2 : k < p.length
        · have hd2 : decide ((k : Int) < (p.length : Int)) = true := by simp; omega
          have hg2 : (intsAV p).getD k [] = [.int .i64 p[k]] := intsAV_get hlt2
          have hdrop2 : p.drop k = p[k] :: p.drop (k + 1) := List.drop_eq_getElem_cons hlt2
          have hw2 : IntKind.i64.wrap ((k : Int) + 1) = ((k + 1 : Nat) : Int) := by rw [IntKind.wrap_i64]; omega
          rw [hdrop2, List.any_cons] at hinv2
          generalize p[k] = x at hg2 hinv2
          simp +contextual (maxSteps := 1000000) only [hd2, hg1, hg2, parsAV_length, Int.toNat_natCast, intsV, intsAV_length, go_sem, reduceCtorEq, ↓reduceIte, Nat.reduceAdd, Nat.reduceEqDiff, Nat.reduceLeDiff, Nat.reduceMul, Nat.reduceBEq, Int.reduceBEq, Int.reduceBNe, Int.reduceLT, Int.reduceLE, Int.reduceGT, Int.reduceGE, Int.reduceToNat]
          refine ⟨by omega, by omega, by omega, fun _ => by omega, fun _ => by omega, ?_⟩
          refine kCond_split (fun h2 => ?_) (fun h2 => ?_)
          · simp +contextual (maxSteps := 1000000) only [go_sem, reduceCtorEq, ↓reduceIte, Nat.reduceAdd, Nat.reduceEqDiff, Nat.reduceLeDiff, Nat.reduceMul, Nat.reduceBEq, Int.reduceBEq, Int.reduceBNe, Int.reduceLT, Int.reduceLE, Int.reduceGT, Int.reduceGE, Int.reduceToNat]
            rw [← hQ2]
            simp only [w_kIt_r, w_kBlk_r, w_kSeq_r]
            rw [← hQ']
            simp only [w_kIt_r, w_kBlk_r, w_kSeq_r]
            rw [← hQ]
            refine ⟨trivial, Ret.flat ?_ rfl⟩
            have e : parBad p = true := by rw [← h', hinv2, subBad, h2, Bool.true_or]
            have : parsOk l = false := by simp only [parsOk, hinv, e, Bool.true_or, Bool.not_true, Bool.and_false]
            rw [this]; rfl
          · simp +contextual (maxSteps := 1000000) only [hw2, go_sem, reduceCtorEq, ↓reduceIte, Nat.reduceAdd, Nat.reduceEqDiff, Nat.reduceLeDiff, Nat.reduceMul, Nat.reduceBEq, Int.reduceBEq, Int.reduceBNe, Int.reduceLT, Int.reduceLE, Int.reduceGT, Int.reduceGE, Int.reduceToNat]
            rw [← hQ2]
            simp only [w_kIt_n]
            refine ⟨0, k + 1, Wk.same ?_, ⟨by omega, ?_⟩, by omega⟩
            · repeat' first | exact AVle.refl _ _ | exact trivial | refine And.intro ?_ ?_ | exact AVle.int (by simp only [IntKind.wrap_i64]; omega)
            · rw [hinv2, subBad, h2, Bool.false_or]
        · have hd2 : decide ((k : Int) < (p.length : Int)) = false := by simp; omega
          simp +contextual (maxSteps := 1000000) only [hd2, hg1, parsAV_length, Int.toNat_natCast, intsV, intsAV_length, go_sem, reduceCtorEq, ↓reduceIte, Nat.reduceAdd, Nat.reduceEqDiff, Nat.reduceLeDiff, Nat.reduceMul, Nat.reduceBEq, Int.reduceBEq, Int.reduceBNe, Int.reduceLT, Int.reduceLE, Int.reduceGT, Int.reduceGE, Int.reduceToNat]
          refine ⟨by omega, ?_⟩
          rw [← hQ2]
          simp only [w_kIt_e, w_kBlk_e, ↓reduceIte]
          simp +contextual (maxSteps := 1000000) only [hw, go_sem, reduceCtorEq, ↓reduceIte, Nat.reduceAdd, Nat.reduceEqDiff, Nat.reduceLeDiff, Nat.reduceMul, Nat.reduceBEq, Int.reduceBEq, Int.reduceBNe, Int.reduceLT, Int.reduceLE, Int.reduceGT, Int.reduceGE, Int.reduceToNat]
          rw [← hQ']
          simp only [w_kIt_n]
          refine ⟨0, i + 1, Wk.same ?_, ⟨by omega, ?_⟩, by omega⟩
          · repeat' first | exact AVle.refl _ _ | exact trivial | refine And.intro ?_ ?_ | exact AVle.int (by simp only [IntKind.wrap_i64]; omega)
          · rw [List.drop_of_length_le (by omega), List.any_nil] at hinv2
            rw [hinv, ← h', hinv2, Bool.false_or]
    · have hd : decide ((i : Int) < (l.length : Int)) = false := by simp; omega
      simp +contextual (maxSteps := 1000000) only [hd, parsAV_length, go_sem, reduceCtorEq, ↓reduceIte, Nat.reduceAdd, Nat.reduceEqDiff, Nat.reduceLeDiff, Nat.reduceMul, Nat.reduceBEq, Int.reduceBEq, Int.reduceBNe, Int.reduceLT, Int.reduceLE, Int.reduceGT, Int.reduceGE, Int.reduceToNat]
      rw [← hQ']
      simp only [w_kIt_e, w_kBlk_e, ↓reduceIte]
      simp +contextual (maxSteps := 1000000) only [go_sem, reduceCtorEq, ↓reduceIte, Nat.reduceAdd, Nat.reduceEqDiff, Nat.reduceLeDiff, Nat.reduceMul, Nat.reduceBEq, Int.reduceBEq, Int.reduceBNe, Int.reduceLT, Int.reduceLE, Int.reduceGT, Int.reduceGE, Int.reduceToNat]
      unfold ir_clavierref03params_t3
      simp +contextual (maxSteps := 1000000) only [go_sem, reduceCtorEq, ↓reduceIte, Nat.reduceAdd, Nat.reduceEqDiff, Nat.reduceLeDiff, Nat.reduceMul, Nat.reduceBEq, Int.reduceBEq, Int.reduceBNe, Int.reduceLT, Int.reduceLE, Int.reduceGT, Int.reduceGE, Int.reduceToNat]
      rw [← hQ]
      refine ⟨trivial, Ret.flat ?_ rfl⟩
      have : parsOk l = true := by
        rw [List.drop_of_length_le (by omega)] at hinv
        simp only [parsOk, hinv, e1, e2, Bool.or_false, Bool.not_false, List.any_nil, Bool.and_self]
      rw [this]; rfl
  have i5 : ∀ n : Nat, (((n + 1 + 1 : Nat) : Int) == 1) = false := fun n => by simp; omega
  have go : ∀ F c, F 0 = .sl none 1 (parsAV l) → decide (l.length > 16) = false → decide (l = [[-1]]) = false → aw Tryd.prog Gl ir_clavierref03params_t2 γ c ⟨F, [], fun x => x ∈ []⟩ Q := fun F c h0 e1 e2 => by
    unfold ir_clavierref03params_t2
    simp +contextual (maxSteps := 1000000) only [h0, go_sem, reduceCtorEq, ↓reduceIte, Nat.reduceAdd, Nat.reduceEqDiff, Nat.reduceLeDiff, Nat.reduceMul, Nat.reduceBEq, Int.reduceBEq, Int.reduceBNe, Int.reduceLT, Int.reduceLE, Int.reduceGT, Int.reduceGE, Int.reduceToNat]
    refine loop _ _ ?_ e1 e2
    (simp only [lfOK, upd, initF]; repeat' first | exact AVle.refl _ _ | exact trivial | refine And.intro ?_ ?_ | exact AVle.int (by simp only [IntKind.wrap_i64]; omega))
  clear loop
  have no : parsOk l = false → ∀ γ c F, F 2 = .bool false → Q .ret γ c ⟨F, [], fun x => x ∈ []⟩ := fun h γ c F h2 => by
    rw [← hQ, h]
    exact ⟨trivial, Ret.flat (by simp only [resOf, getAll, IRes.get, h2]) rfl⟩
  match l, go, no with
  | [], go, no =>
    simp +contextual (maxSteps := 1000000) only [parsAV, List.map_nil, go_sem, reduceCtorEq, ↓reduceIte, Nat.reduceAdd, Nat.reduceEqDiff, Nat.reduceLeDiff, Nat.reduceMul, Nat.reduceBEq, Int.reduceBEq, Int.reduceBNe, Int.reduceLT, Int.reduceLE, Int.reduceGT, Int.reduceGE, Int.reduceToNat]
    exact go _ _ rfl rfl rfl
  | [[]], go, no =>
    simp +contextual (maxSteps := 1000000) only [parsAV, intsV, intsAV, List.map_nil, List.map_cons, Int.zero_add, go_sem, reduceCtorEq, ↓reduceIte, Nat.reduceAdd, Nat.reduceEqDiff, Nat.reduceLeDiff, Nat.reduceMul, Nat.reduceBEq, Int.reduceBEq, Int.reduceBNe, Int.reduceLT, Int.reduceLE, Int.reduceGT, Int.reduceGE, Int.reduceToNat]
    exact go _ _ rfl rfl rfl
  | [[n]], go, no =>
    simp +contextual (maxSteps := 1000000) only [parsAV, intsV, intsAV, List.map_nil, List.map_cons, Int.zero_add, go_sem, reduceCtorEq, ↓reduceIte, Nat.reduceAdd, Nat.reduceEqDiff, Nat.reduceLeDiff, Nat.reduceMul, Nat.reduceBEq, Int.reduceBEq, Int.reduceBNe, Int.reduceLT, Int.reduceLE, Int.reduceGT, Int.reduceGE, Int.reduceToNat]
    refine kCond_split (fun h => ?_) (fun h => ?_)
    · simp +contextual (maxSteps := 1000000) only [go_sem, reduceCtorEq, ↓reduceIte, Nat.reduceAdd, Nat.reduceEqDiff, Nat.reduceLeDiff, Nat.reduceMul, Nat.reduceBEq, Int.reduceBEq, Int.reduceBNe, Int.reduceLT, Int.reduceLE, Int.reduceGT, Int.reduceGE, Int.reduceToNat]
      refine no ?_ _ _ _ rfl
      have : n = -1 := by simpa using h
      subst this; rfl
    · simp +contextual (maxSteps := 1000000) only [go_sem, reduceCtorEq, ↓reduceIte, Nat.reduceAdd, Nat.reduceEqDiff, Nat.reduceLeDiff, Nat.reduceMul, Nat.reduceBEq, Int.reduceBEq, Int.reduceBNe, Int.reduceLT, Int.reduceLE, Int.reduceGT, Int.reduceGE, Int.reduceToNat]
      have h2 : decide ([[n]] = [[-1]]) = false := by simpa using h
      exact go _ _ rfl rfl h2
  | [n :: m :: p], go, no =>
    simp +contextual (maxSteps := 1000000) only [parsAV, intsV, intsAV, List.map_nil, List.map_cons, Int.zero_add, i5, Bool.false_and, Bool.and_false, go_sem, reduceCtorEq, ↓reduceIte, Nat.reduceAdd, Nat.reduceEqDiff, Nat.reduceLeDiff, Nat.reduceMul, Nat.reduceBEq, Int.reduceBEq, Int.reduceBNe, Int.reduceLT, Int.reduceLE, Int.reduceGT, Int.reduceGE, Int.reduceToNat]
    exact go _ _ rfl rfl (by simp)
  | p :: q :: l, go, no =>
    have i6 : decide (((l.length + 1 + 1 : Nat) : Int) > 16) = decide ((p :: q :: l).length > 16) := by rw [decide_eq_decide, List.length_cons, List.length_cons]; omega
    simp +contextual (maxSteps := 1000000) only [parsAV, intsV, intsAV, List.map_nil, List.map_cons, List.length_map, Int.zero_add, i5, i6, Bool.false_and, Bool.and_false, go_sem, reduceCtorEq, ↓reduceIte, Nat.reduceAdd, Nat.reduceEqDiff, Nat.reduceLeDiff, Nat.reduceMul, Nat.reduceBEq, Int.reduceBEq, Int.reduceBNe, Int.reduceLT, Int.reduceLE, Int.reduceGT, Int.reduceGE, Int.reduceToNat]
    refine kCond_split (fun h => ?_) (fun h => ?_)
    · simp +contextual (maxSteps := 1000000) only [go_sem, reduceCtorEq, ↓reduceIte, Nat.reduceAdd, Nat.reduceEqDiff, Nat.reduceLeDiff, Nat.reduceMul, Nat.reduceBEq, Int.reduceBEq, Int.reduceBNe, Int.reduceLT, Int.reduceLE, Int.reduceGT, Int.reduceGE, Int.reduceToNat]
      refine no ?_ _ _ _ rfl
      simp only [parsOk, List.length_cons, h, Bool.true_or, Bool.not_true, Bool.false_and]
    · simp +contextual (maxSteps := 1000000) only [go_sem, reduceCtorEq, ↓reduceIte, Nat.reduceAdd, Nat.reduceEqDiff, Nat.reduceLeDiff, Nat.reduceMul, Nat.reduceBEq, Int.reduceBEq, Int.reduceBNe, Int.reduceLT, Int.reduceLE, Int.reduceGT, Int.reduceGE, Int.reduceToNat]
      exact go _ _ rfl h (by simp)
end Go.Proofs.YtcdkcfpgdbjogaaDoor

namespace Go.Proofs.YtcdkcfpgdbjogaaDoor
open Go Go.Ab
def ir_clavierref03last : ICode :=
 (.seq
 (.reg [⟨some 1, none, .box 24 (.t 0)⟩,
 ⟨some 2, none, .mov (.c (.bool false))⟩] (some [1]))
 (.seq
 (.seq
 (.reg [⟨some 4, none, .fa 0 (.t 1)⟩,
 ⟨some 5, none, .ld none (.t 4)⟩] (some [1, 5]))
 (.blk 0
 (.seq
 (.seq
 (.reg [⟨some 7, none, .bin .eql .none (.t 5) (.c (.int .i64 1))⟩,
 ⟨some 6, none, .mov (.t 7)⟩] (some [1, 5, 6]))
 (.cond (.t 6)
 .skip
 (.seq
 (.reg [⟨some 8, none, .bin .eql .none (.t 5) (.c (.int .i64 2))⟩,
 ⟨some 6, none, .mov (.t 8)⟩] (some [1, 5, 6]))
 (.cond (.t 6)
 .skip
 (.reg [⟨some 9, none, .bin .eql .none (.t 5) (.c (.int .i64 3))⟩,
 ⟨some 6, none, .mov (.t 9)⟩] (some [1, 5, 6]))))))
 (.cond (.t 6)
 (.seq
 (.reg [⟨some 10, none, .fa 4 (.t 1)⟩,
 ⟨some 11, none, .ld none (.t 10)⟩,
 ⟨some 12, none, .bin .geq .none (.t 11) (.c (.int .u8 64))⟩,
 ⟨some 13, none, .mov (.t 12)⟩,
 ⟨some 14, some (13, true), .fa 4 (.t 1)⟩,
 ⟨some 15, some (13, true), .ld none (.t 14)⟩,
 ⟨some 16, some (13, true), .bin .leq .none (.t 15) (.c (.int .u8 126))⟩,
 ⟨some 17, none, .pick (.t 13) (.t 16) (.c (.bool false))⟩,
 ⟨some 2, none, .mov (.t 17)⟩] (some [2]))
 .ret)
 (.seq
 (.reg [⟨some 19, none, .bin .eql .none (.t 5) (.c (.int .i64 5))⟩,
 ⟨some 18, none, .mov (.t 19)⟩] (some [1, 18]))
 (.cond (.t 18)
 (.seq
 (.seq
 (.reg [⟨some 20, none, .fa 4 (.t 1)⟩,
 ⟨some 21, none, .ld none (.t 20)⟩,
 ⟨some 22, none, .bin .lss .none (.t 21) (.c (.int .u8 48))⟩,
 ⟨some 23, none, .mov (.t 22)⟩,
 ⟨some 24, some (23, false), .fa 4 (.t 1)⟩,
 ⟨some 25, some (23, false), .ld none (.t 24)⟩,
 ⟨some 26, some (23, false), .bin .gtr .none (.t 25) (.c (.int .u8 126))⟩,
 ⟨some 27, none, .pick (.t 23) (.c (.bool true)) (.t 26)⟩] (some [1, 27]))
 (.cond (.t 27)
 (.seq
 (.reg [⟨some 2, none, .mov (.c (.bool false))⟩] (some [2]))
 .ret)
 .skip))
 (.seq
 (.reg [⟨some 28, none, .fa 4 (.t 1)⟩,
 ⟨some 29, none, .ld none (.t 28)⟩,
 ⟨some 3, none, .mov (.t 29)⟩] (some [1, 3]))
 (.seq
 (.reg [⟨some 30, none, .fa 3 (.t 1)⟩,
 ⟨some 31, none, .ld none (.t 30)⟩,
 ⟨some 32, none, .lns (.t 31)⟩,
 ⟨some 33, none, .bin .gtr .none (.t 32) (.c (.int .i64 0))⟩,
 ⟨some 34, none, .mov (.t 33)⟩,
 ⟨some 35, some (34, false), .mov (.t 3)⟩,
 ⟨some 36, some (34, false), .bin .neq .none (.t 35) (.c (.int .u8 79))⟩,
 ⟨some 37, some (34, false), .mov (.t 36)⟩,
 ⟨some 38, some (37, true), .mov (.t 3)⟩,
 ⟨some 39, some (37, true), .bin .neq .none (.t 38) (.c (.int .u8 80))⟩,
 ⟨some 40, some (34, false), .pick (.t 37) (.t 39) (.c (.bool false))⟩,
 ⟨some 41, some (34, false), .mov (.t 40)⟩,
 ⟨some 42, some (41, true), .mov (.t 3)⟩,
 ⟨some 43, some (41, true), .bin .neq .none (.t 42) (.c (.int .u8 88))⟩,
 ⟨some 44, some (34, false), .pick (.t 41) (.t 43) (.c (.bool false))⟩,
 ⟨some 45, some (34, false), .mov (.t 44)⟩,
 ⟨some 46, some (45, true), .mov (.t 3)⟩,
 ⟨some 47, some (45, true), .bin .neq .none (.t 46) (.c (.int .u8 91))⟩,
 ⟨some 48, some (34, false), .pick (.t 45) (.t 47) (.c (.bool false))⟩,
 ⟨some 49, some (34, false), .mov (.t 48)⟩,
 ⟨some 50, some (49, true), .mov (.t 3)⟩,
 ⟨some 51, some (49, true), .bin .neq .none (.t 50) (.c (.int .u8 93))⟩,
 ⟨some 52, some (34, false), .pick (.t 49) (.t 51) (.c (.bool false))⟩,
 ⟨some 53, some (34, false), .mov (.t 52)⟩,
 ⟨some 54, some (53, true), .mov (.t 3)⟩,
 ⟨some 55, some (53, true), .bin .neq .none (.t 54) (.c (.int .u8 92))⟩,
 ⟨some 56, some (34, false), .pick (.t 53) (.t 55) (.c (.bool false))⟩,
 ⟨some 57, some (34, false), .mov (.t 56)⟩,
 ⟨some 58, some (57, true), .mov (.t 3)⟩,
 ⟨some 59, some (57, true), .bin .neq .none (.t 58) (.c (.int .u8 94))⟩,
 ⟨some 60, some (34, false), .pick (.t 57) (.t 59) (.c (.bool false))⟩,
 ⟨some 61, some (34, false), .mov (.t 60)⟩,
 ⟨some 62, some (61, true), .mov (.t 3)⟩,
 ⟨some 63, some (61, true), .bin .neq .none (.t 62) (.c (.int .u8 95))⟩,
 ⟨some 64, some (34, false), .pick (.t 61) (.t 63) (.c (.bool false))⟩,
 ⟨some 65, none, .pick (.t 34) (.c (.bool true)) (.t 64)⟩,
 ⟨some 2, none, .mov (.t 65)⟩] (some [2]))
 .ret)))
 .skip))))))
 (.seq
 (.reg [⟨some 66, none, .fa 0 (.t 1)⟩,
 ⟨some 67, none, .ld none (.t 66)⟩,
 ⟨some 68, none, .bin .eql .none (.t 67) (.c (.int .i64 4))⟩,
 ⟨some 69, none, .mov (.t 68)⟩,
 ⟨some 70, some (69, true), .fa 4 (.t 1)⟩,
 ⟨some 71, some (69, true), .ld none (.t 70)⟩,
 ⟨some 72, some (69, true), .bin .eql .none (.t 71) (.c (.int .u8 0))⟩,
 ⟨some 73, none, .pick (.t 69) (.t 72) (.c (.bool false))⟩,
 ⟨some 2, none, .mov (.t 73)⟩] (some [2]))
 .ret)))
theorem is_clavierref03last : IrOf Tryd.prog 23 74 ir_clavierref03last [.t 2] := ⟨_, Tryd.func23, rfl, by kernel_rfl, by kernel_rfl, by kernel_rfl⟩

def ir_clavierref03bare : ICode :=
 (.seq
 (.reg [⟨some 1, none, .box 24 (.t 0)⟩,
 ⟨some 2, none, .mov (.c (.bool false))⟩] (some [1]))
 (.seq
 (.reg [⟨some 4, none, .fa 0 (.t 1)⟩,
 ⟨some 5, none, .ld none (.t 4)⟩,
 ⟨some 6, none, .bin .eql .none (.t 5) (.c (.int .i64 2))⟩,
 ⟨some 7, none, .mov (.t 6)⟩,
 ⟨some 8, some (7, false), .fa 0 (.t 1)⟩,
 ⟨some 9, some (7, false), .ld none (.t 8)⟩,
 ⟨some 10, some (7, false), .bin .eql .none (.t 9) (.c (.int .i64 4))⟩,
 ⟨some 11, none, .pick (.t 7) (.c (.bool true)) (.t 10)⟩,
 ⟨some 12, none, .mov (.t 11)⟩,
 ⟨some 13, some (12, false), .fa 0 (.t 1)⟩,
 ⟨some 14, some (12, false), .ld none (.t 13)⟩,
 ⟨some 15, some (12, false), .bin .eql .none (.t 14) (.c (.int .i64 5))⟩,
 ⟨some 16, none, .pick (.t 12) (.c (.bool true)) (.t 15)⟩,
 ⟨some 3, none, .mov (.t 16)⟩] (some [1, 3]))
 (.seq
 (.seq
 (.reg [⟨some 17, none, .mov (.t 3)⟩,
 ⟨some 18, none, .mov (.t 17)⟩,
 ⟨some 19, some (18, true), .fa 1 (.t 1)⟩,
 ⟨some 20, some (18, true), .ld none (.t 19)⟩,
 ⟨some 21, some (18, true), .bin .neq .none (.t 20) (.c (.int .u8 0))⟩,
 ⟨some 22, some (18, true), .mov (.t 21)⟩,
 ⟨some 23, some (22, false), .fa 2 (.t 1)⟩,
 ⟨some 24, some (22, false), .ld none (.t 23)⟩,
 ⟨some 25, some (22, false), .len (.t 24)⟩,
 ⟨some 26, some (22, false), .bin .gtr .none (.t 25) (.c (.int .i64 0))⟩,
 ⟨some 27, some (18, true), .pick (.t 22) (.c (.bool true)) (.t 26)⟩,
 ⟨some 28, none, .pick (.t 18) (.t 27) (.c (.bool false))⟩] (some [1, 28]))
 (.cond (.t 28)
 (.seq
 (.reg [⟨some 2, none, .mov (.c (.bool false))⟩] (some [2]))
 .ret)
 .skip))
 (.seq
 (.seq
 (.reg [⟨some 29, none, .fa 0 (.t 1)⟩,
 ⟨some 30, none, .ld none (.t 29)⟩,
 ⟨some 31, none, .bin .eql .none (.t 30) (.c (.int .i64 2))⟩,
 ⟨some 32, none, .mov (.t 31)⟩,
 ⟨some 33, some (32, false), .fa 0 (.t 1)⟩,
 ⟨some 34, some (32, false), .ld none (.t 33)⟩,
 ⟨some 35, some (32, false), .bin .eql .none (.t 34) (.c (.int .i64 4))⟩,
 ⟨some 36, none, .pick (.t 32) (.c (.bool true)) (.t 35)⟩,
 ⟨some 37, none, .mov (.t 36)⟩,
 ⟨some 38, some (37, true), .fa 3 (.t 1)⟩,
 ⟨some 39, some (37, true), .ld none (.t 38)⟩,
 ⟨some 40, some (37, true), .bin .neq .none (.t 39) (.c (.str []))⟩,
 ⟨some 41, none, .pick (.t 37) (.t 40) (.c (.bool false))⟩] (some [1, 41]))
 (.cond (.t 41)
 (.seq
 (.reg [⟨some 2, none, .mov (.c (.bool false))⟩] (some [2]))
 .ret)
 .skip))
 (.seq
 (.reg [⟨some 42, none, .fa 5 (.t 1)⟩,
 ⟨some 43, none, .ld none (.t 42)⟩,
 ⟨some 44, none, .bin .eql .none (.t 43) (.c (.str []))⟩,
 ⟨some 45, none, .mov (.t 44)⟩,
 ⟨some 46, some (45, false), .fa 0 (.t 1)⟩,
 ⟨some 47, some (45, false), .ld none (.t 46)⟩,
 ⟨some 48, some (45, false), .bin .eql .none (.t 47) (.c (.int .i64 3))⟩,
 ⟨some 49, none, .pick (.t 45) (.c (.bool true)) (.t 48)⟩,
 ⟨some 50, none, .mov (.t 49)⟩,
 ⟨some 51, some (50, false), .fa 0 (.t 1)⟩,
 ⟨some 52, some (50, false), .ld none (.t 51)⟩,
 ⟨some 53, some (50, false), .bin .eql .none (.t 52) (.c (.int .i64 4))⟩,
 ⟨some 54, none, .pick (.t 50) (.c (.bool true)) (.t 53)⟩,
 ⟨some 2, none, .mov (.t 54)⟩] (some [2]))
 .ret)))))
theorem is_clavierref03bare : IrOf Tryd.prog 24 55 ir_clavierref03bare [.t 2] := ⟨_, Tryd.func24, rfl, by kernel_rfl, by kernel_rfl, by kernel_rfl⟩

def ir_clavierref03May : ICode :=
 (.seq
 (.reg [⟨some 1, none, .box 24 (.t 0)⟩,
 ⟨some 2, none, .mov (.c (.int .i64 0))⟩] (some [1]))
 (.seq
 (.seq
 (.reg [⟨some 3, none, .fa 5 (.t 1)⟩,
 ⟨some 4, none, .ld none (.t 3)⟩,
 ⟨some 5, none, .lns (.t 4)⟩,
 ⟨some 6, none, .bin .gtr .none (.t 5) (.c (.int .i64 4096))⟩] (some [1, 6]))
 (.cond (.t 6)
 (.seq
 (.reg [⟨some 2, none, .mov (.c (.int .i64 4))⟩] (some [2]))
 .ret)
 .skip))
 (.seq
 (.seq
 (.reg [⟨some 7, none, .fa 1 (.t 1)⟩,
 ⟨some 8, none, .ld none (.t 7)⟩,
 ⟨some 9, none, .bin .neq .none (.t 8) (.c (.int .u8 0))⟩,
 ⟨some 10, none, .mov (.t 9)⟩,
 ⟨some 11, some (10, true), .fa 1 (.t 1)⟩,
 ⟨some 12, some (10, true), .ld none (.t 11)⟩,
 ⟨some 13, some (10, true), .bin .lss .none (.t 12) (.c (.int .u8 60))⟩,
 ⟨some 14, some (10, true), .mov (.t 13)⟩,
 ⟨some 15, some (14, false), .fa 1 (.t 1)⟩,
 ⟨some 16, some (14, false), .ld none (.t 15)⟩,
 ⟨some 17, some (14, false), .bin .gtr .none (.t 16) (.c (.int .u8 63))⟩,
 ⟨some 18, some (10, true), .pick (.t 14) (.c (.bool true)) (.t 17)⟩,
 ⟨some 19, none, .pick (.t 10) (.t 18) (.c (.bool false))⟩,
 ⟨some 20, none, .mov (.t 19)⟩,
 ⟨some 21, some (20, false), .fa 2 (.t 1)⟩,
 ⟨some 22, some (20, false), .ld none (.t 21)⟩,
 ⟨some 23, some (20, false), .call (.c (.fn (.func 21) [] [])) [(.t 22)]⟩,
 ⟨some 24, some (20, false), .un .not (.t 23)⟩,
 ⟨some 25, none, .pick (.t 20) (.c (.bool true)) (.t 24)⟩,
 ⟨some 26, none, .mov (.t 25)⟩,
 ⟨some 27, some (26, false), .fa 3 (.t 1)⟩,
 ⟨some 28, some (26, false), .ld none (.t 27)⟩,
 ⟨some 29, some (26, false), .lns (.t 28)⟩,
 ⟨some 30, some (26, false), .bin .gtr .none (.t 29) (.c (.int .i64 2))⟩,
 ⟨some 31, none, .pick (.t 26) (.c (.bool true)) (.t 30)⟩,
 ⟨some 32, none, .mov (.t 31)⟩,
 ⟨some 33, some (32, false), .fa 3 (.t 1)⟩,
 ⟨some 34, some (32, false), .ld none (.t 33)⟩,
 ⟨some 35, some (32, false), .call (.c (.fn (.func 22) [] [])) [(.t 34), (.c (.int .u8 32)), (.c (.int .u8 47))]⟩,
 ⟨some 36, some (32, false), .un .not (.t 35)⟩,
 ⟨some 37, none, .pick (.t 32) (.c (.bool true)) (.t 36)⟩,
 ⟨some 38, none, .mov (.t 37)⟩,
 ⟨some 39, some (38, false), .fa 5 (.t 1)⟩,
 ⟨some 40, some (38, false), .ld none (.t 39)⟩,
 ⟨some 41, some (38, false), .call (.c (.fn (.func 22) [] [])) [(.t 40), (.c (.int .u8 32)), (.c (.int .u8 126))]⟩,
 ⟨some 42, some (38, false), .un .not (.t 41)⟩,
 ⟨some 43, none, .pick (.t 38) (.c (.bool true)) (.t 42)⟩,
 ⟨some 44, none, .mov (.t 43)⟩,
 ⟨some 45, some (44, false), .ld (some 6) (.t 1)⟩,
 ⟨some 46, some (44, false), .call (.c (.fn (.func 23) [] [])) [(.t 45)]⟩,
 ⟨some 47, some (44, false), .un .not (.t 46)⟩,
 ⟨some 48, none, .pick (.t 44) (.c (.bool true)) (.t 47)⟩,
 ⟨some 49, none, .mov (.t 48)⟩,
 ⟨some 50, some (49, false), .ld (some 6) (.t 1)⟩,
 ⟨some 51, some (49, false), .call (.c (.fn (.func 24) [] [])) [(.t 50)]⟩,
 ⟨some 52, some (49, false), .un .not (.t 51)⟩,
 ⟨some 53, none, .pick (.t 49) (.c (.bool true)) (.t 52)⟩] (some [53]))
 (.cond (.t 53)
 (.seq
 (.reg [⟨some 2, none, .mov (.c (.int .i64 1))⟩] (some [2]))
 .ret)
 .skip))
 (.seq
 (.reg [⟨some 2, none, .mov (.c (.int .i64 0))⟩] (some [2]))
 .ret))))
theorem is_clavierref03May : IrOf Tryd.prog 10 54 ir_clavierref03May [.t 2] := ⟨_, Tryd.func10, rfl, by kernel_rfl, by kernel_rfl, by kernel_rfl⟩

def firstsB (fi : Int) : Bool := fi != 79 && fi != 80 && fi != 88 && fi != 91 && fi != 93 && fi != 92 && fi != 94 && fi != 95
def lastP (s : Sq) : Bool :=
  if (s.k == 1) = true then decide (s.fi ≥ 64) && decide (s.fi ≤ 126)
  else if (s.k == 2) = true then decide (s.fi ≥ 64) && decide (s.fi ≤ 126)
  else if (s.k == 3) = true then decide (s.fi ≥ 64) && decide (s.fi ≤ 126)
  else if (s.k == 5) = true then
    if (decide (s.fi < 48) || decide (s.fi > 126)) = true then false
    else decide ((s.it.length : Int) > 0) || firstsB s.fi
  else s.k == 4 && s.fi == 0
theorem fs_rLast {Gl : Gh → Prop} (hst : Stays Gl) {s : Sq} : FS Tryd.prog Gl 23 [.agg s.c] [] [] (.bool (lastP s)) [] [] := by
  refine FS.of hm hst is_clavierref03last (by simp) fun γ hγ hfr => ?_
  obtain ⟨k, pr, ps, it, fi, da⟩ := s
  simp only [Sq.c, lastP]
  simp only [Sq.c] at hfr
  (generalize hQ : (fun (ex : Ex) (_ _ : Nat) (s : St) => _) = Q; unfold ir_clavierref03last)
  (simp +contextual (maxSteps := 1000000) only [go_sem, reduceCtorEq, ↓reduceIte, Nat.reduceAdd, Nat.reduceEqDiff, Nat.reduceLeDiff, Nat.reduceMul, Nat.reduceBEq, Int.reduceBEq, Int.reduceBNe, Int.reduceLT, Int.reduceLE, Int.reduceGT, Int.reduceGE, Int.reduceToNat]; repeat' first | ((first | refine kCond_split (fun hg => ?_) (fun hg => ?_) | refine kGc_split (fun hg => ?_) (fun hg => ?_) | refine kPreG_split (fun hg => ?_) (fun hg => ?_)) <;> (try rw [hg]) <;> simp +contextual (maxSteps := 1000000) only [go_sem, reduceCtorEq, ↓reduceIte, Nat.reduceAdd, Nat.reduceEqDiff, Nat.reduceLeDiff, Nat.reduceMul, Nat.reduceBEq, Int.reduceBEq, Int.reduceBNe, Int.reduceLT, Int.reduceLE, Int.reduceGT, Int.reduceGE, Int.reduceToNat]) | refine And.intro (by omega) ?_)
  all_goals (rw [← hQ]; clear hQ hfr; refine ⟨trivial, Ret.flat ?_ rfl⟩; first | (simp only [resOf, getAll, IRes.get, lf_cons, lf_nil, ↓reduceIte, Bool.false_eq_true, Option.some.injEq, AV.bool.injEq, AV.int.injEq, AV.tup.injEq, List.cons.injEq, true_and, and_true, firstsB, *]; done) | (simp [resOf, getAll, IRes.get, lf_cons, lf_nil, ↓reduceIte, Bool.false_eq_true, Option.some.injEq, AV.bool.injEq, AV.int.injEq, AV.tup.injEq, List.cons.injEq, true_and, and_true, firstsB, *]; done) | (simp_all [resOf, getAll, IRes.get, lf_cons, lf_nil, ↓reduceIte, Bool.false_eq_true, Option.some.injEq, AV.bool.injEq, AV.int.injEq, AV.tup.injEq, List.cons.injEq, true_and, and_true, firstsB]; done) | (simp_all [resOf, getAll, IRes.get, lf_cons, lf_nil, ↓reduceIte, Bool.false_eq_true, Option.some.injEq, AV.bool.injEq, AV.int.injEq, AV.tup.injEq, List.cons.injEq, true_and, and_true, firstsB]; omega))

def bareP (s : Sq) : Bool :=
  if ((s.k == 2 || s.k == 4 || s.k == 5) && (s.pr != 0 || decide ((s.ps.length : Int) > 0))) = true then false
  else if ((s.k == 2 || s.k == 4) && !decide (s.it = [])) = true then false
  else decide (s.da = []) || s.k == 3 || s.k == 4
theorem fs_rBare {Gl : Gh → Prop} (hst : Stays Gl) {s : Sq} : FS Tryd.prog Gl 24 [.agg s.c] [] [] (.bool (bareP s)) [] [] := by
  refine FS.of hm hst is_clavierref03bare (by simp) fun γ hγ hfr => ?_
  obtain ⟨k, pr, ps, it, fi, da⟩ := s
  simp only [Sq.c, bareP, parsV]
  simp only [Sq.c, parsV] at hfr
  (generalize hQ : (fun (ex : Ex) (_ _ : Nat) (s : St) => _) = Q; unfold ir_clavierref03bare)
  (simp +contextual (maxSteps := 1000000) only [parsAV_length, go_sem, reduceCtorEq, ↓reduceIte, Nat.reduceAdd, Nat.reduceEqDiff, Nat.reduceLeDiff, Nat.reduceMul, Nat.reduceBEq, Int.reduceBEq, Int.reduceBNe, Int.reduceLT, Int.reduceLE, Int.reduceGT, Int.reduceGE, Int.reduceToNat]; repeat' first | ((first | refine kCond_split (fun hg => ?_) (fun hg => ?_) | refine kGc_split (fun hg => ?_) (fun hg => ?_) | refine kPreG_split (fun hg => ?_) (fun hg => ?_)) <;> (try rw [hg]) <;> simp +contextual (maxSteps := 1000000) only [parsAV_length, go_sem, reduceCtorEq, ↓reduceIte, Nat.reduceAdd, Nat.reduceEqDiff, Nat.reduceLeDiff, Nat.reduceMul, Nat.reduceBEq, Int.reduceBEq, Int.reduceBNe, Int.reduceLT, Int.reduceLE, Int.reduceGT, Int.reduceGE, Int.reduceToNat]) | refine And.intro (by omega) ?_)
  all_goals (rw [← hQ]; clear hQ hfr; refine ⟨trivial, Ret.flat ?_ rfl⟩; first | (simp only [resOf, getAll, IRes.get, lf_cons, lf_nil, ↓reduceIte, Bool.false_eq_true, Option.some.injEq, AV.bool.injEq, AV.int.injEq, AV.tup.injEq, List.cons.injEq, true_and, and_true, *]; done) | (simp [resOf, getAll, IRes.get, lf_cons, lf_nil, ↓reduceIte, Bool.false_eq_true, Option.some.injEq, AV.bool.injEq, AV.int.injEq, AV.tup.injEq, List.cons.injEq, true_and, and_true, *]; done) | (simp_all [resOf, getAll, IRes.get, lf_cons, lf_nil, ↓reduceIte, Bool.false_eq_true, Option.some.injEq, AV.bool.injEq, AV.int.injEq, AV.tup.injEq, List.cons.injEq, true_and, and_true]; done) | (simp_all [resOf, getAll, IRes.get, lf_cons, lf_nil, ↓reduceIte, Bool.false_eq_true, Option.some.injEq, AV.bool.injEq, AV.int.injEq, AV.tup.injEq, List.cons.injEq, true_and, and_true]; omega))
theorem firsts_eq {fi : Int} (h0 : 0 ≤ fi) (h1 : fi < 256) : firstsB fi = !([79, 80, 88, 91, 93, 92, 94, 95] : List UInt8).contains fi.toNat.toUInt8 := by
  obtain ⟨c, rfl⟩ : ∃ c : UInt8, fi = (c.toNat : Int) := ⟨UInt8.ofNat fi.toNat, by rw [UInt8.toNat_ofNat', Nat.mod_eq_of_lt (by omega)]; omega⟩
  have e : ((c.toNat : Int).toNat.toUInt8) = c := by simp
  rw [e, Bool.eq_iff_iff]
  simp only [firstsB, List.contains_cons, List.contains_nil, Bool.or_false, Bool.not_eq_true', Bool.or_eq_false_iff, beq_eq_false_iff_ne, ne_eq, ← UInt8.toNat_inj, Bool.and_eq_true, bne_iff_ne, UInt8.reduceToNat]
  omega
theorem may_eq {s : Sq} (h0 : 0 ≤ s.fi) (h1 : s.fi < 256) : (lastP s && bareP s) = shapedP s := by
  obtain ⟨k, pr, ps, it, fi, da⟩ := s
  simp only at h0 h1
  have e := firsts_eq h0 h1
  simp only [lastP, bareP, shapedP, e]
  generalize ([79, 80, 88, 91, 93, 92, 94, 95] : List UInt8).contains fi.toNat.toUInt8 = z
  clear e
  rw [Bool.eq_iff_iff]
  by_cases k1 : k = 1
  · subst k1; simp; grind
  by_cases k2 : k = 2
  · subst k2; simp; grind
  by_cases k3 : k = 3
  · subst k3; simp
  by_cases k4 : k = 4
  · subst k4; simp; grind
  by_cases k5 : k = 5
  · subst k5; simp [List.length_pos_iff]; grind
  · simp [k1, k2, k3, k4, k5]

theorem bool7 : ∀ z1 z2 z3 z4 z5 z6 z7 : Bool, ((!!z1 || !(!z2 && z4) || !z3 || !z5) || !(z6 && z7)) = ((((z1 || !z3 || z2 || !z4) || !z5) || !z6) || !z7) := by decide
theorem fs_rMay {Gl : Gh → Prop} (hst : Stays Gl) {s : Sq} (hf0 : 0 ≤ s.fi) (hf1 : s.fi < 256) (h1 : s.ps.length < 9223372036854775808) (h2 : ∀ p ∈ s.ps, p.length < 9223372036854775808) (h3 : s.it.length < 9223372036854775808) (h4 : s.da.length < 9223372036854775808) :
    FS Tryd.prog Gl 10 [.agg s.c] [] [] (.int .i64 (mayP s)) [] [] := by
  have c1 := fs_rParams hst h1 h2
  have c2 := fs_within hst (x := 32) (y := 47) h3
  have c3 := fs_within hst (x := 32) (y := 126) h4
  have c4 := fs_rLast hst (s := s)
  have c5 := fs_rBare hst (s := s)
  have e := may_eq hf0 hf1
  refine FS.of hm hst is_clavierref03May (by simp) fun γ hγ hfr => ?_
  obtain ⟨k, pr, ps, it, fi, da⟩ := s
  simp only [Sq.c] at *
  (generalize hQ : (fun (ex : Ex) (_ _ : Nat) (s : St) => _) = Q; unfold ir_clavierref03May)
  simp +contextual (maxSteps := 1000000) only [go_sem, reduceCtorEq, ↓reduceIte, Nat.reduceAdd, Nat.reduceEqDiff, Nat.reduceLeDiff, Nat.reduceMul, Nat.reduceBEq, Int.reduceBEq, Int.reduceBNe, Int.reduceLT, Int.reduceLE, Int.reduceGT, Int.reduceGE, Int.reduceToNat]
  refine kCond_split (fun h => ?_) (fun h => ?_)
  · simp +contextual (maxSteps := 1000000) only [go_sem, reduceCtorEq, ↓reduceIte, Nat.reduceAdd, Nat.reduceEqDiff, Nat.reduceLeDiff, Nat.reduceMul, Nat.reduceBEq, Int.reduceBEq, Int.reduceBNe, Int.reduceLT, Int.reduceLE, Int.reduceGT, Int.reduceGE, Int.reduceToNat]
    rw [← hQ]
    refine ⟨trivial, Ret.flat ?_ rfl⟩
    rw [mayP, if_pos h]; rfl
  · simp +contextual (maxSteps := 1000000) only [go_sem, reduceCtorEq, ↓reduceIte, Nat.reduceAdd, Nat.reduceEqDiff, Nat.reduceLeDiff, Nat.reduceMul, Nat.reduceBEq, Int.reduceBEq, Int.reduceBNe, Int.reduceLT, Int.reduceLE, Int.reduceGT, Int.reduceGE, Int.reduceToNat]
    (refine kGc_call (c1) (fun _ => rfl) (fun hgc => ?_) ?_; (focus (first | (rw [Bool.not_eq_true'] at hgc; simp only [List.map_cons, List.map_nil, List.nil_append, List.append_nil, List.cons_append, Xev_t, Xev_c, upd_app, lf_cons, lf_nil, Nat.reduceEqDiff, ↓reduceIte, hgc, Bool.false_eq_true, Bool.true_eq_false, reduceCtorEq]; done) | (simp only [List.map_cons, List.map_nil, List.nil_append, List.append_nil, List.cons_append, Xev_t, Xev_c, upd_app, lf_cons, lf_nil, Nat.reduceEqDiff, ↓reduceIte, hgc, Bool.false_eq_true, Bool.true_eq_false, reduceCtorEq]; done) | (revert hgc; simp +contextual [Xev_t, Xev_c, upd_app, lf_cons, lf_nil]; done) | simp [Xev_t, Xev_c, upd_app, lf_cons, lf_nil])); simp +contextual (maxSteps := 1000000) only [go_sem, reduceCtorEq, ↓reduceIte, Nat.reduceAdd, Nat.reduceEqDiff, Nat.reduceLeDiff, Nat.reduceMul, Nat.reduceBEq, Int.reduceBEq, Int.reduceBNe, Int.reduceLT, Int.reduceLE, Int.reduceGT, Int.reduceGE, Int.reduceToNat])
    (refine kGc_call (c2) (fun _ => rfl) (fun hgc => ?_) ?_; (focus (first | (rw [Bool.not_eq_true'] at hgc; simp only [List.map_cons, List.map_nil, List.nil_append, List.append_nil, List.cons_append, Xev_t, Xev_c, upd_app, lf_cons, lf_nil, Nat.reduceEqDiff, ↓reduceIte, hgc, Bool.false_eq_true, Bool.true_eq_false, reduceCtorEq]; done) | (simp only [List.map_cons, List.map_nil, List.nil_append, List.append_nil, List.cons_append, Xev_t, Xev_c, upd_app, lf_cons, lf_nil, Nat.reduceEqDiff, ↓reduceIte, hgc, Bool.false_eq_true, Bool.true_eq_false, reduceCtorEq]; done) | (revert hgc; simp +contextual [Xev_t, Xev_c, upd_app, lf_cons, lf_nil]; done) | simp [Xev_t, Xev_c, upd_app, lf_cons, lf_nil])); simp +contextual (maxSteps := 1000000) only [go_sem, reduceCtorEq, ↓reduceIte, Nat.reduceAdd, Nat.reduceEqDiff, Nat.reduceLeDiff, Nat.reduceMul, Nat.reduceBEq, Int.reduceBEq, Int.reduceBNe, Int.reduceLT, Int.reduceLE, Int.reduceGT, Int.reduceGE, Int.reduceToNat])
    (refine kGc_call (c3) (fun _ => rfl) (fun hgc => ?_) ?_; (focus (first | (rw [Bool.not_eq_true'] at hgc; simp only [List.map_cons, List.map_nil, List.nil_append, List.append_nil, List.cons_append, Xev_t, Xev_c, upd_app, lf_cons, lf_nil, Nat.reduceEqDiff, ↓reduceIte, hgc, Bool.false_eq_true, Bool.true_eq_false, reduceCtorEq]; done) | (simp only [List.map_cons, List.map_nil, List.nil_append, List.append_nil, List.cons_append, Xev_t, Xev_c, upd_app, lf_cons, lf_nil, Nat.reduceEqDiff, ↓reduceIte, hgc, Bool.false_eq_true, Bool.true_eq_false, reduceCtorEq]; done) | (revert hgc; simp +contextual [Xev_t, Xev_c, upd_app, lf_cons, lf_nil]; done) | simp [Xev_t, Xev_c, upd_app, lf_cons, lf_nil])); simp +contextual (maxSteps := 1000000) only [go_sem, reduceCtorEq, ↓reduceIte, Nat.reduceAdd, Nat.reduceEqDiff, Nat.reduceLeDiff, Nat.reduceMul, Nat.reduceBEq, Int.reduceBEq, Int.reduceBNe, Int.reduceLT, Int.reduceLE, Int.reduceGT, Int.reduceGE, Int.reduceToNat])
    (refine kGc_call (c4) (fun _ => rfl) (fun hgc => ?_) ?_; (focus (first | (rw [Bool.not_eq_true'] at hgc; simp only [List.map_cons, List.map_nil, List.nil_append, List.append_nil, List.cons_append, Xev_t, Xev_c, upd_app, lf_cons, lf_nil, Nat.reduceEqDiff, ↓reduceIte, hgc, Bool.false_eq_true, Bool.true_eq_false, reduceCtorEq]; done) | (simp only [List.map_cons, List.map_nil, List.nil_append, List.append_nil, List.cons_append, Xev_t, Xev_c, upd_app, lf_cons, lf_nil, Nat.reduceEqDiff, ↓reduceIte, hgc, Bool.false_eq_true, Bool.true_eq_false, reduceCtorEq]; done) | (revert hgc; simp +contextual [Xev_t, Xev_c, upd_app, lf_cons, lf_nil]; done) | simp [Xev_t, Xev_c, upd_app, lf_cons, lf_nil])); simp +contextual (maxSteps := 1000000) only [go_sem, reduceCtorEq, ↓reduceIte, Nat.reduceAdd, Nat.reduceEqDiff, Nat.reduceLeDiff, Nat.reduceMul, Nat.reduceBEq, Int.reduceBEq, Int.reduceBNe, Int.reduceLT, Int.reduceLE, Int.reduceGT, Int.reduceGE, Int.reduceToNat])
    (refine kGc_call (c5) (fun _ => rfl) (fun hgc => ?_) ?_; (focus (first | (rw [Bool.not_eq_true'] at hgc; simp only [List.map_cons, List.map_nil, List.nil_append, List.append_nil, List.cons_append, Xev_t, Xev_c, upd_app, lf_cons, lf_nil, Nat.reduceEqDiff, ↓reduceIte, hgc, Bool.false_eq_true, Bool.true_eq_false, reduceCtorEq]; done) | (simp only [List.map_cons, List.map_nil, List.nil_append, List.append_nil, List.cons_append, Xev_t, Xev_c, upd_app, lf_cons, lf_nil, Nat.reduceEqDiff, ↓reduceIte, hgc, Bool.false_eq_true, Bool.true_eq_false, reduceCtorEq]; done) | (revert hgc; simp +contextual [Xev_t, Xev_c, upd_app, lf_cons, lf_nil]; done) | simp [Xev_t, Xev_c, upd_app, lf_cons, lf_nil])); simp +contextual (maxSteps := 1000000) only [go_sem, reduceCtorEq, ↓reduceIte, Nat.reduceAdd, Nat.reduceEqDiff, Nat.reduceLeDiff, Nat.reduceMul, Nat.reduceBEq, Int.reduceBEq, Int.reduceBNe, Int.reduceLT, Int.reduceLE, Int.reduceGT, Int.reduceGE, Int.reduceToNat])
    have q1 : (pr == 0 || (decide (pr ≥ 60) && decide (pr ≤ 63))) = !(pr != 0 && (decide (pr < 60) || decide (pr > 63))) := by
      rw [Bool.eq_iff_iff]; simp <;> omega
    have q2 : decide ((it.length : Int) ≤ 2) = !decide ((it.length : Int) > 2) := by rw [Bool.eq_iff_iff]; simp
    have em : mayP ⟨k, pr, ps, it, fi, da⟩ = if (((pr != 0 && (decide (pr < 60) || decide (pr > 63)) || !parsOk ps || decide ((it.length : Int) > 2) || !it.all fun c => decide (32 ≤ (c.toNat : Int)) && decide ((c.toNat : Int) ≤ 47)) || !da.all fun c => decide (32 ≤ (c.toNat : Int)) && decide ((c.toNat : Int) ≤ 126)) || !lastP ⟨k, pr, ps, it, fi, da⟩ || !bareP ⟨k, pr, ps, it, fi, da⟩) = true then 1 else 0 := by
      simp only [mayP]
      rw [h, ← e, q1, q2]
      simp only [within, Bool.false_eq_true, if_false]
      exact congrArg (fun b : Bool => if b = true then (1 : Int) else 0) (bool7 _ _ _ _ _ _ _)
    rw [em] at hQ
    refine kCond_split (fun h' => ?_) (fun h' => ?_)
    · simp +contextual (maxSteps := 1000000) only [go_sem, reduceCtorEq, ↓reduceIte, Nat.reduceAdd, Nat.reduceEqDiff, Nat.reduceLeDiff, Nat.reduceMul, Nat.reduceBEq, Int.reduceBEq, Int.reduceBNe, Int.reduceLT, Int.reduceLE, Int.reduceGT, Int.reduceGE, Int.reduceToNat]
      rw [← hQ]
      exact ⟨trivial, Ret.flat (by rw [if_pos h']; rfl) (by split <;> rfl)⟩
    · simp +contextual (maxSteps := 1000000) only [go_sem, reduceCtorEq, ↓reduceIte, Nat.reduceAdd, Nat.reduceEqDiff, Nat.reduceLeDiff, Nat.reduceMul, Nat.reduceBEq, Int.reduceBEq, Int.reduceBNe, Int.reduceLT, Int.reduceLE, Int.reduceGT, Int.reduceGE, Int.reduceToNat]
      rw [← hQ]
      exact ⟨trivial, Ret.flat (by rw [if_neg (by rw [h']; exact Bool.false_ne_true)]; rfl) (by split <;> rfl)⟩
end Go.Proofs.YtcdkcfpgdbjogaaDoor

namespace Go.Proofs.YtcdkcfpgdbjogaaDoor
open Go Go.Ab

def jn (c : UInt8) : List (List UInt8) → List UInt8
  | [] => []
  | [x] => x
  | x :: y :: l => x ++ c :: jn c (y :: l)
theorem jn_cons {c : UInt8} {x : List UInt8} {l : List (List UInt8)} (h : l ≠ []) : jn c (x :: l) = x ++ c :: jn c l := by
  cases l with
  | nil => exact absurd rfl h
  | cons y l => rfl
theorem jn_snoc {c : UInt8} {x : List UInt8} : ∀ {l : List (List UInt8)}, l ≠ [] → jn c (l ++ [x]) = jn c l ++ c :: x
  | [], h => absurd rfl h
  | [y], _ => rfl
  | y :: z :: l, _ => by
    have ih := jn_snoc (c := c) (x := x) (l := z :: l) (by simp)
    rw [List.cons_append, jn_cons (x := y) (l := z :: l ++ [x]) (by simp), ih, jn_cons (x := y) (l := z :: l) (by simp), List.append_assoc]; rfl
theorem splitB_none {c : UInt8} : ∀ {x : List UInt8}, c ∉ x → splitB c x = [x]
  | [], _ => rfl
  | d :: x, h => by
    have h1 : d ≠ c := fun e => h (by simp [e])
    have h2 : c ∉ x := fun e => h (by simp [e])
    simp only [splitB, if_neg h1, splitB_none h2]
theorem splitB_app {c : UInt8} {r : List UInt8} : ∀ {x : List UInt8}, c ∉ x → splitB c (x ++ c :: r) = x :: splitB c r
  | [], _ => by simp [splitB]
  | d :: x, h => by
    have h1 : d ≠ c := fun e => h (by simp [e])
    have h2 : c ∉ x := fun e => h (by simp [e])
    simp only [List.cons_append, splitB, if_neg h1, splitB_app h2]
theorem splitB_jn {c : UInt8} : ∀ {l : List (List UInt8)}, l ≠ [] → (∀ x ∈ l, c ∉ x) → splitB c (jn c l) = l
  | [], h, _ => absurd rfl h
  | [x], _, h => splitB_none (h x (by simp))
  | x :: y :: l, _, h => by
    rw [jn_cons (by simp), splitB_app (h x (by simp)), splitB_jn (by simp) fun z hz => h z (by simp at hz ⊢; exact .inr hz)]

theorem fig_ofNat {d : Nat} (h : d < 10) : fig (UInt8.ofNat (48 + d)) = true ∧ (UInt8.ofNat (48 + d)).toNat - 48 = d := by
  have e : (UInt8.ofNat (48 + d)).toNat = 48 + d := by rw [UInt8.toNat_ofNat', Nat.mod_eq_of_lt (by omega)]
  constructor
  · simp only [fig, e, Bool.and_eq_true, decide_eq_true_eq]; omega
  · rw [e]; omega
theorem decB_figs : ∀ (n : Nat), ∀ c ∈ decB n, fig c = true := by
  intro n
  induction n using Nat.strongRecOn with
  | ind n ih =>
    rw [decB]
    split
    · intro c hc
      simp only [List.mem_singleton] at hc
      rw [hc]; exact (fig_ofNat (by omega)).1
    · intro c hc
      rcases List.mem_append.1 hc with h | h
      · exact ih (n / 10) (by omega) c h
      · simp only [List.mem_singleton] at h
        rw [h]; exact (fig_ofNat (by omega)).1
theorem decB_ne (n : Nat) : decB n ≠ [] := by
  rw [decB]; split <;> simp
theorem takeN_dec : ∀ (n : Nat) (rest : List UInt8) (k : Nat), n ≤ 1114111 → takeN (decB n ++ rest) 0 k = takeN rest n (k + (decB n).length) := by
  intro n
  induction n using Nat.strongRecOn with
  | ind n ih =>
    intro rest k hn
    rw [decB]
    split
    · obtain ⟨h1, h2⟩ := fig_ofNat (d := n) (by omega)
      simp only [List.singleton_append, takeN, h1, if_true, h2, List.length_singleton]
      congr 1; omega
    · obtain ⟨h1, h2⟩ := fig_ofNat (d := n % 10) (by omega)
      rw [List.append_assoc, ih (n / 10) (by omega) _ k (by omega)]
      simp only [List.singleton_append, takeN, h1, if_true, h2, List.length_append, List.length_singleton]
      congr 1; omega
theorem textZ_figs (n : Int) : ∀ c ∈ textZ n, fig c = true := by
  unfold textZ
  split
  · simp
  · exact decB_figs _
theorem fig_not {c d : UInt8} (h : fig c = true) (hd : fig d = false) : c ≠ d := by rintro rfl; rw [h] at hd; cases hd
def subText (p : List Int) : List UInt8 := jn 58 (p.map textZ)
def parsText (ps : List (List Int)) : List UInt8 := jn 59 (ps.map subText)
theorem jn_mem {c d : UInt8} : ∀ {l : List (List UInt8)}, d ∈ jn c l → d = c ∨ ∃ x ∈ l, d ∈ x
  | [], h => by simp [jn] at h
  | [x], h => .inr ⟨x, by simp, h⟩
  | x :: y :: l, h => by
    rw [jn_cons (by simp)] at h
    rcases List.mem_append.1 h with h | h
    · exact .inr ⟨x, by simp, h⟩
    · rcases List.mem_cons.1 h with h | h
      · exact .inl h
      · rcases jn_mem h with h | ⟨z, hz, h⟩
        · exact .inl h
        · exact .inr ⟨z, by simp at hz ⊢; exact .inr hz, h⟩
theorem subText_mem {p : List Int} {c : UInt8} (h : c ∈ subText p) : c = 58 ∨ fig c = true := by
  rcases jn_mem h with h | ⟨x, hx, h⟩
  · exact .inl h
  · obtain ⟨n, _, rfl⟩ := List.mem_map.1 hx
    exact .inr (textZ_figs n _ h)
theorem parsText_mem {ps : List (List Int)} {c : UInt8} (h : c ∈ parsText ps) : 48 ≤ c.toNat ∧ c.toNat < 60 := by
  have key : c = 59 ∨ c = 58 ∨ fig c = true := by
    rcases jn_mem h with h | ⟨x, hx, h⟩
    · exact .inl h
    · obtain ⟨p, _, rfl⟩ := List.mem_map.1 hx
      exact .inr (subText_mem h)
  rcases key with rfl | rfl | h
  · decide
  · decide
  · simp only [fig, Bool.and_eq_true, decide_eq_true_eq] at h; omega
theorem subText_nil {p : List Int} (hp : p ≠ []) (h : ∀ n ∈ p, -1 ≤ n) : subText p = [] ↔ p = [-1] := by
  constructor
  · intro e
    cases p with
    | nil => exact absurd rfl hp
    | cons n q =>
      cases q with
      | nil =>
        simp only [subText, List.map_cons, List.map_nil, jn, textZ] at e
        split at e
        · have := h n (by simp); congr 1; omega
        · exact absurd e (decB_ne _)
      | cons m q =>
        simp only [subText, List.map_cons] at e
        rw [jn_cons (by simp)] at e
        simp at e
  · rintro rfl; rfl
theorem parsText_nil {ps : List (List Int)} (h : ∀ p ∈ ps, p ≠ [] ∧ ∀ n ∈ p, -1 ≤ n) : parsText ps = [] ↔ ps = [] ∨ ps = [[-1]] := by
  constructor
  · intro e
    cases ps with
    | nil => exact .inl rfl
    | cons p q =>
      cases q with
      | nil =>
        simp only [parsText, List.map_cons, List.map_nil, jn] at e
        exact .inr (by rw [(subText_nil (h p (by simp)).1 (h p (by simp)).2).1 e])
      | cons m q =>
        simp only [parsText, List.map_cons] at e
        rw [jn_cons (by simp)] at e
        simp at e
  · rintro (rfl | rfl) <;> rfl
theorem parsOk_iff {ps : List (List Int)} (h : parsOk ps = true) : ps.length ≤ 16 ∧ ps ≠ [[-1]] ∧ ∀ p ∈ ps, p ≠ [] ∧ p.length ≤ 8 ∧ ∀ n ∈ p, -1 ≤ n ∧ n ≤ 1114111 := by
  simp only [parsOk, Bool.and_eq_true, Bool.not_eq_true', Bool.or_eq_false_iff, decide_eq_false_iff_not] at h
  obtain ⟨⟨h1, h3⟩, h2⟩ := h
  refine ⟨by omega, h3, fun p hp => ?_⟩
  have := List.any_eq_false.1 h2 p hp
  simp only [parBad, Bool.or_eq_true, decide_eq_true_eq, not_or, List.any_eq_true, not_exists, not_and] at this
  obtain ⟨a, b, c⟩ := this
  refine ⟨fun e => by simp [e] at b, by omega, fun n hn => ?_⟩
  have := a n hn
  omega
end Go.Proofs.YtcdkcfpgdbjogaaDoor

namespace Go.Proofs.YtcdkcfpgdbjogaaDoor
open Go Go.Ab
/- clavier/clavierref03.body -/
def ir_clavierref03body_l0 : ICode :=
 (.seq
 (.seq
 (.reg [⟨some 24, none, .mov (.t 5)⟩,
 ⟨some 25, none, .fa 2 (.t 1)⟩,
 ⟨some 26, none, .ld none (.t 25)⟩,
 ⟨some 27, none, .mov (.t 4)⟩,
 ⟨some 28, none, .ia 1 (.t 26) (.t 27)⟩,
 ⟨some 29, none, .ld none (.t 28)⟩,
 ⟨some 30, none, .len (.t 29)⟩,
 ⟨some 31, none, .bin .lss .none (.t 24) (.t 30)⟩] (some [1, 3, 4, 5, 31]))
 (.cond (.t 31)
 .skip
 (.exit 2)))
 (.seq
 (.blk 3
 (.seq
 (.seq
 (.reg [⟨some 34, none, .mov (.t 5)⟩,
 ⟨some 35, none, .bin .gtr .none (.t 34) (.c (.int .i64 0))⟩] (some [1, 3, 4, 5, 35]))
 (.cond (.t 35)
 (.reg [⟨some 36, none, .mov (.t 3)⟩,
 ⟨some 37, none, .bin .add .none (.t 36) (.c (.str [58]))⟩,
 ⟨some 3, none, .mov (.t 37)⟩] (some [1, 3, 4, 5]))
 .skip))
 (.reg [⟨some 38, none, .mov (.t 3)⟩,
 ⟨some 39, none, .fa 2 (.t 1)⟩,
 ⟨some 40, none, .ld none (.t 39)⟩,
 ⟨some 41, none, .mov (.t 4)⟩,
 ⟨some 42, none, .ia 1 (.t 40) (.t 41)⟩,
 ⟨some 43, none, .ld none (.t 42)⟩,
 ⟨some 44, none, .mov (.t 5)⟩,
 ⟨some 45, none, .ia 1 (.t 43) (.t 44)⟩,
 ⟨some 46, none, .ld none (.t 45)⟩,
 ⟨some 47, none, .call (.c (.fn (.func 31) [] [])) [(.t 46)]⟩,
 ⟨some 48, none, .bin .add .none (.t 38) (.t 47)⟩,
 ⟨some 3, none, .mov (.t 48)⟩] (some [1, 3, 4, 5]))))
 (.reg [⟨some 32, none, .mov (.t 5)⟩,
 ⟨some 33, none, .bin .add .none (.t 32) (.c (.int .i64 1))⟩,
 ⟨some 5, none, .mov (.t 33)⟩] (some [1, 3, 4, 5]))))
def ir_clavierref03body_l1 : ICode :=
 (.seq
 (.seq
 (.reg [⟨some 13, none, .mov (.t 4)⟩,
 ⟨some 14, none, .fa 2 (.t 1)⟩,
 ⟨some 15, none, .ld none (.t 14)⟩,
 ⟨some 16, none, .len (.t 15)⟩,
 ⟨some 17, none, .bin .lss .none (.t 13) (.t 16)⟩] (some [1, 3, 4, 17]))
 (.cond (.t 17)
 .skip
 (.exit 0)))
 (.seq
 (.blk 1
 (.seq
 (.seq
 (.reg [⟨some 20, none, .mov (.t 4)⟩,
 ⟨some 21, none, .bin .gtr .none (.t 20) (.c (.int .i64 0))⟩] (some [1, 3, 4, 21]))
 (.cond (.t 21)
 (.reg [⟨some 22, none, .mov (.t 3)⟩,
 ⟨some 23, none, .bin .add .none (.t 22) (.c (.str [59]))⟩,
 ⟨some 3, none, .mov (.t 23)⟩] (some [1, 3, 4]))
 .skip))
 (.seq
 (.reg [⟨some 5, none, .mov (.c (.int .i64 0))⟩] (some [1, 3, 4, 5]))
 (.blk 2
 (.loop
 ir_clavierref03body_l0)))))
 (.reg [⟨some 18, none, .mov (.t 4)⟩,
 ⟨some 19, none, .bin .add .none (.t 18) (.c (.int .i64 1))⟩,
 ⟨some 4, none, .mov (.t 19)⟩] (some [1, 3, 4]))))
def ir_clavierref03body_t4 : ICode :=
 (.seq
 (.reg [⟨some 49, none, .mov (.t 3)⟩,
 ⟨some 50, none, .fa 3 (.t 1)⟩,
 ⟨some 51, none, .ld none (.t 50)⟩,
 ⟨some 52, none, .bin .add .none (.t 49) (.t 51)⟩,
 ⟨some 2, none, .mov (.t 52)⟩] (some [2]))
 .ret)
def ir_clavierref03body_t3 : ICode :=
 (.seq
 (.seq
 (.reg [⟨some 4, none, .mov (.c (.int .i64 0))⟩] (some [1, 3, 4]))
 (.blk 0
 (.loop
 ir_clavierref03body_l1)))
 ir_clavierref03body_t4)
def ir_clavierref03body_t2 : ICode :=
 (.seq
 (.seq
 (.reg [⟨some 6, none, .fa 1 (.t 1)⟩,
 ⟨some 7, none, .ld none (.t 6)⟩,
 ⟨some 8, none, .bin .neq .none (.t 7) (.c (.int .u8 0))⟩] (some [1, 3, 8]))
 (.cond (.t 8)
 (.reg [⟨some 9, none, .fa 1 (.t 1)⟩,
 ⟨some 10, none, .ld none (.t 9)⟩,
 ⟨some 11, none, .row 5 1 [(.t 10)]⟩,
 ⟨some 12, none, .b2s (.t 11)⟩,
 ⟨some 3, none, .mov (.t 12)⟩] (some [1, 3]))
 .skip))
 ir_clavierref03body_t3)
def ir_clavierref03body_t1 : ICode :=
 (.seq
 (.reg [⟨some 3, none, .mov (.c (.str []))⟩] (some [1, 3]))
 ir_clavierref03body_t2)
def ir_clavierref03body : ICode :=
 (.seq
 (.reg [⟨some 1, none, .box 24 (.t 0)⟩,
 ⟨some 2, none, .mov (.c (.str []))⟩] (some [1]))
 ir_clavierref03body_t1)
theorem is_clavierref03body : IrOf Tryd.prog 17 53 ir_clavierref03body [.t 2] := ⟨_, Tryd.func17, rfl, by kernel_rfl, by kernel_rfl, by kernel_rfl⟩

def prB (pr : Int) : List UInt8 := if (pr != 0) = true then [pr.toNat.toUInt8] else []
def bodyB (s : Sq) : List UInt8 := prB s.pr ++ parsText s.ps ++ s.it
theorem byteOf {n : Int} (h0 : 0 ≤ n) (h1 : n < 256) : ∃ c : UInt8, n = (c.toNat : Int) := ⟨UInt8.ofNat n.toNat, by rw [UInt8.toNat_ofNat', Nat.mod_eq_of_lt (by omega)]; omega⟩
theorem subText_len {p : List Int} (h : ∀ n ∈ p, n ≤ 1114111) : (subText p).length ≤ 20 * p.length := by
  induction p with
  | nil => simp [subText, jn]
  | cons n p ih =>
    have h1 : (textZ n).length ≤ 19 := by
      unfold textZ
      split
      · simp
      · exact decB_len20 (by have := h n (by simp); omega)
    cases p with
    | nil => simp [subText, jn]; omega
    | cons m p =>
      have := ih fun x hx => h x (by simp at hx ⊢; exact .inr hx)
      simp only [subText, List.map_cons] at this ⊢
      rw [jn_cons (by simp)]
      simp only [List.length_append, List.length_cons] at this ⊢; omega
theorem parsText_len {ps : List (List Int)} (h : ∀ p ∈ ps, p.length ≤ 8 ∧ ∀ n ∈ p, n ≤ 1114111) : (parsText ps).length ≤ 161 * ps.length := by
  induction ps with
  | nil => simp [parsText, jn]
  | cons n p ih =>
    have h1 := subText_len (h n (by simp)).2
    have h2 := (h n (by simp)).1
    cases p with
    | nil => simp [parsText, jn]; omega
    | cons m p =>
      have := ih fun x hx => h x (by simp at hx ⊢; exact .inr hx)
      simp only [parsText, List.map_cons] at this ⊢
      rw [jn_cons (by simp)]
      simp only [List.length_append, List.length_cons] at this ⊢; omega

def upSub (p : List Int) (k : Nat) : List UInt8 := subText (p.take k)
def upPar (ps : List (List Int)) (i : Nat) : List UInt8 := parsText (ps.take i)
theorem upSub_succ {p : List Int} {k : Nat} (h : k < p.length) : upSub p (k + 1) = (if k = 0 then [] else upSub p k ++ [58]) ++ textZ p[k] := by
  unfold upSub subText
  rw [List.take_add_one, List.getElem?_eq_getElem h]
  by_cases hk : k = 0
  · subst hk; simp [jn]
  · have hne : (p.take k).map textZ ≠ [] := by simp; exact ⟨hk, fun e => by subst e; simp at h⟩
    rw [if_neg hk]
    simp only [Option.toList_some, List.map_append, List.map_cons, List.map_nil]
    rw [jn_snoc hne]; simp
theorem upPar_succ {ps : List (List Int)} {i : Nat} (h : i < ps.length) : upPar ps (i + 1) = (if i = 0 then [] else upPar ps i ++ [59]) ++ subText ps[i] := by
  unfold upPar parsText
  rw [List.take_add_one, List.getElem?_eq_getElem h]
  by_cases hk : i = 0
  · subst hk; simp [jn]
  · have hne : (ps.take i).map subText ≠ [] := by simp; exact ⟨hk, fun e => by subst e; simp at h⟩
    rw [if_neg hk]
    simp only [Option.toList_some, List.map_append, List.map_cons, List.map_nil]
    rw [jn_snoc hne]; simp
set_option maxHeartbeats 1000000 in
theorem fs_rBody {Gl : Gh → Prop} (hst : Stays Gl) {s : Sq} (hp0 : 0 ≤ s.pr) (hp1 : s.pr < 256) (hit : s.it.length ≤ 1000) (hn : s.ps.length ≤ 16) (hb : ∀ p ∈ s.ps, p.length ≤ 8 ∧ ∀ n ∈ p, n ≤ 1114111) : FS Tryd.prog Gl 17 [.agg s.c] [] [] (.str (bodyB s)) [] [] := by
  refine FS.of hm hst is_clavierref03body (by simp) fun γ hγ hfr => ?_
  obtain ⟨k, pr, ps, it, fi, da⟩ := s
  simp only at hp0 hp1 hit hn hb
  simp only [Sq.c, bodyB, parsV]
  simp only [Sq.c, parsV] at hfr
  obtain ⟨c, rfl⟩ := byteOf hp0 hp1
  (generalize hQ : (fun (ex : Ex) (_ _ : Nat) (s : St) => _) = Q; unfold ir_clavierref03body)
  simp +contextual (maxSteps := 1000000) only [go_sem, reduceCtorEq, ↓reduceIte, Nat.reduceAdd, Nat.reduceEqDiff, Nat.reduceLeDiff, Nat.reduceMul, Nat.reduceBEq, Int.reduceBEq, Int.reduceBNe, Int.reduceLT, Int.reduceLE, Int.reduceGT, Int.reduceGE, Int.reduceToNat]
  unfold ir_clavierref03body_t1
  simp +contextual (maxSteps := 1000000) only [go_sem, reduceCtorEq, ↓reduceIte, Nat.reduceAdd, Nat.reduceEqDiff, Nat.reduceLeDiff, Nat.reduceMul, Nat.reduceBEq, Int.reduceBEq, Int.reduceBNe, Int.reduceLT, Int.reduceLE, Int.reduceGT, Int.reduceGE, Int.reduceToNat]
  unfold ir_clavierref03body_t2
  simp +contextual (maxSteps := 1000000) only [go_sem, reduceCtorEq, ↓reduceIte, Nat.reduceAdd, Nat.reduceEqDiff, Nat.reduceLeDiff, Nat.reduceMul, Nat.reduceBEq, Int.reduceBEq, Int.reduceBNe, Int.reduceLT, Int.reduceLE, Int.reduceGT, Int.reduceGE, Int.reduceToNat]
  have hps : ∀ i, (upPar ps i).length ≤ 161 * 16 := fun i => by
    have := parsText_len (ps := ps.take i) fun p hp => hb p (List.mem_of_mem_take hp)
    have h2 : (ps.take i).length ≤ 16 := by rw [List.length_take]; omega
    unfold upPar; omega
  have hprl : (prB (c.toNat : Int)).length ≤ 1 := by unfold prB; split <;> simp
  have loop : ∀ F c0 t T, t = prB (c.toNat : Int) → F 1 = .ptr (γ, 0, 0) 0 → F 3 = .str t → aw Tryd.prog Gl ir_clavierref03body_t3 γ c0 ⟨F, [((γ, 0, 0), .cells [.int .i64 k, .int .u8 (c.toNat : Int), .sl none 1 (parsAV ps), .str it, .int .u8 fi, .str da])], T⟩ Q := by
    intro F c0 t T ht f1 f3
    subst ht
    unfold ir_clavierref03body_t3
    simp +contextual (maxSteps := 1000000) only [f1, f3, go_sem, reduceCtorEq, ↓reduceIte, Nat.reduceAdd, Nat.reduceEqDiff, Nat.reduceLeDiff, Nat.reduceMul, Nat.reduceBEq, Int.reduceBEq, Int.reduceBNe, Int.reduceLT, Int.reduceLE, Int.reduceGT, Int.reduceGE, Int.reduceToNat]
    refine kLoop_ix (fun i : Nat => ⟨lf [(1, .ptr (γ, 0, 0) 0), (3, .str (prB (c.toNat : Int) ++ upPar ps i)), (4, .int .i64 i)], [((γ, 0, 0), .cells [.int .i64 k, .int .u8 (c.toNat : Int), .sl none 1 (parsAV ps), .str it, .int .u8 fi, .str da])], fun x => x ∈ []⟩) (fun i => i ≤ ps.length) (fun i => ps.length - i) 0 0 (Wk.perm' ?_ (fun _ h => h) (fun _ h => by cases h)) (by simp) ?_
    · simp only [upPar, parsText, List.take_zero, List.map_nil, jn, List.append_nil]
      (simp only [lfOK, upd, initF]; repeat' first | exact AVle.refl _ _ | exact trivial | refine And.intro ?_ ?_ | exact AVle.int (by simp only [IntKind.wrap_i64]; omega))
    rintro γ' i hf hi
    generalize hQ' : kIt _ _ _ _ _ = Q'
    unfold ir_clavierref03body_l1
    by_cases hlt : i < ps.length
    · have hd : decide ((i : Int) < (ps.length : Int)) = true := by simp; omega
      have hg1 : (parsAV ps).getD i [] = [intsV ps[i]] := parsAV_get hlt
      have hpl := hb _ (List.getElem_mem hlt)
      have hw : IntKind.i64.wrap ((i : Int) + 1) = ((i + 1 : Nat) : Int) := by rw [IntKind.wrap_i64]; omega
      have hup := upPar_succ hlt
      have hi0 : decide ((i : Int) > 0) = !decide (i = 0) := by rw [Bool.eq_iff_iff]; simp; omega
      have hpi := hps i
      generalize ps[i] = p at hg1 hpl hup
      simp +contextual (maxSteps := 1000000) only [hd, hg1, parsAV_length, Int.toNat_natCast, hi0, go_sem, reduceCtorEq, ↓reduceIte, Nat.reduceAdd, Nat.reduceEqDiff, Nat.reduceLeDiff, Nat.reduceMul, Nat.reduceBEq, Int.reduceBEq, Int.reduceBNe, Int.reduceLT, Int.reduceLE, Int.reduceGT, Int.reduceGE, Int.reduceToNat]
      refine kCond_join (fun _ s' => s'.F 1 = .ptr (γ, 0, 0) 0 ∧ s'.F 3 = .str (prB (c.toNat : Int) ++ if i = 0 then [] else upPar ps i ++ [59]) ∧ s'.F 4 = .int .i64 i ∧ s'.H = [((γ, 0, 0), .cells [.int .i64 k, .int .u8 (c.toNat : Int), .sl none 1 (parsAV ps), .str it, .int .u8 fi, .str da])] ∧ s'.T = fun x => x ∈ []) (fun h => ?_) (fun h => ?_) fun c1 s' hs => ?_
      · simp +contextual (maxSteps := 1000000) only [go_sem, reduceCtorEq, ↓reduceIte, Nat.reduceAdd, Nat.reduceEqDiff, Nat.reduceLeDiff, Nat.reduceMul, Nat.reduceBEq, Int.reduceBEq, Int.reduceBNe, Int.reduceLT, Int.reduceLE, Int.reduceGT, Int.reduceGE, Int.reduceToNat]
        have h0 : i ≠ 0 := by simpa using h
        refine ⟨by simp only [List.length_append]; omega, ?_⟩
        simp only [if_neg h0, List.append_assoc]
      · simp +contextual (maxSteps := 1000000) only [go_sem, reduceCtorEq, ↓reduceIte, Nat.reduceAdd, Nat.reduceEqDiff, Nat.reduceLeDiff, Nat.reduceMul, Nat.reduceBEq, Int.reduceBEq, Int.reduceBNe, Int.reduceLT, Int.reduceLE, Int.reduceGT, Int.reduceGE, Int.reduceToNat]
        have h0 : i = 0 := by simpa using h
        subst h0
        simp [upPar, parsText, jn]
      obtain ⟨F, H, T⟩ := s'
      simp only at hs
      obtain ⟨f1, f3, f4, rfl, rfl⟩ := hs
      simp +contextual (maxSteps := 1000000) only [f1, f3, f4, go_sem, reduceCtorEq, ↓reduceIte, Nat.reduceAdd, Nat.reduceEqDiff, Nat.reduceLeDiff, Nat.reduceMul, Nat.reduceBEq, Int.reduceBEq, Int.reduceBNe, Int.reduceLT, Int.reduceLE, Int.reduceGT, Int.reduceGE, Int.reduceToNat]
      obtain ⟨B, hB⟩ : ∃ B, B = prB (c.toNat : Int) ++ if i = 0 then [] else upPar ps i ++ [59] := ⟨_, rfl⟩
      have hBl : B.length ≤ 5000 := by
        rw [hB]; split
        · simp; omega
        · simp; omega
      rw [← hB]
      have hsub : ∀ k, (upSub p k).length ≤ 160 := fun k => by
        have h1 := subText_len (p := p.take k) fun n hn => hpl.2 n (List.mem_of_mem_take hn)
        have h2 : (p.take k).length ≤ 8 := by rw [List.length_take]; omega
        unfold upSub; omega
      have hfin : prB (c.toNat : Int) ++ upPar ps (i + 1) = B ++ subText p := by rw [hup, hB, List.append_assoc]
      refine kLoop_ix (fun k2 : Nat => ⟨lf [(1, .ptr (γ, 0, 0) 0), (3, .str (B ++ upSub p k2)), (4, .int .i64 i), (5, .int .i64 k2)], [((γ, 0, 0), .cells [.int .i64 k, .int .u8 (c.toNat : Int), .sl none 1 (parsAV ps), .str it, .int .u8 fi, .str da])], fun x => x ∈ []⟩) (fun k2 => k2 ≤ p.length) (fun k2 => p.length - k2) 0 0 (Wk.same ?_) (by simp) ?_
      · simp only [upSub, subText, List.take_zero, List.map_nil, jn, List.append_nil]
        (simp only [lfOK, upd, initF]; repeat' first | exact AVle.refl _ _ | exact trivial | refine And.intro ?_ ?_ | exact AVle.int (by simp only [IntKind.wrap_i64]; omega))
      rintro γ2 k2 hf2 hk2
      generalize hQ2 : kIt _ _ _ _ _ = Q2
      unfold ir_clavierref03body_l0
      by_cases hlt2 : k2 < p.length
      · have hd2 : decide ((k2 : Int) < (p.length : Int)) = true := by simp; omega
        have hg2 : (intsAV p).getD k2 [] = [.int .i64 p[k2]] := intsAV_get hlt2
        have hw2 : IntKind.i64.wrap ((k2 : Int) + 1) = ((k2 + 1 : Nat) : Int) := by rw [IntKind.wrap_i64]; omega
        have hus := upSub_succ hlt2
        have hk0 : decide ((k2 : Int) > 0) = !decide (k2 = 0) := by rw [Bool.eq_iff_iff]; simp; omega
        have hx := hpl.2 _ (List.getElem_mem hlt2)
        have hsk := hsub k2
        generalize p[k2] = x at hg2 hus hx
        simp +contextual (maxSteps := 1000000) only [hd2, hg1, hg2, parsAV_length, Int.toNat_natCast, intsV, intsAV_length, hk0, go_sem, reduceCtorEq, ↓reduceIte, Nat.reduceAdd, Nat.reduceEqDiff, Nat.reduceLeDiff, Nat.reduceMul, Nat.reduceBEq, Int.reduceBEq, Int.reduceBNe, Int.reduceLT, Int.reduceLE, Int.reduceGT, Int.reduceGE, Int.reduceToNat]
        refine ⟨by omega, ?_⟩
        refine kCond_join (fun _ s' => s'.F 1 = .ptr (γ, 0, 0) 0 ∧ s'.F 3 = .str (B ++ if k2 = 0 then [] else upSub p k2 ++ [58]) ∧ s'.F 4 = .int .i64 i ∧ s'.F 5 = .int .i64 k2 ∧ s'.H = [((γ, 0, 0), .cells [.int .i64 k, .int .u8 (c.toNat : Int), .sl none 1 (parsAV ps), .str it, .int .u8 fi, .str da])] ∧ s'.T = fun x => x ∈ []) (fun h => ?_) (fun h => ?_) fun c1 s' hs => ?_
        · simp +contextual (maxSteps := 1000000) only [go_sem, reduceCtorEq, ↓reduceIte, Nat.reduceAdd, Nat.reduceEqDiff, Nat.reduceLeDiff, Nat.reduceMul, Nat.reduceBEq, Int.reduceBEq, Int.reduceBNe, Int.reduceLT, Int.reduceLE, Int.reduceGT, Int.reduceGE, Int.reduceToNat]
          have h0 : k2 ≠ 0 := by simpa using h
          refine ⟨by simp only [List.length_append]; omega, ?_⟩
          simp only [if_neg h0, List.append_assoc]
        · simp +contextual (maxSteps := 1000000) only [go_sem, reduceCtorEq, ↓reduceIte, Nat.reduceAdd, Nat.reduceEqDiff, Nat.reduceLeDiff, Nat.reduceMul, Nat.reduceBEq, Int.reduceBEq, Int.reduceBNe, Int.reduceLT, Int.reduceLE, Int.reduceGT, Int.reduceGE, Int.reduceToNat]
          have h0 : k2 = 0 := by simpa using h
          subst h0
          simp [upSub, subText, jn]
        obtain ⟨F, H, T⟩ := s'
        simp only at hs
        obtain ⟨f1, f3, f4, f5, rfl, rfl⟩ := hs
        simp +contextual (maxSteps := 1000000) only [f1, f3, f4, f5, hg1, hg2, parsAV_length, Int.toNat_natCast, intsV, intsAV_length, go_sem, reduceCtorEq, ↓reduceIte, Nat.reduceAdd, Nat.reduceEqDiff, Nat.reduceLeDiff, Nat.reduceMul, Nat.reduceBEq, Int.reduceBEq, Int.reduceBNe, Int.reduceLT, Int.reduceLE, Int.reduceGT, Int.reduceGE, Int.reduceToNat]
        refine ⟨by omega, by omega, ?_⟩
        refine CallP.pure (fs_rText hst (by omega)) (fun _ => rfl) ?_
        have hxl : (textZ x).length ≤ 19 := by
          unfold textZ; split
          · simp
          · exact decB_len20 (by omega)
        have hBk : (B ++ if k2 = 0 then [] else upSub p k2 ++ [58]).length ≤ 6000 := by
          split
          · simp; omega
          · simp; omega
        simp +contextual (maxSteps := 1000000) only [hw2, f1, f3, f4, f5, go_sem, reduceCtorEq, ↓reduceIte, Nat.reduceAdd, Nat.reduceEqDiff, Nat.reduceLeDiff, Nat.reduceMul, Nat.reduceBEq, Int.reduceBEq, Int.reduceBNe, Int.reduceLT, Int.reduceLE, Int.reduceGT, Int.reduceGE, Int.reduceToNat]
        refine ⟨by simp only [List.length_append] at hBk ⊢; omega, ?_⟩
        rw [← hQ2]
        simp only [w_kIt_n]
        refine ⟨0, k2 + 1, Wk.same ?_, by omega, by omega⟩
        refine ⟨AVle.refl _ _, AVle.str ?_, AVle.refl _ _, AVle.refl _ _, trivial⟩
        rw [hus, List.append_assoc]
      · have hd2 : decide ((k2 : Int) < (p.length : Int)) = false := by simp; omega
        simp +contextual (maxSteps := 1000000) only [hd2, hg1, parsAV_length, Int.toNat_natCast, intsV, intsAV_length, go_sem, reduceCtorEq, ↓reduceIte, Nat.reduceAdd, Nat.reduceEqDiff, Nat.reduceLeDiff, Nat.reduceMul, Nat.reduceBEq, Int.reduceBEq, Int.reduceBNe, Int.reduceLT, Int.reduceLE, Int.reduceGT, Int.reduceGE, Int.reduceToNat]
        refine ⟨by omega, ?_⟩
        rw [← hQ2]
        simp only [w_kIt_e, w_kBlk_e, ↓reduceIte]
        simp +contextual (maxSteps := 1000000) only [hw, go_sem, reduceCtorEq, ↓reduceIte, Nat.reduceAdd, Nat.reduceEqDiff, Nat.reduceLeDiff, Nat.reduceMul, Nat.reduceBEq, Int.reduceBEq, Int.reduceBNe, Int.reduceLT, Int.reduceLE, Int.reduceGT, Int.reduceGE, Int.reduceToNat]
        rw [← hQ']
        simp only [w_kIt_n]
        refine ⟨0, i + 1, Wk.same ?_, by omega, by omega⟩
        refine ⟨AVle.refl _ _, AVle.str ?_, AVle.refl _ _, trivial⟩
        rw [hfin]
        unfold upSub; rw [List.take_of_length_le (by omega)]
    · have hd : decide ((i : Int) < (ps.length : Int)) = false := by simp; omega
      simp +contextual (maxSteps := 1000000) only [hd, parsAV_length, go_sem, reduceCtorEq, ↓reduceIte, Nat.reduceAdd, Nat.reduceEqDiff, Nat.reduceLeDiff, Nat.reduceMul, Nat.reduceBEq, Int.reduceBEq, Int.reduceBNe, Int.reduceLT, Int.reduceLE, Int.reduceGT, Int.reduceGE, Int.reduceToNat]
      rw [← hQ']
      simp only [w_kIt_e, w_kBlk_e, ↓reduceIte]
      simp +contextual (maxSteps := 1000000) only [go_sem, reduceCtorEq, ↓reduceIte, Nat.reduceAdd, Nat.reduceEqDiff, Nat.reduceLeDiff, Nat.reduceMul, Nat.reduceBEq, Int.reduceBEq, Int.reduceBNe, Int.reduceLT, Int.reduceLE, Int.reduceGT, Int.reduceGE, Int.reduceToNat]
      unfold ir_clavierref03body_t4
      simp +contextual (maxSteps := 1000000) only [go_sem, reduceCtorEq, ↓reduceIte, Nat.reduceAdd, Nat.reduceEqDiff, Nat.reduceLeDiff, Nat.reduceMul, Nat.reduceBEq, Int.reduceBEq, Int.reduceBNe, Int.reduceLT, Int.reduceLE, Int.reduceGT, Int.reduceGE, Int.reduceToNat]
      have e : upPar ps i = parsText ps := by unfold upPar; rw [List.take_of_length_le (by omega)]
      have := hps i
      refine ⟨by simp only [List.length_append]; omega, ?_⟩
      rw [← hQ]
      refine ⟨trivial, Ret.flat ?_ rfl⟩
      rw [e]; rfl
  refine kCond_split (fun h => ?_) (fun h => ?_)
  · simp +contextual (maxSteps := 1000000) only [isByte_one, unbyte_c, go_sem, reduceCtorEq, ↓reduceIte, Nat.reduceAdd, Nat.reduceEqDiff, Nat.reduceLeDiff, Nat.reduceMul, Nat.reduceBEq, Int.reduceBEq, Int.reduceBNe, Int.reduceLT, Int.reduceLE, Int.reduceGT, Int.reduceGE, Int.reduceToNat]
    have h' : (c.toNat : Int).toNat.toUInt8 = c := by simp
    refine loop _ _ [c] _ ?_ ?_ ?_
    · simp only [prB, h, if_true, h']
    · rfl
    · rfl
  · simp +contextual (maxSteps := 1000000) only [go_sem, reduceCtorEq, ↓reduceIte, Nat.reduceAdd, Nat.reduceEqDiff, Nat.reduceLeDiff, Nat.reduceMul, Nat.reduceBEq, Int.reduceBEq, Int.reduceBNe, Int.reduceLT, Int.reduceLE, Int.reduceGT, Int.reduceGE, Int.reduceToNat]
    refine loop _ _ [] _ ?_ rfl rfl
    simp only [prB, h, Bool.false_eq_true, if_false]
end Go.Proofs.YtcdkcfpgdbjogaaDoor

namespace Go.Proofs.YtcdkcfpgdbjogaaDoor
open Go Go.Ab

structure Sq.sm (s : Sq) : Prop where
  ps : s.ps.length < 9223372036854775808
  pp : ∀ p ∈ s.ps, p.length < 9223372036854775808
  it : s.it.length < 9223372036854775808
  da : s.da.length < 9223372036854775808
theorem parsOk_len {l : List (List Int)} (h : parsOk l = true) : l.length ≤ 16 ∧ ∀ p ∈ l, p.length ≤ 8 := by
  simp only [parsOk, Bool.and_eq_true, Bool.not_eq_true', Bool.or_eq_false_iff, decide_eq_false_iff_not] at h
  obtain ⟨⟨h1, _⟩, h2⟩ := h
  refine ⟨by omega, fun p hp => ?_⟩
  have := List.any_eq_false.1 h2 p hp
  simp only [parBad, Bool.or_eq_true, decide_eq_true_eq, not_or] at this
  omega
theorem mayP_sm {s : Sq} (h : mayP s = 0) : s.sm ∧ s.ps.length ≤ 16 ∧ (∀ p ∈ s.ps, p.length ≤ 8) ∧ s.it.length ≤ 2 ∧ s.da.length ≤ 4096 := by
  simp only [mayP] at h
  split at h
  · cases h
  · rename_i h1
    split at h
    · cases h
    · rename_i h2
      simp only [Bool.or_eq_true, Bool.not_eq_true', not_or, Bool.not_eq_false, Bool.and_eq_true, decide_eq_true_eq] at h2 h1
      obtain ⟨⟨⟨⟨_, h3⟩, h4⟩, _⟩, _⟩ := h2
      obtain ⟨k1, k2⟩ := parsOk_len h4
      have k3 : s.it.length ≤ 2 := by have := h3.1; omega
      have k4 : s.da.length ≤ 4096 := by omega
      exact ⟨⟨by omega, fun p hp => by have := k2 p hp; omega, by omega, by omega⟩, k1, k2, k3, k4⟩

end Go.Proofs.YtcdkcfpgdbjogaaDoor

namespace Go.Proofs.YtcdkcfpgdbjogaaDoor
open Go Go.Ab
def ir_clavierref03Put : ICode :=
 (.seq
 (.reg [⟨some 1, none, .box 24 (.t 0)⟩,
 ⟨some 2, none, .mov (.c .nils)⟩,
 ⟨some 3, none, .mov (.c (.int .i64 0))⟩] (some [1]))
 (.seq
 (.reg [⟨some 6, none, .ld (some 6) (.t 1)⟩,
 ⟨some 7, none, .call (.c (.fn (.func 10) [] [])) [(.t 6)]⟩,
 ⟨some 4, none, .mov (.t 7)⟩] (some [1, 4]))
 (.seq
 (.seq
 (.reg [⟨some 8, none, .mov (.t 4)⟩,
 ⟨some 9, none, .bin .neq .none (.t 8) (.c (.int .i64 0))⟩] (some [1, 4, 9]))
 (.cond (.t 9)
 (.seq
 (.reg [⟨some 10, none, .mov (.t 4)⟩,
 ⟨some 2, none, .mov (.c .nils)⟩,
 ⟨some 3, none, .mov (.t 10)⟩] (some [2, 3]))
 .ret)
 .skip))
 (.seq
 (.reg [⟨some 11, none, .fa 4 (.t 1)⟩,
 ⟨some 12, none, .ld none (.t 11)⟩,
 ⟨some 13, none, .row 5 1 [(.t 12)]⟩,
 ⟨some 14, none, .b2s (.t 13)⟩,
 ⟨some 5, none, .mov (.t 14)⟩] (some [1, 5]))
 (.seq
 (.seq
 (.reg [⟨some 15, none, .fa 0 (.t 1)⟩,
 ⟨some 16, none, .ld none (.t 15)⟩] (some [1, 5, 16]))
 (.blk 0
 (.seq
 (.reg [⟨some 18, none, .bin .eql .none (.t 16) (.c (.int .i64 1))⟩,
 ⟨some 17, none, .mov (.t 18)⟩] (some [1, 5, 16, 17]))
 (.cond (.t 17)
 (.seq
 (.reg [⟨some 19, none, .ld (some 6) (.t 1)⟩,
 ⟨some 20, none, .call (.c (.fn (.func 17) [] [])) [(.t 19)]⟩,
 ⟨some 21, none, .bin .add .none (.c (.str [27, 91])) (.t 20)⟩,
 ⟨some 22, none, .mov (.t 5)⟩,
 ⟨some 23, none, .bin .add .none (.t 21) (.t 22)⟩,
 ⟨some 24, none, .s2b 5 (.t 23)⟩,
 ⟨some 2, none, .mov (.t 24)⟩,
 ⟨some 3, none, .mov (.c (.int .i64 0))⟩] (some [2, 3]))
 .ret)
 (.seq
 (.reg [⟨some 26, none, .bin .eql .none (.t 16) (.c (.int .i64 2))⟩,
 ⟨some 25, none, .mov (.t 26)⟩] (some [1, 5, 16, 25]))
 (.cond (.t 25)
 (.seq
 (.reg [⟨some 27, none, .mov (.t 5)⟩,
 ⟨some 28, none, .bin .add .none (.c (.str [27, 79])) (.t 27)⟩,
 ⟨some 29, none, .s2b 5 (.t 28)⟩,
 ⟨some 2, none, .mov (.t 29)⟩,
 ⟨some 3, none, .mov (.c (.int .i64 0))⟩] (some [2, 3]))
 .ret)
 (.seq
 (.reg [⟨some 31, none, .bin .eql .none (.t 16) (.c (.int .i64 3))⟩,
 ⟨some 30, none, .mov (.t 31)⟩] (some [1, 5, 16, 30]))
 (.cond (.t 30)
 (.seq
 (.drw [⟨⟨some 32, none, .ld (some 6) (.t 1)⟩, []⟩,
 ⟨⟨some 33, none, .call (.c (.fn (.func 17) [] [])) [(.t 32)]⟩, [0]⟩,
 ⟨⟨some 34, none, .bin .add .none (.c (.str [27, 80])) (.t 33)⟩, [1]⟩,
 ⟨⟨some 35, none, .mov (.t 5)⟩, []⟩,
 ⟨⟨some 36, none, .bin .add .none (.t 34) (.t 35)⟩, [2, 3]⟩,
 ⟨⟨some 37, none, .fa 5 (.t 1)⟩, []⟩,
 ⟨⟨some 38, none, .ld none (.t 37)⟩, [5]⟩,
 ⟨⟨some 39, none, .bin .add .none (.t 36) (.t 38)⟩, [4, 6]⟩,
 ⟨⟨some 40, none, .bin .add .none (.t 39) (.c (.str [27, 92]))⟩, [7]⟩,
 ⟨⟨some 41, none, .s2b 5 (.t 40)⟩, [8]⟩]
 [⟨some 2, none, .mov (.t 41)⟩,
 ⟨some 3, none, .mov (.c (.int .i64 0))⟩] (some [2, 3]))
 .ret)
 (.seq
 (.reg [⟨some 43, none, .bin .eql .none (.t 16) (.c (.int .i64 4))⟩,
 ⟨some 42, none, .mov (.t 43)⟩] (some [1, 5, 42]))
 (.cond (.t 42)
 (.seq
 (.reg [⟨some 44, none, .fa 5 (.t 1)⟩,
 ⟨some 45, none, .ld none (.t 44)⟩,
 ⟨some 46, none, .bin .add .none (.c (.str [27, 93])) (.t 45)⟩,
 ⟨some 47, none, .bin .add .none (.t 46) (.c (.str [27, 92]))⟩,
 ⟨some 48, none, .s2b 5 (.t 47)⟩,
 ⟨some 2, none, .mov (.t 48)⟩,
 ⟨some 3, none, .mov (.c (.int .i64 0))⟩] (some [2, 3]))
 .ret)
 .skip))))))))))
 (.seq
 (.reg [⟨some 49, none, .fa 3 (.t 1)⟩,
 ⟨some 50, none, .ld none (.t 49)⟩,
 ⟨some 51, none, .bin .add .none (.c (.str [27])) (.t 50)⟩,
 ⟨some 52, none, .mov (.t 5)⟩,
 ⟨some 53, none, .bin .add .none (.t 51) (.t 52)⟩,
 ⟨some 54, none, .s2b 5 (.t 53)⟩,
 ⟨some 2, none, .mov (.t 54)⟩,
 ⟨some 3, none, .mov (.c (.int .i64 0))⟩] (some [2, 3]))
 .ret))))))
theorem is_clavierref03Put : IrOf Tryd.prog 8 55 ir_clavierref03Put [.t 2, .t 3] := ⟨_, Tryd.func8, rfl, by kernel_rfl, by kernel_rfl, by kernel_rfl⟩

def putB (s : Sq) : List UInt8 :=
  let f := [s.fi.toNat.toUInt8]
  if (s.k == 1) = true then [27, 91] ++ bodyB s ++ f
  else if (s.k == 2) = true then [27, 79] ++ f
  else if (s.k == 3) = true then [27, 80] ++ bodyB s ++ f ++ s.da ++ [27, 92]
  else if (s.k == 4) = true then [27, 93] ++ s.da ++ [27, 92]
  else [27] ++ s.it ++ f
def putV (s : Sq) : AV := if (mayP s != 0) = true then .nils else .sl none 1 (bytesAV (putB s))
theorem bodyB_len {s : Sq} (h : mayP s = 0) : (bodyB s).length ≤ 3000 := by
  obtain ⟨_, h1, h2, h3, h4⟩ := mayP_sm h
  have h5 : parsOk s.ps = true := by
    simp only [mayP] at h
    split at h
    · cases h
    · split at h
      · cases h
      · rename_i h2
        simp only [Bool.or_eq_true, Bool.not_eq_true', not_or, Bool.not_eq_false] at h2
        exact h2.1.1.2
  have := parsText_len (ps := s.ps) fun p hp => ⟨((parsOk_iff h5).2.2 p hp).2.1, fun n hn => (((parsOk_iff h5).2.2 p hp).2.2 n hn).2⟩
  have h6 : (prB s.pr).length ≤ 1 := by unfold prB; split <;> simp
  simp only [bodyB, List.length_append]; omega
theorem may_pars {s : Sq} (h : mayP s = 0) : parsOk s.ps = true := by
  simp only [mayP] at h
  split at h
  · cases h
  · split at h
    · cases h
    · rename_i h2
      simp only [Bool.or_eq_true, Bool.not_eq_true', not_or, Bool.not_eq_false] at h2
      exact h2.1.1.2
set_option maxHeartbeats 1000000 in
theorem fs_rPut {Gl : Gh → Prop} (hst : Stays Gl) {s : Sq} (hp0 : 0 ≤ s.pr) (hp1 : s.pr < 256) (hf0 : 0 ≤ s.fi) (hf1 : s.fi < 256) (h : s.sm) : FS Tryd.prog Gl 8 [.agg s.c] [] [] (.tup [putV s, .int .i64 (mayP s)]) [] [] := by
  have c1 := fs_rMay hst hf0 hf1 h.ps h.pp h.it h.da
  refine FS.of hm hst is_clavierref03Put (by simp) fun γ hγ hfr => ?_
  have hbody : mayP s = 0 → FS Tryd.prog Gl 17 [.agg s.c] [] [] (.str (bodyB s)) [] [] := fun hz => by
    obtain ⟨_, a1, a2, a3, a4⟩ := mayP_sm hz
    exact fs_rBody hst hp0 hp1 (by omega) a1 fun p hp => ⟨a2 p hp, fun n hn => (((parsOk_iff (may_pars hz)).2.2 p hp).2.2 n hn).2⟩
  have hbl : mayP s = 0 → (bodyB s).length ≤ 3000 := bodyB_len
  have hda : mayP s = 0 → s.da.length ≤ 4096 := fun hz => (mayP_sm hz).2.2.2.2
  have hil : mayP s = 0 → s.it.length ≤ 2 := fun hz => (mayP_sm hz).2.2.2.1
  have hput : putB s = (if (s.k == 1) = true then [27, 91] ++ bodyB s ++ [s.fi.toNat.toUInt8]
    else if (s.k == 2) = true then [27, 79] ++ [s.fi.toNat.toUInt8]
    else if (s.k == 3) = true then [27, 80] ++ bodyB s ++ [s.fi.toNat.toUInt8] ++ s.da ++ [27, 92]
    else if (s.k == 4) = true then [27, 93] ++ s.da ++ [27, 92]
    else [27] ++ s.it ++ [s.fi.toNat.toUInt8]) := rfl
  have hpv : putV s = if (mayP s != 0) = true then .nils else .sl none 1 (bytesAV (putB s)) := rfl
  obtain ⟨k, pr, ps, it, fi, da⟩ := s
  simp only at hp0 hp1 hf0 hf1 hda hil hput
  obtain ⟨c, rfl⟩ := byteOf hf0 hf1
  have hcc : (c.toNat : Int).toNat.toUInt8 = c := by simp
  rw [hcc] at hput
  generalize mayP _ = e at *
  generalize putV _ = pvv at *
  generalize putB _ = pb at *
  generalize bodyB _ = bb at *
  simp only [Sq.c] at c1 hbody hfr ⊢
  (generalize hQ : (fun (ex : Ex) (_ _ : Nat) (s : St) => _) = Q; unfold ir_clavierref03Put)
  simp +contextual (maxSteps := 1000000) only [go_sem, reduceCtorEq, ↓reduceIte, Nat.reduceAdd, Nat.reduceEqDiff, Nat.reduceLeDiff, Nat.reduceMul, Nat.reduceBEq, Int.reduceBEq, Int.reduceBNe, Int.reduceLT, Int.reduceLE, Int.reduceGT, Int.reduceGE, Int.reduceToNat]
  refine CallP.pure c1 (fun _ => rfl) ?_
  simp +contextual (maxSteps := 1000000) only [go_sem, reduceCtorEq, ↓reduceIte, Nat.reduceAdd, Nat.reduceEqDiff, Nat.reduceLeDiff, Nat.reduceMul, Nat.reduceBEq, Int.reduceBEq, Int.reduceBNe, Int.reduceLT, Int.reduceLE, Int.reduceGT, Int.reduceGE, Int.reduceToNat]
  refine kCond_split (fun h1 => ?_) (fun h1 => ?_)
  · simp +contextual (maxSteps := 1000000) only [go_sem, reduceCtorEq, ↓reduceIte, Nat.reduceAdd, Nat.reduceEqDiff, Nat.reduceLeDiff, Nat.reduceMul, Nat.reduceBEq, Int.reduceBEq, Int.reduceBNe, Int.reduceLT, Int.reduceLE, Int.reduceGT, Int.reduceGE, Int.reduceToNat]
    rw [← hQ, hpv, if_pos h1]
    exact ⟨trivial, Ret.flat2⟩
  have hz : e = 0 := by simpa using h1
  have c2 := hbody hz
  have hbl := hbl hz
  have hda := hda hz
  have hil := hil hz
  rw [if_neg (by rw [h1]; exact Bool.false_ne_true)] at hpv
  clear c1 hbody h1
  simp +contextual (maxSteps := 1000000) only [isByte_one, unbyte_c, go_sem, reduceCtorEq, ↓reduceIte, Nat.reduceAdd, Nat.reduceEqDiff, Nat.reduceLeDiff, Nat.reduceMul, Nat.reduceBEq, Int.reduceBEq, Int.reduceBNe, Int.reduceLT, Int.reduceLE, Int.reduceGT, Int.reduceGE, Int.reduceToNat]
  refine kCond_split (fun h1 => ?_) (fun h1 => ?_)
  · rw [if_pos h1] at hput
    simp +contextual (maxSteps := 1000000) only [go_sem, reduceCtorEq, ↓reduceIte, Nat.reduceAdd, Nat.reduceEqDiff, Nat.reduceLeDiff, Nat.reduceMul, Nat.reduceBEq, Int.reduceBEq, Int.reduceBNe, Int.reduceLT, Int.reduceLE, Int.reduceGT, Int.reduceGE, Int.reduceToNat]
    refine CallP.pure c2 (fun _ => rfl) ?_
    simp +contextual (maxSteps := 1000000) only [go_sem, reduceCtorEq, ↓reduceIte, Nat.reduceAdd, Nat.reduceEqDiff, Nat.reduceLeDiff, Nat.reduceMul, Nat.reduceBEq, Int.reduceBEq, Int.reduceBNe, Int.reduceLT, Int.reduceLE, Int.reduceGT, Int.reduceGE, Int.reduceToNat]
    refine ⟨by omega, by omega, by simp only [maxLen, List.length_append, List.length_cons, List.length_nil]; omega, ?_⟩
    rw [← hQ, hpv, hput, hz]
    exact ⟨trivial, Ret.flat2⟩
  rw [if_neg (by rw [h1]; exact Bool.false_ne_true)] at hput
  simp +contextual (maxSteps := 1000000) only [go_sem, reduceCtorEq, ↓reduceIte, Nat.reduceAdd, Nat.reduceEqDiff, Nat.reduceLeDiff, Nat.reduceMul, Nat.reduceBEq, Int.reduceBEq, Int.reduceBNe, Int.reduceLT, Int.reduceLE, Int.reduceGT, Int.reduceGE, Int.reduceToNat]
  refine kCond_split (fun h2 => ?_) (fun h2 => ?_)
  · rw [if_pos h2] at hput
    simp +contextual (maxSteps := 1000000) only [go_sem, reduceCtorEq, ↓reduceIte, Nat.reduceAdd, Nat.reduceEqDiff, Nat.reduceLeDiff, Nat.reduceMul, Nat.reduceBEq, Int.reduceBEq, Int.reduceBNe, Int.reduceLT, Int.reduceLE, Int.reduceGT, Int.reduceGE, Int.reduceToNat]
    refine ⟨by decide, ?_⟩
    rw [← hQ, hpv, hput, hz]
    exact ⟨trivial, Ret.flat2⟩
  rw [if_neg (by rw [h2]; exact Bool.false_ne_true)] at hput
  simp +contextual (maxSteps := 1000000) only [go_sem, reduceCtorEq, ↓reduceIte, Nat.reduceAdd, Nat.reduceEqDiff, Nat.reduceLeDiff, Nat.reduceMul, Nat.reduceBEq, Int.reduceBEq, Int.reduceBNe, Int.reduceLT, Int.reduceLE, Int.reduceGT, Int.reduceGE, Int.reduceToNat]
  refine kCond_split (fun h3 => ?_) (fun h3 => ?_)
  · rw [if_pos h3] at hput
    simp +contextual (maxSteps := 1000000) only [go_sem, reduceCtorEq, ↓reduceIte, Nat.reduceAdd, Nat.reduceEqDiff, Nat.reduceLeDiff, Nat.reduceMul, Nat.reduceBEq, Int.reduceBEq, Int.reduceBNe, Int.reduceLT, Int.reduceLE, Int.reduceGT, Int.reduceGE, Int.reduceToNat]
    refine DCall.new c2 ?_
    simp +contextual (maxSteps := 1000000) only [go_sem, reduceCtorEq, ↓reduceIte, Nat.reduceAdd, Nat.reduceEqDiff, Nat.reduceLeDiff, Nat.reduceMul, Nat.reduceBEq, Int.reduceBEq, Int.reduceBNe, Int.reduceLT, Int.reduceLE, Int.reduceGT, Int.reduceGE, Int.reduceToNat]
    refine ⟨by omega, by omega, by simp only [maxLen, List.length_append, List.length_cons, List.length_nil]; omega, by simp only [maxLen, List.length_append, List.length_cons, List.length_nil]; omega, by simp only [maxLen, List.length_append, List.length_cons, List.length_nil]; omega, ?_⟩
    rw [← hQ, hpv, hput, hz]
    exact ⟨trivial, Ret.flat2⟩
  rw [if_neg (by rw [h3]; exact Bool.false_ne_true)] at hput
  simp +contextual (maxSteps := 1000000) only [go_sem, reduceCtorEq, ↓reduceIte, Nat.reduceAdd, Nat.reduceEqDiff, Nat.reduceLeDiff, Nat.reduceMul, Nat.reduceBEq, Int.reduceBEq, Int.reduceBNe, Int.reduceLT, Int.reduceLE, Int.reduceGT, Int.reduceGE, Int.reduceToNat]
  refine kCond_split (fun h4 => ?_) (fun h4 => ?_)
  · rw [if_pos h4] at hput
    simp +contextual (maxSteps := 1000000) only [go_sem, reduceCtorEq, ↓reduceIte, Nat.reduceAdd, Nat.reduceEqDiff, Nat.reduceLeDiff, Nat.reduceMul, Nat.reduceBEq, Int.reduceBEq, Int.reduceBNe, Int.reduceLT, Int.reduceLE, Int.reduceGT, Int.reduceGE, Int.reduceToNat]
    refine ⟨by omega, by omega, by simp only [maxLen, List.length_append, List.length_cons, List.length_nil]; omega, ?_⟩
    rw [← hQ, hpv, hput, hz]
    exact ⟨trivial, Ret.flat2⟩
  rw [if_neg (by rw [h4]; exact Bool.false_ne_true)] at hput
  simp +contextual (maxSteps := 1000000) only [go_sem, reduceCtorEq, ↓reduceIte, Nat.reduceAdd, Nat.reduceEqDiff, Nat.reduceLeDiff, Nat.reduceMul, Nat.reduceBEq, Int.reduceBEq, Int.reduceBNe, Int.reduceLT, Int.reduceLE, Int.reduceGT, Int.reduceGE, Int.reduceToNat]
  refine ⟨by omega, by omega, by simp only [maxLen, List.length_append, List.length_cons, List.length_nil]; omega, ?_⟩
  rw [← hQ, hpv, hput, hz]
  exact ⟨trivial, Ret.flat2⟩
end Go.Proofs.YtcdkcfpgdbjogaaDoor

namespace Go.Proofs.YtcdkcfpgdbjogaaDoor
open Go Go.Ab

structure MayF (s : Sq) : Prop where
  pr : s.pr = 0 ∨ 60 ≤ s.pr ∧ s.pr ≤ 63
  il : s.it.length ≤ 2
  it : ∀ c ∈ s.it, 32 ≤ c.toNat ∧ c.toNat < 48
  ps : parsOk s.ps = true
  dl : s.da.length ≤ 4096
  da : ∀ c ∈ s.da, 32 ≤ c.toNat ∧ c.toNat < 127
  sh : shapedP s = true
theorem mayF {s : Sq} (h : mayP s = 0) : MayF s := by
  simp only [mayP] at h
  split at h
  · cases h
  rename_i h1
  split at h
  · cases h
  rename_i h2
  simp only [Bool.or_eq_true, Bool.not_eq_true', not_or, Bool.not_eq_false, Bool.and_eq_true, decide_eq_true_eq, beq_iff_eq] at h2 h1
  obtain ⟨⟨⟨⟨h3, h4⟩, h5⟩, h6⟩, h7⟩ := h2
  refine ⟨by omega, by omega, fun c hc => ?_, h5, by omega, fun c hc => ?_, h7⟩
  · have := List.all_eq_true.1 h4.2 c hc
    simp only [Bool.and_eq_true, decide_eq_true_eq] at this; omega
  · have := List.all_eq_true.1 h6 c hc
    simp only [Bool.and_eq_true, decide_eq_true_eq] at this; omega

def runL (x y : Nat) (l : List UInt8) : List UInt8 := l.takeWhile fun c => decide (x ≤ c.toNat) && decide (c.toNat ≤ y)
theorem runL_nil {x y : Nat} {r : List UInt8} (h : ∀ c, r.head? = some c → ¬(x ≤ c.toNat ∧ c.toNat ≤ y)) : runL x y r = [] := by
  cases r with
  | nil => rfl
  | cons c r =>
    have := h c rfl
    unfold runL
    rw [List.takeWhile_cons, if_neg]
    simpa using this
theorem runL_app {x y : Nat} : ∀ {a r : List UInt8}, (∀ c ∈ a, x ≤ c.toNat ∧ c.toNat ≤ y) → (∀ c, r.head? = some c → ¬(x ≤ c.toNat ∧ c.toNat ≤ y)) → runL x y (a ++ r) = a
  | [], r, _, h => runL_nil h
  | c :: a, r, ha, h => by
    have := ha c (by simp)
    unfold runL
    rw [List.cons_append, List.takeWhile_cons, if_pos (by simpa using this)]
    congr 1
    exact runL_app (fun d hd => ha d (by simp [hd])) h
theorem runL_le (x y : Nat) (l : List UInt8) : (runL x y l).length ≤ l.length := by
  unfold runL
  exact (List.takeWhile_prefix _).length_le
def numW (t : List UInt8) : Int := if t = [] then -1 else ((takeN t 0 0).1 : Int)
def subsW (p : List UInt8) : List Int := (splitB 58 p).map numW
def numsW (t : List UInt8) : List (List Int) := if t = [] then [] else (splitB 59 t).map subsW
theorem numW_text {n : Int} (h1 : -1 ≤ n) (h2 : n ≤ 1114111) : numW (textZ n) = n := by
  unfold textZ
  split
  · have : n = -1 := by omega
    subst this; rfl
  · have := takeN_dec n.toNat [] 0 (by omega)
    rw [List.append_nil] at this
    unfold numW
    rw [if_neg (decB_ne _), this]
    simp only [takeN]
    omega
theorem subsW_text {p : List Int} (hp : p ≠ []) (h : ∀ n ∈ p, -1 ≤ n ∧ n ≤ 1114111) : subsW (subText p) = p := by
  unfold subsW subText
  rw [splitB_jn (by simpa using hp)]
  · rw [List.map_map]
    conv => rhs; rw [← List.map_id p]
    exact List.map_congr_left fun n hn => numW_text (h n hn).1 (h n hn).2
  · intro x hx hc
    obtain ⟨n, _, rfl⟩ := List.mem_map.1 hx
    exact fig_not (textZ_figs n _ hc) (by decide) rfl
theorem numsW_text {ps : List (List Int)} (h : parsOk ps = true) : numsW (parsText ps) = ps := by
  obtain ⟨a, b, c⟩ := parsOk_iff h
  have d : ∀ p ∈ ps, p ≠ [] ∧ ∀ n ∈ p, -1 ≤ n := fun p hp => ⟨(c p hp).1, fun n hn => ((c p hp).2.2 n hn).1⟩
  unfold numsW
  split
  · rename_i e
    rcases (parsText_nil d).1 e with e | e
    · exact e.symm
    · exact absurd e b
  · rename_i e
    have hne : ps ≠ [] := fun e' => e (by rw [e']; rfl)
    unfold parsText
    rw [splitB_jn (by simpa using hne)]
    · rw [List.map_map]
      conv => rhs; rw [← List.map_id ps]
      exact List.map_congr_left fun p hq => subsW_text (c p hq).1 (c p hq).2.2
    · intro x hx hc
      obtain ⟨p, _, rfl⟩ := List.mem_map.1 hx
      rcases subText_mem hc with h | h
      · cases h
      · cases h
def isPr (c : UInt8) : Bool := decide (60 ≤ c.toNat) && decide (c.toNat ≤ 63)
def headW (l : List UInt8) : Int × List (List Int) × Nat :=
  let k := if isPr (l.headD 0) = true then 1 else 0
  let t := runL 48 59 (l.drop k)
  (if isPr (l.headD 0) = true then ((l.headD 0).toNat : Int) else 0, numsW t, k + t.length)
def restW (l : List UInt8) : List UInt8 × Int × Nat :=
  let it := runL 32 47 l
  (it, (((l.drop it.length).headD 0).toNat : Int), it.length + 1)
def zeroSq : Sq := ⟨0, 0, [], [], 0, []⟩
def readW (b : List UInt8) : Sq × Nat :=
  if b.headD 0 ≠ 27 then (zeroSq, 1)
  else
    let l := b.drop 1
    if l.headD 0 = 91 then
      let h := headW (b.drop 2)
      let r := restW (b.drop (2 + h.2.2))
      (⟨1, h.1, h.2.1, r.1, r.2.1, []⟩, 2 + h.2.2 + r.2.2)
    else if l.headD 0 = 79 then (⟨2, 0, [], [], ((b.drop 2).headD 0).toNat, []⟩, 3)
    else if l.headD 0 = 80 then
      let h := headW (b.drop 2)
      let r := restW (b.drop (2 + h.2.2))
      let d := runL 32 126 (b.drop (2 + h.2.2 + r.2.2))
      (⟨3, h.1, h.2.1, r.1, r.2.1, d⟩, 2 + h.2.2 + r.2.2 + d.length + 2)
    else if l.headD 0 = 93 then
      let d := runL 32 126 (b.drop 2)
      (⟨4, 0, [], [], 0, d⟩, 2 + d.length + 2)
    else
      let r := restW l
      (⟨5, 0, [], r.1, r.2.1, []⟩, 1 + r.2.2)
theorem head_app {a r : List UInt8} {c : UInt8} (h : (a ++ r).head? = some c) : c ∈ a ∨ (a = [] ∧ r.head? = some c) := by
  cases a with
  | nil => exact .inr ⟨rfl, h⟩
  | cons x a => simp at h; subst h; exact .inl (by simp)
theorem headW_put {s : Sq} (h : MayF s) {f : UInt8} {r : List UInt8} (hf : 64 ≤ f.toNat) : headW (bodyB s ++ f :: r) = (s.pr, s.ps, (prB s.pr).length + (parsText s.ps).length) := by
  have hp : ∀ c ∈ parsText s.ps, 48 ≤ c.toNat ∧ c.toNat ≤ 59 := fun c hc => by have := parsText_mem hc; omega
  have hi : ∀ c, (s.it ++ f :: r).head? = some c → ¬(48 ≤ c.toNat ∧ c.toNat ≤ 59) ∧ ¬(60 ≤ c.toNat ∧ c.toNat ≤ 63) := fun c hc => by
    rcases head_app hc with h1 | ⟨_, h1⟩
    · have := h.it c h1; omega
    · simp at h1; subst h1; omega
  have hrun : runL 48 59 (parsText s.ps ++ (s.it ++ f :: r)) = parsText s.ps := runL_app hp fun c hc => (hi c hc).1
  have hnum := numsW_text h.ps
  unfold bodyB
  rw [List.append_assoc, List.append_assoc]
  rcases h.pr with h0 | ⟨h1, h2⟩
  · have hb : prB s.pr = [] := by rw [h0]; rfl
    have hpr : isPr ((parsText s.ps ++ (s.it ++ f :: r)).headD 0) = false := by
      cases hh : (parsText s.ps ++ (s.it ++ f :: r)).head? with
      | none => rw [List.headD_eq_head?_getD, hh]; rfl
      | some c =>
        rw [List.headD_eq_head?_getD, hh, Option.getD_some]
        unfold isPr
        rw [Bool.and_eq_false_iff, decide_eq_false_iff_not, decide_eq_false_iff_not]
        rcases head_app hh with h3 | ⟨_, h3⟩
        · have := hp c h3; omega
        · have := (hi c h3).2; omega
    rw [hb, List.nil_append]
    unfold headW
    rw [hpr]
    simp only [Bool.false_eq_true, if_false, List.drop_zero, hrun, hnum, h0, List.length_nil]
  · have hne : (s.pr != 0) = true := by rw [bne_iff_ne]; omega
    have hb : prB s.pr = [s.pr.toNat.toUInt8] := by unfold prB; rw [if_pos hne]
    have hc : (s.pr.toNat.toUInt8).toNat = s.pr.toNat := by
      rw [Nat.toUInt8_eq, UInt8.toNat_ofNat', Nat.mod_eq_of_lt (by omega)]
    have hpr : isPr (s.pr.toNat.toUInt8) = true := by
      unfold isPr
      rw [hc, Bool.and_eq_true, decide_eq_true_eq, decide_eq_true_eq]; omega
    rw [hb]
    unfold headW
    simp only [List.cons_append, List.nil_append, List.headD_cons, hpr, if_true, List.drop_succ_cons, List.drop_zero, hrun, hnum, hc, List.length_cons, List.length_nil]
    rw [show ((s.pr.toNat : Nat) : Int) = s.pr by omega]
theorem restW_put {it : List UInt8} (hit : ∀ c ∈ it, 32 ≤ c.toNat ∧ c.toNat < 48) {f : UInt8} {r : List UInt8} (hf : 48 ≤ f.toNat) : restW (it ++ f :: r) = (it, (f.toNat : Int), it.length + 1) := by
  have hrun : runL 32 47 (it ++ f :: r) = it := runL_app (fun c hc => by have := hit c hc; omega) fun c hc => by simp at hc; subst hc; omega
  unfold restW
  simp only [hrun, List.drop_left, List.headD_cons]
theorem body_len (s : Sq) : (bodyB s).length = (prB s.pr).length + (parsText s.ps).length + s.it.length := by
  unfold bodyB; simp only [List.length_append]
theorem readW_put {s : Sq} (hm : mayP s = 0) (more : List UInt8) : readW (putB s ++ more) = (s, (putB s).length) := by
  have h := mayF hm
  have hsh := h.sh
  have hbl := body_len s
  have fin : 0 ≤ s.fi → s.fi ≤ 126 → ((s.fi.toNat.toUInt8).toNat : Int) = s.fi ∧ (s.fi.toNat.toUInt8).toNat = s.fi.toNat := fun h0 h1 => by
    have : (s.fi.toNat.toUInt8).toNat = s.fi.toNat := by rw [Nat.toUInt8_eq, UInt8.toNat_ofNat', Nat.mod_eq_of_lt (by omega)]
    exact ⟨by rw [this]; omega, this⟩
  have hdr : ∀ (a b : List UInt8), a.length = (prB s.pr).length + (parsText s.ps).length → a ++ b = b → True := fun _ _ _ _ => trivial
  have hbody : ∀ t : List UInt8, (bodyB s ++ t).drop ((prB s.pr).length + (parsText s.ps).length) = s.it ++ t := fun t => by
    unfold bodyB
    rw [List.append_assoc, ← List.length_append]
    exact List.drop_left
  unfold shapedP at hsh
  split at hsh
  · rename_i hk
    simp only [Bool.and_eq_true, decide_eq_true_eq] at hsh
    obtain ⟨⟨hda, hf1⟩, hf2⟩ := hsh
    obtain ⟨e1, e2⟩ := fin (by omega) hf2
    have hput : putB s = [27, 91] ++ bodyB s ++ [s.fi.toNat.toUInt8] := by unfold putB; rw [if_pos (by rw [hk]; rfl)]
    rw [hput]
    have hH := headW_put h (f := s.fi.toNat.toUInt8) (r := more) (by omega)
    have hR := restW_put h.it (f := s.fi.toNat.toUInt8) (r := more) (by omega)
    have hd : ([27, 91] ++ bodyB s ++ [s.fi.toNat.toUInt8] ++ more).drop 2 = bodyB s ++ s.fi.toNat.toUInt8 :: more := by simp
    have hd2 : ([27, 91] ++ bodyB s ++ [s.fi.toNat.toUInt8] ++ more).drop (2 + ((prB s.pr).length + (parsText s.ps).length)) = s.it ++ s.fi.toNat.toUInt8 :: more := by
      rw [← List.drop_drop, hd, hbody]
    unfold readW
    rw [if_neg (by simp)]
    simp only
    rw [if_pos (by simp), hd, hH]
    simp only
    rw [hd2, hR]
    simp only [e1, Prod.mk.injEq]
    refine ⟨?_, ?_⟩
    · obtain ⟨k, pr, ps, it, fi, da⟩ := s
      simp only at hk hda ⊢
      subst hk hda; rfl
    · simp only [List.length_append, List.length_cons, List.length_nil]; omega
  · rename_i hk1
    split at hsh
    · rename_i hk
      simp only [Bool.and_eq_true, decide_eq_true_eq] at hsh
      obtain ⟨hf1, hf2⟩ := hsh
      obtain ⟨e1, e2⟩ := fin (by omega) hf2
      have hput : putB s = [27, 80] ++ bodyB s ++ [s.fi.toNat.toUInt8] ++ s.da ++ [27, 92] := by unfold putB; rw [hk]; rfl
      rw [hput]
      have hH := headW_put h (f := s.fi.toNat.toUInt8) (r := s.da ++ [27, 92] ++ more) (by omega)
      have hR := restW_put h.it (f := s.fi.toNat.toUInt8) (r := s.da ++ [27, 92] ++ more) (by omega)
      have hD : runL 32 126 (s.da ++ ([27, 92] ++ more)) = s.da := runL_app (fun c hc => by have := h.da c hc; omega) fun c hc => by simp at hc; subst hc; decide
      have hd : ([27, 80] ++ bodyB s ++ [s.fi.toNat.toUInt8] ++ s.da ++ [27, 92] ++ more).drop 2 = bodyB s ++ s.fi.toNat.toUInt8 :: (s.da ++ [27, 92] ++ more) := by simp
      have hd2 : ([27, 80] ++ bodyB s ++ [s.fi.toNat.toUInt8] ++ s.da ++ [27, 92] ++ more).drop (2 + ((prB s.pr).length + (parsText s.ps).length)) = s.it ++ s.fi.toNat.toUInt8 :: (s.da ++ [27, 92] ++ more) := by
        rw [← List.drop_drop, hd, hbody]
      have hd3 : ([27, 80] ++ bodyB s ++ [s.fi.toNat.toUInt8] ++ s.da ++ [27, 92] ++ more).drop (2 + ((prB s.pr).length + (parsText s.ps).length) + (s.it.length + 1)) = s.da ++ ([27, 92] ++ more) := by
        rw [← List.drop_drop, hd2, ← List.drop_drop, List.drop_left]
        simp
      unfold readW
      rw [if_neg (by simp)]
      simp only
      rw [if_neg (by simp), if_neg (by simp), if_pos (by simp), hd, hH]
      simp only
      rw [hd2, hR]
      simp only
      rw [hd3, hD]
      simp only [e1, Prod.mk.injEq]
      refine ⟨?_, ?_⟩
      · obtain ⟨k, pr, ps, it, fi, da⟩ := s
        simp only at hk ⊢
        subst hk; rfl
      · simp only [List.length_append, List.length_cons, List.length_nil]; omega
    · rename_i hk3
      split at hsh
      · rename_i hk
        simp only [Bool.and_eq_true, decide_eq_true_eq, beq_iff_eq] at hsh
        obtain ⟨⟨⟨⟨⟨hpr, hps⟩, hit⟩, hda⟩, hf1⟩, hf2⟩ := hsh
        obtain ⟨e1, e2⟩ := fin (by omega) hf2
        have hput : putB s = [27, 79] ++ [s.fi.toNat.toUInt8] := by unfold putB; rw [hk]; rfl
        rw [hput]
        unfold readW
        rw [if_neg (by simp)]
        simp only
        rw [if_neg (by simp), if_pos (by simp)]
        simp only [Prod.mk.injEq]
        refine ⟨?_, by simp⟩
        have hps' : s.ps = [] := List.length_eq_zero_iff.1 (by omega)
        obtain ⟨k, pr, ps, it, fi, da⟩ := s
        simp only at hk hpr hps' hit hda e1 ⊢
        subst hk hpr hps' hit hda
        simp only [List.cons_append, List.nil_append, List.drop_succ_cons, List.drop_zero, List.headD_cons, e1]
      · rename_i hk2
        split at hsh
        · rename_i hk
          simp only [Bool.and_eq_true, decide_eq_true_eq, beq_iff_eq] at hsh
          obtain ⟨⟨⟨hpr, hps⟩, hit⟩, hf⟩ := hsh
          have hput : putB s = [27, 93] ++ s.da ++ [27, 92] := by unfold putB; rw [hk]; rfl
          have hD : runL 32 126 (s.da ++ ([27, 92] ++ more)) = s.da := runL_app (fun c hc => by have := h.da c hc; omega) fun c hc => by simp at hc; subst hc; decide
          have hd : ([27, 93] ++ s.da ++ [27, 92] ++ more).drop 2 = s.da ++ ([27, 92] ++ more) := by simp
          rw [hput]
          unfold readW
          rw [if_neg (by simp)]
          simp only
          rw [if_neg (by simp), if_neg (by simp), if_neg (by simp), if_pos (by simp), hd, hD]
          simp only [Prod.mk.injEq]
          refine ⟨?_, by simp; omega⟩
          have hps' : s.ps = [] := List.length_eq_zero_iff.1 (by omega)
          obtain ⟨k, pr, ps, it, fi, da⟩ := s
          simp only at hk hpr hps' hit hf ⊢
          subst hk hpr hps' hit hf
          rfl
        · rename_i hk4
          split at hsh
          · rename_i hk
            simp only [Bool.and_eq_true, decide_eq_true_eq, beq_iff_eq, Bool.or_eq_true, Bool.not_eq_true', decide_eq_false_iff_not] at hsh
            obtain ⟨⟨⟨⟨⟨hpr, hps⟩, hda⟩, hor⟩, hf1⟩, hf2⟩ := hsh
            obtain ⟨e1, e2⟩ := fin (by omega) hf2
            have hput : putB s = [27] ++ s.it ++ [s.fi.toNat.toUInt8] := by unfold putB; rw [hk]; rfl
            have hR := restW_put h.it (f := s.fi.toNat.toUInt8) (r := more) (by omega)
            have hd : ([27] ++ s.it ++ [s.fi.toNat.toUInt8] ++ more).drop 1 = s.it ++ s.fi.toNat.toUInt8 :: more := by simp
            have hne : ∀ x : UInt8, x ∈ ([79, 80, 91, 93] : List UInt8) → (s.it ++ s.fi.toNat.toUInt8 :: more).headD 0 ≠ x := by
              intro x hx e
              cases hit : s.it with
              | nil =>
                rw [hit] at e
                simp only [List.nil_append, List.headD_cons] at e
                rcases hor with h1 | h1
                · exact h1 hit
                · rw [e] at h1
                  revert h1 hx
                  simp only [List.mem_cons, List.not_mem_nil, or_false]
                  rintro (rfl | rfl | rfl | rfl) h1 <;> revert h1 <;> decide
              | cons c t =>
                rw [hit] at e
                simp only [List.cons_append, List.headD_cons] at e
                have := h.it c (by rw [hit]; simp)
                subst e
                simp only [List.mem_cons, List.not_mem_nil, or_false] at hx
                rcases hx with rfl | rfl | rfl | rfl <;> revert this <;> decide
            rw [hput]
            unfold readW
            rw [if_neg (by simp)]
            simp only
            rw [hd, if_neg (hne 91 (by simp)), if_neg (hne 79 (by simp)), if_neg (hne 80 (by simp)), if_neg (hne 93 (by simp)), hR]
            simp only [e1, Prod.mk.injEq]
            refine ⟨?_, ?_⟩
            · have hps' : s.ps = [] := List.length_eq_zero_iff.1 (by omega)
              obtain ⟨k, pr, ps, it, fi, da⟩ := s
              simp only at hk hpr hps' hda ⊢
              subst hk hpr hps' hda; rfl
            · simp only [List.length_append, List.length_cons, List.length_nil]; omega
          · cases hsh
def takeW (b : List UInt8) : Option (Sq × Nat) :=
  let r := readW b
  if mayP r.1 = 0 ∧ putB r.1 <+: b ∧ (putB r.1).length = r.2 then some r else none
theorem takeW_put {s : Sq} (hm : mayP s = 0) (more : List UInt8) : takeW (putB s ++ more) = some (s, (putB s).length) := by
  unfold takeW
  rw [readW_put hm]
  exact if_pos ⟨hm, List.prefix_append _ _, rfl⟩
end Go.Proofs.YtcdkcfpgdbjogaaDoor

namespace Go.Proofs.YtcdkcfpgdbjogaaDoor
open Go Go.Ab
def ir_strconvItoa : ICode :=
 (.seq
 (.reg [⟨some 2, none, .mov (.c (.str []))⟩] (some [0]))
 (.seq
 (.reg [⟨some 3, none, .mov (.t 0)⟩,
 ⟨some 4, none, .call (.c (.fn (.func 64) [] [])) [(.t 3)]⟩,
 ⟨some 2, none, .mov (.t 4)⟩] (some [2]))
 .ret))
theorem is_strconvItoa : IrOf Tryd.prog 54 5 ir_strconvItoa [.t 2] := ⟨_, Tryd.func54, rfl, by kernel_rfl, by kernel_rfl, by kernel_rfl⟩

def ir_numText : ICode :=
 (.seq
 (.reg [⟨some 2, none, .mov (.c (.str []))⟩] (some [0]))
 (.seq
 (.seq
 (.reg [⟨some 3, none, .mov (.t 0)⟩,
 ⟨some 4, none, .bin .lss .none (.t 3) (.c (.int .i64 0))⟩] (some [0, 4]))
 (.cond (.t 4)
 (.seq
 (.reg [⟨some 2, none, .mov (.c (.str []))⟩] (some [2]))
 .ret)
 .skip))
 (.seq
 (.reg [⟨some 5, none, .mov (.t 0)⟩,
 ⟨some 6, none, .call (.c (.fn (.func 54) [] [])) [(.t 5)]⟩,
 ⟨some 2, none, .mov (.t 6)⟩] (some [2]))
 .ret)))
theorem is_numText : IrOf Tryd.prog 46 7 ir_numText [.t 2] := ⟨_, Tryd.func46, rfl, by kernel_rfl, by kernel_rfl, by kernel_rfl⟩

theorem tab_is {g : Gh} {w : World} (h : HInv g w) : Lib.TabIs Tryd.prog w "internal/strconv.uint64pow10" .u64 Lib.pow10Tab := by
  obtain ⟨⟨e, fr, h1⟩, _⟩ := h.fix _ (List.mem_singleton.2 rfl)
  unfold Lib.TabIs World.var?
  rw [show Program.globalNamed Tryd.prog "internal/strconv.uint64pow10" = some 3 from by kernel_rfl]
  simp only [Option.bind_some]
  rw [h1]
  simp [Lib.pow10Tab]
theorem decDigits_eq : ∀ n : Nat, Lib.decDigits n = decB n := by
  intro n
  induction n using Nat.strongRecOn with
  | ind n ih =>
    rw [Lib.decDigits, decB]
    by_cases h : n < 10
    · rw [dif_pos h, if_pos h]
    · rw [dif_neg h, if_neg h, ih (n / 10) (by omega)]
theorem fs_Itoa {Gl : Gh → Prop} {n : Int} (h0 : 0 ≤ n) (h1 : n ≤ 9223372036854775807) : FS Tryd.prog Gl 54 [.int .i64 n] [] [] (.str (textZ n)) [] [] := by
  refine FS.of_below is_strconvItoa.enters (fun _ => rfl) fun g w vs hinv hgl hargs => ?_
  obtain ⟨v1, r1, rfl, h2, h3⟩ := hargs
  cases h2; cases h3
  refine ⟨_, rfl, (Tryd.strconv_Itoa n (by omega) h1 w (tab_is hinv)).mono ?_⟩
  rintro e w' ⟨rfl, k, os, rfl⟩
  have hd : Lib.itoa n = textZ n := by rw [Lib.itoa, if_neg (by omega), textZ, if_neg (by omega), decDigits_eq]
  refine ⟨by rw [hd], rfl, rfl, rfl, ?_, fun b hb => ?_⟩
  · show w.heap.size ≤ ((w.drewN k).heap ++ os).size
    rw [Array.size_append]; exact Nat.le_add_right _ _
  · show ((w.drewN k).heap ++ os)[b]? = w.heap[b]?
    exact Array.getElem?_append_left hb
theorem fs_NumText {Gl : Gh → Prop} (hst : Stays Gl) {n : Int} (h1 : n ≤ 9223372036854775807) : FS Tryd.prog Gl 46 [.int .i64 n] [] [] (.str (textZ n)) [] [] := by
  refine FS.of hm hst is_numText (by simp) fun γ hγ hfr => ?_
  (generalize hQ : (fun (ex : Ex) (_ _ : Nat) (s : St) => _) = Q; unfold ir_numText)
  by_cases h0 : n < 0
  · have hd : decide (n < 0) = true := by simp [h0]
    simp +contextual (maxSteps := 1000000) only [hd, go_sem, reduceCtorEq, ↓reduceIte, Nat.reduceAdd, Nat.reduceEqDiff]
    rw [← hQ]
    have hz : textZ n = [] := by rw [textZ, if_pos h0]
    rw [hz]
    exact ⟨trivial, Ret.flat rfl rfl⟩
  · have hd : decide (n < 0) = false := by simp [h0]
    simp +contextual (maxSteps := 1000000) only [hd, go_sem, reduceCtorEq, ↓reduceIte, Nat.reduceAdd, Nat.reduceEqDiff]
    (refine CallP.pure (fs_Itoa (n := n) (by omega) h1) (fun _ => rfl) ?_; simp +contextual (maxSteps := 1000000) only [go_sem, reduceCtorEq, ↓reduceIte, Nat.reduceAdd, Nat.reduceEqDiff])
    rw [← hQ]
    exact ⟨trivial, Ret.flat rfl rfl⟩
def strsAV (xs : List (List UInt8)) : List (List AV) := xs.map fun x => [AV.str x]
theorem en_Join : enters Tryd.prog 29 := by
  have h : ((Tryd.prog.funcs[29]?).map fun f => f.body.isSome && !(f.name == "runtime.NumGoroutine")) = some true := by kernel_rfl
  obtain ⟨fn, h1, h2⟩ := Option.map_eq_some_iff.1 h
  simp only [Bool.and_eq_true, Bool.not_eq_true'] at h2
  exact ⟨fn, h1, h2.1, h2.2⟩
theorem fs_Join {Gl : Gh → Prop} {xs : List (List UInt8)} {sep : List UInt8} {t : Option Nm} (hN : xs.length ≤ 140737488355328) (hl : (Lib.join xs sep).length ≤ 140737488355328) : FS Tryd.prog Gl 29 [.sl t 1 (strsAV xs), .str sep] [] [] (.str (Lib.join xs sep)) [] [] := by
  refine FS.of_below en_Join (fun _ => rfl) fun g w vs hinv hgl hargs => ?_
  obtain ⟨v1, r1, rfl, ⟨A, cap, rfl, h2, _⟩, v2, r2, rfl, h3, h4⟩ := hargs
  cases h3; cases h4
  have hlen : (strsAV xs).length = xs.length := by simp [strsAV]
  rw [hlen] at h2 ⊢
  cases xs with
  | nil =>
    refine ⟨_, rfl, (Tryd.strings_Join_none A cap ⟨sep.toArray⟩ w).mono ?_⟩
    rintro e w' ⟨rfl, rfl⟩
    exact ⟨rfl, .refl _ _⟩
  | cons x xs =>
    rcases h2 with ⟨_, _, h⟩ | ⟨b, o, rfl, _, hc, _, hrow⟩
    · simp [strsAV] at h
    · have hcell : ∀ (j : Nat) (y : ByteArray), ((x :: xs).map fun z => (⟨z.toArray⟩ : ByteArray))[j]? = some y → w.cell? ⟨b, o + j, none⟩ = some (.string y) := by
        intro j y hj
        rw [List.getElem?_map, Option.map_eq_some_iff] at hj
        obtain ⟨z, hz, rfl⟩ := hj
        obtain ⟨⟨⟨v, q1, _, q2⟩, _⟩, _⟩ := RepRow.get hrow j [.str z] (by rw [strsAV, List.getElem?_map, hz]; rfl)
        cases q2
        rw [Nat.mul_one] at q1
        exact hinv.imm _ _ _ q1
      have hb : b < w.heap.size := lt_of_cell (hcell 0 _ rfl)
      have hmap : ((x :: xs).map fun z => (⟨z.toArray⟩ : ByteArray)).map (·.data.toList) = x :: xs := by
        rw [List.map_map]
        exact (List.map_congr_left (g := _root_.id) (fun z _ => by simp)).trans (List.map_id _)
      have := Tryd.strings_Join b o cap ((x :: xs).map fun z => (⟨z.toArray⟩ : ByteArray)) ⟨sep.toArray⟩ w hcell hb (by simpa using hN) (by simpa using hc) (by rw [hmap]; exact hl)
      rw [List.length_map, hmap] at this
      refine ⟨_, rfl, this.mono ?_⟩
      rintro e w' ⟨rfl, hbl⟩
      exact ⟨rfl, hbl⟩
end Go.Proofs.YtcdkcfpgdbjogaaDoor

namespace Go.Proofs.YtcdkcfpgdbjogaaDoor
open Go Go.Ab
/- clavier/wire.one -/
def ir_wireone_l0 : ICode :=
 (.seq
 (.reg [⟨some 9, none, .bin .lss .none (.t 8) (.t 7)⟩] (some [3, 6, 7, 8, 9]))
 (.seq
 (.cond (.t 9)
 .skip
 (.exit 0))
 (.seq
 (.blk 1
 (.seq
 (.reg [⟨some 10, none, .ia 1 (.t 6) (.t 8)⟩,
 ⟨some 11, none, .ld none (.t 10)⟩,
 ⟨some 5, none, .mov (.t 11)⟩] (some [3, 5, 6, 7, 8]))
 (.reg [⟨some 12, none, .mov (.t 3)⟩,
 ⟨some 13, none, .mov (.t 5)⟩,
 ⟨some 14, none, .call (.c (.fn (.func 46) [] [])) [(.t 13)]⟩,
 ⟨some 15, none, .row 9 1 [(.t 14)]⟩,
 ⟨some 16, none, .app 9 1 16 (.t 12) (.t 15)⟩,
 ⟨some 3, none, .mov (.t 16)⟩] (some [3, 6, 7, 8]))))
 (.reg [⟨some 17, none, .bin .add .none (.t 8) (.c (.int .i64 1))⟩,
 ⟨some 8, none, .mov (.t 17)⟩] (some [3, 6, 7, 8])))))
def ir_wireone : ICode :=
 (.seq
 (.reg [⟨some 2, none, .mov (.c (.str []))⟩] (some [0]))
 (.seq
 (.reg [⟨some 3, none, .mov (.c .nils)⟩] (some [0, 3]))
 (.seq
 (.seq
 (.reg [⟨some 6, none, .mov (.t 0)⟩,
 ⟨some 7, none, .len (.t 6)⟩,
 ⟨some 8, none, .mov (.c (.int .i64 0))⟩] (some [3, 6, 7, 8]))
 (.blk 0
 (.loop
 ir_wireone_l0)))
 (.seq
 (.reg [⟨some 18, none, .mov (.t 3)⟩,
 ⟨some 19, none, .call (.c (.fn (.func 29) [] [])) [(.t 18), (.c (.str [58]))]⟩,
 ⟨some 2, none, .mov (.t 19)⟩] (some [2]))
 .ret))))
theorem is_wireone : IrOf Tryd.prog 30 20 ir_wireone [.t 2] := ⟨_, Tryd.func30, rfl, by kernel_rfl, by kernel_rfl, by kernel_rfl⟩

/- clavier/wire.body -/
def ir_wirebody_l0 : ICode :=
 (.seq
 (.reg [⟨some 11, none, .bin .lss .none (.t 10) (.t 9)⟩] (some [1, 3, 8, 9, 10, 11]))
 (.seq
 (.cond (.t 11)
 .skip
 (.exit 0))
 (.seq
 (.blk 1
 (.seq
 (.reg [⟨some 12, none, .ia 1 (.t 8) (.t 10)⟩,
 ⟨some 13, none, .ld none (.t 12)⟩,
 ⟨some 5, none, .mov (.t 13)⟩] (some [1, 3, 5, 8, 9, 10]))
 (.reg [⟨some 14, none, .mov (.t 3)⟩,
 ⟨some 15, none, .mov (.t 5)⟩,
 ⟨some 16, none, .call (.c (.fn (.func 30) [] [])) [(.t 15)]⟩,
 ⟨some 17, none, .row 9 1 [(.t 16)]⟩,
 ⟨some 18, none, .app 9 1 16 (.t 14) (.t 17)⟩,
 ⟨some 3, none, .mov (.t 18)⟩] (some [1, 3, 8, 9, 10]))))
 (.reg [⟨some 19, none, .bin .add .none (.t 10) (.c (.int .i64 1))⟩,
 ⟨some 10, none, .mov (.t 19)⟩] (some [1, 3, 8, 9, 10])))))
def ir_wirebody : ICode :=
 (.seq
 (.reg [⟨some 1, none, .box 24 (.t 0)⟩,
 ⟨some 2, none, .mov (.c (.str []))⟩] (some [1]))
 (.seq
 (.reg [⟨some 3, none, .mov (.c .nils)⟩] (some [1, 3]))
 (.seq
 (.seq
 (.reg [⟨some 7, none, .fa 2 (.t 1)⟩,
 ⟨some 8, none, .ld none (.t 7)⟩,
 ⟨some 9, none, .len (.t 8)⟩,
 ⟨some 10, none, .mov (.c (.int .i64 0))⟩] (some [1, 3, 8, 9, 10]))
 (.blk 0
 (.loop
 ir_wirebody_l0)))
 (.seq
 (.drw [⟨⟨some 20, none, .mov (.t 3)⟩, []⟩,
 ⟨⟨some 21, none, .call (.c (.fn (.func 29) [] [])) [(.t 20), (.c (.str [59]))]⟩, [0]⟩,
 ⟨⟨some 22, none, .fa 3 (.t 1)⟩, []⟩,
 ⟨⟨some 23, none, .ld none (.t 22)⟩, [2]⟩,
 ⟨⟨some 24, none, .bin .add .none (.t 21) (.t 23)⟩, [1, 3]⟩,
 ⟨⟨some 25, none, .fa 4 (.t 1)⟩, []⟩,
 ⟨⟨some 26, none, .ld none (.t 25)⟩, [5]⟩,
 ⟨⟨some 27, none, .row 5 1 [(.t 26)]⟩, [6]⟩,
 ⟨⟨some 28, none, .b2s (.t 27)⟩, [7]⟩,
 ⟨⟨some 29, none, .bin .add .none (.t 24) (.t 28)⟩, [4, 8]⟩]
 [⟨some 6, none, .mov (.t 29)⟩] (some [1, 6]))
 (.seq
 (.seq
 (.reg [⟨some 30, none, .fa 1 (.t 1)⟩,
 ⟨some 31, none, .ld none (.t 30)⟩,
 ⟨some 32, none, .bin .neq .none (.t 31) (.c (.int .u8 0))⟩] (some [1, 6, 32]))
 (.cond (.t 32)
 (.reg [⟨some 33, none, .fa 1 (.t 1)⟩,
 ⟨some 34, none, .ld none (.t 33)⟩,
 ⟨some 35, none, .row 5 1 [(.t 34)]⟩,
 ⟨some 36, none, .b2s (.t 35)⟩,
 ⟨some 37, none, .mov (.t 6)⟩,
 ⟨some 38, none, .bin .add .none (.t 36) (.t 37)⟩,
 ⟨some 6, none, .mov (.t 38)⟩] (some [6]))
 .skip))
 (.seq
 (.reg [⟨some 39, none, .mov (.t 6)⟩,
 ⟨some 2, none, .mov (.t 39)⟩] (some [2]))
 .ret))))))
theorem is_wirebody : IrOf Tryd.prog 16 40 ir_wirebody [.t 2] := ⟨_, Tryd.func16, rfl, by kernel_rfl, by kernel_rfl, by kernel_rfl⟩

def ir_wireglue : ICode :=
 (.seq
 (.reg [⟨some 2, none, .mov (.c .nils)⟩] (some [0]))
 (.seq
 (.reg [⟨some 3, none, .row 5 1 [(.c (.int .u8 27))]⟩,
 ⟨some 4, none, .mov (.t 0)⟩,
 ⟨some 5, none, .call (.c (.fn (.func 29) [] [])) [(.t 4), (.c (.str []))]⟩,
 ⟨some 6, none, .aps 5 (.t 3) (.t 5)⟩,
 ⟨some 2, none, .mov (.t 6)⟩] (some [2]))
 .ret))
theorem is_wireglue : IrOf Tryd.prog 15 7 ir_wireglue [.t 2] := ⟨_, Tryd.func15, rfl, by kernel_rfl, by kernel_rfl, by kernel_rfl⟩

theorem join_jn (c : UInt8) : ∀ xs : List (List UInt8), Lib.join xs [c] = jn c xs
  | [] => rfl
  | [x] => by simp [Lib.join, List.intercalate, jn]
  | x :: y :: l => by
    have ih := join_jn c (y :: l)
    simp only [Lib.join, List.intercalate] at ih ⊢
    rw [jn, ← ih]
    simp [List.intersperse]
theorem join_flat : ∀ xs : List (List UInt8), Lib.join xs [] = xs.flatten
  | [] => rfl
  | [x] => by simp [Lib.join, List.intercalate]
  | x :: y :: l => by
    have ih := join_flat (y :: l)
    simp only [Lib.join, List.intercalate] at ih ⊢
    rw [List.flatten_cons, ← ih]
    simp [List.intersperse]
theorem strsAV_snoc (xs : List (List UInt8)) (x : List UInt8) : strsAV (xs ++ [x]) = strsAV xs ++ [[.str x]] := by simp [strsAV]
theorem strsAV_length (xs : List (List UInt8)) : (strsAV xs).length = xs.length := by simp [strsAV]
set_option maxHeartbeats 2000000 in
theorem fs_one {Gl : Gh → Prop} (hst : Stays Gl) {p : List Int} {t : Option Nm} (hl : p.length ≤ 100000) (hp : ∀ n ∈ p, n ≤ 1114111) : FS Tryd.prog Gl 30 [.sl t 1 (intsAV p)] [] [] (.str (subText p)) [] [] := by
  refine FS.of hm hst is_wireone (by simp) fun γ hγ hfr => ?_
  have hsl := subText_len hp
  (generalize hQ : (fun (ex : Ex) (_ _ : Nat) (s : St) => _) = Q; unfold ir_wireone)
  simp +contextual (maxSteps := 1000000) only [intsAV_length, go_sem, reduceCtorEq, ↓reduceIte, Nat.reduceAdd, Nat.reduceEqDiff, Nat.reduceLeDiff, Nat.reduceMul, Nat.reduceBEq, Int.reduceBEq, Int.reduceBNe, Int.reduceLT, Int.reduceLE, Int.reduceGT, Int.reduceGE, Int.reduceToNat]
  refine kLoop_ix (fun q : Nat × Option Nm => ⟨lf [(3, sv q.2 1 (strsAV ((p.take q.1).map textZ))), (6, .sl t 1 (intsAV p)), (7, .int .i64 (p.length : Int)), (8, .int .i64 (q.1 : Int))], [], fun x => q.2 = some x⟩)
    (fun q => q.1 ≤ p.length ∧ (q.2 = none → q.1 = 0)) (fun q => p.length - q.1) 0 (0, none) ?_ ⟨by simp, by simp⟩ ?_
  · refine Wk.perm' ?_ (fun p hp => by cases hp) (fun t ht => by cases ht)
    simp only [lfOK, upd]
    repeat' first | exact AVle.refl _ _ | exact trivial | refine And.intro ?_ ?_ | exact AVle.int (by simp only [IntKind.wrap_i64]; omega)
  · rintro γ' ⟨i, tk⟩ hf ⟨hi, htk⟩
    simp only at hi htk
    generalize hQ' : kIt _ _ _ _ _ = Q'
    unfold ir_wireone_l0
    by_cases hlt : i < p.length
    · have hd : decide ((i : Int) < (p.length : Int)) = true := by simp; omega
      have hg1 : (intsAV p).getD i [] = [.int .i64 p[i]] := intsAV_get hlt
      have hpi := hp _ (List.getElem_mem hlt)
      have c1 := fs_NumText (Gl := Gl) hst (n := p[i]) (by omega)
      have htk1 : (p.take (i + 1)).map textZ = (p.take i).map textZ ++ [textZ p[i]] := by
        rw [List.take_add_one, List.getElem?_eq_getElem hlt, List.map_append]; rfl
      have hlen : (strsAV ((p.take i).map textZ)).length ≤ p.length := by rw [strsAV_length]; simp; omega
      cases tk with
      | none =>
        have h0 := htk rfl
        have ht0 : p.take i = [] := by rw [h0]; rfl
        rw [ht0, List.map_nil, List.nil_append] at htk1
        simp +contextual (maxSteps := 1000000) only [hd, hg1, Int.toNat_natCast, intsAV_length, go_sem, reduceCtorEq, ↓reduceIte, Nat.reduceAdd, Nat.reduceEqDiff, Nat.reduceLeDiff, Nat.reduceMul, Nat.reduceBEq, Int.reduceBEq, Int.reduceBNe, Int.reduceLT, Int.reduceLE, Int.reduceGT, Int.reduceGE, Int.reduceToNat]
        refine ⟨⟨by omega, by omega⟩, ?_⟩
        (refine CallP.pure (c1) (fun _ => rfl) ?_; simp +contextual (maxSteps := 1000000) only [go_sem, reduceCtorEq, ↓reduceIte, Nat.reduceAdd, Nat.reduceEqDiff, Nat.reduceLeDiff, Nat.reduceMul, Nat.reduceBEq, Int.reduceBEq, Int.reduceBNe, Int.reduceLT, Int.reduceLE, Int.reduceGT, Int.reduceGE, Int.reduceToNat])
        rw [← hQ']
        simp only [w_kIt_n]
        refine ⟨0, (i + 1, some (γ', 8, 0)), Wk.perm' ?_ (fun p hp => by cases hp) ?_, ⟨by simp only; omega, by simp⟩, by simp only; omega⟩
        · simp only [htk1, sv_some, strsAV, List.map_cons, List.map_nil]
          repeat' first | exact AVle.refl _ _ | exact trivial | refine And.intro ?_ ?_ | exact AVle.int (by simp only [IntKind.wrap_i64]; omega)
        · intro t ht
          cases ht
          exact .inl rfl
      | some t0 =>
        simp +contextual (maxSteps := 1000000) only [hd, hg1, Int.toNat_natCast, intsAV_length, go_sem, reduceCtorEq, ↓reduceIte, Nat.reduceAdd, Nat.reduceEqDiff, Nat.reduceLeDiff, Nat.reduceMul, Nat.reduceBEq, Int.reduceBEq, Int.reduceBNe, Int.reduceLT, Int.reduceLE, Int.reduceGT, Int.reduceGE, Int.reduceToNat]
        refine ⟨⟨by omega, by omega⟩, ?_⟩
        (refine CallP.pure (c1) (fun _ => rfl) ?_; simp +contextual (maxSteps := 1000000) only [go_sem, reduceCtorEq, ↓reduceIte, Nat.reduceAdd, Nat.reduceEqDiff, Nat.reduceLeDiff, Nat.reduceMul, Nat.reduceBEq, Int.reduceBEq, Int.reduceBNe, Int.reduceLT, Int.reduceLE, Int.reduceGT, Int.reduceGE, Int.reduceToNat])
        refine ⟨⟨.inr trivial, by omega⟩, ?_⟩
        rw [← hQ']
        simp only [w_kIt_n]
        refine ⟨0, (i + 1, some (γ', 8, 0)), Wk.perm' ?_ (fun p hp => by cases hp) ?_, ⟨by simp only; omega, by simp⟩, by simp only; omega⟩
        · simp only [htk1, sv_some, strsAV_snoc]
          repeat' first | exact AVle.refl _ _ | exact trivial | refine And.intro ?_ ?_ | exact AVle.int (by simp only [IntKind.wrap_i64]; omega)
        · intro t ht
          cases ht
          exact .inl rfl
    · have hii : i = p.length := by omega
      have hd : decide ((i : Int) < (p.length : Int)) = false := by simp; omega
      have hfull : (p.take i).map textZ = p.map textZ := by rw [List.take_of_length_le (by omega)]
      have hjl : (Lib.join (p.map textZ) [58]).length ≤ 140737488355328 := by
        rw [join_jn]; show (subText p).length ≤ _; omega
      have hz : Lib.join (p.map textZ) [58] = subText p := join_jn 58 _
      cases tk with
      | none =>
        have h0 : p = [] := List.length_eq_zero_iff.1 (by rw [← hii]; exact htk rfl)
        have c1 := (fs_Join (Gl := Gl) (xs := p.map textZ) (sep := [58]) (t := none) (by simp; omega) hjl).args (args := [.nils, .str [58]]) ⟨by rw [h0]; exact RepLe.nils 1, RepLe.refl _, trivial⟩
        rw [hz] at c1
        simp +contextual (maxSteps := 1000000) only [hd, go_sem, reduceCtorEq, ↓reduceIte, Nat.reduceAdd, Nat.reduceEqDiff, Nat.reduceLeDiff, Nat.reduceMul, Nat.reduceBEq, Int.reduceBEq, Int.reduceBNe, Int.reduceLT, Int.reduceLE, Int.reduceGT, Int.reduceGE, Int.reduceToNat]
        rw [← hQ']
        simp only [w_kIt_e, w_kBlk_e, ↓reduceIte]
        simp +contextual (maxSteps := 1000000) only [go_sem, reduceCtorEq, ↓reduceIte, Nat.reduceAdd, Nat.reduceEqDiff, Nat.reduceLeDiff, Nat.reduceMul, Nat.reduceBEq, Int.reduceBEq, Int.reduceBNe, Int.reduceLT, Int.reduceLE, Int.reduceGT, Int.reduceGE, Int.reduceToNat]
        (refine CallP.pure (c1) (fun _ => rfl) ?_; simp +contextual (maxSteps := 1000000) only [go_sem, reduceCtorEq, ↓reduceIte, Nat.reduceAdd, Nat.reduceEqDiff, Nat.reduceLeDiff, Nat.reduceMul, Nat.reduceBEq, Int.reduceBEq, Int.reduceBNe, Int.reduceLT, Int.reduceLE, Int.reduceGT, Int.reduceGE, Int.reduceToNat])
        rw [← hQ]
        exact ⟨trivial, Ret.flat rfl rfl⟩
      | some t0 =>
        have c1 := fs_Join (Gl := Gl) (xs := p.map textZ) (sep := [58]) (t := some t0) (by simp; omega) hjl
        rw [hz] at c1
        simp +contextual (maxSteps := 1000000) only [hd, hfull, go_sem, reduceCtorEq, ↓reduceIte, Nat.reduceAdd, Nat.reduceEqDiff, Nat.reduceLeDiff, Nat.reduceMul, Nat.reduceBEq, Int.reduceBEq, Int.reduceBNe, Int.reduceLT, Int.reduceLE, Int.reduceGT, Int.reduceGE, Int.reduceToNat]
        rw [← hQ']
        simp only [w_kIt_e, w_kBlk_e, ↓reduceIte]
        simp +contextual (maxSteps := 1000000) only [go_sem, reduceCtorEq, ↓reduceIte, Nat.reduceAdd, Nat.reduceEqDiff, Nat.reduceLeDiff, Nat.reduceMul, Nat.reduceBEq, Int.reduceBEq, Int.reduceBNe, Int.reduceLT, Int.reduceLE, Int.reduceGT, Int.reduceGE, Int.reduceToNat]
        (refine CallP.pure (c1) (fun _ => rfl) ?_; simp +contextual (maxSteps := 1000000) only [go_sem, reduceCtorEq, ↓reduceIte, Nat.reduceAdd, Nat.reduceEqDiff, Nat.reduceLeDiff, Nat.reduceMul, Nat.reduceBEq, Int.reduceBEq, Int.reduceBNe, Int.reduceLT, Int.reduceLE, Int.reduceGT, Int.reduceGE, Int.reduceToNat])
        rw [← hQ]
        exact ⟨trivial, Ret.flat rfl rfl⟩
theorem fs_glue {Gl : Gh → Prop} (hst : Stays Gl) {xs : List (List UInt8)} {t : Option Nm} (hN : xs.length ≤ 100) (hl : xs.flatten.length ≤ 1000000) : FS Tryd.prog Gl 15 [.sl t 1 (strsAV xs)] [] [] (.sl none 1 (bytesAV (27 :: xs.flatten))) [] [] := by
  refine FS.ofW hm hst is_wireglue rfl (by simp) fun γ hγ hfr => ?_
  have c1 := fs_Join (Gl := Gl) (xs := xs) (sep := []) (t := t) (by omega) (by rw [join_flat]; omega)
  rw [join_flat] at c1
  (generalize hQ : (fun (ex : Ex) (_ _ : Nat) (s : St) => _) = Q; unfold ir_wireglue)
  simp +contextual (maxSteps := 1000000) only [go_sem, reduceCtorEq, ↓reduceIte, Nat.reduceAdd, Nat.reduceEqDiff]
  (refine CallP.pure (c1) (fun _ => rfl) ?_; simp +contextual (maxSteps := 1000000) only [go_sem, reduceCtorEq, ↓reduceIte, Nat.reduceAdd, Nat.reduceEqDiff])
  refine ⟨⟨.inl trivial, by omega⟩, ?_⟩
  rw [← hQ]
  exact ⟨trivial, .inl ⟨_, rfl, RepLe.anon' rfl⟩⟩
set_option maxHeartbeats 4000000 in
theorem fs_body {Gl : Gh → Prop} (hst : Stays Gl) {k : Int} {ps : List (List Int)} {it da : List UInt8} {pr fi : UInt8} (hl : ps.length ≤ 16) (hp : ∀ p ∈ ps, p.length ≤ 8 ∧ ∀ n ∈ p, n ≤ 1114111) (hit : it.length ≤ 100000) :
    FS Tryd.prog Gl 16 [.agg (Sq.c ⟨k, pr.toNat, ps, it, fi.toNat, da⟩)] [] [] (.str (prB pr.toNat ++ (parsText ps ++ it ++ [fi]))) [] [] := by
  refine FS.of hm hst is_wirebody (by simp) fun γ hγ hfr => ?_
  have hsl := parsText_len hp
  have hsc : Sq.c ⟨k, pr.toNat, ps, it, fi.toNat, da⟩ = [.int .i64 k, .int .u8 (pr.toNat : Int), .sl none 1 (parsAV ps), .str it, .int .u8 (fi.toNat : Int), .str da] := rfl
  (generalize hQ : (fun (ex : Ex) (_ _ : Nat) (s : St) => _) = Q; unfold ir_wirebody)
  simp +contextual (maxSteps := 1000000) only [hsc, parsAV_length, go_sem, reduceCtorEq, ↓reduceIte, Nat.reduceAdd, Nat.reduceEqDiff, Nat.reduceLeDiff, Nat.reduceMul, Nat.reduceBEq, Int.reduceBEq, Int.reduceBNe, Int.reduceLT, Int.reduceLE, Int.reduceGT, Int.reduceGE, Int.reduceToNat]
  refine kLoop_ix (fun q : Nat × Option Nm => ⟨lf [(1, .ptr (γ, 0, 0) 0), (3, sv q.2 1 (strsAV ((ps.take q.1).map subText))), (8, .sl none 1 (parsAV ps)), (9, .int .i64 (ps.length : Int)), (10, .int .i64 (q.1 : Int))], [((γ, 0, 0), .cells [.int .i64 k, .int .u8 (pr.toNat : Int), .sl none 1 (parsAV ps), .str it, .int .u8 (fi.toNat : Int), .str da])], fun x => q.2 = some x⟩)
    (fun q => q.1 ≤ ps.length ∧ (q.2 = none → q.1 = 0)) (fun q => ps.length - q.1) 0 (0, none) ?_ ⟨by simp, by simp⟩ ?_
  · refine Wk.perm' ?_ (fun p hp => hp) (fun t ht => by cases ht)
    simp only [lfOK, upd]
    repeat' first | exact AVle.refl _ _ | exact trivial | refine And.intro ?_ ?_ | exact AVle.int (by simp only [IntKind.wrap_i64]; omega)
  · rintro γ' ⟨i, tk⟩ hf ⟨hi, htk⟩
    simp only at hi htk
    generalize hQ' : kIt _ _ _ _ _ = Q'
    unfold ir_wirebody_l0
    by_cases hlt : i < ps.length
    · have hd : decide ((i : Int) < (ps.length : Int)) = true := by simp; omega
      have hg1 : (parsAV ps).getD i [] = [.sl none 1 (intsAV ps[i])] := parsAV_get hlt
      have hpi := hp _ (List.getElem_mem hlt)
      have c1 := fs_one (Gl := Gl) hst (p := ps[i]) (t := none) (by omega) hpi.2
      have htk1 : (ps.take (i + 1)).map subText = (ps.take i).map subText ++ [subText ps[i]] := by
        rw [List.take_add_one, List.getElem?_eq_getElem hlt, List.map_append]; rfl
      have hlen : (strsAV ((ps.take i).map subText)).length ≤ ps.length := by rw [strsAV_length]; simp; omega
      cases tk with
      | none =>
        have h0 := htk rfl
        have ht0 : ps.take i = [] := by rw [h0]; rfl
        rw [ht0, List.map_nil, List.nil_append] at htk1
        simp +contextual (maxSteps := 1000000) only [hd, hg1, Int.toNat_natCast, parsAV_length, go_sem, reduceCtorEq, ↓reduceIte, Nat.reduceAdd, Nat.reduceEqDiff, Nat.reduceLeDiff, Nat.reduceMul, Nat.reduceBEq, Int.reduceBEq, Int.reduceBNe, Int.reduceLT, Int.reduceLE, Int.reduceGT, Int.reduceGE, Int.reduceToNat]
        refine ⟨⟨by omega, by omega⟩, ?_⟩
        (refine CallP.pure (c1) (fun _ => rfl) ?_; simp +contextual (maxSteps := 1000000) only [go_sem, reduceCtorEq, ↓reduceIte, Nat.reduceAdd, Nat.reduceEqDiff, Nat.reduceLeDiff, Nat.reduceMul, Nat.reduceBEq, Int.reduceBEq, Int.reduceBNe, Int.reduceLT, Int.reduceLE, Int.reduceGT, Int.reduceGE, Int.reduceToNat])
        rw [← hQ']
        simp only [w_kIt_n]
        refine ⟨0, (i + 1, some (γ', 8, 0)), Wk.perm' ?_ (fun p hp => hp) ?_, ⟨by simp only; omega, by simp⟩, by simp only; omega⟩
        · simp only [htk1, sv_some, strsAV, List.map_cons, List.map_nil]
          repeat' first | exact AVle.refl _ _ | exact trivial | refine And.intro ?_ ?_ | exact AVle.int (by simp only [IntKind.wrap_i64]; omega)
        · intro t ht
          cases ht
          exact .inl rfl
      | some t0 =>
        simp +contextual (maxSteps := 1000000) only [hd, hg1, Int.toNat_natCast, parsAV_length, go_sem, reduceCtorEq, ↓reduceIte, Nat.reduceAdd, Nat.reduceEqDiff, Nat.reduceLeDiff, Nat.reduceMul, Nat.reduceBEq, Int.reduceBEq, Int.reduceBNe, Int.reduceLT, Int.reduceLE, Int.reduceGT, Int.reduceGE, Int.reduceToNat]
        refine ⟨⟨by omega, by omega⟩, ?_⟩
        (refine CallP.pure (c1) (fun _ => rfl) ?_; simp +contextual (maxSteps := 1000000) only [go_sem, reduceCtorEq, ↓reduceIte, Nat.reduceAdd, Nat.reduceEqDiff, Nat.reduceLeDiff, Nat.reduceMul, Nat.reduceBEq, Int.reduceBEq, Int.reduceBNe, Int.reduceLT, Int.reduceLE, Int.reduceGT, Int.reduceGE, Int.reduceToNat])
        refine ⟨⟨.inr trivial, by omega⟩, ?_⟩
        rw [← hQ']
        simp only [w_kIt_n]
        refine ⟨0, (i + 1, some (γ', 8, 0)), Wk.perm' ?_ (fun p hp => hp) ?_, ⟨by simp only; omega, by simp⟩, by simp only; omega⟩
        · simp only [htk1, sv_some, strsAV_snoc]
          repeat' first | exact AVle.refl _ _ | exact trivial | refine And.intro ?_ ?_ | exact AVle.int (by simp only [IntKind.wrap_i64]; omega)
        · intro t ht
          cases ht
          exact .inl rfl
    · have hii : i = ps.length := by omega
      have hd : decide ((i : Int) < (ps.length : Int)) = false := by simp; omega
      have hfull : (ps.take i).map subText = ps.map subText := by rw [List.take_of_length_le (by omega)]
      have hz : Lib.join (ps.map subText) [59] = parsText ps := join_jn 59 _
      have hjl : (Lib.join (ps.map subText) [59]).length ≤ 140737488355328 := by rw [hz]; omega
      have c1 : FS Tryd.prog Gl 29 [sv tk 1 (strsAV (ps.map subText)), .str [59]] [] [] (.str (parsText ps)) [] [] := by
        rw [← hz]
        cases tk with
        | none =>
          have h0 : ps = [] := List.length_eq_zero_iff.1 (by rw [← hii]; exact htk rfl)
          exact (fs_Join (Gl := Gl) (xs := ps.map subText) (sep := [59]) (t := none) (by simp; omega) hjl).args ⟨by rw [h0]; exact RepLe.nils 1, RepLe.refl _, trivial⟩
        | some t0 => exact fs_Join (Gl := Gl) (xs := ps.map subText) (sep := [59]) (t := some t0) (by simp; omega) hjl
      simp +contextual (maxSteps := 1000000) only [hd, hfull, go_sem, reduceCtorEq, ↓reduceIte, Nat.reduceAdd, Nat.reduceEqDiff, Nat.reduceLeDiff, Nat.reduceMul, Nat.reduceBEq, Int.reduceBEq, Int.reduceBNe, Int.reduceLT, Int.reduceLE, Int.reduceGT, Int.reduceGE, Int.reduceToNat]
      rw [← hQ']
      simp only [w_kIt_e, w_kBlk_e, ↓reduceIte]
      simp +contextual (maxSteps := 1000000) only [go_sem, reduceCtorEq, ↓reduceIte, Nat.reduceAdd, Nat.reduceEqDiff, Nat.reduceLeDiff, Nat.reduceMul, Nat.reduceBEq, Int.reduceBEq, Int.reduceBNe, Int.reduceLT, Int.reduceLE, Int.reduceGT, Int.reduceGE, Int.reduceToNat]
      refine DCall.new c1 ?_
      simp +contextual (maxSteps := 1000000) only [isByte_one, unbyte_c, go_sem, reduceCtorEq, ↓reduceIte, Nat.reduceAdd, Nat.reduceEqDiff, Nat.reduceLeDiff, Nat.reduceMul, Nat.reduceBEq, Int.reduceBEq, Int.reduceBNe, Int.reduceLT, Int.reduceLE, Int.reduceGT, Int.reduceGE, Int.reduceToNat]
      refine ⟨by omega, by simp only [List.length_append]; omega, ?_⟩
      have hpr : ((pr.toNat : Int).toNat).toUInt8 = pr := by rw [Int.toNat_natCast]; exact UInt8.ofNat_toNat
      cases hq : ((pr.toNat : Int) != 0) with
      | false =>
        simp +contextual (maxSteps := 1000000) only [go_sem, reduceCtorEq, ↓reduceIte, Nat.reduceAdd, Nat.reduceEqDiff, Nat.reduceLeDiff, Nat.reduceMul, Nat.reduceBEq, Int.reduceBEq, Int.reduceBNe, Int.reduceLT, Int.reduceLE, Int.reduceGT, Int.reduceGE, Int.reduceToNat]
        have hz1 : prB (pr.toNat : Int) = [] := by rw [prB, hq]; rfl
        rw [← hQ, hz1]
        exact ⟨trivial, Ret.flat rfl rfl⟩
      | true =>
        simp +contextual (maxSteps := 1000000) only [isByte_one, unbyte_c, go_sem, reduceCtorEq, ↓reduceIte, Nat.reduceAdd, Nat.reduceEqDiff, Nat.reduceLeDiff, Nat.reduceMul, Nat.reduceBEq, Int.reduceBEq, Int.reduceBNe, Int.reduceLT, Int.reduceLE, Int.reduceGT, Int.reduceGE, Int.reduceToNat]
        refine ⟨by simp only [List.length_append, List.length_cons, List.length_nil]; omega, ?_⟩
        have hz1 : prB (pr.toNat : Int) = [pr] := by rw [prB, hq, hpr]; rfl
        rw [← hQ, hz1]
        exact ⟨trivial, Ret.flat rfl rfl⟩
end Go.Proofs.YtcdkcfpgdbjogaaDoor

namespace Go.Proofs.YtcdkcfpgdbjogaaDoor
open Go Go.Ab
def ir_wirePut : ICode :=
 (.seq
 (.reg [⟨some 1, none, .box 24 (.t 0)⟩,
 ⟨some 2, none, .mov (.c .nils)⟩,
 ⟨some 3, none, .mov (.c (.int .i64 0))⟩] (some [1]))
 (.seq
 (.seq
 (.reg [⟨some 5, none, .ld (some 6) (.t 1)⟩,
 ⟨some 6, none, .call (.c (.fn (.func 9) [] [])) [(.t 5)]⟩,
 ⟨some 4, none, .mov (.t 6)⟩] (some [1, 4]))
 (.seq
 (.reg [⟨some 7, none, .mov (.t 4)⟩,
 ⟨some 8, none, .bin .neq .none (.t 7) (.c (.int .i64 0))⟩] (some [1, 4, 8]))
 (.cond (.t 8)
 (.seq
 (.reg [⟨some 9, none, .mov (.t 4)⟩,
 ⟨some 2, none, .mov (.c .nils)⟩,
 ⟨some 3, none, .mov (.t 9)⟩] (some [2, 3]))
 .ret)
 .skip)))
 (.seq
 (.seq
 (.reg [⟨some 10, none, .fa 0 (.t 1)⟩,
 ⟨some 11, none, .ld none (.t 10)⟩] (some [1, 11]))
 (.blk 0
 (.seq
 (.reg [⟨some 13, none, .bin .eql .none (.t 11) (.c (.int .i64 1))⟩,
 ⟨some 12, none, .mov (.t 13)⟩] (some [1, 11, 12]))
 (.cond (.t 12)
 (.seq
 (.reg [⟨some 14, none, .ld (some 6) (.t 1)⟩,
 ⟨some 15, none, .call (.c (.fn (.func 16) [] [])) [(.t 14)]⟩,
 ⟨some 16, none, .row 9 1 [(.c (.str [91])), (.t 15)]⟩,
 ⟨some 17, none, .call (.c (.fn (.func 15) [] [])) [(.t 16)]⟩,
 ⟨some 2, none, .mov (.t 17)⟩,
 ⟨some 3, none, .mov (.c (.int .i64 0))⟩] (some [2, 3]))
 .ret)
 (.seq
 (.reg [⟨some 19, none, .bin .eql .none (.t 11) (.c (.int .i64 2))⟩,
 ⟨some 18, none, .mov (.t 19)⟩] (some [1, 11, 18]))
 (.cond (.t 18)
 (.seq
 (.reg [⟨some 20, none, .fa 4 (.t 1)⟩,
 ⟨some 21, none, .ld none (.t 20)⟩,
 ⟨some 22, none, .row 5 1 [(.t 21)]⟩,
 ⟨some 23, none, .b2s (.t 22)⟩,
 ⟨some 24, none, .row 9 1 [(.c (.str [79])), (.t 23)]⟩,
 ⟨some 25, none, .call (.c (.fn (.func 15) [] [])) [(.t 24)]⟩,
 ⟨some 2, none, .mov (.t 25)⟩,
 ⟨some 3, none, .mov (.c (.int .i64 0))⟩] (some [2, 3]))
 .ret)
 (.seq
 (.reg [⟨some 27, none, .bin .eql .none (.t 11) (.c (.int .i64 3))⟩,
 ⟨some 26, none, .mov (.t 27)⟩] (some [1, 11, 26]))
 (.cond (.t 26)
 (.seq
 (.drw [⟨⟨some 28, none, .ld (some 6) (.t 1)⟩, []⟩,
 ⟨⟨some 29, none, .call (.c (.fn (.func 16) [] [])) [(.t 28)]⟩, [0]⟩,
 ⟨⟨some 30, none, .fa 5 (.t 1)⟩, []⟩,
 ⟨⟨some 31, none, .ld none (.t 30)⟩, [2]⟩,
 ⟨⟨some 32, none, .row 9 1 [(.c (.str [80])), (.t 29), (.t 31), (.c (.str [27, 92]))]⟩, [1, 3]⟩,
 ⟨⟨some 33, none, .call (.c (.fn (.func 15) [] [])) [(.t 32)]⟩, [4, 1]⟩]
 [⟨some 2, none, .mov (.t 33)⟩,
 ⟨some 3, none, .mov (.c (.int .i64 0))⟩] (some [2, 3]))
 .ret)
 (.seq
 (.reg [⟨some 35, none, .bin .eql .none (.t 11) (.c (.int .i64 4))⟩,
 ⟨some 34, none, .mov (.t 35)⟩] (some [1, 34]))
 (.cond (.t 34)
 (.seq
 (.reg [⟨some 36, none, .fa 5 (.t 1)⟩,
 ⟨some 37, none, .ld none (.t 36)⟩,
 ⟨some 38, none, .row 9 1 [(.c (.str [93])), (.t 37), (.c (.str [27, 92]))]⟩,
 ⟨some 39, none, .call (.c (.fn (.func 15) [] [])) [(.t 38)]⟩,
 ⟨some 2, none, .mov (.t 39)⟩,
 ⟨some 3, none, .mov (.c (.int .i64 0))⟩] (some [2, 3]))
 .ret)
 .skip))))))))))
 (.seq
 (.reg [⟨some 40, none, .ld (some 6) (.t 1)⟩,
 ⟨some 41, none, .call (.c (.fn (.func 16) [] [])) [(.t 40)]⟩,
 ⟨some 42, none, .row 9 1 [(.t 41)]⟩,
 ⟨some 43, none, .call (.c (.fn (.func 15) [] [])) [(.t 42)]⟩,
 ⟨some 2, none, .mov (.t 43)⟩,
 ⟨some 3, none, .mov (.c (.int .i64 0))⟩] (some [2, 3]))
 .ret))))
theorem is_wirePut : IrOf Tryd.prog 7 44 ir_wirePut [.t 2, .t 3] := ⟨_, Tryd.func7, rfl, by kernel_rfl, by kernel_rfl, by kernel_rfl⟩

theorem esc_plain {s : Sq} (h : mayP s = 0) (h1 : s.k ≠ 1) (h2 : s.k ≠ 2) (h3 : s.k ≠ 3) (h4 : s.k ≠ 4) : s.pr = 0 ∧ s.ps = [] := by
  have hs : shapedP s = true := by
    simp only [mayP] at h
    split at h
    · cases h
    · split at h
      · cases h
      · rename_i h2
        simp only [Bool.or_eq_true, Bool.not_eq_true', not_or, Bool.not_eq_false] at h2
        exact h2.2
  simp only [shapedP, if_neg h1, if_neg h2, if_neg h3, if_neg h4] at hs
  split at hs
  · simp only [Bool.and_eq_true, beq_iff_eq] at hs
    obtain ⟨⟨⟨⟨⟨q1, q2⟩, _⟩, _⟩, _⟩, _⟩ := hs
    exact ⟨q1, List.length_eq_zero_iff.1 (by omega)⟩
  · cases hs
set_option maxHeartbeats 4000000 in
theorem fs_wPut {Gl : Gh → Prop} (hst : Stays Gl) {s : Sq} (hp0 : 0 ≤ s.pr) (hp1 : s.pr < 256) (hf0 : 0 ≤ s.fi) (hf1 : s.fi < 256) (h : s.sm) : FS Tryd.prog Gl 7 [.agg s.c] [] [] (.tup [putV s, .int .i64 (mayP s)]) [] [] := by
  have c1 := fs_May (Gl := Gl) hst hf0 hf1 h.ps h.pp h.it h.da
  have hfl : (AV.tup [putV s, .int .i64 (mayP s)]).flatT = true := by
    unfold putV; split <;> rfl
  refine FS.ofW hm hst is_wirePut hfl (by simp) fun γ hγ hfr => ?_
  have hpv : putV s = if (mayP s != 0) = true then .nils else .sl none 1 (bytesAV (putB s)) := rfl
  have hda : mayP s = 0 → s.da.length ≤ 4096 := fun hz => (mayP_sm hz).2.2.2.2
  have hil : mayP s = 0 → s.it.length ≤ 2 := fun hz => (mayP_sm hz).2.2.2.1
  have hpl : mayP s = 0 → s.ps.length ≤ 16 := fun hz => (mayP_sm hz).2.1
  have hpp : mayP s = 0 → ∀ p ∈ s.ps, p.length ≤ 8 ∧ ∀ n ∈ p, n ≤ 1114111 := fun hz p hp => ⟨(mayP_sm hz).2.2.1 p hp, fun n hn => (((parsOk_iff (may_pars hz)).2.2 p hp).2.2 n hn).2⟩
  obtain ⟨k, pr, ps, it, fi, da⟩ := s
  simp only at hp0 hp1 hf0 hf1 hda hil hpl hpp
  obtain ⟨pr, rfl⟩ := byteOf hp0 hp1
  obtain ⟨fi, rfl⟩ := byteOf hf0 (by omega)
  have hbb : putB ⟨k, pr.toNat, ps, it, fi.toNat, da⟩ = (if (k == 1) = true then [27, 91] ++ (prB pr.toNat ++ parsText ps ++ it) ++ [fi]
    else if (k == 2) = true then [27, 79] ++ [fi]
    else if (k == 3) = true then [27, 80] ++ (prB pr.toNat ++ parsText ps ++ it) ++ [fi] ++ da ++ [27, 92]
    else if (k == 4) = true then [27, 93] ++ da ++ [27, 92]
    else [27] ++ it ++ [fi]) := by
    have : ((fi.toNat : Int).toNat).toUInt8 = fi := by rw [Int.toNat_natCast]; exact UInt8.ofNat_toNat
    simp only [putB, bodyB, this]
  have hcc : Sq.c ⟨k, pr.toNat, ps, it, fi.toNat, da⟩ = [.int .i64 k, .int .u8 (pr.toNat : Int), parsV ps, .str it, .int .u8 (fi.toNat : Int), .str da] := rfl
  rw [hcc] at c1
  generalize hmp : mayP _ = mp at *
  (generalize hQ : (fun (ex : Ex) (_ _ : Nat) (s : St) => _) = Q; unfold ir_wirePut)
  simp +contextual (maxSteps := 1000000) only [hcc, go_sem, reduceCtorEq, ↓reduceIte, Nat.reduceAdd, Nat.reduceEqDiff, Nat.reduceLeDiff, Nat.reduceMul, Nat.reduceBEq, Int.reduceBEq, Int.reduceBNe, Int.reduceLT, Int.reduceLE, Int.reduceGT, Int.reduceGE, Int.reduceToNat]
  (refine CallP.pure (c1) (fun _ => rfl) ?_; simp +contextual (maxSteps := 1000000) only [go_sem, reduceCtorEq, ↓reduceIte, Nat.reduceAdd, Nat.reduceEqDiff, Nat.reduceLeDiff, Nat.reduceMul, Nat.reduceBEq, Int.reduceBEq, Int.reduceBNe, Int.reduceLT, Int.reduceLE, Int.reduceGT, Int.reduceGE, Int.reduceToNat])
  by_cases hz : mp = 0
  · subst hz
    have hda := hda rfl
    have hil := hil rfl
    have c2 := fs_body (Gl := Gl) hst (k := k) (ps := ps) (it := it) (da := da) (pr := pr) (fi := fi) (hpl rfl) (hpp rfl) (by omega)
    rw [hcc] at c2
    have hsl := parsText_len (hpp rfl)
    have hpl := hpl rfl
    have hprl : (prB pr.toNat).length ≤ 1 := by unfold prB; split <;> simp
    have fin : ∀ {l : List UInt8} {γ c : Nat} {H : Hp} {T : Tk}, l = putB ⟨k, pr.toNat, ps, it, fi.toNat, da⟩ → Q .ret γ c ⟨lf [(2, .sl none 1 (bytesAV l)), (3, .int .i64 0)], H, T⟩ := by
      intro l γ c H T hl
      rw [← hQ, hpv, hl]
      exact ⟨trivial, .inl ⟨_, rfl, RepLe.refl _⟩⟩
    have hpt : (parsText ps).length ≤ 3000 := by omega
    have hk1 : (k == 1) = true ∨ (k == 1) = false := by cases (k == 1) <;> simp
    rcases hk1 with hk1 | hk1
    · simp +contextual (maxSteps := 1000000) only [hk1, go_sem, reduceCtorEq, ↓reduceIte, Nat.reduceAdd, Nat.reduceEqDiff, Nat.reduceLeDiff, Nat.reduceMul, Nat.reduceBEq, Int.reduceBEq, Int.reduceBNe, Int.reduceLT, Int.reduceLE, Int.reduceGT, Int.reduceGE, Int.reduceToNat]
      (refine CallP.pure (c2) (fun _ => rfl) ?_; simp +contextual (maxSteps := 1000000) only [go_sem, reduceCtorEq, ↓reduceIte, Nat.reduceAdd, Nat.reduceEqDiff, Nat.reduceLeDiff, Nat.reduceMul, Nat.reduceBEq, Int.reduceBEq, Int.reduceBNe, Int.reduceLT, Int.reduceLE, Int.reduceGT, Int.reduceGE, Int.reduceToNat])
      (refine CallP.pure (fs_glue (xs := [[91], prB pr.toNat ++ (parsText ps ++ it ++ [fi])]) hst (by simp) (by simp; omega)) (fun _ => rfl) ?_; simp +contextual (maxSteps := 1000000) only [go_sem, reduceCtorEq, ↓reduceIte, Nat.reduceAdd, Nat.reduceEqDiff, Nat.reduceLeDiff, Nat.reduceMul, Nat.reduceBEq, Int.reduceBEq, Int.reduceBNe, Int.reduceLT, Int.reduceLE, Int.reduceGT, Int.reduceGE, Int.reduceToNat])
      refine fin ?_
      rw [hbb, if_pos hk1]; simp
    have hk2 : (k == 2) = true ∨ (k == 2) = false := by cases (k == 2) <;> simp
    rcases hk2 with hk2 | hk2
    · simp +contextual (maxSteps := 1000000) only [hk1, hk2, isByte_one, unbyte_c, go_sem, reduceCtorEq, ↓reduceIte, Nat.reduceAdd, Nat.reduceEqDiff, Nat.reduceLeDiff, Nat.reduceMul, Nat.reduceBEq, Int.reduceBEq, Int.reduceBNe, Int.reduceLT, Int.reduceLE, Int.reduceGT, Int.reduceGE, Int.reduceToNat]
      (refine CallP.pure (fs_glue (xs := [[79], [fi]]) hst (by simp) (by simp)) (fun _ => rfl) ?_; simp +contextual (maxSteps := 1000000) only [go_sem, reduceCtorEq, ↓reduceIte, Nat.reduceAdd, Nat.reduceEqDiff, Nat.reduceLeDiff, Nat.reduceMul, Nat.reduceBEq, Int.reduceBEq, Int.reduceBNe, Int.reduceLT, Int.reduceLE, Int.reduceGT, Int.reduceGE, Int.reduceToNat])
      refine fin ?_
      rw [hbb, hk1, if_neg (by simp), if_pos hk2]; simp
    have hk3 : (k == 3) = true ∨ (k == 3) = false := by cases (k == 3) <;> simp
    rcases hk3 with hk3 | hk3
    · simp +contextual (maxSteps := 1000000) only [hk1, hk2, hk3, go_sem, reduceCtorEq, ↓reduceIte, Nat.reduceAdd, Nat.reduceEqDiff, Nat.reduceLeDiff, Nat.reduceMul, Nat.reduceBEq, Int.reduceBEq, Int.reduceBNe, Int.reduceLT, Int.reduceLE, Int.reduceGT, Int.reduceGE, Int.reduceToNat]
      refine DCall.new c2 ?_
      simp +contextual (maxSteps := 1000000) only [go_sem, reduceCtorEq, ↓reduceIte, Nat.reduceAdd, Nat.reduceEqDiff, Nat.reduceLeDiff, Nat.reduceMul, Nat.reduceBEq, Int.reduceBEq, Int.reduceBNe, Int.reduceLT, Int.reduceLE, Int.reduceGT, Int.reduceGE, Int.reduceToNat]
      refine ⟨by simp [AV.closedL, AV.closed], DCall.new (fs_glue (xs := [[80], prB pr.toNat ++ (parsText ps ++ it ++ [fi]), da, [27, 92]]) hst (by simp) (by simp; omega)) ?_⟩
      simp +contextual (maxSteps := 1000000) only [go_sem, reduceCtorEq, ↓reduceIte, Nat.reduceAdd, Nat.reduceEqDiff, Nat.reduceLeDiff, Nat.reduceMul, Nat.reduceBEq, Int.reduceBEq, Int.reduceBNe, Int.reduceLT, Int.reduceLE, Int.reduceGT, Int.reduceGE, Int.reduceToNat]
      refine fin ?_
      rw [hbb, hk1, if_neg (by simp), hk2, if_neg (by simp), if_pos hk3]; simp
    have hk4 : (k == 4) = true ∨ (k == 4) = false := by cases (k == 4) <;> simp
    rcases hk4 with hk4 | hk4
    · simp +contextual (maxSteps := 1000000) only [hk1, hk2, hk3, hk4, go_sem, reduceCtorEq, ↓reduceIte, Nat.reduceAdd, Nat.reduceEqDiff, Nat.reduceLeDiff, Nat.reduceMul, Nat.reduceBEq, Int.reduceBEq, Int.reduceBNe, Int.reduceLT, Int.reduceLE, Int.reduceGT, Int.reduceGE, Int.reduceToNat]
      (refine CallP.pure (fs_glue (xs := [[93], da, [27, 92]]) hst (by simp) (by simp; omega)) (fun _ => rfl) ?_; simp +contextual (maxSteps := 1000000) only [go_sem, reduceCtorEq, ↓reduceIte, Nat.reduceAdd, Nat.reduceEqDiff, Nat.reduceLeDiff, Nat.reduceMul, Nat.reduceBEq, Int.reduceBEq, Int.reduceBNe, Int.reduceLT, Int.reduceLE, Int.reduceGT, Int.reduceGE, Int.reduceToNat])
      refine fin ?_
      rw [hbb, hk1, if_neg (by simp), hk2, if_neg (by simp), hk3, if_neg (by simp), if_pos hk4]; simp
    · simp +contextual (maxSteps := 1000000) only [hk1, hk2, hk3, hk4, go_sem, reduceCtorEq, ↓reduceIte, Nat.reduceAdd, Nat.reduceEqDiff, Nat.reduceLeDiff, Nat.reduceMul, Nat.reduceBEq, Int.reduceBEq, Int.reduceBNe, Int.reduceLT, Int.reduceLE, Int.reduceGT, Int.reduceGE, Int.reduceToNat]
      (refine CallP.pure (c2) (fun _ => rfl) ?_; simp +contextual (maxSteps := 1000000) only [go_sem, reduceCtorEq, ↓reduceIte, Nat.reduceAdd, Nat.reduceEqDiff, Nat.reduceLeDiff, Nat.reduceMul, Nat.reduceBEq, Int.reduceBEq, Int.reduceBNe, Int.reduceLT, Int.reduceLE, Int.reduceGT, Int.reduceGE, Int.reduceToNat])
      (refine CallP.pure (fs_glue (xs := [prB pr.toNat ++ (parsText ps ++ it ++ [fi])]) hst (by simp) (by simp; omega)) (fun _ => rfl) ?_; simp +contextual (maxSteps := 1000000) only [go_sem, reduceCtorEq, ↓reduceIte, Nat.reduceAdd, Nat.reduceEqDiff, Nat.reduceLeDiff, Nat.reduceMul, Nat.reduceBEq, Int.reduceBEq, Int.reduceBNe, Int.reduceLT, Int.reduceLE, Int.reduceGT, Int.reduceGE, Int.reduceToNat])
      refine fin ?_
      rw [hbb, hk1, if_neg (by simp), hk2, if_neg (by simp), hk3, if_neg (by simp), hk4, if_neg (by simp)]
      obtain ⟨hpl1, hpl2⟩ := esc_plain hmp (by simpa using hk1) (by simpa using hk2) (by simpa using hk3) (by simpa using hk4)
      simp only at hpl1 hpl2
      rw [hpl1, hpl2]; rfl
  · have hq : (mp != 0) = true := by simp [hz]
    simp +contextual (maxSteps := 1000000) only [hq, go_sem, reduceCtorEq, ↓reduceIte, Nat.reduceAdd, Nat.reduceEqDiff, Nat.reduceLeDiff, Nat.reduceMul, Nat.reduceBEq, Int.reduceBEq, Int.reduceBNe, Int.reduceLT, Int.reduceLE, Int.reduceGT, Int.reduceGE, Int.reduceToNat]
    rw [← hQ, hpv, if_pos hq]
    exact ⟨trivial, .inl ⟨_, rfl, RepLe.refl _⟩⟩
end Go.Proofs.YtcdkcfpgdbjogaaDoor

namespace Go.Proofs.YtcdkcfpgdbjogaaDoor
open Go Go.Ab
/- clavier/wire.Num -/
def ir_wireNum_l0 : ICode :=
 (.seq
 (.reg [⟨some 16, none, .bin .lss .none (.t 15) (.t 14)⟩] (some [6, 7, 13, 14, 15, 16]))
 (.seq
 (.cond (.t 16)
 .skip
 (.exit 0))
 (.seq
 (.blk 1
 (.seq
 (.reg [⟨some 17, none, .ia 1 (.t 13) (.t 15)⟩,
 ⟨some 18, none, .ld none (.t 17)⟩,
 ⟨some 9, none, .mov (.t 18)⟩] (some [6, 7, 9, 13, 14, 15]))
 (.reg [⟨some 19, none, .fa 2 (.t 7)⟩,
 ⟨some 20, none, .ld none (.t 19)⟩,
 ⟨some 21, none, .mov (.t 9)⟩,
 ⟨some 22, none, .row 3 1 [(.t 21)]⟩,
 ⟨some 23, none, .row 43 1 [(.t 22)]⟩,
 ⟨some 24, none, .app 43 1 24 (.t 20) (.t 23)⟩,
 ⟨some 25, none, .fa 2 (.t 7)⟩,
 ⟨none, none, .st 1 (.t 25) (.t 24)⟩] (some [6, 7, 13, 14, 15]))))
 (.reg [⟨some 26, none, .bin .add .none (.t 15) (.c (.int .i64 1))⟩,
 ⟨some 15, none, .mov (.t 26)⟩] (some [6, 7, 13, 14, 15])))))
def ir_wireNum : ICode :=
 (.seq
 (.reg [⟨some 6, none, .box 24 (.c (.agg [(.int .i64 0), (.int .u8 0), .nils, (.str []), (.int .u8 0), (.str [])]))⟩] (some [0, 1, 2, 6]))
 (.seq
 (.reg [⟨some 10, none, .mov (.t 0)⟩,
 ⟨some 11, none, .mov (.t 1)⟩,
 ⟨some 12, none, .bld [(.int .i64 0), (.int .u8 0), .nils, (.str []), (.int .u8 0), (.str [])] [(0, 1, (.c (.int .i64 1))), (1, 1, (.t 10)), (4, 1, (.t 11))]⟩,
 ⟨some 7, none, .box 24 (.c (.agg [(.int .i64 0), (.int .u8 0), .nils, (.str []), (.int .u8 0), (.str [])]))⟩,
 ⟨none, none, .st 6 (.t 7) (.t 12)⟩] (some [2, 6, 7]))
 (.seq
 (.seq
 (.reg [⟨some 13, none, .mov (.t 2)⟩,
 ⟨some 14, none, .len (.t 13)⟩,
 ⟨some 15, none, .mov (.c (.int .i64 0))⟩] (some [6, 7, 13, 14, 15]))
 (.blk 0
 (.loop
 ir_wireNum_l0)))
 (.seq
 (.reg [⟨some 27, none, .ld (some 6) (.t 7)⟩,
 ⟨none, none, .st 6 (.t 6) (.t 27)⟩] (some [6]))
 .ret))))
theorem is_wireNum : IrOf Tryd.prog 13 28 ir_wireNum [.cell 6 (some 6)] := ⟨_, Tryd.func13, rfl, by kernel_rfl, by kernel_rfl, by kernel_rfl⟩

def putX (s : Sq) : List UInt8 := if (mayP s != 0) = true then [] else putB s
theorem putV_le (s : Sq) : RepLe (putV s) (.sl none 1 (bytesAV (putX s))) := by
  unfold putV putX
  split
  · exact RepLe.nils 1
  · exact RepLe.refl _
def numSq (k pr fi : Int) (nums : List Int) : Sq := ⟨k, pr, nums.map fun n => [n], [], fi, []⟩
theorem fs_Num {Gl : Gh → Prop} (hst : Stays Gl) {pr fi : Int} {nums : List Int} {tn : Option Nm} (hn : nums.length ≤ 1000) : FS Tryd.prog Gl 13 [.int .u8 pr, .int .u8 fi, .sl tn 1 (intsAV nums)] [] [] (.agg (numSq 1 pr fi nums).c) [] [] := by
  refine FS.ofW hm hst is_wireNum rfl (by simp) fun γ hγ hfr => ?_
  (generalize hQ : (fun (ex : Ex) (_ _ : Nat) (s : St) => _) = Q; unfold ir_wireNum)
  simp +contextual (maxSteps := 1000000) only [go_sem, reduceCtorEq, ↓reduceIte, Nat.reduceAdd, Nat.reduceEqDiff, Nat.reduceLeDiff, Nat.reduceMul, Nat.reduceBEq, Int.reduceBEq, Int.reduceBNe, Int.reduceLT, Int.reduceLE, Int.reduceGT, Int.reduceGE, Int.reduceToNat]
  refine kLoop_ix (fun q : Nat × Option Nm => ⟨lf [(6, .ptr (γ, 0, 0) 0), (7, .ptr (γ, 4, 0) 0), (13, .sl tn 1 (intsAV nums)), (14, .int .i64 nums.length), (15, .int .i64 q.1)], [((γ, 4, 0), .cells [.int .i64 1, .int .u8 pr, sv q.2 1 (parsAV ((nums.take q.1).map fun n => [n])), .str [], .int .u8 fi, .str []]), ((γ, 0, 0), .cells [.int .i64 0, .int .u8 0, .nils, .str [], .int .u8 0, .str []])], fun x => q.2 = some x⟩)
    (fun q => q.1 ≤ nums.length ∧ (q.2 = none → q.1 = 0)) (fun q => nums.length - q.1) 0 (0, none) ?_ ⟨by simp, by simp⟩ ?_
  · refine Wk.perm' ?_ (fun p hp => hp) (fun t ht => by cases ht)
    simp only [lfOK, intsAV_length]
    repeat' first | exact AVle.refl _ _ | exact trivial | refine And.intro ?_ ?_ | exact AVle.int (by simp only [IntKind.wrap_i64]; omega)
  rintro γ' ⟨i, tk⟩ hf ⟨hi, htk⟩
  simp only at hi htk hf
  generalize hQ' : kIt _ _ _ _ _ = Q'
  unfold ir_wireNum_l0
  by_cases hlt : i < nums.length
  · have hd : decide ((i : Int) < (nums.length : Int)) = true := decide_eq_true (by omega)
    have hg1 : (intsAV nums).getD i [] = [.int .i64 nums[i]] := intsAV_get hlt
    have hw : IntKind.i64.wrap ((i : Int) + 1) = ((i + 1 : Nat) : Int) := by rw [IntKind.wrap_i64]; omega
    have hsn : parsAV ((nums.take (i + 1)).map fun n => [n]) = parsAV ((nums.take i).map fun n => [n]) ++ [[intsV [nums[i]]]] := by
      rw [List.take_add_one, List.getElem?_eq_getElem hlt, List.map_append]
      unfold parsAV
      rw [List.map_append]; rfl
    have hln : (parsAV ((nums.take i).map fun n => [n])).length = i := by rw [parsAV_length, List.length_map, List.length_take]; omega
    cases tk with
    | none =>
      obtain rfl := htk rfl
      have hd0 : decide (0 < (nums.length : Int)) = true := decide_eq_true (by omega)
      have hg0 : (intsAV nums).getD 0 [] = [.int .i64 nums[0]] := hg1
      simp +contextual (maxSteps := 1000000) only [hd0, hg0, Int.toNat_natCast, intsAV_length, Int.toNat_zero, go_sem, reduceCtorEq, ↓reduceIte, Nat.reduceAdd, Nat.reduceEqDiff, Nat.reduceLeDiff, Nat.reduceMul, Nat.reduceBEq, Int.reduceBEq, Int.reduceBNe, Int.reduceLT, Int.reduceLE, Int.reduceGT, Int.reduceGE, Int.reduceToNat]
      refine ⟨by omega, ?_⟩
      rw [← hQ']
      simp only [w_kIt_n]
      refine ⟨0, (1, some (γ', 9, 0)), Wk.perm' ?_ (fun p hp => ?_) (fun t ht => ?_), ⟨by simp only; omega, by simp⟩, by simp only; omega⟩
      · repeat' first | exact AVle.refl _ _ | exact trivial | refine And.intro ?_ ?_ | exact AVle.int (by simp only [IntKind.wrap_i64]; omega)
      · have e : sv (some ((γ', 9, 0) : Nm)) 1 (parsAV ((nums.take 1).map fun n => [n])) = .sl (some (γ', 9, 0)) 1 [[.sl none 1 [[.int .i64 nums[0]]]]] := by
          rw [show nums.take 1 = [nums[0]] by cases nums with | nil => simp at hlt | cons x l => rfl]; rfl
        simp only [e] at hp
        exact hp
      · simp only [Option.some.injEq] at ht
        exact .inl ht.symm
    | some t0 =>
      simp +contextual (maxSteps := 1000000) only [hd, hg1, Int.toNat_natCast, intsAV_length, hln, go_sem, reduceCtorEq, ↓reduceIte, Nat.reduceAdd, Nat.reduceEqDiff, Nat.reduceLeDiff, Nat.reduceMul, Nat.reduceBEq, Int.reduceBEq, Int.reduceBNe, Int.reduceLT, Int.reduceLE, Int.reduceGT, Int.reduceGE, Int.reduceToNat]
      refine ⟨⟨by omega, by omega⟩, ⟨.inr (.inr trivial), by omega⟩, ?_⟩
      rw [← hQ']
      simp only [w_kIt_n]
      refine ⟨0, (i + 1, some (γ', 9, 0)), Wk.perm' ?_ (fun p hp => ?_) (fun t ht => ?_), ⟨by simp only; omega, by simp⟩, by simp only; omega⟩
      · rw [hw]
        repeat' first | exact AVle.refl _ _ | exact trivial | refine And.intro ?_ ?_ | exact AVle.int (by simp only [IntKind.wrap_i64]; omega)
      · simp only [sv_some, hsn] at hp
        exact hp
      · simp only [Option.some.injEq] at ht
        exact .inl ht.symm
  · have hd : decide ((i : Int) < (nums.length : Int)) = false := decide_eq_false (by omega)
    simp +contextual (maxSteps := 1000000) only [hd, go_sem, reduceCtorEq, ↓reduceIte, Nat.reduceAdd, Nat.reduceEqDiff, Nat.reduceLeDiff, Nat.reduceMul, Nat.reduceBEq, Int.reduceBEq, Int.reduceBNe, Int.reduceLT, Int.reduceLE, Int.reduceGT, Int.reduceGE, Int.reduceToNat]
    rw [← hQ']
    simp only [w_kIt_e, w_kBlk_e, ↓reduceIte]
    have hall : nums.take i = nums := List.take_of_length_le (by omega)
    cases tk with
    | none =>
      simp +contextual (maxSteps := 1000000) only [go_sem, reduceCtorEq, ↓reduceIte, Nat.reduceAdd, Nat.reduceEqDiff, Nat.reduceLeDiff, Nat.reduceMul, Nat.reduceBEq, Int.reduceBEq, Int.reduceBNe, Int.reduceLT, Int.reduceLE, Int.reduceGT, Int.reduceGE, Int.reduceToNat]
      obtain rfl := htk rfl
      have hz : (numSq 1 pr fi nums).c = [.int .i64 1, .int .u8 pr, .sl none 1 [], .str [], .int .u8 fi, .str []] := by
        have : nums = [] := List.length_eq_zero_iff.1 (by omega)
        subst this; rfl
      rw [← hQ, hz]
      refine ⟨trivial, .inl ⟨.agg [.int .i64 1, .int .u8 pr, .nils, .str [], .int .u8 fi, .str []], ?_, RepLe.agg ⟨.refl _, .refl _, .nils 1, .refl _, .refl _, .refl _, trivial⟩⟩⟩
      simp [resOf, getAll, IRes.get, lf, getH]
    | some t0 =>
      simp +contextual (maxSteps := 1000000) only [go_sem, reduceCtorEq, ↓reduceIte, Nat.reduceAdd, Nat.reduceEqDiff, Nat.reduceLeDiff, Nat.reduceMul, Nat.reduceBEq, Int.reduceBEq, Int.reduceBNe, Int.reduceLT, Int.reduceLE, Int.reduceGT, Int.reduceGE, Int.reduceToNat]
      rw [hall, ← hQ]
      refine ⟨trivial, .inl ⟨.agg [.int .i64 1, .int .u8 pr, .sl (some t0) 1 (parsAV (nums.map fun n => [n])), .str [], .int .u8 fi, .str []], ?_, RepLe.agg ⟨.refl _, .refl _, .anon' rfl, .refl _, .refl _, .refl _, trivial⟩⟩⟩
      simp [resOf, getAll, IRes.get, lf, getH]
end Go.Proofs.YtcdkcfpgdbjogaaDoor

namespace Go.Proofs.YtcdkcfpgdbjogaaDoor
open Go Go.Ab

theorem bb_get {l : List UInt8} {i : Nat} (h : i < l.length) : (bytesAV l).getD i [] = [.int .u8 (l[i].toNat : Int)] := by
  rw [List.getD_eq_getElem?_getD, bytesAV, List.getElem?_map, List.getElem?_eq_getElem h]; rfl
theorem bb_un (l : List UInt8) : (bytesAV l).map unbyte = l := by
  rw [bytesAV, List.map_map]
  have : (unbyte ∘ fun c : UInt8 => [AV.int .u8 (c.toNat : Int)]) = _root_.id := by funext c; simp [unbyte]
  rw [this, List.map_id]
theorem bb_is (l : List UInt8) : (∀ r ∈ bytesAV l, isByte r) = True := by
  rw [eq_iff_iff, iff_true]
  intro r hr
  obtain ⟨c, _, rfl⟩ := List.mem_map.1 hr
  rw [isByte_c]; trivial
theorem bytesAV_take (n : Nat) (l : List UInt8) : (bytesAV l).take n = bytesAV (l.take n) := by simp [bytesAV, List.map_take]
theorem bytesAV_drop (n : Nat) (l : List UInt8) : (bytesAV l).drop n = bytesAV (l.drop n) := by simp [bytesAV, List.map_drop]
theorem Rd.of {H : Hp} (h : ∀ p ∈ H, 1 ≤ p.1.1 ∧ ∃ xs : List AV, p.2 = .cells xs ∧ xs.all AV.flat = true) : Rd H := by
  refine ⟨fun f => ?_, fun p hp => ?_⟩
  · unfold rnH
    rw [List.map_congr_left (g := id), List.map_id]
    intro p hp
    obtain ⟨h1, xs, h2, h3⟩ := h p hp
    obtain ⟨n, b⟩ := p
    simp only at h1 h2
    subst h2
    simp only [rnN, rnHB, id_eq, flatL_rn h3]
    rw [if_neg (by omega)]
  · obtain ⟨h1, xs, h2, h3⟩ := h p hp
    refine ⟨?_, ?_⟩
    · unfold nmOK
      rw [if_neg (by omega)]
      exact List.mem_map.2 ⟨p, hp, rfl⟩
    · rw [h2]; exact flatL_ok h3
end Go.Proofs.YtcdkcfpgdbjogaaDoor

