/- Part 4 of 4 of a proof: the given statement DecodeSame, whatever the input that its row lets in. Conditions: those of the given row and card alone. -/
import Derived.Test.YtcdkcfpgdbjogaaGreatDoorPDecodeSame2
import Derived.Test.YtcdkcfpgdbjogaaGreatDoorPDecodeSame3
import Derived.Test.YtcdkcfpgdbjogaaGreatDoorPDecodeSameAb13
import Derived.WalkKit
import Derived.ProofKit
import Derived.SizedLaws
import Derived.Test.YtcdkcfpgdbjogaaGreatDoorRows
import Derived.LaidSub
import Derived.Lib.LaidTab
import Derived.Lib.ItoaNum
import Derived.MakeChecks
import Derived.Test.YtcdkcfpgdbjogaaGreatDoorCards
import Derived.Test.YtcdkcfpgdbjogaaGreatDoorTie
import Derived.Deep.DeepHandedRow
import Derived.JoinedCond
import Derived.OpenShut
import Derived.ShutString
import Derived.ChangeOld
import Derived.Below
import Derived.Lay
import Derived.LaidOnce
import Derived.SevenTiedAt
set_option linter.unusedVariables false
set_option linter.unusedSimpArgs false
set_option maxRecDepth 100000
namespace Go.Proofs.YtcdkcfpgdbjogaaGreatDoor
open Go Go.Ab
def ir_clavierref02Ints : ICode :=
 (.seq
 (.reg [qA 4 (.mov (qB false))] (some [0,1]))
 (.seq
 (.seq
 (.reg [qM 6 0,
 qA 7 (.len (.t 6)),
 qM 8 1,
 qA 9 (.len (.t 8)),
 qA 10 (.bin .neq .none (.t 7) (.t 9))] (some [0,1,10]))
 (.cond (.t 10)
 (.seq
 (.reg [qA 4 (.mov (qB false))] (some [4]))
 .ret)
 .skip))
 (.seq
 (.seq
 (.reg [qA 5 (.mov (qI 0))] (some [0,1,5]))
 (.blk 0
 (.loop
 (.seq
 (.seq
 (.reg [qM 11 5,
 qM 12 0,
 qA 13 (.len (.t 12)),
 qA 14 (.bin .lss .none (.t 11) (.t 13))] (some [0,1,5,14]))
 (.cond (.t 14)
 .skip
 (.exit 0)))
 (.seq
 (.blk 1
 (.seq
 (.drw [⟨qM 17 0, []⟩,
 ⟨qM 18 5, []⟩,
 ⟨qA 19 (.ia 1 (.t 17) (.t 18)), [0,1]⟩,
 ⟨qL 20 19, [2]⟩,
 ⟨qM 21 1, []⟩,
 ⟨qM 22 5, []⟩,
 ⟨qA 23 (.ia 1 (.t 21) (.t 22)), [4,5]⟩,
 ⟨qL 24 23, [6]⟩,
 ⟨qA 25 (.bin .neq .none (.t 20) (.t 24)), [3,7]⟩]
 [] (some [0,1,5,25]))
 (.cond (.t 25)
 (.seq
 (.reg [qA 4 (.mov (qB false))] (some [4]))
 .ret)
 .skip)))
 (.reg [qM 15 5,
 qA 16 (.bin .add .none (.t 15) (qI 1)),
 qM 5 16] (some [0,1,5])))))))
 (.seq
 (.reg [qA 4 (.mov (qB true))] (some [4]))
 .ret))))
theorem is_clavierref02Ints : IrOf Tryz.prog 135 26 ir_clavierref02Ints [.t 4] := ⟨_, Tryz.func135, rfl, by kernel_rfl, by kernel_rfl, by kernel_rfl⟩

theorem fs_Ints {Gl : Gh → Prop} (hst : Stays Gl) {a b : List Int} {ta tb : Option Nm} (ha : a.length < 9223372036854775808) (hb : b.length < 9223372036854775808) : FS Tryz.prog Gl 135 [.sl ta 1 (intsAV a), .sl tb 1 (intsAV b)] [] [] (.bool (decide (a = b))) [] [] := by
  refine FS.of hm hst is_clavierref02Ints (by simp) fun γ hγ hfr => ?_
  generalize hQ : (fun (ex : Ex) (_ _ : Nat) (s : St) => _) = Q
  unfold ir_clavierref02Ints
  simp +contextual (maxSteps := 1000000) only [intsAV_length, go_sem, reduceCtorEq, ↓reduceIte, Nat.reduceAdd, Nat.reduceEqDiff]
  refine kCond_split (fun h => ?_) (fun h => ?_)
  · simp +contextual (maxSteps := 1000000) only [go_sem, ↓reduceIte, Nat.reduceAdd]
    rw [← hQ]
    have : decide (a = b) = false := by
      simp only [bne_iff_ne, ne_eq] at h
      rw [decide_eq_false_iff_not]; intro e; subst e; simp at h
    rw [this]
    exact ⟨trivial, Ret.flat rfl rfl⟩
  · have hl : a.length = b.length := by simp at h; omega
    simp +contextual (maxSteps := 1000000) only [intsAV_length, go_sem, reduceCtorEq, ↓reduceIte, Nat.reduceAdd, Nat.reduceEqDiff]
    refine kLoop_ix (fun i : Nat => ⟨lf [(0, .sl ta 1 (intsAV a)), (1, .sl tb 1 (intsAV b)), (5, .int .i64 i)], [], fun x => x ∈ []⟩) (fun i => i ≤ a.length ∧ a.take i = b.take i) (fun i => a.length - i) 0 0 (Wk.same ?_) ?_ ?_
    · simp only [lfOK, upd, initF]
      repeat' first | exact AVle.refl _ _ | exact trivial | refine And.intro ?_ ?_
    · simp
    · rintro γ' i hf ⟨hi, hinv⟩
      generalize hQ' : kIt _ _ _ _ _ = Q'
      by_cases hlt : i < a.length
      · have hd : decide ((i : Int) < (a.length : Int)) = true := by simp; omega
        have g1 : (intsAV a).getD (i : Int).toNat [] = [.int .i64 a[i]] := by rw [Int.toNat_natCast]; exact intsAV_get hlt
        have g2 : (intsAV b).getD (i : Int).toNat [] = [.int .i64 (b[i]'(by omega))] := by rw [Int.toNat_natCast]; exact intsAV_get (by omega)
        simp +contextual (maxSteps := 1000000) only [intsAV_length, hd, g1, g2, go_sem, reduceCtorEq, ↓reduceIte, Nat.reduceAdd, Nat.reduceEqDiff, Nat.reduceBEq]
        refine ⟨by omega, by omega, kCond_split (fun h1 => ?_) (fun h1 => ?_)⟩
        · simp +contextual (maxSteps := 1000000) only [go_sem, ↓reduceIte, Nat.reduceAdd]
          rw [← hQ']
          simp only [w_kIt_r, w_kBlk_r, w_kSeq_r]
          have e : decide (a = b) = false := by
            simp only [bne_iff_ne, ne_eq] at h1
            rw [decide_eq_false_iff_not]; intro e; subst e; exact h1 rfl
          rw [← hQ, e]
          exact ⟨trivial, Ret.flat rfl rfl⟩
        · simp +contextual (maxSteps := 1000000) only [go_sem, reduceCtorEq, ↓reduceIte, Nat.reduceAdd, Nat.reduceEqDiff]
          rw [← hQ']
          simp only [w_kIt_n]
          refine ⟨0, i + 1, Wk.same ?_, ⟨by omega, ?_⟩, by omega⟩
          · repeat' first | exact AVle.refl _ _ | exact trivial | refine And.intro ?_ ?_ | exact AVle.int (by simp only [IntKind.wrap_i64]; omega)
          · have h2 : a[i] = b[i]'(by omega) := by simpa using h1
            rw [List.take_add_one, List.take_add_one, hinv, List.getElem?_eq_getElem hlt, List.getElem?_eq_getElem (show i < b.length by omega), h2]
      · have hd : decide ((i : Int) < (a.length : Int)) = false := by simp; omega
        simp +contextual (maxSteps := 1000000) only [intsAV_length, hd, go_sem, reduceCtorEq, ↓reduceIte, Nat.reduceAdd, Nat.reduceEqDiff]
        rw [← hQ']
        simp only [w_kIt_e, w_kBlk_e, ↓reduceIte]
        simp +contextual (maxSteps := 1000000) only [go_sem, ↓reduceIte, Nat.reduceAdd]
        have e : decide (a = b) = true := by
          rw [decide_eq_true_eq]
          have h1 : i = a.length := by omega
          have h2 : i = b.length := by omega
          have h3 := hinv
          rw [List.take_of_length_le (by omega), List.take_of_length_le (by omega)] at h3
          exact h3
        rw [← hQ, e]
        exact ⟨trivial, Ret.flat rfl rfl⟩
end Go.Proofs.YtcdkcfpgdbjogaaGreatDoor

namespace Go.Proofs.YtcdkcfpgdbjogaaGreatDoor
open Go Go.Ab
/- clavier/clavierref03.Same -/
def ir_clavierref03Same_l0 : ICode :=
 (.seq
 (.seq
 (.reg [qM 48 5,
 qF 49 2 2,
 qL 50 49,
 qA 51 (.len (.t 50)),
 qA 52 (.bin .lss .none (.t 48) (.t 51))] (some [2,3,5,52]))
 (.cond (.t 52)
 .skip
 (.exit 0)))
 (.seq
 (.blk 1
 (.seq
 (.drw [⟨qF 55 2 2, []⟩,
 ⟨qL 56 55, [0]⟩,
 ⟨qM 57 5, []⟩,
 ⟨qA 58 (.ia 1 (.t 56) (.t 57)), [1,2]⟩,
 ⟨qL 59 58, [3]⟩,
 ⟨qF 60 2 3, []⟩,
 ⟨qL 61 60, [5]⟩,
 ⟨qM 62 5, []⟩,
 ⟨qA 63 (.ia 1 (.t 61) (.t 62)), [6,7]⟩,
 ⟨qL 64 63, [8]⟩,
 ⟨qA 65 (.call (qC 135) [(.t 59), (.t 64)]), [4,9]⟩,
 ⟨qA 66 (.un .not (.t 65)), [10]⟩]
 [] (some [2,3,5,66]))
 (.cond (.t 66)
 (.seq
 (.reg [qA 4 (.mov (qB false))] (some [4]))
 .ret)
 .skip)))
 (.reg [qM 53 5,
 qA 54 (.bin .add .none (.t 53) (qI 1)),
 qM 5 54] (some [2,3,5]))))
def ir_clavierref03Same_t3 : ICode :=
 (.seq
 (.reg [qA 4 (.mov (qB true))] (some [4]))
 .ret)
def ir_clavierref03Same_t2 : ICode :=
 (.seq
 (.seq
 (.reg [qA 5 (.mov (qI 0))] (some [2,3,5]))
 (.blk 0
 (.loop
 ir_clavierref03Same_l0)))
 ir_clavierref03Same_t3)
def ir_clavierref03Same_t1 : ICode :=
 (.seq
 (.seq
 (.reg [qF 6 0 2,
 qL 7 6,
 qF 8 0 3,
 qL 9 8,
 qA 10 (.bin .neq .none (.t 7) (.t 9)),
 qM 11 10,
 qG 12 11 false (.fa 1 (.t 2)),
 qG 13 11 false (.ld none (.t 12)),
 qG 14 11 false (.fa 1 (.t 3)),
 qG 15 11 false (.ld none (.t 14)),
 qG 16 11 false (.bin .neq .none (.t 13) (.t 15)),
 qA 17 (.pick (.t 11) (qB true) (.t 16)),
 qM 18 17,
 qG 19 18 false (.fa 3 (.t 2)),
 qG 20 18 false (.ld none (.t 19)),
 qG 21 18 false (.fa 3 (.t 3)),
 qG 22 18 false (.ld none (.t 21)),
 qG 23 18 false (.bin .neq .none (.t 20) (.t 22)),
 qA 24 (.pick (.t 18) (qB true) (.t 23)),
 qM 25 24,
 qG 26 25 false (.fa 4 (.t 2)),
 qG 27 25 false (.ld none (.t 26)),
 qG 28 25 false (.fa 4 (.t 3)),
 qG 29 25 false (.ld none (.t 28)),
 qG 30 25 false (.bin .neq .none (.t 27) (.t 29)),
 qA 31 (.pick (.t 25) (qB true) (.t 30)),
 qM 32 31,
 qG 33 32 false (.fa 5 (.t 2)),
 qG 34 32 false (.ld none (.t 33)),
 qG 35 32 false (.fa 5 (.t 3)),
 qG 36 32 false (.ld none (.t 35)),
 qG 37 32 false (.bin .neq .none (.t 34) (.t 36)),
 qA 38 (.pick (.t 32) (qB true) (.t 37)),
 qM 39 38,
 qG 40 39 false (.fa 2 (.t 2)),
 qG 41 39 false (.ld none (.t 40)),
 qG 42 39 false (.len (.t 41)),
 qG 43 39 false (.fa 2 (.t 3)),
 qG 44 39 false (.ld none (.t 43)),
 qG 45 39 false (.len (.t 44)),
 qG 46 39 false (.bin .neq .none (.t 42) (.t 45)),
 qA 47 (.pick (.t 39) (qB true) (.t 46))] (some [2,3,47]))
 (.cond (.t 47)
 (.seq
 (.reg [qA 4 (.mov (qB false))] (some [4]))
 .ret)
 .skip))
 ir_clavierref03Same_t2)
def ir_clavierref03Same : ICode :=
 (.seq
 (.reg [qA 2 (.box 46 (.t 0)),
 qA 3 (.box 46 (.t 1)),
 qA 4 (.mov (qB false))] (some [2,3]))
 ir_clavierref03Same_t1)
theorem is_clavierref03Same : IrOf Tryz.prog 70 67 ir_clavierref03Same [.t 4] := ⟨_, Tryz.func70, rfl, by kernel_rfl, by kernel_rfl, by kernel_rfl⟩

theorem fs_Same {Gl : Gh → Prop} (hst : Stays Gl) {a b : Sq} (ha : a.ps.length < 9223372036854775808) (hb : b.ps.length < 9223372036854775808) (ha2 : ∀ p ∈ a.ps, p.length < 9223372036854775808) (hb2 : ∀ p ∈ b.ps, p.length < 9223372036854775808) : FS Tryz.prog Gl 70 [.agg a.c, .agg b.c] [] [] (.bool (decide (a = b))) [] [] := by
  obtain ⟨k, pr, ps, it, fi, da⟩ := a
  obtain ⟨k', pr', ps', it', fi', da'⟩ := b
  simp only at ha hb ha2 hb2
  refine FS.of hm hst is_clavierref03Same (by simp) fun γ hγ hfr => ?_
  simp only [Sq.c, parsV] at hfr ⊢
  have cl : AV.closedL [AV.int .i64 k, .int .u8 pr, .sl none 1 (parsAV ps), .str it, .int .u8 fi, .str da] = true := rfl
  have cl' : AV.closedL [AV.int .i64 k', .int .u8 pr', .sl none 1 (parsAV ps'), .str it', .int .u8 fi', .str da'] = true := rfl
  (generalize hQ : (fun (ex : Ex) (_ _ : Nat) (s : St) => _) = Q; unfold ir_clavierref03Same)
  simp +contextual (maxSteps := 1000000) only [parsAV_length, go_sem, ↓reduceIte, Nat.reduceAdd, Nat.reduceEqDiff]
  unfold ir_clavierref03Same_t1
  simp +contextual (maxSteps := 1000000) only [parsAV_length, go_sem, reduceCtorEq, ↓reduceIte, Nat.reduceAdd, Nat.reduceEqDiff]
  refine kCond_split (fun h => ?_) (fun h => ?_)
  · simp +contextual (maxSteps := 1000000) only [go_sem, ↓reduceIte, Nat.reduceAdd]
    rw [← hQ]
    have e : decide ((⟨k, pr, ps, it, fi, da⟩ : Sq) = ⟨k', pr', ps', it', fi', da'⟩) = false := by
      rw [decide_eq_false_iff_not]; intro e; injection e with e1 e2 e3 e4 e5 e6; subst e1 e2 e3 e4 e5 e6; simp at h
    rw [e]
    exact ⟨trivial, Ret.flat rfl rfl⟩
  · simp +contextual (maxSteps := 1000000) only [go_sem]
    unfold ir_clavierref03Same_t2
    simp +contextual (maxSteps := 1000000) only [go_sem, ↓reduceIte, Nat.reduceAdd, Nat.reduceEqDiff]
    refine kLoop_ix (fun i : Nat => ⟨lf [(2, .ptr (γ, 0, 0) 0), (3, .ptr (γ, 1, 0) 0), (5, .int .i64 i)], [((γ, 1, 0), .cells [.int .i64 k', .int .u8 pr', .sl none 1 (parsAV ps'), .str it', .int .u8 fi', .str da']), ((γ, 0, 0), .cells [.int .i64 k, .int .u8 pr, .sl none 1 (parsAV ps), .str it, .int .u8 fi, .str da])], fun x => x ∈ []⟩) (fun i => i ≤ ps.length ∧ ps.take i = ps'.take i) (fun i => ps.length - i) 0 0 (Wk.same ?_) ?_ ?_
    · (simp only [lfOK, upd, initF]; repeat' first | exact AVle.refl _ _ | exact trivial | refine And.intro ?_ ?_ | exact AVle.int (by simp only [IntKind.wrap_i64]; omega))
    · simp
    · rintro γ' i hf ⟨hi, hinv⟩
      generalize hQ' : kIt _ _ _ _ _ = Q'
      unfold ir_clavierref03Same_l0
      by_cases hlt : i < ps.length
      · have hd : decide ((i : Int) < (ps.length : Int)) = true := by simp; omega
        have hlt' : i < ps'.length := by simp at h; omega
        have g1 : (parsAV ps).getD (i : Int).toNat [] = [intsV ps[i]] := by rw [Int.toNat_natCast]; exact parsAV_get hlt
        have g2 : (parsAV ps').getD (i : Int).toNat [] = [intsV ps'[i]] := by rw [Int.toNat_natCast]; exact parsAV_get hlt'
        simp +contextual (maxSteps := 1000000) only [parsAV_length, hd, g1, g2, go_sem, reduceCtorEq, ↓reduceIte, Nat.reduceAdd, Nat.reduceEqDiff, Nat.reduceBEq]
        refine ⟨by omega, by omega, DCall.new (fs_Ints hst (ha2 _ (List.getElem_mem hlt)) (hb2 _ (List.getElem_mem hlt'))) ?_⟩
        simp +contextual (maxSteps := 1000000) only [go_sem, ↓reduceIte, Nat.reduceAdd, Nat.reduceEqDiff]
        refine kCond_split (fun h1 => ?_) (fun h1 => ?_)
        · simp +contextual (maxSteps := 1000000) only [go_sem, ↓reduceIte, Nat.reduceAdd]
          rw [← hQ']
          simp only [w_kIt_r, w_kBlk_r, w_kSeq_r]
          have e : decide ((⟨k, pr, ps, it, fi, da⟩ : Sq) = ⟨k', pr', ps', it', fi', da'⟩) = false := by
            rw [decide_eq_false_iff_not]; intro e; injection e with e1 e2 e3 e4 e5 e6; subst e3; simp at h1
          rw [← hQ, e]
          exact ⟨trivial, Ret.flat rfl rfl⟩
        · simp +contextual (maxSteps := 1000000) only [go_sem, reduceCtorEq, ↓reduceIte, Nat.reduceAdd, Nat.reduceEqDiff]
          rw [← hQ']
          simp only [w_kIt_n]
          have h2 : ps[i] = ps'[i] := by simpa using h1
          refine ⟨0, i + 1, Wk.same ?_, ⟨by omega, ?_⟩, by omega⟩
          · repeat' first | exact AVle.refl _ _ | exact trivial | refine And.intro ?_ ?_ | exact AVle.int (by simp only [IntKind.wrap_i64]; omega)
          · rw [List.take_add_one, List.take_add_one, hinv, List.getElem?_eq_getElem hlt, List.getElem?_eq_getElem hlt', h2]
      · have hd : decide ((i : Int) < (ps.length : Int)) = false := by simp; omega
        simp +contextual (maxSteps := 1000000) only [parsAV_length, hd, go_sem, reduceCtorEq, ↓reduceIte, Nat.reduceAdd, Nat.reduceEqDiff]
        rw [← hQ']
        simp only [w_kIt_e, w_kBlk_e, ↓reduceIte]
        unfold ir_clavierref03Same_t3
        simp +contextual (maxSteps := 1000000) only [go_sem, ↓reduceIte, Nat.reduceAdd]
        have h4 : ps.length = ps'.length := by simp at h; omega
        have h3 := hinv
        rw [List.take_of_length_le (by omega), List.take_of_length_le (by omega)] at h3
        have e : decide ((⟨k, pr, ps, it, fi, da⟩ : Sq) = ⟨k', pr', ps', it', fi', da'⟩) = true := by
          subst h3; simp at h; simp [h]
        rw [← hQ, e]
        exact ⟨trivial, Ret.flat rfl rfl⟩
end Go.Proofs.YtcdkcfpgdbjogaaGreatDoor

namespace Go.Proofs.YtcdkcfpgdbjogaaGreatDoor
open Go Go.Ab
def ir_slicesEqualFuncintintintint : ICode :=
 (.seq
 (.reg [qA 6 (.mov (qB false))] (some [0,1,2]))
 (.seq
 (.seq
 (.reg [qM 10 0,
 qA 11 (.len (.t 10)),
 qM 12 1,
 qA 13 (.len (.t 12)),
 qA 14 (.bin .neq .none (.t 11) (.t 13))] (some [0,1,2,14]))
 (.cond (.t 14)
 (.seq
 (.reg [qA 6 (.mov (qB false))] (some [6]))
 .ret)
 .skip))
 (.seq
 (.seq
 (.reg [qM 15 0,
 qA 16 (.len (.t 15)),
 qA 17 (.mov (qI 0))] (some [1,2,15,16,17]))
 (.blk 0
 (.loop
 (.seq
 (.reg [qA 18 (.bin .lss .none (.t 17) (.t 16))] (some [1,2,15,16,17,18]))
 (.seq
 (.cond (.t 18)
 .skip
 (.exit 0))
 (.seq
 (.blk 1
 (.seq
 (.reg [qM 19 17,
 qA 20 (.ia 1 (.t 15) (.t 17)),
 qL 21 20,
 qM 7 19,
 qM 8 21] (some [1,2,7,8,15,16,17]))
 (.seq
 (.reg [qM 22 1,
 qM 23 7,
 qA 24 (.ia 1 (.t 22) (.t 23)),
 qL 25 24,
 qM 9 25] (some [1,2,8,9,15,16,17]))
 (.seq
 (.reg [qM 26 2,
 qM 27 8,
 qM 28 9,
 qA 29 (.call (.t 26) [(.t 27), (.t 28)]),
 qA 30 (.un .not (.t 29))] (some [1,2,15,16,17,30]))
 (.cond (.t 30)
 (.seq
 (.reg [qA 6 (.mov (qB false))] (some [6]))
 .ret)
 .skip)))))
 (.reg [qA 31 (.bin .add .none (.t 17) (qI 1)),
 qM 17 31] (some [1,2,15,16,17]))))))))
 (.seq
 (.reg [qA 6 (.mov (qB true))] (some [6]))
 .ret))))
theorem is_slicesEqualFuncintintintint : IrOf Tryz.prog 133 32 ir_slicesEqualFuncintintintint [.t 6] := ⟨_, Tryz.func133, rfl, by kernel_rfl, by kernel_rfl, by kernel_rfl⟩

def ir_wireSame : ICode :=
 (.seq
 (.reg [qA 2 (.box 46 (.t 0)),
 qA 3 (.box 46 (.t 1)),
 qA 4 (.mov (qB false))] (some [2,3]))
 (.seq
 (.seq
 (.reg [qF 6 2 2,
 qL 7 6,
 qF 8 2 3,
 qL 9 8,
 qA 10 (.call (qC 133) [(.t 7), (.t 9), (qC 134)]),
 qA 11 (.un .not (.t 10))] (some [2,3,11]))
 (.cond (.t 11)
 (.seq
 (.reg [qA 4 (.mov (qB false))] (some [4]))
 .ret)
 .skip))
 (.seq
 (.reg [qF 12 0 2,
 qL 13 12,
 qF 14 0 3,
 qL 15 14,
 qA 16 (.bin .eql .none (.t 13) (.t 15)),
 qM 17 16,
 qG 18 17 true (.fa 1 (.t 2)),
 qG 19 17 true (.ld none (.t 18)),
 qG 20 17 true (.fa 1 (.t 3)),
 qG 21 17 true (.ld none (.t 20)),
 qG 22 17 true (.bin .eql .none (.t 19) (.t 21)),
 qA 23 (.pick (.t 17) (.t 22) (qB false)),
 qM 24 23,
 qG 25 24 true (.fa 4 (.t 2)),
 qG 26 24 true (.ld none (.t 25)),
 qG 27 24 true (.fa 4 (.t 3)),
 qG 28 24 true (.ld none (.t 27)),
 qG 29 24 true (.bin .eql .none (.t 26) (.t 28)),
 qA 30 (.pick (.t 24) (.t 29) (qB false)),
 qM 5 30] (some [2,3,5]))
 (.seq
 (.reg [qM 31 5,
 qM 32 31,
 qG 33 32 true (.fa 3 (.t 2)),
 qG 34 32 true (.ld none (.t 33)),
 qG 35 32 true (.fa 3 (.t 3)),
 qG 36 32 true (.ld none (.t 35)),
 qG 37 32 true (.bin .eql .none (.t 34) (.t 36)),
 qA 38 (.pick (.t 32) (.t 37) (qB false)),
 qM 39 38,
 qG 40 39 true (.fa 5 (.t 2)),
 qG 41 39 true (.ld none (.t 40)),
 qG 42 39 true (.fa 5 (.t 3)),
 qG 43 39 true (.ld none (.t 42)),
 qG 44 39 true (.bin .eql .none (.t 41) (.t 43)),
 qA 45 (.pick (.t 39) (.t 44) (qB false)),
 qM 4 45] (some [4]))
 .ret))))
theorem is_wireSame : IrOf Tryz.prog 69 46 ir_wireSame [.t 4] := ⟨_, Tryz.func69, rfl, by kernel_rfl, by kernel_rfl, by kernel_rfl⟩

theorem fs_EqualPars {Gl : Gh → Prop} (hst : Stays Gl) {a b : List (List Int)} {ta tb : Option Nm} (ha : a.length < 9223372036854775808) (hb : b.length < 9223372036854775808) (hpa : ∀ p ∈ a, p.length < 9223372036854775808) (hpb : ∀ p ∈ b, p.length < 9223372036854775808) : FS Tryz.prog Gl 133 [.sl ta 1 (parsAV a), .sl tb 1 (parsAV b), .fn (.func 134) [] []] [] [] (.bool (decide (a = b))) [] [] := by
  refine FS.of hm hst is_slicesEqualFuncintintintint (by simp) fun γ hγ hfr => ?_
  (generalize hQ : (fun (ex : Ex) (_ _ : Nat) (s : St) => _) = Q; unfold ir_slicesEqualFuncintintintint)
  simp +contextual (maxSteps := 1000000) only [parsAV_length, go_sem, reduceCtorEq, ↓reduceIte, Nat.reduceAdd, Nat.reduceEqDiff]
  refine kCond_split (fun h => ?_) (fun h => ?_)
  · simp +contextual (maxSteps := 1000000) only [go_sem, ↓reduceIte, Nat.reduceAdd]
    rw [← hQ]
    have : decide (a = b) = false := by
      simp only [bne_iff_ne, ne_eq] at h
      rw [decide_eq_false_iff_not]; intro e; subst e; simp at h
    rw [this]
    exact ⟨trivial, Ret.flat rfl rfl⟩
  · have hl : a.length = b.length := by simp at h; omega
    simp +contextual (maxSteps := 1000000) only [parsAV_length, go_sem, reduceCtorEq, ↓reduceIte, Nat.reduceAdd, Nat.reduceEqDiff]
    refine kLoop_ix (fun i : Nat => ⟨lf [(1, .sl tb 1 (parsAV b)), (2, .fn (.func 134) [] []), (15, .sl ta 1 (parsAV a)), (16, .int .i64 a.length), (17, .int .i64 i)], [], fun x => x ∈ []⟩) (fun i => i ≤ a.length ∧ a.take i = b.take i) (fun i => a.length - i) 0 0 (Wk.same ?_) ?_ ?_
    · (simp only [lfOK, upd, initF]; repeat' first | exact AVle.refl _ _ | exact trivial | refine And.intro ?_ ?_ | exact AVle.int (by simp only [IntKind.wrap_i64]; omega))
    · simp
    · rintro γ' i hf ⟨hi, hinv⟩
      generalize hQ' : kIt _ _ _ _ _ = Q'
      by_cases hlt : i < a.length
      · have hd : decide ((i : Int) < (a.length : Int)) = true := by simp; omega
        have hi2 : intsV a[i] = .sl none 1 (intsAV a[i]) := rfl
        have hi3 : intsV (b[i]'(by omega)) = .sl none 1 (intsAV (b[i]'(by omega))) := rfl
        have g1 : (parsAV a).getD (i : Int).toNat [] = [intsV a[i]] := by rw [Int.toNat_natCast]; exact parsAV_get hlt
        have g2 : (parsAV b).getD (i : Int).toNat [] = [intsV (b[i]'(by omega))] := by rw [Int.toNat_natCast]; exact parsAV_get (by omega)
        rw [hi2] at g1
        rw [hi3] at g2
        have c1 := fs_EqualInts (Gl := Gl) hst (a := a[i]) (b := b[i]'(by omega)) (ta := none) (tb := none) (hpa _ (List.getElem_mem _)) (hpb _ (List.getElem_mem _))
        simp +contextual (maxSteps := 1000000) only [parsAV_length, hd, g1, g2, go_sem, reduceCtorEq, ↓reduceIte, Nat.reduceAdd, Nat.reduceEqDiff]
        refine ⟨by omega, by omega, ?_⟩
        (refine CallP.pure (c1) (fun _ => rfl) ?_; simp +contextual (maxSteps := 1000000) only [go_sem, ↓reduceIte, Nat.reduceAdd, Nat.reduceEqDiff])
        cases hc : decide (a[i] = b[i]'(by omega)) with
        | false =>
          simp +contextual (maxSteps := 1000000) only [hc, go_sem, ↓reduceIte, Nat.reduceAdd]
          rw [← hQ']
          simp only [w_kIt_r, w_kBlk_r, w_kSeq_r]
          have e : decide (a = b) = false := by
            rw [decide_eq_false_iff_not]; intro e; subst e; exact of_decide_eq_false hc rfl
          rw [← hQ, e]
          exact ⟨trivial, Ret.flat rfl rfl⟩
        | true =>
          simp +contextual (maxSteps := 1000000) only [hc, go_sem, reduceCtorEq, ↓reduceIte, Nat.reduceAdd, Nat.reduceEqDiff]
          rw [← hQ']
          simp only [w_kIt_n]
          refine ⟨0, i + 1, Wk.same ?_, ⟨by omega, ?_⟩, by omega⟩
          · repeat' first | exact AVle.refl _ _ | exact trivial | refine And.intro ?_ ?_ | exact AVle.int (by simp only [IntKind.wrap_i64]; omega)
          · have h2 : a[i] = b[i]'(by omega) := of_decide_eq_true hc
            rw [List.take_add_one, List.take_add_one, hinv, List.getElem?_eq_getElem hlt, List.getElem?_eq_getElem (show i < b.length by omega), h2]
      · have hd : decide ((i : Int) < (a.length : Int)) = false := by simp; omega
        simp +contextual (maxSteps := 1000000) only [parsAV_length, hd, go_sem, reduceCtorEq, ↓reduceIte, Nat.reduceAdd, Nat.reduceEqDiff]
        rw [← hQ']
        simp only [w_kIt_e, w_kBlk_e, ↓reduceIte]
        simp +contextual (maxSteps := 1000000) only [go_sem, ↓reduceIte, Nat.reduceAdd]
        have e : decide (a = b) = true := by
          rw [decide_eq_true_eq]
          have h3 := hinv
          rw [List.take_of_length_le (by omega), List.take_of_length_le (by omega)] at h3
          exact h3
        rw [← hQ, e]
        exact ⟨trivial, Ret.flat rfl rfl⟩
structure Sq.szP (s : Sq) : Prop where
  ps : s.ps.length < 9223372036854775808
  pp : ∀ p ∈ s.ps, p.length < 9223372036854775808
theorem fs_wSame {Gl : Gh → Prop} (hst : Stays Gl) {a b : Sq} (ha : a.szP) (hb : b.szP) : FS Tryz.prog Gl 69 [.agg a.c, .agg b.c] [] [] (.bool (decide (a = b))) [] [] := by
  refine FS.of hm hst is_wireSame (by simp) fun γ hγ hfr => ?_
  obtain ⟨k, pr, ps, it, fi, da⟩ := a
  obtain ⟨k2, pr2, ps2, it2, fi2, da2⟩ := b
  have c1 := fs_EqualPars (Gl := Gl) hst (a := ps) (b := ps2) (ta := none) (tb := none) ha.ps hb.ps ha.pp hb.pp
  have hcc : ∀ (k pr : Int) ps it fi da, Sq.c ⟨k, pr, ps, it, fi, da⟩ = [.int .i64 k, .int .u8 pr, .sl none 1 (parsAV ps), .str it, .int .u8 fi, .str da] := fun _ _ _ _ _ _ => rfl
  have hz : decide ((⟨k, pr, ps, it, fi, da⟩ : Sq) = ⟨k2, pr2, ps2, it2, fi2, da2⟩) = (decide (ps = ps2) && ((((k == k2) && (pr == pr2)) && (fi == fi2)) && decide (it = it2) && decide (da = da2))) := by
    rw [Bool.eq_iff_iff]
    simp only [Sq.mk.injEq, decide_eq_true_eq, Bool.and_eq_true, beq_iff_eq]
    constructor
    · rintro ⟨a, b, c, d, e, f⟩; exact ⟨c, ⟨⟨⟨a, b⟩, e⟩, d⟩, f⟩
    · rintro ⟨c, ⟨⟨⟨a, b⟩, e⟩, d⟩, f⟩; exact ⟨a, b, c, d, e, f⟩
  (generalize hQ : (fun (ex : Ex) (_ _ : Nat) (s : St) => _) = Q; unfold ir_wireSame)
  simp +contextual (maxSteps := 1000000) only [hcc, go_sem, reduceCtorEq, ↓reduceIte, Nat.reduceAdd, Nat.reduceEqDiff]
  (refine CallP.pure (c1) (fun _ => rfl) ?_; simp +contextual (maxSteps := 1000000) only [go_sem, ↓reduceIte, Nat.reduceAdd, Nat.reduceEqDiff])
  cases hc : decide (ps = ps2) with
  | false =>
    simp +contextual (maxSteps := 1000000) only [hc, go_sem, ↓reduceIte, Nat.reduceAdd]
    rw [← hQ, hz, hc]
    exact ⟨trivial, Ret.flat rfl rfl⟩
  | true =>
    simp +contextual (maxSteps := 1000000) only [hc, go_sem, reduceCtorEq, ↓reduceIte, Nat.reduceAdd, Nat.reduceEqDiff]
    rw [← hQ, hz, hc]
    exact ⟨trivial, Ret.flat rfl rfl⟩
end Go.Proofs.YtcdkcfpgdbjogaaGreatDoor

namespace Go.Proofs.YtcdkcfpgdbjogaaGreatDoor
open Go Go.Ab
structure Sq.ok (s : Sq) : Prop where
  sm : s.sm
  pr : 0 ≤ s.pr ∧ s.pr < 256
  fi : 0 ≤ s.fi ∧ s.fi < 256
end Go.Proofs.YtcdkcfpgdbjogaaGreatDoor

namespace Go.Proofs.YtcdkcfpgdbjogaaGreatDoor
open Go Go.Ab
theorem fs_wPutL {Gl : Gh → Prop} (hst : Stays Gl) {s : Sq} (h : s.ok) : FS Tryz.prog Gl 51 [.agg s.c] [] [] (.tup [.sl none 1 (bytesAV (putX s)), .int .i64 (mayP s)]) [] [] := by
  have := fs_wPut (Gl := Gl) hst h.pr.1 h.pr.2 h.fi.1 h.fi.2 h.sm
  refine FSR.res this ?_
  rintro r H T ⟨rfl, h2, h3⟩
  exact ⟨.tup [.sl none 1 (bytesAV (putX s)), .int .i64 (mayP s)], fun f => by
    have hrn : Ab.rn f (putV s) = putV s := by unfold putV; split <;> rfl
    simp only [Ab.rn, rnL, hrn]
    exact RepLe.tupL ⟨putV_le s, RepLe.refl _, trivial⟩, rfl, h2, h3⟩
structure Few (s : Sq) : Prop where
  ps : s.ps.length ≤ 30
  pp : ∀ p ∈ s.ps, p.length ≤ 20
  it : s.it.length ≤ 10
  da : s.da.length ≤ 200
end Go.Proofs.YtcdkcfpgdbjogaaGreatDoor

namespace Go.Proofs.YtcdkcfpgdbjogaaGreatDoor
open Go Go.Ab
def ir_pastemark : ICode :=
 (.seq
 (.reg [qA 2 (.mov (.c .nils))] (some [0]))
 (.seq
 (.reg [qM 6 0,
 qA 7 (.row 3 1 [(.t 6)]),
 qA 8 (.call (qC 86) [(.c (.int .u8 0)), (.c (.int .u8 126)), (.t 7)]),
 qA 9 (.call (qC 51) [(.t 8)]),
 qM 5 9,
 qE 10 5 0,
 qE 11 5 1,
 qM 3 10,
 qM 4 11] (some [3]))
 (.seq
 (.reg [qM 12 3,
 qM 2 12] (some [2]))
 .ret)))
theorem is_pastemark : IrOf Tryz.prog 169 13 ir_pastemark [.t 2] := ⟨_, Tryz.func169, rfl, by kernel_rfl, by kernel_rfl, by kernel_rfl⟩

def ir_pasteclean : ICode :=
 (.seq
 (.reg [qA 2 (.mov (qB false))] (some [0]))
 (.seq
 (.reg [qM 3 0,
 qA 4 (.bin .eql .none (.t 3) (qI 9)),
 qM 5 4,
 qG 6 5 false (.mov (.t 0)),
 qG 7 5 false (.bin .eql .none (.t 6) (qI 10)),
 qA 8 (.pick (.t 5) (qB true) (.t 7)),
 qM 9 8,
 qG 10 9 false (.mov (.t 0)),
 qG 11 9 false (.bin .eql .none (.t 10) (qI 13)),
 qA 12 (.pick (.t 9) (qB true) (.t 11)),
 qM 13 12,
 qG 14 13 false (.mov (.t 0)),
 qG 15 13 false (.bin .geq .none (.t 14) (qI 32)),
 qG 16 13 false (.mov (.t 15)),
 qG 17 16 true (.mov (.t 0)),
 qG 18 16 true (.bin .lss .none (.t 17) (qI 127)),
 qG 19 16 true (.mov (.t 18)),
 qG 20 19 false (.mov (.t 0)),
 qG 21 19 false (.bin .gtr .none (.t 20) (qI 159)),
 qG 22 16 true (.pick (.t 19) (qB true) (.t 21)),
 qG 23 13 false (.pick (.t 16) (.t 22) (qB false)),
 qA 24 (.pick (.t 13) (qB true) (.t 23)),
 qM 2 24] (some [2]))
 .ret))
theorem is_pasteclean : IrOf Tryz.prog 198 25 ir_pasteclean [.t 2] := ⟨_, Tryz.func198, rfl, by kernel_rfl, by kernel_rfl, by kernel_rfl⟩

/- clavier/paste.points$1 -/
def ir_pastepoints1_l0 : ICode :=
 (.seq
 (.seq
 (.reg [qL 6 1,
 qA 7 (.len (.t 6)),
 qA 8 (.bin .gtr .none (.t 7) (qI 0))] (some [0,1,8]))
 (.cond (.t 8)
 .skip
 (.exit 0)))
 (.blk 1
 (.seq
 (.reg [qL 10 1,
 qA 11 (.call (qC 179) [(.t 10)]),
 qM 9 11,
 qE 12 9 0,
 qE 13 9 1,
 qM 3 12,
 qM 4 13] (some [0,1,3,4]))
 (.seq
 (.reg [qM 14 4,
 qA 15 (.mm false (.t 14) (qI 1)),
 qM 5 15] (some [0,1,3,4,5]))
 (.seq
 (.seq
 (.drw [⟨qM 16 0, []⟩,
 ⟨qL 17 1, []⟩,
 ⟨qM 18 5, []⟩,
 ⟨qA 19 (.sll 1 (.t 17) none (some (.t 18)) none), [1,2]⟩,
 ⟨qM 20 4, []⟩,
 ⟨qA 21 (.bin .gtr .none (.t 20) (qI 0)), [4]⟩,
 ⟨qM 22 21, [5]⟩,
 ⟨qG 23 22 true (.mov (.t 3)), [6]⟩,
 ⟨qG 24 22 true (.call (qC 198) [(.t 23)]), [7,6,6]⟩,
 ⟨qA 25 (.pick (.t 22) (.t 24) (qB false)), [6,8]⟩]
 [qA 26 (.call (.t 16) [(.t 19), (.t 25)]),
 qA 27 (.un .not (.t 26))] (some [0,1,5,27]))
 (.cond (.t 27)
 .ret
 .skip))
 (.reg [qL 28 1,
 qM 29 5,
 qA 30 (.sll 1 (.t 28) (some (.t 29)) none none),
 qN (.st 1 (.t 1) (.t 30))] (some [0,1])))))))
def ir_pastepoints1 : ICode :=
 (.blk 0
 (.loop
 ir_pastepoints1_l0))
theorem is_pastepoints1 : IrOf Tryz.prog 197 31 ir_pastepoints1 [] := ⟨_, Tryz.func197, rfl, by kernel_rfl, by kernel_rfl, by kernel_rfl⟩

def ir_pastepoints : ICode :=
 (.seq
 (.reg [qA 1 (.box 34 (.t 0)),
 qA 2 (.mov (.c .nilf))] (some [1]))
 (.seq
 (.reg [qA 3 (.mkf (.func 197) [] [(.t 1)]),
 qM 2 3] (some [2]))
 .ret))
theorem is_pastepoints : IrOf Tryz.prog 170 4 ir_pastepoints [.t 2] := ⟨_, Tryz.func170, rfl, by kernel_rfl, by kernel_rfl, by kernel_rfl⟩

def ir_pastelooks1 : ICode :=
 (.seq
 (.reg [qA 2 (.mov (.c .nils))] (some [0]))
 (.seq
 (.reg [qM 6 0,
 qA 7 (.call (qC 86) [(.c (.int .u8 0)), (.t 6), (.c .nils)]),
 qA 8 (.call (qC 51) [(.t 7)]),
 qM 5 8,
 qE 9 5 0,
 qE 10 5 1,
 qM 3 9,
 qM 4 10] (some [3]))
 (.seq
 (.reg [qM 11 3,
 qM 2 11] (some [2]))
 .ret)))
theorem is_pastelooks1 : IrOf Tryz.prog 199 12 ir_pastelooks1 [.t 2] := ⟨_, Tryz.func199, rfl, by kernel_rfl, by kernel_rfl, by kernel_rfl⟩

def ir_pastelooks : ICode :=
 (.seq
 (.reg [qA 0 (.mov (.c (.raw (.map none))))] (some []))
 (.seq
 (.reg [qA 1 (.mov (qC 199))] (some [1]))
 (.seq
 (.reg [qA 2 (.mkm),
 qM 3 1,
 qA 4 (.call (.t 3) [(.c (.int .u8 73))]),
 qN (.ins .bool (.t 2) (qB true) (.t 4)),
 qM 5 1,
 qA 6 (.call (.t 5) [(.c (.int .u8 79))]),
 qN (.ins .bool (.t 2) (qB false) (.t 6)),
 qM 7 2,
 qM 0 7] (some [0]))
 .ret)))
theorem is_pastelooks : IrOf Tryz.prog 172 8 ir_pastelooks [.t 0] := ⟨_, Tryz.func172, rfl, by kernel_rfl, by kernel_rfl, by kernel_rfl⟩

def ir_pasteLooked : ICode :=
 (.seq
 (.reg [qA 2 (.mov (qB false)),
 qA 3 (.mov (qB false))] (some [0]))
 (.seq
 (.reg [qM 6 0,
 qA 7 (.call (qC 172) []),
 qA 8 (.lkp .bool .nils false (.t 7) (qB true)),
 qA 9 (.call (qC 137) [(.t 6), (.t 8)]),
 qM 10 0,
 qA 11 (.call (qC 172) []),
 qA 12 (.lkp .bool .nils false (.t 11) (qB false)),
 qA 13 (.call (qC 137) [(.t 10), (.t 12)]),
 qM 4 9,
 qM 5 13] (some [4,5]))
 (.seq
 (.reg [qM 14 4,
 qM 15 4,
 qM 16 15,
 qG 17 16 false (.mov (.t 5)),
 qA 18 (.pick (.t 16) (qB true) (.t 17)),
 qM 2 14,
 qM 3 18] (some [2,3]))
 .ret)))
theorem is_pasteLooked : IrOf Tryz.prog 126 19 ir_pasteLooked [.t 2, .t 3] := ⟨_, Tryz.func126, rfl, by kernel_rfl, by kernel_rfl, by kernel_rfl⟩

def ir_slicesClonebytebyte : ICode :=
 (.seq
 (.reg [qA 2 (.mov (.c .nils))] (some [0]))
 (.seq
 (.seq
 (.reg [qM 3 0,
 qA 4 (.bin .eql .slice (.t 3) (.c .nils))] (some [0,4]))
 (.cond (.t 4)
 (.seq
 (.reg [qA 2 (.mov (.c .nils))] (some [2]))
 .ret)
 .skip))
 (.seq
 (.reg [qA 5 (.row 5 1 []),
 qM 6 0,
 qA 7 (.app 5 1 1 (.t 5) (.t 6)),
 qM 2 7] (some [2]))
 .ret)))
theorem is_slicesClonebytebyte : IrOf Tryz.prog 171 8 ir_slicesClonebytebyte [.t 2] := ⟨_, Tryz.func171, rfl, by kernel_rfl, by kernel_rfl, by kernel_rfl⟩

def ir_bytesCutPrefix : ICode :=
 (.seq
 (.reg [qA 4 (.mov (.c .nils)),
 qA 5 (.mov (qB false))] (some [0,1]))
 (.seq
 (.seq
 (.reg [qM 6 0,
 qM 7 1,
 qA 8 (.call (qC 137) [(.t 6), (.t 7)]),
 qA 9 (.un .not (.t 8))] (some [0,1,9]))
 (.cond (.t 9)
 (.seq
 (.reg [qM 10 0,
 qM 4 10,
 qA 5 (.mov (qB false))] (some [4,5]))
 .ret)
 .skip))
 (.seq
 (.reg [qM 11 0,
 qM 12 1,
 qA 13 (.len (.t 12)),
 qA 14 (.sll 1 (.t 11) (some (.t 13)) none none),
 qM 4 14,
 qA 5 (.mov (qB true))] (some [4,5]))
 .ret)))
theorem is_bytesCutPrefix : IrOf Tryz.prog 76 15 ir_bytesCutPrefix [.t 4, .t 5] := ⟨_, Tryz.func76, rfl, by kernel_rfl, by kernel_rfl, by kernel_rfl⟩

/- clavier/paste.Take -/
def ir_pasteTake_b0 : ICode :=
 (.blk 1
 (.seq
 (.seq
 (.reg [qM 22 9,
 qA 23 (.un .not (.t 22))] (some [7,8,23]))
 (.cond (.t 23)
 (.exit 0)
 .skip))
 (.reg [qL 24 7,
 qM 25 8,
 qA 26 (.len (.t 25)),
 qA 27 (.bin .add .none (.t 24) (.t 26)),
 qN (.st 1 (.t 7) (.t 27))] (some []))))
def ir_pasteTake : ICode :=
 (.seq
 (.reg [qA 2 (.mov (.c .nils)),
 qA 3 (.mov (qI 0)),
 qA 4 (.mov (qB false))] (some [0,2,3,4]))
 (.seq
 (.reg [qM 11 0,
 qA 12 (.call (qC 169) [(qI 200)]),
 qA 13 (.call (qC 76) [(.t 11), (.t 12)]),
 qM 10 13,
 qE 14 10 0,
 qE 15 10 1,
 qM 5 14,
 qM 6 15] (some [0,2,3,4,5,6]))
 (.seq
 (.seq
 (.reg [qM 16 6,
 qA 17 (.un .not (.t 16))] (some [0,2,3,4,5,17]))
 (.cond (.t 17)
 (.seq
 (.reg [qA 2 (.mov (.c .nils)),
 qA 3 (.mov (qI 0)),
 qA 4 (.mov (qB false))] (some [2,3,4]))
 .ret)
 .skip))
 (.seq
 (.reg [qA 7 (.box 3 (qI 0)),
 qN (.st 1 (.t 7) (qI 0))] (some [0,2,3,4,5,7]))
 (.seq
 (.seq
 (.reg [qM 18 5,
 qA 19 (.call (qC 170) [(.t 18)])] (some [0,2,3,4,5,7,19]))
 (.blk 0
 (.rgf (.t 19) [20, 21]
 (.seq
 (.reg [qM 8 20] (some [7,8,21]))
 (.reg [qM 9 21] (some [7,8,9])))
 ir_pasteTake_b0)))
 (.seq
 (.seq
 (.drw [⟨qM 28 5, []⟩,
 ⟨qL 29 7, []⟩,
 ⟨qA 30 (.sll 1 (.t 28) (some (.t 29)) none none), [0,1]⟩,
 ⟨qA 31 (.call (qC 169) [(qI 201)]), []⟩,
 ⟨qA 32 (.call (qC 137) [(.t 30), (.t 31)]), [2,3,3]⟩,
 ⟨qA 33 (.un .not (.t 32)), [4]⟩]
 [] (some [0,5,7,33]))
 (.cond (.t 33)
 (.seq
 (.reg [qA 2 (.mov (.c .nils)),
 qA 3 (.mov (qI 0)),
 qA 4 (.mov (qB false))] (some [2,3,4]))
 .ret)
 .skip))
 (.seq
 (.drw [⟨qM 34 5, []⟩,
 ⟨qL 35 7, []⟩,
 ⟨qA 36 (.sll 1 (.t 34) none (some (.t 35)) none), [0,1]⟩,
 ⟨qA 37 (.call (qC 171) [(.t 36)]), [2]⟩,
 ⟨qM 38 0, []⟩,
 ⟨qA 39 (.len (.t 38)), [4]⟩,
 ⟨qM 40 5, []⟩,
 ⟨qA 41 (.len (.t 40)), [6]⟩,
 ⟨qA 42 (.bin .sub .none (.t 39) (.t 41)), [5,7]⟩,
 ⟨qL 43 7, []⟩,
 ⟨qA 44 (.bin .add .none (.t 42) (.t 43)), [8,9]⟩,
 ⟨qA 45 (.call (qC 169) [(qI 201)]), [3]⟩,
 ⟨qA 46 (.len (.t 45)), [11]⟩,
 ⟨qA 47 (.bin .add .none (.t 44) (.t 46)), [10,12]⟩,
 ⟨qM 2 37, [3,11,0,1,2,3]⟩]
 [qM 3 47,
 qA 4 (.mov (qB true))] (some [2,3,4]))
 .ret)))))))
theorem is_pasteTake : IrOf Tryz.prog 125 48 ir_pasteTake [.t 2, .t 3, .t 4] := ⟨_, Tryz.func125, rfl, by kernel_rfl, by kernel_rfl, by kernel_rfl⟩

theorem may_fi {s : Sq} (h : mayP s = 0) : 0 ≤ s.fi ∧ s.fi < 128 := by
  refine ⟨?_, fi_may h⟩
  have h1 := (mayF h).sh
  unfold shapedP at h1
  repeat' split at h1
  all_goals simp only [Bool.and_eq_true, decide_eq_true_eq, beq_iff_eq, Bool.false_eq_true] at h1
  all_goals omega
theorem may_ok {s : Sq} (h : mayP s = 0) : s.ok := by
  have hp := parsOk_iff (may_pars h)
  have F := mayF h
  have h1 := F.pr
  have h2 := F.il
  have h3 := F.dl
  have hf := may_fi h
  refine ⟨⟨by omega, fun p hp' => by have := (hp.2.2 p hp').2.1; omega, by omega, by omega⟩, by omega, by omega⟩
theorem fs_putG {Gl : Gh → Prop} (hst : Stays Gl) {s : Sq} (h : mayP s = 0) : FS Tryz.prog Gl 51 [.agg s.c] [] [] (.tup [.sl none 1 (bytesAV (putB s)), .int .i64 0]) [] [] := by
  have := fs_wPutL (Gl := Gl) hst (may_ok h)
  rw [putX_may h, h] at this
  exact this
theorem fs_mark {Gl : Gh → Prop} (hst : Stays Gl) {n : Int} (h : mayP (markQ n) = 0) : FS Tryz.prog Gl 169 [.int .i64 n] [] [] (.sl none 1 (bytesAV (putB (markQ n)))) [] [] := by
  refine FS.ofW hm hst is_pastemark rfl (by simp) fun γ hγ hfr => ?_
  have hc : (markQ n).c = [.int .i64 1, .int .u8 0, .sl none 1 (parsAV [[n]]), .str [], .int .u8 126, .str []] := rfl
  have hi : intsAV [n] = [[.int .i64 n]] := rfl
  have c1 := fun t : Option Nm => fs_Num (Gl := Gl) hst (pr := 0) (fi := 126) (nums := [n]) (tn := t) (by simp)
  rw [hi, show numSq 1 0 126 [n] = markQ n from rfl, hc] at c1
  have c2 := fs_putG (Gl := Gl) hst h
  rw [hc] at c2
  generalize putB (markQ n) = bs at *
  generalize parsAV [[n]] = rows at *
  (generalize hQ : (fun (ex : Ex) (_ _ : Nat) (s : St) => _) = Q; unfold ir_pastemark)
  simp +contextual (maxSteps := 1000000) only [go_sem, reduceCtorEq, ↓reduceIte, Nat.reduceAdd]
  (refine CallP.pure (c1 _) (fun _ => rfl) ?_; simp +contextual (maxSteps := 1000000) only [go_sem, ↓reduceIte, Nat.reduceAdd])
  (refine CallP.pure (c2) (fun _ => rfl) ?_; simp +contextual (maxSteps := 1000000) only [go_sem, ↓reduceIte, Nat.reduceAdd, Nat.reduceEqDiff])
  rw [← hQ]
  exact ⟨trivial, .inl ⟨_, rfl, RepLe.refl _⟩⟩
theorem fs_pClean {Gl : Gh → Prop} (hst : Stays Gl) {r : Int} : FS Tryz.prog Gl 198 [.int .i64 r] [] [] (.bool (cleanC r)) [] [] := by
  refine FS.of hm hst is_pasteclean (by simp) fun γ hγ hfr => ?_
  (generalize hQ : (fun (ex : Ex) (_ _ : Nat) (s : St) => _) = Q; unfold ir_pasteclean)
  simp +contextual (maxSteps := 1000000) only [go_sem, reduceCtorEq, ↓reduceIte, Nat.reduceAdd, Nat.reduceEqDiff]
  rw [← hQ]
  refine ⟨trivial, Ret.flat (show some (AV.bool _) = some (AV.bool _) from congrArg (fun z => some (AV.bool z)) ?_) rfl⟩
  rfl
def stepAV (p : List UInt8 × Bool) : List AV := [.sl none 1 (bytesAV p.1), .bool p.2]
theorem it_pPoints {Gl : Gh → Prop} {b : List UInt8} {a : Nm} (hb : b.length ≤ 1000000000000) :
    IterS Tryz.prog Gl 197 [.ptr a 0] [(a, .cells [.sl none 1 (bytesAV b)])] ((stepsC b).map stepAV) := by
  intro Gl' hst hG id J Jx hJid hround H T hJ
  refine FSX.of hm hst is_pastepoints1 (by simp) fun γ hγ hfr => ?_
  (generalize hQ : (fun (ex : Ex) (_ _ : Nat) (s : St) => _) = Q; unfold ir_pastepoints1)
  simp +contextual (maxSteps := 1000000) only [go_sem]
  refine kLoop_ix (fun q : Nat × List UInt8 × Hp × Tk => ⟨lf [(0, .yl id), (1, .ptr a 0)], [(a, .cells [.sl none 1 (bytesAV q.2.1)])] ++ q.2.2.1, q.2.2.2⟩)
    (fun q => J q.1 q.2.2.1 q.2.2.2 ∧ q.2.1.length ≤ b.length ∧ ∃ done : List (List UInt8 × Bool), done.length = q.1 ∧ stepsC b = done ++ stepsC q.2.1)
    (fun q => q.2.1.length) 0 (0, b, H, T) ?_ ?_ ?_
  · refine Wk.same ?_
    (simp only [lfOK, upd, initF]; repeat' first | exact AVle.refl _ _ | exact trivial | refine And.intro ?_ ?_ | exact AVle.int (by simp only [IntKind.wrap_i64]; omega))
  · exact ⟨hJ, Nat.le_refl _, [], rfl, rfl⟩
  · rintro γ' ⟨j, r, Hj, Tj⟩ hf ⟨hJj, hrl, done, hdone, hsp⟩
    simp only at hJj hrl hdone hsp
    generalize hQ' : kIt _ _ _ _ _ = Q'
    have hap := hJid j Hj Tj hJj
    unfold ir_pastepoints1_l0
    by_cases hr0 : r = []
    · subst hr0
      simp +contextual (maxSteps := 1000000) only [bytesAV_length', go_sem, reduceCtorEq, ↓reduceIte, Nat.reduceAdd, Nat.reduceEqDiff, Int.reduceGT]
      rw [← hQ']
      simp only [w_kIt_e, w_kBlk_e, ↓reduceIte]
      rw [← hQ]
      rw [stepsC_nil, List.append_nil] at hsp
      refine ⟨trivial, Hj, Tj, .inl ?_, fun p hp => by simp [hp], fun t ht => ht⟩
      rw [List.length_map, hsp, hdone]; exact hJj
    · have hpos := List.length_pos_iff.2 hr0
      have hd : decide ((r.length : Int) > 0) = true := by simp; omega
      have key : ∀ (c : Int) (n k : Nat) (ok : Bool), takeZ r = (c, (n : Int)) → (if (1 : Int) > (n : Int) then (1 : Int) else (n : Int)) = (k : Int) → (n = 0 ∧ ok = false ∧ k = 1 ∨ 0 < n ∧ ok = cleanC c) → 1 ≤ k → k ≤ r.length →
          stepsC r = (r.take k, ok) :: stepsC (r.drop k) → aw Tryz.prog Gl' ir_pastepoints1_l0 γ' 0 ⟨lf [(0, .yl id), (1, .ptr a 0)], [(a, .cells [.sl none 1 (bytesAV r)])] ++ Hj, Tj⟩ Q' := by
        intro c n k ok htz hk hok hk1 hkl hst2
        have c1 := fs_takeU (Gl := Gl') (tb := none) (b := r) hst (by simp only [maxLen]; omega)
        rw [htz] at c1
        rw [hst2] at hsp
        have hit : ((stepsC b).map stepAV)[j]? = some [.sl none 1 (bytesAV (r.take k)), .bool ok] := by
          rw [hsp, ← hdone]; simp [stepAV]
        have hround' := hround j _ Hj Tj hit hJj
        have hha : ∀ p ∈ [((a, .cells [.sl none 1 (bytesAV r)]) : Nm × HB)], ∀ q ∈ Hj, q.1 ≠ p.1 := fun p hp q hq => by
          simp only [List.mem_cons, List.not_mem_nil, or_false] at hp
          subst hp
          exact hap (a, .cells [.sl none 1 (bytesAV b)]) (by simp) q hq
        have fin : ∀ (H1 : Hp) (T1 : Tk), J (j + 1) H1 T1 → ∀ hb, setH H1 a hb = H1 := fun H1 T1 hR hb => setH_ne fun q hq => hJid _ _ _ hR (a, .cells [.sl none 1 (bytesAV b)]) (by simp) q hq
        unfold ir_pastepoints1_l0
        simp +contextual (maxSteps := 1000000) only [hd, bytesAV_length', go_sem, reduceCtorEq, ↓reduceIte, Nat.reduceAdd, Nat.reduceEqDiff]
        rcases hok with ⟨rfl, rfl, rfl⟩ | ⟨hn, rfl⟩
        · have hd2 : decide (((0 : Nat) : Int) > 0) = false := by simp
          (refine CallP.pure (c1) (fun _ => rfl) ?_; simp +contextual (maxSteps := 1000000) only [hk, hd2, go_sem, reduceCtorEq, ↓reduceIte, Nat.reduceAdd, Nat.reduceEqDiff, Nat.reduceBEq, Int.reduceLE, Int.reduceGT, Int.reduceToNat])
          simp +contextual (maxSteps := 1000000) only [hk, bytesAV_length', bytesAV_take, bytesAV_drop, List.take_length, Int.toNat_natCast, Int.toNat_zero, List.drop_zero, go_sem]
          refine ⟨⟨by omega, by omega⟩, ?_⟩
          refine CallY.splitT (Ha := [(a, .cells [.sl none 1 (bytesAV r)])]) hround' hha fun rv H1 T1 hR => ?_
          rcases hR with ⟨rfl, hR⟩ | ⟨rfl, hR⟩
          · have hs1 := fin H1 T1 hR
            simp +contextual (maxSteps := 1000000) only [hs1, bytesAV_length', bytesAV_take, bytesAV_drop, List.take_length, Int.toNat_natCast, go_sem, reduceCtorEq, ↓reduceIte, Nat.reduceAdd, Nat.reduceEqDiff, Int.reduceLE, Int.reduceToNat]
            refine ⟨⟨by omega, by omega⟩, ?_⟩
            rw [← hQ']
            simp only [w_kIt_n]
            refine ⟨0, (j + 1, r.drop 1, H1, T1), Wk.same ?_, ⟨hR, by simp only [List.length_drop]; omega, done ++ [(r.take 1, false)], by simp [hdone], by rw [hsp]; simp⟩, by simp only [List.length_drop]; omega⟩
            repeat' first | exact AVle.refl _ _ | exact trivial | refine And.intro ?_ ?_ | exact AVle.int (by simp only [IntKind.wrap_i64]; omega)
          · simp +contextual (maxSteps := 1000000) only [go_sem, reduceCtorEq, ↓reduceIte, Nat.reduceAdd, Nat.reduceEqDiff]
            rw [← hQ']
            simp only [w_kIt_r, w_kBlk_r, w_kSeq_r]
            rw [← hQ]
            exact ⟨trivial, H1, T1, .inr hR, fun p hp => by simp [hp], fun t ht => ht⟩
        · have hd2 : decide ((n : Int) > 0) = true := by simp; omega
          (refine CallP.pure (c1) (fun _ => rfl) ?_; simp +contextual (maxSteps := 1000000) only [hk, hd2, go_sem, reduceCtorEq, ↓reduceIte, Nat.reduceAdd, Nat.reduceEqDiff, Nat.reduceBEq, Int.reduceLE, Int.reduceToNat])
          simp +contextual (maxSteps := 1000000) only [hk, hd2, bytesAV_length', bytesAV_take, bytesAV_drop, List.take_length, Int.toNat_natCast, Int.toNat_zero, List.drop_zero, go_sem]
          refine ⟨⟨by omega, by omega⟩, ?_⟩
          refine DCall.new (fs_pClean hst) ?_
          simp +contextual (maxSteps := 1000000) only [go_sem, ↓reduceIte, Nat.reduceAdd, Nat.reduceEqDiff, Nat.reduceBEq]
          refine CallY.splitT (Ha := [(a, .cells [.sl none 1 (bytesAV r)])]) hround' hha fun rv H1 T1 hR => ?_
          rcases hR with ⟨rfl, hR⟩ | ⟨rfl, hR⟩
          · have hs1 := fin H1 T1 hR
            simp +contextual (maxSteps := 1000000) only [hs1, bytesAV_length', bytesAV_take, bytesAV_drop, List.take_length, Int.toNat_natCast, go_sem, reduceCtorEq, ↓reduceIte, Nat.reduceAdd, Nat.reduceEqDiff]
            refine ⟨⟨by omega, by omega⟩, ?_⟩
            rw [← hQ']
            simp only [w_kIt_n]
            refine ⟨0, (j + 1, r.drop k, H1, T1), Wk.same ?_, ⟨hR, by simp only [List.length_drop]; omega, done ++ [(r.take k, cleanC c)], by simp [hdone], by rw [hsp]; simp⟩, by simp only [List.length_drop]; omega⟩
            repeat' first | exact AVle.refl _ _ | exact trivial | refine And.intro ?_ ?_ | exact AVle.int (by simp only [IntKind.wrap_i64]; omega)
          · simp +contextual (maxSteps := 1000000) only [go_sem, reduceCtorEq, ↓reduceIte, Nat.reduceAdd, Nat.reduceEqDiff]
            rw [← hQ']
            simp only [w_kIt_r, w_kBlk_r, w_kSeq_r]
            rw [← hQ]
            exact ⟨trivial, H1, T1, .inr hR, fun p hp => by simp [hp], fun t ht => ht⟩
      cases htu : takeU r with
      | none => exact key 0 0 1 false (takeZ_none htu) (by simp) (.inl ⟨rfl, rfl, rfl⟩) (by omega) (by omega) (stepsC_none hr0 htu)
      | some x =>
        obtain ⟨c, n⟩ := x
        obtain ⟨h1, h4, hnl, _⟩ := takeU_of htu
        exact key c n n (cleanC c) (takeZ_some htu) (by rw [if_neg (by omega)]) (.inr ⟨by omega, rfl⟩) (by omega) (by omega) (stepsC_some hr0 htu)
theorem fs_pPoints {Gl : Gh → Prop} (hst : Stays Gl) {b : List UInt8} : FS Tryz.prog Gl 170 [.sl none 1 (bytesAV b)] [] [] (.fn (.func 197) [] [.ptr (0, 0, 0) 0]) [((0, 0, 0), .cells [.sl none 1 (bytesAV b)])] [] := by
  refine FS.of hm hst is_pastepoints (by simp) fun γ hγ hfr => ?_
  (generalize hQ : (fun (ex : Ex) (_ _ : Nat) (s : St) => _) = Q; unfold ir_pastepoints)
  simp +contextual (maxSteps := 1000000) only [go_sem, ↓reduceIte, Nat.reduceAdd, Nat.reduceEqDiff]
  rw [← hQ]
  refine ⟨trivial, [(γ, 0, 0)], by simp, by simp, rfl, ?_, by simp, ?_, ?_, by simp⟩
  · simp [rnH, rnN, rnHB, rnL, Ab.rn]
  · simp [AV.okIn, AV.okInL, nmOK]
  · simp [AV.okIn, AV.okInL, nmOK, HB.okIn]
theorem feY_bool {a b : Bool} {v : AV} {es : List (AV × AV)} : findE .bool (.bool a) ((.bool b, v) :: es) = if (a == b) = true then some (some v) else findE .bool (.bool a) es := by
  simp only [findE, keyEq, if_true]
  cases (a == b) <;> rfl
theorem feY_nil {kc : KC} {k : AV} : findE kc k [] = some none := rfl
theorem isKeyY_bool {a : Bool} : (isKey .bool (.bool a) = true) = True := by simp [isKey]
theorem fs_looks1 {Gl : Gh → Prop} (hst : Stays Gl) {is : Bool} {f : Int} (hf : f = if is = true then 73 else 79) : FS Tryz.prog Gl 199 [.int .u8 f] [] [] (.sl none 1 (bytesAV (putB (lookQ is)))) [] [] := by
  refine FS.ofW hm hst is_pastelooks1 rfl (by simp) fun γ hγ hfr => ?_
  have hq : lookQ is = numSq 1 0 f [] := by rw [hf]; rfl
  have hc : (lookQ is).c = [.int .i64 1, .int .u8 0, .sl none 1 [], .str [], .int .u8 f, .str []] := by rw [hq]; rfl
  have c1 := fs_Num (Gl := Gl) hst (pr := 0) (fi := f) (nums := []) (tn := none) (by simp)
  rw [← hq, hc] at c1
  have c1 := c1.args (args := [.int .u8 0, .int .u8 f, .nils]) ⟨RepLe.refl _, RepLe.refl _, RepLe.nils 1, trivial⟩
  have c2 := fs_putG (Gl := Gl) hst (look_facts is).1
  rw [hc] at c2
  generalize putB (lookQ is) = bs at *
  (generalize hQ : (fun (ex : Ex) (_ _ : Nat) (s : St) => _) = Q; unfold ir_pastelooks1)
  simp +contextual (maxSteps := 1000000) only [go_sem, reduceCtorEq, ↓reduceIte, Nat.reduceAdd]
  (refine CallP.pure (c1) (fun _ => rfl) ?_; simp +contextual (maxSteps := 1000000) only [go_sem, ↓reduceIte, Nat.reduceAdd])
  (refine CallP.pure (c2) (fun _ => rfl) ?_; simp +contextual (maxSteps := 1000000) only [go_sem, ↓reduceIte, Nat.reduceAdd, Nat.reduceEqDiff])
  rw [← hQ]
  exact ⟨trivial, .inl ⟨_, rfl, RepLe.refl _⟩⟩
def looksE : List (AV × AV) := [(.bool true, .sl none 1 (bytesAV [27, 91, 73])), (.bool false, .sl none 1 (bytesAV [27, 91, 79]))]
theorem fs_looks {Gl : Gh → Prop} (hst : Stays Gl) : FS Tryz.prog Gl 172 [] [] [] (.mp (0, 0, 0)) [((0, 0, 0), .mapp looksE)] [] := by
  refine FS.of hm hst is_pastelooks (by simp) fun γ hγ hfr => ?_
  have c1 := fs_looks1 (Gl := Gl) hst (is := true) (f := 73) rfl
  have c2 := fs_looks1 (Gl := Gl) hst (is := false) (f := 79) rfl
  rw [(look_facts true).2] at c1
  rw [(look_facts false).2] at c2
  have e1 : bytesAV [27, 91, if true = true then 73 else 79] = bytesAV [27, 91, 73] := rfl
  have e2 : bytesAV [27, 91, if false = true then 73 else 79] = bytesAV [27, 91, 79] := rfl
  rw [e1] at c1
  rw [e2] at c2
  have hl : looksE = [(.bool true, .sl none 1 (bytesAV [27, 91, 73])), (.bool false, .sl none 1 (bytesAV [27, 91, 79]))] := rfl
  clear e1 e2
  rw [hl]
  generalize bytesAV [27, 91, 73] = b1 at *
  generalize bytesAV [27, 91, 79] = b2 at *
  (generalize hQ : (fun (ex : Ex) (_ _ : Nat) (s : St) => _) = Q; unfold ir_pastelooks)
  simp +contextual (maxSteps := 1000000) only [go_sem, ↓reduceIte, Nat.reduceAdd, Nat.reduceEqDiff]
  (refine CallP.pure (c1) (fun _ => rfl) ?_; simp +contextual (maxSteps := 1000000) only [feY_nil, feY_bool, isKeyY_bool, go_sem, ↓reduceIte, Nat.reduceAdd, Nat.reduceEqDiff])
  (refine CallP.pure (c2) (fun _ => rfl) ?_; simp +contextual (maxSteps := 1000000) only [feY_nil, feY_bool, isKeyY_bool, go_sem, ↓reduceIte, Nat.reduceAdd, Nat.reduceEqDiff])
  rw [← hQ]
  refine ⟨trivial, [(γ, 2, 0)], by simp, by simp, rfl, ?_, by simp, ?_, ?_, by simp⟩
  · simp [rnH, rnN, rnHB, rnL, Ab.rn]
  · simp [AV.okIn, AV.okInL, nmOK]
  · simp only [List.mem_cons, List.not_mem_nil, or_false, forall_eq, HB.okIn]
    refine ⟨by simp [nmOK], fun p hp => ?_⟩
    rcases hp with rfl | rfl <;> exact ⟨trivial, trivial⟩
theorem fs_Looked {Gl : Gh → Prop} (hst : Stays Gl) {b : List UInt8} : FS Tryz.prog Gl 126 [.sl none 1 (bytesAV b)] [] [] (.tup [.bool (decide ([27, 91, 73] <+: b)), .bool (decide ([27, 91, 73] <+: b) || decide ([27, 91, 79] <+: b))]) [] [] := by
  refine FS.of hm hst is_pasteLooked (by simp) fun γ hγ hfr => ?_
  have c1 := fs_BHasPrefix (Gl := Gl) hst (a := b) (b := [27, 91, 73]) (ta := none) (tb := none)
  have c2 := fs_BHasPrefix (Gl := Gl) hst (a := b) (b := [27, 91, 79]) (ta := none) (tb := none)
  have c0 := fs_looks (Gl := Gl) hst
  have hl : looksE = [(.bool true, .sl none 1 (bytesAV [27, 91, 73])), (.bool false, .sl none 1 (bytesAV [27, 91, 79]))] := rfl
  rw [hl] at c0
  generalize bytesAV [27, 91, 73] = b1 at *
  generalize bytesAV [27, 91, 79] = b2 at *
  generalize decide ([27, 91, 73] <+: b) = d1 at *
  generalize decide ([27, 91, 79] <+: b) = d2 at *
  (generalize hQ : (fun (ex : Ex) (_ _ : Nat) (s : St) => _) = Q; unfold ir_pasteLooked)
  simp +contextual (maxSteps := 1000000) only [go_sem, reduceCtorEq, ↓reduceIte, Nat.reduceAdd]
  refine CallP.of c0 (by simp) (by simp) ?_
  simp only [rnH, rnN, rnHB, rnL, Ab.rn, List.map_cons, List.map_nil]
  simp +contextual (maxSteps := 1000000) only [feY_nil, feY_bool, isKeyY_bool, go_sem, ↓reduceIte, Nat.reduceAdd, Nat.reduceEqDiff]
  (refine CallP.pure (c1) (fun _ => rfl) ?_; simp +contextual (maxSteps := 1000000) only [go_sem, reduceCtorEq, ↓reduceIte, Nat.reduceAdd])
  refine CallP.of c0 (by simp) (by simp) ?_
  simp only [rnH, rnN, rnHB, rnL, Ab.rn, List.map_cons, List.map_nil]
  simp +contextual (maxSteps := 1000000) only [feY_nil, feY_bool, isKeyY_bool, go_sem, ↓reduceIte, Nat.reduceAdd, Nat.reduceEqDiff]
  (refine CallP.pure (c2) (fun _ => rfl) ?_; simp +contextual (maxSteps := 1000000) only [go_sem, ↓reduceIte, Nat.reduceAdd, Nat.reduceEqDiff])
  rw [← hQ]
  exact ⟨trivial, Ret.flatT (by simp [resOf, getAll, IRes.get, lf]) rfl⟩
theorem FS.empty {Gl : Gh → Prop} {k : FuncId} {t : Option Nm} {sz : Nat} {H0 : Hp} {T0 : List Nm} {r : AV} {H1 : Hp} {T1 : List Nm} (h1 : FS Tryz.prog Gl k [.nils] H0 T0 r H1 T1) (h2 : FS Tryz.prog Gl k [.slr 0 sz []] H0 T0 r H1 T1) : FS Tryz.prog Gl k [.sl t sz []] H0 T0 r H1 T1 :=
  ⟨h1.1, fun g w vs f a b c d e i j => by
    obtain ⟨v, rest, rfl, e1, e2⟩ := e
    rcases e1.empty with h | h
    · exact h1.2 g w _ f a b c d ⟨v, rest, rfl, h, e2⟩ i j
    · exact h2.2 g w _ f a b c d ⟨v, rest, rfl, h, e2⟩ i j⟩
theorem fs_CloneB {Gl : Gh → Prop} (hst : Stays Gl) {b : List UInt8} (hb : b.length ≤ 1000000000000) : FS Tryz.prog Gl 171 [.sl none 1 (bytesAV b)] [] [] (.sl none 1 (bytesAV b)) [] [] := by
  cases b with
  | nil =>
    refine FS.empty (k := 171) ?_ ?_
    · refine FS.ofW hm hst is_slicesClonebytebyte rfl (by simp) fun γ hγ hfr => ?_
      (generalize hQ : (fun (ex : Ex) (_ _ : Nat) (s : St) => _) = Q; unfold ir_slicesClonebytebyte)
      simp +contextual (maxSteps := 1000000) only [go_sem, reduceCtorEq, ↓reduceIte, Nat.reduceAdd]
      rw [← hQ]
      exact ⟨trivial, .inl ⟨_, rfl, RepLe.nils 1⟩⟩
    · refine FS.ofW hm hst is_slicesClonebytebyte rfl (by simp) fun γ hγ hfr => ?_
      (generalize hQ : (fun (ex : Ex) (_ _ : Nat) (s : St) => _) = Q; unfold ir_slicesClonebytebyte)
      simp +contextual (maxSteps := 1000000) only [go_sem, reduceCtorEq, ↓reduceIte, Nat.reduceAdd, Nat.reduceEqDiff, Nat.reduceLeDiff, Nat.reduceMul]
      refine ⟨.inl trivial, ?_⟩
      rw [← hQ]
      exact ⟨trivial, .inl ⟨_, rfl, RepLe.anon' (by simp [bytesAV])⟩⟩
  | cons c l =>
    refine FS.ofW hm hst is_slicesClonebytebyte rfl (by simp) fun γ hγ hfr => ?_
    have hne : (bytesAV (c :: l) = []) = False := by simp [bytesAV]
    generalize hbs : c :: l = b at *
    (generalize hQ : (fun (ex : Ex) (_ _ : Nat) (s : St) => _) = Q; unfold ir_slicesClonebytebyte)
    simp +contextual (maxSteps := 1000000) only [bytesAV_length', hne, ne_eq, not_false_eq_true, go_sem, reduceCtorEq, ↓reduceIte, Nat.reduceAdd, Nat.reduceEqDiff]
    refine ⟨⟨.inl trivial, by omega⟩, ?_⟩
    rw [← hQ]
    exact ⟨trivial, .inl ⟨_, rfl, RepLe.anon' (by simp)⟩⟩
theorem fs_CutPrefix {Gl : Gh → Prop} (hst : Stays Gl) {a b : List UInt8} {ta tb : Option Nm} : FS Tryz.prog Gl 76 [.sl ta 1 (bytesAV a), .sl tb 1 (bytesAV b)] [] [] (.tup [.sl none 1 (bytesAV (if b <+: a then a.drop b.length else a)), .bool (decide (b <+: a))]) [] [] := by
  refine FS.args (args' := [.sl none 1 (bytesAV a), .sl none 1 (bytesAV b)]) ?_ ⟨RepLe.anon _ _ _, RepLe.anon _ _ _, trivial⟩
  refine FS.of hm hst is_bytesCutPrefix (by simp) fun γ hγ hfr => ?_
  have c1 := fs_BHasPrefix (Gl := Gl) hst (a := a) (b := b) (ta := none) (tb := none)
  (generalize hQ : (fun (ex : Ex) (_ _ : Nat) (s : St) => _) = Q; unfold ir_bytesCutPrefix)
  simp +contextual (maxSteps := 1000000) only [go_sem, reduceCtorEq, ↓reduceIte, Nat.reduceAdd, Nat.reduceEqDiff]
  by_cases h : b <+: a
  · have hl := h.length_le
    rw [decide_eq_true h] at c1
    (refine CallP.pure (c1) (fun _ => rfl) ?_; simp +contextual (maxSteps := 1000000) only [bytesAV_length', bytesAV_take, bytesAV_drop, List.take_length, Int.toNat_natCast, go_sem, reduceCtorEq, ↓reduceIte, Nat.reduceAdd, Nat.reduceEqDiff])
    refine ⟨⟨by omega, by omega⟩, ?_⟩
    rw [← hQ, decide_eq_true h, if_pos h]
    exact ⟨trivial, Ret.flatT (by simp [resOf, getAll, IRes.get, lf]) rfl⟩
  · rw [decide_eq_false h] at c1
    (refine CallP.pure (c1) (fun _ => rfl) ?_; simp +contextual (maxSteps := 1000000) only [go_sem, reduceCtorEq, ↓reduceIte, Nat.reduceAdd, Nat.reduceEqDiff])
    rw [← hQ, decide_eq_false h, if_neg h]
    exact ⟨trivial, Ret.flatT (by simp [resOf, getAll, IRes.get, lf]) rfl⟩
end Go.Proofs.YtcdkcfpgdbjogaaGreatDoor

namespace Go.Proofs.YtcdkcfpgdbjogaaGreatDoor
open Go Go.Ab

def pasteTV (b : List UInt8) : AV := match pasteT b with
  | some (p, n) => .tup [.sl none 1 (bytesAV p), .int .i64 (n : Int), .bool true]
  | none => .tup [.sl none 1 [], .int .i64 0, .bool false]
def sumC (l : List (List UInt8 × Bool)) : Nat := (l.flatMap (·.1)).length
theorem takeWhile_take : ∀ {l : List (List UInt8 × Bool)} {i : Nat} {p : List UInt8 × Bool}, (∀ q ∈ l.take i, q.2 = true) → l[i]? = some p → p.2 = false → l.takeWhile (·.2) = l.take i
  | [], i, p, _, h, _ => by simp at h
  | x :: l, 0, p, _, h, hp => by
    simp only [List.getElem?_cons_zero, Option.some.injEq] at h
    subst h
    simp [hp]
  | x :: l, i + 1, p, hq, h, hp => by
    simp only [List.getElem?_cons_succ] at h
    have h1 : x.2 = true := hq x (by simp)
    rw [List.takeWhile_cons, if_pos h1, List.take_succ_cons, takeWhile_take (fun q hq' => hq q (by simp [hq'])) h hp]
theorem takeWhile_whole {l : List (List UInt8 × Bool)} (h : ∀ q ∈ l, q.2 = true) : l.takeWhile (·.2) = l := by
  induction l with
  | nil => rfl
  | cons x l ih => rw [List.takeWhile_cons, if_pos (h x (by simp)), ih fun q hq => h q (by simp [hq])]
theorem sumC_take {l : List (List UInt8 × Bool)} {i : Nat} {p : List UInt8 × Bool} (h : l[i]? = some p) : sumC (l.take (i + 1)) = sumC (l.take i) + p.1.length := by
  rw [List.take_add_one, h]
  simp [sumC]
theorem sumC_le {l : List (List UInt8 × Bool)} {i : Nat} : sumC (l.take i) ≤ sumC l := by
  conv => rhs; rw [← List.take_append_drop i l]
  simp only [sumC, List.flatMap_append, List.length_append]; omega
theorem sumC_steps (b : List UInt8) : sumC (stepsC b) = b.length := by rw [sumC, stepsC_flat]
set_option maxHeartbeats 4000000 in
theorem fs_pTake {Gl : Gh → Prop} (hst : Stays Gl) {b : List UInt8} (hb : b.length ≤ 1000000000) : FS Tryz.prog Gl 125 [.sl none 1 (bytesAV b)] [] [] (pasteTV b) [] [] := by
  have hfl : (pasteTV b).flatT = true := by
    unfold pasteTV; split <;> rfl
  refine FS.ofW hm hst is_pasteTake hfl (by simp) fun γ hγ hfr => ?_
  have c1 := fs_mark (Gl := Gl) hst mark_facts.1.1
  have c2 := fs_mark (Gl := Gl) hst mark_facts.2.1
  rw [mark_facts.1.2] at c1
  rw [mark_facts.2.2] at c2
  have c3 := fs_CutPrefix (Gl := Gl) hst (a := b) (b := mark0) (ta := none) (tb := none)
  by_cases hp : mark0 <+: b
  · rw [if_pos hp, decide_eq_true hp, show mark0.length = 6 from rfl] at c3
    have hm1 : (bytesAV mark1).length = 6 := rfl
    have hz : pasteTV b = if mark1 <+: (b.drop 6).drop (runC (b.drop 6)) then .tup [.sl none 1 (bytesAV ((b.drop 6).take (runC (b.drop 6)))), .int .i64 ((runC (b.drop 6) + 12 : Nat) : Int), .bool true] else .tup [.sl none 1 [], .int .i64 0, .bool false] := by
      unfold pasteTV pasteT
      by_cases h1 : mark1 <+: (b.drop 6).drop (runC (b.drop 6))
      · rw [if_pos ⟨hp, h1⟩, if_pos h1]
      · rw [if_neg (fun h => h1 h.2), if_neg h1]
    have hl6 : 6 ≤ b.length := hp.length_le
    have hrl : (b.drop 6).length + 6 = b.length := by rw [List.length_drop]; omega
    generalize b.drop 6 = r at *
    have hb0 : (bytesAV b).length = b.length := bytesAV_length b
    generalize bytesAV b = bs at *
    generalize bytesAV mark0 = b0 at *
    generalize hb1 : bytesAV mark1 = b1 at *
    (generalize hQ : (fun (ex : Ex) (_ _ : Nat) (s : St) => _) = Q; unfold ir_pasteTake)
    simp +contextual (maxSteps := 1000000) only [go_sem, reduceCtorEq, ↓reduceIte, Nat.reduceAdd, Nat.reduceEqDiff]
    (refine CallP.pure (c1) (fun _ => rfl) ?_; simp +contextual (maxSteps := 1000000) only [go_sem, ↓reduceIte, Nat.reduceAdd, Nat.reduceEqDiff])
    (refine CallP.pure (c3) (fun _ => rfl) ?_; simp +contextual (maxSteps := 1000000) only [go_sem, reduceCtorEq, ↓reduceIte, Nat.reduceAdd, Nat.reduceEqDiff])
    refine CallP.of (fs_pPoints hst (b := r)) (by simp) (by simp) ?_
    simp only [rnH, rnN, rnHB, rnL, Ab.rn]
    simp +contextual (maxSteps := 1000000) only [go_sem, reduceCtorEq, ↓reduceIte, Nat.reduceEqDiff]
    generalize hK0 : kSeq Tryz.prog Gl _ Q = K0
    have hrun : ((runC r : Nat) : Int) ≤ (r.length : Int) := by have := runC_len (b := r); omega
    have hk : ∀ T' : Tk, K0 .normal γ 18 ⟨lf [(0, .sl none 1 bs), (2, .nils), (3, .int .i64 0), (4, .bool false), (5, .sl none 1 (bytesAV r)), (7, .ptr (γ, 13, 0) 0), (19, .fn (.func 197) [] [.ptr (γ, 16, 0) 0])], [((γ, 13, 0), .cells [.int .i64 (runC r : Int)])], T'⟩ := by
      intro T'
      rw [← hK0]
      have hpre := fs_BHasPrefix (Gl := Gl) hst (a := r.drop (runC r)) (b := mark1) (ta := none) (tb := none)
      rw [hb1] at hpre
      have hcl := fs_CloneB (Gl := Gl) hst (b := r.take (runC r)) (by rw [List.length_take]; omega)
      have w1 : IntKind.i64.wrap ((b.length : Int) - (r.length : Int)) = 6 := by rw [IntKind.wrap_i64]; omega
      have w2 : IntKind.i64.wrap (6 + (runC r : Int)) = 6 + (runC r : Int) := by rw [IntKind.wrap_i64]; omega
      have w3 : IntKind.i64.wrap (6 + (runC r : Int) + 6) = ((runC r + 12 : Nat) : Int) := by rw [IntKind.wrap_i64]; omega
      simp +contextual (maxSteps := 1000000) only [bytesAV_length', bytesAV_take, bytesAV_drop, List.take_length, Int.toNat_natCast, Int.toNat_zero, go_sem, reduceCtorEq, ↓reduceIte, Nat.reduceAdd, Nat.reduceEqDiff, Nat.reduceBEq]
      refine ⟨⟨by omega, by omega⟩, ?_⟩
      refine DCall.new c2 ?_
      simp +contextual (maxSteps := 1000000) only [go_sem, ↓reduceIte, Nat.reduceAdd, Nat.reduceEqDiff, Nat.reduceBEq]
      by_cases h1 : mark1 <+: r.drop (runC r)
      · rw [decide_eq_true h1] at hpre
        rw [if_pos h1] at hz
        refine DCall.new hpre ?_
        simp +contextual (maxSteps := 1000000) only [bytesAV_length', bytesAV_take, bytesAV_drop, List.take_length, Int.toNat_natCast, Int.toNat_zero, List.drop_zero, go_sem, reduceCtorEq, ↓reduceIte, Nat.reduceAdd, Nat.reduceEqDiff, Nat.reduceBEq, Int.reduceLE]
        refine ⟨⟨by omega, by omega⟩, ?_⟩
        refine DCall.new hcl ?_
        simp +contextual (maxSteps := 1000000) only [hb0, bytesAV_length', w1, w2, go_sem, reduceCtorEq, ↓reduceIte, Nat.reduceAdd, Nat.reduceEqDiff, Nat.reduceBEq]
        refine DCall.new c2 ?_
        simp +contextual (maxSteps := 1000000) only [hm1, w3, go_sem, reduceCtorEq, ↓reduceIte, Nat.reduceAdd, Nat.reduceEqDiff, Nat.reduceBEq]
        rw [← hQ, hz]
        exact ⟨trivial, .inl ⟨_, rfl, RepLe.refl _⟩⟩
      · rw [decide_eq_false h1] at hpre
        rw [if_neg h1] at hz
        refine DCall.new hpre ?_
        simp +contextual (maxSteps := 1000000) only [go_sem, reduceCtorEq, ↓reduceIte, Nat.reduceAdd, Nat.reduceEqDiff]
        rw [← hQ, hz]
        exact ⟨trivial, .inl ⟨_, rfl, RepLe.tupL ⟨RepLe.nils 1, RepLe.refl _, RepLe.refl _, trivial⟩⟩⟩
    refine rgf_of rfl ((stepsC r).map stepAV)
      (fun i H T => (∀ p ∈ (stepsC r).take i, p.2 = true) ∧ H = [((γ, 13, 0), .cells [.int .i64 (sumC ((stepsC r).take i) : Int)])])
      (fun ex H T => ex = .exit 0 ∧ ((γ, 13, 0), .cells [.int .i64 (runC r : Int)]) ∈ H)
      [((γ, 16, 0), .cells [.sl none 1 (bytesAV r)])] [((γ, 13, 0), .cells [.int .i64 0])] (fun _ => False)
      (it_pPoints (by omega)) (by simp) (by simp) (by simp) (by simp) ⟨by simp, rfl⟩ (fun x hx => by obtain ⟨p, _, rfl⟩ := List.mem_map.1 hx; rfl) ?_ ?_ ?_
    · rintro Gl' hst' hG i x H T γ' hx ⟨hok, rfl⟩ hlt hfr'
      simp only [List.getElem?_map, Option.map_eq_some_iff] at hx
      obtain ⟨⟨p, ok⟩, hp', rfl⟩ := hx
      generalize hK : kBd _ _ _ = K
      unfold ir_pasteTake_b0
      have hle := sumC_le (l := stepsC r) (i := i + 1)
      rw [sumC_steps, sumC_take hp'] at hle
      simp only at hle
      cases ok with
      | false =>
        simp +contextual (maxSteps := 1000000) only [stepAV, go_sem, reduceCtorEq, ↓reduceIte, Nat.reduceAdd, Nat.reduceEqDiff]
        rw [← hK]
        refine ⟨rfl, ?_⟩
        have e : runC r = sumC ((stepsC r).take i) := by
          show sumC ((stepsC r).takeWhile (·.2)) = _
          rw [takeWhile_take hok hp' rfl]
        rw [e]
        exact List.mem_singleton.2 rfl
      | true =>
        have hw : IntKind.i64.wrap ((sumC ((stepsC r).take i) : Int) + (p.length : Int)) = ((sumC ((stepsC r).take (i + 1)) : Nat) : Int) := by
          rw [IntKind.wrap_i64, sumC_take hp']; simp only; omega
        simp +contextual (maxSteps := 1000000) only [stepAV, bytesAV_length', hw, go_sem, reduceCtorEq, ↓reduceIte, Nat.reduceAdd, Nat.reduceEqDiff]
        rw [← hK]
        refine ⟨fun q hq => ?_, rfl⟩
        rw [List.take_add_one, hp'] at hq
        rcases List.mem_append.1 hq with h | h
        · exact hok q h
        · simp at h; rw [h]
    · rintro H1 T1 ⟨hok, rfl⟩
      rw [List.length_map, List.take_length] at hok ⊢
      refine ⟨_, fun _ => False, fun p hp => List.mem_append.2 (.inl hp), fun _ h => h.elim, ?_⟩
      have e : sumC (stepsC r) = runC r := by
        show _ = sumC ((stepsC r).takeWhile (·.2))
        rw [takeWhile_whole hok]
      rw [e]
      simp only [w_kBlk_n]
      exact hk _
    · rintro ex H1 T1 ⟨rfl, hm'⟩
      refine ⟨[((γ, 13, 0), .cells [.int .i64 (runC r : Int)])], fun _ => False, fun p hp => List.mem_append.2 (.inl ?_), fun _ h => h.elim, ?_⟩
      · simp only [List.mem_cons, List.not_mem_nil, or_false] at hp
        subst hp; exact hm'
      · simp only [w_kBlk_e, ↓reduceIte]
        exact hk _
  · have hz : pasteTV b = .tup [.sl none 1 [], .int .i64 0, .bool false] := by
      unfold pasteTV
      rw [pasteT_not hp]
    rw [if_neg hp, decide_eq_false hp] at c3
    (generalize hQ : (fun (ex : Ex) (_ _ : Nat) (s : St) => _) = Q; unfold ir_pasteTake)
    simp +contextual (maxSteps := 1000000) only [go_sem, reduceCtorEq, ↓reduceIte, Nat.reduceAdd, Nat.reduceEqDiff]
    (refine CallP.pure (c1) (fun _ => rfl) ?_; simp +contextual (maxSteps := 1000000) only [go_sem, ↓reduceIte, Nat.reduceAdd, Nat.reduceEqDiff])
    (refine CallP.pure (c3) (fun _ => rfl) ?_; simp +contextual (maxSteps := 1000000) only [go_sem, reduceCtorEq, ↓reduceIte, Nat.reduceAdd, Nat.reduceEqDiff])
    rw [← hQ, hz]
    exact ⟨trivial, .inl ⟨_, rfl, RepLe.tupL ⟨RepLe.nils 1, RepLe.refl _, RepLe.refl _, trivial⟩⟩⟩
end Go.Proofs.YtcdkcfpgdbjogaaGreatDoor

namespace Go.Proofs.YtcdkcfpgdbjogaaGreatDoor
open Go Go.Ab
def ir_decodepart : ICode :=
 (.seq
 (.reg [qA 4 (.box 46 (.t 0)),
 qA 8 (.mov (qI 0))] (some [1,2,3,4]))
 (.seq
 (.seq
 (.reg [qM 9 1,
 qF 10 2 4,
 qL 11 10,
 qA 12 (.len (.t 11)),
 qA 13 (.bin .geq .none (.t 9) (.t 12)),
 qM 14 13,
 qG 15 14 false (.mov (.t 2)),
 qG 16 14 false (.fa 2 (.t 4)),
 qG 17 14 false (.ld none (.t 16)),
 qG 18 14 false (.mov (.t 1)),
 qG 19 14 false (.ia 1 (.t 17) (.t 18)),
 qG 20 14 false (.ld none (.t 19)),
 qG 21 14 false (.len (.t 20)),
 qG 22 14 false (.bin .geq .none (.t 15) (.t 21)),
 qA 23 (.pick (.t 14) (qB true) (.t 22)),
 qM 24 23,
 qG 25 24 false (.fa 2 (.t 4)),
 qG 26 24 false (.ld none (.t 25)),
 qG 27 24 false (.mov (.t 1)),
 qG 28 24 false (.ia 1 (.t 26) (.t 27)),
 qG 29 24 false (.ld none (.t 28)),
 qG 30 24 false (.mov (.t 2)),
 qG 31 24 false (.ia 1 (.t 29) (.t 30)),
 qG 32 24 false (.ld none (.t 31)),
 qG 33 24 false (.bin .lss .none (.t 32) (qI 0)),
 qA 34 (.pick (.t 24) (qB true) (.t 33))] (some [1,2,3,4,34]))
 (.cond (.t 34)
 (.seq
 (.reg [qM 35 3,
 qM 8 35] (some [8]))
 .ret)
 .skip))
 (.seq
 (.reg [qF 36 2 4,
 qL 37 36,
 qM 38 1,
 qA 39 (.ia 1 (.t 37) (.t 38)),
 qL 40 39,
 qM 41 2,
 qA 42 (.ia 1 (.t 40) (.t 41)),
 qL 43 42,
 qM 8 43] (some [8]))
 .ret)))
theorem is_decodepart : IrOf Tryz.prog 130 44 ir_decodepart [.t 8] := ⟨_, Tryz.func130, rfl, by kernel_rfl, by kernel_rfl, by kernel_rfl⟩

def ir_modsOf : ICode :=
 (.seq
 (.reg [qA 2 (.mov (qI 0)),
 qA 3 (.mov (qB false))] (some [0]))
 (.seq
 (.seq
 (.reg [qM 4 0,
 qA 5 (.bin .lss .none (.t 4) (qI 1)),
 qM 6 5,
 qG 7 6 false (.mov (.t 0)),
 qG 8 6 false (.bin .gtr .none (.t 7) (qI 256)),
 qA 9 (.pick (.t 6) (qB true) (.t 8))] (some [0,9]))
 (.cond (.t 9)
 (.seq
 (.reg [qA 2 (.mov (qI 0)),
 qA 3 (.mov (qB false))] (some [2,3]))
 .ret)
 .skip))
 (.seq
 (.reg [qM 10 0,
 qA 11 (.bin .sub .none (.t 10) (qI 1)),
 qM 2 11,
 qA 3 (.mov (qB true))] (some [2,3]))
 .ret)))
theorem is_modsOf : IrOf Tryz.prog 129 12 ir_modsOf [.t 2, .t 3] := ⟨_, Tryz.func129, rfl, by kernel_rfl, by kernel_rfl, by kernel_rfl⟩

/- clavier/utf.Text -/
def ir_utfText_l0 : ICode :=
 (.seq
 (.reg [qA 10 (.bin .lss .none (.t 9) (.t 8))] (some [4,7,8,9,10]))
 (.seq
 (.cond (.t 10)
 .skip
 (.exit 0))
 (.seq
 (.blk 1
 (.seq
 (.reg [qA 11 (.ia 1 (.t 7) (.t 9)),
 qL 12 11,
 qM 6 12] (some [4,6,7,8,9]))
 (.seq
 (.seq
 (.reg [qM 13 6,
 qA 14 (.call (qC 147) [(.t 13)]),
 qA 15 (.un .not (.t 14))] (some [4,6,7,8,9,15]))
 (.cond (.t 15)
 (.seq
 (.reg [qA 2 (.mov (.c .nils)),
 qA 3 (.mov (qB false))] (some [2,3]))
 .ret)
 .skip))
 (.reg [qM 16 4,
 qM 17 6,
 qA 18 (.call (qC 95) [(.t 17)]),
 qA 19 (.app 5 1 1 (.t 16) (.t 18)),
 qM 4 19] (some [4,7,8,9])))))
 (.reg [qA 20 (.bin .add .none (.t 9) (qI 1)),
 qM 9 20] (some [4,7,8,9])))))
def ir_utfText : ICode :=
 (.seq
 (.reg [qA 2 (.mov (.c .nils)),
 qA 3 (.mov (qB false))] (some [0]))
 (.seq
 (.reg [qA 4 (.mov (.c .nils))] (some [0,4]))
 (.seq
 (.seq
 (.reg [qM 7 0,
 qA 8 (.len (.t 7)),
 qA 9 (.mov (qI 0))] (some [4,7,8,9]))
 (.blk 0
 (.loop
 ir_utfText_l0)))
 (.seq
 (.reg [qM 21 4,
 qM 2 21,
 qA 3 (.mov (qB true))] (some [2,3]))
 .ret))))
theorem is_utfText : IrOf Tryz.prog 132 22 ir_utfText [.t 2, .t 3] := ⟨_, Tryz.func132, rfl, by kernel_rfl, by kernel_rfl, by kernel_rfl⟩

/- clavier/keys.Find -/
def ir_keysFind_b0 : ICode :=
 (.blk 1
 (.seq
 (.reg [qA 17 (.ld (some 5) (.t 9)),
 qA 18 (.ld (some 5) (.t 6)),
 qA 19 (.bin .eql (.flat [.int, .int, .int, .int, .bool]) (.t 17) (.t 18)),
 qM 20 19,
 qG 21 20 false (.ld none (.t 2)),
 qG 22 20 false (.bin .eql .none (.t 21) (.c (.int .u8 126))),
 qG 23 20 false (.mov (.t 22)),
 qG 24 23 true (.ld (some 5) (.t 9)),
 qG 25 23 true (.ld (some 5) (.t 7)),
 qG 26 23 true (.bin .eql (.flat [.int, .int, .int, .int, .bool]) (.t 24) (.t 25)),
 qG 27 20 false (.pick (.t 23) (.t 26) (qB false)),
 qA 28 (.pick (.t 20) (qB true) (.t 27))] (some [4,5,8,28]))
 (.cond (.t 28)
 (.seq
 (.reg [qM 29 8,
 qN (.st 1 (.t 4) (.t 29)),
 qN (.st 1 (.t 5) (qB true))] (some []))
 .ret)
 .skip)))
def ir_keysFind : ICode :=
 (.seq
 (.reg [qA 2 (.box 5 (.t 0)),
 qA 4 (.box 3 (qI 0)),
 qA 5 (.box 4 (qB false))] (some [1,2,4,5]))
 (.seq
 (.reg [qL 10 2,
 qA 11 (.bld [(.int .i64 0), (.int .u8 0), (.int .i64 0), (.int .i64 0), (.bool false)] [(0, 1, (qI 3)), (1, 1, (.t 10))]),
 qM 12 1,
 qA 13 (.bld [(.int .i64 0), (.int .u8 0), (.int .i64 0), (.int .i64 0), (.bool false)] [(0, 1, (qI 4)), (2, 1, (.t 12))]),
 qA 6 (.box 82 (.c (.agg [(.int .i64 0), (.int .u8 0), (.int .i64 0), (.int .i64 0), (.bool false)]))),
 qA 7 (.box 82 (.c (.agg [(.int .i64 0), (.int .u8 0), (.int .i64 0), (.int .i64 0), (.bool false)]))),
 qN (.st 5 (.t 6) (.t 11)),
 qN (.st 5 (.t 7) (.t 13))] (some [2,4,5,6,7]))
 (.seq
 (.seq
 (.reg [qA 14 (.call (qC 94) [])] (some [2,4,5,6,7,14]))
 (.blk 0
 (.rgf (.t 14) [15, 16]
 (.seq
 (.reg [qM 8 15] (some [2,4,5,6,7,8,16]))
 (.reg [qA 9 (.box 82 (.c (.agg [(.int .i64 0), (.int .u8 0), (.int .i64 0), (.int .i64 0), (.bool false)]))),
 qN (.st 5 (.t 9) (.t 16))] (some [2,4,5,6,7,8,9])))
 ir_keysFind_b0)))
 (.seq
 (.reg [qN (.st 1 (.t 4) (qI 0)),
 qN (.st 1 (.t 5) (qB false))] (some [4,5]))
 .ret))))
theorem is_keysFind : IrOf Tryz.prog 177 30 ir_keysFind [.cell 4 none, .cell 5 none] := ⟨_, Tryz.func177, rfl, by kernel_rfl, by kernel_rfl, by kernel_rfl⟩

def ir_decodecode : ICode :=
 (.seq
 (.reg [qA 1 (.box 46 (.t 0)),
 qA 2 (.mov (qI 0))] (some [1]))
 (.seq
 (.reg [qA 6 (.ld (some 6) (.t 1)),
 qA 7 (.call (qC 130) [(.t 6), (qI 0), (qI 0), (qI 1)]),
 qM 3 7] (some [1,3]))
 (.seq
 (.blk 0
 (.seq
 (.reg [qF 9 4 1,
 qL 10 9,
 qA 11 (.bin .eql .none (.t 10) (.c (.int .u8 117))),
 qM 8 11] (some [1,3,8]))
 (.cond (.t 8)
 (.seq
 (.reg [qM 12 3,
 qM 2 12] (some [2]))
 .ret)
 (.seq
 (.reg [qF 14 4 1,
 qL 15 14,
 qA 16 (.bin .eql .none (.t 15) (.c (.int .u8 126))),
 qM 17 16,
 qG 18 17 true (.mov (.t 3)),
 qG 19 17 true (.bin .eql .none (.t 18) (qI 13)),
 qA 20 (.pick (.t 17) (.t 19) (qB false)),
 qM 13 20] (some [1,3,13]))
 (.cond (.t 13)
 (.seq
 (.reg [qA 2 (.mov (qI 57366))] (some [2]))
 .ret)
 .skip)))))
 (.seq
 (.reg [qF 22 4 1,
 qL 23 22,
 qM 24 3,
 qA 25 (.call (qC 177) [(.t 23), (.t 24)]),
 qM 21 25,
 qE 26 21 0,
 qE 27 21 1,
 qM 4 26,
 qM 5 27] (some [4]))
 (.seq
 (.reg [qM 28 4,
 qM 2 28] (some [2]))
 .ret)))))
theorem is_decodecode : IrOf Tryz.prog 131 29 ir_decodecode [.t 2] := ⟨_, Tryz.func131, rfl, by kernel_rfl, by kernel_rfl, by kernel_rfl⟩

def ir_decodeTold1 : ICode :=
 (.seq
 (.reg [qA 3 (.mov (qB false))] (some [0,1]))
 (.seq
 (.reg [qL 4 1,
 qA 5 (.mm false (.t 4) (qI 0)),
 qM 6 0,
 qA 7 (.bin .and .none (.t 5) (.t 6)),
 qA 8 (.bin .neq .none (.t 7) (qI 0)),
 qM 3 8] (some [3]))
 .ret))
theorem is_decodeTold1 : IrOf Tryz.prog 43 9 ir_decodeTold1 [.t 3] := ⟨_, Tryz.func43, rfl, by kernel_rfl, by kernel_rfl, by kernel_rfl⟩

def ir_decodeTold : ICode :=
 (.seq
 (.reg [qA 2 (.box 3 (.t 0)),
 qA 3 (.box 27 (.t 1)),
 qA 4 (.box 27 (.c (.agg [(.int .i64 0), (.int .i64 0), (.int .i64 0), (.int .i64 0), (.int .i64 0), (.str [])])))] (some [2,3,4]))
 (.seq
 (.reg [qA 9 (.mkf (.func 43) [] [(.t 2)]),
 qM 5 9] (some [3,4,5]))
 (.seq
 (.reg [qF 11 0 3,
 qL 12 11,
 qA 13 (.call (qC 44) [(.t 12)]),
 qM 10 13,
 qE 14 10 0,
 qE 15 10 1,
 qM 6 14,
 qM 7 15] (some [3,4,5,7]))
 (.seq
 (.reg [qM 16 5,
 qA 17 (.call (.t 16) [(qI 4)]),
 qM 18 17,
 qG 19 18 true (.mov (.t 7)),
 qG 20 18 true (.bin .eql .none (.t 19) (.c (.int .u8 117))),
 qA 21 (.pick (.t 18) (.t 20) (qB false)),
 qM 8 21] (some [3,4,5,8]))
 (.seq
 (.seq
 (.reg [qM 22 8,
 qA 23 (.un .not (.t 22)),
 qM 24 23,
 qG 25 24 false (.fa 1 (.t 3)),
 qG 26 24 false (.ld none (.t 25)),
 qG 27 24 false (.mm false (.t 26) (qI 0)),
 qG 28 24 false (.bin .and .none (.t 27) (qI 1)),
 qG 29 24 false (.bin .eql .none (.t 28) (qI 0)),
 qA 30 (.pick (.t 24) (qB true) (.t 29))] (some [3,4,5,8,30]))
 (.cond (.t 30)
 (.reg [qF 31 3 3,
 qN (.st 1 (.t 31) (qI 0))] (some [3,4,5,8]))
 .skip))
 (.seq
 (.seq
 (.reg [qM 32 8,
 qA 33 (.un .not (.t 32)),
 qM 34 33,
 qG 35 34 false (.fa 4 (.t 3)),
 qG 36 34 false (.ld none (.t 35)),
 qG 37 34 false (.fa 0 (.t 3)),
 qG 38 34 false (.ld none (.t 37)),
 qG 39 34 false (.bin .eql .none (.t 36) (.t 38)),
 qA 40 (.pick (.t 34) (qB true) (.t 39))] (some [3,4,5,40]))
 (.cond (.t 40)
 (.reg [qF 41 4 3,
 qN (.st 1 (.t 41) (qI 0))] (some [3,4,5]))
 .skip))
 (.seq
 (.seq
 (.reg [qM 42 5,
 qA 43 (.call (.t 42) [(qI 16)]),
 qA 44 (.un .not (.t 43)),
 qM 45 44,
 qG 46 45 false (.fa 2 (.t 3)),
 qG 47 45 false (.ld none (.t 46)),
 qG 48 45 false (.bin .eql .none (.t 47) (qI 3)),
 qA 49 (.pick (.t 45) (qB true) (.t 48))] (some [3,4,49]))
 (.cond (.t 49)
 (.reg [qF 50 5 3,
 qN (.st 1 (.t 50) (.c (.str [])))] (some [3,4]))
 .skip))
 (.seq
 (.reg [qA 51 (.ld (some 6) (.t 3)),
 qN (.st 6 (.t 4) (.t 51))] (some [4]))
 .ret))))))))
theorem is_decodeTold : IrOf Tryz.prog 18 52 ir_decodeTold [.cell 4 (some 6)] := ⟨_, Tryz.func18, rfl, by kernel_rfl, by kernel_rfl, by kernel_rfl⟩

theorem bytesAV_appY (a b : List UInt8) : bytesAV (a ++ b) = bytesAV a ++ bytesAV b := by simp [bytesAV]
theorem fs_part {Gl : Gh → Prop} (hst : Stays Gl) {k pr fi o : Int} {ps : List (List Int)} {it da : List UInt8} {i j : Nat} : FS Tryz.prog Gl 130 [.agg [.int .i64 k, .int .u8 pr, .sl none 1 (parsAV ps), .str it, .int .u8 fi, .str da], .int .i64 (i : Int), .int .i64 (j : Int), .int .i64 o] [] [] (.int .i64 (partW ps i j o)) [] [] := by
  refine FS.of hm hst is_decodepart (by simp) fun γ hγ hfr => ?_
  (generalize hQ : (fun (ex : Ex) (_ _ : Nat) (s : St) => _) = Q; unfold ir_decodepart)
  by_cases hlt : i < ps.length
  · have h1 : decide ((i : Int) ≥ (ps.length : Int)) = false := by simp; omega
    have hg : (parsAV ps).getD i [] = [intsV ps[i]] := by
      rw [List.getD_eq_getElem?_getD]; simp [parsAV, hlt]
    have hi : intsV ps[i] = .sl none 1 (intsAV ps[i]) := rfl
    rw [hi] at hg
    have hpw : partW ps i j o = match ps[i][j]? with | none => o | some n => if n < 0 then o else n := by
      unfold partW; rw [List.getElem?_eq_getElem hlt] <;> rfl
    generalize ps[i] = p at *
    by_cases hj : j < p.length
    · have h2 : decide ((j : Int) ≥ (p.length : Int)) = false := by simp; omega
      have hg2 : (intsAV p).getD j [] = [.int .i64 p[j]] := intsAV_get hj
      rw [List.getElem?_eq_getElem hj] at hpw
      simp only at hpw
      by_cases hn : p[j] < 0
      · have h3 : decide (p[j] < 0) = true := decide_eq_true hn
        rw [if_pos hn] at hpw
        simp +contextual (maxSteps := 1000000) only [h1, hg, h2, hg2, h3, parsAV_length, intsAV_length, Int.toNat_natCast, go_sem, reduceCtorEq, ↓reduceIte, Nat.reduceAdd, Nat.reduceEqDiff]
        refine ⟨⟨by omega, by omega⟩, ⟨by omega, by omega⟩, ⟨by omega, by omega⟩, ?_⟩
        rw [← hQ, hpw]
        exact ⟨trivial, Ret.flat rfl rfl⟩
      · have h3 : decide (p[j] < 0) = false := decide_eq_false hn
        rw [if_neg hn] at hpw
        simp +contextual (maxSteps := 1000000) only [h1, hg, h2, hg2, h3, parsAV_length, intsAV_length, Int.toNat_natCast, go_sem, reduceCtorEq, ↓reduceIte, Nat.reduceAdd, Nat.reduceEqDiff]
        refine ⟨⟨by omega, by omega⟩, ⟨by omega, by omega⟩, ⟨by omega, by omega⟩, ⟨by omega, by omega⟩, ⟨by omega, by omega⟩, ?_⟩
        rw [← hQ, hpw]
        exact ⟨trivial, Ret.flat rfl rfl⟩
    · have h2 : decide ((j : Int) ≥ (p.length : Int)) = true := by simp; omega
      rw [List.getElem?_eq_none (by omega)] at hpw
      simp only at hpw
      simp +contextual (maxSteps := 1000000) only [h1, hg, h2, parsAV_length, intsAV_length, Int.toNat_natCast, go_sem, reduceCtorEq, ↓reduceIte, Nat.reduceAdd, Nat.reduceEqDiff]
      refine ⟨⟨by omega, by omega⟩, ?_⟩
      rw [← hQ, hpw]
      exact ⟨trivial, Ret.flat rfl rfl⟩
  · have h1 : decide ((i : Int) ≥ (ps.length : Int)) = true := by simp; omega
    have hpw : partW ps i j o = o := by
      unfold partW; rw [List.getElem?_eq_none (by omega)]
    simp +contextual (maxSteps := 1000000) only [h1, parsAV_length, go_sem, reduceCtorEq, ↓reduceIte, Nat.reduceAdd, Nat.reduceEqDiff]
    rw [← hQ, hpw]
    exact ⟨trivial, Ret.flat rfl rfl⟩
theorem fs_Of {Gl : Gh → Prop} (hst : Stays Gl) {n : Int} (h0 : -1000000 ≤ n) (h1 : n ≤ 9223372036854775807) : FS Tryz.prog Gl 129 [.int .i64 n] [] [] (.tup [.int .i64 (ofW n), .bool (decide (1 ≤ n) && decide (n ≤ 256))]) [] [] := by
  refine FS.of hm hst is_modsOf (by simp) fun γ hγ hfr => ?_
  have hz : ofW n = if n < 1 ∨ 256 < n then 0 else n - 1 := rfl
  (generalize hQ : (fun (ex : Ex) (_ _ : Nat) (s : St) => _) = Q; unfold ir_modsOf)
  by_cases a : n < 1
  · have q : decide (n < 1) = true := decide_eq_true a
    rw [if_pos (.inl a)] at hz
    simp +contextual (maxSteps := 1000000) only [q, go_sem, reduceCtorEq, ↓reduceIte, Nat.reduceAdd, Nat.reduceEqDiff]
    rw [← hQ, hz, decide_eq_false (show ¬ 1 ≤ n by omega)]
    exact ⟨trivial, Ret.flat2⟩
  · have q : decide (n < 1) = false := decide_eq_false a
    by_cases b : n > 256
    · have q2 : decide (n > 256) = true := decide_eq_true b
      rw [if_pos (.inr b)] at hz
      simp +contextual (maxSteps := 1000000) only [q, q2, go_sem, reduceCtorEq, ↓reduceIte, Nat.reduceAdd, Nat.reduceEqDiff]
      rw [← hQ, hz, decide_eq_false (show ¬ n ≤ 256 by omega), Bool.and_false]
      exact ⟨trivial, Ret.flat2⟩
    · have q2 : decide (n > 256) = false := decide_eq_false b
      rw [if_neg (by omega)] at hz
      have hw : IntKind.i64.wrap (n - 1) = n - 1 := by rw [IntKind.wrap_i64]; omega
      simp +contextual (maxSteps := 1000000) only [q, q2, hw, go_sem, reduceCtorEq, ↓reduceIte, Nat.reduceAdd, Nat.reduceEqDiff]
      rw [← hQ, hz, decide_eq_true (show 1 ≤ n by omega), decide_eq_true (show n ≤ 256 by omega)]
      exact ⟨trivial, Ret.flat2⟩
theorem fs_TextU {Gl : Gh → Prop} (hst : Stays Gl) {l : List Int} {tl : Option Nm} (hl : l.length ≤ 1000) : FS Tryz.prog Gl 132 [.sl tl 1 (intsAV l)] [] [] (.tup [.sl none 1 (bytesAV (textT l)), .bool (l.all isCP)]) [] [] := by
  refine FS.args (args' := [.sl none 1 (intsAV l)]) ?_ ⟨RepLe.anon _ _ _, trivial⟩
  refine FS.ofW hm hst is_utfText rfl (by simp) fun γ hγ hfr => ?_
  (generalize hQ : (fun (ex : Ex) (_ _ : Nat) (s : St) => _) = Q; unfold ir_utfText)
  simp +contextual (maxSteps := 1000000) only [go_sem, reduceCtorEq, ↓reduceIte, Nat.reduceAdd, Nat.reduceEqDiff]
  refine kLoop_ix (fun q : Nat × Option Nm => ⟨lf [(4, sv q.2 1 (bytesAV ((l.take q.1).flatMap putU))), (7, .sl none 1 (intsAV l)), (8, .int .i64 l.length), (9, .int .i64 q.1)], [], fun x => q.2 = some x⟩)
    (fun q => q.1 ≤ l.length ∧ (q.2 = none → (l.take q.1).flatMap putU = []) ∧ ∀ r ∈ l.take q.1, isCP r = true) (fun q => l.length - q.1) 0 (0, none) ?_ ⟨by simp, by simp, by simp⟩ ?_
  · refine Wk.perm' ?_ (fun p hp => hp) (fun t ht => by cases ht)
    simp only [lfOK, intsAV_length]
    repeat' first | exact AVle.refl _ _ | exact trivial | refine And.intro ?_ ?_ | exact AVle.int (by simp only [IntKind.wrap_i64]; omega)
  rintro γ' ⟨i, tk⟩ hf ⟨hi, htk, hcp⟩
  simp only at hi htk hf hcp
  generalize hQ' : kIt _ _ _ _ _ = Q'
  unfold ir_utfText_l0
  have hbl : ((l.take i).flatMap putU).length ≤ 4 * i := by
    have : ∀ m : List Int, (m.flatMap putU).length ≤ 4 * m.length := fun m => by
      induction m with
      | nil => simp
      | cons x m ih => have := putU_len x; simp only [List.flatMap_cons, List.length_append, List.length_cons]; omega
    have h := this (l.take i)
    rw [List.length_take] at h
    omega
  by_cases hlt : i < l.length
  · have hd : decide ((i : Int) < (l.length : Int)) = true := decide_eq_true (by omega)
    have hg1 : (intsAV l).getD i [] = [.int .i64 l[i]] := intsAV_get hlt
    have hw : IntKind.i64.wrap ((i : Int) + 1) = ((i + 1 : Nat) : Int) := by rw [IntKind.wrap_i64]; omega
    have hpl := putU_len l[i]
    have c1 := fs_is (Gl := Gl) hst (r := l[i])
    have c2 := fs_putU (Gl := Gl) hst (r := l[i])
    cases hc : isCP l[i] with
    | false =>
      rw [hc] at c1
      have hall : l.all isCP = false := by
        cases h : l.all isCP with
        | false => rfl
        | true => have := List.all_eq_true.1 h _ (List.getElem_mem hlt); rw [hc] at this; cases this
      have ht : textT l = [] := by unfold textT; rw [hall]; rfl
      simp +contextual (maxSteps := 1000000) only [hd, hg1, Int.toNat_natCast, intsAV_length, go_sem, reduceCtorEq, ↓reduceIte, Nat.reduceAdd, Nat.reduceEqDiff]
      refine ⟨⟨by omega, by omega⟩, ?_⟩
      (refine CallP.pure (c1) (fun _ => rfl) ?_; simp +contextual (maxSteps := 1000000) only [go_sem, ↓reduceIte, Nat.reduceAdd, Nat.reduceEqDiff])
      rw [← hQ']
      simp only [w_kIt_r, w_kBlk_r, w_kSeq_r]
      rw [← hQ, hall, ht]
      exact ⟨trivial, .inl ⟨_, rfl, RepLe.tupL ⟨RepLe.nils 1, RepLe.refl _, trivial⟩⟩⟩
    | true =>
      rw [hc] at c1
      have hsn : (l.take (i + 1)).flatMap putU = (l.take i).flatMap putU ++ putU l[i] := by
        rw [List.take_add_one, List.getElem?_eq_getElem hlt, List.flatMap_append]; simp
      have hcp' : ∀ r ∈ l.take (i + 1), isCP r = true := fun r hr => by
        rw [List.take_add_one, List.getElem?_eq_getElem hlt] at hr
        rcases List.mem_append.1 hr with h | h
        · exact hcp r h
        · simp at h; rw [h]; exact hc
      cases tk with
      | none =>
        have hem := htk rfl
        rw [hem] at hsn
        simp +contextual (maxSteps := 1000000) only [hd, hg1, Int.toNat_natCast, intsAV_length, go_sem, reduceCtorEq, ↓reduceIte, Nat.reduceAdd, Nat.reduceEqDiff]
        refine ⟨⟨by omega, by omega⟩, ?_⟩
        (refine CallP.pure (c1) (fun _ => rfl) ?_; simp +contextual (maxSteps := 1000000) only [go_sem, ↓reduceIte, Nat.reduceAdd, Nat.reduceEqDiff])
        (refine CallP.pure (c2) (fun _ => rfl) ?_; simp +contextual (maxSteps := 1000000) only [bytesAV_length', go_sem, reduceCtorEq, ↓reduceIte, Nat.reduceAdd, Nat.reduceEqDiff])
        refine ⟨by omega, ?_⟩
        rw [← hQ']
        simp only [w_kIt_n]
        refine ⟨0, (i + 1, some (γ', 10, 0)), Wk.perm' ?_ (fun p hp => hp) (fun t ht => ?_), ⟨by simp only; omega, by simp, hcp'⟩, by simp only; omega⟩
        · rw [hw]
          simp only [sv_some, hsn, List.nil_append]
          repeat' first | exact AVle.refl _ _ | exact trivial | refine And.intro ?_ ?_ | exact AVle.int (by simp only [IntKind.wrap_i64]; omega)
        · simp only [Option.some.injEq] at ht
          subst ht
          simp
      | some t0 =>
        simp +contextual (maxSteps := 1000000) only [hd, hg1, Int.toNat_natCast, intsAV_length, sv_some, go_sem, reduceCtorEq, ↓reduceIte, Nat.reduceAdd, Nat.reduceEqDiff]
        refine ⟨⟨by omega, by omega⟩, ?_⟩
        (refine CallP.pure (c1) (fun _ => rfl) ?_; simp +contextual (maxSteps := 1000000) only [go_sem, ↓reduceIte, Nat.reduceAdd, Nat.reduceEqDiff])
        (refine CallP.pure (c2) (fun _ => rfl) ?_; simp +contextual (maxSteps := 1000000) only [bytesAV_length', go_sem, reduceCtorEq, ↓reduceIte, Nat.reduceAdd, Nat.reduceEqDiff])
        refine ⟨by omega, ?_⟩
        rw [← hQ']
        simp only [w_kIt_n]
        refine ⟨0, (i + 1, some (γ', 10, 0)), Wk.perm' ?_ (fun p hp => hp) (fun t ht => ?_), ⟨by simp only; omega, by simp, hcp'⟩, by simp only; omega⟩
        · rw [hw]
          simp only [sv_some, hsn, bytesAV_appY]
          repeat' first | exact AVle.refl _ _ | exact trivial | refine And.intro ?_ ?_ | exact AVle.int (by simp only [IntKind.wrap_i64]; omega)
        · simp only [Option.some.injEq] at ht
          subst ht
          simp
  · have hd : decide ((i : Int) < (l.length : Int)) = false := decide_eq_false (by omega)
    have hall0 : l.take i = l := List.take_of_length_le (by omega)
    rw [hall0] at hcp htk
    have hall : l.all isCP = true := List.all_eq_true.2 hcp
    have ht : textT l = l.flatMap putU := by unfold textT; rw [if_pos hall]
    simp +contextual (maxSteps := 1000000) only [hd, hall0, go_sem, reduceCtorEq, ↓reduceIte, Nat.reduceAdd, Nat.reduceEqDiff]
    rw [← hQ']
    simp only [w_kIt_e, w_kBlk_e, ↓reduceIte]
    cases tk with
    | none =>
      simp +contextual (maxSteps := 1000000) only [go_sem, reduceCtorEq, ↓reduceIte, Nat.reduceAdd, Nat.reduceEqDiff]
      rw [← hQ, hall, ht, htk rfl]
      exact ⟨trivial, .inl ⟨_, rfl, RepLe.tupL ⟨RepLe.nils 1, RepLe.refl _, trivial⟩⟩⟩
    | some t0 =>
      simp +contextual (maxSteps := 1000000) only [go_sem, ↓reduceIte, Nat.reduceAdd, Nat.reduceEqDiff]
      rw [← hQ, hall, ht]
      exact ⟨trivial, .inl ⟨_, rfl, RepLe.tupL ⟨RepLe.anon' rfl, RepLe.refl _, trivial⟩⟩⟩
set_option maxHeartbeats 4000000 in
theorem fs_Find {Gl : Gh → Prop} (hst : Stays Gl) {f n : Int} : FS Tryz.prog Gl 177 [.int .u8 f, .int .i64 n] [] [] (.tup [.int .i64 (findK f n), .bool (allK.any (findB f n))]) [] [] := by
  refine FS.ofW hm hst is_keysFind rfl (by simp) fun γ hγ hfr => ?_
  (generalize hQ : (fun (ex : Ex) (_ _ : Nat) (s : St) => _) = Q; unfold ir_keysFind)
  simp +contextual (maxSteps := 1000000) only [go_sem, reduceCtorEq, ↓reduceIte, Nat.reduceAdd, Nat.reduceEqDiff, Nat.reduceLeDiff]
  refine CallP.of (fs_all hst) (by simp) (by simp) ?_
  simp +contextual (maxSteps := 1000000) only [go_sem, ↓reduceIte, Nat.reduceEqDiff]
  obtain ⟨base, hbase⟩ : ∃ base : Hp, base = [((γ, 8, 0), .cells [.int .i64 4, .int .u8 0, .int .i64 n, .int .i64 0, .bool false]), ((γ, 7, 0), .cells [.int .i64 3, .int .u8 f, .int .i64 0, .int .i64 0, .bool false]), ((γ, 2, 0), .cells [.bool false]), ((γ, 1, 0), .cells [.int .i64 0]), ((γ, 0, 0), .cells [.int .u8 f])] := ⟨_, rfl⟩
  refine rgf_of rfl (allK.map keyAV)
    (fun i H T => (∀ p ∈ allK.take i, findB f n p = false) ∧ ∃ pre : Hp, (∀ q ∈ pre, γ < q.1.1) ∧ H = pre ++ base)
    (fun ex H T => ex = .ret ∧ ∃ (i : Nat) (p : Nat × Ent), allK[i]? = some p ∧ findB f n p = true ∧ (∀ q ∈ allK.take i, findB f n q = false) ∧ ((γ, 1, 0), .cells [.int .i64 (p.1 : Int)]) ∈ H ∧ ((γ, 2, 0), .cells [.bool true]) ∈ H)
    [] base (fun _ => False)
    it_keys (by simp) (by simp) (by rw [hbase]; simp) (by simp) ⟨by simp, [], by simp, rfl⟩ (fun x hx => by obtain ⟨p, _, rfl⟩ := List.mem_map.1 hx; rfl) ?_ ?_ ?_
  · rintro Gl' hst' hG i x H T γ' hx ⟨hne, pre, hpre, rfl⟩ hlt hfr'
    simp only [List.getElem?_map, Option.map_eq_some_iff] at hx
    obtain ⟨⟨k, e⟩, hp, rfl⟩ := hx
    have htk : allK.take (i + 1) = allK.take i ++ [(k, e)] := by rw [List.take_add_one, hp]; rfl
    have hke : keyAV (k, e) = [.int .i64 (k : Int), .agg [.int .i64 e.kind, .int .u8 (e.final.toNat : Int), .int .i64 e.num, .int .i64 e.char, .bool e.keys]] := rfl
    generalize hK : kBd _ _ _ = K
    unfold ir_keysFind_b0
    have hg1 : (γ = γ') = False := by rw [eq_iff_iff, iff_false]; omega
    have hg2 : (γ' = γ) = False := by rw [eq_iff_iff, iff_false]; omega
    have hn : ∀ q ∈ pre ++ base, q.1.1 ≠ γ' := fun q hq => hfr'.1 q hq
    have hs0 : ∀ hb, setH (pre ++ base) (γ', 1, 0) hb = pre ++ base := fun hb => setH_ne fun q hq e => hn q hq (by rw [e])
    have hpn : ∀ j : Nat, getH pre (γ, j, 0) = none := fun j => getH_ne fun q hq e => by have := hpre q hq; rw [e] at this; simp only at this; omega
    have hps : ∀ (j : Nat) hb, setH pre (γ, j, 0) hb = pre := fun j hb => setH_ne fun q hq e => by have := hpre q hq; rw [e] at this; simp only at this; omega
    have hr0 : getH (pre ++ base) (γ, 0, 0) = some (.cells [.int .u8 f]) := by rw [getH_append, hpn, hbase]; simp [getH]
    have hr1 : getH (pre ++ base) (γ, 1, 0) = some (.cells [.int .i64 0]) := by rw [getH_append, hpn, hbase]; simp [getH]
    have hr7 : getH (pre ++ base) (γ, 7, 0) = some (.cells [.int .i64 3, .int .u8 f, .int .i64 0, .int .i64 0, .bool false]) := by rw [getH_append, hpn, hbase]; simp [getH]
    have hr8 : getH (pre ++ base) (γ, 8, 0) = some (.cells [.int .i64 4, .int .u8 0, .int .i64 n, .int .i64 0, .bool false]) := by rw [getH_append, hpn, hbase]; simp [getH]
    have hs1 : ∀ hb, setH (pre ++ base) (γ, 1, 0) hb = pre ++ setH base (γ, 1, 0) hb := fun hb => by rw [setH_append, hps]
    have hr2 : ∀ hb, getH (pre ++ setH base (γ, 1, 0) hb) (γ, 2, 0) = some (.cells [.bool false]) := fun hb => by rw [getH_append, hpn, hbase]; simp [getH, setH]
    have hs2 : ∀ hb hb', setH (pre ++ setH base (γ, 1, 0) hb) (γ, 2, 0) hb' = pre ++ setH (setH base (γ, 1, 0) hb) (γ, 2, 0) hb' := fun hb hb' => by rw [setH_append, hps]
    cases hc : findB f n (k, e) with
    | true =>
      have hd : (e.kind == 3 && (e.final.toNat : Int) == f && e.num == 0 && e.char == 0 && !e.keys || f == 126 && (e.kind == 4 && (e.final.toNat : Int) == 0 && e.num == n && e.char == 0 && !e.keys)) = true := hc
      simp +contextual (maxSteps := 1000000) only [hke, hd, hg1, hg2, false_and, hs0, hr0, hr1, hr7, hr8, hs1, hr2, hs2, go_sem, reduceCtorEq, ↓reduceIte, Nat.reduceAdd, Nat.reduceEqDiff]
      rw [← hK]
      refine ⟨rfl, i, (k, e), hp, hc, hne, ?_, ?_⟩
      · simp [hbase, setH]
      · simp [hbase, setH]
    | false =>
      have hd : (e.kind == 3 && (e.final.toNat : Int) == f && e.num == 0 && e.char == 0 && !e.keys || f == 126 && (e.kind == 4 && (e.final.toNat : Int) == 0 && e.num == n && e.char == 0 && !e.keys)) = false := hc
      simp +contextual (maxSteps := 1000000) only [hke, hd, hg1, hg2, false_and, hs0, hr0, hr1, hr7, hr8, hs1, hr2, hs2, go_sem, reduceCtorEq, ↓reduceIte, Nat.reduceAdd, Nat.reduceEqDiff]
      rw [← hK]
      refine ⟨fun p hp' => ?_, ((γ', 1, 0), .cells [.int .i64 e.kind, .int .u8 (e.final.toNat : Int), .int .i64 e.num, .int .i64 e.char, .bool e.keys]) :: pre, fun q hq => ?_, rfl⟩
      · rw [htk] at hp'
        rcases List.mem_append.1 hp' with h | h
        · exact hne p h
        · simp only [List.mem_singleton] at h; rw [h]; exact hc
      · rcases List.mem_cons.1 hq with rfl | h
        · exact hlt
        · exact hpre q h
  · rintro H1 T1 ⟨hne, pre, hpre, rfl⟩
    rw [List.length_map, List.take_length] at hne
    have hfn : findK f n = 0 := by
      have : (allK.find? (findB f n)) = none := by
        rw [List.find?_eq_none]; intro p hp; rw [hne p hp]; simp
      rw [findK, this]
    have han : allK.any (findB f n) = false := by
      rw [List.any_eq_false]; intro p hp; rw [hne p hp]; simp
    refine ⟨base, T1, fun p hp => List.mem_append.2 (.inl (List.mem_append.2 (.inr hp))), fun _ h => .inl h, ?_⟩
    subst hbase
    simp +contextual (maxSteps := 1000000) only [go_sem, reduceCtorEq, ↓reduceIte, Nat.reduceAdd, Nat.reduceEqDiff]
    rw [← hQ, hfn, han]
    refine ⟨trivial, .inl ⟨.tup [.int .i64 0, .bool false], ?_, RepLe.refl _⟩⟩
    simp [resOf, getAll, IRes.get, lf, getH]
  · rintro ex H1 T1 ⟨rfl, i, p, hp, hpc, hne, hm1, hm2⟩
    have hfn : allK.find? (findB f n) = some p := by
      have hil := (List.getElem?_eq_some_iff.1 hp).1
      have hs : allK = allK.take i ++ p :: allK.drop (i + 1) := by
        rw [← (List.getElem?_eq_some_iff.1 hp).2, List.getElem_cons_drop, List.take_append_drop]
      rw [hs, List.find?_append]
      have h1 : (allK.take i).find? (findB f n) = none := by
        rw [List.find?_eq_none]; intro q hq; rw [hne q hq]; simp
      rw [h1]
      simp [hpc]
    have hfk : findK f n = (p.1 : Int) := by rw [findK, hfn]
    have han : allK.any (findB f n) = true := List.any_eq_true.2 ⟨p, List.mem_of_getElem? hp, hpc⟩
    refine ⟨[((γ, 2, 0), .cells [.bool true]), ((γ, 1, 0), .cells [.int .i64 (p.1 : Int)])], fun _ => False, fun q hq => List.mem_append.2 (.inl ?_), fun _ h => h.elim, ?_⟩
    · simp only [List.mem_cons, List.not_mem_nil, or_false] at hq
      rcases hq with rfl | rfl
      · exact hm2
      · exact hm1
    · simp only [w_kBlk_r, w_kSeq_r]
      rw [← hQ, hfk, han]
      refine ⟨trivial, .inl ⟨.tup [.int .i64 (p.1 : Int), .bool true], ?_, RepLe.refl _⟩⟩
      simp [resOf, getAll, IRes.get, lf, getH]
theorem fs_codeW {Gl : Gh → Prop} (hst : Stays Gl) {s : Sq} : FS Tryz.prog Gl 131 [.agg s.c] [] [] (.int .i64 (codeW s)) [] [] := by
  refine FS.of hm hst is_decodecode (by simp) fun γ hγ hfr => ?_
  have hcc : s.c = [.int .i64 s.k, .int .u8 s.pr, .sl none 1 (parsAV s.ps), .str s.it, .int .u8 s.fi, .str s.da] := rfl
  have c1 := fs_part (Gl := Gl) hst (k := s.k) (pr := s.pr) (fi := s.fi) (o := 1) (ps := s.ps) (it := s.it) (da := s.da) (i := 0) (j := 0)
  have c2 := fs_Find (Gl := Gl) hst (f := s.fi) (n := partW s.ps 0 0 1)
  have hz : codeW s = if s.fi = 117 then partW s.ps 0 0 1 else if s.fi = 126 ∧ partW s.ps 0 0 1 = 13 then 57366 else findK s.fi (partW s.ps 0 0 1) := rfl
  rw [hcc]
  generalize partW s.ps 0 0 1 = n at *
  (generalize hQ : (fun (ex : Ex) (_ _ : Nat) (s : St) => _) = Q; unfold ir_decodecode)
  simp +contextual (maxSteps := 1000000) only [go_sem, ↓reduceIte, Nat.reduceAdd, Nat.reduceEqDiff]
  (refine CallP.pure (c1) (fun _ => rfl) ?_; simp +contextual (maxSteps := 1000000) only [go_sem, reduceCtorEq, ↓reduceIte, Nat.reduceAdd, Nat.reduceEqDiff])
  by_cases h1 : s.fi = 117
  · have q1 : (s.fi == 117) = true := beq_iff_eq.2 h1
    rw [if_pos h1] at hz
    simp +contextual (maxSteps := 1000000) only [q1, go_sem, ↓reduceIte, Nat.reduceAdd, Nat.reduceEqDiff]
    rw [← hQ, hz]
    exact ⟨trivial, Ret.flat rfl rfl⟩
  · have q1 : (s.fi == 117) = false := beq_eq_false_iff_ne.2 h1
    rw [if_neg h1] at hz
    by_cases h2 : s.fi = 126 ∧ n = 13
    · have q2 : (s.fi == 126 && n == 13) = true := by rw [h2.1, h2.2]; rfl
      rw [if_pos h2] at hz
      simp +contextual (maxSteps := 1000000) only [q1, q2, go_sem, reduceCtorEq, ↓reduceIte, Nat.reduceAdd, Nat.reduceEqDiff]
      rw [← hQ, hz]
      exact ⟨trivial, Ret.flat rfl rfl⟩
    · have q2 : (s.fi == 126 && n == 13) = false := by
        cases h : (s.fi == 126 && n == 13) with
        | false => rfl
        | true =>
          rw [Bool.and_eq_true, beq_iff_eq, beq_iff_eq] at h
          exact absurd h h2
      rw [if_neg h2] at hz
      simp +contextual (maxSteps := 1000000) only [q1, q2, go_sem, reduceCtorEq, ↓reduceIte, Nat.reduceAdd, Nat.reduceEqDiff]
      (refine CallP.pure (c2) (fun _ => rfl) ?_; simp +contextual (maxSteps := 1000000) only [go_sem, ↓reduceIte, Nat.reduceAdd, Nat.reduceEqDiff])
      rw [← hQ, hz]
      exact ⟨trivial, Ret.flat rfl rfl⟩
theorem CallP.keep {P : Program} {Gl : Gh → Prop} {k : FuncId} {args : List AV} {H H0 : Hp} {T : Tk} {f : Nat → Nm} {K : AV → Hp → Tk → Prop} {r : AV} (h : FS P Gl k args H0 [] r H0 []) (hr : ∀ f, Ab.rn f r = r) (h0 : ∀ f, rnH f H0 = H0) (hin : ∀ p ∈ H0, p ∈ H) (hu : ∀ p ∈ H, ∀ q ∈ H0, q.1 = p.1 → p ∈ H0) (hK : K r H T) : CallP P Gl k args H T f K :=
  ⟨H0, [], _, h, hin, by simp, by
    rintro r' H' T' ⟨e1, e2, e3⟩
    rw [e1, e2]
    refine ⟨H, T, fun p hp => ?_, fun s hs => .inr ⟨hs, by simp⟩, by rw [hr]; exact hK⟩
    by_cases hq : ∃ q ∈ H0, q.1 = p.1
    · obtain ⟨q, hq, e⟩ := hq
      rw [h0]
      exact List.mem_append.2 (.inl (hu p hp q hq e))
    · refine List.mem_append.2 (.inr (List.mem_filter.2 ⟨hp, ?_⟩))
      rw [List.all_eq_true]
      intro q hq'
      simp only [ne_eq, decide_eq_true_eq]
      exact fun e => hq ⟨q, hq', e⟩⟩
theorem rd_int {a : Nm} (ha : 1 ≤ a.1) {k : IntKind} {n : Int} : Rd [(a, .cells [.int k n])] := by
  have h : ¬(a.1 = 0 ∧ a.2.1 = 0) := fun h => by omega
  refine ⟨fun f => by simp [rnH, rnN, rnHB, rnL, Ab.rn, h], fun p hp => ?_⟩
  simp only [List.mem_cons, List.not_mem_nil, or_false] at hp
  subst hp
  exact ⟨by simp [nmOK, h], trivial, trivial⟩
theorem fs_Told1 {Gl : Gh → Prop} (hst : Stays Gl) {fl f : Int} (j : Nat) (hj : j < 63) (hf : f = ((2 ^ j : Nat) : Int)) (hfl : fl ≤ 9223372036854775807) {a : Nm} (ha : 1 ≤ a.1) : FS Tryz.prog Gl 43 [.int .i64 f, .ptr a 0] [(a, .cells [.int .i64 fl])] [] (.bool (hasK fl f)) [(a, .cells [.int .i64 fl])] [] := by
  subst hf
  refine FS.of hm hst is_decodeTold1 (by simp) fun γ hγ hfr => ?_
  have h1 := has_and hfl j hj
  have h2 : (bits .and .i64 (max fl 0) ((2 ^ j : Nat) : Int) != 0) = hasK fl ((2 ^ j : Nat) : Int) := by rw [bne, h1, Bool.not_not]
  (generalize hQ : (fun (ex : Ex) (_ _ : Nat) (s : St) => _) = Q; unfold ir_decodeTold1)
  simp +contextual (maxSteps := 1000000) only [maxE, h2, go_sem, reduceCtorEq, ↓reduceIte, Nat.reduceAdd, Nat.reduceEqDiff]
  rw [← hQ]
  exact ⟨trivial, Ret.reads (rd_int ha) rfl rfl (by simp)⟩
set_option maxHeartbeats 4000000 in
theorem fs_Told {Gl : Gh → Prop} (hst : Stays Gl) {fl : Int} {k : Ky} (hfl : fl ≤ 9223372036854775807) (hm0 : k.mods ≤ 9223372036854775807) : FS Tryz.prog Gl 18 [.int .i64 fl, .agg (kyAV k)] [] [] (.agg (kyAV (toldK fl k))) [] [] := by
  refine FS.ofW hm hst is_decodeTold rfl (by simp) fun γ hγ hfr => ?_
  have hky : kyAV k = [.int .i64 k.code, .int .i64 k.mods, .int .i64 k.type, .int .i64 k.shifted, .int .i64 k.base, .str k.text] := rfl
  have hzz : kyAV (toldK fl k) = [.int .i64 k.code, .int .i64 k.mods, .int .i64 k.type, .int .i64 (if (othersK fl k.code && hasK k.mods 1) = true then k.shifted else 0), .int .i64 (if (othersK fl k.code && !decide (k.base = k.code)) = true then k.base else 0), .str (if (hasK fl 16 && !decide (k.type = 3)) = true then k.text else [])] := rfl
  have c1 := fs_Form (Gl := Gl) hst (c := k.code)
  have c2 := fs_Told1 (Gl := Gl) hst (fl := fl) 2 (by omega) (f := 4) rfl hfl (a := (γ, 0, 0)) hγ
  have c3 := fs_Told1 (Gl := Gl) hst (fl := fl) 4 (by omega) (f := 16) rfl hfl (a := (γ, 0, 0)) hγ
  have hrd := (rd_int (a := (γ, 0, 0)) hγ (k := .i64) (n := fl)).rn
  have hoth : (hasK fl 4 && (((formK k.code).2.toNat : Int) == 117)) = othersK fl k.code := by
    unfold othersK
    congr 1
    rw [Bool.eq_iff_iff, beq_iff_eq, decide_eq_true_eq]
    constructor
    · intro e; exact UInt8.toNat_inj.1 (by have : (117 : UInt8).toNat = 117 := rfl; omega)
    · intro e; rw [e]; rfl
  have hand : (bits .and .i64 (max k.mods 0) 1 == 0) = !hasK k.mods 1 := has_and hm0 0 (by omega)
  have hbc : (k.base == k.code) = decide (k.base = k.code) := rfl
  have ht3 : (k.type == 3) = decide (k.type = 3) := rfl
  rw [hky, hzz]
  generalize hasK fl 4 = f4 at *
  generalize hasK fl 16 = f16 at *
  generalize othersK fl k.code = ot at *
  generalize hasK k.mods 1 = m1 at *
  generalize ((formK k.code).2.toNat : Int) = fin at *
  generalize decide (k.base = k.code) = bc at *
  generalize decide (k.type = 3) = t3 at *
  (generalize hQ : (fun (ex : Ex) (_ _ : Nat) (s : St) => _) = Q; unfold ir_decodeTold)
  simp +contextual (maxSteps := 1000000) only [go_sem, ↓reduceIte, Nat.reduceAdd, Nat.reduceEqDiff]
  (refine CallP.pure (c1) (fun _ => rfl) ?_; simp +contextual (maxSteps := 1000000) only [go_sem, ↓reduceIte, Nat.reduceAdd, Nat.reduceEqDiff])
  refine CallP.keep c2 (fun _ => rfl) hrd (by simp) (by simp) ?_
  have hoth : ∀ x, x = (f4 && (fin == 117)) → x = ot := fun x h => by rw [h, hoth]
  have hoth := hoth _ rfl
  cases ot <;> cases m1 <;> cases bc
  all_goals
    simp +contextual (maxSteps := 1000000) only [hoth, maxE, hand, hbc, go_sem, reduceCtorEq, ↓reduceIte, Nat.reduceAdd, Nat.reduceEqDiff, Nat.reduceLeDiff]
    refine CallP.keep c3 (fun _ => rfl) hrd (by simp) (by simp) ?_
    cases f16 <;> cases t3
    all_goals
      simp +contextual (maxSteps := 1000000) only [ht3, go_sem, reduceCtorEq, ↓reduceIte, Nat.reduceAdd, Nat.reduceEqDiff]
      rw [← hQ]
      refine ⟨trivial, .inl ⟨_, ?_, RepLe.refl _⟩⟩
      simp [resOf, getAll, IRes.get, lf, getH]
end Go.Proofs.YtcdkcfpgdbjogaaGreatDoor

namespace Go.Proofs.YtcdkcfpgdbjogaaGreatDoor
open Go Go.Ab

theorem like_low : ∀ n : Fin 256, bits .andNot .i64 ((n.val : Nat) : Int) 60 = ((n.val : Nat) : Int) - ((n.val : Nat) : Int) / 4 % 16 * 4 := by decide +kernel
theorem like_mot : ∀ n : Fin 256, (bits .and .i64 ((n.val : Nat) : Int) 32 != 0) = decide (((n.val : Nat) : Int) / 32 % 2 = 1) := by decide +kernel
theorem likeB_succ (m : Int) (i : Nat) : likeB m (i + 1) = if numM (i : Int) = m then (i : Int) else likeB m i := by
  unfold likeB
  rw [List.range_succ, List.foldl_append]
  rfl
set_option maxHeartbeats 4000000 in
theorem fs_likeM {Gl : Gh → Prop} (hst : Stays Gl) {n fi : Int} (h0 : 0 ≤ n) (h1 : n ≤ 255) : FS Tryz.prog Gl 174 [.int .i64 n, .int .u8 fi] [] [] (.agg (moAV (likeM n fi 0 0))) [] [] := by
  refine FS.of hm hst is_mouselike (by simp) fun γ hγ hfr => ?_
  have q1 := like_low ⟨n.toNat, by omega⟩
  have q2 := like_mot ⟨n.toNat, by omega⟩
  simp only at q1 q2
  rw [show ((n.toNat : Nat) : Int) = n by omega] at q1 q2
  have q3 : (IntKind.i64.wrap (n.tdiv 4)).tmod 8 = n / 4 % 8 := by
    rw [Int.tdiv_eq_ediv_of_nonneg (by omega), IntKind.wrap_i64, Int.tmod_eq_emod_of_nonneg (by omega)]
    omega
  obtain ⟨m, hm'⟩ : ∃ m, m = n - n / 4 % 16 * 4 := ⟨_, rfl⟩
  rw [← hm'] at q1
  have hmo : ∀ ty : Int, moAV (Mo.mk (likeB m 12) ty 0 0 (n / 4 % 8)) = [.int .i64 (likeB m 12), .int .i64 ty, .int .i64 0, .int .i64 0, .int .i64 (n / 4 % 8)] := fun _ => rfl
  have hz : likeM n fi 0 0 = ⟨likeB m 12, if fi = 109 then 3 else if n / 32 % 2 = 1 then 4 else 1, 0, 0, n / 4 % 8⟩ := by unfold likeM; rw [← hm']
  have lp : ∀ {Q : Ex → Nat → Nat → St → Prop} {c : Nat} {ty : Int}, (∀ γ' c', Q (.exit 0) γ' c' ⟨lf [(0, .int .i64 n), (4, .ptr (γ, 0, 0) 0), (5, .ptr (γ, 5, 0) 0), (18, .int .i64 12), (19, .bool false)], [((γ, 5, 0), .cells [.int .i64 (likeB m 12), .int .i64 ty, .int .i64 0, .int .i64 0, .int .i64 (n / 4 % 8)]), ((γ, 0, 0), .cells [.int .i64 0, .int .i64 0, .int .i64 0, .int .i64 0, .int .i64 0])], fun x => x ∈ []⟩) →
      kLoop Tryz.prog Gl ir_mouselike_l0 γ c ⟨lf [(0, .int .i64 n), (4, .ptr (γ, 0, 0) 0), (5, .ptr (γ, 5, 0) 0), (18, .int .i64 0)], [((γ, 5, 0), .cells [.int .i64 0, .int .i64 ty, .int .i64 0, .int .i64 0, .int .i64 (n / 4 % 8)]), ((γ, 0, 0), .cells [.int .i64 0, .int .i64 0, .int .i64 0, .int .i64 0, .int .i64 0])], fun x => x ∈ []⟩ Q := by
    intro Q c ty hQ
    refine kLoop_ix (fun i : Nat => ⟨lf [(0, .int .i64 n), (4, .ptr (γ, 0, 0) 0), (5, .ptr (γ, 5, 0) 0), (18, .int .i64 i)], [((γ, 5, 0), .cells [.int .i64 (likeB m i), .int .i64 ty, .int .i64 0, .int .i64 0, .int .i64 (n / 4 % 8)]), ((γ, 0, 0), .cells [.int .i64 0, .int .i64 0, .int .i64 0, .int .i64 0, .int .i64 0])], fun x => x ∈ []⟩) (fun i => i ≤ 12) (fun i => 12 - i) 0 0 (Wk.perm' ?_ (fun p hp => ?_) (fun t ht => ht)) (by simp) ?_
    · (simp only [lfOK, upd, initF]; repeat' first | exact AVle.refl _ _ | exact trivial | refine And.intro ?_ ?_ | exact AVle.int (by simp only [IntKind.wrap_i64]; omega))
    · exact hp
    rintro γ' i hf hi
    generalize hQ' : kIt _ _ _ _ _ = Q'
    unfold ir_mouselike_l0
    by_cases hlt : i < 12
    · have hd : decide ((i : Int) < 12) = true := decide_eq_true (by omega)
      have hw : IntKind.i64.wrap ((i : Int) + 1) = ((i + 1 : Nat) : Int) := by rw [IntKind.wrap_i64]; omega
      have c1 := fs_button (Gl := Gl) hst (n := (i : Int)) (by omega) (by omega)
      have hsu := likeB_succ m i
      by_cases hi' : numM (i : Int) = m
      · have hd2 : (numM (i : Int) == m) = true := beq_iff_eq.2 hi'
        rw [if_pos hi'] at hsu
        simp +contextual (maxSteps := 1000000) only [hd, go_sem, reduceCtorEq, ↓reduceIte, Nat.reduceAdd, Nat.reduceEqDiff]
        (refine CallP.pure (c1) (fun _ => rfl) ?_; simp +contextual (maxSteps := 1000000) only [q1, hd2, go_sem, reduceCtorEq, ↓reduceIte, Nat.reduceAdd, Nat.reduceEqDiff, Nat.reduceLeDiff])
        rw [← hQ']
        simp only [w_kIt_n]
        refine ⟨0, i + 1, Wk.perm' ?_ (fun p hp => ?_) (fun t ht => ht), by omega, by omega⟩
        · rw [hw]
          repeat' first | exact AVle.refl _ _ | exact trivial | refine And.intro ?_ ?_ | exact AVle.int (by simp only [IntKind.wrap_i64]; omega)
        · rw [hsu] at hp
          exact hp
      · have hd2 : (numM (i : Int) == m) = false := beq_eq_false_iff_ne.2 hi'
        rw [if_neg hi'] at hsu
        simp +contextual (maxSteps := 1000000) only [hd, go_sem, reduceCtorEq, ↓reduceIte, Nat.reduceAdd, Nat.reduceEqDiff]
        (refine CallP.pure (c1) (fun _ => rfl) ?_; simp +contextual (maxSteps := 1000000) only [q1, hd2, go_sem, reduceCtorEq, ↓reduceIte, Nat.reduceAdd, Nat.reduceEqDiff])
        rw [← hQ']
        simp only [w_kIt_n]
        refine ⟨0, i + 1, Wk.perm' ?_ (fun p hp => ?_) (fun t ht => ht), by omega, by omega⟩
        · rw [hw]
          repeat' first | exact AVle.refl _ _ | exact trivial | refine And.intro ?_ ?_ | exact AVle.int (by simp only [IntKind.wrap_i64]; omega)
        · rw [hsu] at hp
          exact hp
    · have hd : decide ((i : Int) < 12) = false := decide_eq_false (by omega)
      obtain rfl : i = 12 := by omega
      simp +contextual (maxSteps := 1000000) only [hd, go_sem, reduceCtorEq, ↓reduceIte, Nat.reduceAdd, Nat.reduceEqDiff, Int.reduceLT]
      rw [← hQ']
      simp only [w_kIt_e]
      exact hQ _ _
  rw [hz]
  (generalize hQ : (fun (ex : Ex) (_ _ : Nat) (s : St) => _) = Q; unfold ir_mouselike)
  simp +contextual (maxSteps := 1000000) only [q2, q3, go_sem, reduceCtorEq, ↓reduceIte, Nat.reduceAdd, Nat.reduceEqDiff, Nat.reduceLeDiff]
  refine ⟨by omega, by omega, ?_⟩
  by_cases t4 : n / 32 % 2 = 1
  · have p4 : decide (n / 32 % 2 = 1) = true := decide_eq_true t4
    by_cases t3 : fi = 109
    · have p3 : (fi == 109) = true := beq_iff_eq.2 t3
      simp +contextual (maxSteps := 1000000) only [p4, p3, go_sem, reduceCtorEq, ↓reduceIte, Nat.reduceAdd, Nat.reduceEqDiff, Nat.reduceLeDiff]
      refine lp fun γ' c' => ?_
      simp +contextual (maxSteps := 1000000) only [go_sem, reduceCtorEq, ↓reduceIte, Nat.reduceAdd, Nat.reduceEqDiff]
      rw [← hQ, if_pos t3, hmo]
      exact ⟨trivial, Ret.flatT (by simp [resOf, getAll, IRes.get, lf, getH]) rfl⟩
    · have p3 : (fi == 109) = false := beq_eq_false_iff_ne.2 t3
      simp +contextual (maxSteps := 1000000) only [p4, p3, go_sem, reduceCtorEq, ↓reduceIte, Nat.reduceAdd, Nat.reduceEqDiff, Nat.reduceLeDiff]
      refine lp fun γ' c' => ?_
      simp +contextual (maxSteps := 1000000) only [go_sem, reduceCtorEq, ↓reduceIte, Nat.reduceAdd, Nat.reduceEqDiff]
      rw [← hQ, if_neg t3, if_pos t4, hmo]
      exact ⟨trivial, Ret.flatT (by simp [resOf, getAll, IRes.get, lf, getH]) rfl⟩
  · have p4 : decide (n / 32 % 2 = 1) = false := decide_eq_false t4
    by_cases t3 : fi = 109
    · have p3 : (fi == 109) = true := beq_iff_eq.2 t3
      simp +contextual (maxSteps := 1000000) only [p4, p3, go_sem, reduceCtorEq, ↓reduceIte, Nat.reduceAdd, Nat.reduceEqDiff, Nat.reduceLeDiff]
      refine lp fun γ' c' => ?_
      simp +contextual (maxSteps := 1000000) only [go_sem, reduceCtorEq, ↓reduceIte, Nat.reduceAdd, Nat.reduceEqDiff]
      rw [← hQ, if_pos t3, hmo]
      exact ⟨trivial, Ret.flatT (by simp [resOf, getAll, IRes.get, lf, getH]) rfl⟩
    · have p3 : (fi == 109) = false := beq_eq_false_iff_ne.2 t3
      simp +contextual (maxSteps := 1000000) only [p4, p3, go_sem, reduceCtorEq, ↓reduceIte, Nat.reduceAdd, Nat.reduceEqDiff]
      refine lp fun γ' c' => ?_
      simp +contextual (maxSteps := 1000000) only [go_sem, reduceCtorEq, ↓reduceIte, Nat.reduceAdd, Nat.reduceEqDiff]
      rw [← hQ, if_neg t3, if_neg t4, hmo]
      exact ⟨trivial, Ret.flatT (by simp [resOf, getAll, IRes.get, lf, getH]) rfl⟩
def decMV (o : Option Mo) : AV := match o with
  | some e => .tup [.agg (moAV e), .bool true]
  | none => .tup [.agg (moAV zeroM), .bool false]
theorem argW_ge {ps : List (List Int)} {i : Nat} {o : Int} (h : 0 ≤ o) : 0 ≤ argW ps i o := by
  unfold argW
  split
  · split <;> omega
  · exact h
theorem putB_len {s : Sq} (h : mayP s = 0) : 1 ≤ (putB s).length ∧ (putB s).length ≤ 1000000 := by
  have := bodyB_len h
  have hd := (mayF h).dl
  have hil := (mayF h).il
  unfold putB
  repeat' split
  all_goals (simp only [List.length_append, List.length_cons, List.length_nil]; omega)
set_option maxHeartbeats 4000000 in
theorem fs_mDecS {Gl : Gh → Prop} (hst : Stays Gl) {s : Sq} {tb : Option Nm} (hs : mayP s = 0) : FS Tryz.prog Gl 128 [.sl tb 1 (bytesAV (putB s))] [] [] (decMV (decM s)) [] [] := by
  refine FS.args (args' := [.sl none 1 (bytesAV (putB s))]) ?_ ⟨RepLe.anon _ _ _, trivial⟩
  have hfl : (decMV (decM s)).flatT = true := by unfold decMV; split <;> rfl
  refine FS.ofW hm hst is_mouseDecode hfl (by simp) fun γ hγ hfr => ?_
  obtain ⟨t1, t2, t3⟩ := take_may hs []
  rw [List.append_nil] at t1 t2 t3
  have hlen := (putB_len hs).2
  have c1 := fs_wTakeA (Gl := Gl) hst (b := putB s) (tb := none) (by omega) t1
  rw [t3] at c1
  have hcc : s.c = [.int .i64 s.k, .int .u8 s.pr, .sl none 1 (parsAV s.ps), .str s.it, .int .u8 s.fi, .str s.da] := rfl
  rw [hcc] at c1
  have c2 := fun o => fs_wArg (Gl := Gl) hst (k := s.k) (pr := s.pr) (fi := s.fi) (o := o) (ps := s.ps) (it := s.it) (da := s.da) (i := 0)
  have c3 := fun o => fs_wArg (Gl := Gl) hst (k := s.k) (pr := s.pr) (fi := s.fi) (o := o) (ps := s.ps) (it := s.it) (da := s.da) (i := 1)
  have c4 := fun o => fs_wArg (Gl := Gl) hst (k := s.k) (pr := s.pr) (fi := s.fi) (o := o) (ps := s.ps) (it := s.it) (da := s.da) (i := 2)
  have hge := argW_ge (ps := s.ps) (i := 0) (o := 256) (by omega)
  have hz : decM s = if 255 < argW s.ps 0 256 then none
    else if mayM (likeM (argW s.ps 0 256) s.fi (argW s.ps 1 0) (argW s.ps 2 0)) = true ∧ encM 1003 1006 (likeM (argW s.ps 0 256) s.fi (argW s.ps 1 0) (argW s.ps 2 0)) = putB s then some (likeM (argW s.ps 0 256) s.fi (argW s.ps 1 0) (argW s.ps 2 0)) else none := rfl
  have hzm : decMV none = .tup [.agg [.int .i64 0, .int .i64 0, .int .i64 0, .int .i64 0, .int .i64 0], .bool false] := rfl
  have c2 := c2 256
  have c3 := c3 0
  have c4 := c4 0
  generalize argW s.ps 0 256 = n at *
  generalize argW s.ps 1 0 = x at *
  generalize argW s.ps 2 0 = y at *
  by_cases hn : 255 < n
  · have qc : decide (n > 255) = true := decide_eq_true hn
    rw [if_pos hn] at hz
    rw [hz, hzm]
    generalize putB s = bs at *
    generalize parsAV s.ps = rows at *
    (generalize hQ : (fun (ex : Ex) (_ _ : Nat) (s : St) => _) = Q; unfold ir_mouseDecode)
    simp +contextual (maxSteps := 1000000) only [go_sem, reduceCtorEq, ↓reduceIte, Nat.reduceAdd, Nat.reduceEqDiff]
    (refine CallP.pure (c1) (fun _ => rfl) ?_; simp +contextual (maxSteps := 1000000) only [go_sem, reduceCtorEq, ↓reduceIte, Nat.reduceAdd, Nat.reduceEqDiff])
    (refine CallP.pure (c2) (fun _ => rfl) ?_; simp +contextual (maxSteps := 1000000) only [qc, go_sem, reduceCtorEq, ↓reduceIte, Nat.reduceAdd, Nat.reduceEqDiff, Int.reduceBNe])
    rw [← hQ]
    refine ⟨trivial, .inl ⟨_, ?_, RepLe.refl _⟩⟩
    simp [resOf, getAll, IRes.get, lf, getH]
  · have qc : decide (n > 255) = false := decide_eq_false hn
    rw [if_neg hn] at hz
    have c5 := fs_likeM (Gl := Gl) hst (n := n) (fi := s.fi) hge (by omega)
    have hm5 : ∃ bu ty mo : Int, moAV (likeM n s.fi 0 0) = [.int .i64 bu, .int .i64 ty, .int .i64 0, .int .i64 0, .int .i64 mo] ∧ moAV (likeM n s.fi x y) = [.int .i64 bu, .int .i64 ty, .int .i64 x, .int .i64 y, .int .i64 mo] := ⟨_, _, _, rfl, rfl⟩
    obtain ⟨bu, ty, mo, hm5, hm6⟩ := hm5
    rw [hm5] at c5
    have c6 := fs_tMay (Gl := Gl) hst (e := likeM n s.fi x y)
    have c7 := fs_Enc6 (Gl := Gl) hst (mode := 1003) (e := likeM n s.fi x y)
    have c8 := fs_BEqual (Gl := Gl) hst (a := encM 1003 1006 (likeM n s.fi x y)) (b := putB s) (ta := none) (tb := none)
    rw [hm6] at c6 c7
    have hzs : decMV (some (likeM n s.fi x y)) = .tup [.agg [.int .i64 bu, .int .i64 ty, .int .i64 x, .int .i64 y, .int .i64 mo], .bool true] := by
      show AV.tup [.agg (moAV (likeM n s.fi x y)), .bool true] = _
      rw [hm6]
    generalize hmay : mayM (likeM n s.fi x y) = my at *
    generalize encM 1003 1006 (likeM n s.fi x y) = en at *
    generalize likeM n s.fi x y = L at *
    have hrest : ∀ (P : Bool), (my && decide (en = putB s)) = P → decMV (decM s) = if P = true then .tup [.agg [.int .i64 bu, .int .i64 ty, .int .i64 x, .int .i64 y, .int .i64 mo], .bool true] else .tup [.agg [.int .i64 0, .int .i64 0, .int .i64 0, .int .i64 0, .int .i64 0], .bool false] := by
      intro P hP
      cases P with
      | true =>
        rw [Bool.and_eq_true, decide_eq_true_eq] at hP
        rw [hz, if_pos hP, hzs]; rfl
      | false =>
        have : ¬ (my = true ∧ en = putB s) := fun h => by
          rw [h.1, h.2] at hP
          simp at hP
        rw [hz, if_neg this, hzm]; rfl
    generalize hde : decide (en = putB s) = de at *
    generalize putB s = bs at *
    generalize parsAV s.ps = rows at *
    (generalize hQ : (fun (ex : Ex) (_ _ : Nat) (s : St) => _) = Q; unfold ir_mouseDecode)
    simp +contextual (maxSteps := 1000000) only [go_sem, reduceCtorEq, ↓reduceIte, Nat.reduceAdd, Nat.reduceEqDiff]
    (refine CallP.pure (c1) (fun _ => rfl) ?_; simp +contextual (maxSteps := 1000000) only [go_sem, reduceCtorEq, ↓reduceIte, Nat.reduceAdd, Nat.reduceEqDiff])
    (refine CallP.pure (c2) (fun _ => rfl) ?_; simp +contextual (maxSteps := 1000000) only [qc, go_sem, reduceCtorEq, ↓reduceIte, Nat.reduceAdd, Nat.reduceEqDiff, Int.reduceBNe])
    (refine CallP.pure (c5) (fun _ => rfl) ?_; simp +contextual (maxSteps := 1000000) only [go_sem, reduceCtorEq, ↓reduceIte, Nat.reduceAdd, Nat.reduceEqDiff])
    refine kDrwM_of [((γ, 8, 0), .cells [.int .i64 s.k, .int .u8 s.pr, .sl none 1 rows, .str s.it, .int .u8 s.fi, .str s.da]), ((γ, 0, 0), .cells [.int .i64 0, .int .i64 0, .int .i64 0, .int .i64 0, .int .i64 0])] [((γ, 25, 0), .cells [.int .i64 bu, .int .i64 ty, .int .i64 0, .int .i64 0, .int .i64 mo])] (by simp) (by simp) ?_
    simp +contextual (maxSteps := 1000000) only [go_sem, reduceCtorEq, ↓reduceIte, Nat.reduceAdd, Nat.reduceEqDiff]
    refine DCall.new c3 ?_
    simp +contextual (maxSteps := 1000000) only [go_sem, reduceCtorEq, ↓reduceIte, Nat.reduceAdd, Nat.reduceEqDiff]
    refine DCall.new c4 ?_
    simp +contextual (maxSteps := 1000000) only [go_sem, reduceCtorEq, ↓reduceIte, Nat.reduceAdd, Nat.reduceEqDiff, Nat.reduceLeDiff, Nat.reduceBEq]
    refine ⟨by simp, ?_⟩
    cases my with
    | false =>
      (refine CallP.pure (c6) (fun _ => rfl) ?_; simp +contextual (maxSteps := 1000000) only [go_sem, reduceCtorEq, ↓reduceIte, Nat.reduceAdd, Nat.reduceEqDiff])
      rw [← hQ, hrest false (by simp)]
      refine ⟨trivial, .inl ⟨_, ?_, RepLe.refl _⟩⟩
      simp [resOf, getAll, IRes.get, lf, getH]
    | true =>
      (refine CallP.pure (c6) (fun _ => rfl) ?_; simp +contextual (maxSteps := 1000000) only [go_sem, reduceCtorEq, ↓reduceIte, Nat.reduceAdd, Nat.reduceEqDiff])
      (refine CallP.pure (c7) (fun _ => rfl) ?_; simp +contextual (maxSteps := 1000000) only [go_sem, reduceCtorEq, ↓reduceIte, Nat.reduceAdd, Nat.reduceEqDiff])
      cases de with
      | true =>
        (refine CallP.pure (c8) (fun _ => rfl) ?_; simp +contextual (maxSteps := 1000000) only [go_sem, reduceCtorEq, ↓reduceIte, Nat.reduceAdd, Nat.reduceEqDiff])
        rw [← hQ, hrest true (by simp)]
        refine ⟨trivial, .inl ⟨_, ?_, RepLe.refl _⟩⟩
        simp [resOf, getAll, IRes.get, lf, getH]
      | false =>
        (refine CallP.pure (c8) (fun _ => rfl) ?_; simp +contextual (maxSteps := 1000000) only [go_sem, reduceCtorEq, ↓reduceIte, Nat.reduceAdd, Nat.reduceEqDiff])
        rw [← hQ, hrest false (by simp)]
        refine ⟨trivial, .inl ⟨_, ?_, RepLe.refl _⟩⟩
        simp [resOf, getAll, IRes.get, lf, getH]
end Go.Proofs.YtcdkcfpgdbjogaaGreatDoor

namespace Go.Proofs.YtcdkcfpgdbjogaaGreatDoor
open Go Go.Ab
def ir_decodepasted : ICode :=
 (.seq
 (.reg [qA 2 (.box 56 (.c (.agg [(.int .i64 0), (.int .i64 0), (.int .i64 0), (.int .i64 0), (.int .i64 0), (.int .i64 0), (.str []), (.int .i64 0), (.int .i64 0), (.int .i64 0), (.int .i64 0), (.int .i64 0), (.bool false), (.str []), (.int .i64 0), (.int .u8 0), .nils, (.str []), (.int .u8 0), (.str [])]))),
 qA 3 (.mov (qI 0)),
 qA 4 (.mov (qB false))] (some [0,2]))
 (.seq
 (.reg [qM 9 0,
 qA 10 (.call (qC 125) [(.t 9)]),
 qM 8 10,
 qE 11 8 0,
 qE 12 8 1,
 qE 13 8 2,
 qM 5 11,
 qM 6 12,
 qM 7 13] (some [2,5,6,7]))
 (.seq
 (.reg [qM 14 5,
 qA 15 (.b2s (.t 14)),
 qA 16 (.bld [(.int .i64 0), (.int .i64 0), (.int .i64 0), (.int .i64 0), (.int .i64 0), (.int .i64 0), (.str []), (.int .i64 0), (.int .i64 0), (.int .i64 0), (.int .i64 0), (.int .i64 0), (.bool false), (.str []), (.int .i64 0), (.int .u8 0), .nils, (.str []), (.int .u8 0), (.str [])] [(0, 1, (qI 4)), (13, 1, (.t 15))]),
 qM 17 6,
 qM 18 7,
 qN (.st 20 (.t 2) (.t 16)),
 qM 3 17,
 qM 4 18] (some [2,3,4]))
 .ret)))
theorem is_decodepasted : IrOf Tryz.prog 64 19 ir_decodepasted [.cell 2 (some 20), .t 3, .t 4] := ⟨_, Tryz.func64, rfl, by kernel_rfl, by kernel_rfl, by kernel_rfl⟩

def ir_decodelooked : ICode :=
 (.seq
 (.reg [qA 2 (.box 56 (.c (.agg [(.int .i64 0), (.int .i64 0), (.int .i64 0), (.int .i64 0), (.int .i64 0), (.int .i64 0), (.str []), (.int .i64 0), (.int .i64 0), (.int .i64 0), (.int .i64 0), (.int .i64 0), (.bool false), (.str []), (.int .i64 0), (.int .u8 0), .nils, (.str []), (.int .u8 0), (.str [])]))),
 qA 3 (.mov (qI 0)),
 qA 4 (.mov (qB false))] (some [0,2]))
 (.seq
 (.reg [qM 8 0,
 qA 9 (.call (qC 126) [(.t 8)]),
 qM 7 9,
 qE 10 7 0,
 qE 11 7 1,
 qM 5 10,
 qM 6 11] (some [2,5,6]))
 (.seq
 (.reg [qM 12 5,
 qA 13 (.bld [(.int .i64 0), (.int .i64 0), (.int .i64 0), (.int .i64 0), (.int .i64 0), (.int .i64 0), (.str []), (.int .i64 0), (.int .i64 0), (.int .i64 0), (.int .i64 0), (.int .i64 0), (.bool false), (.str []), (.int .i64 0), (.int .u8 0), .nils, (.str []), (.int .u8 0), (.str [])] [(0, 1, (qI 3)), (12, 1, (.t 12))]),
 qM 14 6,
 qN (.st 20 (.t 2) (.t 13)),
 qA 3 (.mov (qI 3)),
 qM 4 14] (some [2,3,4]))
 .ret)))
theorem is_decodelooked : IrOf Tryz.prog 65 15 ir_decodelooked [.cell 2 (some 20), .t 3, .t 4] := ⟨_, Tryz.func65, rfl, by kernel_rfl, by kernel_rfl, by kernel_rfl⟩

def ir_decodepointed : ICode :=
 (.seq
 (.reg [qA 2 (.box 56 (.c (.agg [(.int .i64 0), (.int .i64 0), (.int .i64 0), (.int .i64 0), (.int .i64 0), (.int .i64 0), (.str []), (.int .i64 0), (.int .i64 0), (.int .i64 0), (.int .i64 0), (.int .i64 0), (.bool false), (.str []), (.int .i64 0), (.int .u8 0), .nils, (.str []), (.int .u8 0), (.str [])]))),
 qA 3 (.mov (qI 0)),
 qA 4 (.mov (qB false))] (some [0,2]))
 (.seq
 (.reg [qM 11 0,
 qA 12 (.call (qC 127) [(.t 11)]),
 qM 10 12,
 qE 13 10 0,
 qE 14 10 1,
 qE 15 10 2,
 qA 5 (.box 46 (.c (.agg [(.int .i64 0), (.int .u8 0), .nils, (.str []), (.int .u8 0), (.str [])]))),
 qN (.st 6 (.t 5) (.t 13)),
 qM 6 14,
 qM 7 15] (some [0,2,6]))
 (.seq
 (.reg [qM 17 0,
 qM 18 6,
 qA 19 (.sll 1 (.t 17) none (some (.t 18)) none),
 qA 20 (.call (qC 128) [(.t 19)]),
 qM 16 20,
 qE 21 16 0,
 qE 22 16 1,
 qA 8 (.box 43 (.c (.agg [(.int .i64 0), (.int .i64 0), (.int .i64 0), (.int .i64 0), (.int .i64 0)]))),
 qN (.st 5 (.t 8) (.t 21)),
 qM 9 22] (some [2,6,8,9]))
 (.seq
 (.reg [qA 23 (.ld (some 5) (.t 8)),
 qA 24 (.bld [(.int .i64 0), (.int .i64 0), (.int .i64 0), (.int .i64 0), (.int .i64 0), (.int .i64 0), (.str []), (.int .i64 0), (.int .i64 0), (.int .i64 0), (.int .i64 0), (.int .i64 0), (.bool false), (.str []), (.int .i64 0), (.int .u8 0), .nils, (.str []), (.int .u8 0), (.str [])] [(0, 1, (qI 2)), (7, 5, (.t 23))]),
 qM 25 6,
 qM 26 9,
 qN (.st 20 (.t 2) (.t 24)),
 qM 3 25,
 qM 4 26] (some [2,3,4]))
 .ret))))
theorem is_decodepointed : IrOf Tryz.prog 66 27 ir_decodepointed [.cell 2 (some 20), .t 3, .t 4] := ⟨_, Tryz.func66, rfl, by kernel_rfl, by kernel_rfl, by kernel_rfl⟩

def ir_decodekeyed : ICode :=
 (.seq
 (.reg [qA 2 (.box 56 (.c (.agg [(.int .i64 0), (.int .i64 0), (.int .i64 0), (.int .i64 0), (.int .i64 0), (.int .i64 0), (.str []), (.int .i64 0), (.int .i64 0), (.int .i64 0), (.int .i64 0), (.int .i64 0), (.bool false), (.str []), (.int .i64 0), (.int .u8 0), .nils, (.str []), (.int .u8 0), (.str [])]))),
 qA 3 (.mov (qI 0)),
 qA 4 (.mov (qB false))] (some [0,2]))
 (.seq
 (.reg [qM 15 0,
 qA 16 (.call (qC 127) [(.t 15)]),
 qM 14 16,
 qE 17 14 0,
 qE 18 14 1,
 qE 19 14 2,
 qA 5 (.box 46 (.c (.agg [(.int .i64 0), (.int .u8 0), .nils, (.str []), (.int .u8 0), (.str [])]))),
 qN (.st 6 (.t 5) (.t 17)),
 qM 6 18,
 qM 7 19] (some [0,2,5,6]))
 (.seq
 (.reg [qA 21 (.ld (some 6) (.t 5)),
 qA 22 (.call (qC 130) [(.t 21), (qI 1), (qI 0), (qI 1)]),
 qA 23 (.call (qC 129) [(.t 22)]),
 qM 20 23,
 qE 24 20 0,
 qE 25 20 1,
 qM 8 24,
 qM 9 25] (some [0,2,5,6,8]))
 (.seq
 (.drw [⟨qA 26 (.ld (some 6) (.t 5)), []⟩,
 ⟨qA 27 (.call (qC 131) [(.t 26)]), [0]⟩,
 ⟨qM 28 8, []⟩,
 ⟨qA 29 (.ld (some 6) (.t 5)), []⟩,
 ⟨qA 30 (.call (qC 130) [(.t 29), (qI 1), (qI 1), (qI 1)]), [3,1]⟩,
 ⟨qA 31 (.ld (some 6) (.t 5)), []⟩,
 ⟨qA 32 (.call (qC 130) [(.t 31), (qI 0), (qI 1), (qI 0)]), [5,4]⟩,
 ⟨qA 33 (.ld (some 6) (.t 5)), []⟩,
 ⟨qA 34 (.call (qC 130) [(.t 33), (qI 0), (qI 2), (qI 0)]), [7,6]⟩,
 ⟨qA 35 (.bld [(.int .i64 0), (.int .i64 0), (.int .i64 0), (.int .i64 0), (.int .i64 0), (.str [])] [(0, 1, (.t 27)), (1, 1, (.t 28)), (2, 1, (.t 30)), (3, 1, (.t 32)), (4, 1, (.t 34))]), [1,2,4,6,8]⟩,
 ⟨qA 10 (.box 27 (.c (.agg [(.int .i64 0), (.int .i64 0), (.int .i64 0), (.int .i64 0), (.int .i64 0), (.str [])]))), []⟩]
 [qN (.st 6 (.t 10) (.t 35))] (some [0,2,5,6,10]))
 (.seq
 (.seq
 (.reg [qF 36 2 5,
 qL 37 36,
 qA 38 (.len (.t 37)),
 qA 39 (.bin .gtr .none (.t 38) (qI 2))] (some [0,2,5,6,10,39]))
 (.cond (.t 39)
 (.seq
 (.reg [qF 41 2 5,
 qL 42 41,
 qA 43 (.ia 1 (.t 42) (qI 2)),
 qL 44 43,
 qA 45 (.call (qC 132) [(.t 44)]),
 qM 40 45,
 qE 46 40 0,
 qE 47 40 1,
 qM 11 46,
 qM 12 47] (some [0,2,6,10,11]))
 (.reg [qM 48 11,
 qA 49 (.b2s (.t 48)),
 qF 50 5 10,
 qN (.st 1 (.t 50) (.t 49))] (some [0,2,6,10])))
 .skip))
 (.seq
 (.drw [⟨qA 51 (.ld (some 6) (.t 10)), []⟩,
 ⟨qA 52 (.call (qC 37) [(.t 51)]), [0]⟩,
 ⟨qM 53 52, [1,1]⟩,
 ⟨qG 54 53 true (.ld (some 6) (.t 10)), [2]⟩,
 ⟨qG 55 53 true (.call (qC 18) [(qI 31), (.t 54)]), [3,2,2]⟩,
 ⟨qG 56 53 true (.ld (some 6) (.t 10)), [2]⟩,
 ⟨qG 57 53 true (.bin .eql (.flat [.int, .int, .int, .int, .int, .str]) (.t 55) (.t 56)), [4,5,2]⟩,
 ⟨qA 58 (.pick (.t 53) (.t 57) (qB false)), [2,6]⟩,
 ⟨qM 59 58, [7,4]⟩,
 ⟨qG 60 59 true (.ld (some 6) (.t 10)), [8]⟩,
 ⟨qG 61 59 true (.call (qC 21) [(qI 31), (.t 60)]), [9,8,8]⟩,
 ⟨qG 62 59 true (.mov (.t 0)), [8]⟩,
 ⟨qG 63 59 true (.mov (.t 6)), [8]⟩,
 ⟨qG 64 59 true (.sll 1 (.t 62) none (some (.t 63)) none), [11,12,8]⟩,
 ⟨qG 65 59 true (.call (qC 32) [(.t 61), (.t 64)]), [10,13,10,8]⟩,
 ⟨qA 66 (.pick (.t 59) (.t 65) (qB false)), [8,14]⟩]
 [qM 13 66] (some [2,6,10,13]))
 (.seq
 (.reg [qA 67 (.ld (some 6) (.t 10)),
 qA 68 (.bld [(.int .i64 0), (.int .i64 0), (.int .i64 0), (.int .i64 0), (.int .i64 0), (.int .i64 0), (.str []), (.int .i64 0), (.int .i64 0), (.int .i64 0), (.int .i64 0), (.int .i64 0), (.bool false), (.str []), (.int .i64 0), (.int .u8 0), .nils, (.str []), (.int .u8 0), (.str [])] [(0, 1, (qI 1)), (1, 6, (.t 67))]),
 qM 69 6,
 qM 70 13,
 qN (.st 20 (.t 2) (.t 68)),
 qM 3 69,
 qM 4 70] (some [2,3,4]))
 .ret)))))))
theorem is_decodekeyed : IrOf Tryz.prog 67 71 ir_decodekeyed [.cell 2 (some 20), .t 3, .t 4] := ⟨_, Tryz.func67, rfl, by kernel_rfl, by kernel_rfl, by kernel_rfl⟩

def ir_decodereplied : ICode :=
 (.seq
 (.reg [qA 2 (.box 56 (.c (.agg [(.int .i64 0), (.int .i64 0), (.int .i64 0), (.int .i64 0), (.int .i64 0), (.int .i64 0), (.str []), (.int .i64 0), (.int .i64 0), (.int .i64 0), (.int .i64 0), (.int .i64 0), (.bool false), (.str []), (.int .i64 0), (.int .u8 0), .nils, (.str []), (.int .u8 0), (.str [])]))),
 qA 3 (.mov (qI 0)),
 qA 4 (.mov (qB false))] (some [0,2]))
 (.seq
 (.reg [qM 9 0,
 qA 10 (.call (qC 127) [(.t 9)]),
 qM 8 10,
 qE 11 8 0,
 qE 12 8 1,
 qE 13 8 2,
 qA 5 (.box 46 (.c (.agg [(.int .i64 0), (.int .u8 0), .nils, (.str []), (.int .u8 0), (.str [])]))),
 qN (.st 6 (.t 5) (.t 11)),
 qM 6 12,
 qM 7 13] (some [2,5,6,7]))
 (.seq
 (.reg [qA 14 (.ld (some 6) (.t 5)),
 qA 15 (.bld [(.int .i64 0), (.int .i64 0), (.int .i64 0), (.int .i64 0), (.int .i64 0), (.int .i64 0), (.str []), (.int .i64 0), (.int .i64 0), (.int .i64 0), (.int .i64 0), (.int .i64 0), (.bool false), (.str []), (.int .i64 0), (.int .u8 0), .nils, (.str []), (.int .u8 0), (.str [])] [(0, 1, (qI 5)), (14, 6, (.t 14))]),
 qM 16 6,
 qM 17 7,
 qA 18 (.bin .eql .none (.t 17) (qI 0)),
 qN (.st 20 (.t 2) (.t 15)),
 qM 3 16,
 qM 4 18] (some [2,3,4]))
 .ret)))
theorem is_decodereplied : IrOf Tryz.prog 68 19 ir_decodereplied [.cell 2 (some 20), .t 3, .t 4] := ⟨_, Tryz.func68, rfl, by kernel_rfl, by kernel_rfl, by kernel_rfl⟩

/- clavier/decode.One -/
def ir_decodeOne_l0 : ICode :=
 (.seq
 (.reg [qA 12 (.bin .lss .none (.t 11) (qI 5))] (some [0,2,10,11,12]))
 (.seq
 (.cond (.t 12)
 .skip
 (.exit 0))
 (.seq
 (.blk 1
 (.seq
 (.reg [qA 13 (.ixa 5 1 none (.t 10) (.t 11)),
 qM 6 13] (some [0,2,6,10,11]))
 (.seq
 (.reg [qM 15 6,
 qM 16 0,
 qA 17 (.call (.t 15) [(.t 16)]),
 qM 14 17,
 qE 18 14 0,
 qE 19 14 1,
 qE 20 14 2,
 qA 7 (.box 56 (.c (.agg [(.int .i64 0), (.int .i64 0), (.int .i64 0), (.int .i64 0), (.int .i64 0), (.int .i64 0), (.str []), (.int .i64 0), (.int .i64 0), (.int .i64 0), (.int .i64 0), (.int .i64 0), (.bool false), (.str []), (.int .i64 0), (.int .u8 0), .nils, (.str []), (.int .u8 0), (.str [])]))),
 qN (.st 20 (.t 7) (.t 18)),
 qM 8 19,
 qM 9 20] (some [0,2,7,8,9,10,11]))
 (.seq
 (.reg [qM 21 9] (some [0,2,7,8,10,11,21]))
 (.cond (.t 21)
 (.seq
 (.reg [qA 22 (.ld (some 20) (.t 7)),
 qM 23 8,
 qN (.st 20 (.t 2) (.t 22)),
 qM 3 23,
 qA 4 (.mov (qB true))] (some [2,3,4]))
 .ret)
 .skip)))))
 (.reg [qA 24 (.bin .add .none (.t 11) (qI 1)),
 qM 11 24] (some [0,2,10,11])))))
def ir_decodeOne : ICode :=
 (.seq
 (.reg [qA 2 (.box 56 (.c (.agg [(.int .i64 0), (.int .i64 0), (.int .i64 0), (.int .i64 0), (.int .i64 0), (.int .i64 0), (.str []), (.int .i64 0), (.int .i64 0), (.int .i64 0), (.int .i64 0), (.int .i64 0), (.bool false), (.str []), (.int .i64 0), (.int .u8 0), .nils, (.str []), (.int .u8 0), (.str [])]))),
 qA 3 (.mov (qI 0)),
 qA 4 (.mov (qB false))] (some [0,2]))
 (.seq
 (.seq
 (.reg [qA 10 (.bld [.nilf, .nilf, .nilf, .nilf, .nilf] [(0, 1, (qC 64)), (1, 1, (qC 65)), (2, 1, (qC 66)), (3, 1, (qC 67)), (4, 1, (qC 68))]),
 qA 11 (.mov (qI 0))] (some [0,2,10,11]))
 (.blk 0
 (.loop
 ir_decodeOne_l0)))
 (.seq
 (.reg [qA 25 (.bld [(.int .i64 0), (.int .i64 0), (.int .i64 0), (.int .i64 0), (.int .i64 0), (.int .i64 0), (.str []), (.int .i64 0), (.int .i64 0), (.int .i64 0), (.int .i64 0), (.int .i64 0), (.bool false), (.str []), (.int .i64 0), (.int .u8 0), .nils, (.str []), (.int .u8 0), (.str [])] []),
 qN (.st 20 (.t 2) (.t 25)),
 qA 3 (.mov (qI 0)),
 qA 4 (.mov (qB false))] (some [2,3,4]))
 .ret)))
theorem is_decodeOne : IrOf Tryz.prog 26 26 ir_decodeOne [.cell 2 (some 20), .t 3, .t 4] := ⟨_, Tryz.func26, rfl, by kernel_rfl, by kernel_rfl, by kernel_rfl⟩

theorem nil_is : (∀ r ∈ ([] : List (List AV)), isByte r) = True := by simp
theorem itAV_eq (i : It) : itAV i = [.int .i64 i.kind, .int .i64 i.key.code, .int .i64 i.key.mods, .int .i64 i.key.type, .int .i64 i.key.shifted, .int .i64 i.key.base, .str i.key.text, .int .i64 i.mouse.button, .int .i64 i.mouse.type, .int .i64 i.mouse.x, .int .i64 i.mouse.y, .int .i64 i.mouse.mods, .bool i.inn, .str i.paste, .int .i64 i.reply.k, .int .u8 i.reply.pr, .sl none 1 (parsAV i.reply.ps), .str i.reply.it, .int .u8 i.reply.fi, .str i.reply.da] := rfl
def itAV0 (i : It) : List AV := [.int .i64 i.kind, .int .i64 i.key.code, .int .i64 i.key.mods, .int .i64 i.key.type, .int .i64 i.key.shifted, .int .i64 i.key.base, .str i.key.text, .int .i64 i.mouse.button, .int .i64 i.mouse.type, .int .i64 i.mouse.x, .int .i64 i.mouse.y, .int .i64 i.mouse.mods, .bool i.inn, .str i.paste, .int .i64 0, .int .u8 0, .nils, .str [], .int .u8 0, .str []]
theorem itAV0_le {i : It} (h : i.reply = zeroSq) : LeL (itAV0 i) (itAV i) := by
  rw [itAV_eq, h]
  exact ⟨.refl _, .refl _, .refl _, .refl _, .refl _, .refl _, .refl _, .refl _, .refl _, .refl _, .refl _, .refl _, .refl _, .refl _, .refl _, .refl _, RepLe.nils 1, .refl _, .refl _, .refl _, trivial⟩
theorem tup3_le {xs ys : List AV} (h : LeL xs ys) (n : Int) (b : Bool) : RepLe (.tup [.agg xs, .int .i64 n, .bool b]) (.tup [.agg ys, .int .i64 n, .bool b]) := RepLe.tupL ⟨RepLe.agg h, RepLe.refl _, RepLe.refl _, trivial⟩
theorem fs_pasted {Gl : Gh → Prop} (hst : Stays Gl) {b : List UInt8} (hb : b.length ≤ 1000000000) : FS Tryz.prog Gl 64 [.sl none 1 (bytesAV b)] [] []
    (match pasteT b with
      | some (p, n) => .tup [.agg (itAV { zeroIt with kind := 4, paste := p }), .int .i64 (n : Int), .bool true]
      | none => .tup [.agg (itAV { zeroIt with kind := 4 }), .int .i64 0, .bool false]) [] [] := by
  refine FS.ofW hm hst is_decodepasted (by split <;> rfl) (by simp) fun γ hγ hfr => ?_
  have c1 := fs_pTake (Gl := Gl) hst hb
  unfold pasteTV at c1
  cases hp : pasteT b with
  | none =>
    rw [hp] at c1
    simp only at c1 ⊢
    (generalize hQ : (fun (ex : Ex) (_ _ : Nat) (s : St) => _) = Q; unfold ir_decodepasted)
    simp +contextual (maxSteps := 1000000) only [go_sem, reduceCtorEq, ↓reduceIte, Nat.reduceAdd, Nat.reduceEqDiff]
    (refine CallP.pure (c1) (fun _ => rfl) ?_; simp +contextual (maxSteps := 1000000) only [List.map_nil, nil_is, go_sem, reduceCtorEq, ↓reduceIte, Nat.reduceAdd, Nat.reduceEqDiff, Nat.reduceLeDiff])
    rw [← hQ]
    refine ⟨trivial, .inl ⟨.tup [.agg (itAV0 { zeroIt with kind := 4 }), .int .i64 0, .bool false], ?_, tup3_le (itAV0_le rfl) _ _⟩⟩
    simp [resOf, getAll, IRes.get, lf, getH, itAV0, zeroIt, zeroK, zeroM]
  | some q =>
    obtain ⟨p, n⟩ := q
    rw [hp] at c1
    simp only at c1 ⊢
    (generalize hQ : (fun (ex : Ex) (_ _ : Nat) (s : St) => _) = Q; unfold ir_decodepasted)
    simp +contextual (maxSteps := 1000000) only [go_sem, reduceCtorEq, ↓reduceIte, Nat.reduceAdd, Nat.reduceEqDiff]
    (refine CallP.pure (c1) (fun _ => rfl) ?_; simp +contextual (maxSteps := 1000000) only [bb_un, bb_is, go_sem, reduceCtorEq, ↓reduceIte, Nat.reduceAdd, Nat.reduceEqDiff, Nat.reduceLeDiff])
    rw [← hQ]
    refine ⟨trivial, .inl ⟨.tup [.agg (itAV0 { zeroIt with kind := 4, paste := p }), .int .i64 n, .bool true], ?_, tup3_le (itAV0_le rfl) _ _⟩⟩
    simp [resOf, getAll, IRes.get, lf, getH, itAV0, zeroIt, zeroK, zeroM]
theorem fs_looked {Gl : Gh → Prop} (hst : Stays Gl) {b : List UInt8} : FS Tryz.prog Gl 65 [.sl none 1 (bytesAV b)] [] []
    (.tup [.agg (itAV { zeroIt with kind := 3, inn := decide ([27, 91, 73] <+: b) }), .int .i64 3, .bool (decide ([27, 91, 73] <+: b) || decide ([27, 91, 79] <+: b))]) [] [] := by
  refine FS.ofW hm hst is_decodelooked rfl (by simp) fun γ hγ hfr => ?_
  have c1 := fs_Looked (Gl := Gl) hst (b := b)
  generalize decide ([27, 91, 73] <+: b) = d1 at *
  generalize decide ([27, 91, 79] <+: b) = d2 at *
  (generalize hQ : (fun (ex : Ex) (_ _ : Nat) (s : St) => _) = Q; unfold ir_decodelooked)
  simp +contextual (maxSteps := 1000000) only [go_sem, reduceCtorEq, ↓reduceIte, Nat.reduceAdd, Nat.reduceEqDiff]
  (refine CallP.pure (c1) (fun _ => rfl) ?_; simp +contextual (maxSteps := 1000000) only [go_sem, reduceCtorEq, ↓reduceIte, Nat.reduceAdd, Nat.reduceEqDiff, Nat.reduceLeDiff])
  rw [← hQ]
  refine ⟨trivial, .inl ⟨.tup [.agg (itAV0 { zeroIt with kind := 3, inn := d1 }), .int .i64 3, .bool (d1 || d2)], ?_, tup3_le (itAV0_le rfl) _ _⟩⟩
  simp [resOf, getAll, IRes.get, lf, getH, itAV0, zeroIt, zeroK, zeroM]
theorem fs_pointed {Gl : Gh → Prop} (hst : Stays Gl) {s : Sq} {more : List UInt8} (hs : mayP s = 0) (hb : (putB s ++ more).length ≤ 1000000000) : FS Tryz.prog Gl 66 [.sl none 1 (bytesAV (putB s ++ more))] [] []
    (.tup [.agg (itAV { zeroIt with kind := 2, mouse := (decM s).getD zeroM }), .int .i64 ((putB s).length : Int), .bool (decM s).isSome]) [] [] := by
  refine FS.ofW hm hst is_decodepointed rfl (by simp) fun γ hγ hfr => ?_
  obtain ⟨t1, t2, t3⟩ := take_may hs more
  have c1 := fs_wTakeA (Gl := Gl) hst (b := putB s ++ more) (tb := none) (by omega) t1
  rw [t3] at c1
  have hcc : s.c = [.int .i64 s.k, .int .u8 s.pr, .sl none 1 (parsAV s.ps), .str s.it, .int .u8 s.fi, .str s.da] := rfl
  rw [hcc] at c1
  have c2 := fs_mDecS (Gl := Gl) hst (s := s) (tb := none) hs
  have hlen : (putB s).length ≤ (putB s ++ more).length := by simp
  have htk : (putB s ++ more).take (putB s).length = putB s := by simp
  have hmo : ∀ e : Mo, moAV e = [.int .i64 e.button, .int .i64 e.type, .int .i64 e.x, .int .i64 e.y, .int .i64 e.mods] := fun _ => rfl
  generalize decM s = dm at *
  generalize putB s ++ more = bs at *
  have htk' : (bytesAV bs).take (putB s).length = bytesAV (putB s) := by rw [bytesAV_take, htk]
  generalize putB s = b1 at *
  generalize parsAV s.ps = rows at *
  cases dm with
  | none =>
    simp only [decMV, hmo] at c2
    (generalize hQ : (fun (ex : Ex) (_ _ : Nat) (s : St) => _) = Q; unfold ir_decodepointed)
    simp +contextual (maxSteps := 1000000) only [go_sem, reduceCtorEq, ↓reduceIte, Nat.reduceAdd, Nat.reduceEqDiff]
    (refine CallP.pure (c1) (fun _ => rfl) ?_; simp +contextual (maxSteps := 1000000) only [bytesAV_length', htk', Int.toNat_natCast, Int.toNat_zero, List.drop_zero, go_sem, reduceCtorEq, ↓reduceIte, Nat.reduceAdd, Nat.reduceEqDiff, Int.reduceLE])
    refine ⟨by omega, ?_⟩
    (refine CallP.pure (c2) (fun _ => rfl) ?_; simp +contextual (maxSteps := 1000000) only [go_sem, reduceCtorEq, ↓reduceIte, Nat.reduceAdd, Nat.reduceEqDiff, Nat.reduceLeDiff])
    rw [← hQ]
    refine ⟨trivial, .inl ⟨.tup [.agg (itAV0 { zeroIt with kind := 2, mouse := zeroM }), .int .i64 (b1.length : Int), .bool false], ?_, tup3_le (itAV0_le rfl) _ _⟩⟩
    simp [resOf, getAll, IRes.get, lf, getH, itAV0, zeroIt, zeroK, zeroM]
  | some e =>
    simp only [decMV, hmo] at c2
    (generalize hQ : (fun (ex : Ex) (_ _ : Nat) (s : St) => _) = Q; unfold ir_decodepointed)
    simp +contextual (maxSteps := 1000000) only [go_sem, reduceCtorEq, ↓reduceIte, Nat.reduceAdd, Nat.reduceEqDiff]
    (refine CallP.pure (c1) (fun _ => rfl) ?_; simp +contextual (maxSteps := 1000000) only [bytesAV_length', htk', Int.toNat_natCast, Int.toNat_zero, List.drop_zero, go_sem, reduceCtorEq, ↓reduceIte, Nat.reduceAdd, Nat.reduceEqDiff, Int.reduceLE])
    refine ⟨by omega, ?_⟩
    (refine CallP.pure (c2) (fun _ => rfl) ?_; simp +contextual (maxSteps := 1000000) only [go_sem, reduceCtorEq, ↓reduceIte, Nat.reduceAdd, Nat.reduceEqDiff, Nat.reduceLeDiff])
    rw [← hQ]
    refine ⟨trivial, .inl ⟨.tup [.agg (itAV0 { zeroIt with kind := 2, mouse := e }), .int .i64 (b1.length : Int), .bool true], ?_, tup3_le (itAV0_le rfl) _ _⟩⟩
    simp [resOf, getAll, IRes.get, lf, getH, itAV0, zeroIt, zeroK, zeroM]
theorem fs_replied {Gl : Gh → Prop} (hst : Stays Gl) {s : Sq} {more : List UInt8} (hs : mayP s = 0) (hb : (putB s ++ more).length ≤ 1000000000) : FS Tryz.prog Gl 68 [.sl none 1 (bytesAV (putB s ++ more))] [] []
    (.tup [.agg (itAV { zeroIt with kind := 5, reply := s }), .int .i64 ((putB s).length : Int), .bool true]) [] [] := by
  refine FS.ofW hm hst is_decodereplied rfl (by simp) fun γ hγ hfr => ?_
  obtain ⟨t1, t2, t3⟩ := take_may hs more
  have c1 := fs_wTakeA (Gl := Gl) hst (b := putB s ++ more) (tb := none) (by omega) t1
  rw [t3] at c1
  have hcc : s.c = [.int .i64 s.k, .int .u8 s.pr, .sl none 1 (parsAV s.ps), .str s.it, .int .u8 s.fi, .str s.da] := rfl
  rw [hcc] at c1
  rw [itAV_eq]
  generalize putB s ++ more = bs at *
  simp only [zeroIt, zeroK, zeroM]
  generalize parsAV s.ps = rows at *
  (generalize hQ : (fun (ex : Ex) (_ _ : Nat) (s : St) => _) = Q; unfold ir_decodereplied)
  simp +contextual (maxSteps := 1000000) only [go_sem, reduceCtorEq, ↓reduceIte, Nat.reduceAdd, Nat.reduceEqDiff]
  (refine CallP.pure (c1) (fun _ => rfl) ?_; simp +contextual (maxSteps := 1000000) only [go_sem, reduceCtorEq, ↓reduceIte, Nat.reduceAdd, Nat.reduceEqDiff, Nat.reduceLeDiff])
  rw [← hQ]
  refine ⟨trivial, .inl ⟨_, ?_, RepLe.refl _⟩⟩
  simp [resOf, getAll, IRes.get, lf, getH]
theorem part_range {s : Sq} (hs : mayP s = 0) {i j : Nat} {o : Int} (h0 : 0 ≤ o) (h1 : o ≤ 1114111) : 0 ≤ partW s.ps i j o ∧ partW s.ps i j o ≤ 1114111 := by
  unfold partW
  split
  · exact ⟨h0, h1⟩
  · rename_i p hp
    split
    · exact ⟨h0, h1⟩
    · rename_i n hn
      split
      · exact ⟨h0, h1⟩
      · have := ((parsOk_iff (may_pars hs)).2.2 p (List.mem_of_getElem? hp)).2.2 n (List.mem_of_getElem? hn)
        omega
theorem ofW_range {n : Int} (h : n ≤ 1114111) : 0 ≤ ofW n ∧ ofW n ≤ 255 := by
  unfold ofW
  split <;> omega
theorem textT_len {l : List Int} : (textT l).length ≤ 4 * l.length := by
  unfold textT
  split
  · induction l with
    | nil => simp
    | cons x m ih =>
      have := putU_len x
      rename_i h
      have ih := ih (by rw [List.all_cons, Bool.and_eq_true] at h; exact h.2)
      simp only [List.flatMap_cons, List.length_append, List.length_cons]; omega
  · simp
theorem third_len {s : Sq} (hs : mayP s = 0) : (thirdW textT s.ps).length ≤ 32 ∧ (s.ps.getD 2 []).length ≤ 8 := by
  have h8 : (s.ps.getD 2 []).length ≤ 8 := by
    rw [List.getD_eq_getElem?_getD]
    cases h : s.ps[2]? with
    | none => simp
    | some p => exact ((parsOk_iff (may_pars hs)).2.2 p (List.mem_of_getElem? h)).2.1
  refine ⟨?_, h8⟩
  unfold thirdW
  split
  · have := textT_len (l := s.ps.getD 2 []); omega
  · simp
set_option maxHeartbeats 4000000 in
theorem fs_keyed {Gl : Gh → Prop} (hst : Stays Gl) {s : Sq} {more : List UInt8} (hs : mayP s = 0) (hb : (putB s ++ more).length ≤ 1000000000) : FS Tryz.prog Gl 67 [.sl none 1 (bytesAV (putB s ++ more))] [] []
    (.tup [.agg (itAV { zeroIt with kind := 1, key := guessK textT s }), .int .i64 ((putB s).length : Int), .bool (isK textT s)]) [] [] := by
  refine FS.ofW hm hst is_decodekeyed rfl (by simp) fun γ hγ hfr => ?_
  obtain ⟨t1, t2, t3⟩ := take_may hs more
  have c1 := fs_wTakeA (Gl := Gl) hst (b := putB s ++ more) (tb := none) (by omega) t1
  rw [t3] at c1
  have hcc : s.c = [.int .i64 s.k, .int .u8 s.pr, .sl none 1 (parsAV s.ps), .str s.it, .int .u8 s.fi, .str s.da] := rfl
  have pr10 := part_range hs (i := 1) (j := 0) (o := 1) (by omega) (by omega)
  obtain ⟨th1, th2⟩ := third_len hs
  have c2 := fs_part (Gl := Gl) hst (k := s.k) (pr := s.pr) (fi := s.fi) (o := 1) (ps := s.ps) (it := s.it) (da := s.da) (i := 1) (j := 0)
  have c3 := fs_Of (Gl := Gl) hst (n := partW s.ps 1 0 1) (by omega) (by omega)
  have c4 := fs_codeW (Gl := Gl) hst (s := s)
  have c5 := fs_part (Gl := Gl) hst (k := s.k) (pr := s.pr) (fi := s.fi) (o := 1) (ps := s.ps) (it := s.it) (da := s.da) (i := 1) (j := 1)
  have c6 := fs_part (Gl := Gl) hst (k := s.k) (pr := s.pr) (fi := s.fi) (o := 0) (ps := s.ps) (it := s.it) (da := s.da) (i := 0) (j := 1)
  have c7 := fs_part (Gl := Gl) hst (k := s.k) (pr := s.pr) (fi := s.fi) (o := 0) (ps := s.ps) (it := s.it) (da := s.da) (i := 0) (j := 2)
  have c8 := fs_TextU (Gl := Gl) hst (l := s.ps.getD 2 []) (tl := none) (by omega)
  have or10 := ofW_range (n := partW s.ps 1 0 1) pr10.2
  have hg : kyAV (guessK textT s) = [.int .i64 (codeW s), .int .i64 (ofW (partW s.ps 1 0 1)), .int .i64 (partW s.ps 1 1 1), .int .i64 (partW s.ps 0 1 0), .int .i64 (partW s.ps 0 2 0), .str (thirdW textT s.ps)] := rfl
  have d1 := fs_MayK (Gl := Gl) hst (k := guessK textT s) (by show (thirdW textT s.ps).length ≤ _; omega)
  have d2 := fs_Told (Gl := Gl) hst (fl := 31) (k := guessK textT s) (by omega) (by show ofW (partW s.ps 1 0 1) ≤ _; omega)
  have d3 := fs_Key (Gl := Gl) hst (fl := 31) (k := guessK textT s) (by omega) (by show (thirdW textT s.ps).length ≤ _; omega)
  have d4 := fs_BEqual (Gl := Gl) hst (a := keyK 31 (guessK textT s)) (b := putB s) (ta := none) (tb := none)
  have hlen : (putB s).length ≤ (putB s ++ more).length := by simp
  have htk : (putB s ++ more).take (putB s).length = putB s := by simp
  have hki : isK textT s = ((mayK (guessK textT s) && kyEq (toldK 31 (guessK textT s)) (guessK textT s)) && decide (keyK 31 (guessK textT s) = putB s)) := rfl
  have hkt : kyAV (toldK 31 (guessK textT s)) = [.int .i64 (toldK 31 (guessK textT s)).code, .int .i64 (toldK 31 (guessK textT s)).mods, .int .i64 (toldK 31 (guessK textT s)).type, .int .i64 (toldK 31 (guessK textT s)).shifted, .int .i64 (toldK 31 (guessK textT s)).base, .str (toldK 31 (guessK textT s)).text] := rfl
  have hke : kyEq (toldK 31 (guessK textT s)) (guessK textT s) = (((((((toldK 31 (guessK textT s)).code == codeW s) && ((toldK 31 (guessK textT s)).mods == ofW (partW s.ps 1 0 1))) && ((toldK 31 (guessK textT s)).type == partW s.ps 1 1 1)) && ((toldK 31 (guessK textT s)).shifted == partW s.ps 0 1 0)) && ((toldK 31 (guessK textT s)).base == partW s.ps 0 2 0)) && decide ((toldK 31 (guessK textT s)).text = thirdW textT s.ps)) := rfl
  have hps := parsAV_length s.ps
  have hrow : 2 < s.ps.length → (parsAV s.ps).getD 2 [] = [.sl none 1 (intsAV (s.ps.getD 2 []))] := fun h => by
    rw [List.getD_eq_getElem?_getD, List.getD_eq_getElem?_getD]
    simp [parsAV, h, intsV]
  have htw : thirdW textT s.ps = if 2 < s.ps.length then textT (s.ps.getD 2 []) else [] := rfl
  have hres : LeL (itAV0 { zeroIt with kind := 1, key := guessK textT s }) (itAV { zeroIt with kind := 1, key := guessK textT s }) := itAV0_le rfl
  have hi0 : itAV0 { zeroIt with kind := 1, key := guessK textT s } = [.int .i64 1, .int .i64 (codeW s), .int .i64 (ofW (partW s.ps 1 0 1)), .int .i64 (partW s.ps 1 1 1), .int .i64 (partW s.ps 0 1 0), .int .i64 (partW s.ps 0 2 0), .str (thirdW textT s.ps), .int .i64 0, .int .i64 0, .int .i64 0, .int .i64 0, .int .i64 0, .bool false, .str [], .int .i64 0, .int .u8 0, .nils, .str [], .int .u8 0, .str []] := rfl
  rw [hi0] at hres
  rw [hcc] at c1 c4
  rw [hkt, hg] at d2
  rw [hg] at d1 d3
  rw [hki]
  rw [hke]
  generalize itAV { zeroIt with kind := 1, key := guessK textT s } = it at *
  generalize mayK (guessK textT s) = my at *
  generalize keyK 31 (guessK textT s) = kb at *
  generalize (toldK 31 (guessK textT s)).code = f1 at *
  generalize (toldK 31 (guessK textT s)).mods = f2 at *
  generalize (toldK 31 (guessK textT s)).type = f3 at *
  generalize (toldK 31 (guessK textT s)).shifted = f4 at *
  generalize (toldK 31 (guessK textT s)).base = f5 at *
  generalize (toldK 31 (guessK textT s)).text = f6 at *
  generalize codeW s = cd at *
  generalize ofW (partW s.ps 1 0 1) = g2 at *
  generalize partW s.ps 1 0 1 = p10 at *
  generalize partW s.ps 1 1 1 = g3 at *
  generalize partW s.ps 0 1 0 = g4 at *
  generalize partW s.ps 0 2 0 = g5 at *
  generalize putB s ++ more = bs at *
  have htk' : (bytesAV bs).take (putB s).length = bytesAV (putB s) := by rw [bytesAV_take, htk]
  generalize putB s = b1 at *
  generalize (s.ps.getD 2 []).all isCP = okc at *
  generalize textT (s.ps.getD 2 []) = tx at *
  generalize thirdW textT s.ps = tw at *
  generalize intsAV (s.ps.getD 2 []) = r2 at *
  generalize parsAV s.ps = rows at *
  generalize s.ps.length = nl at *
  generalize heq : ((((((f1 == cd) && (f2 == g2)) && (f3 == g3)) && (f4 == g4)) && (f5 == g5)) && decide (f6 = tw)) = eqb at *
  generalize decide (kb = b1) = deq at *
  (generalize hQ : (fun (ex : Ex) (_ _ : Nat) (s : St) => _) = Q; unfold ir_decodekeyed)
  simp +contextual (maxSteps := 1000000) only [go_sem, reduceCtorEq, ↓reduceIte, Nat.reduceAdd, Nat.reduceEqDiff]
  (refine CallP.pure (c1) (fun _ => rfl) ?_; simp +contextual (maxSteps := 1000000) only [go_sem, reduceCtorEq, ↓reduceIte, Nat.reduceAdd, Nat.reduceEqDiff])
  (refine CallP.pure (c2) (fun _ => rfl) ?_; simp +contextual (maxSteps := 1000000) only [go_sem, ↓reduceIte, Nat.reduceAdd])
  (refine CallP.pure (c3) (fun _ => rfl) ?_; simp +contextual (maxSteps := 1000000) only [go_sem, reduceCtorEq, ↓reduceIte, Nat.reduceAdd, Nat.reduceEqDiff])
  refine DCall.new c4 ?_
  simp +contextual (maxSteps := 1000000) only [go_sem, reduceCtorEq, ↓reduceIte, Nat.reduceAdd, Nat.reduceEqDiff]
  refine DCall.new c5 ?_
  simp +contextual (maxSteps := 1000000) only [go_sem, reduceCtorEq, ↓reduceIte, Nat.reduceAdd, Nat.reduceEqDiff]
  refine DCall.new c6 ?_
  simp +contextual (maxSteps := 1000000) only [go_sem, reduceCtorEq, ↓reduceIte, Nat.reduceAdd, Nat.reduceEqDiff]
  refine DCall.new c7 ?_
  simp +contextual (maxSteps := 1000000) only [go_sem, reduceCtorEq, ↓reduceIte, Nat.reduceAdd, Nat.reduceEqDiff, Nat.reduceLeDiff, Nat.reduceBEq]
  refine ⟨fun p hp => ?_, ?_⟩
  · simp only [List.mem_cons, List.not_mem_nil, or_false] at hp
    rcases hp with rfl | rfl | rfl | rfl | rfl <;> simp [Xev_t, Xev_c, mask_app, upd_app, AV.cells, oneL, AV.one]
  by_cases hn : 2 < nl
  · have q : decide ((nl : Int) > 2) = true := by simp; omega
    have hr := hrow hn
    rw [if_pos hn] at htw
    subst htw
    simp +contextual (maxSteps := 1000000) only [hps, q, hr, go_sem, reduceCtorEq, ↓reduceIte, Nat.reduceAdd, Nat.reduceEqDiff, Int.reduceLE, Int.reduceToNat]
    refine ⟨by omega, ?_⟩
    (refine CallP.pure (c8) (fun _ => rfl) ?_; simp +contextual (maxSteps := 1000000) only [bb_un, bb_is, go_sem, reduceCtorEq, ↓reduceIte, Nat.reduceAdd, Nat.reduceEqDiff])
    refine DCall.new d1 ?_
    cases my with
    | false =>
      simp +contextual (maxSteps := 1000000) only [go_sem, reduceCtorEq, ↓reduceIte, Nat.reduceAdd, Nat.reduceEqDiff, Nat.reduceLeDiff, Nat.reduceBEq]
      rw [← hQ]
      refine ⟨trivial, .inl ⟨_, ?_, tup3_le hres _ _⟩⟩
      simp [resOf, getAll, IRes.get, lf, getH]
    | true =>
      simp +contextual (maxSteps := 1000000) only [go_sem, reduceCtorEq, ↓reduceIte, Nat.reduceAdd, Nat.reduceEqDiff]
      refine DCall.new d2 ?_
      cases eqb with
      | false =>
        simp +contextual (maxSteps := 1000000) only [heq, go_sem, reduceCtorEq, ↓reduceIte, Nat.reduceAdd, Nat.reduceEqDiff, Nat.reduceLeDiff, Nat.reduceBEq]
        rw [← hQ]
        refine ⟨trivial, .inl ⟨_, ?_, tup3_le hres _ _⟩⟩
        simp [resOf, getAll, IRes.get, lf, getH]
      | true =>
        simp +contextual (maxSteps := 1000000) only [heq, go_sem, reduceCtorEq, ↓reduceIte, Nat.reduceAdd, Nat.reduceEqDiff, Nat.reduceBEq]
        refine DCall.new d3 ?_
        simp +contextual (maxSteps := 1000000) only [htk', bytesAV_length', Int.toNat_natCast, Int.toNat_zero, List.drop_zero, go_sem, reduceCtorEq, ↓reduceIte, Nat.reduceAdd, Nat.reduceEqDiff, Nat.reduceBEq, Int.reduceLE]
        refine ⟨by omega, ?_⟩
        refine DCall.new d4 ?_
        simp +contextual (maxSteps := 1000000) only [go_sem, reduceCtorEq, ↓reduceIte, Nat.reduceAdd, Nat.reduceEqDiff, Nat.reduceLeDiff, Nat.reduceBEq]
        rw [← hQ]
        refine ⟨trivial, .inl ⟨_, ?_, tup3_le hres _ _⟩⟩
        simp [resOf, getAll, IRes.get, lf, getH]
  · have q : decide ((nl : Int) > 2) = false := by simp; omega
    rw [if_neg hn] at htw
    subst htw
    simp +contextual (maxSteps := 1000000) only [hps, q, go_sem, reduceCtorEq, ↓reduceIte, Nat.reduceAdd, Nat.reduceEqDiff]
    refine DCall.new d1 ?_
    cases my with
    | false =>
      simp +contextual (maxSteps := 1000000) only [go_sem, reduceCtorEq, ↓reduceIte, Nat.reduceAdd, Nat.reduceEqDiff, Nat.reduceLeDiff, Nat.reduceBEq]
      rw [← hQ]
      refine ⟨trivial, .inl ⟨_, ?_, tup3_le hres _ _⟩⟩
      simp [resOf, getAll, IRes.get, lf, getH]
    | true =>
      simp +contextual (maxSteps := 1000000) only [go_sem, reduceCtorEq, ↓reduceIte, Nat.reduceAdd, Nat.reduceEqDiff]
      refine DCall.new d2 ?_
      cases eqb with
      | false =>
        simp +contextual (maxSteps := 1000000) only [heq, go_sem, reduceCtorEq, ↓reduceIte, Nat.reduceAdd, Nat.reduceEqDiff, Nat.reduceLeDiff, Nat.reduceBEq]
        rw [← hQ]
        refine ⟨trivial, .inl ⟨_, ?_, tup3_le hres _ _⟩⟩
        simp [resOf, getAll, IRes.get, lf, getH]
      | true =>
        simp +contextual (maxSteps := 1000000) only [heq, go_sem, reduceCtorEq, ↓reduceIte, Nat.reduceAdd, Nat.reduceEqDiff, Nat.reduceBEq]
        refine DCall.new d3 ?_
        simp +contextual (maxSteps := 1000000) only [htk', bytesAV_length', Int.toNat_natCast, Int.toNat_zero, List.drop_zero, go_sem, reduceCtorEq, ↓reduceIte, Nat.reduceAdd, Nat.reduceEqDiff, Nat.reduceBEq, Int.reduceLE]
        refine ⟨by omega, ?_⟩
        refine DCall.new d4 ?_
        simp +contextual (maxSteps := 1000000) only [go_sem, reduceCtorEq, ↓reduceIte, Nat.reduceAdd, Nat.reduceEqDiff, Nat.reduceLeDiff, Nat.reduceBEq]
        rw [← hQ]
        refine ⟨trivial, .inl ⟨_, ?_, tup3_le hres _ _⟩⟩
        simp [resOf, getAll, IRes.get, lf, getH]
end Go.Proofs.YtcdkcfpgdbjogaaGreatDoor

namespace Go.Proofs.YtcdkcfpgdbjogaaGreatDoor
open Go Go.Ab

theorem it_len (i : It) : (itAV i).length = 20 := rfl
theorem it_one (i : It) : oneL (itAV i) = True := by
  rw [eq_iff_iff, iff_true]
  simp [itAV_eq, oneL, AV.one]
theorem it_take (i : It) : List.take 20 (itAV i) = itAV i := rfl
set_option maxHeartbeats 8000000 in
theorem fs_OneG {Gl : Gh → Prop} (hst : Stays Gl) {b : List UInt8} {m : Nat} (hm4 : m ≤ 4) {x : Nat → It} {n : Nat → Int}
    (c0 : FS Tryz.prog Gl 64 [.sl none 1 (bytesAV b)] [] [] (.tup [.agg (itAV (x 0)), .int .i64 (n 0), .bool (decide (m = 0))]) [] [])
    (c1 : 0 < m → FS Tryz.prog Gl 65 [.sl none 1 (bytesAV b)] [] [] (.tup [.agg (itAV (x 1)), .int .i64 (n 1), .bool (decide (m = 1))]) [] [])
    (c2 : 1 < m → FS Tryz.prog Gl 66 [.sl none 1 (bytesAV b)] [] [] (.tup [.agg (itAV (x 2)), .int .i64 (n 2), .bool (decide (m = 2))]) [] [])
    (c3 : 2 < m → FS Tryz.prog Gl 67 [.sl none 1 (bytesAV b)] [] [] (.tup [.agg (itAV (x 3)), .int .i64 (n 3), .bool (decide (m = 3))]) [] [])
    (c4 : 3 < m → FS Tryz.prog Gl 68 [.sl none 1 (bytesAV b)] [] [] (.tup [.agg (itAV (x 4)), .int .i64 (n 4), .bool (decide (m = 4))]) [] []) :
    FS Tryz.prog Gl 26 [.sl none 1 (bytesAV b)] [] [] (.tup [.agg (itAV (x m)), .int .i64 (n m), .bool true]) [] [] := by
  refine FS.ofW hm hst is_decodeOne rfl (by simp) fun γ hγ hfr => ?_
  generalize bytesAV b = bs at *
  (generalize hQ : (fun (ex : Ex) (_ _ : Nat) (s : St) => _) = Q; unfold ir_decodeOne)
  simp +contextual (maxSteps := 1000000) only [go_sem, reduceCtorEq, ↓reduceIte, Nat.reduceAdd, Nat.reduceEqDiff, Nat.reduceLeDiff]
  refine kLoop_ix (fun i : Nat => ⟨lf [(0, .sl none 1 bs), (2, .ptr (γ, 0, 0) 0), (10, .agg [.fn (.func 64) [] [], .fn (.func 65) [] [], .fn (.func 66) [] [], .fn (.func 67) [] [], .fn (.func 68) [] []]), (11, .int .i64 (i : Int))], [((γ, 0, 0), .cells [.int .i64 0, .int .i64 0, .int .i64 0, .int .i64 0, .int .i64 0, .int .i64 0, .str [], .int .i64 0, .int .i64 0, .int .i64 0, .int .i64 0, .int .i64 0, .bool false, .str [], .int .i64 0, .int .u8 0, .nils, .str [], .int .u8 0, .str []])], fun x => x ∈ []⟩)
    (fun i => i ≤ m) (fun i => 4 - i) 0 0 (Wk.perm' ?_ (fun p hp => hp) (fun t ht => ht)) (by simp) ?_
  · (simp only [lfOK, upd, initF]; repeat' first | exact AVle.refl _ _ | exact trivial | refine And.intro ?_ ?_ | exact AVle.int (by simp only [IntKind.wrap_i64]; omega))
  rintro γ' i hf hi
  generalize hQ' : kIt _ _ _ _ _ = Q'
  have hrd : ∀ (fid : FuncId) (rest : List AV), [AV.fn (.func 64) [] [], .fn (.func 65) [] [], .fn (.func 66) [] [], .fn (.func 67) [] [], .fn (.func 68) [] []].drop i = .fn (.func fid) [] [] :: rest →
      FS Tryz.prog Gl fid [.sl none 1 bs] [] [] (.tup [.agg (itAV (x i)), .int .i64 (n i), .bool (decide (m = i))]) [] [] →
      aw Tryz.prog Gl ir_decodeOne_l0 γ' 0 ⟨lf [(0, .sl none 1 bs), (2, .ptr (γ, 0, 0) 0), (10, .agg [.fn (.func 64) [] [], .fn (.func 65) [] [], .fn (.func 66) [] [], .fn (.func 67) [] [], .fn (.func 68) [] []]), (11, .int .i64 (i : Int))], [((γ, 0, 0), .cells [.int .i64 0, .int .i64 0, .int .i64 0, .int .i64 0, .int .i64 0, .int .i64 0, .str [], .int .i64 0, .int .i64 0, .int .i64 0, .int .i64 0, .int .i64 0, .bool false, .str [], .int .i64 0, .int .u8 0, .nils, .str [], .int .u8 0, .str []])], fun x => x ∈ []⟩ Q' := by
    intro fid rest hdr c
    have hd : decide ((i : Int) < 5) = true := decide_eq_true (by omega)
    have hw : IntKind.i64.wrap ((i : Int) + 1) = ((i + 1 : Nat) : Int) := by rw [IntKind.wrap_i64]; omega
    have hng : (γ = γ') = False := eq_false fun e => hf.2.1 _ (List.mem_singleton.2 rfl) e
    have hng2 : (γ' = γ) = False := eq_false fun e => hf.2.1 _ (List.mem_singleton.2 rfl) e.symm
    unfold ir_decodeOne_l0
    simp +contextual (maxSteps := 1000000) only [hd, hdr, Int.toNat_natCast, Nat.mul_one, go_sem, reduceCtorEq, ↓reduceIte, Nat.reduceAdd, Nat.reduceEqDiff]
    refine ⟨⟨by omega, by omega⟩, ?_⟩
    by_cases hmi : m = i
    · have hb : decide (m = i) = true := decide_eq_true hmi
      rw [hb] at c
      subst hmi
      have hx : Ab.rn (fun _ => (0, 0, 0)) (.agg (itAV (x m))) = .agg (itAV (x m)) := rfl
      (refine CallP.pure (c) (fun _ => rfl) ?_; simp +contextual (maxSteps := 1000000) only [it_len, it_one, it_take, hng, hng2, false_and, go_sem, reduceCtorEq, ↓reduceIte, Nat.reduceAdd, Nat.reduceEqDiff])
      rw [← hQ']
      simp only [w_kIt_r, w_kBlk_r, w_kSeq_r]
      rw [← hQ]
      refine ⟨trivial, .inl ⟨_, ?_, RepLe.refl _⟩⟩
      simp [resOf, getAll, IRes.get, lf, getH, it_len, it_take]
    · have hb : decide (m = i) = false := decide_eq_false hmi
      rw [hb] at c
      (refine CallP.pure (c) (fun _ => rfl) ?_; simp +contextual (maxSteps := 1000000) only [it_len, it_one, it_take, hng, hng2, false_and, hw, go_sem, reduceCtorEq, ↓reduceIte, Nat.reduceAdd, Nat.reduceEqDiff])
      rw [← hQ']
      simp only [w_kIt_n]
      refine ⟨0, i + 1, Wk.perm' ?_ (fun p hp => List.mem_cons_of_mem _ hp) (fun t ht => ht), by omega, by omega⟩
      repeat' first | exact AVle.refl _ _ | exact trivial | refine And.intro ?_ ?_ | exact AVle.int (by simp only [IntKind.wrap_i64]; omega)
  match i, hi with
  | 0, _ => exact hrd _ _ rfl c0
  | 1, h => exact hrd _ _ rfl (c1 (by omega))
  | 2, h => exact hrd _ _ rfl (c2 (by omega))
  | 3, h => exact hrd _ _ rfl (c3 (by omega))
  | 4, h => exact hrd _ _ rfl (c4 (by omega))
  | i + 5, h => omega
def oneI (s : Sq) : It := if s = lookQ true then { zeroIt with kind := 3, inn := true } else if s = lookQ false then { zeroIt with kind := 3, inn := false } else itemS s
theorem fs_OneS {Gl : Gh → Prop} (hst : Stays Gl) {s : Sq} {more : List UInt8} (hs : mayP s = 0) (hne : s ≠ markQ 200) (hb : (putB s ++ more).length ≤ 1000000000) : FS Tryz.prog Gl 26 [.sl none 1 (bytesAV (putB s ++ more))] [] [] (.tup [.agg (itAV (oneI s)), .int .i64 ((putB s).length : Int), .bool true]) [] [] := by
  have c0 := fs_pasted (Gl := Gl) hst hb
  have hn0 : pasteT (putB s ++ more) = none := pasteT_not fun h => hne (by
    have := first_is hs mark_facts.1.1 more
    rw [mark_facts.1.2, decide_eq_true h] at this
    exact of_decide_eq_true this.symm)
  rw [hn0] at c0
  simp only at c0
  have c1 := fs_looked (Gl := Gl) hst (b := putB s ++ more)
  have p1 := first_is hs (look_facts true).1 more
  have p2 := first_is hs (look_facts false).1 more
  rw [(look_facts true).2] at p1
  rw [(look_facts false).2] at p2
  have p1 : decide ([27, 91, 73] <+: putB s ++ more) = decide (s = lookQ true) := p1
  have p2 : decide ([27, 91, 79] <+: putB s ++ more) = decide (s = lookQ false) := p2
  rw [p1, p2] at c1
  have c2 := fs_pointed (Gl := Gl) hst hs hb
  have c3 := fs_keyed (Gl := Gl) hst hs hb
  have c4 := fs_replied (Gl := Gl) hst hs hb
  obtain ⟨x, hx⟩ : ∃ x : Nat → It, x = fun i => [{ zeroIt with kind := 4 }, { zeroIt with kind := 3, inn := decide (s = lookQ true) }, { zeroIt with kind := 2, mouse := (decM s).getD zeroM }, { zeroIt with kind := 1, key := guessK textT s }].getD i { zeroIt with kind := 5, reply := s } := ⟨_, rfl⟩
  obtain ⟨n, hn⟩ : ∃ n : Nat → Int, n = fun i => [0, 3].getD i ((putB s).length : Int) := ⟨_, rfl⟩
  by_cases h1 : s = lookQ true ∨ s = lookQ false
  · have e1 : (decide (s = lookQ true) || decide (s = lookQ false)) = true := by
      rcases h1 with h | h <;> simp [h]
    have e3 : (putB s).length = 3 := by
      rcases h1 with h | h <;> rw [h, (look_facts _).2] <;> rfl
    rw [e1] at c1
    have := fs_OneG hst (m := 1) (x := x) (n := n) (by omega) (by rw [hx, hn]; exact c0) (fun _ => by rw [hx, hn]; exact c1) (fun h => by omega) (fun h => by omega) (fun h => by omega)
    rw [hx, hn] at this
    have hi : oneI s = { zeroIt with kind := 3, inn := decide (s = lookQ true) } := by
      unfold oneI
      by_cases h : s = lookQ true
      · rw [if_pos h, decide_eq_true h]
      · rw [if_neg h, if_pos (h1.resolve_left h), decide_eq_false h]
    rw [hi, e3]
    exact this
  · have h1' := not_or.1 h1
    have e1 : (decide (s = lookQ true) || decide (s = lookQ false)) = false := by simp [h1'.1, h1'.2]
    rw [e1] at c1
    have hi : oneI s = itemS s := by unfold oneI; rw [if_neg h1'.1, if_neg h1'.2]
    rw [hi]
    unfold itemS
    cases hd : decM s with
    | some e =>
      rw [hd] at c2
      have := fs_OneG hst (m := 2) (x := x) (n := n) (by omega) (by rw [hx, hn]; exact c0) (fun _ => by rw [hx, hn]; exact c1) (fun _ => by rw [hx, hn]; simp only [hd]; exact c2) (fun h => by omega) (fun h => by omega)
      rw [hx, hn] at this
      simp only [hd] at this
      exact this
    | none =>
      rw [hd] at c2
      simp only
      cases hk : isK textT s with
      | true =>
        rw [hk] at c3
        have := fs_OneG hst (m := 3) (x := x) (n := n) (by omega) (by rw [hx, hn]; exact c0) (fun _ => by rw [hx, hn]; exact c1) (fun _ => by rw [hx, hn]; simp only [hd]; exact c2) (fun _ => by rw [hx, hn]; exact c3) (fun h => by omega)
        rw [hx, hn] at this
        exact this
      | false =>
        rw [hk] at c3
        have := fs_OneG hst (m := 4) (x := x) (n := n) (by omega) (by rw [hx, hn]; exact c0) (fun _ => by rw [hx, hn]; exact c1) (fun _ => by rw [hx, hn]; simp only [hd]; exact c2) (fun _ => by rw [hx, hn]; exact c3) (fun _ => by rw [hx, hn]; exact c4)
        rw [hx, hn] at this
        exact this
theorem fs_OneP {Gl : Gh → Prop} (hst : Stays Gl) {p more : List UInt8} (hb : (mark0 ++ pasteC p ++ mark1 ++ more).length ≤ 1000000000) : FS Tryz.prog Gl 26 [.sl none 1 (bytesAV (mark0 ++ pasteC p ++ mark1 ++ more))] [] [] (.tup [.agg (itAV { zeroIt with kind := 4, paste := pasteC p }), .int .i64 (((pasteC p).length + 12 : Nat) : Int), .bool true]) [] [] := by
  have c0 := fs_pasted (Gl := Gl) hst hb
  rw [pasteT_put] at c0
  simp only at c0
  exact fs_OneG hst (m := 0) (x := fun _ => { zeroIt with kind := 4, paste := pasteC p }) (n := fun _ => (((pasteC p).length + 12 : Nat) : Int)) (by omega) c0 (fun h => by omega) (fun h => by omega) (fun h => by omega) (fun h => by omega)
inductive Ch where
  | seq (s : Sq)
  | paste (p : List UInt8)
def Ch.B : Ch → List UInt8
  | .seq s => putB s
  | .paste p => mark0 ++ pasteC p ++ mark1
def Ch.I : Ch → It
  | .seq s => oneI s
  | .paste p => { zeroIt with kind := 4, paste := pasteC p }
def Ch.ok : Ch → Prop
  | .seq s => mayP s = 0 ∧ s ≠ markQ 200
  | .paste _ => True
theorem Ch.pos {c : Ch} (h : c.ok) : 1 ≤ c.B.length := by
  cases c with
  | seq s => exact (putB_len h.1).1
  | paste p => simp [Ch.B, mark0]
theorem fs_OneC {Gl : Gh → Prop} (hst : Stays Gl) {c : Ch} {more : List UInt8} (hc : c.ok) (hb : (c.B ++ more).length ≤ 1000000000) : FS Tryz.prog Gl 26 [.sl none 1 (bytesAV (c.B ++ more))] [] [] (.tup [.agg (itAV c.I), .int .i64 (c.B.length : Int), .bool true]) [] [] := by
  cases c with
  | seq s => exact fs_OneS hst hc.1 hc.2 hb
  | paste p =>
    have := fs_OneP (Gl := Gl) hst hb
    have e : (Ch.paste p).B.length = (pasteC p).length + 12 := by
      simp only [Ch.B, List.length_append, mark0, mark1, List.length_cons, List.length_nil]; omega
    rw [e]
    exact this
end Go.Proofs.YtcdkcfpgdbjogaaGreatDoor

namespace Go.Proofs.YtcdkcfpgdbjogaaGreatDoor
open Go Go.Ab
/- clavier/decode.items$1 -/
def ir_decodeitems1_l0 : ICode :=
 (.seq
 (.seq
 (.reg [qL 6 1,
 qA 7 (.len (.t 6)),
 qA 8 (.bin .gtr .none (.t 7) (qI 0))] (some [0,1,8]))
 (.cond (.t 8)
 .skip
 (.exit 0)))
 (.blk 1
 (.seq
 (.reg [qL 10 1,
 qA 11 (.call (qC 26) [(.t 10)]),
 qM 9 11,
 qE 12 9 0,
 qE 13 9 1,
 qE 14 9 2,
 qA 3 (.box 56 (.c (.agg [(.int .i64 0), (.int .i64 0), (.int .i64 0), (.int .i64 0), (.int .i64 0), (.int .i64 0), (.str []), (.int .i64 0), (.int .i64 0), (.int .i64 0), (.int .i64 0), (.int .i64 0), (.bool false), (.str []), (.int .i64 0), (.int .u8 0), .nils, (.str []), (.int .u8 0), (.str [])]))),
 qN (.st 20 (.t 3) (.t 12)),
 qM 4 13,
 qM 5 14] (some [0,1,3,4,5]))
 (.seq
 (.seq
 (.reg [qM 15 0,
 qA 16 (.ld (some 20) (.t 3)),
 qM 17 5,
 qA 18 (.call (.t 15) [(.t 16), (.t 17)]),
 qA 19 (.un .not (.t 18)),
 qM 20 19,
 qG 21 20 false (.mov (.t 5)),
 qG 22 20 false (.un .not (.t 21)),
 qA 23 (.pick (.t 20) (qB true) (.t 22))] (some [0,1,4,23]))
 (.cond (.t 23)
 .ret
 .skip))
 (.reg [qL 24 1,
 qM 25 4,
 qA 26 (.sll 1 (.t 24) (some (.t 25)) none none),
 qN (.st 1 (.t 1) (.t 26))] (some [0,1]))))))
def ir_decodeitems1 : ICode :=
 (.blk 0
 (.loop
 ir_decodeitems1_l0))
theorem is_decodeitems1 : IrOf Tryz.prog 124 27 ir_decodeitems1 [] := ⟨_, Tryz.func124, rfl, by kernel_rfl, by kernel_rfl, by kernel_rfl⟩

def ir_decodeitems : ICode :=
 (.seq
 (.reg [qA 1 (.box 34 (.t 0)),
 qA 2 (.mov (.c .nilf))] (some [1]))
 (.seq
 (.reg [qA 3 (.mkf (.func 124) [] [(.t 1)]),
 qM 2 3] (some [2]))
 .ret))
theorem is_decodeitems : IrOf Tryz.prog 63 4 ir_decodeitems [.t 2] := ⟨_, Tryz.func63, rfl, by kernel_rfl, by kernel_rfl, by kernel_rfl⟩

/- clavier/decode.All -/
def ir_decodeAll_b0 : ICode :=
 (.blk 1
 (.seq
 (.seq
 (.reg [qM 11 6,
 qA 12 (.un .not (.t 11))] (some [2,3,4,5,12]))
 (.cond (.t 12)
 (.seq
 (.reg [qN (.st 1 (.t 2) (.c .nils)),
 qN (.st 1 (.t 3) (qB false))] (some []))
 .ret)
 .skip))
 (.reg [qL 13 4,
 qA 14 (.ld (some 20) (.t 5)),
 qA 15 (.row 56 20 [(.t 14)]),
 qA 16 (.app 56 20 208 (.t 13) (.t 15)),
 qN (.st 1 (.t 4) (.t 16))] (some []))))
def ir_decodeAll : ICode :=
 (.seq
 (.reg [qA 2 (.box 51 (.c .nils)),
 qA 3 (.box 4 (qB false))] (some [0,2,3]))
 (.seq
 (.reg [qA 4 (.box 51 (.c .nils))] (some [0,2,3,4]))
 (.seq
 (.seq
 (.reg [qM 7 0,
 qA 8 (.call (qC 63) [(.t 7)])] (some [2,3,4,8]))
 (.blk 0
 (.rgf (.t 8) [9, 10]
 (.seq
 (.reg [qA 5 (.box 56 (.c (.agg [(.int .i64 0), (.int .i64 0), (.int .i64 0), (.int .i64 0), (.int .i64 0), (.int .i64 0), (.str []), (.int .i64 0), (.int .i64 0), (.int .i64 0), (.int .i64 0), (.int .i64 0), (.bool false), (.str []), (.int .i64 0), (.int .u8 0), .nils, (.str []), (.int .u8 0), (.str [])]))),
 qN (.st 20 (.t 5) (.t 9))] (some [2,3,4,5,10]))
 (.reg [qM 6 10] (some [2,3,4,5,6])))
 ir_decodeAll_b0)))
 (.seq
 (.reg [qL 17 4,
 qN (.st 1 (.t 2) (.t 17)),
 qN (.st 1 (.t 3) (qB true))] (some [2,3]))
 .ret))))
theorem is_decodeAll : IrOf Tryz.prog 24 18 ir_decodeAll [.cell 2 none, .cell 3 none] := ⟨_, Tryz.func24, rfl, by kernel_rfl, by kernel_rfl, by kernel_rfl⟩

def itemsAV (i : It) : List AV := [.agg (itAV i), .bool true]
theorem flat_len : ∀ {cs : List Ch}, (∀ c ∈ cs, c.ok) → cs.length ≤ (cs.flatMap Ch.B).length
  | [], _ => by simp
  | c :: cs, h => by
    have h1 := Ch.pos (h c (by simp))
    have h2 := flat_len (cs := cs) fun x hx => h x (by simp [hx])
    simp only [List.flatMap_cons, List.length_append, List.length_cons]; omega
theorem it_items {Gl : Gh → Prop} {cs : List Ch} (hok : ∀ c ∈ cs, c.ok) {a : Nm} (hb : (cs.flatMap Ch.B).length ≤ 1000000000) :
    IterS Tryz.prog Gl 124 [.ptr a 0] [(a, .cells [.sl none 1 (bytesAV (cs.flatMap Ch.B))])] (cs.map fun c => itemsAV c.I) := by
  intro Gl' hst hG id J Jx hJid hround H T hJ
  refine FSX.of hm hst is_decodeitems1 (by simp) fun γ hγ hfr => ?_
  (generalize hQ : (fun (ex : Ex) (_ _ : Nat) (s : St) => _) = Q; unfold ir_decodeitems1)
  simp +contextual (maxSteps := 1000000) only [go_sem]
  refine kLoop_ix (fun q : Nat × Hp × Tk => ⟨lf [(0, .yl id), (1, .ptr a 0)], [(a, .cells [.sl none 1 (bytesAV ((cs.drop q.1).flatMap Ch.B))])] ++ q.2.1, q.2.2⟩)
    (fun q => J q.1 q.2.1 q.2.2 ∧ q.1 ≤ cs.length)
    (fun q => cs.length - q.1) 0 (0, H, T) ?_ ⟨hJ, Nat.zero_le _⟩ ?_
  · refine Wk.same ?_
    (simp only [lfOK, upd, initF]; repeat' first | exact AVle.refl _ _ | exact trivial | refine And.intro ?_ ?_ | exact AVle.int (by simp only [IntKind.wrap_i64]; omega))
  · rintro γ' ⟨j, Hj, Tj⟩ hf ⟨hJj, hj⟩
    simp only at hJj hj
    generalize hQ' : kIt _ _ _ _ _ = Q'
    have hap := hJid j Hj Tj hJj
    unfold ir_decodeitems1_l0
    by_cases hlt : j < cs.length
    · have hdr : cs.drop j = cs[j] :: cs.drop (j + 1) := List.drop_eq_getElem_cons hlt
      have hcok := hok cs[j] (List.getElem_mem hlt)
      have hpos := Ch.pos hcok
      have hbl : ((cs.drop j).flatMap Ch.B).length ≤ 1000000000 := by
        have : (cs.flatMap Ch.B).length = ((cs.take j).flatMap Ch.B).length + ((cs.drop j).flatMap Ch.B).length := by
          rw [← List.length_append, ← List.flatMap_append, List.take_append_drop]
        omega
      have hfm : (cs.drop j).flatMap Ch.B = cs[j].B ++ (cs.drop (j + 1)).flatMap Ch.B := by rw [hdr, List.flatMap_cons]
      have c1 := fs_OneC (Gl := Gl') hst (c := cs[j]) (more := (cs.drop (j + 1)).flatMap Ch.B) hcok (by rw [← hfm]; exact hbl)
      rw [← hfm] at c1
      have hll : cs[j].B.length ≤ ((cs.drop j).flatMap Ch.B).length := by rw [hfm, List.length_append]; omega
      have hdd : ((cs.drop j).flatMap Ch.B).drop cs[j].B.length = (cs.drop (j + 1)).flatMap Ch.B := by rw [hfm, List.drop_left]
      have hd : decide ((((cs.drop j).flatMap Ch.B).length : Int) > 0) = true := decide_eq_true (by omega)
      have hit : (cs.map fun c => itemsAV c.I)[j]? = some [.agg (itAV cs[j].I), .bool true] := by
        rw [List.getElem?_map, List.getElem?_eq_getElem hlt]; rfl
      have hround' := hround j _ Hj Tj hit hJj
      generalize (cs.drop j).flatMap Ch.B = bs at *
      generalize cs[j].B = cb at *
      generalize cs[j].I = ci at *
      have hng : (a = ((γ', 9, 0) : Nm)) = False := eq_false fun e => hf.2.1 (a, .cells [.sl none 1 (bytesAV bs)]) (by simp) (by rw [e])
      have hng2 : (((γ', 9, 0) : Nm) = a) = False := eq_false fun e => hf.2.1 (a, .cells [.sl none 1 (bytesAV bs)]) (by simp) (by rw [← e])
      have hs0 : ∀ hb, setH Hj (γ', 9, 0) hb = Hj := fun hb => setH_ne fun q hq e => hf.2.1 q (by simp [hq]) (by rw [e])
      simp +contextual (maxSteps := 1000000) only [hd, bytesAV_length', go_sem, reduceCtorEq, ↓reduceIte, Nat.reduceAdd, Nat.reduceEqDiff]
      (refine CallP.pure (c1) (fun _ => rfl) ?_; simp +contextual (maxSteps := 1000000) only [it_len, it_one, it_take, hng, hng2, hs0, go_sem, reduceCtorEq, ↓reduceIte, Nat.reduceAdd, Nat.reduceEqDiff])
      refine CallY.splitN (Ha := [((γ', 9, 0), .cells (itAV ci)), (a, .cells [.sl none 1 (bytesAV bs)])]) hround' (fun p hp q hq => ?_) fun rv H1 T1 hR hN => ?_
      · simp only [List.mem_cons, List.not_mem_nil, or_false] at hp
        rcases hp with rfl | rfl
        · exact fun e => hf.2.1 q (by simp [hq]) (by rw [e])
        · exact hap (a, .cells [.sl none 1 (bytesAV (cs.flatMap Ch.B))]) (by simp) q hq
      · rcases hR with ⟨rfl, hR⟩ | ⟨rfl, hR⟩
        · have hs1 : ∀ hb, setH H1 a hb = H1 := fun hb => setH_ne fun q hq => hJid _ _ _ hR (a, .cells [.sl none 1 (bytesAV (cs.flatMap Ch.B))]) (by simp) q hq
          simp +contextual (maxSteps := 1000000) only [hng, hng2, hs1, bytesAV_length', bytesAV_take, bytesAV_drop, List.take_length, Int.toNat_natCast, hdd, go_sem, reduceCtorEq, ↓reduceIte, Nat.reduceAdd, Nat.reduceEqDiff]
          refine ⟨⟨by omega, by omega⟩, ?_⟩
          rw [← hQ']
          simp only [w_kIt_n]
          refine ⟨0, (j + 1, H1, T1), Wk.perm ?_ (fun p hp => List.mem_cons_of_mem _ hp), ⟨hR, by simp only; omega⟩, by simp only; omega⟩
          repeat' first | exact AVle.refl _ _ | exact trivial | refine And.intro ?_ ?_ | exact AVle.int (by simp only [IntKind.wrap_i64]; omega)
        · simp +contextual (maxSteps := 1000000) only [go_sem, reduceCtorEq, ↓reduceIte, Nat.reduceAdd, Nat.reduceEqDiff]
          rw [← hQ']
          simp only [w_kIt_r, w_kBlk_r, w_kSeq_r]
          rw [← hQ]
          exact ⟨trivial, H1, T1, .inr hR, fun p hp => by simp [hp], fun t ht => ht⟩
    · have hj0 : j = cs.length := by omega
      subst hj0
      have hd : decide ((((cs.drop cs.length).flatMap Ch.B).length : Int) > 0) = false := by simp
      simp +contextual (maxSteps := 1000000) only [hd, bytesAV_length', go_sem, reduceCtorEq, ↓reduceIte, Nat.reduceAdd, Nat.reduceEqDiff]
      rw [← hQ']
      simp only [w_kIt_e, w_kBlk_e, ↓reduceIte]
      rw [← hQ]
      refine ⟨trivial, Hj, Tj, .inl ?_, fun p hp => by simp [hp], fun t ht => ht⟩
      rw [List.length_map]; exact hJj
theorem fs_items {Gl : Gh → Prop} (hst : Stays Gl) {b : List UInt8} : FS Tryz.prog Gl 63 [.sl none 1 (bytesAV b)] [] [] (.fn (.func 124) [] [.ptr (0, 0, 0) 0]) [((0, 0, 0), .cells [.sl none 1 (bytesAV b)])] [] := by
  refine FS.of hm hst is_decodeitems (by simp) fun γ hγ hfr => ?_
  (generalize hQ : (fun (ex : Ex) (_ _ : Nat) (s : St) => _) = Q; unfold ir_decodeitems)
  simp +contextual (maxSteps := 1000000) only [go_sem, ↓reduceIte, Nat.reduceAdd, Nat.reduceEqDiff]
  rw [← hQ]
  refine ⟨trivial, [(γ, 0, 0)], by simp, by simp, rfl, ?_, by simp, ?_, ?_, by simp⟩
  · simp [rnH, rnN, rnHB, rnL, Ab.rn]
  · simp [AV.okIn, AV.okInL, nmOK]
  · simp [AV.okIn, AV.okInL, nmOK, HB.okIn]
def itsAV (l : List It) : List (List AV) := l.map itAV
theorem it_strip (i : It) : AV.stripL (itAV i) = itAV i := rfl
theorem it_closed (i : It) : AV.closedL (itAV i) = true := rfl
theorem itsAV_snoc (l : List It) (i : It) : itsAV (l ++ [i]) = itsAV l ++ [itAV i] := by simp [itsAV]
set_option maxHeartbeats 4000000 in
theorem fs_dAll {Gl : Gh → Prop} (hst : Stays Gl) {cs : List Ch} (hok : ∀ c ∈ cs, c.ok) (hb : (cs.flatMap Ch.B).length ≤ 1000000000) : FS Tryz.prog Gl 24 [.sl none 1 (bytesAV (cs.flatMap Ch.B))] [] [] (.tup [.sl none 20 (itsAV (cs.map Ch.I)), .bool true]) [] [] := by
  refine FS.ofW hm hst is_decodeAll rfl (by simp) fun γ hγ hfr => ?_
  have hcl := flat_len hok
  (generalize hQ : (fun (ex : Ex) (_ _ : Nat) (s : St) => _) = Q; unfold ir_decodeAll)
  simp +contextual (maxSteps := 1000000) only [go_sem, reduceCtorEq, ↓reduceIte, Nat.reduceAdd, Nat.reduceEqDiff]
  refine CallP.of (fs_items hst (b := cs.flatMap Ch.B)) (by simp) (by simp) ?_
  simp only [rnH, rnN, rnHB, rnL, Ab.rn]
  simp +contextual (maxSteps := 1000000) only [go_sem, reduceCtorEq, ↓reduceIte, Nat.reduceEqDiff]
  refine rgf_of rfl (cs.map fun c => itemsAV c.I)
    (fun i H T => ∃ (tk : Option Nm) (pre : Hp), (tk = none → i = 0) ∧ (∀ x, tk = some x → γ ≤ x.1 ∧ T x) ∧ (∀ q ∈ pre, γ < q.1.1) ∧ H = pre ++ [((γ, 2, 0), .cells [sv tk 20 (itsAV ((cs.take i).map Ch.I))]), ((γ, 1, 0), .cells [.bool false]), ((γ, 0, 0), .cells [.nils])])
    (fun ex H T => False)
    [((γ, 4, 0), .cells [.sl none 1 (bytesAV (cs.flatMap Ch.B))])] [((γ, 2, 0), .cells [.nils]), ((γ, 1, 0), .cells [.bool false]), ((γ, 0, 0), .cells [.nils])] (fun _ => False)
    (it_items hok hb) (by simp) (by simp) (by simp) (by simp) ⟨none, [], by simp, by simp, by simp, rfl⟩ (fun x hx => by obtain ⟨p, _, rfl⟩ := List.mem_map.1 hx; rfl) ?_ ?_ ?_
  · rintro Gl' hst' hG i x H T γ' hx ⟨tk, pre, hk1, hk2, hpre, rfl⟩ hlt hfr'
    simp only [List.getElem?_map, Option.map_eq_some_iff] at hx
    obtain ⟨c, hp, rfl⟩ := hx
    have hit : i < cs.length := (List.getElem?_eq_some_iff.1 hp).1
    have htk : (cs.take (i + 1)).map Ch.I = (cs.take i).map Ch.I ++ [c.I] := by rw [List.take_add_one, hp]; simp
    have hln : (itsAV ((cs.take i).map Ch.I)).length = i := by simp [itsAV]; omega
    generalize hK : kBd _ _ _ = K
    unfold ir_decodeAll_b0
    have hitem : itemsAV c.I = [.agg (itAV c.I), .bool true] := rfl
    have hcI : Ch.I c = c.I := rfl
    generalize c.I = ci at *
    obtain ⟨X, hX⟩ : ∃ X, X = sv tk 20 (itsAV ((cs.take i).map Ch.I)) := ⟨_, rfl⟩
    rw [← hX] at hfr' ⊢
    have hg1 : (γ = γ') = False := by rw [eq_iff_iff, iff_false]; omega
    have hg2 : (γ' = γ) = False := by rw [eq_iff_iff, iff_false]; omega
    have hn : ∀ q ∈ pre ++ [((γ, 2, 0), .cells [X]), ((γ, 1, 0), .cells [.bool false]), ((γ, 0, 0), .cells [.nils])], q.1.1 ≠ γ' := fun q hq => hfr'.1 q hq
    have hs0 : ∀ hb, setH (pre ++ [((γ, 2, 0), .cells [X]), ((γ, 1, 0), .cells [.bool false]), ((γ, 0, 0), .cells [.nils])]) (γ', 0, 0) hb = pre ++ [((γ, 2, 0), .cells [X]), ((γ, 1, 0), .cells [.bool false]), ((γ, 0, 0), .cells [.nils])] := fun hb => setH_ne fun q hq e => hn q hq (by rw [e])
    have hpn : ∀ j : Nat, getH pre (γ, j, 0) = none := fun j => getH_ne fun q hq e => by have := hpre q hq; rw [e] at this; simp only at this; omega
    have hps : ∀ (j : Nat) hb, setH pre (γ, j, 0) hb = pre := fun j hb => setH_ne fun q hq e => by have := hpre q hq; rw [e] at this; simp only at this; omega
    have hr2 : getH (pre ++ [((γ, 2, 0), .cells [X]), ((γ, 1, 0), .cells [.bool false]), ((γ, 0, 0), .cells [.nils])]) (γ, 2, 0) = some (.cells [X]) := by rw [getH_append, hpn]; simp [getH]
    have hs2 : ∀ hb, setH (pre ++ [((γ, 2, 0), .cells [X]), ((γ, 1, 0), .cells [.bool false]), ((γ, 0, 0), .cells [.nils])]) (γ, 2, 0) hb = pre ++ [((γ, 2, 0), hb), ((γ, 1, 0), .cells [.bool false]), ((γ, 0, 0), .cells [.nils])] := fun hb => by rw [setH_append, hps]; simp [setH]
    cases tk with
    | none =>
      obtain rfl := hk1 rfl
      have hX : X = .nils := hX
      subst hX
      simp +contextual (maxSteps := 1000000) only [hitem, it_len, it_one, it_take, it_strip, it_closed, hg1, hg2, false_and, hs0, hr2, hs2, go_sem, reduceCtorEq, ↓reduceIte, Nat.reduceAdd, Nat.reduceEqDiff, Nat.reduceLeDiff, Nat.reduceMul]
      rw [← hK]
      refine ⟨some (γ', 8, 0), ((γ', 0, 0), .cells (itAV ci)) :: pre, by simp, fun x hx => by cases hx; exact ⟨by simp only; omega, by simp⟩, fun q hq => ?_, ?_⟩
      · rcases List.mem_cons.1 hq with rfl | h
        · exact hlt
        · exact hpre q h
      · rw [htk]; simp [itsAV, sv]
    | some t0 =>
      have hX : X = .sl (some t0) 20 (itsAV ((cs.take i).map Ch.I)) := hX
      subst hX
      simp +contextual (maxSteps := 1000000) only [hitem, it_len, it_one, it_take, it_strip, it_closed, hg1, hg2, false_and, hs0, hr2, hs2, go_sem, reduceCtorEq, ↓reduceIte, Nat.reduceAdd, Nat.reduceEqDiff]
      refine ⟨⟨.inr (hk2 t0 rfl).2, by omega⟩, ?_⟩
      rw [← hK]
      refine ⟨some (γ', 8, 0), ((γ', 0, 0), .cells (itAV ci)) :: pre, by simp, fun x hx => by cases hx; exact ⟨by simp only; omega, by simp⟩, fun q hq => ?_, ?_⟩
      · rcases List.mem_cons.1 hq with rfl | h
        · exact hlt
        · exact hpre q h
      · rw [htk, itsAV_snoc]; simp [sv]
  · rintro H1 T1 ⟨tk, pre, hk1, hk2, hpre, rfl⟩
    refine ⟨_, T1, fun p hp => List.mem_append.2 (.inl (List.mem_append.2 (.inr hp))), fun _ h => .inl h, ?_⟩
    rw [List.length_map] at hk1 ⊢
    rw [List.take_length]
    simp +contextual (maxSteps := 1000000) only [go_sem, reduceCtorEq, ↓reduceIte, Nat.reduceAdd, Nat.reduceEqDiff]
    rw [← hQ]
    refine ⟨trivial, .inl ⟨.tup [sv tk 20 (itsAV (cs.map Ch.I)), .bool true], ?_, ?_⟩⟩
    · simp [resOf, getAll, IRes.get, lf, getH]
    · refine RepLe.tup ⟨?_, RepLe.refl _, trivial⟩
      cases tk with
      | none => rw [List.length_eq_zero_iff.1 (hk1 rfl)]; exact RepLe.nils 20
      | some t0 => exact RepLe.anon _ _ _
  · rintro ex H1 T1 h
    exact h.elim
end Go.Proofs.YtcdkcfpgdbjogaaGreatDoor

namespace Go.Proofs.YtcdkcfpgdbjogaaGreatDoor
open Go Go.Ab
def ir_clavierlaw22awake : ICode :=
 (.seq
 (.reg [qA 0 (.mov (qB false))] (some []))
 (.seq
 (.reg [qA 7 (.row 5 1 [(.c (.int .u8 27)), (.c (.int .u8 91)), (.c (.int .u8 57)), (.c (.int .u8 55)), (.c (.int .u8 117)), (.c (.int .u8 27)), (.c (.int .u8 91)), (.c (.int .u8 73))]),
 qA 8 (.cvs (.t 7)),
 qA 9 (.call (qC 24) [(.t 8)]),
 qM 6 9,
 qE 10 6 0,
 qE 11 6 1,
 qM 1 10,
 qM 2 11] (some [1,2]))
 (.seq
 (.reg [qA 13 (.row 5 1 [(.c (.int .u8 27)), (.c (.int .u8 91)), (.c (.int .u8 51)), (.c (.int .u8 59)), (.c (.int .u8 52)), (.c (.int .u8 82))]),
 qA 14 (.cvs (.t 13)),
 qA 15 (.call (qC 26) [(.t 14)]),
 qM 12 15,
 qE 16 12 0,
 qE 17 12 1,
 qE 18 12 2,
 qA 3 (.box 56 (.c (.agg [(.int .i64 0), (.int .i64 0), (.int .i64 0), (.int .i64 0), (.int .i64 0), (.int .i64 0), (.str []), (.int .i64 0), (.int .i64 0), (.int .i64 0), (.int .i64 0), (.int .i64 0), (.bool false), (.str []), (.int .i64 0), (.int .u8 0), .nils, (.str []), (.int .u8 0), (.str [])]))),
 qN (.st 20 (.t 3) (.t 16)),
 qM 4 17,
 qM 5 18] (some [1,2,3,4,5]))
 (.seq
 (.reg [qM 19 2,
 qM 20 19,
 qG 21 20 true (.mov (.t 1)),
 qG 22 20 true (.len (.t 21)),
 qG 23 20 true (.bin .eql .none (.t 22) (qI 2)),
 qA 24 (.pick (.t 20) (.t 23) (qB false)),
 qM 25 24,
 qG 26 25 true (.mov (.t 1)),
 qG 27 25 true (.ia 20 (.t 26) (qI 0)),
 qG 28 25 true (.fa 0 (.t 27)),
 qG 29 25 true (.ld none (.t 28)),
 qG 30 25 true (.bin .eql .none (.t 29) (qI 1)),
 qA 31 (.pick (.t 25) (.t 30) (qB false)),
 qM 32 31,
 qG 33 32 true (.mov (.t 1)),
 qG 34 32 true (.ia 20 (.t 33) (qI 0)),
 qG 35 32 true (.fa 1 (.t 34)),
 qG 36 32 true (.ld (some 6) (.t 35)),
 qG 37 32 true (.bld [(.int .i64 0), (.int .i64 0), (.int .i64 0), (.int .i64 0), (.int .i64 0), (.str [])] [(0, 1, (qI 97)), (2, 1, (qI 1))]),
 qG 38 32 true (.bin .eql (.flat [.int, .int, .int, .int, .int, .str]) (.t 36) (.t 37)),
 qA 39 (.pick (.t 32) (.t 38) (qB false)),
 qM 40 39,
 qG 41 40 true (.mov (.t 1)),
 qG 42 40 true (.ia 20 (.t 41) (qI 1)),
 qG 43 40 true (.fa 0 (.t 42)),
 qG 44 40 true (.ld none (.t 43)),
 qG 45 40 true (.bin .eql .none (.t 44) (qI 3)),
 qA 46 (.pick (.t 40) (.t 45) (qB false)),
 qM 47 46,
 qG 48 47 true (.mov (.t 1)),
 qG 49 47 true (.ia 20 (.t 48) (qI 1)),
 qG 50 47 true (.fa 12 (.t 49)),
 qG 51 47 true (.ld none (.t 50)),
 qA 52 (.pick (.t 47) (.t 51) (qB false)),
 qM 53 52,
 qG 54 53 true (.mov (.t 5)),
 qA 55 (.pick (.t 53) (.t 54) (qB false)),
 qM 56 55,
 qG 57 56 true (.mov (.t 4)),
 qG 58 56 true (.bin .eql .none (.t 57) (qI 6)),
 qA 59 (.pick (.t 56) (.t 58) (qB false)),
 qM 60 59,
 qG 61 60 true (.fa 0 (.t 3)),
 qG 62 60 true (.ld none (.t 61)),
 qG 63 60 true (.bin .eql .none (.t 62) (qI 5)),
 qA 64 (.pick (.t 60) (.t 63) (qB false)),
 qM 0 64] (some [0]))
 .ret))))
theorem is_clavierlaw22awake : IrOf Tryz.prog 17 65 ir_clavierlaw22awake [.t 0] := ⟨_, Tryz.func17, rfl, by kernel_rfl, by kernel_rfl, by kernel_rfl⟩

theorem form_fin : ∀ i : Fin 120, (formK (57344 + (i.val : Int))).2 ≠ 73 ∧ (formK (57344 + (i.val : Int))).2 ≠ 79 ∧ ((formK (57344 + (i.val : Int))).2 = 126 → (formK (57344 + (i.val : Int))).1 ≠ 200) := by decide +kernel
theorem form_not {c : Int} (hk : kindK c ≠ 0) : (formK c).2 ≠ 73 ∧ (formK c).2 ≠ 79 ∧ ((formK c).2 = 126 → (formK c).1 ≠ 200) := by
  rcases formU hk with e | e
  · rw [e]; exact ⟨show (117 : UInt8) ≠ 73 by decide, show (117 : UInt8) ≠ 79 by decide, fun h => absurd h (show ¬ (117 : UInt8) = 126 by decide)⟩
  · have := form_fin ⟨(c - 57344).toNat, by omega⟩
    simp only at this
    rwa [show (57344 : Int) + (((c - 57344).toNat : Nat) : Int) = c by omega] at this
theorem key_not {fl : Int} {k : Ky} (h : MayK k) : keySq fl k ≠ lookQ true ∧ keySq fl k ≠ lookQ false ∧ keySq fl k ≠ markQ 200 := by
  obtain ⟨h1, h2, h3⟩ := form_not h.kind
  have fi : ∀ {t : Sq} {c : UInt8}, keySq fl k = t → t.fi = (c.toNat : Int) → (formK k.code).2 = c := fun {t c} e f => by
    have := congrArg Sq.fi e
    rw [f] at this
    have : ((formK k.code).2.toNat : Int) = (c.toNat : Int) := this
    exact UInt8.toNat_inj.1 (by omega)
  refine ⟨fun e => h1 (fi e rfl), fun e => h2 (fi e rfl), fun e => h3 (fi e rfl) ?_⟩
  have hps := congrArg Sq.ps e
  have hps : trimK [firstK fl k (formK k.code).1 (formK k.code).2.toNat, secondK fl k, thirdK fl k] 3 = [[200]] := hps
  have hp := part3 (firstK fl k (formK k.code).1 (formK k.code).2.toNat) (secondK fl k) (thirdK fl k) 0 0 1 (.inl ⟨rfl, rfl, rfl⟩)
  have hp2 : partW [firstK fl k (formK k.code).1 (formK k.code).2.toNat, secondK fl k, thirdK fl k] 0 0 1 = (formK k.code).1 := (first_parts h).1 1
  rw [hps, hp2] at hp
  exact hp.symm
theorem one_key {fl : Int} {k : Ky} (h : MayK k) (h2 : hasK fl 2 = true) : oneI (keySq fl k) = { zeroIt with kind := 1, key := toldK fl k } := by
  obtain ⟨n1, n2, _⟩ := key_not (fl := fl) h
  unfold oneI
  rw [if_neg n1, if_neg n2]
  unfold itemS
  rw [decM_key h]
  simp only
  rw [if_pos (is_key h h2), guess_key h h2]
theorem one_look (is : Bool) : oneI (lookQ is) = { zeroIt with kind := 3, inn := is } := by
  cases is
  · unfold oneI
    rw [if_neg (by decide), if_pos rfl]
  · unfold oneI
    rw [if_pos rfl]
def kA : Ky := ⟨97, 0, 1, 0, 0, []⟩
theorem kA_may : MayK kA := ⟨by decide +kernel, by decide, by decide, by decide, by decide, .inl rfl, .inl rfl, clean_nil⟩
theorem kA_told : toldK 11 kA = kA := kyEq_iff.1 (by decide +kernel)
theorem kA_put : putB (keySq 11 kA) = [27, 91, 57, 55, 117] := by decide +kernel
def rA : Sq := numSq 1 0 82 [3, 4]
theorem rA_put : mayP rA = 0 ∧ putB rA = [27, 91, 51, 59, 52, 82] := by decide +kernel
theorem rA_code : codeW rA = 57366 := by decide +kernel
theorem rA_one : oneI rA = { zeroIt with kind := 5, reply := rA } := by
  have h1 : decM rA = none := by
    cases hd : decM rA with
    | none => rfl
    | some e =>
      have := congrArg Sq.pr (decM_some rA_put.1 hd).2.2
      simp [rA, exactQ, numSq] at this
  have h2 : isK textT rA = false := by
    cases hk : isK textT rA with
    | false => rfl
    | true =>
      have := congrArg Sq.fi (isK_sq rA_put.1 hk).2.2
      have e : (guessK textT rA).code = 57366 := rA_code
      have : ((formK (guessK textT rA).code).2.toNat : Int) = 82 := this
      rw [e, form_f3] at this
      exact absurd this (by decide)
  unfold oneI
  rw [if_neg (by decide), if_neg (by decide)]
  unfold itemS
  rw [h1]
  simp only
  rw [h2]
  rfl
set_option maxHeartbeats 4000000 in
theorem fs_awake22 {Gl : Gh → Prop} (hst : Stays Gl) : FS Tryz.prog Gl 17 [] [] [] (.bool true) [] [] := by
  refine FS.of hm hst is_clavierlaw22awake (by simp) fun γ hγ hfr => ?_
  have d1 := fs_dAll (Gl := Gl) hst (cs := [Ch.seq (keySq 11 kA), Ch.seq (lookQ true)]) (fun c hc => by
    simp only [List.mem_cons, List.not_mem_nil, or_false] at hc
    rcases hc with rfl | rfl
    · exact ⟨key_may kA_may, (key_not kA_may).2.2⟩
    · exact ⟨(look_facts true).1, by decide⟩) (by
      show (putB (keySq 11 kA) ++ (putB (lookQ true) ++ [])).length ≤ _
      rw [kA_put, (look_facts true).2]; decide)
  have e1 : [Ch.seq (keySq 11 kA), Ch.seq (lookQ true)].flatMap Ch.B = [27, 91, 57, 55, 117, 27, 91, 73] := by
    show putB (keySq 11 kA) ++ (putB (lookQ true) ++ []) = _
    rw [kA_put, (look_facts true).2]; rfl
  have e2 : itsAV ([Ch.seq (keySq 11 kA), Ch.seq (lookQ true)].map Ch.I) = [[.int .i64 1, .int .i64 97, .int .i64 0, .int .i64 1, .int .i64 0, .int .i64 0, .str [], .int .i64 0, .int .i64 0, .int .i64 0, .int .i64 0, .int .i64 0, .bool false, .str [], .int .i64 0, .int .u8 0, .sl none 1 [], .str [], .int .u8 0, .str []], [.int .i64 3, .int .i64 0, .int .i64 0, .int .i64 0, .int .i64 0, .int .i64 0, .str [], .int .i64 0, .int .i64 0, .int .i64 0, .int .i64 0, .int .i64 0, .bool true, .str [], .int .i64 0, .int .u8 0, .sl none 1 [], .str [], .int .u8 0, .str []]] := by
    show [itAV (oneI (keySq 11 kA)), itAV (oneI (lookQ true))] = _
    rw [one_key kA_may (by decide +kernel), one_look, kA_told]
    rfl
  rw [e1, e2] at d1
  have c1 := fun t : Option Nm => d1.args (args := [.sl t 1 [[.int .u8 27], [.int .u8 91], [.int .u8 57], [.int .u8 55], [.int .u8 117], [.int .u8 27], [.int .u8 91], [.int .u8 73]]]) ⟨RepLe.anon' rfl, trivial⟩
  have d2 := fs_OneS (Gl := Gl) hst (s := rA) (more := []) rA_put.1 (by decide) (by rw [rA_put.2]; decide)
  rw [rA_one, List.append_nil, rA_put.2, itAV_eq] at d2
  have c2 := fun t : Option Nm => d2.args (args := [.sl t 1 [[.int .u8 27], [.int .u8 91], [.int .u8 51], [.int .u8 59], [.int .u8 52], [.int .u8 82]]]) ⟨RepLe.anon' rfl, trivial⟩
  simp only [zeroIt, zeroK, zeroM, List.length_cons, List.length_nil] at c2
  clear d1 d2 e1 e2
  generalize parsAV rA.ps = rows at *
  (generalize hQ : (fun (ex : Ex) (_ _ : Nat) (s : St) => _) = Q; unfold ir_clavierlaw22awake)
  simp +contextual (maxSteps := 1000000) only [go_sem, ↓reduceIte, Nat.reduceAdd]
  refine ⟨⟨.inl trivial, by simp⟩, ?_⟩
  (refine CallP.pure (c1 _) (fun _ => rfl) ?_; simp +contextual (maxSteps := 1000000) only [go_sem, ↓reduceIte, Nat.reduceAdd, Nat.reduceEqDiff])
  refine ⟨⟨.inl trivial, by simp⟩, ?_⟩
  (refine CallP.pure (c2 _) (fun _ => rfl) ?_; simp +contextual (maxSteps := 1000000) only [Int.reduceToNat, go_sem, reduceCtorEq, ↓reduceIte, Nat.reduceAdd, Nat.reduceEqDiff, Nat.reduceLeDiff, Int.reduceLT, Int.reduceLE, Int.reduceToNat])
  refine ⟨fun p hp => ?_, ?_⟩
  · simp only [List.mem_cons, List.not_mem_nil, or_false] at hp
    rcases hp with rfl | rfl <;> simp [Xev_t, Xev_c, mask_app, upd_app, AV.cells, oneL, AV.one]
  rw [← hQ]
  exact ⟨trivial, Ret.flat rfl rfl⟩
end Go.Proofs.YtcdkcfpgdbjogaaGreatDoor

namespace Go.Proofs.YtcdkcfpgdbjogaaGreatDoor
open Go Go.Ab
structure ItOk (i : It) : Prop where
  re : i.reply.ok
  km : i.key.mods ≤ 9223372036854775807
  kt : i.key.text.length ≤ maxLen
  pl : i.paste.length ≤ maxLen
end Go.Proofs.YtcdkcfpgdbjogaaGreatDoor

namespace Go.Proofs.YtcdkcfpgdbjogaaGreatDoor
open Go Go.Ab
def ir_clavierlaw22few : ICode :=
 (.seq
 (.reg [qA 1 (.box 48 (.t 0)),
 qA 2 (.mov (qB false))] (some [1]))
 (.seq
 (.reg [qF 3 1 1,
 qF 4 5 3,
 qL 5 4,
 qA 6 (.lns (.t 5)),
 qA 7 (.bin .leq .none (.t 6) (qI 100)),
 qM 8 7,
 qG 9 8 true (.fa 13 (.t 1)),
 qG 10 8 true (.ld none (.t 9)),
 qG 11 8 true (.lns (.t 10)),
 qG 12 8 true (.bin .leq .none (.t 11) (qI 100)),
 qA 13 (.pick (.t 8) (.t 12) (qB false)),
 qM 14 13,
 qG 15 14 true (.fa 14 (.t 1)),
 qG 16 14 true (.fa 5 (.t 15)),
 qG 17 14 true (.ld none (.t 16)),
 qG 18 14 true (.lns (.t 17)),
 qG 19 14 true (.bin .leq .none (.t 18) (qI 100)),
 qA 20 (.pick (.t 14) (.t 19) (qB false)),
 qM 21 20,
 qG 22 21 true (.fa 14 (.t 1)),
 qG 23 21 true (.fa 2 (.t 22)),
 qG 24 21 true (.ld none (.t 23)),
 qG 25 21 true (.len (.t 24)),
 qG 26 21 true (.bin .leq .none (.t 25) (qI 20)),
 qA 27 (.pick (.t 21) (.t 26) (qB false)),
 qM 28 27,
 qG 29 28 true (.fa 14 (.t 1)),
 qG 30 28 true (.fa 3 (.t 29)),
 qG 31 28 true (.ld none (.t 30)),
 qG 32 28 true (.lns (.t 31)),
 qG 33 28 true (.bin .leq .none (.t 32) (qI 10)),
 qA 34 (.pick (.t 28) (.t 33) (qB false)),
 qM 2 34] (some [2]))
 .ret))
theorem is_clavierlaw22few : IrOf Tryz.prog 22 35 ir_clavierlaw22few [.t 2] := ⟨_, Tryz.func22, rfl, by kernel_rfl, by kernel_rfl, by kernel_rfl⟩

def ir_clavierlaw22made : ICode :=
 (.seq
 (.reg [qA 1 (.box 48 (.t 0)),
 qA 2 (.box 56 (.c (.agg [(.int .i64 0), (.int .i64 0), (.int .i64 0), (.int .i64 0), (.int .i64 0), (.int .i64 0), (.str []), (.int .i64 0), (.int .i64 0), (.int .i64 0), (.int .i64 0), (.int .i64 0), (.bool false), (.str []), (.int .i64 0), (.int .u8 0), .nils, (.str []), (.int .u8 0), (.str [])])))] (some [1,2]))
 (.seq
 (.reg [qF 3 0 1,
 qL 4 3,
 qF 5 1 1,
 qA 6 (.ld (some 6) (.t 5)),
 qF 7 7 1,
 qA 8 (.ld (some 5) (.t 7)),
 qF 9 12 1,
 qL 10 9,
 qF 11 13 1,
 qL 12 11,
 qF 13 14 1,
 qA 14 (.ld (some 6) (.t 13)),
 qA 15 (.bld [(.int .i64 0), (.int .i64 0), (.int .i64 0), (.int .i64 0), (.int .i64 0), (.int .i64 0), (.str []), (.int .i64 0), (.int .i64 0), (.int .i64 0), (.int .i64 0), (.int .i64 0), (.bool false), (.str []), (.int .i64 0), (.int .u8 0), .nils, (.str []), (.int .u8 0), (.str [])] [(0, 1, (.t 4)), (1, 6, (.t 6)), (7, 5, (.t 8)), (12, 1, (.t 10)), (13, 1, (.t 12)), (14, 6, (.t 14))]),
 qN (.st 20 (.t 2) (.t 15))] (some [2]))
 .ret))
theorem is_clavierlaw22made : IrOf Tryz.prog 28 16 ir_clavierlaw22made [.cell 2 (some 20)] := ⟨_, Tryz.func28, rfl, by kernel_rfl, by kernel_rfl, by kernel_rfl⟩

def ir_decodeSame : ICode :=
 (.seq
 (.reg [qA 2 (.box 56 (.t 0)),
 qA 3 (.box 56 (.t 1)),
 qA 4 (.mov (qB false))] (some [2,3]))
 (.seq
 (.reg [qF 6 0 2,
 qL 7 6,
 qF 8 0 3,
 qL 9 8,
 qA 10 (.bin .eql .none (.t 7) (.t 9)),
 qM 11 10,
 qG 12 11 true (.fa 1 (.t 2)),
 qG 13 11 true (.ld (some 6) (.t 12)),
 qG 14 11 true (.fa 1 (.t 3)),
 qG 15 11 true (.ld (some 6) (.t 14)),
 qG 16 11 true (.bin .eql (.flat [.int, .int, .int, .int, .int, .str]) (.t 13) (.t 15)),
 qA 17 (.pick (.t 11) (.t 16) (qB false)),
 qM 18 17,
 qG 19 18 true (.fa 7 (.t 2)),
 qG 20 18 true (.ld (some 5) (.t 19)),
 qG 21 18 true (.fa 7 (.t 3)),
 qG 22 18 true (.ld (some 5) (.t 21)),
 qG 23 18 true (.bin .eql (.flat [.int, .int, .int, .int, .int]) (.t 20) (.t 22)),
 qA 24 (.pick (.t 18) (.t 23) (qB false)),
 qM 5 24] (some [2,3,5]))
 (.seq
 (.reg [qM 25 5,
 qM 26 25,
 qG 27 26 true (.fa 12 (.t 2)),
 qG 28 26 true (.ld none (.t 27)),
 qG 29 26 true (.fa 12 (.t 3)),
 qG 30 26 true (.ld none (.t 29)),
 qG 31 26 true (.bin .eql .bool (.t 28) (.t 30)),
 qA 32 (.pick (.t 26) (.t 31) (qB false)),
 qM 33 32,
 qG 34 33 true (.fa 13 (.t 2)),
 qG 35 33 true (.ld none (.t 34)),
 qG 36 33 true (.fa 13 (.t 3)),
 qG 37 33 true (.ld none (.t 36)),
 qG 38 33 true (.bin .eql .none (.t 35) (.t 37)),
 qA 39 (.pick (.t 33) (.t 38) (qB false)),
 qM 40 39,
 qG 41 40 true (.fa 14 (.t 2)),
 qG 42 40 true (.ld (some 6) (.t 41)),
 qG 43 40 true (.fa 14 (.t 3)),
 qG 44 40 true (.ld (some 6) (.t 43)),
 qG 45 40 true (.call (qC 69) [(.t 42), (.t 44)]),
 qA 46 (.pick (.t 40) (.t 45) (qB false)),
 qM 4 46] (some [4]))
 .ret)))
theorem is_decodeSame : IrOf Tryz.prog 27 47 ir_decodeSame [.t 4] := ⟨_, Tryz.func27, rfl, by kernel_rfl, by kernel_rfl, by kernel_rfl⟩

def ir_clavierref22Same : ICode :=
 (.seq
 (.reg [qA 2 (.box 48 (.t 0)),
 qA 3 (.box 48 (.t 1)),
 qA 4 (.mov (qB false))] (some [2,3]))
 (.seq
 (.reg [qF 5 0 2,
 qL 6 5,
 qF 7 0 3,
 qL 8 7,
 qA 9 (.bin .eql .none (.t 6) (.t 8)),
 qM 10 9,
 qG 11 10 true (.fa 1 (.t 2)),
 qG 12 10 true (.ld (some 6) (.t 11)),
 qG 13 10 true (.fa 1 (.t 3)),
 qG 14 10 true (.ld (some 6) (.t 13)),
 qG 15 10 true (.bin .eql (.flat [.int, .int, .int, .int, .int, .str]) (.t 12) (.t 14)),
 qA 16 (.pick (.t 10) (.t 15) (qB false)),
 qM 17 16,
 qG 18 17 true (.fa 7 (.t 2)),
 qG 19 17 true (.ld (some 5) (.t 18)),
 qG 20 17 true (.fa 7 (.t 3)),
 qG 21 17 true (.ld (some 5) (.t 20)),
 qG 22 17 true (.bin .eql (.flat [.int, .int, .int, .int, .int]) (.t 19) (.t 21)),
 qA 23 (.pick (.t 17) (.t 22) (qB false)),
 qM 24 23,
 qG 25 24 true (.fa 12 (.t 2)),
 qG 26 24 true (.ld none (.t 25)),
 qG 27 24 true (.fa 12 (.t 3)),
 qG 28 24 true (.ld none (.t 27)),
 qG 29 24 true (.bin .eql .bool (.t 26) (.t 28)),
 qA 30 (.pick (.t 24) (.t 29) (qB false)),
 qM 31 30,
 qG 32 31 true (.fa 13 (.t 2)),
 qG 33 31 true (.ld none (.t 32)),
 qG 34 31 true (.fa 13 (.t 3)),
 qG 35 31 true (.ld none (.t 34)),
 qG 36 31 true (.bin .eql .none (.t 33) (.t 35)),
 qA 37 (.pick (.t 31) (.t 36) (qB false)),
 qM 38 37,
 qG 39 38 true (.fa 14 (.t 2)),
 qG 40 38 true (.ld (some 6) (.t 39)),
 qG 41 38 true (.fa 14 (.t 3)),
 qG 42 38 true (.ld (some 6) (.t 41)),
 qG 43 38 true (.call (qC 70) [(.t 40), (.t 42)]),
 qA 44 (.pick (.t 38) (.t 43) (qB false)),
 qM 4 44] (some [4]))
 .ret))
theorem is_clavierref22Same : IrOf Tryz.prog 29 45 ir_clavierref22Same [.t 4] := ⟨_, Tryz.func29, rfl, by kernel_rfl, by kernel_rfl, by kernel_rfl⟩

def ir_clavierlaw22DecodeSame : ICode :=
 (.seq
 (.reg [qA 2 (.box 48 (.t 0)),
 qA 3 (.box 48 (.t 1)),
 qA 4 (.mov (qB false))] (some [2,3]))
 (.seq
 (.reg [qA 6 (.call (qC 17) []),
 qM 5 6] (some [2,3,5]))
 (.seq
 (.seq
 (.reg [qA 7 (.ld (some 20) (.t 2)),
 qA 8 (.call (qC 22) [(.t 7)]),
 qA 9 (.un .not (.t 8)),
 qM 10 9,
 qG 11 10 false (.ld (some 20) (.t 3)),
 qG 12 10 false (.call (qC 22) [(.t 11)]),
 qG 13 10 false (.un .not (.t 12)),
 qA 14 (.pick (.t 10) (qB true) (.t 13))] (some [2,3,5,14]))
 (.cond (.t 14)
 (.seq
 (.reg [qM 15 5,
 qM 4 15] (some [4]))
 .ret)
 .skip))
 (.seq
 (.drw [⟨qM 16 5, []⟩,
 ⟨qM 17 16, [0]⟩,
 ⟨qG 18 17 true (.ld (some 20) (.t 2)), [1]⟩,
 ⟨qG 19 17 true (.call (qC 28) [(.t 18)]), [2,1,1]⟩,
 ⟨qG 20 17 true (.ld (some 20) (.t 3)), [1]⟩,
 ⟨qG 21 17 true (.call (qC 28) [(.t 20)]), [4,3,1]⟩,
 ⟨qG 22 17 true (.call (qC 27) [(.t 19), (.t 21)]), [3,5,5,1]⟩,
 ⟨qG 23 17 true (.ld (some 20) (.t 2)), [1]⟩,
 ⟨qG 24 17 true (.ld (some 20) (.t 3)), [1]⟩,
 ⟨qG 25 17 true (.call (qC 29) [(.t 23), (.t 24)]), [7,8,6,1]⟩,
 ⟨qG 26 17 true (.bin .eql .bool (.t 22) (.t 25)), [6,9,1]⟩,
 ⟨qA 27 (.pick (.t 17) (.t 26) (qB false)), [1,10]⟩,
 ⟨qM 28 27, [11,9]⟩,
 ⟨qG 29 28 true (.ld (some 20) (.t 2)), [12]⟩,
 ⟨qG 30 28 true (.call (qC 28) [(.t 29)]), [13,12,12]⟩,
 ⟨qG 31 28 true (.ld (some 20) (.t 2)), [12]⟩,
 ⟨qG 32 28 true (.call (qC 28) [(.t 31)]), [15,14,12]⟩,
 ⟨qG 33 28 true (.call (qC 27) [(.t 30), (.t 32)]), [14,16,16,12]⟩,
 ⟨qA 34 (.pick (.t 28) (.t 33) (qB false)), [12,17]⟩]
 [qM 4 34] (some [4]))
 .ret))))
theorem is_clavierlaw22DecodeSame : IrOf Tryz.prog 9 35 ir_clavierlaw22DecodeSame [.t 4] := ⟨_, Tryz.func9, rfl, by kernel_rfl, by kernel_rfl, by kernel_rfl⟩

def fewI (i : It) : Bool := (((decide ((i.key.text.length : Int) ≤ 100) && decide ((i.paste.length : Int) ≤ 100)) && decide ((i.reply.da.length : Int) ≤ 100)) && decide ((i.reply.ps.length : Int) ≤ 20)) && decide ((i.reply.it.length : Int) ≤ 10)
theorem fs_few22 {Gl : Gh → Prop} (hst : Stays Gl) {i : It} : FS Tryz.prog Gl 22 [.agg (itAV i)] [] [] (.bool (fewI i)) [] [] := by
  refine FS.of hm hst is_clavierlaw22few (by simp) fun γ hγ hfr => ?_
  have hz : fewI i = ((((decide ((i.key.text.length : Int) ≤ 100) && decide ((i.paste.length : Int) ≤ 100)) && decide ((i.reply.da.length : Int) ≤ 100)) && decide ((i.reply.ps.length : Int) ≤ 20)) && decide ((i.reply.it.length : Int) ≤ 10)) := rfl
  rw [itAV_eq, hz]
  (generalize hQ : (fun (ex : Ex) (_ _ : Nat) (s : St) => _) = Q; unfold ir_clavierlaw22few)
  simp +contextual (maxSteps := 1000000) only [parsAV_length, go_sem, reduceCtorEq, ↓reduceIte, Nat.reduceAdd, Nat.reduceEqDiff]
  rw [← hQ]
  exact ⟨trivial, Ret.flat rfl rfl⟩
theorem fs_made22 {Gl : Gh → Prop} (hst : Stays Gl) {i : It} : FS Tryz.prog Gl 28 [.agg (itAV i)] [] [] (.agg (itAV i)) [] [] := by
  refine FS.ofW hm hst is_clavierlaw22made rfl (by simp) fun γ hγ hfr => ?_
  rw [itAV_eq]
  generalize parsAV i.reply.ps = rows at *
  (generalize hQ : (fun (ex : Ex) (_ _ : Nat) (s : St) => _) = Q; unfold ir_clavierlaw22made)
  simp +contextual (maxSteps := 1000000) only [go_sem, reduceCtorEq, ↓reduceIte, Nat.reduceAdd, Nat.reduceEqDiff, Nat.reduceLeDiff]
  rw [← hQ]
  refine ⟨trivial, .inl ⟨_, ?_, RepLe.refl _⟩⟩
  simp [resOf, getAll, IRes.get, lf, getH]
def moEq (a b : Mo) : Bool := ((((a.button == b.button) && (a.type == b.type)) && (a.x == b.x)) && (a.y == b.y)) && (a.mods == b.mods)
def itEq (a b : It) : Bool := (((((a.kind == b.kind) && kyEq a.key b.key) && moEq a.mouse b.mouse) && (a.inn == b.inn)) && decide (a.paste = b.paste)) && decide (a.reply = b.reply)
theorem itEq_self (a : It) : itEq a a = true := by
  simp [itEq, kyEq, moEq]
theorem fs_dSame {Gl : Gh → Prop} (hst : Stays Gl) {a b : It} (ha : a.reply.szP) (hb : b.reply.szP) : FS Tryz.prog Gl 27 [.agg (itAV a), .agg (itAV b)] [] [] (.bool (itEq a b)) [] [] := by
  refine FS.of hm hst is_decodeSame (by simp) fun γ hγ hfr => ?_
  have c1 := fs_wSame (Gl := Gl) hst ha hb
  have hk : kyEq a.key b.key = ((((((a.key.code == b.key.code) && (a.key.mods == b.key.mods)) && (a.key.type == b.key.type)) && (a.key.shifted == b.key.shifted)) && (a.key.base == b.key.base)) && decide (a.key.text = b.key.text)) := rfl
  have hmo : moEq a.mouse b.mouse = (((((a.mouse.button == b.mouse.button) && (a.mouse.type == b.mouse.type)) && (a.mouse.x == b.mouse.x)) && (a.mouse.y == b.mouse.y)) && (a.mouse.mods == b.mouse.mods)) := rfl
  have hz : itEq a b = ((((((a.kind == b.kind) && kyEq a.key b.key) && moEq a.mouse b.mouse) && (a.inn == b.inn)) && decide (a.paste = b.paste)) && decide (a.reply = b.reply)) := rfl
  have hca : a.reply.c = [.int .i64 a.reply.k, .int .u8 a.reply.pr, .sl none 1 (parsAV a.reply.ps), .str a.reply.it, .int .u8 a.reply.fi, .str a.reply.da] := rfl
  have hcb : b.reply.c = [.int .i64 b.reply.k, .int .u8 b.reply.pr, .sl none 1 (parsAV b.reply.ps), .str b.reply.it, .int .u8 b.reply.fi, .str b.reply.da] := rfl
  rw [hca, hcb] at c1
  rw [itAV_eq, itAV_eq, hz, hk, hmo]
  generalize parsAV a.reply.ps = ra at *
  generalize parsAV b.reply.ps = rb at *
  generalize decide (a.reply = b.reply) = dr at *
  (generalize hQ : (fun (ex : Ex) (_ _ : Nat) (s : St) => _) = Q; unfold ir_decodeSame)
  simp +contextual (maxSteps := 1000000) only [go_sem, reduceCtorEq, ↓reduceIte, Nat.reduceAdd, Nat.reduceEqDiff, Nat.reduceLeDiff]
  (refine kGc_call (c1) (fun _ => rfl) (fun hgc => ?_) ?_; (focus (first | (rw [Bool.not_eq_true'] at hgc; simp only [List.map_cons, List.map_nil, List.nil_append, List.append_nil, List.cons_append, Xev_t, Xev_c, upd_app, lf_cons, lf_nil, Nat.reduceEqDiff, ↓reduceIte, hgc, Bool.false_eq_true, Bool.true_eq_false, reduceCtorEq]; done) | (simp only [List.map_cons, List.map_nil, List.nil_append, List.append_nil, List.cons_append, Xev_t, Xev_c, upd_app, lf_cons, lf_nil, Nat.reduceEqDiff, ↓reduceIte, hgc, Bool.false_eq_true, Bool.true_eq_false, reduceCtorEq]; done) | (revert hgc; simp +contextual [Xev_t, Xev_c, upd_app, lf_cons, lf_nil]; done) | simp [Xev_t, Xev_c, upd_app, lf_cons, lf_nil])); simp +contextual (maxSteps := 1000000) only [go_sem, ↓reduceIte, Nat.reduceAdd, Nat.reduceEqDiff])
  all_goals
    rw [← hQ]
    exact ⟨trivial, Ret.flat rfl rfl⟩
theorem fs_rSame22 {Gl : Gh → Prop} (hst : Stays Gl) {a b : It} (ha : a.reply.szP) (hb : b.reply.szP) : FS Tryz.prog Gl 29 [.agg (itAV a), .agg (itAV b)] [] [] (.bool (itEq a b)) [] [] := by
  refine FS.of hm hst is_clavierref22Same (by simp) fun γ hγ hfr => ?_
  have c1 := fs_Same (Gl := Gl) hst (a := a.reply) (b := b.reply) ha.1 hb.1 ha.2 hb.2
  have hk : kyEq a.key b.key = ((((((a.key.code == b.key.code) && (a.key.mods == b.key.mods)) && (a.key.type == b.key.type)) && (a.key.shifted == b.key.shifted)) && (a.key.base == b.key.base)) && decide (a.key.text = b.key.text)) := rfl
  have hmo : moEq a.mouse b.mouse = (((((a.mouse.button == b.mouse.button) && (a.mouse.type == b.mouse.type)) && (a.mouse.x == b.mouse.x)) && (a.mouse.y == b.mouse.y)) && (a.mouse.mods == b.mouse.mods)) := rfl
  have hz : itEq a b = ((((((a.kind == b.kind) && kyEq a.key b.key) && moEq a.mouse b.mouse) && (a.inn == b.inn)) && decide (a.paste = b.paste)) && decide (a.reply = b.reply)) := rfl
  have hca : a.reply.c = [.int .i64 a.reply.k, .int .u8 a.reply.pr, .sl none 1 (parsAV a.reply.ps), .str a.reply.it, .int .u8 a.reply.fi, .str a.reply.da] := rfl
  have hcb : b.reply.c = [.int .i64 b.reply.k, .int .u8 b.reply.pr, .sl none 1 (parsAV b.reply.ps), .str b.reply.it, .int .u8 b.reply.fi, .str b.reply.da] := rfl
  rw [hca, hcb] at c1
  rw [itAV_eq, itAV_eq, hz, hk, hmo]
  generalize parsAV a.reply.ps = ra at *
  generalize parsAV b.reply.ps = rb at *
  generalize decide (a.reply = b.reply) = dr at *
  (generalize hQ : (fun (ex : Ex) (_ _ : Nat) (s : St) => _) = Q; unfold ir_clavierref22Same)
  simp +contextual (maxSteps := 1000000) only [go_sem, reduceCtorEq, ↓reduceIte, Nat.reduceAdd, Nat.reduceEqDiff, Nat.reduceLeDiff]
  (refine kGc_call (c1) (fun _ => rfl) (fun hgc => ?_) ?_; (focus (first | (rw [Bool.not_eq_true'] at hgc; simp only [List.map_cons, List.map_nil, List.nil_append, List.append_nil, List.cons_append, Xev_t, Xev_c, upd_app, lf_cons, lf_nil, Nat.reduceEqDiff, ↓reduceIte, hgc, Bool.false_eq_true, Bool.true_eq_false, reduceCtorEq]; done) | (simp only [List.map_cons, List.map_nil, List.nil_append, List.append_nil, List.cons_append, Xev_t, Xev_c, upd_app, lf_cons, lf_nil, Nat.reduceEqDiff, ↓reduceIte, hgc, Bool.false_eq_true, Bool.true_eq_false, reduceCtorEq]; done) | (revert hgc; simp +contextual [Xev_t, Xev_c, upd_app, lf_cons, lf_nil]; done) | simp [Xev_t, Xev_c, upd_app, lf_cons, lf_nil])); simp +contextual (maxSteps := 1000000) only [go_sem, ↓reduceIte, Nat.reduceAdd, Nat.reduceEqDiff])
  all_goals
    rw [← hQ]
    exact ⟨trivial, Ret.flat rfl rfl⟩
set_option maxHeartbeats 4000000 in
theorem fs_DecodeSame {Gl : Gh → Prop} (hst : Stays Gl) {i j : It} (Ki : ItOk i) (Kj : ItOk j) : FS Tryz.prog Gl 9 [.agg (itAV i), .agg (itAV j)] [] [] (.bool true) [] [] := by
  refine FS.of hm hst is_clavierlaw22DecodeSame (by simp) fun γ hγ hfr => ?_
  have zi : i.reply.szP := ⟨Ki.re.sm.ps, Ki.re.sm.pp⟩
  have zj : j.reply.szP := ⟨Kj.re.sm.ps, Kj.re.sm.pp⟩
  have c1 := fs_few22 (Gl := Gl) hst (i := i)
  have c2 := fs_few22 (Gl := Gl) hst (i := j)
  have c3 := fs_made22 (Gl := Gl) hst (i := i)
  have c4 := fs_made22 (Gl := Gl) hst (i := j)
  have c5 := fs_dSame (Gl := Gl) hst zi zj
  have c6 := fs_rSame22 (Gl := Gl) hst zi zj
  have c7 := fs_dSame (Gl := Gl) hst zi zi
  rw [itEq_self] at c7
  have li := it_len i
  have lj := it_len j
  have oi := it_one i
  have oj := it_one j
  have ti := it_take i
  have tj := it_take j
  generalize itEq i j = e at *
  generalize fewI i = f1 at *
  generalize fewI j = f2 at *
  have ri : ∀ f, rnL f (itAV i) = itAV i := fun f => rfl
  have rj : ∀ f, rnL f (itAV j) = itAV j := fun f => rfl
  generalize itAV i = I at *
  generalize itAV j = J at *
  (generalize hQ : (fun (ex : Ex) (_ _ : Nat) (s : St) => _) = Q; unfold ir_clavierlaw22DecodeSame)
  simp +contextual (maxSteps := 1000000) only [li, lj, oi, oj, ti, tj, go_sem, ↓reduceIte, Nat.reduceAdd, Nat.reduceEqDiff]
  (refine CallP.pure (fs_awake22 hst) (fun _ => rfl) ?_; simp +contextual (maxSteps := 1000000) only [li, lj, oi, oj, ti, tj, go_sem, reduceCtorEq, ↓reduceIte, Nat.reduceAdd, Nat.reduceEqDiff])
  (refine CallP.pure (c1) (fun _ => rfl) ?_; simp +contextual (maxSteps := 1000000) only [go_sem, ↓reduceIte, Nat.reduceAdd, Nat.reduceEqDiff])
  cases f1 with
  | false =>
    simp +contextual (maxSteps := 1000000) only [li, lj, oi, oj, ti, tj, go_sem, ↓reduceIte, Nat.reduceAdd, Nat.reduceEqDiff]
    rw [← hQ]
    exact ⟨trivial, Ret.flat rfl rfl⟩
  | true =>
    simp +contextual (maxSteps := 1000000) only [li, lj, oi, oj, ti, tj, go_sem, ↓reduceIte, Nat.reduceAdd]
    (refine CallP.pure (c2) (fun _ => rfl) ?_; simp +contextual (maxSteps := 1000000) only [go_sem, ↓reduceIte, Nat.reduceAdd, Nat.reduceEqDiff])
    cases f2 with
    | false =>
      simp +contextual (maxSteps := 1000000) only [li, lj, oi, oj, ti, tj, go_sem, ↓reduceIte, Nat.reduceAdd, Nat.reduceEqDiff]
      rw [← hQ]
      exact ⟨trivial, Ret.flat rfl rfl⟩
    | true =>
      simp +contextual (maxSteps := 1000000) only [li, lj, oi, oj, ti, tj, go_sem, reduceCtorEq, ↓reduceIte, Nat.reduceAdd, Nat.reduceEqDiff]
      refine DCall.new c3 ?_
      simp +contextual (maxSteps := 1000000) only [ri, rj, li, lj, oi, oj, ti, tj, go_sem, ↓reduceIte, Nat.reduceAdd, Nat.reduceEqDiff]
      refine DCall.new c4 ?_
      simp +contextual (maxSteps := 1000000) only [ri, rj, li, lj, oi, oj, ti, tj, go_sem, ↓reduceIte, Nat.reduceAdd, Nat.reduceEqDiff, Nat.reduceBEq]
      refine DCall.new c5 ?_
      simp +contextual (maxSteps := 1000000) only [li, lj, oi, oj, ti, tj, go_sem, reduceCtorEq, ↓reduceIte, Nat.reduceAdd, Nat.reduceEqDiff, Nat.reduceBEq]
      refine DCall.new c6 ?_
      simp +contextual (maxSteps := 1000000) only [li, lj, oi, oj, ti, tj, beq_self_eq_true, go_sem, reduceCtorEq, ↓reduceIte, Nat.reduceAdd, Nat.reduceEqDiff, Nat.reduceBEq]
      refine DCall.new c3 ?_
      simp +contextual (maxSteps := 1000000) only [ri, rj, li, lj, oi, oj, ti, tj, go_sem, reduceCtorEq, ↓reduceIte, Nat.reduceAdd, Nat.reduceEqDiff]
      refine DCall.new c3 ?_
      simp +contextual (maxSteps := 1000000) only [ri, rj, li, lj, oi, oj, ti, tj, go_sem, ↓reduceIte, Nat.reduceAdd, Nat.reduceEqDiff, Nat.reduceBEq]
      refine DCall.new c7 ?_
      simp +contextual (maxSteps := 1000000) only [go_sem, ↓reduceIte, Nat.reduceAdd, Nat.reduceEqDiff, Nat.reduceBEq]
      rw [← hQ]
      exact ⟨trivial, Ret.flat rfl rfl⟩
end Go.Proofs.YtcdkcfpgdbjogaaGreatDoor

namespace Go.Proofs.YtcdkcfpgdbjogaaGreatDoor
open Go Go.Ab Go.WideShapes Go.RowKit
theorem seat_own : ownKnob Tryz.prog.godebug = none := by kernel_rfl
theorem seat_laidOut : laidOutB Tryz.prog = true := by kernel_rfl
section
variable {H : Type} {enc : TypeId × Value → H} {W : World} {base : Nat} {v : Value} {d : DataW H} {p : List MemPlace}
end
end Go.Proofs.YtcdkcfpgdbjogaaGreatDoor

namespace Go.Proofs.YtcdkcfpgdbjogaaGreatDoor
open Go Go.Ab
end Go.Proofs.YtcdkcfpgdbjogaaGreatDoor

namespace Go.Proofs.YtcdkcfpgdbjogaaGreatDoor
open Go Go.Ab
theorem fixW_of5 {W : World} (h : laidMetH Tryz.prog [("math/bits.deBruijn32tab", Rows.laid_math_bits_deBruijn32tab), ("math/bits.deBruijn64tab", Rows.laid_math_bits_deBruijn64tab), ("internal/strconv.uint64pow10", Rows.laid_internal_strconv_uint64pow10), ("unicode/utf8.acceptRanges", Rows.laid_unicode_utf8_acceptRanges), ("unicode/utf8.first", Rows.laid_unicode_utf8_first)] W) : FixW W := by
  rw [MakeChecks.laidMetH_plain _ _ _ (by kernel_rfl)] at h
  have h2 := laidMet.filter (fun x => x.1 == "internal/strconv.uint64pow10") h
  have h3 : laidMet Tryz.prog [("internal/strconv.uint64pow10", Lib.tabData .u64 Lib.pow10Tab)] W := h2
  have h4 := Lib.tabIs_of_head (g := 1) (t := 253) (e := 247) (n := 20) (by kernel_rfl) (by kernel_rfl) (by kernel_rfl) (by kernel_rfl) (by kernel_rfl) (by kernel_rfl) h3
  intro p hp
  obtain rfl := List.mem_singleton.1 hp
  unfold Lib.TabIs World.var? at h4
  rw [show Program.globalNamed Tryz.prog "internal/strconv.uint64pow10" = some 1 from by kernel_rfl] at h4
  simp only [Option.bind_some] at h4
  split at h4
  · rename_i cs e fr hh
    simp only [Option.some.injEq] at h4
    refine ⟨e, fr, ?_⟩
    rw [hh, h4]
    simp [Lib.pow10Tab]
  · cases h4
end Go.Proofs.YtcdkcfpgdbjogaaGreatDoor

namespace Go.Proofs.YtcdkcfpgdbjogaaGreatDoor
open Go Go.Ab Go.WideShapes Go.RowKit
section
variable {H : Type} {enc : TypeId × Value → H} {W : World} {base : Nat} {v : Value} {d : DataW H} {p : List MemPlace}
theorem ints_of : ∀ {rows : List (List AV)}, (∀ r ∈ rows, ∃ n : Int, r = [.int .i64 n] ∧ IntKind.i64.min ≤ n ∧ n ≤ IntKind.i64.max) → ∃ l : List Int, rows = intsAV l
  | [], _ => ⟨[], rfl⟩
  | r :: rows, h => by
    obtain ⟨n, rfl, _⟩ := h r List.mem_cons_self
    obtain ⟨l, rfl⟩ := ints_of (rows := rows) fun r hr => h r (List.mem_cons_of_mem _ hr)
    exact ⟨n :: l, rfl⟩
theorem tr_ints : TR enc Tryz.prog W 90 fun xs => ∃ l : List Int, xs = [intsV l] ∧ l.length ≤ maxLen := by
  refine (TR.slice (e := 3) (sz := 1) (by kernel_rfl) (by kernel_rfl) (by omega) (TR.int (k := .i64) (by kernel_rfl))).mono ?_
  rintro xs ⟨rows, rfl, h1, h2⟩
  obtain ⟨l, rfl⟩ := ints_of fun r hr => (h2 r hr).1
  exact ⟨l, rfl, by rwa [intsAV_length] at h1⟩
theorem pars_of : ∀ {rows : List (List AV)}, (∀ r ∈ rows, ∃ l : List Int, r = [intsV l] ∧ l.length ≤ maxLen) → ∃ l : List (List Int), rows = parsAV l ∧ ∀ p ∈ l, p.length ≤ maxLen
  | [], _ => ⟨[], rfl, by simp⟩
  | r :: rows, h => by
    obtain ⟨n, rfl, h1⟩ := h r List.mem_cons_self
    obtain ⟨l, rfl, h2⟩ := pars_of (rows := rows) fun r hr => h r (List.mem_cons_of_mem _ hr)
    exact ⟨n :: l, rfl, fun p hp => (List.mem_cons.1 hp).elim (fun e => by rw [e]; exact h1) (h2 p)⟩
theorem tr_pars : TR enc Tryz.prog W 44 fun xs => ∃ l : List (List Int), xs = [parsV l] ∧ l.length ≤ maxLen ∧ ∀ p ∈ l, p.length ≤ maxLen := by
  refine (TR.slice (e := 90) (sz := 1) (by kernel_rfl) (by kernel_rfl) (by omega) tr_ints).mono ?_
  rintro xs ⟨rows, rfl, h1, h2⟩
  obtain ⟨l, rfl, h3⟩ := pars_of fun r hr => (h2 r hr).1
  exact ⟨l, rfl, by rwa [parsAV_length] at h1, h3⟩
theorem u8r {n : Int} (h : IntKind.u8.min ≤ n ∧ n ≤ IntKind.u8.max) : 0 ≤ n ∧ n < 256 := by
  have h1' : 0 ≤ n := by simpa [IntKind.min, IntKind.signed] using h.1
  have h2' : n ≤ 255 := by simpa [IntKind.max, IntKind.signed, IntKind.bits] using h.2
  omega
theorem seq_is : structIs Tryz.prog 46 [(0, 3), (1, 5), (2, 44), (3, 9), (4, 5), (5, 9)] = true := by kernel_rfl
theorem tr_Seq : TR enc Tryz.prog W 46 fun xs => ∃ s : Sq, xs = s.c ∧ s.ok := by
  refine (TR.structL (Rs := [fun xs => ∃ n, xs = [.int .i64 n] ∧ IntKind.i64.min ≤ n ∧ n ≤ IntKind.i64.max, fun xs => ∃ n, xs = [.int .u8 n] ∧ IntKind.u8.min ≤ n ∧ n ≤ IntKind.u8.max, fun xs => ∃ l : List (List Int), xs = [parsV l] ∧ l.length ≤ maxLen ∧ ∀ p ∈ l, p.length ≤ maxLen, fun xs => ∃ s, xs = [.str s] ∧ s.length ≤ maxLen, fun xs => ∃ n, xs = [.int .u8 n] ∧ IntKind.u8.min ≤ n ∧ n ≤ IntKind.u8.max, fun xs => ∃ s, xs = [.str s] ∧ s.length ≤ maxLen]) 6 seq_is (by kernel_rfl) ?_).mono ?_
  · exact ⟨rfl, TR.int (by kernel_rfl), 1, by kernel_rfl, rfl, TR.int (by kernel_rfl), 1, by kernel_rfl, rfl, tr_pars, 1, by kernel_rfl, rfl, TR.str (by kernel_rfl), 1, by kernel_rfl, rfl, TR.int (by kernel_rfl), 1, by kernel_rfl, rfl, TR.str (by kernel_rfl), 1, by kernel_rfl, rfl⟩
  · rintro xs ⟨_, _, ⟨k, rfl, _⟩, ⟨_, _, ⟨pr, rfl, hpr⟩, ⟨_, _, ⟨ps, rfl, hp1, hp2⟩, ⟨_, _, ⟨it, rfl, hi⟩, ⟨_, _, ⟨fi, rfl, hfi⟩, ⟨_, _, ⟨da, rfl, hd⟩, h, rfl⟩, rfl⟩, rfl⟩, rfl⟩, rfl⟩, rfl⟩
    have h : _ = [] := h
    subst h
    simp only [maxLen] at hp1 hp2 hi hd
    exact ⟨⟨k, pr, ps, it, fi, da⟩, rfl, ⟨⟨by simp only; omega, fun p hp => by have := hp2 p hp; omega, by simp only; omega, by simp only; omega⟩, u8r hpr, u8r hfi⟩⟩
end
end Go.Proofs.YtcdkcfpgdbjogaaGreatDoor

namespace Go.Proofs.YtcdkcfpgdbjogaaGreatDoor
open Go Go.Ab Go.WideShapes Go.RowKit
section
variable {H : Type} {enc : TypeId × Value → H} {W : World} {base : Nat} {v : Value} {d : DataW H} {p : List MemPlace}
theorem key_is : structIs Tryz.prog 27 [(0, 3), (1, 3), (2, 3), (3, 3), (4, 3), (5, 9)] = true := by kernel_rfl
end
end Go.Proofs.YtcdkcfpgdbjogaaGreatDoor

namespace Go.Proofs.YtcdkcfpgdbjogaaGreatDoor
open Go Go.Ab Go.WideShapes Go.RowKit
section
variable {H : Type} {enc : TypeId × Value → H} {W : World} {base : Nat} {v : Value} {d : DataW H} {p : List MemPlace}
theorem tr_KeyI : TR enc Tryz.prog W 27 fun xs => ∃ k : Ky, xs = kyAV k ∧ k.text.length ≤ maxLen ∧ k.mods ≤ 9223372036854775807 := by
  refine (TR.structL (Rs := [fun xs => ∃ n, xs = [.int .i64 n] ∧ IntKind.i64.min ≤ n ∧ n ≤ IntKind.i64.max, fun xs => ∃ n, xs = [.int .i64 n] ∧ IntKind.i64.min ≤ n ∧ n ≤ IntKind.i64.max, fun xs => ∃ n, xs = [.int .i64 n] ∧ IntKind.i64.min ≤ n ∧ n ≤ IntKind.i64.max, fun xs => ∃ n, xs = [.int .i64 n] ∧ IntKind.i64.min ≤ n ∧ n ≤ IntKind.i64.max, fun xs => ∃ n, xs = [.int .i64 n] ∧ IntKind.i64.min ≤ n ∧ n ≤ IntKind.i64.max, fun xs => ∃ s, xs = [.str s] ∧ s.length ≤ maxLen]) 6 key_is (by kernel_rfl) ?_).mono ?_
  · exact ⟨rfl, TR.int (by kernel_rfl), 1, by kernel_rfl, rfl, TR.int (by kernel_rfl), 1, by kernel_rfl, rfl, TR.int (by kernel_rfl), 1, by kernel_rfl, rfl, TR.int (by kernel_rfl), 1, by kernel_rfl, rfl, TR.int (by kernel_rfl), 1, by kernel_rfl, rfl, TR.str (by kernel_rfl), 1, by kernel_rfl, rfl⟩
  · rintro xs ⟨_, _, ⟨a, rfl, _⟩, ⟨_, _, ⟨b, rfl, hb⟩, ⟨_, _, ⟨c, rfl, _⟩, ⟨_, _, ⟨e, rfl, _⟩, ⟨_, _, ⟨f, rfl, _⟩, ⟨_, _, ⟨t, rfl, ht⟩, h, rfl⟩, rfl⟩, rfl⟩, rfl⟩, rfl⟩, rfl⟩
    have h : _ = [] := h
    subst h
    exact ⟨⟨a, b, c, e, f, t⟩, rfl, ht, by simpa [IntKind.max, IntKind.signed, IntKind.bits] using hb.2⟩
end
end Go.Proofs.YtcdkcfpgdbjogaaGreatDoor

namespace Go.Proofs.YtcdkcfpgdbjogaaGreatDoor
open Go Go.Ab Go.WideShapes Go.RowKit
section
variable {H : Type} {enc : TypeId × Value → H} {W : World} {base : Nat} {v : Value} {d : DataW H} {p : List MemPlace}
theorem mouse_is : structIs Tryz.prog 43 [(0, 3), (1, 3), (2, 3), (3, 3), (4, 3)] = true := by kernel_rfl
theorem tr_Mouse : TR enc Tryz.prog W 43 fun xs => ∃ e : Mo, xs = moAV e := by
  refine (TR.structL (Rs := [fun xs => ∃ n, xs = [.int .i64 n] ∧ IntKind.i64.min ≤ n ∧ n ≤ IntKind.i64.max, fun xs => ∃ n, xs = [.int .i64 n] ∧ IntKind.i64.min ≤ n ∧ n ≤ IntKind.i64.max, fun xs => ∃ n, xs = [.int .i64 n] ∧ IntKind.i64.min ≤ n ∧ n ≤ IntKind.i64.max, fun xs => ∃ n, xs = [.int .i64 n] ∧ IntKind.i64.min ≤ n ∧ n ≤ IntKind.i64.max, fun xs => ∃ n, xs = [.int .i64 n] ∧ IntKind.i64.min ≤ n ∧ n ≤ IntKind.i64.max]) 5 mouse_is (by kernel_rfl) ?_).mono ?_
  · exact ⟨rfl, TR.int (by kernel_rfl), 1, by kernel_rfl, rfl, TR.int (by kernel_rfl), 1, by kernel_rfl, rfl, TR.int (by kernel_rfl), 1, by kernel_rfl, rfl, TR.int (by kernel_rfl), 1, by kernel_rfl, rfl, TR.int (by kernel_rfl), 1, by kernel_rfl, rfl⟩
  · rintro xs ⟨_, _, ⟨a, rfl, _⟩, ⟨_, _, ⟨b, rfl, _⟩, ⟨_, _, ⟨c, rfl, _⟩, ⟨_, _, ⟨e, rfl, _⟩, ⟨_, _, ⟨f, rfl, _⟩, h, rfl⟩, rfl⟩, rfl⟩, rfl⟩, rfl⟩
    have h : _ = [] := h
    subst h
    exact ⟨⟨a, b, c, e, f⟩, rfl⟩
end
end Go.Proofs.YtcdkcfpgdbjogaaGreatDoor

namespace Go.Proofs.YtcdkcfpgdbjogaaGreatDoor
open Go Go.Ab Go.WideShapes Go.RowKit
def zero_clavierref22Item : Value := .agg #[.int .i64 0, .int .i64 0, .int .i64 0, .int .i64 0, .int .i64 0, .int .i64 0, .string ByteArray.empty, .int .i64 0, .int .i64 0, .int .i64 0, .int .i64 0, .int .i64 0, .bool false, .string ByteArray.empty, .int .i64 0, .int .u8 0, .slice none 0 0, .string ByteArray.empty, .int .u8 0, .string ByteArray.empty]
section
variable {H : Type} {enc : TypeId × Value → H} {W : World} {base : Nat} {v : Value} {d : DataW H} {p : List MemPlace}
theorem item_is : structIs Tryz.prog 48 [(0, 3), (1, 27), (7, 43), (12, 4), (13, 9), (14, 46)] = true := by kernel_rfl
theorem tr_Item : TR enc Tryz.prog W 48 fun xs => ∃ i : It, xs = itAV i ∧ ItOk i := by
  refine (TR.structL (Rs := [fun xs => ∃ n, xs = [.int .i64 n] ∧ IntKind.i64.min ≤ n ∧ n ≤ IntKind.i64.max, fun xs => ∃ k : Ky, xs = kyAV k ∧ k.text.length ≤ maxLen ∧ k.mods ≤ 9223372036854775807, fun xs => ∃ e : Mo, xs = moAV e, fun xs => ∃ b, xs = [.bool b], fun xs => ∃ s, xs = [.str s] ∧ s.length ≤ maxLen, fun xs => ∃ s : Sq, xs = s.c ∧ s.ok]) 20 item_is (by kernel_rfl) ?_).mono ?_
  · exact ⟨rfl, TR.int (by kernel_rfl), 1, by kernel_rfl, rfl, tr_KeyI, 6, by kernel_rfl, rfl, tr_Mouse, 5, by kernel_rfl, rfl, TR.bool (by kernel_rfl), 1, by kernel_rfl, rfl, TR.str (by kernel_rfl), 1, by kernel_rfl, rfl, tr_Seq, 6, by kernel_rfl, rfl⟩
  · rintro xs ⟨_, _, ⟨k, rfl, _⟩, ⟨_, _, ⟨ky, rfl, ht, hm⟩, ⟨_, _, ⟨mo, rfl⟩, ⟨_, _, ⟨b, rfl⟩, ⟨_, _, ⟨pa, rfl, hp⟩, ⟨_, _, ⟨s, rfl, hs⟩, h, rfl⟩, rfl⟩, rfl⟩, rfl⟩, rfl⟩, rfl⟩
    have h : _ = [] := h
    subst h
    refine ⟨⟨k, ky, mo, b, pa, s⟩, ?_, ⟨hs, hm, ht, hp⟩⟩
    simp [itAV, kyAV, moAV]
theorem op_clavierref22Item (hv : Value.okWide Tryz.prog W .any base 48 v) (hd : DataW.Trod enc Tryz.prog W 0 (fun _ => true) true 48 v d p) : ∃ i : It, ItOk i ∧ Rep (gh0 W) (.agg (itAV i)) v := by
  obtain ⟨cs, rfl⟩ := okWide_struct item_is hv
  obtain ⟨xs, ⟨i, rfl, h⟩, hr⟩ := tr_Item.argN hd
  exact ⟨i, h, hr⟩
end
end Go.Proofs.YtcdkcfpgdbjogaaGreatDoor

namespace Go.Proofs.YtcdkcfpgdbjogaaGreatDoor
open Go Go.Ab Go.ChangeShapes Go.WideShapes Go.ChangeAt Go.RowKit
theorem decodeSame_lifted (os : Os) (started : os.Started) (H : Type) (enc : TypeId × Value → H) (F : Stop.Interp) :
    ReturnsInHanded {} Tryz.checked os 9 .any ((OpenSpec.ofChange Rows.decodeSameSpec).preRow enc Tryz.prog Tryz.f9 Rows.decodeSameRow.domain false Rows.decodeSameRow.laid) (((OpenSpec.ofChange Rows.decodeSameSpec).at F).post enc Tryz.prog Tryz.f9 false true false false) := by
  have hw : (DataW.whole enc Tryz.prog ((World.laidAll Tryz.prog os [("math/bits.deBruijn32tab", Rows.laid_math_bits_deBruijn32tab), ("math/bits.deBruijn64tab", Rows.laid_math_bits_deBruijn64tab), ("internal/strconv.uint64pow10", Rows.laid_internal_strconv_uint64pow10), ("unicode/utf8.acceptRanges", Rows.laid_unicode_utf8_acceptRanges), ("unicode/utf8.first", Rows.laid_unicode_utf8_first)]).forCall (fun _ _ => 0) ⟨#[], #[zero_clavierref22Item, zero_clavierref22Item], []⟩).memory Tryz.f9.params.toList (OpenSpec.ofChange Rows.decodeSameSpec).vars false (#[zero_clavierref22Item, zero_clavierref22Item] : Array Value).toList 8).any (fun x => true) = true := by kernel_rfl
  cases hx : DataW.whole enc Tryz.prog ((World.laidAll Tryz.prog os [("math/bits.deBruijn32tab", Rows.laid_math_bits_deBruijn32tab), ("math/bits.deBruijn64tab", Rows.laid_math_bits_deBruijn64tab), ("internal/strconv.uint64pow10", Rows.laid_internal_strconv_uint64pow10), ("unicode/utf8.acceptRanges", Rows.laid_unicode_utf8_acceptRanges), ("unicode/utf8.first", Rows.laid_unicode_utf8_first)]).forCall (fun _ _ => 0) ⟨#[], #[zero_clavierref22Item, zero_clavierref22Item], []⟩).memory Tryz.f9.params.toList (OpenSpec.ofChange Rows.decodeSameSpec).vars false (#[zero_clavierref22Item, zero_clavierref22Item] : Array Value).toList 8 with
  | none => rw [hx] at hw; cases hw
  | some x =>
  rw [hx] at hw
  have hok : Input.okWideB Tryz.checked.prog ((World.laidAll Tryz.prog os [("math/bits.deBruijn32tab", Rows.laid_math_bits_deBruijn32tab), ("math/bits.deBruijn64tab", Rows.laid_math_bits_deBruijn64tab), ("internal/strconv.uint64pow10", Rows.laid_internal_strconv_uint64pow10), ("unicode/utf8.acceptRanges", Rows.laid_unicode_utf8_acceptRanges), ("unicode/utf8.first", Rows.laid_unicode_utf8_first)]).forCall (fun _ _ => 0) ⟨#[], #[zero_clavierref22Item, zero_clavierref22Item], []⟩) 9 ⟨#[], #[zero_clavierref22Item, zero_clavierref22Item], []⟩ = true := by kernel_rfl
  refine returnsInHanded_of_row (C := Tryz.checked) (s := (OpenSpec.ofChange Rows.decodeSameSpec)) seat_own started (by kernel_rfl) Tryz.func9
    ⟨World.laidAll Tryz.prog os [("math/bits.deBruijn32tab", Rows.laid_math_bits_deBruijn32tab), ("math/bits.deBruijn64tab", Rows.laid_math_bits_deBruijn64tab), ("internal/strconv.uint64pow10", Rows.laid_internal_strconv_uint64pow10), ("unicode/utf8.acceptRanges", Rows.laid_unicode_utf8_acceptRanges), ("unicode/utf8.first", Rows.laid_unicode_utf8_first)], fun _ _ => 0, ⟨#[], #[zero_clavierref22Item, zero_clavierref22Item], []⟩, World.laidAll_os _ _ _, World.shaped_of_ZipB (by kernel_rfl) (by kernel_rfl), (Input.okWide_of_okWideB (base := 0) hok).1, (Input.okWide_of_okWideB hok).2,
      OpenSpec.preRow_of_cond 8 hx (by kernel_rfl) (fun k hk => by cases hk) (by kernel_rfl) (by rw [show Rows.decodeSameRow.laid = [("math/bits.deBruijn32tab", Rows.laid_math_bits_deBruijn32tab), ("math/bits.deBruijn64tab", Rows.laid_math_bits_deBruijn64tab), ("internal/strconv.uint64pow10", Rows.laid_internal_strconv_uint64pow10), ("unicode/utf8.acceptRanges", Rows.laid_unicode_utf8_acceptRanges), ("unicode/utf8.first", Rows.laid_unicode_utf8_first)] from rfl, MakeChecks.laidMetH_plain _ _ _ (by kernel_rfl)]; exact laidMet_laidAll _ (by kernel_rfl) (by kernel_rfl)),
      by simp only [Assume.holds]; exact ⟨by simp, by simp, fun _ => Modest.zero, by simp, by simp⟩⟩ ?_
  intro W base args ds gs before hval0 hW _ hcond hreach hL _ _
  have hval : ∀ (j : Nat) t v, Tryz.f9.params[j]? = some t → args[j]? = some v → Value.okWide Tryz.prog W .any base t v := hval0
  have hW' := hW
  obtain ⟨p, q, hA0, hV, rfl, _, _⟩ := hW
  have hA : DataW.TrodAll enc Tryz.prog W 0 (fun _ => true) true Tryz.f9.params.toList args.toList ds p := hA0
  rw [Tryz.params9] at hA hval
  obtain ⟨v0, vs0, d0, ds0, p0, q0, hargs, rfl, rfl, h0, r0⟩ := trodAll_cons hA
  obtain ⟨v1, vs1, d1, ds1, p1, q1, rfl, rfl, rfl, h1, r1⟩ := trodAll_cons r0
  obtain ⟨rfl, rfl, rfl⟩ := trodAll_nil r1
  obtain rfl : args = #[v0, v1] := by cases args; simp_all
  obtain ⟨rfl, rfl⟩ := trodVars_none hV
  have lt0 : ∀ x ∈ p0, x.block < W.heap.size := by obtain ⟨m, hm⟩ := h0; exact DataW.trod_lt m _ _ _ hm
  obtain ⟨x0, c0, e0⟩ := op_clavierref22Item (hval 0 48 v0 rfl rfl) h0
  have lt1 : ∀ x ∈ p1, x.block < W.heap.size := by obtain ⟨m, hm⟩ := h1; exact DataW.trod_lt m _ _ _ hm
  obtain ⟨x1, c1, e1⟩ := op_clavierref22Item (hval 1 48 v1 rfl rfl) h1
  clear hA0 hval0
  refine ((fs_DecodeSame (Gl := fun _ => True) (fun _ _ _ _ => trivial) c0 c1).row (fixW_of5 hL) trivial ⟨_, _, rfl, e0, ⟨_, _, rfl, e1, rfl⟩⟩).mono fun e W' ⟨v, g', he, hr, bel⟩ => ?_
  obtain rfl : v = .bool true := hr
  subst he
  exact ⟨_, rfl, _, _, _, [], _, [], hW', trodAll_mk1 (shut_bool (show Tryz.prog.underlying 4 = some .bool by kernel_rfl) _), (trodAll_cons_mk (Below.trod seat_laidOut (by kernel_rfl) (of_decide_eq_true (by kernel_rfl)) h0 bel lt0) (trodAll_cons_mk (Below.trod seat_laidOut (by kernel_rfl) (of_decide_eq_true (by kernel_rfl)) h1 bel lt1) trodAll_mk0)), rfl, bel.frame _, fun h => by cases h⟩
theorem decodeSame_holds : Rows.DecodeSameSaid :=
  OpenClaim.holds_of_cond 9 Tryz.f9 rfl rfl rfl rfl rfl rfl rfl ⟨rfl, rfl, rfl, rfl, rfl⟩ rfl rfl rfl rfl rfl (by kernel_rfl) Tryz.func9 (by kernel_rfl)
    (of_decide_eq_true (by kernel_rfl)) (by unfold Func.isWrapper; first | (rw [if_pos (by decide +kernel)]; kernel_rfl) | (rw [if_neg (by decide +kernel)]; exact ⟨rfl, rfl⟩))
    (fun os started H enc _ F => by rw [OpenClaim.pre_eq_preRow]; exact decodeSame_lifted os started H enc F)
theorem decodeSame_card : Rows.DecodeSameCardSaid :=
  Claim7.holds_tied_plain_at .later [] [.data, .data, .data, .data, .pinned] true (true, "106939939cd7020c26b6dff8d64aeaa564b4f648d954b8eb9f998a78c3c8c9db") false decodeSame_holds (fun _ h => by cases h) (by kernel_rfl) (fun _ h => by cases h) decodeSame_row_tie rfl ⟨rfl, rfl⟩ (by kernel_rfl) rfl
    (fun f fn hf hfn => by
      obtain rfl : f = 9 := Option.some.inj ((show Tryz.prog.funcNamed "clavier/clavierlaw22.DecodeSame" = some 9 by kernel_rfl).symm.trans hf) |>.symm
      obtain rfl : fn = Tryz.f9 := (Option.some.inj (Tryz.func9.symm.trans hfn)).symm
      exact ⟨by kernel_rfl, fun j t ht => by
        rw [Tryz.params9] at ht
        have hm : t ∈ ([48, 48] : List Nat) := by simpa using Array.mem_of_getElem? ht
        have hall : (([48, 48] : List Nat).all fun u => !Tryz.prog.wantsStandIn u) = true := by kernel_rfl
        exact (show Tryz.prog.wantsStandIn t = false by simpa using List.all_eq_true.1 hall t hm)⟩)
    (by kernel_rfl)
#print axioms decodeSame_card
end Go.Proofs.YtcdkcfpgdbjogaaGreatDoor

