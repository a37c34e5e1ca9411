/- Part 3 of 3 of a proof: the given statement WireBack, whatever the input that its row lets in. Conditions: those of the given row and card alone. -/
import Derived.Test.YtcdkcfpgdbjogaaDoorPWireBack2
import Derived.Test.YtcdkcfpgdbjogaaDoorPWireBackAb13
import Derived.WalkKit
import Derived.ProofKit
import Derived.SizedLaws
import Derived.Test.YtcdkcfpgdbjogaaDoorRows
import Derived.LaidSub
import Derived.Lib.LaidTab
import Derived.Lib.ItoaNum
import Derived.MakeChecks
import Derived.Test.YtcdkcfpgdbjogaaDoorCards
import Derived.Test.YtcdkcfpgdbjogaaDoorTie
import Derived.Deep.DeepHandedRow
import Derived.JoinedCond
import Derived.OpenShut
import Derived.ShutString
import Derived.ChangeOld
import Derived.Below
import Derived.Lay
import Derived.LaidOnce
import Derived.SevenTiedAt
set_option linter.unusedVariables false
set_option linter.unusedSimpArgs false
set_option maxRecDepth 100000
namespace Go.Proofs.YtcdkcfpgdbjogaaDoor
open Go Go.Ab
def ir_wireArg : ICode :=
 (.seq
 (.reg [qA 3 (.box 24 (.t 0)),
 qA 6 (.mov (qI 0))] (some [1,2,3]))
 (.seq
 (.seq
 (.reg [qM 7 1,
 qA 8 (.bin .lss .none (.t 7) (qI 0)),
 qM 9 8,
 qG 10 9 false (.mov (.t 1)),
 qG 11 9 false (.fa 2 (.t 3)),
 qG 12 9 false (.ld none (.t 11)),
 qG 13 9 false (.len (.t 12)),
 qG 14 9 false (.bin .geq .none (.t 10) (.t 13)),
 qA 15 (.pick (.t 9) (qB true) (.t 14)),
 qM 16 15,
 qG 17 16 false (.fa 2 (.t 3)),
 qG 18 16 false (.ld none (.t 17)),
 qG 19 16 false (.mov (.t 1)),
 qG 20 16 false (.ia 1 (.t 18) (.t 19)),
 qG 21 16 false (.ld none (.t 20)),
 qG 22 16 false (.len (.t 21)),
 qG 23 16 false (.bin .eql .none (.t 22) (qI 0)),
 qA 24 (.pick (.t 16) (qB true) (.t 23)),
 qM 25 24,
 qG 26 25 false (.fa 2 (.t 3)),
 qG 27 25 false (.ld none (.t 26)),
 qG 28 25 false (.mov (.t 1)),
 qG 29 25 false (.ia 1 (.t 27) (.t 28)),
 qG 30 25 false (.ld none (.t 29)),
 qG 31 25 false (.ia 1 (.t 30) (qI 0)),
 qG 32 25 false (.ld none (.t 31)),
 qG 33 25 false (.bin .lss .none (.t 32) (qI 0)),
 qA 34 (.pick (.t 25) (qB true) (.t 33))] (some [1,2,3,34]))
 (.cond (.t 34)
 (.seq
 (.reg [qM 35 2,
 qM 6 35] (some [6]))
 .ret)
 .skip))
 (.seq
 (.reg [qF 36 2 3,
 qL 37 36,
 qM 38 1,
 qA 39 (.ia 1 (.t 37) (.t 38)),
 qL 40 39,
 qA 41 (.ia 1 (.t 40) (qI 0)),
 qL 42 41,
 qM 6 42] (some [6]))
 .ret)))
theorem is_wireArg : IrOf Tryd.prog 14 43 ir_wireArg [.t 6] := ⟨_, Tryd.func14, rfl, by kernel_rfl, by kernel_rfl, by kernel_rfl⟩

theorem dcs_of_len {b : List UInt8} (h : (readW b).2 ≤ b.length) : dcsOk b := by
  intro h1 h2
  unfold readW at h
  rw [if_neg (not_not_intro h1)] at h
  simp only at h
  rw [h2] at h
  rw [if_neg (by decide), if_neg (by decide), if_pos rfl] at h
  simp only at h
  omega
theorem fi_may {s : Sq} (h : mayP s = 0) : s.fi < 128 := by
  have h1 := (mayF h).sh
  unfold shapedP at h1
  repeat' split at h1
  all_goals simp only [Bool.and_eq_true, decide_eq_true_eq, beq_iff_eq, Bool.false_eq_true] at h1
  all_goals omega
theorem take_may {s : Sq} (h : mayP s = 0) (more : List UInt8) : dcsOk (putB s ++ more) ∧ (readW (putB s ++ more)).1.fi < 128 ∧ takeV (putB s ++ more) = .tup [.agg s.c, .int .i64 (putB s).length, .int .i64 0] := by
  have h1 := readW_put h more
  refine ⟨dcs_of_len (by rw [h1]; simp), by rw [h1]; exact fi_may h, ?_⟩
  unfold takeV
  rw [takeW_put h]
def argW (ps : List (List Int)) (i : Nat) (o : Int) : Int := match ps[i]? with
  | some (x :: _) => if x < 0 then o else x
  | _ => o
theorem fs_wArg {Gl : Gh → Prop} (hst : Stays Gl) {k pr fi o : Int} {ps : List (List Int)} {it da : List UInt8} {i : Nat} : FS Tryd.prog Gl 14 [.agg [.int .i64 k, .int .u8 pr, .sl none 1 (parsAV ps), .str it, .int .u8 fi, .str da], .int .i64 (i : Int), .int .i64 o] [] [] (.int .i64 (argW ps i o)) [] [] := by
  refine FS.of hm hst is_wireArg (by simp) fun γ hγ hfr => ?_
  (generalize hQ : (fun (ex : Ex) (_ _ : Nat) (s : St) => _) = Q; unfold ir_wireArg)
  have h0 : decide ((i : Int) < 0) = false := by simp
  by_cases hlt : i < ps.length
  · have h1 : decide ((i : Int) ≥ (ps.length : Int)) = false := by simp; omega
    have hg : (parsAV ps).getD i [] = [intsV ps[i]] := by
      rw [List.getD_eq_getElem?_getD]; simp [parsAV, hlt]
    have hi : intsV ps[i] = .sl none 1 (intsAV ps[i]) := rfl
    cases hp : ps[i] with
    | nil =>
      rw [hi, hp] at hg
      have ha : argW ps i o = o := by unfold argW; rw [List.getElem?_eq_getElem hlt, hp]
      have hl : (((intsAV ([] : List Int)).length : Int) == 0) = true := rfl
      simp +contextual (maxSteps := 1000000) only [h0, h1, hg, hl, parsAV_length, Int.toNat_natCast, go_sem, reduceCtorEq, ↓reduceIte, Nat.reduceAdd, Nat.reduceEqDiff]
      refine ⟨by omega, ?_⟩
      rw [← hQ, ha]
      exact ⟨trivial, Ret.flat rfl rfl⟩
    | cons x l =>
      rw [hi, hp] at hg
      have hg0 : (intsAV (x :: l)).getD 0 [] = [.int .i64 x] := rfl
      have hl : (((intsAV (x :: l)).length : Int) == 0) = false := by simp [intsAV]; omega
      have hl0 : (0 : Int) < ((intsAV (x :: l)).length : Int) := by rw [intsAV_length, List.length_cons]; omega
      by_cases hx : x < 0
      · have hd : decide (x < 0) = true := decide_eq_true hx
        have ha : argW ps i o = o := by unfold argW; rw [List.getElem?_eq_getElem hlt, hp]; exact if_pos hx
        simp +contextual (maxSteps := 1000000) only [h0, h1, hg, hg0, hl, hd, parsAV_length, Int.toNat_natCast, Int.toNat_zero, go_sem, reduceCtorEq, ↓reduceIte, Nat.reduceAdd, Nat.reduceEqDiff, Int.reduceLE]
        refine ⟨⟨by omega, by omega⟩, ⟨by omega, by omega⟩, hl0, ?_⟩
        rw [← hQ, ha]
        exact ⟨trivial, Ret.flat rfl rfl⟩
      · have hd : decide (x < 0) = false := decide_eq_false hx
        have ha : argW ps i o = x := by unfold argW; rw [List.getElem?_eq_getElem hlt, hp]; exact if_neg hx
        simp +contextual (maxSteps := 1000000) only [h0, h1, hg, hg0, hl, hd, parsAV_length, Int.toNat_natCast, Int.toNat_zero, go_sem, reduceCtorEq, ↓reduceIte, Nat.reduceAdd, Nat.reduceEqDiff, Int.reduceLE]
        refine ⟨⟨by omega, by omega⟩, ⟨by omega, by omega⟩, hl0, ⟨by omega, by omega⟩, hl0, ?_⟩
        rw [← hQ, ha]
        exact ⟨trivial, Ret.flat rfl rfl⟩
  · have h1 : decide ((i : Int) ≥ (ps.length : Int)) = true := by simp; omega
    have ha : argW ps i o = o := by unfold argW; rw [List.getElem?_eq_none (by omega)]
    simp +contextual (maxSteps := 1000000) only [h0, h1, parsAV_length, go_sem, reduceCtorEq, ↓reduceIte, Nat.reduceAdd, Nat.reduceEqDiff]
    rw [← hQ, ha]
    exact ⟨trivial, Ret.flat rfl rfl⟩
end Go.Proofs.YtcdkcfpgdbjogaaDoor

namespace Go.Proofs.YtcdkcfpgdbjogaaDoor
open Go Go.Ab
end Go.Proofs.YtcdkcfpgdbjogaaDoor

namespace Go.Proofs.YtcdkcfpgdbjogaaDoor
open Go Go.Ab
end Go.Proofs.YtcdkcfpgdbjogaaDoor

namespace Go.Proofs.YtcdkcfpgdbjogaaDoor
open Go Go.Ab
def ir_slicesEqualFuncintintintint : ICode :=
 (.seq
 (.reg [qA 6 (.mov (qB false))] (some [0,1,2]))
 (.seq
 (.seq
 (.reg [qM 10 0,
 qA 11 (.len (.t 10)),
 qM 12 1,
 qA 13 (.len (.t 12)),
 qA 14 (.bin .neq .none (.t 11) (.t 13))] (some [0,1,2,14]))
 (.cond (.t 14)
 (.seq
 (.reg [qA 6 (.mov (qB false))] (some [6]))
 .ret)
 .skip))
 (.seq
 (.seq
 (.reg [qM 15 0,
 qA 16 (.len (.t 15)),
 qA 17 (.mov (qI 0))] (some [1,2,15,16,17]))
 (.blk 0
 (.loop
 (.seq
 (.reg [qA 18 (.bin .lss .none (.t 17) (.t 16))] (some [1,2,15,16,17,18]))
 (.seq
 (.cond (.t 18)
 .skip
 (.exit 0))
 (.seq
 (.blk 1
 (.seq
 (.reg [qM 19 17,
 qA 20 (.ia 1 (.t 15) (.t 17)),
 qL 21 20,
 qM 7 19,
 qM 8 21] (some [1,2,7,8,15,16,17]))
 (.seq
 (.reg [qM 22 1,
 qM 23 7,
 qA 24 (.ia 1 (.t 22) (.t 23)),
 qL 25 24,
 qM 9 25] (some [1,2,8,9,15,16,17]))
 (.seq
 (.reg [qM 26 2,
 qM 27 8,
 qM 28 9,
 qA 29 (.call (.t 26) [(.t 27), (.t 28)]),
 qA 30 (.un .not (.t 29))] (some [1,2,15,16,17,30]))
 (.cond (.t 30)
 (.seq
 (.reg [qA 6 (.mov (qB false))] (some [6]))
 .ret)
 .skip)))))
 (.reg [qA 31 (.bin .add .none (.t 17) (qI 1)),
 qM 17 31] (some [1,2,15,16,17]))))))))
 (.seq
 (.reg [qA 6 (.mov (qB true))] (some [6]))
 .ret))))
theorem is_slicesEqualFuncintintintint : IrOf Tryd.prog 27 32 ir_slicesEqualFuncintintintint [.t 6] := ⟨_, Tryd.func27, rfl, by kernel_rfl, by kernel_rfl, by kernel_rfl⟩

def ir_wireSame : ICode :=
 (.seq
 (.reg [qA 2 (.box 24 (.t 0)),
 qA 3 (.box 24 (.t 1)),
 qA 4 (.mov (qB false))] (some [2,3]))
 (.seq
 (.seq
 (.reg [qF 6 2 2,
 qL 7 6,
 qF 8 2 3,
 qL 9 8,
 qA 10 (.call (qC 27) [(.t 7), (.t 9), (qC 28)]),
 qA 11 (.un .not (.t 10))] (some [2,3,11]))
 (.cond (.t 11)
 (.seq
 (.reg [qA 4 (.mov (qB false))] (some [4]))
 .ret)
 .skip))
 (.seq
 (.reg [qF 12 0 2,
 qL 13 12,
 qF 14 0 3,
 qL 15 14,
 qA 16 (.bin .eql .none (.t 13) (.t 15)),
 qM 17 16,
 qG 18 17 true (.fa 1 (.t 2)),
 qG 19 17 true (.ld none (.t 18)),
 qG 20 17 true (.fa 1 (.t 3)),
 qG 21 17 true (.ld none (.t 20)),
 qG 22 17 true (.bin .eql .none (.t 19) (.t 21)),
 qA 23 (.pick (.t 17) (.t 22) (qB false)),
 qM 24 23,
 qG 25 24 true (.fa 4 (.t 2)),
 qG 26 24 true (.ld none (.t 25)),
 qG 27 24 true (.fa 4 (.t 3)),
 qG 28 24 true (.ld none (.t 27)),
 qG 29 24 true (.bin .eql .none (.t 26) (.t 28)),
 qA 30 (.pick (.t 24) (.t 29) (qB false)),
 qM 5 30] (some [2,3,5]))
 (.seq
 (.reg [qM 31 5,
 qM 32 31,
 qG 33 32 true (.fa 3 (.t 2)),
 qG 34 32 true (.ld none (.t 33)),
 qG 35 32 true (.fa 3 (.t 3)),
 qG 36 32 true (.ld none (.t 35)),
 qG 37 32 true (.bin .eql .none (.t 34) (.t 36)),
 qA 38 (.pick (.t 32) (.t 37) (qB false)),
 qM 39 38,
 qG 40 39 true (.fa 5 (.t 2)),
 qG 41 39 true (.ld none (.t 40)),
 qG 42 39 true (.fa 5 (.t 3)),
 qG 43 39 true (.ld none (.t 42)),
 qG 44 39 true (.bin .eql .none (.t 41) (.t 43)),
 qA 45 (.pick (.t 39) (.t 44) (qB false)),
 qM 4 45] (some [4]))
 .ret))))
theorem is_wireSame : IrOf Tryd.prog 12 46 ir_wireSame [.t 4] := ⟨_, Tryd.func12, rfl, by kernel_rfl, by kernel_rfl, by kernel_rfl⟩

theorem fs_EqualPars {Gl : Gh → Prop} (hst : Stays Gl) {a b : List (List Int)} {ta tb : Option Nm} (ha : a.length < 9223372036854775808) (hb : b.length < 9223372036854775808) (hpa : ∀ p ∈ a, p.length < 9223372036854775808) (hpb : ∀ p ∈ b, p.length < 9223372036854775808) : FS Tryd.prog Gl 27 [.sl ta 1 (parsAV a), .sl tb 1 (parsAV b), .fn (.func 28) [] []] [] [] (.bool (decide (a = b))) [] [] := by
  refine FS.of hm hst is_slicesEqualFuncintintintint (by simp) fun γ hγ hfr => ?_
  (generalize hQ : (fun (ex : Ex) (_ _ : Nat) (s : St) => _) = Q; unfold ir_slicesEqualFuncintintintint)
  simp +contextual (maxSteps := 1000000) only [parsAV_length, go_sem, reduceCtorEq, ↓reduceIte, Nat.reduceAdd, Nat.reduceEqDiff]
  refine kCond_split (fun h => ?_) (fun h => ?_)
  · simp +contextual (maxSteps := 1000000) only [go_sem, ↓reduceIte, Nat.reduceAdd]
    rw [← hQ]
    have : decide (a = b) = false := by
      simp only [bne_iff_ne, ne_eq] at h
      rw [decide_eq_false_iff_not]; intro e; subst e; simp at h
    rw [this]
    exact ⟨trivial, Ret.flat rfl rfl⟩
  · have hl : a.length = b.length := by simp at h; omega
    simp +contextual (maxSteps := 1000000) only [parsAV_length, go_sem, reduceCtorEq, ↓reduceIte, Nat.reduceAdd, Nat.reduceEqDiff]
    refine kLoop_ix (fun i : Nat => ⟨lf [(1, .sl tb 1 (parsAV b)), (2, .fn (.func 28) [] []), (15, .sl ta 1 (parsAV a)), (16, .int .i64 a.length), (17, .int .i64 i)], [], fun x => x ∈ []⟩) (fun i => i ≤ a.length ∧ a.take i = b.take i) (fun i => a.length - i) 0 0 (Wk.same ?_) ?_ ?_
    · (simp only [lfOK, upd, initF]; repeat' first | exact AVle.refl _ _ | exact trivial | refine And.intro ?_ ?_ | exact AVle.int (by simp only [IntKind.wrap_i64]; omega))
    · simp
    · rintro γ' i hf ⟨hi, hinv⟩
      generalize hQ' : kIt _ _ _ _ _ = Q'
      by_cases hlt : i < a.length
      · have hd : decide ((i : Int) < (a.length : Int)) = true := by simp; omega
        have hi2 : intsV a[i] = .sl none 1 (intsAV a[i]) := rfl
        have hi3 : intsV (b[i]'(by omega)) = .sl none 1 (intsAV (b[i]'(by omega))) := rfl
        have g1 : (parsAV a).getD (i : Int).toNat [] = [intsV a[i]] := by rw [Int.toNat_natCast]; exact parsAV_get hlt
        have g2 : (parsAV b).getD (i : Int).toNat [] = [intsV (b[i]'(by omega))] := by rw [Int.toNat_natCast]; exact parsAV_get (by omega)
        rw [hi2] at g1
        rw [hi3] at g2
        have c1 := fs_EqualInts (Gl := Gl) hst (a := a[i]) (b := b[i]'(by omega)) (ta := none) (tb := none) (hpa _ (List.getElem_mem _)) (hpb _ (List.getElem_mem _))
        simp +contextual (maxSteps := 1000000) only [parsAV_length, hd, g1, g2, go_sem, reduceCtorEq, ↓reduceIte, Nat.reduceAdd, Nat.reduceEqDiff]
        refine ⟨by omega, by omega, ?_⟩
        (refine CallP.pure (c1) (fun _ => rfl) ?_; simp +contextual (maxSteps := 1000000) only [go_sem, ↓reduceIte, Nat.reduceAdd, Nat.reduceEqDiff])
        cases hc : decide (a[i] = b[i]'(by omega)) with
        | false =>
          simp +contextual (maxSteps := 1000000) only [hc, go_sem, ↓reduceIte, Nat.reduceAdd]
          rw [← hQ']
          simp only [w_kIt_r, w_kBlk_r, w_kSeq_r]
          have e : decide (a = b) = false := by
            rw [decide_eq_false_iff_not]; intro e; subst e; exact of_decide_eq_false hc rfl
          rw [← hQ, e]
          exact ⟨trivial, Ret.flat rfl rfl⟩
        | true =>
          simp +contextual (maxSteps := 1000000) only [hc, go_sem, reduceCtorEq, ↓reduceIte, Nat.reduceAdd, Nat.reduceEqDiff]
          rw [← hQ']
          simp only [w_kIt_n]
          refine ⟨0, i + 1, Wk.same ?_, ⟨by omega, ?_⟩, by omega⟩
          · repeat' first | exact AVle.refl _ _ | exact trivial | refine And.intro ?_ ?_ | exact AVle.int (by simp only [IntKind.wrap_i64]; omega)
          · have h2 : a[i] = b[i]'(by omega) := of_decide_eq_true hc
            rw [List.take_add_one, List.take_add_one, hinv, List.getElem?_eq_getElem hlt, List.getElem?_eq_getElem (show i < b.length by omega), h2]
      · have hd : decide ((i : Int) < (a.length : Int)) = false := by simp; omega
        simp +contextual (maxSteps := 1000000) only [parsAV_length, hd, go_sem, reduceCtorEq, ↓reduceIte, Nat.reduceAdd, Nat.reduceEqDiff]
        rw [← hQ']
        simp only [w_kIt_e, w_kBlk_e, ↓reduceIte]
        simp +contextual (maxSteps := 1000000) only [go_sem, ↓reduceIte, Nat.reduceAdd]
        have e : decide (a = b) = true := by
          rw [decide_eq_true_eq]
          have h3 := hinv
          rw [List.take_of_length_le (by omega), List.take_of_length_le (by omega)] at h3
          exact h3
        rw [← hQ, e]
        exact ⟨trivial, Ret.flat rfl rfl⟩
structure Sq.szP (s : Sq) : Prop where
  ps : s.ps.length < 9223372036854775808
  pp : ∀ p ∈ s.ps, p.length < 9223372036854775808
theorem fs_wSame {Gl : Gh → Prop} (hst : Stays Gl) {a b : Sq} (ha : a.szP) (hb : b.szP) : FS Tryd.prog Gl 12 [.agg a.c, .agg b.c] [] [] (.bool (decide (a = b))) [] [] := by
  refine FS.of hm hst is_wireSame (by simp) fun γ hγ hfr => ?_
  obtain ⟨k, pr, ps, it, fi, da⟩ := a
  obtain ⟨k2, pr2, ps2, it2, fi2, da2⟩ := b
  have c1 := fs_EqualPars (Gl := Gl) hst (a := ps) (b := ps2) (ta := none) (tb := none) ha.ps hb.ps ha.pp hb.pp
  have hcc : ∀ (k pr : Int) ps it fi da, Sq.c ⟨k, pr, ps, it, fi, da⟩ = [.int .i64 k, .int .u8 pr, .sl none 1 (parsAV ps), .str it, .int .u8 fi, .str da] := fun _ _ _ _ _ _ => rfl
  have hz : decide ((⟨k, pr, ps, it, fi, da⟩ : Sq) = ⟨k2, pr2, ps2, it2, fi2, da2⟩) = (decide (ps = ps2) && ((((k == k2) && (pr == pr2)) && (fi == fi2)) && decide (it = it2) && decide (da = da2))) := by
    rw [Bool.eq_iff_iff]
    simp only [Sq.mk.injEq, decide_eq_true_eq, Bool.and_eq_true, beq_iff_eq]
    constructor
    · rintro ⟨a, b, c, d, e, f⟩; exact ⟨c, ⟨⟨⟨a, b⟩, e⟩, d⟩, f⟩
    · rintro ⟨c, ⟨⟨⟨a, b⟩, e⟩, d⟩, f⟩; exact ⟨a, b, c, d, e, f⟩
  (generalize hQ : (fun (ex : Ex) (_ _ : Nat) (s : St) => _) = Q; unfold ir_wireSame)
  simp +contextual (maxSteps := 1000000) only [hcc, go_sem, reduceCtorEq, ↓reduceIte, Nat.reduceAdd, Nat.reduceEqDiff]
  (refine CallP.pure (c1) (fun _ => rfl) ?_; simp +contextual (maxSteps := 1000000) only [go_sem, ↓reduceIte, Nat.reduceAdd, Nat.reduceEqDiff])
  cases hc : decide (ps = ps2) with
  | false =>
    simp +contextual (maxSteps := 1000000) only [hc, go_sem, ↓reduceIte, Nat.reduceAdd]
    rw [← hQ, hz, hc]
    exact ⟨trivial, Ret.flat rfl rfl⟩
  | true =>
    simp +contextual (maxSteps := 1000000) only [hc, go_sem, reduceCtorEq, ↓reduceIte, Nat.reduceAdd, Nat.reduceEqDiff]
    rw [← hQ, hz, hc]
    exact ⟨trivial, Ret.flat rfl rfl⟩
end Go.Proofs.YtcdkcfpgdbjogaaDoor

namespace Go.Proofs.YtcdkcfpgdbjogaaDoor
open Go Go.Ab
structure Sq.ok (s : Sq) : Prop where
  sm : s.sm
  pr : 0 ≤ s.pr ∧ s.pr < 256
  fi : 0 ≤ s.fi ∧ s.fi < 256
end Go.Proofs.YtcdkcfpgdbjogaaDoor

namespace Go.Proofs.YtcdkcfpgdbjogaaDoor
open Go Go.Ab
def ir_clavierlaw03awake : ICode :=
 (.seq
 (.reg [qA 0 (.mov (qB false))] (some []))
 (.seq
 (.reg [qA 7 (.row 3 1 [(qI 1), (qI 2)]),
 qA 8 (.call (qC 13) [(.c (.int .u8 63)), (.c (.int .u8 99)), (.t 7)]),
 qA 1 (.box 24 (.c (.agg [(.int .i64 0), (.int .u8 0), .nils, (.str []), (.int .u8 0), (.str [])]))),
 qN (.st 6 (.t 1) (.t 8))] (some [1]))
 (.seq
 (.reg [qA 10 (.ld (some 6) (.t 1)),
 qA 11 (.call (qC 7) [(.t 10)]),
 qM 9 11,
 qE 12 9 0,
 qE 13 9 1,
 qM 2 12,
 qM 3 13] (some [1,2,3]))
 (.seq
 (.reg [qA 15 (.row 5 1 [(.c (.int .u8 27)), (.c (.int .u8 91)), (.c (.int .u8 63)), (.c (.int .u8 49)), (.c (.int .u8 59)), (.c (.int .u8 50)), (.c (.int .u8 99)), (.c (.int .u8 120))]),
 qA 16 (.cvs (.t 15)),
 qA 17 (.call (qC 11) [(.t 16)]),
 qM 14 17,
 qE 18 14 0,
 qE 19 14 1,
 qE 20 14 2,
 qA 4 (.box 24 (.c (.agg [(.int .i64 0), (.int .u8 0), .nils, (.str []), (.int .u8 0), (.str [])]))),
 qN (.st 6 (.t 4) (.t 18)),
 qM 5 19,
 qM 6 20] (some [1,2,3,4,5,6]))
 (.seq
 (.reg [qM 21 3,
 qA 22 (.bin .eql .none (.t 21) (qI 0)),
 qM 23 22,
 qG 24 23 true (.mov (.t 2)),
 qG 25 23 true (.b2s (.t 24)),
 qG 26 23 true (.bin .eql .none (.t 25) (.c (.str [27, 91, 63, 49, 59, 50, 99]))),
 qA 27 (.pick (.t 23) (.t 26) (qB false)),
 qM 28 27,
 qG 29 28 true (.mov (.t 6)),
 qG 30 28 true (.bin .eql .none (.t 29) (qI 0)),
 qA 31 (.pick (.t 28) (.t 30) (qB false)),
 qM 32 31,
 qG 33 32 true (.mov (.t 5)),
 qG 34 32 true (.bin .eql .none (.t 33) (qI 7)),
 qA 35 (.pick (.t 32) (.t 34) (qB false)),
 qM 36 35,
 qG 37 36 true (.ld (some 6) (.t 1)),
 qG 38 36 true (.ld (some 6) (.t 4)),
 qG 39 36 true (.call (qC 12) [(.t 37), (.t 38)]),
 qA 40 (.pick (.t 36) (.t 39) (qB false)),
 qM 41 40,
 qG 42 41 true (.ld (some 6) (.t 1)),
 qG 43 41 true (.call (qC 14) [(.t 42), (qI 1), (qI 9)]),
 qG 44 41 true (.bin .eql .none (.t 43) (qI 2)),
 qA 45 (.pick (.t 41) (.t 44) (qB false)),
 qM 46 45,
 qG 47 46 true (.ld (some 6) (.t 1)),
 qG 48 46 true (.call (qC 14) [(.t 47), (qI 2), (qI 9)]),
 qG 49 46 true (.bin .eql .none (.t 48) (qI 9)),
 qA 50 (.pick (.t 46) (.t 49) (qB false)),
 qM 0 50] (some [0]))
 .ret)))))
theorem is_clavierlaw03awake : IrOf Tryd.prog 5 51 ir_clavierlaw03awake [.t 0] := ⟨_, Tryd.func5, rfl, by kernel_rfl, by kernel_rfl, by kernel_rfl⟩

/- clavier/clavierlaw03.few -/
def ir_clavierlaw03few_l0 : ICode :=
 (.seq
 (.seq
 (.reg [qM 4 3,
 qF 5 2 1,
 qL 6 5,
 qA 7 (.len (.t 6)),
 qA 8 (.bin .lss .none (.t 4) (.t 7)),
 qM 9 8,
 qG 10 9 true (.mov (.t 3)),
 qG 11 9 true (.bin .lss .none (.t 10) (qI 31)),
 qA 12 (.pick (.t 9) (.t 11) (qB false))] (some [1,3,12]))
 (.cond (.t 12)
 .skip
 (.exit 0)))
 (.seq
 (.blk 1
 (.seq
 (.reg [qF 15 2 1,
 qL 16 15,
 qM 17 3,
 qA 18 (.ia 1 (.t 16) (.t 17)),
 qL 19 18,
 qA 20 (.len (.t 19)),
 qA 21 (.bin .gtr .none (.t 20) (qI 20))] (some [1,3,21]))
 (.cond (.t 21)
 (.seq
 (.reg [qA 2 (.mov (qB false))] (some [2]))
 .ret)
 .skip)))
 (.reg [qM 13 3,
 qA 14 (.bin .add .none (.t 13) (qI 1)),
 qM 3 14] (some [1,3]))))
def ir_clavierlaw03few : ICode :=
 (.seq
 (.reg [qA 1 (.box 24 (.t 0)),
 qA 2 (.mov (qB false))] (some [1]))
 (.seq
 (.seq
 (.reg [qA 3 (.mov (qI 0))] (some [1,3]))
 (.blk 0
 (.loop
 ir_clavierlaw03few_l0)))
 (.seq
 (.reg [qF 22 2 1,
 qL 23 22,
 qA 24 (.len (.t 23)),
 qA 25 (.bin .leq .none (.t 24) (qI 30)),
 qM 26 25,
 qG 27 26 true (.fa 3 (.t 1)),
 qG 28 26 true (.ld none (.t 27)),
 qG 29 26 true (.lns (.t 28)),
 qG 30 26 true (.bin .leq .none (.t 29) (qI 10)),
 qA 31 (.pick (.t 26) (.t 30) (qB false)),
 qM 32 31,
 qG 33 32 true (.fa 5 (.t 1)),
 qG 34 32 true (.ld none (.t 33)),
 qG 35 32 true (.lns (.t 34)),
 qG 36 32 true (.bin .leq .none (.t 35) (qI 200)),
 qA 37 (.pick (.t 32) (.t 36) (qB false)),
 qM 2 37] (some [2]))
 .ret)))
theorem is_clavierlaw03few : IrOf Tryd.prog 6 38 ir_clavierlaw03few [.t 2] := ⟨_, Tryd.func6, rfl, by kernel_rfl, by kernel_rfl, by kernel_rfl⟩

theorem w3_a : mayP (numSq 1 63 99 [1, 2]) = 0 ∧ putB (numSq 1 63 99 [1, 2]) = [27, 91, 63, 49, 59, 50, 99] := by decide +kernel
theorem fs_wPutL {Gl : Gh → Prop} (hst : Stays Gl) {s : Sq} (h : s.ok) : FS Tryd.prog Gl 7 [.agg s.c] [] [] (.tup [.sl none 1 (bytesAV (putX s)), .int .i64 (mayP s)]) [] [] := by
  have := fs_wPut (Gl := Gl) hst h.pr.1 h.pr.2 h.fi.1 h.fi.2 h.sm
  refine FSR.res this ?_
  rintro r H T ⟨rfl, h2, h3⟩
  exact ⟨.tup [.sl none 1 (bytesAV (putX s)), .int .i64 (mayP s)], fun f => by
    have hrn : Ab.rn f (putV s) = putV s := by unfold putV; split <;> rfl
    simp only [Ab.rn, rnL, hrn]
    exact RepLe.tupL ⟨putV_le s, RepLe.refl _, trivial⟩, rfl, h2, h3⟩
theorem fs_awake03 {Gl : Gh → Prop} (hst : Stays Gl) : FS Tryd.prog Gl 5 [] [] [] (.bool true) [] [] := by
  refine FS.of hm hst is_clavierlaw03awake (by simp) fun γ hγ hfr => ?_
  obtain ⟨m1, m2⟩ := w3_a
  have hc : (numSq 1 63 99 [1, 2]).c = [.int .i64 1, .int .u8 63, .sl none 1 (parsAV [[1], [2]]), .str [], .int .u8 99, .str []] := rfl
  have hi : intsAV [1, 2] = [[.int .i64 1], [.int .i64 2]] := rfl
  have c1 := fun t : Option Nm => fs_Num (Gl := Gl) hst (pr := 63) (fi := 99) (nums := [1, 2]) (tn := t) (by simp)
  rw [hi, hc] at c1
  have c2 := fs_wPutL (Gl := Gl) hst (s := numSq 1 63 99 [1, 2]) ⟨⟨by simp [numSq], by simp [numSq], by simp [numSq], by simp [numSq]⟩, by simp [numSq], by simp [numSq]⟩
  rw [show putX (numSq 1 63 99 [1, 2]) = [27, 91, 63, 49, 59, 50, 99] by unfold putX; rw [m1, m2]; rfl, m1, hc] at c2
  obtain ⟨t1, t2, t3⟩ := take_may m1 [120]
  rw [m2] at t1 t2 t3
  rw [hc] at t3
  have c3 := fun t : Option Nm => fs_wTake (Gl := Gl) hst (b := [27, 91, 63, 49, 59, 50, 99, 120]) (tb := t) (by simp) t1 t2
  rw [show takeV [27, 91, 63, 49, 59, 50, 99, 120] = .tup [.agg [.int .i64 1, .int .u8 63, .sl none 1 (parsAV [[1], [2]]), .str [], .int .u8 99, .str []], .int .i64 7, .int .i64 0] from t3] at c3
  rw [show bytesAV [27, 91, 63, 49, 59, 50, 99, 120] = [[.int .u8 27], [.int .u8 91], [.int .u8 63], [.int .u8 49], [.int .u8 59], [.int .u8 50], [.int .u8 99], [.int .u8 120]] from rfl] at c3
  have c4 := fs_wSame (Gl := Gl) hst (a := numSq 1 63 99 [1, 2]) (b := numSq 1 63 99 [1, 2]) ⟨by simp [numSq], by simp [numSq]⟩ ⟨by simp [numSq], by simp [numSq]⟩
  rw [decide_eq_true rfl, hc] at c4
  have c5 := fs_wArg (Gl := Gl) hst (k := 1) (pr := 63) (fi := 99) (o := 9) (ps := [[1], [2]]) (it := []) (da := []) (i := 1)
  have c6 := fs_wArg (Gl := Gl) hst (k := 1) (pr := 63) (fi := 99) (o := 9) (ps := [[1], [2]]) (it := []) (da := []) (i := 2)
  rw [show argW [[1], [2]] 1 9 = 2 from rfl] at c5
  rw [show argW [[1], [2]] 2 9 = 9 from rfl] at c6
  clear t1 t2 t3 m1 m2 hc hi
  generalize parsAV [[1], [2]] = rows at *
  (generalize hQ : (fun (ex : Ex) (_ _ : Nat) (s : St) => _) = Q; unfold ir_clavierlaw03awake)
  simp +contextual (maxSteps := 1000000) only [go_sem, reduceCtorEq, ↓reduceIte, Nat.reduceAdd, Nat.reduceEqDiff, Nat.reduceLeDiff, Nat.reduceMul, Nat.reduceBEq, Int.reduceBEq, Int.reduceBNe, Int.reduceLT, Int.reduceLE, Int.reduceGT, Int.reduceGE, Int.reduceToNat]
  (refine CallP.pure (c1 _) (fun _ => rfl) ?_; simp +contextual (maxSteps := 1000000) only [go_sem, reduceCtorEq, ↓reduceIte, Nat.reduceAdd, Nat.reduceEqDiff, Nat.reduceLeDiff, Nat.reduceMul, Nat.reduceBEq, Int.reduceBEq, Int.reduceBNe, Int.reduceLT, Int.reduceLE, Int.reduceGT, Int.reduceGE, Int.reduceToNat])
  (refine CallP.pure (c2) (fun _ => rfl) ?_; simp +contextual (maxSteps := 1000000) only [go_sem, reduceCtorEq, ↓reduceIte, Nat.reduceAdd, Nat.reduceEqDiff, Nat.reduceLeDiff, Nat.reduceMul, Nat.reduceBEq, Int.reduceBEq, Int.reduceBNe, Int.reduceLT, Int.reduceLE, Int.reduceGT, Int.reduceGE, Int.reduceToNat])
  refine ⟨⟨.inl trivial, by simp⟩, ?_⟩
  (refine CallP.pure (c3 _) (fun _ => rfl) ?_; simp +contextual (maxSteps := 1000000) only [bb_un, bb_is, go_sem, reduceCtorEq, ↓reduceIte, Nat.reduceAdd, Nat.reduceEqDiff, Nat.reduceLeDiff, Nat.reduceMul, Nat.reduceBEq, Int.reduceBEq, Int.reduceBNe, Int.reduceLT, Int.reduceLE, Int.reduceGT, Int.reduceGE, Int.reduceToNat])
  (refine CallP.pure (c4) (fun _ => rfl) ?_; simp +contextual (maxSteps := 1000000) only [go_sem, reduceCtorEq, ↓reduceIte, Nat.reduceAdd, Nat.reduceEqDiff, Nat.reduceLeDiff, Nat.reduceMul, Nat.reduceBEq, Int.reduceBEq, Int.reduceBNe, Int.reduceLT, Int.reduceLE, Int.reduceGT, Int.reduceGE, Int.reduceToNat])
  (refine CallP.pure (c5) (fun _ => rfl) ?_; simp +contextual (maxSteps := 1000000) only [go_sem, reduceCtorEq, ↓reduceIte, Nat.reduceAdd, Nat.reduceEqDiff, Nat.reduceLeDiff, Nat.reduceMul, Nat.reduceBEq, Int.reduceBEq, Int.reduceBNe, Int.reduceLT, Int.reduceLE, Int.reduceGT, Int.reduceGE, Int.reduceToNat])
  (refine CallP.pure (c6) (fun _ => rfl) ?_; simp +contextual (maxSteps := 1000000) only [go_sem, reduceCtorEq, ↓reduceIte, Nat.reduceAdd, Nat.reduceEqDiff, Nat.reduceLeDiff, Nat.reduceMul, Nat.reduceBEq, Int.reduceBEq, Int.reduceBNe, Int.reduceLT, Int.reduceLE, Int.reduceGT, Int.reduceGE, Int.reduceToNat])
  rw [← hQ]
  exact ⟨trivial, Ret.flat rfl rfl⟩
def fewB (s : Sq) : Bool := if (s.ps.take 31).any (fun p => decide (p.length > 20)) = true then false else (decide (s.ps.length ≤ 30) && decide (s.it.length ≤ 10)) && decide (s.da.length ≤ 200)
structure Few (s : Sq) : Prop where
  ps : s.ps.length ≤ 30
  pp : ∀ p ∈ s.ps, p.length ≤ 20
  it : s.it.length ≤ 10
  da : s.da.length ≤ 200
theorem fs_few {Gl : Gh → Prop} (hst : Stays Gl) {s : Sq} (h1 : s.ps.length < 9223372036854775808) : FS Tryd.prog Gl 6 [.agg s.c] [] [] (.bool (fewB s)) [] [] := by
  refine FS.of hm hst is_clavierlaw03few (by simp) fun γ hγ hfr => ?_
  have hz : fewB s = if (s.ps.take 31).any (fun p => decide (p.length > 20)) = true then false else (decide (s.ps.length ≤ 30) && decide (s.it.length ≤ 10)) && decide (s.da.length ≤ 200) := rfl
  obtain ⟨k, pr, ps, it, fi, da⟩ := s
  have hcc : Sq.c ⟨k, pr, ps, it, fi, da⟩ = [.int .i64 k, .int .u8 pr, .sl none 1 (parsAV ps), .str it, .int .u8 fi, .str da] := rfl
  simp only at h1 hz
  rw [hcc]
  (generalize hQ : (fun (ex : Ex) (_ _ : Nat) (s : St) => _) = Q; unfold ir_clavierlaw03few)
  simp +contextual (maxSteps := 1000000) only [go_sem, reduceCtorEq, ↓reduceIte, Nat.reduceAdd, Nat.reduceEqDiff, Nat.reduceLeDiff, Nat.reduceMul, Nat.reduceBEq, Int.reduceBEq, Int.reduceBNe, Int.reduceLT, Int.reduceLE, Int.reduceGT, Int.reduceGE, Int.reduceToNat]
  refine kLoop_ix (fun i : Nat => ⟨lf [(1, .ptr (γ, 0, 0) 0), (3, .int .i64 i)], [((γ, 0, 0), .cells [.int .i64 k, .int .u8 pr, .sl none 1 (parsAV ps), .str it, .int .u8 fi, .str da])], fun x => x ∈ []⟩) (fun i => i ≤ ps.length ∧ i ≤ 31 ∧ (ps.take i).any (fun p => decide (p.length > 20)) = false) (fun i => ps.length - i) 0 0 (Wk.same ?_) (by simp) ?_
  · (simp only [lfOK, upd, initF]; repeat' first | exact AVle.refl _ _ | exact trivial | refine And.intro ?_ ?_ | exact AVle.int (by simp only [IntKind.wrap_i64]; omega))
  rintro γ' i hf ⟨hi, hi31, hinv⟩
  generalize hQ' : kIt _ _ _ _ _ = Q'
  unfold ir_clavierlaw03few_l0
  by_cases hlt : i < ps.length ∧ i < 31
  · have hd : (decide ((i : Int) < (ps.length : Int)) && decide ((i : Int) < 31)) = true := by simp; omega
    have hg : (parsAV ps).getD i [] = [intsV (ps[i]'(by omega))] := parsAV_get (by omega)
    have hw : IntKind.i64.wrap ((i : Int) + 1) = ((i + 1 : Nat) : Int) := by rw [IntKind.wrap_i64]; omega
    by_cases hb : (ps[i]'(by omega)).length > 20
    · have hd2 : decide (((ps[i]'(by omega)).length : Int) > 20) = true := decide_eq_true (by omega)
      simp +contextual (maxSteps := 1000000) only [hd, hg, Int.toNat_natCast, parsAV_length, intsAV_length, hd2, intsV, go_sem, reduceCtorEq, ↓reduceIte, Nat.reduceAdd, Nat.reduceEqDiff, Nat.reduceLeDiff, Nat.reduceMul, Nat.reduceBEq, Int.reduceBEq, Int.reduceBNe, Int.reduceLT, Int.reduceLE, Int.reduceGT, Int.reduceGE, Int.reduceToNat]
      refine ⟨by omega, ?_⟩
      rw [← hQ']
      simp only [w_kIt_r, w_kBlk_r]
      simp +contextual (maxSteps := 1000000) only [go_sem, reduceCtorEq, ↓reduceIte, Nat.reduceAdd, Nat.reduceEqDiff, Nat.reduceLeDiff, Nat.reduceMul, Nat.reduceBEq, Int.reduceBEq, Int.reduceBNe, Int.reduceLT, Int.reduceLE, Int.reduceGT, Int.reduceGE, Int.reduceToNat]
      have : (ps.take 31).any (fun p => decide (p.length > 20)) = true := by
        rw [List.any_eq_true]
        exact ⟨ps[i]'(by omega), List.mem_iff_getElem.2 ⟨i, by simp; omega, by simp⟩, decide_eq_true hb⟩
      rw [← hQ, hz, if_pos this]
      exact ⟨trivial, Ret.flat rfl rfl⟩
    · have hd2 : decide (((ps[i]'(by omega)).length : Int) > 20) = false := decide_eq_false (by omega)
      simp +contextual (maxSteps := 1000000) only [hd, hg, Int.toNat_natCast, parsAV_length, intsAV_length, hd2, intsV, go_sem, reduceCtorEq, ↓reduceIte, Nat.reduceAdd, Nat.reduceEqDiff, Nat.reduceLeDiff, Nat.reduceMul, Nat.reduceBEq, Int.reduceBEq, Int.reduceBNe, Int.reduceLT, Int.reduceLE, Int.reduceGT, Int.reduceGE, Int.reduceToNat]
      refine ⟨by omega, ?_⟩
      rw [← hQ']
      simp only [w_kIt_n]
      refine ⟨0, i + 1, Wk.same ?_, ⟨by omega, by omega, ?_⟩, by omega⟩
      · rw [hw]
        (simp only [lfOK, upd, initF]; repeat' first | exact AVle.refl _ _ | exact trivial | refine And.intro ?_ ?_ | exact AVle.int (by simp only [IntKind.wrap_i64]; omega))
      · rw [List.take_add_one, List.getElem?_eq_getElem (by omega), List.any_append, hinv]
        simp; omega
  · have hd : (decide ((i : Int) < (ps.length : Int)) && decide ((i : Int) < 31)) = false := by
      rw [Bool.eq_false_iff]; simp; omega
    simp +contextual (maxSteps := 1000000) only [hd, parsAV_length, go_sem, reduceCtorEq, ↓reduceIte, Nat.reduceAdd, Nat.reduceEqDiff, Nat.reduceLeDiff, Nat.reduceMul, Nat.reduceBEq, Int.reduceBEq, Int.reduceBNe, Int.reduceLT, Int.reduceLE, Int.reduceGT, Int.reduceGE, Int.reduceToNat]
    rw [← hQ']
    simp only [w_kIt_e, w_kBlk_e, ↓reduceIte]
    have e1 : decide ((ps.length : Int) ≤ 30) = decide (ps.length ≤ 30) := by rw [decide_eq_decide]; omega
    have e2 : decide ((it.length : Int) ≤ 10) = decide (it.length ≤ 10) := by rw [decide_eq_decide]; omega
    have e3 : decide ((da.length : Int) ≤ 200) = decide (da.length ≤ 200) := by rw [decide_eq_decide]; omega
    have hany : (ps.take 31).any (fun p => decide (p.length > 20)) = false := by
      rcases (by omega : i = ps.length ∨ i = 31) with e | e
      · rw [List.take_of_length_le (by omega)]
        rw [List.take_of_length_le (by omega)] at hinv
        exact hinv
      · subst e; exact hinv
    simp +contextual (maxSteps := 1000000) only [parsAV_length, e1, e2, e3, go_sem, reduceCtorEq, ↓reduceIte, Nat.reduceAdd, Nat.reduceEqDiff, Nat.reduceLeDiff, Nat.reduceMul, Nat.reduceBEq, Int.reduceBEq, Int.reduceBNe, Int.reduceLT, Int.reduceLE, Int.reduceGT, Int.reduceGE, Int.reduceToNat]
    rw [← hQ, hz, if_neg (by rw [hany]; simp)]
    exact ⟨trivial, Ret.flat rfl rfl⟩
end Go.Proofs.YtcdkcfpgdbjogaaDoor

namespace Go.Proofs.YtcdkcfpgdbjogaaDoor
open Go Go.Ab
def ir_clavierlaw03WireBack : ICode :=
 (.seq
 (.reg [qA 3 (.box 24 (.t 0)),
 qA 6 (.mov (qB false))] (some [1,2,3]))
 (.seq
 (.reg [qA 16 (.call (qC 5) []),
 qM 7 16] (some [1,2,3,7]))
 (.seq
 (.seq
 (.reg [qA 17 (.ld (some 6) (.t 3)),
 qA 18 (.call (qC 6) [(.t 17)]),
 qA 19 (.un .not (.t 18)),
 qM 20 19,
 qG 21 20 false (.mov (.t 1)),
 qG 22 20 false (.len (.t 21)),
 qG 23 20 false (.bin .gtr .none (.t 22) (qI 100)),
 qA 24 (.pick (.t 20) (qB true) (.t 23))] (some [1,2,3,7,24]))
 (.cond (.t 24)
 (.seq
 (.reg [qM 25 7,
 qM 6 25] (some [6]))
 .ret)
 .skip))
 (.seq
 (.reg [qA 27 (.ld (some 6) (.t 3)),
 qA 28 (.call (qC 7) [(.t 27)]),
 qM 26 28,
 qE 29 26 0,
 qE 30 26 1,
 qM 8 29,
 qM 9 30] (some [1,2,3,7,8,9]))
 (.seq
 (.seq
 (.reg [qM 31 9,
 qA 32 (.bin .neq .none (.t 31) (qI 0)),
 qM 33 32,
 qG 34 33 false (.mov (.t 8)),
 qG 35 33 false (.len (.t 34)),
 qG 36 33 false (.bin .eql .none (.t 35) (qI 0)),
 qA 37 (.pick (.t 33) (qB true) (.t 36))] (some [1,2,3,7,8,9,37]))
 (.cond (.t 37)
 (.seq
 (.reg [qM 38 7,
 qM 39 38,
 qG 40 39 true (.mov (.t 9)),
 qG 41 39 true (.bin .neq .none (.t 40) (qI 0)),
 qA 42 (.pick (.t 39) (.t 41) (qB false)),
 qM 43 42,
 qG 44 43 true (.mov (.t 8)),
 qG 45 43 true (.len (.t 44)),
 qG 46 43 true (.bin .eql .none (.t 45) (qI 0)),
 qA 47 (.pick (.t 43) (.t 46) (qB false)),
 qM 6 47] (some [6]))
 .ret)
 .skip))
 (.seq
 (.reg [qA 49 (.row 5 1 []),
 qM 50 8,
 qA 51 (.app 5 1 1 (.t 49) (.t 50)),
 qM 52 1,
 qA 53 (.app 5 1 1 (.t 51) (.t 52)),
 qA 54 (.call (qC 11) [(.t 53)]),
 qM 48 54,
 qE 55 48 0,
 qE 56 48 1,
 qE 57 48 2,
 qA 10 (.box 24 (.c (.agg [(.int .i64 0), (.int .u8 0), .nils, (.str []), (.int .u8 0), (.str [])]))),
 qN (.st 6 (.t 10) (.t 55)),
 qM 11 56,
 qM 12 57] (some [2,3,7,8,10,11,12]))
 (.seq
 (.reg [qM 59 8,
 qM 60 2,
 qA 61 (.cvi .i64 (.t 60)),
 qM 62 8,
 qA 63 (.len (.t 62)),
 qA 64 (.bin .rem .none (.t 61) (.t 63)),
 qA 65 (.sll 1 (.t 59) none (some (.t 64)) none),
 qA 66 (.call (qC 11) [(.t 65)]),
 qM 58 66,
 qE 67 58 0,
 qE 68 58 1,
 qE 69 58 2,
 qA 13 (.box 24 (.c (.agg [(.int .i64 0), (.int .u8 0), .nils, (.str []), (.int .u8 0), (.str [])]))),
 qN (.st 6 (.t 13) (.t 67)),
 qM 14 68,
 qM 15 69] (some [3,7,8,10,11,12,15]))
 (.seq
 (.reg [qM 70 7,
 qM 71 70,
 qG 72 71 true (.mov (.t 12)),
 qG 73 71 true (.bin .eql .none (.t 72) (qI 0)),
 qA 74 (.pick (.t 71) (.t 73) (qB false)),
 qM 75 74,
 qG 76 75 true (.mov (.t 11)),
 qG 77 75 true (.mov (.t 8)),
 qG 78 75 true (.len (.t 77)),
 qG 79 75 true (.bin .eql .none (.t 76) (.t 78)),
 qA 80 (.pick (.t 75) (.t 79) (qB false)),
 qM 81 80,
 qG 82 81 true (.ld (some 6) (.t 3)),
 qG 83 81 true (.ld (some 6) (.t 10)),
 qG 84 81 true (.call (qC 12) [(.t 82), (.t 83)]),
 qA 85 (.pick (.t 81) (.t 84) (qB false)),
 qM 86 85,
 qG 87 86 true (.mov (.t 15)),
 qG 88 86 true (.bin .eql .none (.t 87) (qI 2)),
 qA 89 (.pick (.t 86) (.t 88) (qB false)),
 qM 6 89] (some [6]))
 .ret))))))))
theorem is_clavierlaw03WireBack : IrOf Tryd.prog 4 90 ir_clavierlaw03WireBack [.t 6] := ⟨_, Tryd.func4, rfl, by kernel_rfl, by kernel_rfl, by kernel_rfl⟩

theorem putB_neW (s : Sq) : putB s ≠ [] := by
  unfold putB
  repeat' split
  all_goals simp
theorem putB_lenW {s : Sq} (h : mayP s = 0) : (putB s).length ≤ 8000 := by
  have h1 := bodyB_len h
  obtain ⟨_, h2, h3, h4, h5⟩ := mayP_sm h
  unfold putB
  simp only
  repeat' split
  all_goals simp only [List.length_append, List.length_cons, List.length_nil]; omega
set_option maxHeartbeats 4000000 in
theorem fs_WireBack {Gl : Gh → Prop} (hst : Stays Gl) {s : Sq} {more : List UInt8} {cut : Nat} (hs : s.ok) (_ : more.length ≤ maxLen) (hcut : cut < 65536) : FS Tryd.prog Gl 4 [.agg s.c, .sl none 1 (bytesAV more), .int .u16 (cut : Int)] [] [] (.bool true) [] [] := by
  refine FS.of hm hst is_clavierlaw03WireBack (by simp) fun γ hγ hfr => ?_
  have hcc : ∀ s : Sq, s.c = [.int .i64 s.k, .int .u8 s.pr, .sl none 1 (parsAV s.ps), .str s.it, .int .u8 s.fi, .str s.da] := fun _ => rfl
  have c1 := fs_few (Gl := Gl) hst (s := s) hs.sm.ps
  have c2 := fs_wPut (Gl := Gl) hst hs.pr.1 hs.pr.2 hs.fi.1 hs.fi.2 hs.sm
  have c5 := fs_wSame (Gl := Gl) hst (a := s) (b := s) ⟨hs.sm.ps, hs.sm.pp⟩ ⟨hs.sm.ps, hs.sm.pp⟩
  rw [decide_eq_true rfl] at c5
  rw [hcc] at c1 c2 c5
  rw [hcc]
  (generalize hQ : (fun (ex : Ex) (_ _ : Nat) (s : St) => _) = Q; unfold ir_clavierlaw03WireBack)
  simp +contextual (maxSteps := 1000000) only [go_sem, reduceCtorEq, ↓reduceIte, Nat.reduceAdd, Nat.reduceEqDiff, Nat.reduceLeDiff, Nat.reduceMul, Nat.reduceBEq, Int.reduceBEq, Int.reduceBNe, Int.reduceLT, Int.reduceLE, Int.reduceGT, Int.reduceGE, Int.reduceToNat]
  (refine CallP.pure (fs_awake03 hst) (fun _ => rfl) ?_; simp +contextual (maxSteps := 1000000) only [go_sem, reduceCtorEq, ↓reduceIte, Nat.reduceAdd, Nat.reduceEqDiff, Nat.reduceLeDiff, Nat.reduceMul, Nat.reduceBEq, Int.reduceBEq, Int.reduceBNe, Int.reduceLT, Int.reduceLE, Int.reduceGT, Int.reduceGE, Int.reduceToNat])
  (refine CallP.pure (c1) (fun _ => rfl) ?_; simp +contextual (maxSteps := 1000000) only [go_sem, reduceCtorEq, ↓reduceIte, Nat.reduceAdd, Nat.reduceEqDiff, Nat.reduceLeDiff, Nat.reduceMul, Nat.reduceBEq, Int.reduceBEq, Int.reduceBNe, Int.reduceLT, Int.reduceLE, Int.reduceGT, Int.reduceGE, Int.reduceToNat])
  cases hF : fewB s with
  | false =>
    simp +contextual (maxSteps := 1000000) only [hF, go_sem, reduceCtorEq, ↓reduceIte, Nat.reduceAdd, Nat.reduceEqDiff, Nat.reduceLeDiff, Nat.reduceMul, Nat.reduceBEq, Int.reduceBEq, Int.reduceBNe, Int.reduceLT, Int.reduceLE, Int.reduceGT, Int.reduceGE, Int.reduceToNat]
    rw [← hQ]
    exact ⟨trivial, Ret.flat rfl rfl⟩
  | true =>
  by_cases hl : (more.length : Int) > 100
  · have hd : decide ((more.length : Int) > 100) = true := decide_eq_true hl
    simp +contextual (maxSteps := 1000000) only [hF, hd, bytesAV_length', go_sem, reduceCtorEq, ↓reduceIte, Nat.reduceAdd, Nat.reduceEqDiff, Nat.reduceLeDiff, Nat.reduceMul, Nat.reduceBEq, Int.reduceBEq, Int.reduceBNe, Int.reduceLT, Int.reduceLE, Int.reduceGT, Int.reduceGE, Int.reduceToNat]
    rw [← hQ]
    exact ⟨trivial, Ret.flat rfl rfl⟩
  have hd : decide ((more.length : Int) > 100) = false := decide_eq_false hl
  by_cases hm' : mayP s = 0
  · have hpl := putB_lenW hm'
    have hpn := putB_neW s
    have hpl0 : 0 < (putB s).length := List.length_pos_iff.2 hpn
    have hq0 : (((putB s).length : Int) == 0) = false := by rw [beq_eq_false_iff_ne]; omega
    have c3 : FS Tryd.prog Gl 7 [.agg [.int .i64 s.k, .int .u8 s.pr, .sl none 1 (parsAV s.ps), .str s.it, .int .u8 s.fi, .str s.da]] [] [] (.tup [.slr 0 1 (bytesAV (putB s)), .int .i64 0]) [] [] := by
      refine FSR.res c2 ?_
      rintro r H T ⟨rfl, h2, h3⟩
      refine ⟨.tup [.slr 0 1 (bytesAV (putB s)), .int .i64 0], fun f => ?_, rfl, h2, h3⟩
      have hpv : putV s = .sl none 1 (bytesAV (putB s)) := by unfold putV; rw [hm']; rfl
      rw [hpv, hm']
      exact RepLe.tupL ⟨RepLe.room (by simpa [bytesAV] using hpn), RepLe.refl _, trivial⟩
    obtain ⟨t1, t2, t3⟩ := take_may hm' more
    have c4 := fun t : Option Nm => fs_wTake (Gl := Gl) hst (b := putB s ++ more) (tb := t) (by simp only [List.length_append]; omega) t1 t2
    rw [t3, hcc] at c4
    rw [show bytesAV (putB s ++ more) = bytesAV (putB s) ++ bytesAV more by simp [bytesAV]] at c4
    have hmod : (cut : Int).tmod ((putB s).length : Int) = ((cut % (putB s).length : Nat) : Int) := (Int.ofNat_tmod _ _).symm
    have hlt := Nat.mod_lt cut hpl0
    have hno := takeW_cut hm' hlt
    have c6 : FS Tryd.prog Gl 11 [.slr ((putB s).length + 0 - cut % (putB s).length) 1 ((bytesAV (putB s)).take (cut % (putB s).length))] [] [] (.tup [.agg [.int .i64 0, .int .u8 0, .sl none 1 [], .str [], .int .u8 0, .str []], .int .i64 0, .int .i64 2]) [] [] := by
      have := fs_wTakeR (Gl := Gl) hst (rm := (putB s).length + 0 - cut % (putB s).length) (b := (putB s).take (cut % (putB s).length)) (by omega) (by rw [List.length_take]; omega)
      rw [show takeV ((putB s).take (cut % (putB s).length)) = .tup [.agg [.int .i64 0, .int .u8 0, .sl none 1 [], .str [], .int .u8 0, .str []], .int .i64 0, .int .i64 2] by unfold takeV; rw [hno]; rfl] at this
      rwa [← bytesAV_take] at this
    generalize cut % (putB s).length = k at *
    generalize putB s = pb at *
    simp +contextual (maxSteps := 1000000) only [hF, hd, bytesAV_length', go_sem, reduceCtorEq, ↓reduceIte, Nat.reduceAdd, Nat.reduceEqDiff, Nat.reduceLeDiff, Nat.reduceMul, Nat.reduceBEq, Int.reduceBEq, Int.reduceBNe, Int.reduceLT, Int.reduceLE, Int.reduceGT, Int.reduceGE, Int.reduceToNat]
    (refine CallP.pure (c3) (fun _ => rfl) ?_; simp +contextual (maxSteps := 1000000) only [bytesAV_length', hq0, go_sem, reduceCtorEq, ↓reduceIte, Nat.reduceAdd, Nat.reduceEqDiff, Nat.reduceLeDiff, Nat.reduceMul, Nat.reduceBEq, Int.reduceBEq, Int.reduceBNe, Int.reduceLT, Int.reduceLE, Int.reduceGT, Int.reduceGE, Int.reduceToNat])
    refine ⟨⟨.inl trivial, by omega⟩, ⟨.inl trivial, by omega⟩, ?_⟩
    have hwk : IntKind.i64.wrap (cut : Int) = (cut : Int) := by rw [IntKind.wrap_i64]; omega
    have hwm : IntKind.i64.wrap (k : Int) = (k : Int) := by rw [IntKind.wrap_i64]; omega
    (refine CallP.pure (c4 _) (fun _ => rfl) ?_; simp +contextual (maxSteps := 1000000) only [bytesAV_length', hwk, hwm, hmod, Int.toNat_natCast, Int.toNat_zero, List.drop_zero, go_sem, reduceCtorEq, ↓reduceIte, Nat.reduceAdd, Nat.reduceEqDiff, Nat.reduceLeDiff, Nat.reduceMul, Nat.reduceBEq, Int.reduceBEq, Int.reduceBNe, Int.reduceLT, Int.reduceLE, Int.reduceGT, Int.reduceGE, Int.reduceToNat])
    refine ⟨by omega, ⟨by omega, by omega, .inl (by omega)⟩, ?_⟩
    have hqq : (((pb.length : Nat) : Int) == ((pb.length : Nat) : Int)) = true := by simp
    (refine CallP.pure (c6) (fun _ => rfl) ?_; simp +contextual (maxSteps := 1000000) only [bytesAV_length', hqq, go_sem, reduceCtorEq, ↓reduceIte, Nat.reduceAdd, Nat.reduceEqDiff, Nat.reduceLeDiff, Nat.reduceMul, Nat.reduceBEq, Int.reduceBEq, Int.reduceBNe, Int.reduceLT, Int.reduceLE, Int.reduceGT, Int.reduceGE, Int.reduceToNat])
    (refine CallP.pure (c5) (fun _ => rfl) ?_; simp +contextual (maxSteps := 1000000) only [go_sem, reduceCtorEq, ↓reduceIte, Nat.reduceAdd, Nat.reduceEqDiff, Nat.reduceLeDiff, Nat.reduceMul, Nat.reduceBEq, Int.reduceBEq, Int.reduceBNe, Int.reduceLT, Int.reduceLE, Int.reduceGT, Int.reduceGE, Int.reduceToNat])
    rw [← hQ]
    exact ⟨trivial, Ret.flat rfl rfl⟩
  · have hpv : putV s = .nils := by unfold putV; rw [if_pos (by rw [bne_iff_ne]; exact hm')]
    have hq : (mayP s != 0) = true := by rw [bne_iff_ne]; exact hm'
    rw [hpv] at c2
    simp +contextual (maxSteps := 1000000) only [hF, hd, bytesAV_length', go_sem, reduceCtorEq, ↓reduceIte, Nat.reduceAdd, Nat.reduceEqDiff, Nat.reduceLeDiff, Nat.reduceMul, Nat.reduceBEq, Int.reduceBEq, Int.reduceBNe, Int.reduceLT, Int.reduceLE, Int.reduceGT, Int.reduceGE, Int.reduceToNat]
    (refine CallP.pure (c2) (fun _ => rfl) ?_; simp +contextual (maxSteps := 1000000) only [hq, go_sem, reduceCtorEq, ↓reduceIte, Nat.reduceAdd, Nat.reduceEqDiff, Nat.reduceLeDiff, Nat.reduceMul, Nat.reduceBEq, Int.reduceBEq, Int.reduceBNe, Int.reduceLT, Int.reduceLE, Int.reduceGT, Int.reduceGE, Int.reduceToNat])
    rw [← hQ]
    exact ⟨trivial, Ret.flat rfl rfl⟩
end Go.Proofs.YtcdkcfpgdbjogaaDoor

namespace Go.Proofs.YtcdkcfpgdbjogaaDoor
open Go Go.Ab Go.WideShapes Go.RowKit
theorem seat_own : ownKnob Tryd.prog.godebug = none := by kernel_rfl
theorem seat_laidOut : laidOutB Tryd.prog = true := by kernel_rfl
section
variable {H : Type} {enc : TypeId × Value → H} {W : World} {base : Nat} {v : Value} {d : DataW H} {p : List MemPlace}
theorem tr_bytes : TR enc Tryd.prog W 27 fun xs => ∃ l : List UInt8, xs = [.sl none 1 (bytesAV l)] ∧ l.length ≤ maxLen := by
  refine (TR.slice (e := 5) (sz := 1) (by kernel_rfl) (by kernel_rfl) (by omega) (TR.int (k := .u8) (by kernel_rfl))).mono ?_
  rintro xs ⟨rows, rfl, h1, h2⟩
  obtain ⟨l, rfl⟩ := bytesAV_of fun r hr => (h2 r hr).1
  exact ⟨l, rfl, by rwa [bytesAV_length] at h1⟩
theorem op_bytes (hv : Value.okWide Tryd.prog W .any base 27 v) (hd : DataW.Trod enc Tryd.prog W 0 (fun _ => true) true 27 v d p) : ∃ l : List UInt8, l.length ≤ maxLen ∧ Rep (gh0 W) (.sl none 1 (bytesAV l)) v := by
  obtain ⟨a, len, cap, rfl⟩ := okWide_slice (P := Tryd.prog) (e := 5) (by kernel_rfl) hv
  obtain ⟨x, ⟨l, h1, h2⟩, hr⟩ := tr_bytes.arg1 rfl hd
  simp only [List.cons.injEq, and_true] at h1
  subst h1
  exact ⟨l, h2, hr⟩
end
end Go.Proofs.YtcdkcfpgdbjogaaDoor

namespace Go.Proofs.YtcdkcfpgdbjogaaDoor
open Go Go.Ab
end Go.Proofs.YtcdkcfpgdbjogaaDoor

namespace Go.Proofs.YtcdkcfpgdbjogaaDoor
open Go Go.Ab
theorem fixW_of5 {W : World} (h : laidMetH Tryd.prog [("math/bits.deBruijn32tab", Rows.laid_math_bits_deBruijn32tab), ("math/bits.deBruijn64tab", Rows.laid_math_bits_deBruijn64tab), ("internal/strconv.uint64pow10", Rows.laid_internal_strconv_uint64pow10), ("unicode/utf8.acceptRanges", Rows.laid_unicode_utf8_acceptRanges), ("unicode/utf8.first", Rows.laid_unicode_utf8_first)] W) : FixW W := by
  rw [MakeChecks.laidMetH_plain _ _ _ (by kernel_rfl)] at h
  have h2 := laidMet.filter (fun x => x.1 == "internal/strconv.uint64pow10") h
  have h3 : laidMet Tryd.prog [("internal/strconv.uint64pow10", Lib.tabData .u64 Lib.pow10Tab)] W := h2
  have h4 := Lib.tabIs_of_head (g := 3) (t := 112) (e := 102) (n := 20) (by kernel_rfl) (by kernel_rfl) (by kernel_rfl) (by kernel_rfl) (by kernel_rfl) (by kernel_rfl) h3
  intro p hp
  obtain rfl := List.mem_singleton.1 hp
  unfold Lib.TabIs World.var? at h4
  rw [show Program.globalNamed Tryd.prog "internal/strconv.uint64pow10" = some 3 from by kernel_rfl] at h4
  simp only [Option.bind_some] at h4
  split at h4
  · rename_i cs e fr hh
    simp only [Option.some.injEq] at h4
    refine ⟨e, fr, ?_⟩
    rw [hh, h4]
    simp [Lib.pow10Tab]
  · cases h4
end Go.Proofs.YtcdkcfpgdbjogaaDoor

namespace Go.Proofs.YtcdkcfpgdbjogaaDoor
open Go Go.Ab Go.WideShapes Go.RowKit
section
variable {H : Type} {enc : TypeId × Value → H} {W : World} {base : Nat} {v : Value} {d : DataW H} {p : List MemPlace}
theorem ints_of : ∀ {rows : List (List AV)}, (∀ r ∈ rows, ∃ n : Int, r = [.int .i64 n] ∧ IntKind.i64.min ≤ n ∧ n ≤ IntKind.i64.max) → ∃ l : List Int, rows = intsAV l
  | [], _ => ⟨[], rfl⟩
  | r :: rows, h => by
    obtain ⟨n, rfl, _⟩ := h r List.mem_cons_self
    obtain ⟨l, rfl⟩ := ints_of (rows := rows) fun r hr => h r (List.mem_cons_of_mem _ hr)
    exact ⟨n :: l, rfl⟩
theorem tr_ints : TR enc Tryd.prog W 43 fun xs => ∃ l : List Int, xs = [intsV l] ∧ l.length ≤ maxLen := by
  refine (TR.slice (e := 3) (sz := 1) (by kernel_rfl) (by kernel_rfl) (by omega) (TR.int (k := .i64) (by kernel_rfl))).mono ?_
  rintro xs ⟨rows, rfl, h1, h2⟩
  obtain ⟨l, rfl⟩ := ints_of fun r hr => (h2 r hr).1
  exact ⟨l, rfl, by rwa [intsAV_length] at h1⟩
theorem pars_of : ∀ {rows : List (List AV)}, (∀ r ∈ rows, ∃ l : List Int, r = [intsV l] ∧ l.length ≤ maxLen) → ∃ l : List (List Int), rows = parsAV l ∧ ∀ p ∈ l, p.length ≤ maxLen
  | [], _ => ⟨[], rfl, by simp⟩
  | r :: rows, h => by
    obtain ⟨n, rfl, h1⟩ := h r List.mem_cons_self
    obtain ⟨l, rfl, h2⟩ := pars_of (rows := rows) fun r hr => h r (List.mem_cons_of_mem _ hr)
    exact ⟨n :: l, rfl, fun p hp => (List.mem_cons.1 hp).elim (fun e => by rw [e]; exact h1) (h2 p)⟩
theorem tr_pars : TR enc Tryd.prog W 22 fun xs => ∃ l : List (List Int), xs = [parsV l] ∧ l.length ≤ maxLen ∧ ∀ p ∈ l, p.length ≤ maxLen := by
  refine (TR.slice (e := 43) (sz := 1) (by kernel_rfl) (by kernel_rfl) (by omega) tr_ints).mono ?_
  rintro xs ⟨rows, rfl, h1, h2⟩
  obtain ⟨l, rfl, h3⟩ := pars_of fun r hr => (h2 r hr).1
  exact ⟨l, rfl, by rwa [parsAV_length] at h1, h3⟩
theorem u8r {n : Int} (h : IntKind.u8.min ≤ n ∧ n ≤ IntKind.u8.max) : 0 ≤ n ∧ n < 256 := by
  have h1' : 0 ≤ n := by simpa [IntKind.min, IntKind.signed] using h.1
  have h2' : n ≤ 255 := by simpa [IntKind.max, IntKind.signed, IntKind.bits] using h.2
  omega
theorem seq_is : structIs Tryd.prog 24 [(0, 3), (1, 5), (2, 22), (3, 9), (4, 5), (5, 9)] = true := by kernel_rfl
theorem tr_Seq : TR enc Tryd.prog W 24 fun xs => ∃ s : Sq, xs = s.c ∧ s.ok := by
  refine (TR.structL (Rs := [fun xs => ∃ n, xs = [.int .i64 n] ∧ IntKind.i64.min ≤ n ∧ n ≤ IntKind.i64.max, fun xs => ∃ n, xs = [.int .u8 n] ∧ IntKind.u8.min ≤ n ∧ n ≤ IntKind.u8.max, fun xs => ∃ l : List (List Int), xs = [parsV l] ∧ l.length ≤ maxLen ∧ ∀ p ∈ l, p.length ≤ maxLen, fun xs => ∃ s, xs = [.str s] ∧ s.length ≤ maxLen, fun xs => ∃ n, xs = [.int .u8 n] ∧ IntKind.u8.min ≤ n ∧ n ≤ IntKind.u8.max, fun xs => ∃ s, xs = [.str s] ∧ s.length ≤ maxLen]) 6 seq_is (by kernel_rfl) ?_).mono ?_
  · exact ⟨rfl, TR.int (by kernel_rfl), 1, by kernel_rfl, rfl, TR.int (by kernel_rfl), 1, by kernel_rfl, rfl, tr_pars, 1, by kernel_rfl, rfl, TR.str (by kernel_rfl), 1, by kernel_rfl, rfl, TR.int (by kernel_rfl), 1, by kernel_rfl, rfl, TR.str (by kernel_rfl), 1, by kernel_rfl, rfl⟩
  · rintro xs ⟨_, _, ⟨k, rfl, _⟩, ⟨_, _, ⟨pr, rfl, hpr⟩, ⟨_, _, ⟨ps, rfl, hp1, hp2⟩, ⟨_, _, ⟨it, rfl, hi⟩, ⟨_, _, ⟨fi, rfl, hfi⟩, ⟨_, _, ⟨da, rfl, hd⟩, h, rfl⟩, rfl⟩, rfl⟩, rfl⟩, rfl⟩, rfl⟩
    have h : _ = [] := h
    subst h
    simp only [maxLen] at hp1 hp2 hi hd
    exact ⟨⟨k, pr, ps, it, fi, da⟩, rfl, ⟨⟨by simp only; omega, fun p hp => by have := hp2 p hp; omega, by simp only; omega, by simp only; omega⟩, u8r hpr, u8r hfi⟩⟩
theorem op_apiSeq (hv : Value.okWide Tryd.prog W .any base 24 v) (hd : DataW.Trod enc Tryd.prog W 0 (fun _ => true) true 24 v d p) : ∃ s : Sq, s.ok ∧ Rep (gh0 W) (.agg s.c) v := by
  obtain ⟨cs, rfl⟩ := okWide_struct seq_is hv
  obtain ⟨xs, ⟨s, rfl, h⟩, hr⟩ := tr_Seq.argN hd
  exact ⟨s, h, hr⟩
end
end Go.Proofs.YtcdkcfpgdbjogaaDoor

namespace Go.Proofs.YtcdkcfpgdbjogaaDoor
open Go
def zero_apiSeq : Value := .agg #[.int .i64 0, .int .u8 0, .slice none 0 0, .string ByteArray.empty, .int .u8 0, .string ByteArray.empty]
end Go.Proofs.YtcdkcfpgdbjogaaDoor

namespace Go.Proofs.YtcdkcfpgdbjogaaDoor
open Go Go.Ab Go.WideShapes Go.RowKit
def zero_uint16 : Value := .int .u16 0
section
variable {H : Type} {enc : TypeId × Value → H} {W : World} {base : Nat} {v : Value} {d : DataW H} {p : List MemPlace}
theorem op_uint16 (hv : Value.okWide Tryd.prog W .any base 36 v) (hd : DataW.Trod enc Tryd.prog W 0 (fun _ => true) true 36 v d p) : ∃ c : Nat, c < 65536 ∧ Rep (gh0 W) (.int .u16 (c : Int)) v := by
  obtain ⟨n, rfl⟩ := okWide_int (P := Tryd.prog) (k := .u16) (by kernel_rfl) hv
  obtain ⟨x, ⟨m, h1, h2, h3⟩, hr⟩ := (TR.int (P := Tryd.prog) (k := .u16) (by kernel_rfl)).arg1 rfl hd
  simp only [List.cons.injEq, and_true] at h1
  subst h1
  have h2' : 0 ≤ m := by simpa [IntKind.min, IntKind.signed] using h2
  have h3' : m ≤ 65535 := by simpa [IntKind.max, IntKind.signed, IntKind.bits] using h3
  obtain ⟨k, rfl⟩ : ∃ k : Nat, m = (k : Int) := ⟨m.toNat, by omega⟩
  exact ⟨k, by omega, hr⟩
end
end Go.Proofs.YtcdkcfpgdbjogaaDoor

namespace Go.Proofs.YtcdkcfpgdbjogaaDoor
open Go Go.Ab Go.ChangeShapes Go.WideShapes Go.ChangeAt Go.RowKit
theorem wireBack_lifted (os : Os) (started : os.Started) (H : Type) (enc : TypeId × Value → H) (F : Stop.Interp) :
    ReturnsInHanded {} Tryd.checked os 4 .any ((OpenSpec.ofChange Rows.wireBackSpec).preRow enc Tryd.prog Tryd.f4 Rows.wireBackRow.domain false Rows.wireBackRow.laid) (((OpenSpec.ofChange Rows.wireBackSpec).at F).post enc Tryd.prog Tryd.f4 false true false false) := by
  have hw : (DataW.whole enc Tryd.prog ((World.laidAll Tryd.prog os [("math/bits.deBruijn32tab", Rows.laid_math_bits_deBruijn32tab), ("math/bits.deBruijn64tab", Rows.laid_math_bits_deBruijn64tab), ("internal/strconv.uint64pow10", Rows.laid_internal_strconv_uint64pow10), ("unicode/utf8.acceptRanges", Rows.laid_unicode_utf8_acceptRanges), ("unicode/utf8.first", Rows.laid_unicode_utf8_first)]).forCall (fun _ _ => 0) ⟨#[], #[zero_apiSeq, .slice none 0 0, zero_uint16], []⟩).memory Tryd.f4.params.toList (OpenSpec.ofChange Rows.wireBackSpec).vars false (#[zero_apiSeq, .slice none 0 0, zero_uint16] : Array Value).toList 8).any (fun x => true) = true := by kernel_rfl
  cases hx : DataW.whole enc Tryd.prog ((World.laidAll Tryd.prog os [("math/bits.deBruijn32tab", Rows.laid_math_bits_deBruijn32tab), ("math/bits.deBruijn64tab", Rows.laid_math_bits_deBruijn64tab), ("internal/strconv.uint64pow10", Rows.laid_internal_strconv_uint64pow10), ("unicode/utf8.acceptRanges", Rows.laid_unicode_utf8_acceptRanges), ("unicode/utf8.first", Rows.laid_unicode_utf8_first)]).forCall (fun _ _ => 0) ⟨#[], #[zero_apiSeq, .slice none 0 0, zero_uint16], []⟩).memory Tryd.f4.params.toList (OpenSpec.ofChange Rows.wireBackSpec).vars false (#[zero_apiSeq, .slice none 0 0, zero_uint16] : Array Value).toList 8 with
  | none => rw [hx] at hw; cases hw
  | some x =>
  rw [hx] at hw
  have hok : Input.okWideB Tryd.checked.prog ((World.laidAll Tryd.prog os [("math/bits.deBruijn32tab", Rows.laid_math_bits_deBruijn32tab), ("math/bits.deBruijn64tab", Rows.laid_math_bits_deBruijn64tab), ("internal/strconv.uint64pow10", Rows.laid_internal_strconv_uint64pow10), ("unicode/utf8.acceptRanges", Rows.laid_unicode_utf8_acceptRanges), ("unicode/utf8.first", Rows.laid_unicode_utf8_first)]).forCall (fun _ _ => 0) ⟨#[], #[zero_apiSeq, .slice none 0 0, zero_uint16], []⟩) 4 ⟨#[], #[zero_apiSeq, .slice none 0 0, zero_uint16], []⟩ = true := by kernel_rfl
  refine returnsInHanded_of_row (C := Tryd.checked) (s := (OpenSpec.ofChange Rows.wireBackSpec)) seat_own started (by kernel_rfl) Tryd.func4
    ⟨World.laidAll Tryd.prog os [("math/bits.deBruijn32tab", Rows.laid_math_bits_deBruijn32tab), ("math/bits.deBruijn64tab", Rows.laid_math_bits_deBruijn64tab), ("internal/strconv.uint64pow10", Rows.laid_internal_strconv_uint64pow10), ("unicode/utf8.acceptRanges", Rows.laid_unicode_utf8_acceptRanges), ("unicode/utf8.first", Rows.laid_unicode_utf8_first)], fun _ _ => 0, ⟨#[], #[zero_apiSeq, .slice none 0 0, zero_uint16], []⟩, World.laidAll_os _ _ _, World.shaped_of_ZipB (by kernel_rfl) (by kernel_rfl), (Input.okWide_of_okWideB (base := 0) hok).1, (Input.okWide_of_okWideB hok).2,
      OpenSpec.preRow_of_cond 8 hx (by kernel_rfl) (fun k hk => by cases hk) (by kernel_rfl) (by rw [show Rows.wireBackRow.laid = [("math/bits.deBruijn32tab", Rows.laid_math_bits_deBruijn32tab), ("math/bits.deBruijn64tab", Rows.laid_math_bits_deBruijn64tab), ("internal/strconv.uint64pow10", Rows.laid_internal_strconv_uint64pow10), ("unicode/utf8.acceptRanges", Rows.laid_unicode_utf8_acceptRanges), ("unicode/utf8.first", Rows.laid_unicode_utf8_first)] from rfl, MakeChecks.laidMetH_plain _ _ _ (by kernel_rfl)]; exact laidMet_laidAll _ (by kernel_rfl) (by kernel_rfl)),
      by simp only [Assume.holds]; exact ⟨by simp, by simp, fun _ => Modest.zero, by simp, by simp⟩⟩ ?_
  intro W base args ds gs before hval0 hW _ hcond hreach hL _ _
  have hval : ∀ (j : Nat) t v, Tryd.f4.params[j]? = some t → args[j]? = some v → Value.okWide Tryd.prog W .any base t v := hval0
  have hW' := hW
  obtain ⟨p, q, hA0, hV, rfl, _, _⟩ := hW
  have hA : DataW.TrodAll enc Tryd.prog W 0 (fun _ => true) true Tryd.f4.params.toList args.toList ds p := hA0
  rw [Tryd.params4] at hA hval
  obtain ⟨v0, vs0, d0, ds0, p0, q0, hargs, rfl, rfl, h0, r0⟩ := trodAll_cons hA
  obtain ⟨v1, vs1, d1, ds1, p1, q1, rfl, rfl, rfl, h1, r1⟩ := trodAll_cons r0
  obtain ⟨v2, vs2, d2, ds2, p2, q2, rfl, rfl, rfl, h2, r2⟩ := trodAll_cons r1
  obtain ⟨rfl, rfl, rfl⟩ := trodAll_nil r2
  obtain rfl : args = #[v0, v1, v2] := by cases args; simp_all
  obtain ⟨rfl, rfl⟩ := trodVars_none hV
  have lt0 : ∀ x ∈ p0, x.block < W.heap.size := by obtain ⟨m, hm⟩ := h0; exact DataW.trod_lt m _ _ _ hm
  obtain ⟨x0, c0, e0⟩ := op_apiSeq (hval 0 24 v0 rfl rfl) h0
  have lt1 : ∀ x ∈ p1, x.block < W.heap.size := by obtain ⟨m, hm⟩ := h1; exact DataW.trod_lt m _ _ _ hm
  obtain ⟨x1, c1, e1⟩ := op_bytes (hval 1 27 v1 rfl rfl) h1
  have lt2 : ∀ x ∈ p2, x.block < W.heap.size := by obtain ⟨m, hm⟩ := h2; exact DataW.trod_lt m _ _ _ hm
  obtain ⟨x2, c2, e2⟩ := op_uint16 (hval 2 36 v2 rfl rfl) h2
  clear hA0 hval0
  refine ((fs_WireBack (Gl := fun _ => True) (fun _ _ _ _ => trivial) c0 c1 c2).row (fixW_of5 hL) trivial ⟨_, _, rfl, e0, ⟨_, _, rfl, e1, ⟨_, _, rfl, e2, rfl⟩⟩⟩).mono fun e W' ⟨v, g', he, hr, bel⟩ => ?_
  obtain rfl : v = .bool true := hr
  subst he
  exact ⟨_, rfl, _, _, _, [], _, [], hW', trodAll_mk1 (shut_bool (show Tryd.prog.underlying 4 = some .bool by kernel_rfl) _), (trodAll_cons_mk (Below.trod seat_laidOut (by kernel_rfl) (of_decide_eq_true (by kernel_rfl)) h0 bel lt0) (trodAll_cons_mk (Below.trod seat_laidOut (by kernel_rfl) (of_decide_eq_true (by kernel_rfl)) h1 bel lt1) (trodAll_cons_mk (Below.trod seat_laidOut (by kernel_rfl) (of_decide_eq_true (by kernel_rfl)) h2 bel lt2) trodAll_mk0))), rfl, bel.frame _, fun h => by cases h⟩
theorem wireBack_holds : Rows.WireBackSaid :=
  OpenClaim.holds_of_cond 4 Tryd.f4 rfl rfl rfl rfl rfl rfl rfl ⟨rfl, rfl, rfl, rfl, rfl⟩ rfl rfl rfl rfl rfl (by kernel_rfl) Tryd.func4 (by kernel_rfl)
    (of_decide_eq_true (by kernel_rfl)) (by unfold Func.isWrapper; first | (rw [if_pos (by decide +kernel)]; kernel_rfl) | (rw [if_neg (by decide +kernel)]; exact ⟨rfl, rfl⟩))
    (fun os started H enc _ F => by rw [OpenClaim.pre_eq_preRow]; exact wireBack_lifted os started H enc F)
theorem wireBack_card : Rows.WireBackCardSaid :=
  Claim7.holds_tied_plain_at .later [] [.data, .data, .data, .data, .pinned] true (true, "d5292084b9ab7f77eb3202276cc8c4e6c0a8445b269373b2eae56c37e354ddd0") false wireBack_holds (fun _ h => by cases h) (by kernel_rfl) (fun _ h => by cases h) wireBack_row_tie rfl ⟨rfl, rfl⟩ (by kernel_rfl) rfl
    (fun f fn hf hfn => by
      obtain rfl : f = 4 := Option.some.inj ((show Tryd.prog.funcNamed "clavier/clavierlaw03.WireBack" = some 4 by kernel_rfl).symm.trans hf) |>.symm
      obtain rfl : fn = Tryd.f4 := (Option.some.inj (Tryd.func4.symm.trans hfn)).symm
      exact ⟨by kernel_rfl, fun j t ht => by
        rw [Tryd.params4] at ht
        have hm : t ∈ ([24, 27, 36] : List Nat) := by simpa using Array.mem_of_getElem? ht
        have hall : (([24, 27, 36] : List Nat).all fun u => !Tryd.prog.wantsStandIn u) = true := by kernel_rfl
        exact (show Tryd.prog.wantsStandIn t = false by simpa using List.all_eq_true.1 hall t hm)⟩)
    (by kernel_rfl)
#print axioms wireBack_card
end Go.Proofs.YtcdkcfpgdbjogaaDoor

