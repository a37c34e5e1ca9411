/- Part 3 of 3 of a proof: the given statement KittyForms, whatever the input that its row lets in. Conditions: those of the given row and card alone. -/
import Derived.Test.YtionnmnjbopkkaaDoorMKittyForms2
import Derived.Test.YtionnmnjbopkkaaDoorAb13
import Derived.Test.YtionnmnjbopkkaaDoorMKittyForms1
import Derived.WalkKit
import Derived.ProofKit
import Derived.SizedLaws
import Derived.Test.YtionnmnjbopkkaaDoorRows
import Derived.LaidSub
import Derived.Lib.LaidTab
import Derived.Lib.ItoaNum
import Derived.MakeChecks
import Derived.Test.YtionnmnjbopkkaaDoorCards
import Derived.Test.YtionnmnjbopkkaaDoorTie
import Derived.OpenShut
import Derived.ShutString
import Derived.ChangeOld
import Derived.Below
import Derived.Lay
import Derived.LaidOnce
import Derived.SevenTiedAt
/- Sequences of a size that may be. -/
set_option linter.unusedVariables false
set_option linter.unusedSimpArgs false
namespace Go.Proofs.YtionnmnjbopkkaaDoor
open Go Go.Ab

/-- No list of it is longer than there may be. -/
structure Sq.sm (s : Sq) : Prop where
  ps : s.ps.length < 9223372036854775808
  pp : ∀ p ∈ s.ps, p.length < 9223372036854775808
  it : s.it.length < 9223372036854775808
  da : s.da.length < 9223372036854775808
theorem parsOk_len {l : List (List Int)} (h : parsOk l = true) : l.length ≤ 16 ∧ ∀ p ∈ l, p.length ≤ 8 := by
  simp only [parsOk, Bool.and_eq_true, Bool.not_eq_true', Bool.or_eq_false_iff, decide_eq_false_iff_not] at h
  obtain ⟨⟨h1, _⟩, h2⟩ := h
  refine ⟨by omega, fun p hp => ?_⟩
  have := List.any_eq_false.1 h2 p hp
  simp only [parBad, Bool.or_eq_true, decide_eq_true_eq, not_or] at this
  omega
theorem mayP_sm {s : Sq} (h : mayP s = 0) : s.sm ∧ s.ps.length ≤ 16 ∧ (∀ p ∈ s.ps, p.length ≤ 8) ∧ s.it.length ≤ 2 ∧ s.da.length ≤ 4096 := by
  simp only [mayP] at h
  split at h
  · cases h
  · rename_i h1
    split at h
    · cases h
    · rename_i h2
      simp only [Bool.or_eq_true, Bool.not_eq_true', not_or, Bool.not_eq_false, Bool.and_eq_true, decide_eq_true_eq] at h2 h1
      obtain ⟨⟨⟨⟨_, h3⟩, h4⟩, _⟩, _⟩ := h2
      obtain ⟨k1, k2⟩ := parsOk_len h4
      have k3 : s.it.length ≤ 2 := by have := h3.1; omega
      have k4 : s.da.length ≤ 4096 := by omega
      exact ⟨⟨by omega, fun p hp => by have := k2 p hp; omega, by omega, by omega⟩, k1, k2, k3, k4⟩

end Go.Proofs.YtionnmnjbopkkaaDoor

/- The reference's layer 3: Put, walked. -/
set_option linter.unusedVariables false
set_option linter.unusedSimpArgs false
set_option maxRecDepth 100000
namespace Go.Proofs.YtionnmnjbopkkaaDoor
open Go Go.Ab
/-- A sequence as bytes. -/
def putB (s : Sq) : List UInt8 :=
  let f := [s.fi.toNat.toUInt8]
  if (s.k == 1) = true then [27, 91] ++ bodyB s ++ f
  else if (s.k == 2) = true then [27, 79] ++ f
  else if (s.k == 3) = true then [27, 80] ++ bodyB s ++ f ++ s.da ++ [27, 92]
  else if (s.k == 4) = true then [27, 93] ++ s.da ++ [27, 92]
  else [27] ++ s.it ++ f
def putV (s : Sq) : AV := if (mayP s != 0) = true then .nils else .sl none 1 (bytesAV (putB s))
theorem bodyB_len {s : Sq} (h : mayP s = 0) : (bodyB s).length ≤ 3000 := by
  obtain ⟨_, h1, h2, h3, h4⟩ := mayP_sm h
  have h5 : parsOk s.ps = true := by
    simp only [mayP] at h
    split at h
    · cases h
    · split at h
      · cases h
      · rename_i h2
        simp only [Bool.or_eq_true, Bool.not_eq_true', not_or, Bool.not_eq_false] at h2
        exact h2.1.1.2
  have := parsText_len (ps := s.ps) fun p hp => ⟨((parsOk_iff h5).2.2 p hp).2.1, fun n hn => (((parsOk_iff h5).2.2 p hp).2.2 n hn).2⟩
  have h6 : (prB s.pr).length ≤ 1 := by unfold prB; split <;> simp
  simp only [bodyB, List.length_append]; omega
theorem may_pars {s : Sq} (h : mayP s = 0) : parsOk s.ps = true := by
  simp only [mayP] at h
  split at h
  · cases h
  · split at h
    · cases h
    · rename_i h2
      simp only [Bool.or_eq_true, Bool.not_eq_true', not_or, Bool.not_eq_false] at h2
      exact h2.1.1.2
end Go.Proofs.YtionnmnjbopkkaaDoor

/- Sequences as bytes, walked: the program's. -/
set_option linter.unusedVariables false
set_option linter.unusedSimpArgs false
set_option maxRecDepth 100000
namespace Go.Proofs.YtionnmnjbopkkaaDoor
open Go Go.Ab
/- clavier/wire.one -/
def ir_wireone_l0 : ICode :=
 (.seq
        (.reg [⟨some 9, none, .bin .lss .none (.t 8) (.t 7)⟩] (some [3, 6, 7, 8, 9]))
        (.seq
         (.cond (.t 9)
          .skip
          (.exit 0))
         (.seq
          (.blk 1
           (.seq
            (.reg [⟨some 10, none, .ia 1 (.t 6) (.t 8)⟩,
              ⟨some 11, none, .ld none (.t 10)⟩,
              ⟨some 5, none, .mov (.t 11)⟩] (some [3, 5, 6, 7, 8]))
            (.reg [⟨some 12, none, .mov (.t 3)⟩,
              ⟨some 13, none, .mov (.t 5)⟩,
              ⟨some 14, none, .call (.c (.fn (.func 102) [] [])) [(.t 13)]⟩,
              ⟨some 15, none, .row 9 1 [(.t 14)]⟩,
              ⟨some 16, none, .app 9 1 16 (.t 12) (.t 15)⟩,
              ⟨some 3, none, .mov (.t 16)⟩] (some [3, 6, 7, 8]))))
          (.reg [⟨some 17, none, .bin .add .none (.t 8) (.c (.int .i64 1))⟩,
            ⟨some 8, none, .mov (.t 17)⟩] (some [3, 6, 7, 8])))))
def ir_wireone : ICode :=
 (.seq
  (.reg [⟨some 2, none, .mov (.c (.str []))⟩] (some [0]))
  (.seq
   (.reg [⟨some 3, none, .mov (.c .nils)⟩] (some [0, 3]))
   (.seq
    (.seq
     (.reg [⟨some 6, none, .mov (.t 0)⟩,
       ⟨some 7, none, .len (.t 6)⟩,
       ⟨some 8, none, .mov (.c (.int .i64 0))⟩] (some [3, 6, 7, 8]))
     (.blk 0
      (.loop
       ir_wireone_l0)))
    (.seq
     (.reg [⟨some 18, none, .mov (.t 3)⟩,
       ⟨some 19, none, .call (.c (.fn (.func 85) [] [])) [(.t 18), (.c (.str [58]))]⟩,
       ⟨some 2, none, .mov (.t 19)⟩] (some [2]))
     .ret))))
theorem is_wireone : IrOf Tryd.prog 86 20 ir_wireone [.t 2] := ⟨_, Tryd.func86, rfl, by kernel_rfl, by kernel_rfl, by kernel_rfl⟩

/- clavier/wire.body -/
def ir_wirebody_l0 : ICode :=
 (.seq
        (.reg [⟨some 11, none, .bin .lss .none (.t 10) (.t 9)⟩] (some [1, 3, 8, 9, 10, 11]))
        (.seq
         (.cond (.t 11)
          .skip
          (.exit 0))
         (.seq
          (.blk 1
           (.seq
            (.reg [⟨some 12, none, .ia 1 (.t 8) (.t 10)⟩,
              ⟨some 13, none, .ld none (.t 12)⟩,
              ⟨some 5, none, .mov (.t 13)⟩] (some [1, 3, 5, 8, 9, 10]))
            (.reg [⟨some 14, none, .mov (.t 3)⟩,
              ⟨some 15, none, .mov (.t 5)⟩,
              ⟨some 16, none, .call (.c (.fn (.func 86) [] [])) [(.t 15)]⟩,
              ⟨some 17, none, .row 9 1 [(.t 16)]⟩,
              ⟨some 18, none, .app 9 1 16 (.t 14) (.t 17)⟩,
              ⟨some 3, none, .mov (.t 18)⟩] (some [1, 3, 8, 9, 10]))))
          (.reg [⟨some 19, none, .bin .add .none (.t 10) (.c (.int .i64 1))⟩,
            ⟨some 10, none, .mov (.t 19)⟩] (some [1, 3, 8, 9, 10])))))
def ir_wirebody : ICode :=
 (.seq
  (.reg [⟨some 1, none, .box 32 (.t 0)⟩,
    ⟨some 2, none, .mov (.c (.str []))⟩] (some [1]))
  (.seq
   (.reg [⟨some 3, none, .mov (.c .nils)⟩] (some [1, 3]))
   (.seq
    (.seq
     (.reg [⟨some 7, none, .fa 2 (.t 1)⟩,
       ⟨some 8, none, .ld none (.t 7)⟩,
       ⟨some 9, none, .len (.t 8)⟩,
       ⟨some 10, none, .mov (.c (.int .i64 0))⟩] (some [1, 3, 8, 9, 10]))
     (.blk 0
      (.loop
       ir_wirebody_l0)))
    (.seq
     (.drw [⟨⟨some 20, none, .mov (.t 3)⟩, []⟩,
       ⟨⟨some 21, none, .call (.c (.fn (.func 85) [] [])) [(.t 20), (.c (.str [59]))]⟩, [0]⟩,
       ⟨⟨some 22, none, .fa 3 (.t 1)⟩, []⟩,
       ⟨⟨some 23, none, .ld none (.t 22)⟩, [2]⟩,
       ⟨⟨some 24, none, .bin .add .none (.t 21) (.t 23)⟩, [1, 3]⟩,
       ⟨⟨some 25, none, .fa 4 (.t 1)⟩, []⟩,
       ⟨⟨some 26, none, .ld none (.t 25)⟩, [5]⟩,
       ⟨⟨some 27, none, .row 5 1 [(.t 26)]⟩, [6]⟩,
       ⟨⟨some 28, none, .b2s (.t 27)⟩, [7]⟩,
       ⟨⟨some 29, none, .bin .add .none (.t 24) (.t 28)⟩, [4, 8]⟩]
       [⟨some 6, none, .mov (.t 29)⟩] (some [1, 6]))
     (.seq
      (.seq
       (.reg [⟨some 30, none, .fa 1 (.t 1)⟩,
         ⟨some 31, none, .ld none (.t 30)⟩,
         ⟨some 32, none, .bin .neq .none (.t 31) (.c (.int .u8 0))⟩] (some [1, 6, 32]))
       (.cond (.t 32)
        (.reg [⟨some 33, none, .fa 1 (.t 1)⟩,
          ⟨some 34, none, .ld none (.t 33)⟩,
          ⟨some 35, none, .row 5 1 [(.t 34)]⟩,
          ⟨some 36, none, .b2s (.t 35)⟩,
          ⟨some 37, none, .mov (.t 6)⟩,
          ⟨some 38, none, .bin .add .none (.t 36) (.t 37)⟩,
          ⟨some 6, none, .mov (.t 38)⟩] (some [6]))
        .skip))
      (.seq
       (.reg [⟨some 39, none, .mov (.t 6)⟩,
         ⟨some 2, none, .mov (.t 39)⟩] (some [2]))
       .ret))))))
theorem is_wirebody : IrOf Tryd.prog 60 40 ir_wirebody [.t 2] := ⟨_, Tryd.func60, rfl, by kernel_rfl, by kernel_rfl, by kernel_rfl⟩

/-- clavier/wire.glue -/
def ir_wireglue : ICode :=
 (.seq
  (.reg [⟨some 2, none, .mov (.c .nils)⟩] (some [0]))
  (.seq
   (.reg [⟨some 3, none, .row 5 1 [(.c (.int .u8 27))]⟩,
     ⟨some 4, none, .mov (.t 0)⟩,
     ⟨some 5, none, .call (.c (.fn (.func 85) [] [])) [(.t 4), (.c (.str []))]⟩,
     ⟨some 6, none, .aps 5 (.t 3) (.t 5)⟩,
     ⟨some 2, none, .mov (.t 6)⟩] (some [2]))
   .ret))
theorem is_wireglue : IrOf Tryd.prog 59 7 ir_wireglue [.t 2] := ⟨_, Tryd.func59, rfl, by kernel_rfl, by kernel_rfl, by kernel_rfl⟩


theorem join_jn (c : UInt8) : ∀ xs : List (List UInt8), Lib.join xs [c] = jn c xs
  | [] => rfl
  | [x] => by simp [Lib.join, List.intercalate, jn]
  | x :: y :: l => by
    have ih := join_jn c (y :: l)
    simp only [Lib.join, List.intercalate] at ih ⊢
    rw [jn, ← ih]
    simp [List.intersperse]
theorem join_flat : ∀ xs : List (List UInt8), Lib.join xs [] = xs.flatten
  | [] => rfl
  | [x] => by simp [Lib.join, List.intercalate]
  | x :: y :: l => by
    have ih := join_flat (y :: l)
    simp only [Lib.join, List.intercalate] at ih ⊢
    rw [List.flatten_cons, ← ih]
    simp [List.intersperse]
theorem strsAV_snoc (xs : List (List UInt8)) (x : List UInt8) : strsAV (xs ++ [x]) = strsAV xs ++ [[.str x]] := by simp [strsAV]
theorem strsAV_length (xs : List (List UInt8)) : (strsAV xs).length = xs.length := by simp [strsAV]
set_option maxHeartbeats 2000000 in
theorem fs_one {Gl : Gh → Prop} (hst : Stays Gl) {p : List Int} {t : Option Nm} (hl : p.length ≤ 100000) (hp : ∀ n ∈ p, n ≤ 1114111) : FS Tryd.prog Gl 86 [.sl t 1 (intsAV p)] [] [] (.str (subText p)) [] [] := by
  refine FS.of hm hst is_wireone (by simp) fun γ hγ hfr => ?_
  have hsl := subText_len hp
  (generalize hQ : (fun (ex : Ex) (_ _ : Nat) (s : St) => _) = Q; unfold ir_wireone)
  simp +contextual (maxSteps := 1000000) only [intsAV_length, go_sem, reduceCtorEq, ↓reduceIte, Nat.reduceAdd, Nat.reduceEqDiff, Nat.reduceLeDiff, Nat.reduceMul, Nat.reduceBEq, Int.reduceBEq, Int.reduceBNe, Int.reduceLT, Int.reduceLE, Int.reduceGT, Int.reduceGE, Int.reduceToNat, Int.natCast_one, Int.natCast_zero, Int.cast_ofNat_Int]
  refine kLoop_ix (fun q : Nat × Option Nm => ⟨lf [(3, sv q.2 1 (strsAV ((p.take q.1).map textZ))), (6, .sl t 1 (intsAV p)), (7, .int .i64 (p.length : Int)), (8, .int .i64 (q.1 : Int))], [], fun x => q.2 = some x⟩)
    (fun q => q.1 ≤ p.length ∧ (q.2 = none → q.1 = 0)) (fun q => p.length - q.1) 0 (0, none) ?_ ⟨by simp, by simp⟩ ?_
  · refine Wk.perm' ?_ (fun p hp => by cases hp) (fun t ht => by cases ht)
    simp only [lfOK, upd]
    repeat' first | exact AVle.refl _ _ | exact trivial | refine And.intro ?_ ?_ | exact AVle.int (by simp only [IntKind.wrap_i64]; omega)
  · rintro γ' ⟨i, tk⟩ hf ⟨hi, htk⟩
    simp only at hi htk
    generalize hQ' : kIt _ _ _ _ _ = Q'
    unfold ir_wireone_l0
    by_cases hlt : i < p.length
    · have hd : decide ((i : Int) < (p.length : Int)) = true := by simp; omega
      have hg1 : (intsAV p).getD i [] = [.int .i64 p[i]] := intsAV_get hlt
      have hpi := hp _ (List.getElem_mem hlt)
      have c1 := fs_NumText (Gl := Gl) hst (n := p[i]) (by omega)
      have htk1 : (p.take (i + 1)).map textZ = (p.take i).map textZ ++ [textZ p[i]] := by
        rw [List.take_add_one, List.getElem?_eq_getElem hlt, List.map_append]; rfl
      have hlen : (strsAV ((p.take i).map textZ)).length ≤ p.length := by rw [strsAV_length]; simp; omega
      cases tk with
      | none =>
        have h0 := htk rfl
        have ht0 : p.take i = [] := by rw [h0]; rfl
        rw [ht0, List.map_nil, List.nil_append] at htk1
        simp +contextual (maxSteps := 1000000) only [hd, hg1, Int.toNat_natCast, intsAV_length, go_sem, reduceCtorEq, ↓reduceIte, Nat.reduceAdd, Nat.reduceEqDiff, Nat.reduceLeDiff, Nat.reduceMul, Nat.reduceBEq, Int.reduceBEq, Int.reduceBNe, Int.reduceLT, Int.reduceLE, Int.reduceGT, Int.reduceGE, Int.reduceToNat, Int.natCast_one, Int.natCast_zero, Int.cast_ofNat_Int]
        refine ⟨⟨by omega, by omega⟩, ?_⟩
        (refine CallP.pure (c1) (fun _ => rfl) ?_; simp +contextual (maxSteps := 1000000) only [go_sem, reduceCtorEq, ↓reduceIte, Nat.reduceAdd, Nat.reduceEqDiff, Nat.reduceLeDiff, Nat.reduceMul, Nat.reduceBEq, Int.reduceBEq, Int.reduceBNe, Int.reduceLT, Int.reduceLE, Int.reduceGT, Int.reduceGE, Int.reduceToNat, Int.natCast_one, Int.natCast_zero, Int.cast_ofNat_Int])
        rw [← hQ']
        simp only [w_kIt_n]
        refine ⟨0, (i + 1, some (γ', 8, 0)), Wk.perm' ?_ (fun p hp => by cases hp) ?_, ⟨by simp only; omega, by simp⟩, by simp only; omega⟩
        · simp only [htk1, sv_some, strsAV, List.map_cons, List.map_nil]
          repeat' first | exact AVle.refl _ _ | exact trivial | refine And.intro ?_ ?_ | exact AVle.int (by simp only [IntKind.wrap_i64]; omega)
        · intro t ht
          cases ht
          exact .inl rfl
      | some t0 =>
        simp +contextual (maxSteps := 1000000) only [hd, hg1, Int.toNat_natCast, intsAV_length, go_sem, reduceCtorEq, ↓reduceIte, Nat.reduceAdd, Nat.reduceEqDiff, Nat.reduceLeDiff, Nat.reduceMul, Nat.reduceBEq, Int.reduceBEq, Int.reduceBNe, Int.reduceLT, Int.reduceLE, Int.reduceGT, Int.reduceGE, Int.reduceToNat, Int.natCast_one, Int.natCast_zero, Int.cast_ofNat_Int]
        refine ⟨⟨by omega, by omega⟩, ?_⟩
        (refine CallP.pure (c1) (fun _ => rfl) ?_; simp +contextual (maxSteps := 1000000) only [go_sem, reduceCtorEq, ↓reduceIte, Nat.reduceAdd, Nat.reduceEqDiff, Nat.reduceLeDiff, Nat.reduceMul, Nat.reduceBEq, Int.reduceBEq, Int.reduceBNe, Int.reduceLT, Int.reduceLE, Int.reduceGT, Int.reduceGE, Int.reduceToNat, Int.natCast_one, Int.natCast_zero, Int.cast_ofNat_Int])
        refine ⟨⟨.inr trivial, by omega⟩, ?_⟩
        rw [← hQ']
        simp only [w_kIt_n]
        refine ⟨0, (i + 1, some (γ', 8, 0)), Wk.perm' ?_ (fun p hp => by cases hp) ?_, ⟨by simp only; omega, by simp⟩, by simp only; omega⟩
        · simp only [htk1, sv_some, strsAV_snoc]
          repeat' first | exact AVle.refl _ _ | exact trivial | refine And.intro ?_ ?_ | exact AVle.int (by simp only [IntKind.wrap_i64]; omega)
        · intro t ht
          cases ht
          exact .inl rfl
    · have hii : i = p.length := by omega
      have hd : decide ((i : Int) < (p.length : Int)) = false := by simp; omega
      have hfull : (p.take i).map textZ = p.map textZ := by rw [List.take_of_length_le (by omega)]
      have hjl : (Lib.join (p.map textZ) [58]).length ≤ 140737488355328 := by
        rw [join_jn]; show (subText p).length ≤ _; omega
      have hz : Lib.join (p.map textZ) [58] = subText p := join_jn 58 _
      cases tk with
      | none =>
        have h0 : p = [] := List.length_eq_zero_iff.1 (by rw [← hii]; exact htk rfl)
        have c1 := (fs_Join (Gl := Gl) (xs := p.map textZ) (sep := [58]) (t := none) (by simp; omega) hjl).args (args := [.nils, .str [58]]) ⟨by rw [h0]; exact RepLe.nils 1, RepLe.refl _, trivial⟩
        rw [hz] at c1
        simp +contextual (maxSteps := 1000000) only [hd, go_sem, reduceCtorEq, ↓reduceIte, Nat.reduceAdd, Nat.reduceEqDiff, Nat.reduceLeDiff, Nat.reduceMul, Nat.reduceBEq, Int.reduceBEq, Int.reduceBNe, Int.reduceLT, Int.reduceLE, Int.reduceGT, Int.reduceGE, Int.reduceToNat, Int.natCast_one, Int.natCast_zero, Int.cast_ofNat_Int]
        rw [← hQ']
        simp only [w_kIt_e, w_kBlk_e, ↓reduceIte]
        simp +contextual (maxSteps := 1000000) only [go_sem, reduceCtorEq, ↓reduceIte, Nat.reduceAdd, Nat.reduceEqDiff, Nat.reduceLeDiff, Nat.reduceMul, Nat.reduceBEq, Int.reduceBEq, Int.reduceBNe, Int.reduceLT, Int.reduceLE, Int.reduceGT, Int.reduceGE, Int.reduceToNat, Int.natCast_one, Int.natCast_zero, Int.cast_ofNat_Int]
        (refine CallP.pure (c1) (fun _ => rfl) ?_; simp +contextual (maxSteps := 1000000) only [go_sem, reduceCtorEq, ↓reduceIte, Nat.reduceAdd, Nat.reduceEqDiff, Nat.reduceLeDiff, Nat.reduceMul, Nat.reduceBEq, Int.reduceBEq, Int.reduceBNe, Int.reduceLT, Int.reduceLE, Int.reduceGT, Int.reduceGE, Int.reduceToNat, Int.natCast_one, Int.natCast_zero, Int.cast_ofNat_Int])
        rw [← hQ]
        exact ⟨trivial, Ret.flat rfl rfl⟩
      | some t0 =>
        have c1 := fs_Join (Gl := Gl) (xs := p.map textZ) (sep := [58]) (t := some t0) (by simp; omega) hjl
        rw [hz] at c1
        simp +contextual (maxSteps := 1000000) only [hd, hfull, go_sem, reduceCtorEq, ↓reduceIte, Nat.reduceAdd, Nat.reduceEqDiff, Nat.reduceLeDiff, Nat.reduceMul, Nat.reduceBEq, Int.reduceBEq, Int.reduceBNe, Int.reduceLT, Int.reduceLE, Int.reduceGT, Int.reduceGE, Int.reduceToNat, Int.natCast_one, Int.natCast_zero, Int.cast_ofNat_Int]
        rw [← hQ']
        simp only [w_kIt_e, w_kBlk_e, ↓reduceIte]
        simp +contextual (maxSteps := 1000000) only [go_sem, reduceCtorEq, ↓reduceIte, Nat.reduceAdd, Nat.reduceEqDiff, Nat.reduceLeDiff, Nat.reduceMul, Nat.reduceBEq, Int.reduceBEq, Int.reduceBNe, Int.reduceLT, Int.reduceLE, Int.reduceGT, Int.reduceGE, Int.reduceToNat, Int.natCast_one, Int.natCast_zero, Int.cast_ofNat_Int]
        (refine CallP.pure (c1) (fun _ => rfl) ?_; simp +contextual (maxSteps := 1000000) only [go_sem, reduceCtorEq, ↓reduceIte, Nat.reduceAdd, Nat.reduceEqDiff, Nat.reduceLeDiff, Nat.reduceMul, Nat.reduceBEq, Int.reduceBEq, Int.reduceBNe, Int.reduceLT, Int.reduceLE, Int.reduceGT, Int.reduceGE, Int.reduceToNat, Int.natCast_one, Int.natCast_zero, Int.cast_ofNat_Int])
        rw [← hQ]
        exact ⟨trivial, Ret.flat rfl rfl⟩
theorem fs_glue {Gl : Gh → Prop} (hst : Stays Gl) {xs : List (List UInt8)} {t : Option Nm} (hN : xs.length ≤ 100) (hl : xs.flatten.length ≤ 1000000) : FS Tryd.prog Gl 59 [.sl t 1 (strsAV xs)] [] [] (.sl none 1 (bytesAV (27 :: xs.flatten))) [] [] := by
  refine FS.ofW hm hst is_wireglue rfl (by simp) fun γ hγ hfr => ?_
  have c1 := fs_Join (Gl := Gl) (xs := xs) (sep := []) (t := t) (by omega) (by rw [join_flat]; omega)
  rw [join_flat] at c1
  (generalize hQ : (fun (ex : Ex) (_ _ : Nat) (s : St) => _) = Q; unfold ir_wireglue)
  simp +contextual (maxSteps := 1000000) only [go_sem, reduceCtorEq, ↓reduceIte, Nat.reduceAdd, Nat.reduceEqDiff, Nat.reduceLeDiff, Nat.reduceMul, Nat.reduceBEq, Int.reduceBEq, Int.reduceBNe, Int.reduceLT, Int.reduceLE, Int.reduceGT, Int.reduceGE, Int.reduceToNat, Int.natCast_one, Int.natCast_zero, Int.cast_ofNat_Int]
  (refine CallP.pure (c1) (fun _ => rfl) ?_; simp +contextual (maxSteps := 1000000) only [go_sem, reduceCtorEq, ↓reduceIte, Nat.reduceAdd, Nat.reduceEqDiff, Nat.reduceLeDiff, Nat.reduceMul, Nat.reduceBEq, Int.reduceBEq, Int.reduceBNe, Int.reduceLT, Int.reduceLE, Int.reduceGT, Int.reduceGE, Int.reduceToNat, Int.natCast_one, Int.natCast_zero, Int.cast_ofNat_Int])
  refine ⟨⟨.inl trivial, by omega⟩, ?_⟩
  rw [← hQ]
  exact ⟨trivial, .inl ⟨_, rfl, RepLe.anon' rfl⟩⟩
set_option maxHeartbeats 4000000 in
theorem fs_body {Gl : Gh → Prop} (hst : Stays Gl) {k : Int} {ps : List (List Int)} {it da : List UInt8} {pr fi : UInt8} (hl : ps.length ≤ 16) (hp : ∀ p ∈ ps, p.length ≤ 8 ∧ ∀ n ∈ p, n ≤ 1114111) (hit : it.length ≤ 100000) :
    FS Tryd.prog Gl 60 [.agg (Sq.c ⟨k, pr.toNat, ps, it, fi.toNat, da⟩)] [] [] (.str (prB pr.toNat ++ (parsText ps ++ it ++ [fi]))) [] [] := by
  refine FS.of hm hst is_wirebody (by simp) fun γ hγ hfr => ?_
  have hsl := parsText_len hp
  have hsc : Sq.c ⟨k, pr.toNat, ps, it, fi.toNat, da⟩ = [.int .i64 k, .int .u8 (pr.toNat : Int), .sl none 1 (parsAV ps), .str it, .int .u8 (fi.toNat : Int), .str da] := rfl
  (generalize hQ : (fun (ex : Ex) (_ _ : Nat) (s : St) => _) = Q; unfold ir_wirebody)
  simp +contextual (maxSteps := 1000000) only [hsc, parsAV_length, go_sem, reduceCtorEq, ↓reduceIte, Nat.reduceAdd, Nat.reduceEqDiff, Nat.reduceLeDiff, Nat.reduceMul, Nat.reduceBEq, Int.reduceBEq, Int.reduceBNe, Int.reduceLT, Int.reduceLE, Int.reduceGT, Int.reduceGE, Int.reduceToNat, Int.natCast_one, Int.natCast_zero, Int.cast_ofNat_Int]
  refine kLoop_ix (fun q : Nat × Option Nm => ⟨lf [(1, .ptr (γ, 0, 0) 0), (3, sv q.2 1 (strsAV ((ps.take q.1).map subText))), (8, .sl none 1 (parsAV ps)), (9, .int .i64 (ps.length : Int)), (10, .int .i64 (q.1 : Int))], [((γ, 0, 0), .cells [.int .i64 k, .int .u8 (pr.toNat : Int), .sl none 1 (parsAV ps), .str it, .int .u8 (fi.toNat : Int), .str da])], fun x => q.2 = some x⟩)
    (fun q => q.1 ≤ ps.length ∧ (q.2 = none → q.1 = 0)) (fun q => ps.length - q.1) 0 (0, none) ?_ ⟨by simp, by simp⟩ ?_
  · refine Wk.perm' ?_ (fun p hp => hp) (fun t ht => by cases ht)
    simp only [lfOK, upd]
    repeat' first | exact AVle.refl _ _ | exact trivial | refine And.intro ?_ ?_ | exact AVle.int (by simp only [IntKind.wrap_i64]; omega)
  · rintro γ' ⟨i, tk⟩ hf ⟨hi, htk⟩
    simp only at hi htk
    generalize hQ' : kIt _ _ _ _ _ = Q'
    unfold ir_wirebody_l0
    by_cases hlt : i < ps.length
    · have hd : decide ((i : Int) < (ps.length : Int)) = true := by simp; omega
      have hg1 : (parsAV ps).getD i [] = [.sl none 1 (intsAV ps[i])] := parsAV_get hlt
      have hpi := hp _ (List.getElem_mem hlt)
      have c1 := fs_one (Gl := Gl) hst (p := ps[i]) (t := none) (by omega) hpi.2
      have htk1 : (ps.take (i + 1)).map subText = (ps.take i).map subText ++ [subText ps[i]] := by
        rw [List.take_add_one, List.getElem?_eq_getElem hlt, List.map_append]; rfl
      have hlen : (strsAV ((ps.take i).map subText)).length ≤ ps.length := by rw [strsAV_length]; simp; omega
      cases tk with
      | none =>
        have h0 := htk rfl
        have ht0 : ps.take i = [] := by rw [h0]; rfl
        rw [ht0, List.map_nil, List.nil_append] at htk1
        simp +contextual (maxSteps := 1000000) only [hd, hg1, Int.toNat_natCast, parsAV_length, go_sem, reduceCtorEq, ↓reduceIte, Nat.reduceAdd, Nat.reduceEqDiff, Nat.reduceLeDiff, Nat.reduceMul, Nat.reduceBEq, Int.reduceBEq, Int.reduceBNe, Int.reduceLT, Int.reduceLE, Int.reduceGT, Int.reduceGE, Int.reduceToNat, Int.natCast_one, Int.natCast_zero, Int.cast_ofNat_Int]
        refine ⟨⟨by omega, by omega⟩, ?_⟩
        (refine CallP.pure (c1) (fun _ => rfl) ?_; simp +contextual (maxSteps := 1000000) only [go_sem, reduceCtorEq, ↓reduceIte, Nat.reduceAdd, Nat.reduceEqDiff, Nat.reduceLeDiff, Nat.reduceMul, Nat.reduceBEq, Int.reduceBEq, Int.reduceBNe, Int.reduceLT, Int.reduceLE, Int.reduceGT, Int.reduceGE, Int.reduceToNat, Int.natCast_one, Int.natCast_zero, Int.cast_ofNat_Int])
        rw [← hQ']
        simp only [w_kIt_n]
        refine ⟨0, (i + 1, some (γ', 8, 0)), Wk.perm' ?_ (fun p hp => hp) ?_, ⟨by simp only; omega, by simp⟩, by simp only; omega⟩
        · simp only [htk1, sv_some, strsAV, List.map_cons, List.map_nil]
          repeat' first | exact AVle.refl _ _ | exact trivial | refine And.intro ?_ ?_ | exact AVle.int (by simp only [IntKind.wrap_i64]; omega)
        · intro t ht
          cases ht
          exact .inl rfl
      | some t0 =>
        simp +contextual (maxSteps := 1000000) only [hd, hg1, Int.toNat_natCast, parsAV_length, go_sem, reduceCtorEq, ↓reduceIte, Nat.reduceAdd, Nat.reduceEqDiff, Nat.reduceLeDiff, Nat.reduceMul, Nat.reduceBEq, Int.reduceBEq, Int.reduceBNe, Int.reduceLT, Int.reduceLE, Int.reduceGT, Int.reduceGE, Int.reduceToNat, Int.natCast_one, Int.natCast_zero, Int.cast_ofNat_Int]
        refine ⟨⟨by omega, by omega⟩, ?_⟩
        (refine CallP.pure (c1) (fun _ => rfl) ?_; simp +contextual (maxSteps := 1000000) only [go_sem, reduceCtorEq, ↓reduceIte, Nat.reduceAdd, Nat.reduceEqDiff, Nat.reduceLeDiff, Nat.reduceMul, Nat.reduceBEq, Int.reduceBEq, Int.reduceBNe, Int.reduceLT, Int.reduceLE, Int.reduceGT, Int.reduceGE, Int.reduceToNat, Int.natCast_one, Int.natCast_zero, Int.cast_ofNat_Int])
        refine ⟨⟨.inr trivial, by omega⟩, ?_⟩
        rw [← hQ']
        simp only [w_kIt_n]
        refine ⟨0, (i + 1, some (γ', 8, 0)), Wk.perm' ?_ (fun p hp => hp) ?_, ⟨by simp only; omega, by simp⟩, by simp only; omega⟩
        · simp only [htk1, sv_some, strsAV_snoc]
          repeat' first | exact AVle.refl _ _ | exact trivial | refine And.intro ?_ ?_ | exact AVle.int (by simp only [IntKind.wrap_i64]; omega)
        · intro t ht
          cases ht
          exact .inl rfl
    · have hii : i = ps.length := by omega
      have hd : decide ((i : Int) < (ps.length : Int)) = false := by simp; omega
      have hfull : (ps.take i).map subText = ps.map subText := by rw [List.take_of_length_le (by omega)]
      have hz : Lib.join (ps.map subText) [59] = parsText ps := join_jn 59 _
      have hjl : (Lib.join (ps.map subText) [59]).length ≤ 140737488355328 := by rw [hz]; omega
      have c1 : FS Tryd.prog Gl 85 [sv tk 1 (strsAV (ps.map subText)), .str [59]] [] [] (.str (parsText ps)) [] [] := by
        rw [← hz]
        cases tk with
        | none =>
          have h0 : ps = [] := List.length_eq_zero_iff.1 (by rw [← hii]; exact htk rfl)
          exact (fs_Join (Gl := Gl) (xs := ps.map subText) (sep := [59]) (t := none) (by simp; omega) hjl).args ⟨by rw [h0]; exact RepLe.nils 1, RepLe.refl _, trivial⟩
        | some t0 => exact fs_Join (Gl := Gl) (xs := ps.map subText) (sep := [59]) (t := some t0) (by simp; omega) hjl
      simp +contextual (maxSteps := 1000000) only [hd, hfull, go_sem, reduceCtorEq, ↓reduceIte, Nat.reduceAdd, Nat.reduceEqDiff, Nat.reduceLeDiff, Nat.reduceMul, Nat.reduceBEq, Int.reduceBEq, Int.reduceBNe, Int.reduceLT, Int.reduceLE, Int.reduceGT, Int.reduceGE, Int.reduceToNat, Int.natCast_one, Int.natCast_zero, Int.cast_ofNat_Int]
      rw [← hQ']
      simp only [w_kIt_e, w_kBlk_e, ↓reduceIte]
      simp +contextual (maxSteps := 1000000) only [go_sem, reduceCtorEq, ↓reduceIte, Nat.reduceAdd, Nat.reduceEqDiff, Nat.reduceLeDiff, Nat.reduceMul, Nat.reduceBEq, Int.reduceBEq, Int.reduceBNe, Int.reduceLT, Int.reduceLE, Int.reduceGT, Int.reduceGE, Int.reduceToNat, Int.natCast_one, Int.natCast_zero, Int.cast_ofNat_Int]
      refine DCall.new c1 ?_
      simp +contextual (maxSteps := 1000000) only [isByte_one, unbyte_c, go_sem, reduceCtorEq, ↓reduceIte, Nat.reduceAdd, Nat.reduceEqDiff, Nat.reduceLeDiff, Nat.reduceMul, Nat.reduceBEq, Int.reduceBEq, Int.reduceBNe, Int.reduceLT, Int.reduceLE, Int.reduceGT, Int.reduceGE, Int.reduceToNat, Int.natCast_one, Int.natCast_zero, Int.cast_ofNat_Int]
      refine ⟨by omega, by simp only [List.length_append]; omega, ?_⟩
      have hpr : ((pr.toNat : Int).toNat).toUInt8 = pr := by rw [Int.toNat_natCast]; exact UInt8.ofNat_toNat
      cases hq : ((pr.toNat : Int) != 0) with
      | false =>
        simp +contextual (maxSteps := 1000000) only [go_sem, reduceCtorEq, ↓reduceIte, Nat.reduceAdd, Nat.reduceEqDiff, Nat.reduceLeDiff, Nat.reduceMul, Nat.reduceBEq, Int.reduceBEq, Int.reduceBNe, Int.reduceLT, Int.reduceLE, Int.reduceGT, Int.reduceGE, Int.reduceToNat, Int.natCast_one, Int.natCast_zero, Int.cast_ofNat_Int]
        have hz1 : prB (pr.toNat : Int) = [] := by rw [prB, hq]; rfl
        rw [← hQ, hz1]
        exact ⟨trivial, Ret.flat rfl rfl⟩
      | true =>
        simp +contextual (maxSteps := 1000000) only [isByte_one, unbyte_c, go_sem, reduceCtorEq, ↓reduceIte, Nat.reduceAdd, Nat.reduceEqDiff, Nat.reduceLeDiff, Nat.reduceMul, Nat.reduceBEq, Int.reduceBEq, Int.reduceBNe, Int.reduceLT, Int.reduceLE, Int.reduceGT, Int.reduceGE, Int.reduceToNat, Int.natCast_one, Int.natCast_zero, Int.cast_ofNat_Int]
        refine ⟨by simp only [List.length_append, List.length_cons, List.length_nil]; omega, ?_⟩
        have hz1 : prB (pr.toNat : Int) = [pr] := by rw [prB, hq, hpr]; rfl
        rw [← hQ, hz1]
        exact ⟨trivial, Ret.flat rfl rfl⟩
end Go.Proofs.YtionnmnjbopkkaaDoor

/- Sequences as bytes, walked: the program's Put. -/
set_option linter.unusedVariables false
set_option linter.unusedSimpArgs false
set_option maxRecDepth 100000
namespace Go.Proofs.YtionnmnjbopkkaaDoor
open Go Go.Ab
/-- clavier/wire.Put -/
def ir_wirePut : ICode :=
 (.seq
  (.reg [⟨some 1, none, .box 32 (.t 0)⟩,
    ⟨some 2, none, .mov (.c .nils)⟩,
    ⟨some 3, none, .mov (.c (.int .i64 0))⟩] (some [1]))
  (.seq
   (.seq
    (.reg [⟨some 5, none, .ld (some 6) (.t 1)⟩,
      ⟨some 6, none, .call (.c (.fn (.func 58) [] [])) [(.t 5)]⟩,
      ⟨some 4, none, .mov (.t 6)⟩] (some [1, 4]))
    (.seq
     (.reg [⟨some 7, none, .mov (.t 4)⟩,
       ⟨some 8, none, .bin .neq .none (.t 7) (.c (.int .i64 0))⟩] (some [1, 4, 8]))
     (.cond (.t 8)
      (.seq
       (.reg [⟨some 9, none, .mov (.t 4)⟩,
         ⟨some 2, none, .mov (.c .nils)⟩,
         ⟨some 3, none, .mov (.t 9)⟩] (some [2, 3]))
       .ret)
      .skip)))
   (.seq
    (.seq
     (.reg [⟨some 10, none, .fa 0 (.t 1)⟩,
       ⟨some 11, none, .ld none (.t 10)⟩] (some [1, 11]))
     (.blk 0
      (.seq
       (.reg [⟨some 13, none, .bin .eql .none (.t 11) (.c (.int .i64 1))⟩,
         ⟨some 12, none, .mov (.t 13)⟩] (some [1, 11, 12]))
       (.cond (.t 12)
        (.seq
         (.reg [⟨some 14, none, .ld (some 6) (.t 1)⟩,
           ⟨some 15, none, .call (.c (.fn (.func 60) [] [])) [(.t 14)]⟩,
           ⟨some 16, none, .row 9 1 [(.c (.str [91])), (.t 15)]⟩,
           ⟨some 17, none, .call (.c (.fn (.func 59) [] [])) [(.t 16)]⟩,
           ⟨some 2, none, .mov (.t 17)⟩,
           ⟨some 3, none, .mov (.c (.int .i64 0))⟩] (some [2, 3]))
         .ret)
        (.seq
         (.reg [⟨some 19, none, .bin .eql .none (.t 11) (.c (.int .i64 2))⟩,
           ⟨some 18, none, .mov (.t 19)⟩] (some [1, 11, 18]))
         (.cond (.t 18)
          (.seq
           (.reg [⟨some 20, none, .fa 4 (.t 1)⟩,
             ⟨some 21, none, .ld none (.t 20)⟩,
             ⟨some 22, none, .row 5 1 [(.t 21)]⟩,
             ⟨some 23, none, .b2s (.t 22)⟩,
             ⟨some 24, none, .row 9 1 [(.c (.str [79])), (.t 23)]⟩,
             ⟨some 25, none, .call (.c (.fn (.func 59) [] [])) [(.t 24)]⟩,
             ⟨some 2, none, .mov (.t 25)⟩,
             ⟨some 3, none, .mov (.c (.int .i64 0))⟩] (some [2, 3]))
           .ret)
          (.seq
           (.reg [⟨some 27, none, .bin .eql .none (.t 11) (.c (.int .i64 3))⟩,
             ⟨some 26, none, .mov (.t 27)⟩] (some [1, 11, 26]))
           (.cond (.t 26)
            (.seq
             (.drw [⟨⟨some 28, none, .ld (some 6) (.t 1)⟩, []⟩,
               ⟨⟨some 29, none, .call (.c (.fn (.func 60) [] [])) [(.t 28)]⟩, [0]⟩,
               ⟨⟨some 30, none, .fa 5 (.t 1)⟩, []⟩,
               ⟨⟨some 31, none, .ld none (.t 30)⟩, [2]⟩,
               ⟨⟨some 32, none, .row 9 1 [(.c (.str [80])), (.t 29), (.t 31), (.c (.str [27, 92]))]⟩, [1, 3]⟩,
               ⟨⟨some 33, none, .call (.c (.fn (.func 59) [] [])) [(.t 32)]⟩, [4, 1]⟩]
               [⟨some 2, none, .mov (.t 33)⟩,
               ⟨some 3, none, .mov (.c (.int .i64 0))⟩] (some [2, 3]))
             .ret)
            (.seq
             (.reg [⟨some 35, none, .bin .eql .none (.t 11) (.c (.int .i64 4))⟩,
               ⟨some 34, none, .mov (.t 35)⟩] (some [1, 34]))
             (.cond (.t 34)
              (.seq
               (.reg [⟨some 36, none, .fa 5 (.t 1)⟩,
                 ⟨some 37, none, .ld none (.t 36)⟩,
                 ⟨some 38, none, .row 9 1 [(.c (.str [93])), (.t 37), (.c (.str [27, 92]))]⟩,
                 ⟨some 39, none, .call (.c (.fn (.func 59) [] [])) [(.t 38)]⟩,
                 ⟨some 2, none, .mov (.t 39)⟩,
                 ⟨some 3, none, .mov (.c (.int .i64 0))⟩] (some [2, 3]))
               .ret)
              .skip))))))))))
    (.seq
     (.reg [⟨some 40, none, .ld (some 6) (.t 1)⟩,
       ⟨some 41, none, .call (.c (.fn (.func 60) [] [])) [(.t 40)]⟩,
       ⟨some 42, none, .row 9 1 [(.t 41)]⟩,
       ⟨some 43, none, .call (.c (.fn (.func 59) [] [])) [(.t 42)]⟩,
       ⟨some 2, none, .mov (.t 43)⟩,
       ⟨some 3, none, .mov (.c (.int .i64 0))⟩] (some [2, 3]))
     .ret))))
theorem is_wirePut : IrOf Tryd.prog 29 44 ir_wirePut [.t 2, .t 3] := ⟨_, Tryd.func29, rfl, by kernel_rfl, by kernel_rfl, by kernel_rfl⟩


theorem esc_plain {s : Sq} (h : mayP s = 0) (h1 : s.k ≠ 1) (h2 : s.k ≠ 2) (h3 : s.k ≠ 3) (h4 : s.k ≠ 4) : s.pr = 0 ∧ s.ps = [] := by
  have hs : shapedP s = true := by
    simp only [mayP] at h
    split at h
    · cases h
    · split at h
      · cases h
      · rename_i h2
        simp only [Bool.or_eq_true, Bool.not_eq_true', not_or, Bool.not_eq_false] at h2
        exact h2.2
  simp only [shapedP, if_neg h1, if_neg h2, if_neg h3, if_neg h4] at hs
  split at hs
  · simp only [Bool.and_eq_true, beq_iff_eq] at hs
    obtain ⟨⟨⟨⟨⟨q1, q2⟩, _⟩, _⟩, _⟩, _⟩ := hs
    exact ⟨q1, List.length_eq_zero_iff.1 (by omega)⟩
  · cases hs
set_option maxHeartbeats 4000000 in
theorem fs_wPut {Gl : Gh → Prop} (hst : Stays Gl) {s : Sq} (hp0 : 0 ≤ s.pr) (hp1 : s.pr < 256) (hf0 : 0 ≤ s.fi) (hf1 : s.fi < 128) (h : s.sm) : FS Tryd.prog Gl 29 [.agg s.c] [] [] (.tup [putV s, .int .i64 (mayP s)]) [] [] := by
  have c1 := fs_May (Gl := Gl) hst hf0 hf1 h.ps h.pp h.it h.da
  have hfl : (AV.tup [putV s, .int .i64 (mayP s)]).flatT = true := by
    unfold putV; split <;> rfl
  refine FS.ofW hm hst is_wirePut hfl (by simp) fun γ hγ hfr => ?_
  have hpv : putV s = if (mayP s != 0) = true then .nils else .sl none 1 (bytesAV (putB s)) := rfl
  have hda : mayP s = 0 → s.da.length ≤ 4096 := fun hz => (mayP_sm hz).2.2.2.2
  have hil : mayP s = 0 → s.it.length ≤ 2 := fun hz => (mayP_sm hz).2.2.2.1
  have hpl : mayP s = 0 → s.ps.length ≤ 16 := fun hz => (mayP_sm hz).2.1
  have hpp : mayP s = 0 → ∀ p ∈ s.ps, p.length ≤ 8 ∧ ∀ n ∈ p, n ≤ 1114111 := fun hz p hp => ⟨(mayP_sm hz).2.2.1 p hp, fun n hn => (((parsOk_iff (may_pars hz)).2.2 p hp).2.2 n hn).2⟩
  obtain ⟨k, pr, ps, it, fi, da⟩ := s
  simp only at hp0 hp1 hf0 hf1 hda hil hpl hpp
  obtain ⟨pr, rfl⟩ := byteOf hp0 hp1
  obtain ⟨fi, rfl⟩ := byteOf hf0 (by omega)
  have hbb : putB ⟨k, pr.toNat, ps, it, fi.toNat, da⟩ = (if (k == 1) = true then [27, 91] ++ (prB pr.toNat ++ parsText ps ++ it) ++ [fi]
    else if (k == 2) = true then [27, 79] ++ [fi]
    else if (k == 3) = true then [27, 80] ++ (prB pr.toNat ++ parsText ps ++ it) ++ [fi] ++ da ++ [27, 92]
    else if (k == 4) = true then [27, 93] ++ da ++ [27, 92]
    else [27] ++ it ++ [fi]) := by
    have : ((fi.toNat : Int).toNat).toUInt8 = fi := by rw [Int.toNat_natCast]; exact UInt8.ofNat_toNat
    simp only [putB, bodyB, this]
  have hcc : Sq.c ⟨k, pr.toNat, ps, it, fi.toNat, da⟩ = [.int .i64 k, .int .u8 (pr.toNat : Int), parsV ps, .str it, .int .u8 (fi.toNat : Int), .str da] := rfl
  rw [hcc] at c1
  generalize hmp : mayP _ = mp at *
  (generalize hQ : (fun (ex : Ex) (_ _ : Nat) (s : St) => _) = Q; unfold ir_wirePut)
  simp +contextual (maxSteps := 1000000) only [hcc, go_sem, reduceCtorEq, ↓reduceIte, Nat.reduceAdd, Nat.reduceEqDiff, Nat.reduceLeDiff, Nat.reduceMul, Nat.reduceBEq, Int.reduceBEq, Int.reduceBNe, Int.reduceLT, Int.reduceLE, Int.reduceGT, Int.reduceGE, Int.reduceToNat, Int.natCast_one, Int.natCast_zero, Int.cast_ofNat_Int]
  (refine CallP.pure (c1) (fun _ => rfl) ?_; simp +contextual (maxSteps := 1000000) only [go_sem, reduceCtorEq, ↓reduceIte, Nat.reduceAdd, Nat.reduceEqDiff, Nat.reduceLeDiff, Nat.reduceMul, Nat.reduceBEq, Int.reduceBEq, Int.reduceBNe, Int.reduceLT, Int.reduceLE, Int.reduceGT, Int.reduceGE, Int.reduceToNat, Int.natCast_one, Int.natCast_zero, Int.cast_ofNat_Int])
  by_cases hz : mp = 0
  · subst hz
    have hda := hda rfl
    have hil := hil rfl
    have c2 := fs_body (Gl := Gl) hst (k := k) (ps := ps) (it := it) (da := da) (pr := pr) (fi := fi) (hpl rfl) (hpp rfl) (by omega)
    rw [hcc] at c2
    have hsl := parsText_len (hpp rfl)
    have hpl := hpl rfl
    have hprl : (prB pr.toNat).length ≤ 1 := by unfold prB; split <;> simp
    have fin : ∀ {l : List UInt8} {γ c : Nat} {H : Hp} {T : Tk}, l = putB ⟨k, pr.toNat, ps, it, fi.toNat, da⟩ → Q .ret γ c ⟨lf [(2, .sl none 1 (bytesAV l)), (3, .int .i64 0)], H, T⟩ := by
      intro l γ c H T hl
      rw [← hQ, hpv, hl]
      exact ⟨trivial, .inl ⟨_, rfl, RepLe.refl _⟩⟩
    have hpt : (parsText ps).length ≤ 3000 := by omega
    have hk1 : (k == 1) = true ∨ (k == 1) = false := by cases (k == 1) <;> simp
    rcases hk1 with hk1 | hk1
    · simp +contextual (maxSteps := 1000000) only [hk1, go_sem, reduceCtorEq, ↓reduceIte, Nat.reduceAdd, Nat.reduceEqDiff, Nat.reduceLeDiff, Nat.reduceMul, Nat.reduceBEq, Int.reduceBEq, Int.reduceBNe, Int.reduceLT, Int.reduceLE, Int.reduceGT, Int.reduceGE, Int.reduceToNat, Int.natCast_one, Int.natCast_zero, Int.cast_ofNat_Int]
      (refine CallP.pure (c2) (fun _ => rfl) ?_; simp +contextual (maxSteps := 1000000) only [go_sem, reduceCtorEq, ↓reduceIte, Nat.reduceAdd, Nat.reduceEqDiff, Nat.reduceLeDiff, Nat.reduceMul, Nat.reduceBEq, Int.reduceBEq, Int.reduceBNe, Int.reduceLT, Int.reduceLE, Int.reduceGT, Int.reduceGE, Int.reduceToNat, Int.natCast_one, Int.natCast_zero, Int.cast_ofNat_Int])
      (refine CallP.pure (fs_glue (xs := [[91], prB pr.toNat ++ (parsText ps ++ it ++ [fi])]) hst (by simp) (by simp; omega)) (fun _ => rfl) ?_; simp +contextual (maxSteps := 1000000) only [go_sem, reduceCtorEq, ↓reduceIte, Nat.reduceAdd, Nat.reduceEqDiff, Nat.reduceLeDiff, Nat.reduceMul, Nat.reduceBEq, Int.reduceBEq, Int.reduceBNe, Int.reduceLT, Int.reduceLE, Int.reduceGT, Int.reduceGE, Int.reduceToNat, Int.natCast_one, Int.natCast_zero, Int.cast_ofNat_Int])
      refine fin ?_
      rw [hbb, if_pos hk1]; simp
    have hk2 : (k == 2) = true ∨ (k == 2) = false := by cases (k == 2) <;> simp
    rcases hk2 with hk2 | hk2
    · simp +contextual (maxSteps := 1000000) only [hk1, hk2, isByte_one, unbyte_c, go_sem, reduceCtorEq, ↓reduceIte, Nat.reduceAdd, Nat.reduceEqDiff, Nat.reduceLeDiff, Nat.reduceMul, Nat.reduceBEq, Int.reduceBEq, Int.reduceBNe, Int.reduceLT, Int.reduceLE, Int.reduceGT, Int.reduceGE, Int.reduceToNat, Int.natCast_one, Int.natCast_zero, Int.cast_ofNat_Int]
      (refine CallP.pure (fs_glue (xs := [[79], [fi]]) hst (by simp) (by simp)) (fun _ => rfl) ?_; simp +contextual (maxSteps := 1000000) only [go_sem, reduceCtorEq, ↓reduceIte, Nat.reduceAdd, Nat.reduceEqDiff, Nat.reduceLeDiff, Nat.reduceMul, Nat.reduceBEq, Int.reduceBEq, Int.reduceBNe, Int.reduceLT, Int.reduceLE, Int.reduceGT, Int.reduceGE, Int.reduceToNat, Int.natCast_one, Int.natCast_zero, Int.cast_ofNat_Int])
      refine fin ?_
      rw [hbb, hk1, if_neg (by simp), if_pos hk2]; simp
    have hk3 : (k == 3) = true ∨ (k == 3) = false := by cases (k == 3) <;> simp
    rcases hk3 with hk3 | hk3
    · simp +contextual (maxSteps := 1000000) only [hk1, hk2, hk3, go_sem, reduceCtorEq, ↓reduceIte, Nat.reduceAdd, Nat.reduceEqDiff, Nat.reduceLeDiff, Nat.reduceMul, Nat.reduceBEq, Int.reduceBEq, Int.reduceBNe, Int.reduceLT, Int.reduceLE, Int.reduceGT, Int.reduceGE, Int.reduceToNat, Int.natCast_one, Int.natCast_zero, Int.cast_ofNat_Int]
      refine DCall.new c2 ?_
      simp +contextual (maxSteps := 1000000) only [go_sem, reduceCtorEq, ↓reduceIte, Nat.reduceAdd, Nat.reduceEqDiff, Nat.reduceLeDiff, Nat.reduceMul, Nat.reduceBEq, Int.reduceBEq, Int.reduceBNe, Int.reduceLT, Int.reduceLE, Int.reduceGT, Int.reduceGE, Int.reduceToNat, Int.natCast_one, Int.natCast_zero, Int.cast_ofNat_Int]
      refine ⟨by simp [AV.closedL, AV.closed], DCall.new (fs_glue (xs := [[80], prB pr.toNat ++ (parsText ps ++ it ++ [fi]), da, [27, 92]]) hst (by simp) (by simp; omega)) ?_⟩
      simp +contextual (maxSteps := 1000000) only [go_sem, reduceCtorEq, ↓reduceIte, Nat.reduceAdd, Nat.reduceEqDiff, Nat.reduceLeDiff, Nat.reduceMul, Nat.reduceBEq, Int.reduceBEq, Int.reduceBNe, Int.reduceLT, Int.reduceLE, Int.reduceGT, Int.reduceGE, Int.reduceToNat, Int.natCast_one, Int.natCast_zero, Int.cast_ofNat_Int]
      refine fin ?_
      rw [hbb, hk1, if_neg (by simp), hk2, if_neg (by simp), if_pos hk3]; simp
    have hk4 : (k == 4) = true ∨ (k == 4) = false := by cases (k == 4) <;> simp
    rcases hk4 with hk4 | hk4
    · simp +contextual (maxSteps := 1000000) only [hk1, hk2, hk3, hk4, go_sem, reduceCtorEq, ↓reduceIte, Nat.reduceAdd, Nat.reduceEqDiff, Nat.reduceLeDiff, Nat.reduceMul, Nat.reduceBEq, Int.reduceBEq, Int.reduceBNe, Int.reduceLT, Int.reduceLE, Int.reduceGT, Int.reduceGE, Int.reduceToNat, Int.natCast_one, Int.natCast_zero, Int.cast_ofNat_Int]
      (refine CallP.pure (fs_glue (xs := [[93], da, [27, 92]]) hst (by simp) (by simp; omega)) (fun _ => rfl) ?_; simp +contextual (maxSteps := 1000000) only [go_sem, reduceCtorEq, ↓reduceIte, Nat.reduceAdd, Nat.reduceEqDiff, Nat.reduceLeDiff, Nat.reduceMul, Nat.reduceBEq, Int.reduceBEq, Int.reduceBNe, Int.reduceLT, Int.reduceLE, Int.reduceGT, Int.reduceGE, Int.reduceToNat, Int.natCast_one, Int.natCast_zero, Int.cast_ofNat_Int])
      refine fin ?_
      rw [hbb, hk1, if_neg (by simp), hk2, if_neg (by simp), hk3, if_neg (by simp), if_pos hk4]; simp
    · simp +contextual (maxSteps := 1000000) only [hk1, hk2, hk3, hk4, go_sem, reduceCtorEq, ↓reduceIte, Nat.reduceAdd, Nat.reduceEqDiff, Nat.reduceLeDiff, Nat.reduceMul, Nat.reduceBEq, Int.reduceBEq, Int.reduceBNe, Int.reduceLT, Int.reduceLE, Int.reduceGT, Int.reduceGE, Int.reduceToNat, Int.natCast_one, Int.natCast_zero, Int.cast_ofNat_Int]
      (refine CallP.pure (c2) (fun _ => rfl) ?_; simp +contextual (maxSteps := 1000000) only [go_sem, reduceCtorEq, ↓reduceIte, Nat.reduceAdd, Nat.reduceEqDiff, Nat.reduceLeDiff, Nat.reduceMul, Nat.reduceBEq, Int.reduceBEq, Int.reduceBNe, Int.reduceLT, Int.reduceLE, Int.reduceGT, Int.reduceGE, Int.reduceToNat, Int.natCast_one, Int.natCast_zero, Int.cast_ofNat_Int])
      (refine CallP.pure (fs_glue (xs := [prB pr.toNat ++ (parsText ps ++ it ++ [fi])]) hst (by simp) (by simp; omega)) (fun _ => rfl) ?_; simp +contextual (maxSteps := 1000000) only [go_sem, reduceCtorEq, ↓reduceIte, Nat.reduceAdd, Nat.reduceEqDiff, Nat.reduceLeDiff, Nat.reduceMul, Nat.reduceBEq, Int.reduceBEq, Int.reduceBNe, Int.reduceLT, Int.reduceLE, Int.reduceGT, Int.reduceGE, Int.reduceToNat, Int.natCast_one, Int.natCast_zero, Int.cast_ofNat_Int])
      refine fin ?_
      rw [hbb, hk1, if_neg (by simp), hk2, if_neg (by simp), hk3, if_neg (by simp), hk4, if_neg (by simp)]
      obtain ⟨hpl1, hpl2⟩ := esc_plain hmp (by simpa using hk1) (by simpa using hk2) (by simpa using hk3) (by simpa using hk4)
      simp only at hpl1 hpl2
      rw [hpl1, hpl2]; rfl
  · have hq : (mp != 0) = true := by simp [hz]
    simp +contextual (maxSteps := 1000000) only [hq, go_sem, reduceCtorEq, ↓reduceIte, Nat.reduceAdd, Nat.reduceEqDiff, Nat.reduceLeDiff, Nat.reduceMul, Nat.reduceBEq, Int.reduceBEq, Int.reduceBNe, Int.reduceLT, Int.reduceLE, Int.reduceGT, Int.reduceGE, Int.reduceToNat, Int.natCast_one, Int.natCast_zero, Int.cast_ofNat_Int]
    rw [← hQ, hpv, if_pos hq]
    exact ⟨trivial, .inl ⟨_, rfl, RepLe.refl _⟩⟩
end Go.Proofs.YtionnmnjbopkkaaDoor

/- Keys by flags, walked: Key. -/
set_option linter.unusedVariables false
set_option linter.unusedSimpArgs false
set_option maxRecDepth 100000
namespace Go.Proofs.YtionnmnjbopkkaaDoor
open Go Go.Ab
/-- clavier/kitty.Key -/
def ir_kittyKey : ICode :=
 (.seq
  (.reg [⟨some 3, none, .box 23 (.t 1)⟩,
    ⟨some 4, none, .mov (.c .nils)⟩] (some [0, 3]))
  (.seq
   (.drw [⟨⟨some 11, none, .ld (some 6) (.t 3)⟩, []⟩,
     ⟨⟨some 12, none, .mov (.t 0)⟩, []⟩,
     ⟨⟨some 13, none, .fa 0 (.t 3)⟩, []⟩,
     ⟨⟨some 14, none, .ld none (.t 13)⟩, [2]⟩,
     ⟨⟨some 15, none, .call (.c (.fn (.func 15) [] [])) [(.t 14)]⟩, [3]⟩,
     ⟨⟨some 16, none, .fld 0 none (.t 15)⟩, [4]⟩,
     ⟨⟨some 17, none, .bld [(.int .i64 0), (.int .i64 0), (.int .i64 0), (.int .i64 0), (.int .i64 0), (.str []), (.int .i64 0), (.int .i64 0)] [(0, 6, (.t 11)), (6, 1, (.t 12)), (7, 1, (.t 16))]⟩, [0, 1, 5]⟩,
     ⟨⟨some 5, none, .box 59 (.c (.agg [(.int .i64 0), (.int .i64 0), (.int .i64 0), (.int .i64 0), (.int .i64 0), (.str []), (.int .i64 0), (.int .i64 0)]))⟩, []⟩]
     [⟨none, none, .st 8 (.t 5) (.t 17)⟩] (some [3, 5]))
   (.seq
    (.seq
     (.reg [⟨some 18, none, .ld (some 6) (.t 3)⟩,
       ⟨some 19, none, .call (.c (.fn (.func 26) [] [])) [(.t 18)]⟩,
       ⟨some 20, none, .un .not (.t 19)⟩,
       ⟨some 21, none, .mov (.t 20)⟩,
       ⟨some 22, some (21, false), .ld (some 8) (.t 5)⟩,
       ⟨some 23, some (21, false), .call (.c (.fn (.func 27) [] [])) [(.t 22)]⟩,
       ⟨some 24, some (21, false), .un .not (.t 23)⟩,
       ⟨some 25, none, .pick (.t 21) (.c (.bool true)) (.t 24)⟩] (some [3, 5, 25]))
     (.cond (.t 25)
      (.seq
       (.reg [⟨some 4, none, .mov (.c .nils)⟩] (some [4]))
       .ret)
      .skip))
    (.seq
     (.seq
      (.reg [⟨some 26, none, .ld (some 8) (.t 5)⟩,
        ⟨some 27, none, .call (.c (.fn (.func 28) [] [])) [(.t 26)]⟩,
        ⟨some 6, none, .mov (.t 27)⟩] (some [3, 5, 6]))
      (.seq
       (.reg [⟨some 28, none, .mov (.t 6)⟩,
         ⟨some 29, none, .len (.t 28)⟩,
         ⟨some 30, none, .bin .gtr .none (.t 29) (.c (.int .i64 0))⟩] (some [3, 5, 6, 30]))
       (.cond (.t 30)
        (.seq
         (.reg [⟨some 31, none, .mov (.t 6)⟩,
           ⟨some 4, none, .mov (.t 31)⟩] (some [4]))
         .ret)
        .skip)))
     (.seq
      (.reg [⟨some 33, none, .fa 0 (.t 3)⟩,
        ⟨some 34, none, .ld none (.t 33)⟩,
        ⟨some 35, none, .call (.c (.fn (.func 16) [] [])) [(.t 34)]⟩,
        ⟨some 32, none, .mov (.t 35)⟩,
        ⟨some 36, none, .ext (.t 32) 0⟩,
        ⟨some 37, none, .ext (.t 32) 1⟩,
        ⟨some 7, none, .mov (.t 36)⟩,
        ⟨some 8, none, .mov (.t 37)⟩] (some [5, 7, 8]))
      (.seq
       (.drw [⟨⟨some 39, none, .mov (.t 8)⟩, []⟩,
         ⟨⟨some 40, none, .ld (some 8) (.t 5)⟩, []⟩,
         ⟨⟨some 41, none, .mov (.t 7)⟩, []⟩,
         ⟨⟨some 42, none, .mov (.t 8)⟩, []⟩,
         ⟨⟨some 43, none, .call (.c (.fn (.func 31) [] [])) [(.t 40), (.t 41), (.t 42)]⟩, [1, 2, 3]⟩,
         ⟨⟨some 44, none, .ld (some 8) (.t 5)⟩, []⟩,
         ⟨⟨some 45, none, .call (.c (.fn (.func 32) [] [])) [(.t 44)]⟩, [5, 4]⟩,
         ⟨⟨some 46, none, .ld (some 8) (.t 5)⟩, []⟩,
         ⟨⟨some 47, none, .call (.c (.fn (.func 33) [] [])) [(.t 46)]⟩, [7, 6]⟩,
         ⟨⟨some 48, none, .row 64 1 [(.t 43), (.t 45), (.t 47)]⟩, [4, 6, 8]⟩,
         ⟨⟨some 49, none, .call (.c (.fn (.func 30) [] [])) [(.t 48)]⟩, [9, 8]⟩,
         ⟨⟨some 50, none, .bld [(.int .i64 0), (.int .u8 0), .nils, (.str []), (.int .u8 0), (.str [])] [(0, 1, (.c (.int .i64 1))), (4, 1, (.t 39)), (2, 1, (.t 49))]⟩, [0, 10]⟩,
         ⟨⟨some 51, none, .call (.c (.fn (.func 29) [] [])) [(.t 50)]⟩, [11, 10]⟩,
         ⟨⟨some 38, none, .mov (.t 51)⟩, [12]⟩,
         ⟨⟨some 52, none, .ext (.t 38) 0⟩, [13]⟩,
         ⟨⟨some 53, none, .ext (.t 38) 1⟩, [13]⟩,
         ⟨⟨some 9, none, .mov (.t 52)⟩, [14, 12, 0, 1, 2, 3, 4, 5, 6, 7, 8, 9, 10, 11, 12, 13, 14]⟩]
         [⟨some 10, none, .mov (.t 53)⟩] (some [9]))
       (.seq
        (.reg [⟨some 54, none, .mov (.t 9)⟩,
          ⟨some 4, none, .mov (.t 54)⟩] (some [4]))
        .ret)))))))
theorem is_kittyKey : IrOf Tryd.prog 12 55 ir_kittyKey [.t 4] := ⟨_, Tryd.func12, rfl, by kernel_rfl, by kernel_rfl, by kernel_rfl⟩


def putX (s : Sq) : List UInt8 := if (mayP s != 0) = true then [] else putB s
theorem putV_le (s : Sq) : RepLe (putV s) (.sl none 1 (bytesAV (putX s))) := by
  unfold putV putX
  split
  · exact RepLe.nils 1
  · exact RepLe.refl _
theorem letR_lt (c : Int) : (letR c).toNat < 128 := by
  unfold letR
  repeat' split
  all_goals first | decide | (rw [UInt8.toNat_ofNat', Nat.mod_eq_of_lt (by omega)]; omega)
theorem formK_lt (c : Int) : (formK c).2.toNat < 128 := by
  simp only [formK]
  split
  · decide
  · split
    · decide
    · split
      · rename_i h
        show (lookR c).final.toNat < 128
        unfold lookR at h ⊢
        split
        · exact letR_lt c
        · rename_i h1
          rw [if_neg h1] at h
          split
          · exact (by decide : (0 : UInt8).toNat < 128)
          · rename_i h2
            rw [if_neg h2] at h
            split
            · rename_i h3
              rw [if_pos h3] at h
              have : (padR c).kind = 5 := by unfold padR; split <;> rfl
              rw [this] at h
              exact absurd h.1 (by decide)
            · exact (by decide : (0 : UInt8).toNat < 128)
      · split
        · exact (by decide : (126 : UInt8).toNat < 128)
        · exact (by decide : (117 : UInt8).toNat < 128)
def keySq (fl : Int) (k : Ky) : Sq := ⟨1, 0, trimK [firstK fl k (formK k.code).1 (formK k.code).2.toNat, secondK fl k, thirdK fl k] 3, [], (formK k.code).2.toNat, []⟩
def keyK (fl : Int) (k : Ky) : List UInt8 :=
  if (!mayK k || !sentK fl k) = true then []
  else if textK fl k ≠ [] then textK fl k
  else putX (keySq fl k)
set_option maxHeartbeats 4000000 in
theorem fs_Key {Gl : Gh → Prop} (hst : Stays Gl) {k : Ky} {fl : Int} (hfl : fl ≤ 9223372036854775807) (ht : k.text.length ≤ 1000000000000) : FS Tryd.prog Gl 12 [.int .i64 fl, .agg (kyAV k)] [] [] (.sl none 1 (bytesAV (keyK fl k))) [] [] := by
  refine FS.ofW hm hst is_kittyKey rfl (by simp) fun γ hγ hfr => ?_
  have c1 := fs_Look (Gl := Gl) hst (c := k.code)
  rw [ent_eq] at c1
  have c2 := fs_MayK (Gl := Gl) hst ht
  have c3 := fs_sent (Gl := Gl) hst (k := k) hfl
  rw [evC] at c3
  have hky : kyAV k = [.int .i64 k.code, .int .i64 k.mods, .int .i64 k.type, .int .i64 k.shifted, .int .i64 k.base, .str k.text] := rfl
  rw [hky] at c2
  have hkd : (lookR k.code).kind = kindK k.code := rfl
  rw [hkd] at c1
  have hkk : keyK fl k = (if (!mayK k || !sentK fl k) = true then [] else if textK fl k ≠ [] then textK fl k else putX (keySq fl k)) := rfl
  (generalize hQ : (fun (ex : Ex) (_ _ : Nat) (s : St) => _) = Q; unfold ir_kittyKey)
  simp +contextual (maxSteps := 1000000) only [hky, go_sem, reduceCtorEq, ↓reduceIte, Nat.reduceAdd, Nat.reduceEqDiff, Nat.reduceLeDiff, Nat.reduceMul, Nat.reduceBEq, Int.reduceBEq, Int.reduceBNe, Int.reduceLT, Int.reduceLE, Int.reduceGT, Int.reduceGE, Int.reduceToNat, Int.natCast_one, Int.natCast_zero, Int.cast_ofNat_Int]
  refine DCall.new c1 ?_
  simp +contextual (maxSteps := 1000000) only [go_sem, reduceCtorEq, ↓reduceIte, Nat.reduceAdd, Nat.reduceEqDiff, Nat.reduceLeDiff, Nat.reduceMul, Nat.reduceBEq, Int.reduceBEq, Int.reduceBNe, Int.reduceLT, Int.reduceLE, Int.reduceGT, Int.reduceGE, Int.reduceToNat, Int.natCast_one, Int.natCast_zero, Int.cast_ofNat_Int]
  refine ⟨fun p hp => ?_, ?_⟩
  · simp only [List.mem_cons, List.not_mem_nil, or_false] at hp
    rcases hp with rfl | rfl | rfl <;> simp [Xev_t, mask_app, upd_app, AV.cells, oneL, AV.one]
  cases hmk : mayK k with
  | false =>
    rw [hmk] at c2
    (refine CallP.pure (c2) (fun _ => rfl) ?_; simp +contextual (maxSteps := 1000000) only [go_sem, reduceCtorEq, ↓reduceIte, Nat.reduceAdd, Nat.reduceEqDiff, Nat.reduceLeDiff, Nat.reduceMul, Nat.reduceBEq, Int.reduceBEq, Int.reduceBNe, Int.reduceLT, Int.reduceLE, Int.reduceGT, Int.reduceGE, Int.reduceToNat, Int.natCast_one, Int.natCast_zero, Int.cast_ofNat_Int])
    have hz : keyK fl k = [] := by rw [hkk, hmk]; rfl
    rw [← hQ, hz]
    exact ⟨trivial, .inl ⟨_, rfl, RepLe.nils 1⟩⟩
  | true =>
    rw [hmk] at c2
    have hmods : 0 ≤ k.mods ∧ k.mods ≤ 255 := by
      simp only [mayK, Bool.and_eq_true, decide_eq_true_eq] at hmk
      exact ⟨hmk.1.1.1.1.1.1.2, hmk.1.1.1.1.1.2⟩
    have c4 := fs_text (Gl := Gl) hst (k := k) hfl hmods.1 hmods.2 ht
    rw [evC] at c4
    cases hse : sentK fl k with
    | false =>
      rw [hse] at c3
      (refine CallP.pure (c2) (fun _ => rfl) ?_; simp +contextual (maxSteps := 1000000) only [go_sem, reduceCtorEq, ↓reduceIte, Nat.reduceAdd, Nat.reduceEqDiff, Nat.reduceLeDiff, Nat.reduceMul, Nat.reduceBEq, Int.reduceBEq, Int.reduceBNe, Int.reduceLT, Int.reduceLE, Int.reduceGT, Int.reduceGE, Int.reduceToNat, Int.natCast_one, Int.natCast_zero, Int.cast_ofNat_Int])
      (refine CallP.pure (c3) (fun _ => rfl) ?_; simp +contextual (maxSteps := 1000000) only [go_sem, reduceCtorEq, ↓reduceIte, Nat.reduceAdd, Nat.reduceEqDiff, Nat.reduceLeDiff, Nat.reduceMul, Nat.reduceBEq, Int.reduceBEq, Int.reduceBNe, Int.reduceLT, Int.reduceLE, Int.reduceGT, Int.reduceGE, Int.reduceToNat, Int.natCast_one, Int.natCast_zero, Int.cast_ofNat_Int])
      have hz : keyK fl k = [] := by rw [hkk, hmk, hse]; rfl
      rw [← hQ, hz]
      exact ⟨trivial, .inl ⟨_, rfl, RepLe.nils 1⟩⟩
    | true =>
      rw [hse] at c3
      have hk2 : keyK fl k = if textK fl k ≠ [] then textK fl k else putX (keySq fl k) := by rw [hkk, hmk, hse]; rfl
      (refine CallP.pure (c2) (fun _ => rfl) ?_; simp +contextual (maxSteps := 1000000) only [go_sem, reduceCtorEq, ↓reduceIte, Nat.reduceAdd, Nat.reduceEqDiff, Nat.reduceLeDiff, Nat.reduceMul, Nat.reduceBEq, Int.reduceBEq, Int.reduceBNe, Int.reduceLT, Int.reduceLE, Int.reduceGT, Int.reduceGE, Int.reduceToNat, Int.natCast_one, Int.natCast_zero, Int.cast_ofNat_Int])
      (refine CallP.pure (c3) (fun _ => rfl) ?_; simp +contextual (maxSteps := 1000000) only [go_sem, reduceCtorEq, ↓reduceIte, Nat.reduceAdd, Nat.reduceEqDiff, Nat.reduceLeDiff, Nat.reduceMul, Nat.reduceBEq, Int.reduceBEq, Int.reduceBNe, Int.reduceLT, Int.reduceLE, Int.reduceGT, Int.reduceGE, Int.reduceToNat, Int.natCast_one, Int.natCast_zero, Int.cast_ofNat_Int])
      (refine CallP.pure (c4) (fun _ => rfl) ?_; simp +contextual (maxSteps := 1000000) only [bytesAV_length', go_sem, reduceCtorEq, ↓reduceIte, Nat.reduceAdd, Nat.reduceEqDiff, Nat.reduceLeDiff, Nat.reduceMul, Nat.reduceBEq, Int.reduceBEq, Int.reduceBNe, Int.reduceLT, Int.reduceLE, Int.reduceGT, Int.reduceGE, Int.reduceToNat, Int.natCast_one, Int.natCast_zero, Int.cast_ofNat_Int])
      by_cases hte : textK fl k = []
      · rw [if_neg (fun h => h hte)] at hk2
        have hq : decide (((textK fl k).length : Int) > 0) = false := by rw [hte]; rfl
        have c5 := fs_Form (Gl := Gl) hst (c := k.code)
        simp +contextual (maxSteps := 1000000) only [hq, go_sem, reduceCtorEq, ↓reduceIte, Nat.reduceAdd, Nat.reduceEqDiff, Nat.reduceLeDiff, Nat.reduceMul, Nat.reduceBEq, Int.reduceBEq, Int.reduceBNe, Int.reduceLT, Int.reduceLE, Int.reduceGT, Int.reduceGE, Int.reduceToNat, Int.natCast_one, Int.natCast_zero, Int.cast_ofNat_Int]
        (refine CallP.pure (c5) (fun _ => rfl) ?_; simp +contextual (maxSteps := 1000000) only [go_sem, reduceCtorEq, ↓reduceIte, Nat.reduceAdd, Nat.reduceEqDiff, Nat.reduceLeDiff, Nat.reduceMul, Nat.reduceBEq, Int.reduceBEq, Int.reduceBNe, Int.reduceLT, Int.reduceLE, Int.reduceGT, Int.reduceGE, Int.reduceToNat, Int.natCast_one, Int.natCast_zero, Int.cast_ofNat_Int])
        have d1 : FS Tryd.prog Gl 31 [.agg (evC k fl (kindK k.code)), .int .i64 (formK k.code).1, .int .u8 ((formK k.code).2.toNat : Int)] [] [] (.sl none 1 (intsAV (firstK fl k (formK k.code).1 ((formK k.code).2.toNat : Int)))) [] [] := fs_code hst hfl hmods.1 hmods.2
        have d2 : FS Tryd.prog Gl 32 [.agg (evC k fl (kindK k.code))] [] [] (.sl none 1 (intsAV (secondK fl k))) [] [] := fs_how hst hfl
        have d3 : FS Tryd.prog Gl 33 [.agg (evC k fl (kindK k.code))] [] [] (.sl none 1 (intsAV (thirdK fl k))) [] [] := fs_texts hst hfl ht
        have d4 : ∀ t : Option Nm, FS Tryd.prog Gl 30 [.sl t 1 [[.sl none 1 (intsAV (firstK fl k (formK k.code).1 ((formK k.code).2.toNat : Int)))], [.sl none 1 (intsAV (secondK fl k))], [.sl none 1 (intsAV (thirdK fl k))]]] [] [] (.sl none 1 (parsAV (keySq fl k).ps)) [] [] := fun t => fs_params (l := [firstK fl k (formK k.code).1 ((formK k.code).2.toNat : Int), secondK fl k, thirdK fl k]) (tb := t) hst (by simp)
        have hthird : (thirdK fl k).length ≤ 1000000000000 := by
          unfold thirdK
          split
          · simp
          · have := allV_len k.text; omega
        have hfirst : (firstK fl k (formK k.code).1 ((formK k.code).2.toNat : Int)).length ≤ 10 := by
          unfold firstK
          split
          · simp
          · simp only
            repeat' split
            all_goals simp
        have hsec : (secondK fl k).length ≤ 10 := by
          unfold secondK
          repeat' split
          all_goals simp
        have hsm : (keySq fl k).sm := by
          have hmem : ∀ (n : Nat) (l : List (List Int)), ∀ p ∈ trimK l n, p ∈ l := by
            intro n l
            induction n with
            | zero => intro p hp; cases hp
            | succ n ih =>
              intro p hp
              rw [trimK] at hp
              split at hp
              · exact ih p hp
              · exact List.mem_of_mem_take hp
          have hlen : ∀ (n : Nat) (l : List (List Int)), (trimK l n).length ≤ l.length := by
            intro n l
            induction n with
            | zero => simp [trimK]
            | succ n ih =>
              rw [trimK]
              split
              · exact ih
              · rw [List.length_take]; omega
          refine ⟨?_, fun p hp => ?_, by simp [keySq], by simp [keySq]⟩
          · have := hlen 3 [firstK fl k (formK k.code).1 ((formK k.code).2.toNat : Int), secondK fl k, thirdK fl k]
            simp only [List.length_cons, List.length_nil] at this
            simp only [keySq]; omega
          · have := hmem 3 _ p hp
            simp only [List.mem_cons, List.not_mem_nil, or_false] at this
            rcases this with rfl | rfl | rfl <;> omega
        have hflt := formK_lt k.code
        have d5 : FS Tryd.prog Gl 29 [.agg [.int .i64 1, .int .u8 0, .sl none 1 (parsAV (keySq fl k).ps), .str [], .int .u8 ((formK k.code).2.toNat : Int), .str []]] [] [] (.tup [putV (keySq fl k), .int .i64 (mayP (keySq fl k))]) [] [] :=
          fs_wPut (s := keySq fl k) hst (by simp [keySq]) (by simp [keySq]) (by simp only [keySq]; omega) (by simp only [keySq]; omega) hsm
        have hrn : ∀ f, Ab.rn f (putV (keySq fl k)) = putV (keySq fl k) := fun f => by unfold putV; split <;> rfl
        have hpl := putV_le (keySq fl k)
        generalize putV (keySq fl k) = pv at *
        rw [evC] at d1 d2 d3
        refine DCall.new d1 ?_
        simp +contextual (maxSteps := 1000000) only [go_sem, reduceCtorEq, ↓reduceIte, Nat.reduceAdd, Nat.reduceEqDiff, Nat.reduceLeDiff, Nat.reduceMul, Nat.reduceBEq, Int.reduceBEq, Int.reduceBNe, Int.reduceLT, Int.reduceLE, Int.reduceGT, Int.reduceGE, Int.reduceToNat, Int.natCast_one, Int.natCast_zero, Int.cast_ofNat_Int]
        refine DCall.new d2 ?_
        simp +contextual (maxSteps := 1000000) only [go_sem, reduceCtorEq, ↓reduceIte, Nat.reduceAdd, Nat.reduceEqDiff, Nat.reduceLeDiff, Nat.reduceMul, Nat.reduceBEq, Int.reduceBEq, Int.reduceBNe, Int.reduceLT, Int.reduceLE, Int.reduceGT, Int.reduceGE, Int.reduceToNat, Int.natCast_one, Int.natCast_zero, Int.cast_ofNat_Int]
        refine DCall.new d3 ?_
        simp +contextual (maxSteps := 1000000) only [go_sem, reduceCtorEq, ↓reduceIte, Nat.reduceAdd, Nat.reduceEqDiff, Nat.reduceLeDiff, Nat.reduceMul, Nat.reduceBEq, Int.reduceBEq, Int.reduceBNe, Int.reduceLT, Int.reduceLE, Int.reduceGT, Int.reduceGE, Int.reduceToNat, Int.natCast_one, Int.natCast_zero, Int.cast_ofNat_Int]
        refine ⟨by simp [AV.closedL, AV.closed], DCall.new (d4 _) ?_⟩
        simp +contextual (maxSteps := 1000000) only [go_sem, reduceCtorEq, ↓reduceIte, Nat.reduceAdd, Nat.reduceEqDiff, Nat.reduceLeDiff, Nat.reduceMul, Nat.reduceBEq, Int.reduceBEq, Int.reduceBNe, Int.reduceLT, Int.reduceLE, Int.reduceGT, Int.reduceGE, Int.reduceToNat, Int.natCast_one, Int.natCast_zero, Int.cast_ofNat_Int]
        refine ⟨fun p hp => ?_, DCall.new d5 ?_⟩
        · simp only [List.mem_cons, List.not_mem_nil, or_false] at hp
          rcases hp with rfl | rfl | rfl <;> simp [Xev_t, Xev_c, mask_app, upd_app, AV.cells, oneL, AV.one]
        simp +contextual (maxSteps := 1000000) only [hrn, go_sem, reduceCtorEq, ↓reduceIte, Nat.reduceAdd, Nat.reduceEqDiff, Nat.reduceLeDiff, Nat.reduceMul, Nat.reduceBEq, Int.reduceBEq, Int.reduceBNe, Int.reduceLT, Int.reduceLE, Int.reduceGT, Int.reduceGE, Int.reduceToNat, Int.natCast_one, Int.natCast_zero, Int.cast_ofNat_Int]
        rw [← hQ, hk2]
        exact ⟨trivial, .inl ⟨_, rfl, hpl⟩⟩
      · rw [if_pos hte] at hk2
        have hq : decide (((textK fl k).length : Int) > 0) = true := by
          have := List.length_pos_iff.2 hte
          simp; omega
        simp +contextual (maxSteps := 1000000) only [hq, go_sem, reduceCtorEq, ↓reduceIte, Nat.reduceAdd, Nat.reduceEqDiff, Nat.reduceLeDiff, Nat.reduceMul, Nat.reduceBEq, Int.reduceBEq, Int.reduceBNe, Int.reduceLT, Int.reduceLE, Int.reduceGT, Int.reduceGE, Int.reduceToNat, Int.natCast_one, Int.natCast_zero, Int.cast_ofNat_Int]
        rw [← hQ, hk2]
        exact ⟨trivial, .inl ⟨_, rfl, RepLe.refl _⟩⟩
end Go.Proofs.YtionnmnjbopkkaaDoor

/- The statements of chapter 13: awake. -/
set_option linter.unusedVariables false
set_option linter.unusedSimpArgs false
set_option maxRecDepth 100000
namespace Go.Proofs.YtionnmnjbopkkaaDoor
open Go Go.Ab
/-- clavier/clavierlaw13.awake -/
def ir_clavierlaw13awake : ICode :=
 (.seq
  (.reg [⟨some 0, none, .mov (.c (.bool false))⟩] (some []))
  (.seq
   (.reg [⟨some 6, none, .bld [(.int .i64 0), (.int .i64 0), (.int .i64 0), (.int .i64 0), (.int .i64 0), (.str [])] [(0, 1, (.c (.int .i64 99))), (1, 1, (.c (.int .i64 4))), (2, 1, (.c (.int .i64 1)))]⟩,
     ⟨some 7, none, .call (.c (.fn (.func 12) [] [])) [(.c (.int .i64 1)), (.t 6)]⟩,
     ⟨some 1, none, .mov (.t 7)⟩] (some [1]))
   (.seq
    (.reg [⟨some 8, none, .bld [(.int .i64 0), (.int .i64 0), (.int .i64 0), (.int .i64 0), (.int .i64 0), (.str [])] [(0, 1, (.c (.int .i64 97))), (2, 1, (.c (.int .i64 1)))]⟩,
      ⟨some 9, none, .call (.c (.fn (.func 12) [] [])) [(.c (.int .i64 8)), (.t 8)]⟩,
      ⟨some 2, none, .mov (.t 9)⟩] (some [1, 2]))
    (.seq
     (.reg [⟨some 10, none, .bld [(.int .i64 0), (.int .i64 0), (.int .i64 0), (.int .i64 0), (.int .i64 0), (.str [])] [(0, 1, (.c (.int .i64 57352))), (2, 1, (.c (.int .i64 3)))]⟩,
       ⟨some 11, none, .call (.c (.fn (.func 12) [] [])) [(.c (.int .i64 2)), (.t 10)]⟩,
       ⟨some 3, none, .mov (.t 11)⟩] (some [1, 2, 3]))
     (.seq
      (.reg [⟨some 13, none, .call (.c (.fn (.func 16) [] [])) [(.c (.int .i64 57366))]⟩,
        ⟨some 12, none, .mov (.t 13)⟩,
        ⟨some 14, none, .ext (.t 12) 0⟩,
        ⟨some 15, none, .ext (.t 12) 1⟩,
        ⟨some 4, none, .mov (.t 14)⟩,
        ⟨some 5, none, .mov (.t 15)⟩] (some [1, 2, 3, 4, 5]))
      (.seq
       (.reg [⟨some 16, none, .mov (.t 1)⟩,
         ⟨some 17, none, .b2s (.t 16)⟩,
         ⟨some 18, none, .bin .eql .none (.t 17) (.c (.str [27, 91, 57, 57, 59, 53, 117]))⟩,
         ⟨some 19, none, .mov (.t 18)⟩,
         ⟨some 20, some (19, true), .mov (.t 2)⟩,
         ⟨some 21, some (19, true), .b2s (.t 20)⟩,
         ⟨some 22, some (19, true), .bin .eql .none (.t 21) (.c (.str [27, 91, 57, 55, 117]))⟩,
         ⟨some 23, none, .pick (.t 19) (.t 22) (.c (.bool false))⟩,
         ⟨some 24, none, .mov (.t 23)⟩,
         ⟨some 25, some (24, true), .mov (.t 3)⟩,
         ⟨some 26, some (24, true), .b2s (.t 25)⟩,
         ⟨some 27, some (24, true), .bin .eql .none (.t 26) (.c (.str [27, 91, 49, 59, 49, 58, 51, 65]))⟩,
         ⟨some 28, none, .pick (.t 24) (.t 27) (.c (.bool false))⟩,
         ⟨some 29, none, .mov (.t 28)⟩,
         ⟨some 30, some (29, true), .mov (.t 4)⟩,
         ⟨some 31, some (29, true), .bin .eql .none (.t 30) (.c (.int .i64 13))⟩,
         ⟨some 32, none, .pick (.t 29) (.t 31) (.c (.bool false))⟩,
         ⟨some 33, none, .mov (.t 32)⟩,
         ⟨some 34, some (33, true), .mov (.t 5)⟩,
         ⟨some 35, some (33, true), .bin .eql .none (.t 34) (.c (.int .u8 126))⟩,
         ⟨some 36, none, .pick (.t 33) (.t 35) (.c (.bool false))⟩,
         ⟨some 0, none, .mov (.t 36)⟩] (some [0]))
       .ret))))))
theorem is_clavierlaw13awake : IrOf Tryd.prog 10 37 ir_clavierlaw13awake [.t 0] := ⟨_, Tryd.func10, rfl, by kernel_rfl, by kernel_rfl, by kernel_rfl⟩

/-- clavier/clavierlaw13.KittyForms -/
def ir_clavierlaw13KittyForms : ICode :=
 (.seq
  (.reg [⟨some 4, none, .mov (.c (.bool false))⟩] (some [0, 1]))
  (.seq
   (.reg [⟨some 11, none, .call (.c (.fn (.func 10) [] [])) []⟩,
     ⟨some 5, none, .mov (.t 11)⟩] (some [0, 1, 5]))
   (.seq
    (.reg [⟨some 13, none, .mov (.t 0)⟩,
      ⟨some 14, none, .call (.c (.fn (.func 16) [] [])) [(.t 13)]⟩,
      ⟨some 12, none, .mov (.t 14)⟩,
      ⟨some 15, none, .ext (.t 12) 0⟩,
      ⟨some 16, none, .ext (.t 12) 1⟩,
      ⟨some 6, none, .mov (.t 15)⟩,
      ⟨some 7, none, .mov (.t 16)⟩] (some [0, 1, 5, 6, 7]))
    (.seq
     (.reg [⟨some 18, none, .mov (.t 1)⟩,
       ⟨some 19, none, .call (.c (.fn (.func 16) [] [])) [(.t 18)]⟩,
       ⟨some 17, none, .mov (.t 19)⟩,
       ⟨some 20, none, .ext (.t 17) 0⟩,
       ⟨some 21, none, .ext (.t 17) 1⟩,
       ⟨some 8, none, .mov (.t 20)⟩,
       ⟨some 9, none, .mov (.t 21)⟩] (some [0, 1, 5, 6, 7, 8, 9]))
     (.seq
      (.reg [⟨some 22, none, .mov (.t 0)⟩,
        ⟨some 23, none, .call (.c (.fn (.func 17) [] [])) [(.t 22)]⟩,
        ⟨some 10, none, .box 40 (.c (.agg [(.int .i64 0), (.int .u8 0), (.int .i64 0), (.int .i64 0), (.bool false)]))⟩,
        ⟨none, none, .st 5 (.t 10) (.t 23)⟩] (some [0, 1, 5, 6, 7, 8, 9, 10]))
      (.seq
       (.seq
        (.reg [⟨some 24, none, .fa 0 (.t 10)⟩,
          ⟨some 25, none, .ld none (.t 24)⟩,
          ⟨some 26, none, .bin .eql .none (.t 25) (.c (.int .i64 0))⟩,
          ⟨some 27, none, .mov (.t 26)⟩,
          ⟨some 28, some (27, false), .mov (.t 1)⟩,
          ⟨some 29, some (27, false), .call (.c (.fn (.func 17) [] [])) [(.t 28)]⟩,
          ⟨some 30, some (27, false), .fld 0 none (.t 29)⟩,
          ⟨some 31, some (27, false), .bin .eql .none (.t 30) (.c (.int .i64 0))⟩,
          ⟨some 32, none, .pick (.t 27) (.c (.bool true)) (.t 31)⟩] (some [0, 1, 5, 6, 7, 8, 9, 10, 32]))
        (.cond (.t 32)
         (.seq
          (.reg [⟨some 33, none, .mov (.t 5)⟩,
            ⟨some 34, none, .mov (.t 33)⟩,
            ⟨some 35, some (34, true), .fa 0 (.t 10)⟩,
            ⟨some 36, some (34, true), .ld none (.t 35)⟩,
            ⟨some 37, some (34, true), .bin .neq .none (.t 36) (.c (.int .i64 0))⟩,
            ⟨some 38, some (34, true), .mov (.t 37)⟩,
            ⟨some 39, some (38, false), .mov (.t 6)⟩,
            ⟨some 40, some (38, false), .bin .eql .none (.t 39) (.c (.int .i64 0))⟩,
            ⟨some 41, some (38, false), .mov (.t 40)⟩,
            ⟨some 42, some (41, true), .mov (.t 7)⟩,
            ⟨some 43, some (41, true), .bin .eql .none (.t 42) (.c (.int .u8 0))⟩,
            ⟨some 44, some (38, false), .pick (.t 41) (.t 43) (.c (.bool false))⟩,
            ⟨some 45, some (34, true), .pick (.t 38) (.c (.bool true)) (.t 44)⟩,
            ⟨some 46, none, .pick (.t 34) (.t 45) (.c (.bool false))⟩,
            ⟨some 4, none, .mov (.t 46)⟩] (some [4]))
          .ret)
         .skip))
       (.seq
        (.reg [⟨some 47, none, .mov (.t 5)⟩,
          ⟨some 48, none, .mov (.t 47)⟩,
          ⟨some 49, some (48, true), .mov (.t 6)⟩,
          ⟨some 50, some (48, true), .mov (.t 8)⟩,
          ⟨some 51, some (48, true), .bin .eql .none (.t 49) (.t 50)⟩,
          ⟨some 52, some (48, true), .mov (.t 51)⟩,
          ⟨some 53, some (52, true), .mov (.t 7)⟩,
          ⟨some 54, some (52, true), .mov (.t 9)⟩,
          ⟨some 55, some (52, true), .bin .eql .none (.t 53) (.t 54)⟩,
          ⟨some 56, some (48, true), .pick (.t 52) (.t 55) (.c (.bool false))⟩,
          ⟨some 57, some (48, true), .mov (.t 0)⟩,
          ⟨some 58, some (48, true), .mov (.t 1)⟩,
          ⟨some 59, some (48, true), .bin .eql .none (.t 57) (.t 58)⟩,
          ⟨some 60, some (48, true), .bin .eql .bool (.t 56) (.t 59)⟩,
          ⟨some 61, none, .pick (.t 48) (.t 60) (.c (.bool false))⟩,
          ⟨some 62, none, .mov (.t 61)⟩,
          ⟨some 63, some (62, true), .mov (.t 7)⟩,
          ⟨some 64, some (62, true), .bin .eql .none (.t 63) (.c (.int .u8 117))⟩,
          ⟨some 65, some (62, true), .mov (.t 6)⟩,
          ⟨some 66, some (62, true), .mov (.t 0)⟩,
          ⟨some 67, some (62, true), .bin .eql .none (.t 65) (.t 66)⟩,
          ⟨some 68, some (62, true), .bin .eql .bool (.t 64) (.t 67)⟩,
          ⟨some 69, none, .pick (.t 62) (.t 68) (.c (.bool false))⟩,
          ⟨some 4, none, .mov (.t 69)⟩] (some [4]))
        .ret)))))))
theorem is_clavierlaw13KittyForms : IrOf Tryd.prog 5 70 ir_clavierlaw13KittyForms [.t 4] := ⟨_, Tryd.func5, rfl, by kernel_rfl, by kernel_rfl, by kernel_rfl⟩


theorem key_a : keyK 1 ⟨99, 4, 1, 0, 0, []⟩ = [27, 91, 57, 57, 59, 53, 117] := by decide +kernel
theorem key_b : keyK 8 ⟨97, 0, 1, 0, 0, []⟩ = [27, 91, 57, 55, 117] := by decide +kernel
theorem key_c : keyK 2 ⟨57352, 0, 3, 0, 0, []⟩ = [27, 91, 49, 59, 49, 58, 51, 65] := by decide +kernel
theorem form_d : formK 57366 = (13, 126) := by decide +kernel
theorem fs_awake {Gl : Gh → Prop} (hst : Stays Gl) : FS Tryd.prog Gl 10 [] [] [] (.bool true) [] [] := by
  refine FS.of hm hst is_clavierlaw13awake (by simp) fun γ hγ hfr => ?_
  have c1 := fs_Key (Gl := Gl) hst (k := ⟨99, 4, 1, 0, 0, []⟩) (fl := 1) (by omega) (by simp)
  have c2 := fs_Key (Gl := Gl) hst (k := ⟨97, 0, 1, 0, 0, []⟩) (fl := 8) (by omega) (by simp)
  have c3 := fs_Key (Gl := Gl) hst (k := ⟨57352, 0, 3, 0, 0, []⟩) (fl := 2) (by omega) (by simp)
  have c4 := fs_Form (Gl := Gl) hst (c := 57366)
  rw [key_a] at c1
  rw [key_b] at c2
  rw [key_c] at c3
  rw [form_d] at c4
  rw [kyAV] at c1 c2 c3
  (generalize hQ : (fun (ex : Ex) (_ _ : Nat) (s : St) => _) = Q; unfold ir_clavierlaw13awake)
  simp +contextual (maxSteps := 1000000) only [go_sem, reduceCtorEq, ↓reduceIte, Nat.reduceAdd, Nat.reduceEqDiff, Nat.reduceLeDiff, Nat.reduceMul, Nat.reduceBEq, Int.reduceBEq, Int.reduceBNe, Int.reduceLT, Int.reduceLE, Int.reduceGT, Int.reduceGE, Int.reduceToNat, Int.natCast_one, Int.natCast_zero, Int.cast_ofNat_Int]
  (refine CallP.pure (c1) (fun _ => rfl) ?_; simp +contextual (maxSteps := 1000000) only [go_sem, reduceCtorEq, ↓reduceIte, Nat.reduceAdd, Nat.reduceEqDiff, Nat.reduceLeDiff, Nat.reduceMul, Nat.reduceBEq, Int.reduceBEq, Int.reduceBNe, Int.reduceLT, Int.reduceLE, Int.reduceGT, Int.reduceGE, Int.reduceToNat, Int.natCast_one, Int.natCast_zero, Int.cast_ofNat_Int])
  (refine CallP.pure (c2) (fun _ => rfl) ?_; simp +contextual (maxSteps := 1000000) only [go_sem, reduceCtorEq, ↓reduceIte, Nat.reduceAdd, Nat.reduceEqDiff, Nat.reduceLeDiff, Nat.reduceMul, Nat.reduceBEq, Int.reduceBEq, Int.reduceBNe, Int.reduceLT, Int.reduceLE, Int.reduceGT, Int.reduceGE, Int.reduceToNat, Int.natCast_one, Int.natCast_zero, Int.cast_ofNat_Int])
  (refine CallP.pure (c3) (fun _ => rfl) ?_; simp +contextual (maxSteps := 1000000) only [go_sem, reduceCtorEq, ↓reduceIte, Nat.reduceAdd, Nat.reduceEqDiff, Nat.reduceLeDiff, Nat.reduceMul, Nat.reduceBEq, Int.reduceBEq, Int.reduceBNe, Int.reduceLT, Int.reduceLE, Int.reduceGT, Int.reduceGE, Int.reduceToNat, Int.natCast_one, Int.natCast_zero, Int.cast_ofNat_Int])
  (refine CallP.pure (c4) (fun _ => rfl) ?_; simp +contextual (maxSteps := 1000000) only [bb_un, bb_is, go_sem, reduceCtorEq, ↓reduceIte, Nat.reduceAdd, Nat.reduceEqDiff, Nat.reduceLeDiff, Nat.reduceMul, Nat.reduceBEq, Int.reduceBEq, Int.reduceBNe, Int.reduceLT, Int.reduceLE, Int.reduceGT, Int.reduceGE, Int.reduceToNat, Int.natCast_one, Int.natCast_zero, Int.cast_ofNat_Int])
  rw [← hQ]
  exact ⟨trivial, Ret.flat rfl rfl⟩
theorem form_out {c : Int} (h : ¬(57348 ≤ c ∧ c ≤ 57454)) (hk : (lookR c).kind ≠ 0) : formK c = (c, 117) := by
  have h3 : letR c = 0 := by
    unfold letR
    repeat (first | rfl | rw [if_neg (by omega)])
  have h4 : numR c = 0 := by
    unfold numR
    repeat (first | rfl | rw [if_neg (by omega)])
  have e : lookR c = ⟨restR c, 0, 0, 0, false⟩ := by
    unfold lookR
    rw [if_neg (by rw [h3]; simp), if_neg (by rw [h4]; simp), if_neg (by omega)]
  have hr : restR c = 2 ∨ restR c = 0 ∨ restR c = 1 := by
    unfold restR
    split
    · simp
    · rw [if_neg (by omega), if_neg (by omega)]
      split <;> simp
  rw [e] at hk
  simp only at hk
  simp only [formK, e]
  rw [if_neg hk, if_neg (by omega), if_neg (by omega), if_neg (by omega)]
theorem form_in : ∀ k : Fin 107, (lookR ((57348 + k.val : Nat) : Int)).kind ≠ 0 → ((formK ((57348 + k.val : Nat) : Int)).2 = 117 ↔ (formK ((57348 + k.val : Nat) : Int)).1 = ((57348 + k.val : Nat) : Int)) := by decide +kernel
theorem form_in2 : ∀ k j : Fin 107, (formK ((57348 + k.val : Nat) : Int)).2 ≠ 117 → formK ((57348 + k.val : Nat) : Int) = formK ((57348 + j.val : Nat) : Int) → (lookR ((57348 + k.val : Nat) : Int)).kind ≠ 0 → k = j := by decide +kernel
theorem form_u {c : Int} (hk : (lookR c).kind ≠ 0) : (formK c).2 = 117 ↔ (formK c).1 = c := by
  by_cases h : 57348 ≤ c ∧ c ≤ 57454
  · have := form_in ⟨(c - 57348).toNat, by omega⟩
    simp only at this
    rw [show ((57348 + (c - 57348).toNat : Nat) : Int) = c by omega] at this
    exact this hk
  · rw [form_out h hk]; simp
theorem form_inj {c d : Int} (hc : (lookR c).kind ≠ 0) (hd : (lookR d).kind ≠ 0) (h : formK c = formK d) : c = d := by
  by_cases h1 : (formK c).2 = 117
  · have h2 := (form_u hc).1 h1
    have h3 := (form_u hd).1 (by rw [← h]; exact h1)
    rw [← h2, ← h3, h]
  · have i1 : 57348 ≤ c ∧ c ≤ 57454 := Classical.byContradiction fun hn => h1 (by rw [form_out hn hc])
    have i2 : 57348 ≤ d ∧ d ≤ 57454 := Classical.byContradiction fun hn => h1 (by rw [h, form_out hn hd])
    have := form_in2 ⟨(c - 57348).toNat, by omega⟩ ⟨(d - 57348).toNat, by omega⟩
    simp only at this
    rw [show ((57348 + (c - 57348).toNat : Nat) : Int) = c by omega, show ((57348 + (d - 57348).toNat : Nat) : Int) = d by omega] at this
    have := this h1 h hc
    simp only [Fin.mk.injEq] at this
    omega
theorem fs_KittyForms {Gl : Gh → Prop} (hst : Stays Gl) {code other : Int} (_ : -9223372036854775808 ≤ code ∧ code ≤ 9223372036854775807) (_ : -9223372036854775808 ≤ other ∧ other ≤ 9223372036854775807) : FS Tryd.prog Gl 5 [.int .i64 code, .int .i64 other] [] [] (.bool true) [] [] := by
  refine FS.of hm hst is_clavierlaw13KittyForms (by simp) fun γ hγ hfr => ?_
  have c1 := fs_Form (Gl := Gl) hst (c := code)
  have c2 := fs_Form (Gl := Gl) hst (c := other)
  have c3 := fs_rLook (Gl := Gl) hst (c := code)
  have c4 := fs_rLook (Gl := Gl) hst (c := other)
  rw [ent_eq] at c3 c4
  (generalize hQ : (fun (ex : Ex) (_ _ : Nat) (s : St) => _) = Q; unfold ir_clavierlaw13KittyForms)
  simp +contextual (maxSteps := 1000000) only [go_sem, reduceCtorEq, ↓reduceIte, Nat.reduceAdd, Nat.reduceEqDiff, Nat.reduceLeDiff, Nat.reduceMul, Nat.reduceBEq, Int.reduceBEq, Int.reduceBNe, Int.reduceLT, Int.reduceLE, Int.reduceGT, Int.reduceGE, Int.reduceToNat, Int.natCast_one, Int.natCast_zero, Int.cast_ofNat_Int]
  (refine CallP.pure (fs_awake hst) (fun _ => rfl) ?_; simp +contextual (maxSteps := 1000000) only [go_sem, reduceCtorEq, ↓reduceIte, Nat.reduceAdd, Nat.reduceEqDiff, Nat.reduceLeDiff, Nat.reduceMul, Nat.reduceBEq, Int.reduceBEq, Int.reduceBNe, Int.reduceLT, Int.reduceLE, Int.reduceGT, Int.reduceGE, Int.reduceToNat, Int.natCast_one, Int.natCast_zero, Int.cast_ofNat_Int])
  (refine CallP.pure (c1) (fun _ => rfl) ?_; simp +contextual (maxSteps := 1000000) only [go_sem, reduceCtorEq, ↓reduceIte, Nat.reduceAdd, Nat.reduceEqDiff, Nat.reduceLeDiff, Nat.reduceMul, Nat.reduceBEq, Int.reduceBEq, Int.reduceBNe, Int.reduceLT, Int.reduceLE, Int.reduceGT, Int.reduceGE, Int.reduceToNat, Int.natCast_one, Int.natCast_zero, Int.cast_ofNat_Int])
  (refine CallP.pure (c2) (fun _ => rfl) ?_; simp +contextual (maxSteps := 1000000) only [go_sem, reduceCtorEq, ↓reduceIte, Nat.reduceAdd, Nat.reduceEqDiff, Nat.reduceLeDiff, Nat.reduceMul, Nat.reduceBEq, Int.reduceBEq, Int.reduceBNe, Int.reduceLT, Int.reduceLE, Int.reduceGT, Int.reduceGE, Int.reduceToNat, Int.natCast_one, Int.natCast_zero, Int.cast_ofNat_Int])
  (refine CallP.pure (c3) (fun _ => rfl) ?_; simp +contextual (maxSteps := 1000000) only [go_sem, reduceCtorEq, ↓reduceIte, Nat.reduceAdd, Nat.reduceEqDiff, Nat.reduceLeDiff, Nat.reduceMul, Nat.reduceBEq, Int.reduceBEq, Int.reduceBNe, Int.reduceLT, Int.reduceLE, Int.reduceGT, Int.reduceGE, Int.reduceToNat, Int.natCast_one, Int.natCast_zero, Int.cast_ofNat_Int])
  by_cases h1 : (lookR code).kind = 0
  · have q1 : ((lookR code).kind == 0) = true := by simp [h1]
    have q2 : ((lookR code).kind != 0) = false := by simp [h1]
    have f0 : formK code = (0, 0) := by simp only [formK]; rw [if_pos h1]
    have f1 : (formK code).1 = 0 := by rw [f0]
    have f2 : ((formK code).2.toNat : Int) = 0 := by rw [f0]; rfl
    simp +contextual (maxSteps := 1000000) only [q1, q2, f1, f2, go_sem, reduceCtorEq, ↓reduceIte, Nat.reduceAdd, Nat.reduceEqDiff, Nat.reduceLeDiff, Nat.reduceMul, Nat.reduceBEq, Int.reduceBEq, Int.reduceBNe, Int.reduceLT, Int.reduceLE, Int.reduceGT, Int.reduceGE, Int.reduceToNat, Int.natCast_one, Int.natCast_zero, Int.cast_ofNat_Int]
    rw [← hQ]
    exact ⟨trivial, Ret.flat rfl rfl⟩
  · have q1 : ((lookR code).kind == 0) = false := by simp [h1]
    have q2 : ((lookR code).kind != 0) = true := by simp [h1]
    simp +contextual (maxSteps := 1000000) only [q1, q2, go_sem, reduceCtorEq, ↓reduceIte, Nat.reduceAdd, Nat.reduceEqDiff, Nat.reduceLeDiff, Nat.reduceMul, Nat.reduceBEq, Int.reduceBEq, Int.reduceBNe, Int.reduceLT, Int.reduceLE, Int.reduceGT, Int.reduceGE, Int.reduceToNat, Int.natCast_one, Int.natCast_zero, Int.cast_ofNat_Int]
    (refine CallP.pure (c4) (fun _ => rfl) ?_; simp +contextual (maxSteps := 1000000) only [go_sem, reduceCtorEq, ↓reduceIte, Nat.reduceAdd, Nat.reduceEqDiff, Nat.reduceLeDiff, Nat.reduceMul, Nat.reduceBEq, Int.reduceBEq, Int.reduceBNe, Int.reduceLT, Int.reduceLE, Int.reduceGT, Int.reduceGE, Int.reduceToNat, Int.natCast_one, Int.natCast_zero, Int.cast_ofNat_Int])
    by_cases h2 : (lookR other).kind = 0
    · have q3 : ((lookR other).kind == 0) = true := by simp [h2]
      simp +contextual (maxSteps := 1000000) only [q3, q2, go_sem, reduceCtorEq, ↓reduceIte, Nat.reduceAdd, Nat.reduceEqDiff, Nat.reduceLeDiff, Nat.reduceMul, Nat.reduceBEq, Int.reduceBEq, Int.reduceBNe, Int.reduceLT, Int.reduceLE, Int.reduceGT, Int.reduceGE, Int.reduceToNat, Int.natCast_one, Int.natCast_zero, Int.cast_ofNat_Int]
      rw [← hQ]
      exact ⟨trivial, Ret.flat rfl rfl⟩
    · have q3 : ((lookR other).kind == 0) = false := by simp [h2]
      simp +contextual (maxSteps := 1000000) only [q3, q2, go_sem, reduceCtorEq, ↓reduceIte, Nat.reduceAdd, Nat.reduceEqDiff, Nat.reduceLeDiff, Nat.reduceMul, Nat.reduceBEq, Int.reduceBEq, Int.reduceBNe, Int.reduceLT, Int.reduceLE, Int.reduceGT, Int.reduceGE, Int.reduceToNat, Int.natCast_one, Int.natCast_zero, Int.cast_ofNat_Int]
      have e1 : ((formK code).1 == (formK other).1 && ((formK code).2.toNat : Int) == ((formK other).2.toNat : Int)) = (code == other) := by
        rw [Bool.eq_iff_iff]
        simp only [Bool.and_eq_true, beq_iff_eq]
        constructor
        · rintro ⟨a1, a2⟩
          refine form_inj h1 h2 (Prod.ext a1 (UInt8.toNat_inj.1 ?_))
          omega
        · rintro rfl; exact ⟨rfl, rfl⟩
      have e2 : (((formK code).2.toNat : Int) == 117) = ((formK code).1 == code) := by
        rw [Bool.eq_iff_iff]
        simp only [beq_iff_eq]
        rw [← form_u h1]
        constructor
        · intro a
          refine UInt8.toNat_inj.1 ?_
          show (formK code).2.toNat = 117
          omega
        · intro a; rw [a]; rfl
      rw [← hQ, e1, e2]
      refine ⟨trivial, Ret.flat (show some (AV.bool _) = some (AV.bool _) from congrArg (fun z => some (AV.bool z)) ?_) rfl⟩
      simp
end Go.Proofs.YtionnmnjbopkkaaDoor

/- The seat's facts that all rows want; arguments opened. -/
set_option linter.unusedVariables false
set_option linter.unusedSimpArgs false
set_option maxRecDepth 100000
namespace Go.Proofs.YtionnmnjbopkkaaDoor
open Go Go.Ab Go.WideShapes Go.RowKit
theorem seat_own : ownKnob Tryd.prog.godebug = none := by kernel_rfl
theorem seat_laidOut : laidOutB Tryd.prog = true := by kernel_rfl
section
variable {H : Type} {enc : TypeId × Value → H} {W : World} {base : Nat} {v : Value} {d : DataW H} {p : List MemPlace}
theorem tr_bytes : TR enc Tryd.prog W 26 fun xs => ∃ l : List UInt8, xs = [.sl none 1 (bytesAV l)] ∧ l.length ≤ maxLen := by
  refine (TR.slice (e := 5) (sz := 1) (by kernel_rfl) (by kernel_rfl) (by omega) (TR.int (k := .u8) (by kernel_rfl))).mono ?_
  rintro xs ⟨rows, rfl, h1, h2⟩
  obtain ⟨l, rfl⟩ := bytesAV_of fun r hr => (h2 r hr).1
  exact ⟨l, rfl, by rwa [bytesAV_length] at h1⟩
theorem op_bytes (hv : Value.okWide Tryd.prog W .any base 26 v) (hd : DataW.Trod enc Tryd.prog W 0 (fun _ => true) true 26 v d p) : ∃ l : List UInt8, l.length ≤ maxLen ∧ Rep (gh0 W) (.sl none 1 (bytesAV l)) v := by
  obtain ⟨a, len, cap, rfl⟩ := okWide_slice (P := Tryd.prog) (e := 5) (by kernel_rfl) hv
  obtain ⟨x, ⟨l, h1, h2⟩, hr⟩ := tr_bytes.arg1 rfl hd
  simp only [List.cons.injEq, and_true] at h1
  subst h1
  exact ⟨l, h2, hr⟩
theorem u8_of {n : Int} (h1 : IntKind.u8.min ≤ n) (h2 : n ≤ IntKind.u8.max) : ∃ c : UInt8, (c.toNat : Int) = n := by
  have h1' : 0 ≤ n := by simpa [IntKind.min, IntKind.signed] using h1
  have h2' : n ≤ 255 := by simpa [IntKind.max, IntKind.signed, IntKind.bits] using h2
  refine ⟨UInt8.ofNat n.toNat, ?_⟩
  rw [UInt8.toNat_ofNat', Nat.mod_eq_of_lt (by omega)]; omega
theorem op_u8 (hv : Value.okWide Tryd.prog W .any base 5 v) (hd : DataW.Trod enc Tryd.prog W 0 (fun _ => true) true 5 v d p) : ∃ c : UInt8, True ∧ Rep (gh0 W) (.int .u8 (c.toNat : Int)) v := by
  obtain ⟨n, rfl⟩ := okWide_int (P := Tryd.prog) (k := .u8) (by kernel_rfl) hv
  obtain ⟨x, ⟨m, h1, h2, h3⟩, hr⟩ := (TR.int (P := Tryd.prog) (k := .u8) (by kernel_rfl)).arg1 rfl hd
  simp only [List.cons.injEq, and_true] at h1
  subst h1
  obtain ⟨c, rfl⟩ := u8_of h2 h3
  exact ⟨c, trivial, hr⟩
theorem op_int (hv : Value.okWide Tryd.prog W .any base 3 v) (hd : DataW.Trod enc Tryd.prog W 0 (fun _ => true) true 3 v d p) : ∃ n : Int, (-9223372036854775808 ≤ n ∧ n ≤ 9223372036854775807) ∧ Rep (gh0 W) (.int .i64 n) v := by
  obtain ⟨n, rfl⟩ := okWide_int (P := Tryd.prog) (k := .i64) (by kernel_rfl) hv
  obtain ⟨x, ⟨m, h1, h2, h3⟩, hr⟩ := (TR.int (P := Tryd.prog) (k := .i64) (by kernel_rfl)).arg1 rfl hd
  simp only [List.cons.injEq, and_true] at h1
  subst h1
  exact ⟨m, ⟨by simpa [IntKind.min, IntKind.signed, IntKind.bits] using h2, by simpa [IntKind.max, IntKind.signed, IntKind.bits] using h3⟩, hr⟩
theorem op_bool (hv : Value.okWide Tryd.prog W .any base 4 v) (hd : DataW.Trod enc Tryd.prog W 0 (fun _ => true) true 4 v d p) : ∃ b : Bool, True ∧ Rep (gh0 W) (.bool b) v := by
  obtain ⟨b, rfl⟩ := okWide_bool (P := Tryd.prog) (by kernel_rfl) hv
  obtain ⟨x, ⟨c, h1⟩, hr⟩ := (TR.bool (P := Tryd.prog) (by kernel_rfl)).arg1 rfl hd
  simp only [List.cons.injEq, and_true] at h1
  subst h1
  exact ⟨c, trivial, hr⟩
end
end Go.Proofs.YtionnmnjbopkkaaDoor

/- The library's table, as the rows list it: what the seat's invariant wants of it. -/
set_option linter.unusedVariables false
set_option maxRecDepth 100000
namespace Go.Proofs.YtionnmnjbopkkaaDoor
open Go Go.Ab
theorem fixW_of {W : World} (h : laidMetH Tryd.prog [("math/bits.deBruijn32tab", Rows.laid_math_bits_deBruijn32tab), ("math/bits.deBruijn64tab", Rows.laid_math_bits_deBruijn64tab), ("internal/strconv.uint64pow10", Rows.laid_internal_strconv_uint64pow10)] W) : FixW W := by
  rw [MakeChecks.laidMetH_plain _ _ _ (by kernel_rfl)] at h
  have h2 := laidMet.filter (fun x => x.1 == "internal/strconv.uint64pow10") h
  have h3 : laidMet Tryd.prog [("internal/strconv.uint64pow10", Lib.tabData .u64 Lib.pow10Tab)] W := h2
  have h4 := Lib.tabIs_of_head (g := 3) (t := 166) (e := 157) (n := 20) (by kernel_rfl) (by kernel_rfl) (by kernel_rfl) (by kernel_rfl) (by kernel_rfl) (by kernel_rfl) h3
  intro p hp
  obtain rfl := List.mem_singleton.1 hp
  unfold Lib.TabIs World.var? at h4
  rw [show Program.globalNamed Tryd.prog "internal/strconv.uint64pow10" = some 3 from by kernel_rfl] at h4
  simp only [Option.bind_some] at h4
  split at h4
  · rename_i cs e fr hh
    simp only [Option.some.injEq] at h4
    refine ⟨e, fr, ?_⟩
    rw [hh, h4]
    simp [Lib.pow10Tab]
  · cases h4
end Go.Proofs.YtionnmnjbopkkaaDoor

/- KittyForms: whatever the input that the row lets in: true, and the input reads as it did. Conditions: those of the given row and card alone. -/
set_option linter.unusedVariables false
set_option linter.unusedSimpArgs false
set_option maxRecDepth 100000
namespace Go.Proofs.YtionnmnjbopkkaaDoor
open Go Go.Ab Go.ChangeShapes Go.WideShapes Go.ChangeAt Go.RowKit
theorem kittyForms_lifted (os : Os) (started : os.Started) (H : Type) (enc : TypeId × Value → H) :
    ReturnsInHanded {} Tryd.checked os 5 .any (fun w args => (Rows.kittyFormsSpec.pre enc Tryd.prog Tryd.f5 [] false w args ∧ laidMetH Tryd.prog [("math/bits.deBruijn32tab", Rows.laid_math_bits_deBruijn32tab), ("math/bits.deBruijn64tab", Rows.laid_math_bits_deBruijn64tab), ("internal/strconv.uint64pow10", Rows.laid_internal_strconv_uint64pow10)] w) ∧ sizedMet enc Tryd.prog Tryd.f5 (OpenSpec.ofChange Rows.kittyFormsSpec) false w args)
      (Rows.kittyFormsSpec.post enc Tryd.prog Tryd.f5 false true false false) := by
  refine returnsInHanded_of_change_and (C := Tryd.checked) (X := fun w _ => laidMetH Tryd.prog [("math/bits.deBruijn32tab", Rows.laid_math_bits_deBruijn32tab), ("math/bits.deBruijn64tab", Rows.laid_math_bits_deBruijn64tab), ("internal/strconv.uint64pow10", Rows.laid_internal_strconv_uint64pow10)] w) (fun _ _ _ hh h => h.of_heap hh) seat_own started (by kernel_rfl) Tryd.func5
    (ChangeSpec.witness_shaped (enc := enc) (C := Tryd.checked) (os := os) (X := fun w _ => laidMetH Tryd.prog [("math/bits.deBruijn32tab", Rows.laid_math_bits_deBruijn32tab), ("math/bits.deBruijn64tab", Rows.laid_math_bits_deBruijn64tab), ("internal/strconv.uint64pow10", Rows.laid_internal_strconv_uint64pow10)] w) false (World.laidAll Tryd.prog os [("math/bits.deBruijn32tab", Rows.laid_math_bits_deBruijn32tab), ("math/bits.deBruijn64tab", Rows.laid_math_bits_deBruijn64tab), ("internal/strconv.uint64pow10", Rows.laid_internal_strconv_uint64pow10)]) #[.int .i64 0, .int .i64 0] 8 (World.laidAll_os _ _ _)
      (World.shaped_of_ZipB (by kernel_rfl) (by kernel_rfl)) (by kernel_rfl) (by kernel_rfl) (by kernel_rfl)
      (by rw [MakeChecks.laidMetH_plain _ _ _ (by kernel_rfl)]; exact laidMet_laidAll _ (by kernel_rfl) (by kernel_rfl))) ?_
  intro W base args ds gs before hval0 hW _ _ hL _
  have hval : ∀ (j : Nat) t v, Tryd.f5.params[j]? = some t → args[j]? = some v → Value.okWide Tryd.prog W .any base t v := hval0
  have hW' := hW
  obtain ⟨p, q, hA0, hV, rfl, _, _⟩ := hW
  have hA : DataW.TrodAll enc Tryd.prog W 0 (fun _ => true) true Tryd.f5.params.toList args.toList ds p := hA0
  rw [Tryd.params5] at hA hval
  obtain ⟨v0, vs0, d0, ds0, p0, q0, hargs, rfl, rfl, h0, r0⟩ := trodAll_cons hA
  obtain ⟨v1, vs1, d1, ds1, p1, q1, rfl, rfl, rfl, h1, r1⟩ := trodAll_cons r0
  obtain ⟨rfl, rfl, rfl⟩ := trodAll_nil r1
  obtain rfl : args = #[v0, v1] := by cases args; simp_all
  obtain ⟨rfl, rfl⟩ := trodVars_none hV
  have lt0 : ∀ x ∈ p0, x.block < W.heap.size := by obtain ⟨m, hm⟩ := h0; exact DataW.trod_lt m _ _ _ hm
  obtain ⟨x0, c0, e0⟩ := op_int (hval 0 3 v0 rfl rfl) h0
  have lt1 : ∀ x ∈ p1, x.block < W.heap.size := by obtain ⟨m, hm⟩ := h1; exact DataW.trod_lt m _ _ _ hm
  obtain ⟨x1, c1, e1⟩ := op_int (hval 1 3 v1 rfl rfl) h1
  clear hA0 hval0
  refine ((fs_KittyForms (Gl := fun _ => True) (fun _ _ _ _ => trivial) c0 c1).row (fixW_of hL) trivial ⟨_, _, rfl, e0, ⟨_, _, rfl, e1, rfl⟩⟩).mono fun e W' ⟨v, g', he, hr, bel⟩ => ?_
  obtain rfl : v = .bool true := hr
  subst he
  exact ⟨_, rfl, _, _, _, [], _, [], hW', trodAll_mk1 (shut_bool (show Tryd.prog.underlying 4 = some .bool by kernel_rfl) _), (trodAll_cons_mk (Below.trod seat_laidOut (by kernel_rfl) (of_decide_eq_true (by kernel_rfl)) h0 bel lt0) (trodAll_cons_mk (Below.trod seat_laidOut (by kernel_rfl) (of_decide_eq_true (by kernel_rfl)) h1 bel lt1) trodAll_mk0)), rfl, bel.frame _, fun h => by cases h⟩
theorem kittyForms_holds : Rows.KittyFormsSaid :=
  OpenClaim.holds_of_wide 5 Tryd.f5 rfl rfl rfl rfl rfl rfl rfl ⟨rfl, rfl, rfl, rfl, rfl⟩ rfl rfl rfl rfl rfl (by kernel_rfl) Tryd.func5 (by kernel_rfl)
    (of_decide_eq_true (by kernel_rfl)) (by unfold Func.isWrapper; first | (rw [if_pos (by decide +kernel)]; kernel_rfl) | (rw [if_neg (by decide +kernel)]; exact ⟨rfl, rfl⟩))
    (fun os started H enc _ => kittyForms_lifted os started H enc)
theorem kittyForms_card : Rows.KittyFormsCardSaid :=
  Claim7.holds_tied_plain_at .later [] [.data, .data, .data] true (true, "10d7e15395e41b53405f503ad2025702628cc14fe275b052672ea38bef7cccf1") false kittyForms_holds (fun _ h => by cases h) (by kernel_rfl) (fun _ h => by cases h) kittyForms_row_tie rfl ⟨rfl, rfl⟩ (by kernel_rfl) rfl
    (fun f fn hf hfn => by
      obtain rfl : f = 5 := Option.some.inj ((show Tryd.prog.funcNamed "clavier/clavierlaw13.KittyForms" = some 5 by kernel_rfl).symm.trans hf) |>.symm
      obtain rfl : fn = Tryd.f5 := (Option.some.inj (Tryd.func5.symm.trans hfn)).symm
      exact ⟨by kernel_rfl, fun j t ht => by
        rw [Tryd.params5] at ht
        have hm : t ∈ ([3, 3] : List Nat) := by simpa using Array.mem_of_getElem? ht
        have hall : (([3, 3] : List Nat).all fun u => !Tryd.prog.wantsStandIn u) = true := by kernel_rfl
        exact (show Tryd.prog.wantsStandIn t = false by simpa using List.all_eq_true.1 hall t hm)⟩)
    (by kernel_rfl)
#print axioms kittyForms_card
end Go.Proofs.YtionnmnjbopkkaaDoor

