/- Part 3 of 3 of a proof: the given statement KittyApart, whatever the input that its row lets in. Conditions: those of the given row and card alone. -/
import Derived.Test.YthmjlngdbabdeaaDoorMKittyApart2
import Derived.Test.YthmjlngdbabdeaaDoorAb13
import Derived.Test.YthmjlngdbabdeaaDoorMKittyApart1
import Derived.WalkKit
import Derived.ProofKit
import Derived.SizedLaws
import Derived.Test.YthmjlngdbabdeaaDoorRows
import Derived.LaidSub
import Derived.Lib.LaidTab
import Derived.Lib.ItoaNum
import Derived.MakeChecks
import Derived.Test.YthmjlngdbabdeaaDoorCards
import Derived.Test.YthmjlngdbabdeaaDoorTie
import Derived.Deep.DeepHandedRow
import Derived.JoinedCond
import Derived.OpenShut
import Derived.ShutString
import Derived.ChangeOld
import Derived.Below
import Derived.Lay
import Derived.LaidOnce
import Derived.SevenTiedAt
/- Sequences of a size that may be. -/
set_option linter.unusedVariables false
set_option linter.unusedSimpArgs false
namespace Go.Proofs.YthmjlngdbabdeaaDoor
open Go Go.Ab

/-- No list of it is longer than there may be. -/
structure Sq.sm (s : Sq) : Prop where
  ps : s.ps.length < 9223372036854775808
  pp : ∀ p ∈ s.ps, p.length < 9223372036854775808
  it : s.it.length < 9223372036854775808
  da : s.da.length < 9223372036854775808
theorem parsOk_len {l : List (List Int)} (h : parsOk l = true) : l.length ≤ 16 ∧ ∀ p ∈ l, p.length ≤ 8 := by
  simp only [parsOk, Bool.and_eq_true, Bool.not_eq_true', Bool.or_eq_false_iff, decide_eq_false_iff_not] at h
  obtain ⟨⟨h1, _⟩, h2⟩ := h
  refine ⟨by omega, fun p hp => ?_⟩
  have := List.any_eq_false.1 h2 p hp
  simp only [parBad, Bool.or_eq_true, decide_eq_true_eq, not_or] at this
  omega
theorem mayP_sm {s : Sq} (h : mayP s = 0) : s.sm ∧ s.ps.length ≤ 16 ∧ (∀ p ∈ s.ps, p.length ≤ 8) ∧ s.it.length ≤ 2 ∧ s.da.length ≤ 4096 := by
  simp only [mayP] at h
  split at h
  · cases h
  · rename_i h1
    split at h
    · cases h
    · rename_i h2
      simp only [Bool.or_eq_true, Bool.not_eq_true', not_or, Bool.not_eq_false, Bool.and_eq_true, decide_eq_true_eq] at h2 h1
      obtain ⟨⟨⟨⟨_, h3⟩, h4⟩, _⟩, _⟩ := h2
      obtain ⟨k1, k2⟩ := parsOk_len h4
      have k3 : s.it.length ≤ 2 := by have := h3.1; omega
      have k4 : s.da.length ≤ 4096 := by omega
      exact ⟨⟨by omega, fun p hp => by have := k2 p hp; omega, by omega, by omega⟩, k1, k2, k3, k4⟩

end Go.Proofs.YthmjlngdbabdeaaDoor

/- The reference's layer 3: Put, walked. -/
set_option linter.unusedVariables false
set_option linter.unusedSimpArgs false
set_option maxRecDepth 100000
namespace Go.Proofs.YthmjlngdbabdeaaDoor
open Go Go.Ab
/-- A sequence as bytes. -/
def putB (s : Sq) : List UInt8 :=
  let f := [s.fi.toNat.toUInt8]
  if (s.k == 1) = true then [27, 91] ++ bodyB s ++ f
  else if (s.k == 2) = true then [27, 79] ++ f
  else if (s.k == 3) = true then [27, 80] ++ bodyB s ++ f ++ s.da ++ [27, 92]
  else if (s.k == 4) = true then [27, 93] ++ s.da ++ [27, 92]
  else [27] ++ s.it ++ f
def putV (s : Sq) : AV := if (mayP s != 0) = true then .nils else .sl none 1 (bytesAV (putB s))
theorem bodyB_len {s : Sq} (h : mayP s = 0) : (bodyB s).length ≤ 3000 := by
  obtain ⟨_, h1, h2, h3, h4⟩ := mayP_sm h
  have h5 : parsOk s.ps = true := by
    simp only [mayP] at h
    split at h
    · cases h
    · split at h
      · cases h
      · rename_i h2
        simp only [Bool.or_eq_true, Bool.not_eq_true', not_or, Bool.not_eq_false] at h2
        exact h2.1.1.2
  have := parsText_len (ps := s.ps) fun p hp => ⟨((parsOk_iff h5).2.2 p hp).2.1, fun n hn => (((parsOk_iff h5).2.2 p hp).2.2 n hn).2⟩
  have h6 : (prB s.pr).length ≤ 1 := by unfold prB; split <;> simp
  simp only [bodyB, List.length_append]; omega
theorem may_pars {s : Sq} (h : mayP s = 0) : parsOk s.ps = true := by
  simp only [mayP] at h
  split at h
  · cases h
  · split at h
    · cases h
    · rename_i h2
      simp only [Bool.or_eq_true, Bool.not_eq_true', not_or, Bool.not_eq_false] at h2
      exact h2.1.1.2
end Go.Proofs.YthmjlngdbabdeaaDoor

/- Sequences as bytes, walked: the program's. -/
set_option linter.unusedVariables false
set_option linter.unusedSimpArgs false
set_option maxRecDepth 100000
namespace Go.Proofs.YthmjlngdbabdeaaDoor
open Go Go.Ab
/- clavier/wire.one -/
def ir_wireone_l0 : ICode :=
 (.seq
        (.reg [⟨some 9, none, .bin .lss .none (.t 8) (.t 7)⟩] (some [3, 6, 7, 8, 9]))
        (.seq
         (.cond (.t 9)
          .skip
          (.exit 0))
         (.seq
          (.blk 1
           (.seq
            (.reg [⟨some 10, none, .ia 1 (.t 6) (.t 8)⟩,
              ⟨some 11, none, .ld none (.t 10)⟩,
              ⟨some 5, none, .mov (.t 11)⟩] (some [3, 5, 6, 7, 8]))
            (.reg [⟨some 12, none, .mov (.t 3)⟩,
              ⟨some 13, none, .mov (.t 5)⟩,
              ⟨some 14, none, .call (.c (.fn (.func 102) [] [])) [(.t 13)]⟩,
              ⟨some 15, none, .row 9 1 [(.t 14)]⟩,
              ⟨some 16, none, .app 9 1 16 (.t 12) (.t 15)⟩,
              ⟨some 3, none, .mov (.t 16)⟩] (some [3, 6, 7, 8]))))
          (.reg [⟨some 17, none, .bin .add .none (.t 8) (.c (.int .i64 1))⟩,
            ⟨some 8, none, .mov (.t 17)⟩] (some [3, 6, 7, 8])))))
def ir_wireone : ICode :=
 (.seq
  (.reg [⟨some 2, none, .mov (.c (.str []))⟩] (some [0]))
  (.seq
   (.reg [⟨some 3, none, .mov (.c .nils)⟩] (some [0, 3]))
   (.seq
    (.seq
     (.reg [⟨some 6, none, .mov (.t 0)⟩,
       ⟨some 7, none, .len (.t 6)⟩,
       ⟨some 8, none, .mov (.c (.int .i64 0))⟩] (some [3, 6, 7, 8]))
     (.blk 0
      (.loop
       ir_wireone_l0)))
    (.seq
     (.reg [⟨some 18, none, .mov (.t 3)⟩,
       ⟨some 19, none, .call (.c (.fn (.func 85) [] [])) [(.t 18), (.c (.str [58]))]⟩,
       ⟨some 2, none, .mov (.t 19)⟩] (some [2]))
     .ret))))
theorem is_wireone : IrOf Tryd.prog 86 20 ir_wireone [.t 2] := ⟨_, Tryd.func86, rfl, by kernel_rfl, by kernel_rfl, by kernel_rfl⟩

/- clavier/wire.body -/
def ir_wirebody_l0 : ICode :=
 (.seq
        (.reg [⟨some 11, none, .bin .lss .none (.t 10) (.t 9)⟩] (some [1, 3, 8, 9, 10, 11]))
        (.seq
         (.cond (.t 11)
          .skip
          (.exit 0))
         (.seq
          (.blk 1
           (.seq
            (.reg [⟨some 12, none, .ia 1 (.t 8) (.t 10)⟩,
              ⟨some 13, none, .ld none (.t 12)⟩,
              ⟨some 5, none, .mov (.t 13)⟩] (some [1, 3, 5, 8, 9, 10]))
            (.reg [⟨some 14, none, .mov (.t 3)⟩,
              ⟨some 15, none, .mov (.t 5)⟩,
              ⟨some 16, none, .call (.c (.fn (.func 86) [] [])) [(.t 15)]⟩,
              ⟨some 17, none, .row 9 1 [(.t 16)]⟩,
              ⟨some 18, none, .app 9 1 16 (.t 14) (.t 17)⟩,
              ⟨some 3, none, .mov (.t 18)⟩] (some [1, 3, 8, 9, 10]))))
          (.reg [⟨some 19, none, .bin .add .none (.t 10) (.c (.int .i64 1))⟩,
            ⟨some 10, none, .mov (.t 19)⟩] (some [1, 3, 8, 9, 10])))))
def ir_wirebody : ICode :=
 (.seq
  (.reg [⟨some 1, none, .box 32 (.t 0)⟩,
    ⟨some 2, none, .mov (.c (.str []))⟩] (some [1]))
  (.seq
   (.reg [⟨some 3, none, .mov (.c .nils)⟩] (some [1, 3]))
   (.seq
    (.seq
     (.reg [⟨some 7, none, .fa 2 (.t 1)⟩,
       ⟨some 8, none, .ld none (.t 7)⟩,
       ⟨some 9, none, .len (.t 8)⟩,
       ⟨some 10, none, .mov (.c (.int .i64 0))⟩] (some [1, 3, 8, 9, 10]))
     (.blk 0
      (.loop
       ir_wirebody_l0)))
    (.seq
     (.drw [⟨⟨some 20, none, .mov (.t 3)⟩, []⟩,
       ⟨⟨some 21, none, .call (.c (.fn (.func 85) [] [])) [(.t 20), (.c (.str [59]))]⟩, [0]⟩,
       ⟨⟨some 22, none, .fa 3 (.t 1)⟩, []⟩,
       ⟨⟨some 23, none, .ld none (.t 22)⟩, [2]⟩,
       ⟨⟨some 24, none, .bin .add .none (.t 21) (.t 23)⟩, [1, 3]⟩,
       ⟨⟨some 25, none, .fa 4 (.t 1)⟩, []⟩,
       ⟨⟨some 26, none, .ld none (.t 25)⟩, [5]⟩,
       ⟨⟨some 27, none, .row 5 1 [(.t 26)]⟩, [6]⟩,
       ⟨⟨some 28, none, .b2s (.t 27)⟩, [7]⟩,
       ⟨⟨some 29, none, .bin .add .none (.t 24) (.t 28)⟩, [4, 8]⟩]
       [⟨some 6, none, .mov (.t 29)⟩] (some [1, 6]))
     (.seq
      (.seq
       (.reg [⟨some 30, none, .fa 1 (.t 1)⟩,
         ⟨some 31, none, .ld none (.t 30)⟩,
         ⟨some 32, none, .bin .neq .none (.t 31) (.c (.int .u8 0))⟩] (some [1, 6, 32]))
       (.cond (.t 32)
        (.reg [⟨some 33, none, .fa 1 (.t 1)⟩,
          ⟨some 34, none, .ld none (.t 33)⟩,
          ⟨some 35, none, .row 5 1 [(.t 34)]⟩,
          ⟨some 36, none, .b2s (.t 35)⟩,
          ⟨some 37, none, .mov (.t 6)⟩,
          ⟨some 38, none, .bin .add .none (.t 36) (.t 37)⟩,
          ⟨some 6, none, .mov (.t 38)⟩] (some [6]))
        .skip))
      (.seq
       (.reg [⟨some 39, none, .mov (.t 6)⟩,
         ⟨some 2, none, .mov (.t 39)⟩] (some [2]))
       .ret))))))
theorem is_wirebody : IrOf Tryd.prog 60 40 ir_wirebody [.t 2] := ⟨_, Tryd.func60, rfl, by kernel_rfl, by kernel_rfl, by kernel_rfl⟩

/-- clavier/wire.glue -/
def ir_wireglue : ICode :=
 (.seq
  (.reg [⟨some 2, none, .mov (.c .nils)⟩] (some [0]))
  (.seq
   (.reg [⟨some 3, none, .row 5 1 [(.c (.int .u8 27))]⟩,
     ⟨some 4, none, .mov (.t 0)⟩,
     ⟨some 5, none, .call (.c (.fn (.func 85) [] [])) [(.t 4), (.c (.str []))]⟩,
     ⟨some 6, none, .aps 5 (.t 3) (.t 5)⟩,
     ⟨some 2, none, .mov (.t 6)⟩] (some [2]))
   .ret))
theorem is_wireglue : IrOf Tryd.prog 59 7 ir_wireglue [.t 2] := ⟨_, Tryd.func59, rfl, by kernel_rfl, by kernel_rfl, by kernel_rfl⟩


theorem join_jn (c : UInt8) : ∀ xs : List (List UInt8), Lib.join xs [c] = jn c xs
  | [] => rfl
  | [x] => by simp [Lib.join, List.intercalate, jn]
  | x :: y :: l => by
    have ih := join_jn c (y :: l)
    simp only [Lib.join, List.intercalate] at ih ⊢
    rw [jn, ← ih]
    simp [List.intersperse]
theorem join_flat : ∀ xs : List (List UInt8), Lib.join xs [] = xs.flatten
  | [] => rfl
  | [x] => by simp [Lib.join, List.intercalate]
  | x :: y :: l => by
    have ih := join_flat (y :: l)
    simp only [Lib.join, List.intercalate] at ih ⊢
    rw [List.flatten_cons, ← ih]
    simp [List.intersperse]
theorem strsAV_snoc (xs : List (List UInt8)) (x : List UInt8) : strsAV (xs ++ [x]) = strsAV xs ++ [[.str x]] := by simp [strsAV]
theorem strsAV_length (xs : List (List UInt8)) : (strsAV xs).length = xs.length := by simp [strsAV]
set_option maxHeartbeats 2000000 in
theorem fs_one {Gl : Gh → Prop} (hst : Stays Gl) {p : List Int} {t : Option Nm} (hl : p.length ≤ 100000) (hp : ∀ n ∈ p, n ≤ 1114111) : FS Tryd.prog Gl 86 [.sl t 1 (intsAV p)] [] [] (.str (subText p)) [] [] := by
  refine FS.of hm hst is_wireone (by simp) fun γ hγ hfr => ?_
  have hsl := subText_len hp
  (generalize hQ : (fun (ex : Ex) (_ _ : Nat) (s : St) => _) = Q; unfold ir_wireone)
  simp +contextual (maxSteps := 1000000) only [intsAV_length, go_sem, reduceCtorEq, ↓reduceIte, Nat.reduceAdd, Nat.reduceEqDiff, Nat.reduceLeDiff, Nat.reduceMul, Nat.reduceBEq, Int.reduceBEq, Int.reduceBNe, Int.reduceLT, Int.reduceLE, Int.reduceGT, Int.reduceGE, Int.reduceToNat, Int.natCast_one, Int.natCast_zero, Int.cast_ofNat_Int]
  refine kLoop_ix (fun q : Nat × Option Nm => ⟨lf [(3, sv q.2 1 (strsAV ((p.take q.1).map textZ))), (6, .sl t 1 (intsAV p)), (7, .int .i64 (p.length : Int)), (8, .int .i64 (q.1 : Int))], [], fun x => q.2 = some x⟩)
    (fun q => q.1 ≤ p.length ∧ (q.2 = none → q.1 = 0)) (fun q => p.length - q.1) 0 (0, none) ?_ ⟨by simp, by simp⟩ ?_
  · refine Wk.perm' ?_ (fun p hp => by cases hp) (fun t ht => by cases ht)
    simp only [lfOK, upd]
    repeat' first | exact AVle.refl _ _ | exact trivial | refine And.intro ?_ ?_ | exact AVle.int (by simp only [IntKind.wrap_i64]; omega)
  · rintro γ' ⟨i, tk⟩ hf ⟨hi, htk⟩
    simp only at hi htk
    generalize hQ' : kIt _ _ _ _ _ = Q'
    unfold ir_wireone_l0
    by_cases hlt : i < p.length
    · have hd : decide ((i : Int) < (p.length : Int)) = true := by simp; omega
      have hg1 : (intsAV p).getD i [] = [.int .i64 p[i]] := intsAV_get hlt
      have hpi := hp _ (List.getElem_mem hlt)
      have c1 := fs_NumText (Gl := Gl) hst (n := p[i]) (by omega)
      have htk1 : (p.take (i + 1)).map textZ = (p.take i).map textZ ++ [textZ p[i]] := by
        rw [List.take_add_one, List.getElem?_eq_getElem hlt, List.map_append]; rfl
      have hlen : (strsAV ((p.take i).map textZ)).length ≤ p.length := by rw [strsAV_length]; simp; omega
      cases tk with
      | none =>
        have h0 := htk rfl
        have ht0 : p.take i = [] := by rw [h0]; rfl
        rw [ht0, List.map_nil, List.nil_append] at htk1
        simp +contextual (maxSteps := 1000000) only [hd, hg1, Int.toNat_natCast, intsAV_length, go_sem, reduceCtorEq, ↓reduceIte, Nat.reduceAdd, Nat.reduceEqDiff, Nat.reduceLeDiff, Nat.reduceMul, Nat.reduceBEq, Int.reduceBEq, Int.reduceBNe, Int.reduceLT, Int.reduceLE, Int.reduceGT, Int.reduceGE, Int.reduceToNat, Int.natCast_one, Int.natCast_zero, Int.cast_ofNat_Int]
        refine ⟨⟨by omega, by omega⟩, ?_⟩
        (refine CallP.pure (c1) (fun _ => rfl) ?_; simp +contextual (maxSteps := 1000000) only [go_sem, reduceCtorEq, ↓reduceIte, Nat.reduceAdd, Nat.reduceEqDiff, Nat.reduceLeDiff, Nat.reduceMul, Nat.reduceBEq, Int.reduceBEq, Int.reduceBNe, Int.reduceLT, Int.reduceLE, Int.reduceGT, Int.reduceGE, Int.reduceToNat, Int.natCast_one, Int.natCast_zero, Int.cast_ofNat_Int])
        rw [← hQ']
        simp only [w_kIt_n]
        refine ⟨0, (i + 1, some (γ', 8, 0)), Wk.perm' ?_ (fun p hp => by cases hp) ?_, ⟨by simp only; omega, by simp⟩, by simp only; omega⟩
        · simp only [htk1, sv_some, strsAV, List.map_cons, List.map_nil]
          repeat' first | exact AVle.refl _ _ | exact trivial | refine And.intro ?_ ?_ | exact AVle.int (by simp only [IntKind.wrap_i64]; omega)
        · intro t ht
          cases ht
          exact .inl rfl
      | some t0 =>
        simp +contextual (maxSteps := 1000000) only [hd, hg1, Int.toNat_natCast, intsAV_length, go_sem, reduceCtorEq, ↓reduceIte, Nat.reduceAdd, Nat.reduceEqDiff, Nat.reduceLeDiff, Nat.reduceMul, Nat.reduceBEq, Int.reduceBEq, Int.reduceBNe, Int.reduceLT, Int.reduceLE, Int.reduceGT, Int.reduceGE, Int.reduceToNat, Int.natCast_one, Int.natCast_zero, Int.cast_ofNat_Int]
        refine ⟨⟨by omega, by omega⟩, ?_⟩
        (refine CallP.pure (c1) (fun _ => rfl) ?_; simp +contextual (maxSteps := 1000000) only [go_sem, reduceCtorEq, ↓reduceIte, Nat.reduceAdd, Nat.reduceEqDiff, Nat.reduceLeDiff, Nat.reduceMul, Nat.reduceBEq, Int.reduceBEq, Int.reduceBNe, Int.reduceLT, Int.reduceLE, Int.reduceGT, Int.reduceGE, Int.reduceToNat, Int.natCast_one, Int.natCast_zero, Int.cast_ofNat_Int])
        refine ⟨⟨.inr trivial, by omega⟩, ?_⟩
        rw [← hQ']
        simp only [w_kIt_n]
        refine ⟨0, (i + 1, some (γ', 8, 0)), Wk.perm' ?_ (fun p hp => by cases hp) ?_, ⟨by simp only; omega, by simp⟩, by simp only; omega⟩
        · simp only [htk1, sv_some, strsAV_snoc]
          repeat' first | exact AVle.refl _ _ | exact trivial | refine And.intro ?_ ?_ | exact AVle.int (by simp only [IntKind.wrap_i64]; omega)
        · intro t ht
          cases ht
          exact .inl rfl
    · have hii : i = p.length := by omega
      have hd : decide ((i : Int) < (p.length : Int)) = false := by simp; omega
      have hfull : (p.take i).map textZ = p.map textZ := by rw [List.take_of_length_le (by omega)]
      have hjl : (Lib.join (p.map textZ) [58]).length ≤ 140737488355328 := by
        rw [join_jn]; show (subText p).length ≤ _; omega
      have hz : Lib.join (p.map textZ) [58] = subText p := join_jn 58 _
      cases tk with
      | none =>
        have h0 : p = [] := List.length_eq_zero_iff.1 (by rw [← hii]; exact htk rfl)
        have c1 := (fs_Join (Gl := Gl) (xs := p.map textZ) (sep := [58]) (t := none) (by simp; omega) hjl).args (args := [.nils, .str [58]]) ⟨by rw [h0]; exact RepLe.nils 1, RepLe.refl _, trivial⟩
        rw [hz] at c1
        simp +contextual (maxSteps := 1000000) only [hd, go_sem, reduceCtorEq, ↓reduceIte, Nat.reduceAdd, Nat.reduceEqDiff, Nat.reduceLeDiff, Nat.reduceMul, Nat.reduceBEq, Int.reduceBEq, Int.reduceBNe, Int.reduceLT, Int.reduceLE, Int.reduceGT, Int.reduceGE, Int.reduceToNat, Int.natCast_one, Int.natCast_zero, Int.cast_ofNat_Int]
        rw [← hQ']
        simp only [w_kIt_e, w_kBlk_e, ↓reduceIte]
        simp +contextual (maxSteps := 1000000) only [go_sem, reduceCtorEq, ↓reduceIte, Nat.reduceAdd, Nat.reduceEqDiff, Nat.reduceLeDiff, Nat.reduceMul, Nat.reduceBEq, Int.reduceBEq, Int.reduceBNe, Int.reduceLT, Int.reduceLE, Int.reduceGT, Int.reduceGE, Int.reduceToNat, Int.natCast_one, Int.natCast_zero, Int.cast_ofNat_Int]
        (refine CallP.pure (c1) (fun _ => rfl) ?_; simp +contextual (maxSteps := 1000000) only [go_sem, reduceCtorEq, ↓reduceIte, Nat.reduceAdd, Nat.reduceEqDiff, Nat.reduceLeDiff, Nat.reduceMul, Nat.reduceBEq, Int.reduceBEq, Int.reduceBNe, Int.reduceLT, Int.reduceLE, Int.reduceGT, Int.reduceGE, Int.reduceToNat, Int.natCast_one, Int.natCast_zero, Int.cast_ofNat_Int])
        rw [← hQ]
        exact ⟨trivial, Ret.flat rfl rfl⟩
      | some t0 =>
        have c1 := fs_Join (Gl := Gl) (xs := p.map textZ) (sep := [58]) (t := some t0) (by simp; omega) hjl
        rw [hz] at c1
        simp +contextual (maxSteps := 1000000) only [hd, hfull, go_sem, reduceCtorEq, ↓reduceIte, Nat.reduceAdd, Nat.reduceEqDiff, Nat.reduceLeDiff, Nat.reduceMul, Nat.reduceBEq, Int.reduceBEq, Int.reduceBNe, Int.reduceLT, Int.reduceLE, Int.reduceGT, Int.reduceGE, Int.reduceToNat, Int.natCast_one, Int.natCast_zero, Int.cast_ofNat_Int]
        rw [← hQ']
        simp only [w_kIt_e, w_kBlk_e, ↓reduceIte]
        simp +contextual (maxSteps := 1000000) only [go_sem, reduceCtorEq, ↓reduceIte, Nat.reduceAdd, Nat.reduceEqDiff, Nat.reduceLeDiff, Nat.reduceMul, Nat.reduceBEq, Int.reduceBEq, Int.reduceBNe, Int.reduceLT, Int.reduceLE, Int.reduceGT, Int.reduceGE, Int.reduceToNat, Int.natCast_one, Int.natCast_zero, Int.cast_ofNat_Int]
        (refine CallP.pure (c1) (fun _ => rfl) ?_; simp +contextual (maxSteps := 1000000) only [go_sem, reduceCtorEq, ↓reduceIte, Nat.reduceAdd, Nat.reduceEqDiff, Nat.reduceLeDiff, Nat.reduceMul, Nat.reduceBEq, Int.reduceBEq, Int.reduceBNe, Int.reduceLT, Int.reduceLE, Int.reduceGT, Int.reduceGE, Int.reduceToNat, Int.natCast_one, Int.natCast_zero, Int.cast_ofNat_Int])
        rw [← hQ]
        exact ⟨trivial, Ret.flat rfl rfl⟩
theorem fs_glue {Gl : Gh → Prop} (hst : Stays Gl) {xs : List (List UInt8)} {t : Option Nm} (hN : xs.length ≤ 100) (hl : xs.flatten.length ≤ 1000000) : FS Tryd.prog Gl 59 [.sl t 1 (strsAV xs)] [] [] (.sl none 1 (bytesAV (27 :: xs.flatten))) [] [] := by
  refine FS.ofW hm hst is_wireglue rfl (by simp) fun γ hγ hfr => ?_
  have c1 := fs_Join (Gl := Gl) (xs := xs) (sep := []) (t := t) (by omega) (by rw [join_flat]; omega)
  rw [join_flat] at c1
  (generalize hQ : (fun (ex : Ex) (_ _ : Nat) (s : St) => _) = Q; unfold ir_wireglue)
  simp +contextual (maxSteps := 1000000) only [go_sem, reduceCtorEq, ↓reduceIte, Nat.reduceAdd, Nat.reduceEqDiff, Nat.reduceLeDiff, Nat.reduceMul, Nat.reduceBEq, Int.reduceBEq, Int.reduceBNe, Int.reduceLT, Int.reduceLE, Int.reduceGT, Int.reduceGE, Int.reduceToNat, Int.natCast_one, Int.natCast_zero, Int.cast_ofNat_Int]
  (refine CallP.pure (c1) (fun _ => rfl) ?_; simp +contextual (maxSteps := 1000000) only [go_sem, reduceCtorEq, ↓reduceIte, Nat.reduceAdd, Nat.reduceEqDiff, Nat.reduceLeDiff, Nat.reduceMul, Nat.reduceBEq, Int.reduceBEq, Int.reduceBNe, Int.reduceLT, Int.reduceLE, Int.reduceGT, Int.reduceGE, Int.reduceToNat, Int.natCast_one, Int.natCast_zero, Int.cast_ofNat_Int])
  refine ⟨⟨.inl trivial, by omega⟩, ?_⟩
  rw [← hQ]
  exact ⟨trivial, .inl ⟨_, rfl, RepLe.anon' rfl⟩⟩
set_option maxHeartbeats 4000000 in
theorem fs_body {Gl : Gh → Prop} (hst : Stays Gl) {k : Int} {ps : List (List Int)} {it da : List UInt8} {pr fi : UInt8} (hl : ps.length ≤ 16) (hp : ∀ p ∈ ps, p.length ≤ 8 ∧ ∀ n ∈ p, n ≤ 1114111) (hit : it.length ≤ 100000) :
    FS Tryd.prog Gl 60 [.agg (Sq.c ⟨k, pr.toNat, ps, it, fi.toNat, da⟩)] [] [] (.str (prB pr.toNat ++ (parsText ps ++ it ++ [fi]))) [] [] := by
  refine FS.of hm hst is_wirebody (by simp) fun γ hγ hfr => ?_
  have hsl := parsText_len hp
  have hsc : Sq.c ⟨k, pr.toNat, ps, it, fi.toNat, da⟩ = [.int .i64 k, .int .u8 (pr.toNat : Int), .sl none 1 (parsAV ps), .str it, .int .u8 (fi.toNat : Int), .str da] := rfl
  (generalize hQ : (fun (ex : Ex) (_ _ : Nat) (s : St) => _) = Q; unfold ir_wirebody)
  simp +contextual (maxSteps := 1000000) only [hsc, parsAV_length, go_sem, reduceCtorEq, ↓reduceIte, Nat.reduceAdd, Nat.reduceEqDiff, Nat.reduceLeDiff, Nat.reduceMul, Nat.reduceBEq, Int.reduceBEq, Int.reduceBNe, Int.reduceLT, Int.reduceLE, Int.reduceGT, Int.reduceGE, Int.reduceToNat, Int.natCast_one, Int.natCast_zero, Int.cast_ofNat_Int]
  refine kLoop_ix (fun q : Nat × Option Nm => ⟨lf [(1, .ptr (γ, 0, 0) 0), (3, sv q.2 1 (strsAV ((ps.take q.1).map subText))), (8, .sl none 1 (parsAV ps)), (9, .int .i64 (ps.length : Int)), (10, .int .i64 (q.1 : Int))], [((γ, 0, 0), .cells [.int .i64 k, .int .u8 (pr.toNat : Int), .sl none 1 (parsAV ps), .str it, .int .u8 (fi.toNat : Int), .str da])], fun x => q.2 = some x⟩)
    (fun q => q.1 ≤ ps.length ∧ (q.2 = none → q.1 = 0)) (fun q => ps.length - q.1) 0 (0, none) ?_ ⟨by simp, by simp⟩ ?_
  · refine Wk.perm' ?_ (fun p hp => hp) (fun t ht => by cases ht)
    simp only [lfOK, upd]
    repeat' first | exact AVle.refl _ _ | exact trivial | refine And.intro ?_ ?_ | exact AVle.int (by simp only [IntKind.wrap_i64]; omega)
  · rintro γ' ⟨i, tk⟩ hf ⟨hi, htk⟩
    simp only at hi htk
    generalize hQ' : kIt _ _ _ _ _ = Q'
    unfold ir_wirebody_l0
    by_cases hlt : i < ps.length
    · have hd : decide ((i : Int) < (ps.length : Int)) = true := by simp; omega
      have hg1 : (parsAV ps).getD i [] = [.sl none 1 (intsAV ps[i])] := parsAV_get hlt
      have hpi := hp _ (List.getElem_mem hlt)
      have c1 := fs_one (Gl := Gl) hst (p := ps[i]) (t := none) (by omega) hpi.2
      have htk1 : (ps.take (i + 1)).map subText = (ps.take i).map subText ++ [subText ps[i]] := by
        rw [List.take_add_one, List.getElem?_eq_getElem hlt, List.map_append]; rfl
      have hlen : (strsAV ((ps.take i).map subText)).length ≤ ps.length := by rw [strsAV_length]; simp; omega
      cases tk with
      | none =>
        have h0 := htk rfl
        have ht0 : ps.take i = [] := by rw [h0]; rfl
        rw [ht0, List.map_nil, List.nil_append] at htk1
        simp +contextual (maxSteps := 1000000) only [hd, hg1, Int.toNat_natCast, parsAV_length, go_sem, reduceCtorEq, ↓reduceIte, Nat.reduceAdd, Nat.reduceEqDiff, Nat.reduceLeDiff, Nat.reduceMul, Nat.reduceBEq, Int.reduceBEq, Int.reduceBNe, Int.reduceLT, Int.reduceLE, Int.reduceGT, Int.reduceGE, Int.reduceToNat, Int.natCast_one, Int.natCast_zero, Int.cast_ofNat_Int]
        refine ⟨⟨by omega, by omega⟩, ?_⟩
        (refine CallP.pure (c1) (fun _ => rfl) ?_; simp +contextual (maxSteps := 1000000) only [go_sem, reduceCtorEq, ↓reduceIte, Nat.reduceAdd, Nat.reduceEqDiff, Nat.reduceLeDiff, Nat.reduceMul, Nat.reduceBEq, Int.reduceBEq, Int.reduceBNe, Int.reduceLT, Int.reduceLE, Int.reduceGT, Int.reduceGE, Int.reduceToNat, Int.natCast_one, Int.natCast_zero, Int.cast_ofNat_Int])
        rw [← hQ']
        simp only [w_kIt_n]
        refine ⟨0, (i + 1, some (γ', 8, 0)), Wk.perm' ?_ (fun p hp => hp) ?_, ⟨by simp only; omega, by simp⟩, by simp only; omega⟩
        · simp only [htk1, sv_some, strsAV, List.map_cons, List.map_nil]
          repeat' first | exact AVle.refl _ _ | exact trivial | refine And.intro ?_ ?_ | exact AVle.int (by simp only [IntKind.wrap_i64]; omega)
        · intro t ht
          cases ht
          exact .inl rfl
      | some t0 =>
        simp +contextual (maxSteps := 1000000) only [hd, hg1, Int.toNat_natCast, parsAV_length, go_sem, reduceCtorEq, ↓reduceIte, Nat.reduceAdd, Nat.reduceEqDiff, Nat.reduceLeDiff, Nat.reduceMul, Nat.reduceBEq, Int.reduceBEq, Int.reduceBNe, Int.reduceLT, Int.reduceLE, Int.reduceGT, Int.reduceGE, Int.reduceToNat, Int.natCast_one, Int.natCast_zero, Int.cast_ofNat_Int]
        refine ⟨⟨by omega, by omega⟩, ?_⟩
        (refine CallP.pure (c1) (fun _ => rfl) ?_; simp +contextual (maxSteps := 1000000) only [go_sem, reduceCtorEq, ↓reduceIte, Nat.reduceAdd, Nat.reduceEqDiff, Nat.reduceLeDiff, Nat.reduceMul, Nat.reduceBEq, Int.reduceBEq, Int.reduceBNe, Int.reduceLT, Int.reduceLE, Int.reduceGT, Int.reduceGE, Int.reduceToNat, Int.natCast_one, Int.natCast_zero, Int.cast_ofNat_Int])
        refine ⟨⟨.inr trivial, by omega⟩, ?_⟩
        rw [← hQ']
        simp only [w_kIt_n]
        refine ⟨0, (i + 1, some (γ', 8, 0)), Wk.perm' ?_ (fun p hp => hp) ?_, ⟨by simp only; omega, by simp⟩, by simp only; omega⟩
        · simp only [htk1, sv_some, strsAV_snoc]
          repeat' first | exact AVle.refl _ _ | exact trivial | refine And.intro ?_ ?_ | exact AVle.int (by simp only [IntKind.wrap_i64]; omega)
        · intro t ht
          cases ht
          exact .inl rfl
    · have hii : i = ps.length := by omega
      have hd : decide ((i : Int) < (ps.length : Int)) = false := by simp; omega
      have hfull : (ps.take i).map subText = ps.map subText := by rw [List.take_of_length_le (by omega)]
      have hz : Lib.join (ps.map subText) [59] = parsText ps := join_jn 59 _
      have hjl : (Lib.join (ps.map subText) [59]).length ≤ 140737488355328 := by rw [hz]; omega
      have c1 : FS Tryd.prog Gl 85 [sv tk 1 (strsAV (ps.map subText)), .str [59]] [] [] (.str (parsText ps)) [] [] := by
        rw [← hz]
        cases tk with
        | none =>
          have h0 : ps = [] := List.length_eq_zero_iff.1 (by rw [← hii]; exact htk rfl)
          exact (fs_Join (Gl := Gl) (xs := ps.map subText) (sep := [59]) (t := none) (by simp; omega) hjl).args ⟨by rw [h0]; exact RepLe.nils 1, RepLe.refl _, trivial⟩
        | some t0 => exact fs_Join (Gl := Gl) (xs := ps.map subText) (sep := [59]) (t := some t0) (by simp; omega) hjl
      simp +contextual (maxSteps := 1000000) only [hd, hfull, go_sem, reduceCtorEq, ↓reduceIte, Nat.reduceAdd, Nat.reduceEqDiff, Nat.reduceLeDiff, Nat.reduceMul, Nat.reduceBEq, Int.reduceBEq, Int.reduceBNe, Int.reduceLT, Int.reduceLE, Int.reduceGT, Int.reduceGE, Int.reduceToNat, Int.natCast_one, Int.natCast_zero, Int.cast_ofNat_Int]
      rw [← hQ']
      simp only [w_kIt_e, w_kBlk_e, ↓reduceIte]
      simp +contextual (maxSteps := 1000000) only [go_sem, reduceCtorEq, ↓reduceIte, Nat.reduceAdd, Nat.reduceEqDiff, Nat.reduceLeDiff, Nat.reduceMul, Nat.reduceBEq, Int.reduceBEq, Int.reduceBNe, Int.reduceLT, Int.reduceLE, Int.reduceGT, Int.reduceGE, Int.reduceToNat, Int.natCast_one, Int.natCast_zero, Int.cast_ofNat_Int]
      refine DCall.new c1 ?_
      simp +contextual (maxSteps := 1000000) only [isByte_one, unbyte_c, go_sem, reduceCtorEq, ↓reduceIte, Nat.reduceAdd, Nat.reduceEqDiff, Nat.reduceLeDiff, Nat.reduceMul, Nat.reduceBEq, Int.reduceBEq, Int.reduceBNe, Int.reduceLT, Int.reduceLE, Int.reduceGT, Int.reduceGE, Int.reduceToNat, Int.natCast_one, Int.natCast_zero, Int.cast_ofNat_Int]
      refine ⟨by omega, by simp only [List.length_append]; omega, ?_⟩
      have hpr : ((pr.toNat : Int).toNat).toUInt8 = pr := by rw [Int.toNat_natCast]; exact UInt8.ofNat_toNat
      cases hq : ((pr.toNat : Int) != 0) with
      | false =>
        simp +contextual (maxSteps := 1000000) only [go_sem, reduceCtorEq, ↓reduceIte, Nat.reduceAdd, Nat.reduceEqDiff, Nat.reduceLeDiff, Nat.reduceMul, Nat.reduceBEq, Int.reduceBEq, Int.reduceBNe, Int.reduceLT, Int.reduceLE, Int.reduceGT, Int.reduceGE, Int.reduceToNat, Int.natCast_one, Int.natCast_zero, Int.cast_ofNat_Int]
        have hz1 : prB (pr.toNat : Int) = [] := by rw [prB, hq]; rfl
        rw [← hQ, hz1]
        exact ⟨trivial, Ret.flat rfl rfl⟩
      | true =>
        simp +contextual (maxSteps := 1000000) only [isByte_one, unbyte_c, go_sem, reduceCtorEq, ↓reduceIte, Nat.reduceAdd, Nat.reduceEqDiff, Nat.reduceLeDiff, Nat.reduceMul, Nat.reduceBEq, Int.reduceBEq, Int.reduceBNe, Int.reduceLT, Int.reduceLE, Int.reduceGT, Int.reduceGE, Int.reduceToNat, Int.natCast_one, Int.natCast_zero, Int.cast_ofNat_Int]
        refine ⟨by simp only [List.length_append, List.length_cons, List.length_nil]; omega, ?_⟩
        have hz1 : prB (pr.toNat : Int) = [pr] := by rw [prB, hq, hpr]; rfl
        rw [← hQ, hz1]
        exact ⟨trivial, Ret.flat rfl rfl⟩
end Go.Proofs.YthmjlngdbabdeaaDoor

/- Sequences as bytes, walked: the program's Put. -/
set_option linter.unusedVariables false
set_option linter.unusedSimpArgs false
set_option maxRecDepth 100000
namespace Go.Proofs.YthmjlngdbabdeaaDoor
open Go Go.Ab
/-- clavier/wire.Put -/
def ir_wirePut : ICode :=
 (.seq
  (.reg [⟨some 1, none, .box 32 (.t 0)⟩,
    ⟨some 2, none, .mov (.c .nils)⟩,
    ⟨some 3, none, .mov (.c (.int .i64 0))⟩] (some [1]))
  (.seq
   (.seq
    (.reg [⟨some 5, none, .ld (some 6) (.t 1)⟩,
      ⟨some 6, none, .call (.c (.fn (.func 58) [] [])) [(.t 5)]⟩,
      ⟨some 4, none, .mov (.t 6)⟩] (some [1, 4]))
    (.seq
     (.reg [⟨some 7, none, .mov (.t 4)⟩,
       ⟨some 8, none, .bin .neq .none (.t 7) (.c (.int .i64 0))⟩] (some [1, 4, 8]))
     (.cond (.t 8)
      (.seq
       (.reg [⟨some 9, none, .mov (.t 4)⟩,
         ⟨some 2, none, .mov (.c .nils)⟩,
         ⟨some 3, none, .mov (.t 9)⟩] (some [2, 3]))
       .ret)
      .skip)))
   (.seq
    (.seq
     (.reg [⟨some 10, none, .fa 0 (.t 1)⟩,
       ⟨some 11, none, .ld none (.t 10)⟩] (some [1, 11]))
     (.blk 0
      (.seq
       (.reg [⟨some 13, none, .bin .eql .none (.t 11) (.c (.int .i64 1))⟩,
         ⟨some 12, none, .mov (.t 13)⟩] (some [1, 11, 12]))
       (.cond (.t 12)
        (.seq
         (.reg [⟨some 14, none, .ld (some 6) (.t 1)⟩,
           ⟨some 15, none, .call (.c (.fn (.func 60) [] [])) [(.t 14)]⟩,
           ⟨some 16, none, .row 9 1 [(.c (.str [91])), (.t 15)]⟩,
           ⟨some 17, none, .call (.c (.fn (.func 59) [] [])) [(.t 16)]⟩,
           ⟨some 2, none, .mov (.t 17)⟩,
           ⟨some 3, none, .mov (.c (.int .i64 0))⟩] (some [2, 3]))
         .ret)
        (.seq
         (.reg [⟨some 19, none, .bin .eql .none (.t 11) (.c (.int .i64 2))⟩,
           ⟨some 18, none, .mov (.t 19)⟩] (some [1, 11, 18]))
         (.cond (.t 18)
          (.seq
           (.reg [⟨some 20, none, .fa 4 (.t 1)⟩,
             ⟨some 21, none, .ld none (.t 20)⟩,
             ⟨some 22, none, .row 5 1 [(.t 21)]⟩,
             ⟨some 23, none, .b2s (.t 22)⟩,
             ⟨some 24, none, .row 9 1 [(.c (.str [79])), (.t 23)]⟩,
             ⟨some 25, none, .call (.c (.fn (.func 59) [] [])) [(.t 24)]⟩,
             ⟨some 2, none, .mov (.t 25)⟩,
             ⟨some 3, none, .mov (.c (.int .i64 0))⟩] (some [2, 3]))
           .ret)
          (.seq
           (.reg [⟨some 27, none, .bin .eql .none (.t 11) (.c (.int .i64 3))⟩,
             ⟨some 26, none, .mov (.t 27)⟩] (some [1, 11, 26]))
           (.cond (.t 26)
            (.seq
             (.drw [⟨⟨some 28, none, .ld (some 6) (.t 1)⟩, []⟩,
               ⟨⟨some 29, none, .call (.c (.fn (.func 60) [] [])) [(.t 28)]⟩, [0]⟩,
               ⟨⟨some 30, none, .fa 5 (.t 1)⟩, []⟩,
               ⟨⟨some 31, none, .ld none (.t 30)⟩, [2]⟩,
               ⟨⟨some 32, none, .row 9 1 [(.c (.str [80])), (.t 29), (.t 31), (.c (.str [27, 92]))]⟩, [1, 3]⟩,
               ⟨⟨some 33, none, .call (.c (.fn (.func 59) [] [])) [(.t 32)]⟩, [4, 1]⟩]
               [⟨some 2, none, .mov (.t 33)⟩,
               ⟨some 3, none, .mov (.c (.int .i64 0))⟩] (some [2, 3]))
             .ret)
            (.seq
             (.reg [⟨some 35, none, .bin .eql .none (.t 11) (.c (.int .i64 4))⟩,
               ⟨some 34, none, .mov (.t 35)⟩] (some [1, 34]))
             (.cond (.t 34)
              (.seq
               (.reg [⟨some 36, none, .fa 5 (.t 1)⟩,
                 ⟨some 37, none, .ld none (.t 36)⟩,
                 ⟨some 38, none, .row 9 1 [(.c (.str [93])), (.t 37), (.c (.str [27, 92]))]⟩,
                 ⟨some 39, none, .call (.c (.fn (.func 59) [] [])) [(.t 38)]⟩,
                 ⟨some 2, none, .mov (.t 39)⟩,
                 ⟨some 3, none, .mov (.c (.int .i64 0))⟩] (some [2, 3]))
               .ret)
              .skip))))))))))
    (.seq
     (.reg [⟨some 40, none, .ld (some 6) (.t 1)⟩,
       ⟨some 41, none, .call (.c (.fn (.func 60) [] [])) [(.t 40)]⟩,
       ⟨some 42, none, .row 9 1 [(.t 41)]⟩,
       ⟨some 43, none, .call (.c (.fn (.func 59) [] [])) [(.t 42)]⟩,
       ⟨some 2, none, .mov (.t 43)⟩,
       ⟨some 3, none, .mov (.c (.int .i64 0))⟩] (some [2, 3]))
     .ret))))
theorem is_wirePut : IrOf Tryd.prog 29 44 ir_wirePut [.t 2, .t 3] := ⟨_, Tryd.func29, rfl, by kernel_rfl, by kernel_rfl, by kernel_rfl⟩


theorem esc_plain {s : Sq} (h : mayP s = 0) (h1 : s.k ≠ 1) (h2 : s.k ≠ 2) (h3 : s.k ≠ 3) (h4 : s.k ≠ 4) : s.pr = 0 ∧ s.ps = [] := by
  have hs : shapedP s = true := by
    simp only [mayP] at h
    split at h
    · cases h
    · split at h
      · cases h
      · rename_i h2
        simp only [Bool.or_eq_true, Bool.not_eq_true', not_or, Bool.not_eq_false] at h2
        exact h2.2
  simp only [shapedP, if_neg h1, if_neg h2, if_neg h3, if_neg h4] at hs
  split at hs
  · simp only [Bool.and_eq_true, beq_iff_eq] at hs
    obtain ⟨⟨⟨⟨⟨q1, q2⟩, _⟩, _⟩, _⟩, _⟩ := hs
    exact ⟨q1, List.length_eq_zero_iff.1 (by omega)⟩
  · cases hs
set_option maxHeartbeats 4000000 in
theorem fs_wPut {Gl : Gh → Prop} (hst : Stays Gl) {s : Sq} (hp0 : 0 ≤ s.pr) (hp1 : s.pr < 256) (hf0 : 0 ≤ s.fi) (hf1 : s.fi < 128) (h : s.sm) : FS Tryd.prog Gl 29 [.agg s.c] [] [] (.tup [putV s, .int .i64 (mayP s)]) [] [] := by
  have c1 := fs_May (Gl := Gl) hst hf0 hf1 h.ps h.pp h.it h.da
  have hfl : (AV.tup [putV s, .int .i64 (mayP s)]).flatT = true := by
    unfold putV; split <;> rfl
  refine FS.ofW hm hst is_wirePut hfl (by simp) fun γ hγ hfr => ?_
  have hpv : putV s = if (mayP s != 0) = true then .nils else .sl none 1 (bytesAV (putB s)) := rfl
  have hda : mayP s = 0 → s.da.length ≤ 4096 := fun hz => (mayP_sm hz).2.2.2.2
  have hil : mayP s = 0 → s.it.length ≤ 2 := fun hz => (mayP_sm hz).2.2.2.1
  have hpl : mayP s = 0 → s.ps.length ≤ 16 := fun hz => (mayP_sm hz).2.1
  have hpp : mayP s = 0 → ∀ p ∈ s.ps, p.length ≤ 8 ∧ ∀ n ∈ p, n ≤ 1114111 := fun hz p hp => ⟨(mayP_sm hz).2.2.1 p hp, fun n hn => (((parsOk_iff (may_pars hz)).2.2 p hp).2.2 n hn).2⟩
  obtain ⟨k, pr, ps, it, fi, da⟩ := s
  simp only at hp0 hp1 hf0 hf1 hda hil hpl hpp
  obtain ⟨pr, rfl⟩ := byteOf hp0 hp1
  obtain ⟨fi, rfl⟩ := byteOf hf0 (by omega)
  have hbb : putB ⟨k, pr.toNat, ps, it, fi.toNat, da⟩ = (if (k == 1) = true then [27, 91] ++ (prB pr.toNat ++ parsText ps ++ it) ++ [fi]
    else if (k == 2) = true then [27, 79] ++ [fi]
    else if (k == 3) = true then [27, 80] ++ (prB pr.toNat ++ parsText ps ++ it) ++ [fi] ++ da ++ [27, 92]
    else if (k == 4) = true then [27, 93] ++ da ++ [27, 92]
    else [27] ++ it ++ [fi]) := by
    have : ((fi.toNat : Int).toNat).toUInt8 = fi := by rw [Int.toNat_natCast]; exact UInt8.ofNat_toNat
    simp only [putB, bodyB, this]
  have hcc : Sq.c ⟨k, pr.toNat, ps, it, fi.toNat, da⟩ = [.int .i64 k, .int .u8 (pr.toNat : Int), parsV ps, .str it, .int .u8 (fi.toNat : Int), .str da] := rfl
  rw [hcc] at c1
  generalize hmp : mayP _ = mp at *
  (generalize hQ : (fun (ex : Ex) (_ _ : Nat) (s : St) => _) = Q; unfold ir_wirePut)
  simp +contextual (maxSteps := 1000000) only [hcc, go_sem, reduceCtorEq, ↓reduceIte, Nat.reduceAdd, Nat.reduceEqDiff, Nat.reduceLeDiff, Nat.reduceMul, Nat.reduceBEq, Int.reduceBEq, Int.reduceBNe, Int.reduceLT, Int.reduceLE, Int.reduceGT, Int.reduceGE, Int.reduceToNat, Int.natCast_one, Int.natCast_zero, Int.cast_ofNat_Int]
  (refine CallP.pure (c1) (fun _ => rfl) ?_; simp +contextual (maxSteps := 1000000) only [go_sem, reduceCtorEq, ↓reduceIte, Nat.reduceAdd, Nat.reduceEqDiff, Nat.reduceLeDiff, Nat.reduceMul, Nat.reduceBEq, Int.reduceBEq, Int.reduceBNe, Int.reduceLT, Int.reduceLE, Int.reduceGT, Int.reduceGE, Int.reduceToNat, Int.natCast_one, Int.natCast_zero, Int.cast_ofNat_Int])
  by_cases hz : mp = 0
  · subst hz
    have hda := hda rfl
    have hil := hil rfl
    have c2 := fs_body (Gl := Gl) hst (k := k) (ps := ps) (it := it) (da := da) (pr := pr) (fi := fi) (hpl rfl) (hpp rfl) (by omega)
    rw [hcc] at c2
    have hsl := parsText_len (hpp rfl)
    have hpl := hpl rfl
    have hprl : (prB pr.toNat).length ≤ 1 := by unfold prB; split <;> simp
    have fin : ∀ {l : List UInt8} {γ c : Nat} {H : Hp} {T : Tk}, l = putB ⟨k, pr.toNat, ps, it, fi.toNat, da⟩ → Q .ret γ c ⟨lf [(2, .sl none 1 (bytesAV l)), (3, .int .i64 0)], H, T⟩ := by
      intro l γ c H T hl
      rw [← hQ, hpv, hl]
      exact ⟨trivial, .inl ⟨_, rfl, RepLe.refl _⟩⟩
    have hpt : (parsText ps).length ≤ 3000 := by omega
    have hk1 : (k == 1) = true ∨ (k == 1) = false := by cases (k == 1) <;> simp
    rcases hk1 with hk1 | hk1
    · simp +contextual (maxSteps := 1000000) only [hk1, go_sem, reduceCtorEq, ↓reduceIte, Nat.reduceAdd, Nat.reduceEqDiff, Nat.reduceLeDiff, Nat.reduceMul, Nat.reduceBEq, Int.reduceBEq, Int.reduceBNe, Int.reduceLT, Int.reduceLE, Int.reduceGT, Int.reduceGE, Int.reduceToNat, Int.natCast_one, Int.natCast_zero, Int.cast_ofNat_Int]
      (refine CallP.pure (c2) (fun _ => rfl) ?_; simp +contextual (maxSteps := 1000000) only [go_sem, reduceCtorEq, ↓reduceIte, Nat.reduceAdd, Nat.reduceEqDiff, Nat.reduceLeDiff, Nat.reduceMul, Nat.reduceBEq, Int.reduceBEq, Int.reduceBNe, Int.reduceLT, Int.reduceLE, Int.reduceGT, Int.reduceGE, Int.reduceToNat, Int.natCast_one, Int.natCast_zero, Int.cast_ofNat_Int])
      (refine CallP.pure (fs_glue (xs := [[91], prB pr.toNat ++ (parsText ps ++ it ++ [fi])]) hst (by simp) (by simp; omega)) (fun _ => rfl) ?_; simp +contextual (maxSteps := 1000000) only [go_sem, reduceCtorEq, ↓reduceIte, Nat.reduceAdd, Nat.reduceEqDiff, Nat.reduceLeDiff, Nat.reduceMul, Nat.reduceBEq, Int.reduceBEq, Int.reduceBNe, Int.reduceLT, Int.reduceLE, Int.reduceGT, Int.reduceGE, Int.reduceToNat, Int.natCast_one, Int.natCast_zero, Int.cast_ofNat_Int])
      refine fin ?_
      rw [hbb, if_pos hk1]; simp
    have hk2 : (k == 2) = true ∨ (k == 2) = false := by cases (k == 2) <;> simp
    rcases hk2 with hk2 | hk2
    · simp +contextual (maxSteps := 1000000) only [hk1, hk2, isByte_one, unbyte_c, go_sem, reduceCtorEq, ↓reduceIte, Nat.reduceAdd, Nat.reduceEqDiff, Nat.reduceLeDiff, Nat.reduceMul, Nat.reduceBEq, Int.reduceBEq, Int.reduceBNe, Int.reduceLT, Int.reduceLE, Int.reduceGT, Int.reduceGE, Int.reduceToNat, Int.natCast_one, Int.natCast_zero, Int.cast_ofNat_Int]
      (refine CallP.pure (fs_glue (xs := [[79], [fi]]) hst (by simp) (by simp)) (fun _ => rfl) ?_; simp +contextual (maxSteps := 1000000) only [go_sem, reduceCtorEq, ↓reduceIte, Nat.reduceAdd, Nat.reduceEqDiff, Nat.reduceLeDiff, Nat.reduceMul, Nat.reduceBEq, Int.reduceBEq, Int.reduceBNe, Int.reduceLT, Int.reduceLE, Int.reduceGT, Int.reduceGE, Int.reduceToNat, Int.natCast_one, Int.natCast_zero, Int.cast_ofNat_Int])
      refine fin ?_
      rw [hbb, hk1, if_neg (by simp), if_pos hk2]; simp
    have hk3 : (k == 3) = true ∨ (k == 3) = false := by cases (k == 3) <;> simp
    rcases hk3 with hk3 | hk3
    · simp +contextual (maxSteps := 1000000) only [hk1, hk2, hk3, go_sem, reduceCtorEq, ↓reduceIte, Nat.reduceAdd, Nat.reduceEqDiff, Nat.reduceLeDiff, Nat.reduceMul, Nat.reduceBEq, Int.reduceBEq, Int.reduceBNe, Int.reduceLT, Int.reduceLE, Int.reduceGT, Int.reduceGE, Int.reduceToNat, Int.natCast_one, Int.natCast_zero, Int.cast_ofNat_Int]
      refine DCall.new c2 ?_
      simp +contextual (maxSteps := 1000000) only [go_sem, reduceCtorEq, ↓reduceIte, Nat.reduceAdd, Nat.reduceEqDiff, Nat.reduceLeDiff, Nat.reduceMul, Nat.reduceBEq, Int.reduceBEq, Int.reduceBNe, Int.reduceLT, Int.reduceLE, Int.reduceGT, Int.reduceGE, Int.reduceToNat, Int.natCast_one, Int.natCast_zero, Int.cast_ofNat_Int]
      refine ⟨by simp [AV.closedL, AV.closed], DCall.new (fs_glue (xs := [[80], prB pr.toNat ++ (parsText ps ++ it ++ [fi]), da, [27, 92]]) hst (by simp) (by simp; omega)) ?_⟩
      simp +contextual (maxSteps := 1000000) only [go_sem, reduceCtorEq, ↓reduceIte, Nat.reduceAdd, Nat.reduceEqDiff, Nat.reduceLeDiff, Nat.reduceMul, Nat.reduceBEq, Int.reduceBEq, Int.reduceBNe, Int.reduceLT, Int.reduceLE, Int.reduceGT, Int.reduceGE, Int.reduceToNat, Int.natCast_one, Int.natCast_zero, Int.cast_ofNat_Int]
      refine fin ?_
      rw [hbb, hk1, if_neg (by simp), hk2, if_neg (by simp), if_pos hk3]; simp
    have hk4 : (k == 4) = true ∨ (k == 4) = false := by cases (k == 4) <;> simp
    rcases hk4 with hk4 | hk4
    · simp +contextual (maxSteps := 1000000) only [hk1, hk2, hk3, hk4, go_sem, reduceCtorEq, ↓reduceIte, Nat.reduceAdd, Nat.reduceEqDiff, Nat.reduceLeDiff, Nat.reduceMul, Nat.reduceBEq, Int.reduceBEq, Int.reduceBNe, Int.reduceLT, Int.reduceLE, Int.reduceGT, Int.reduceGE, Int.reduceToNat, Int.natCast_one, Int.natCast_zero, Int.cast_ofNat_Int]
      (refine CallP.pure (fs_glue (xs := [[93], da, [27, 92]]) hst (by simp) (by simp; omega)) (fun _ => rfl) ?_; simp +contextual (maxSteps := 1000000) only [go_sem, reduceCtorEq, ↓reduceIte, Nat.reduceAdd, Nat.reduceEqDiff, Nat.reduceLeDiff, Nat.reduceMul, Nat.reduceBEq, Int.reduceBEq, Int.reduceBNe, Int.reduceLT, Int.reduceLE, Int.reduceGT, Int.reduceGE, Int.reduceToNat, Int.natCast_one, Int.natCast_zero, Int.cast_ofNat_Int])
      refine fin ?_
      rw [hbb, hk1, if_neg (by simp), hk2, if_neg (by simp), hk3, if_neg (by simp), if_pos hk4]; simp
    · simp +contextual (maxSteps := 1000000) only [hk1, hk2, hk3, hk4, go_sem, reduceCtorEq, ↓reduceIte, Nat.reduceAdd, Nat.reduceEqDiff, Nat.reduceLeDiff, Nat.reduceMul, Nat.reduceBEq, Int.reduceBEq, Int.reduceBNe, Int.reduceLT, Int.reduceLE, Int.reduceGT, Int.reduceGE, Int.reduceToNat, Int.natCast_one, Int.natCast_zero, Int.cast_ofNat_Int]
      (refine CallP.pure (c2) (fun _ => rfl) ?_; simp +contextual (maxSteps := 1000000) only [go_sem, reduceCtorEq, ↓reduceIte, Nat.reduceAdd, Nat.reduceEqDiff, Nat.reduceLeDiff, Nat.reduceMul, Nat.reduceBEq, Int.reduceBEq, Int.reduceBNe, Int.reduceLT, Int.reduceLE, Int.reduceGT, Int.reduceGE, Int.reduceToNat, Int.natCast_one, Int.natCast_zero, Int.cast_ofNat_Int])
      (refine CallP.pure (fs_glue (xs := [prB pr.toNat ++ (parsText ps ++ it ++ [fi])]) hst (by simp) (by simp; omega)) (fun _ => rfl) ?_; simp +contextual (maxSteps := 1000000) only [go_sem, reduceCtorEq, ↓reduceIte, Nat.reduceAdd, Nat.reduceEqDiff, Nat.reduceLeDiff, Nat.reduceMul, Nat.reduceBEq, Int.reduceBEq, Int.reduceBNe, Int.reduceLT, Int.reduceLE, Int.reduceGT, Int.reduceGE, Int.reduceToNat, Int.natCast_one, Int.natCast_zero, Int.cast_ofNat_Int])
      refine fin ?_
      rw [hbb, hk1, if_neg (by simp), hk2, if_neg (by simp), hk3, if_neg (by simp), hk4, if_neg (by simp)]
      obtain ⟨hpl1, hpl2⟩ := esc_plain hmp (by simpa using hk1) (by simpa using hk2) (by simpa using hk3) (by simpa using hk4)
      simp only at hpl1 hpl2
      rw [hpl1, hpl2]; rfl
  · have hq : (mp != 0) = true := by simp [hz]
    simp +contextual (maxSteps := 1000000) only [hq, go_sem, reduceCtorEq, ↓reduceIte, Nat.reduceAdd, Nat.reduceEqDiff, Nat.reduceLeDiff, Nat.reduceMul, Nat.reduceBEq, Int.reduceBEq, Int.reduceBNe, Int.reduceLT, Int.reduceLE, Int.reduceGT, Int.reduceGE, Int.reduceToNat, Int.natCast_one, Int.natCast_zero, Int.cast_ofNat_Int]
    rw [← hQ, hpv, if_pos hq]
    exact ⟨trivial, .inl ⟨_, rfl, RepLe.refl _⟩⟩
end Go.Proofs.YthmjlngdbabdeaaDoor

/- Keys by flags, walked: Key. -/
set_option linter.unusedVariables false
set_option linter.unusedSimpArgs false
set_option maxRecDepth 100000
namespace Go.Proofs.YthmjlngdbabdeaaDoor
open Go Go.Ab
/-- clavier/kitty.Key -/
def ir_kittyKey : ICode :=
 (.seq
  (.reg [⟨some 3, none, .box 23 (.t 1)⟩,
    ⟨some 4, none, .mov (.c .nils)⟩] (some [0, 3]))
  (.seq
   (.drw [⟨⟨some 11, none, .ld (some 6) (.t 3)⟩, []⟩,
     ⟨⟨some 12, none, .mov (.t 0)⟩, []⟩,
     ⟨⟨some 13, none, .fa 0 (.t 3)⟩, []⟩,
     ⟨⟨some 14, none, .ld none (.t 13)⟩, [2]⟩,
     ⟨⟨some 15, none, .call (.c (.fn (.func 15) [] [])) [(.t 14)]⟩, [3]⟩,
     ⟨⟨some 16, none, .fld 0 none (.t 15)⟩, [4]⟩,
     ⟨⟨some 17, none, .bld [(.int .i64 0), (.int .i64 0), (.int .i64 0), (.int .i64 0), (.int .i64 0), (.str []), (.int .i64 0), (.int .i64 0)] [(0, 6, (.t 11)), (6, 1, (.t 12)), (7, 1, (.t 16))]⟩, [0, 1, 5]⟩,
     ⟨⟨some 5, none, .box 59 (.c (.agg [(.int .i64 0), (.int .i64 0), (.int .i64 0), (.int .i64 0), (.int .i64 0), (.str []), (.int .i64 0), (.int .i64 0)]))⟩, []⟩]
     [⟨none, none, .st 8 (.t 5) (.t 17)⟩] (some [3, 5]))
   (.seq
    (.seq
     (.reg [⟨some 18, none, .ld (some 6) (.t 3)⟩,
       ⟨some 19, none, .call (.c (.fn (.func 26) [] [])) [(.t 18)]⟩,
       ⟨some 20, none, .un .not (.t 19)⟩,
       ⟨some 21, none, .mov (.t 20)⟩,
       ⟨some 22, some (21, false), .ld (some 8) (.t 5)⟩,
       ⟨some 23, some (21, false), .call (.c (.fn (.func 27) [] [])) [(.t 22)]⟩,
       ⟨some 24, some (21, false), .un .not (.t 23)⟩,
       ⟨some 25, none, .pick (.t 21) (.c (.bool true)) (.t 24)⟩] (some [3, 5, 25]))
     (.cond (.t 25)
      (.seq
       (.reg [⟨some 4, none, .mov (.c .nils)⟩] (some [4]))
       .ret)
      .skip))
    (.seq
     (.seq
      (.reg [⟨some 26, none, .ld (some 8) (.t 5)⟩,
        ⟨some 27, none, .call (.c (.fn (.func 28) [] [])) [(.t 26)]⟩,
        ⟨some 6, none, .mov (.t 27)⟩] (some [3, 5, 6]))
      (.seq
       (.reg [⟨some 28, none, .mov (.t 6)⟩,
         ⟨some 29, none, .len (.t 28)⟩,
         ⟨some 30, none, .bin .gtr .none (.t 29) (.c (.int .i64 0))⟩] (some [3, 5, 6, 30]))
       (.cond (.t 30)
        (.seq
         (.reg [⟨some 31, none, .mov (.t 6)⟩,
           ⟨some 4, none, .mov (.t 31)⟩] (some [4]))
         .ret)
        .skip)))
     (.seq
      (.reg [⟨some 33, none, .fa 0 (.t 3)⟩,
        ⟨some 34, none, .ld none (.t 33)⟩,
        ⟨some 35, none, .call (.c (.fn (.func 16) [] [])) [(.t 34)]⟩,
        ⟨some 32, none, .mov (.t 35)⟩,
        ⟨some 36, none, .ext (.t 32) 0⟩,
        ⟨some 37, none, .ext (.t 32) 1⟩,
        ⟨some 7, none, .mov (.t 36)⟩,
        ⟨some 8, none, .mov (.t 37)⟩] (some [5, 7, 8]))
      (.seq
       (.drw [⟨⟨some 39, none, .mov (.t 8)⟩, []⟩,
         ⟨⟨some 40, none, .ld (some 8) (.t 5)⟩, []⟩,
         ⟨⟨some 41, none, .mov (.t 7)⟩, []⟩,
         ⟨⟨some 42, none, .mov (.t 8)⟩, []⟩,
         ⟨⟨some 43, none, .call (.c (.fn (.func 31) [] [])) [(.t 40), (.t 41), (.t 42)]⟩, [1, 2, 3]⟩,
         ⟨⟨some 44, none, .ld (some 8) (.t 5)⟩, []⟩,
         ⟨⟨some 45, none, .call (.c (.fn (.func 32) [] [])) [(.t 44)]⟩, [5, 4]⟩,
         ⟨⟨some 46, none, .ld (some 8) (.t 5)⟩, []⟩,
         ⟨⟨some 47, none, .call (.c (.fn (.func 33) [] [])) [(.t 46)]⟩, [7, 6]⟩,
         ⟨⟨some 48, none, .row 64 1 [(.t 43), (.t 45), (.t 47)]⟩, [4, 6, 8]⟩,
         ⟨⟨some 49, none, .call (.c (.fn (.func 30) [] [])) [(.t 48)]⟩, [9, 8]⟩,
         ⟨⟨some 50, none, .bld [(.int .i64 0), (.int .u8 0), .nils, (.str []), (.int .u8 0), (.str [])] [(0, 1, (.c (.int .i64 1))), (4, 1, (.t 39)), (2, 1, (.t 49))]⟩, [0, 10]⟩,
         ⟨⟨some 51, none, .call (.c (.fn (.func 29) [] [])) [(.t 50)]⟩, [11, 10]⟩,
         ⟨⟨some 38, none, .mov (.t 51)⟩, [12]⟩,
         ⟨⟨some 52, none, .ext (.t 38) 0⟩, [13]⟩,
         ⟨⟨some 53, none, .ext (.t 38) 1⟩, [13]⟩,
         ⟨⟨some 9, none, .mov (.t 52)⟩, [14, 12, 0, 1, 2, 3, 4, 5, 6, 7, 8, 9, 10, 11, 12, 13, 14]⟩]
         [⟨some 10, none, .mov (.t 53)⟩] (some [9]))
       (.seq
        (.reg [⟨some 54, none, .mov (.t 9)⟩,
          ⟨some 4, none, .mov (.t 54)⟩] (some [4]))
        .ret)))))))
theorem is_kittyKey : IrOf Tryd.prog 12 55 ir_kittyKey [.t 4] := ⟨_, Tryd.func12, rfl, by kernel_rfl, by kernel_rfl, by kernel_rfl⟩


def putX (s : Sq) : List UInt8 := if (mayP s != 0) = true then [] else putB s
theorem putV_le (s : Sq) : RepLe (putV s) (.sl none 1 (bytesAV (putX s))) := by
  unfold putV putX
  split
  · exact RepLe.nils 1
  · exact RepLe.refl _
theorem letR_lt (c : Int) : (letR c).toNat < 128 := by
  unfold letR
  repeat' split
  all_goals first | decide | (rw [UInt8.toNat_ofNat', Nat.mod_eq_of_lt (by omega)]; omega)
theorem formK_lt (c : Int) : (formK c).2.toNat < 128 := by
  simp only [formK]
  split
  · decide
  · split
    · decide
    · split
      · rename_i h
        show (lookR c).final.toNat < 128
        unfold lookR at h ⊢
        split
        · exact letR_lt c
        · rename_i h1
          rw [if_neg h1] at h
          split
          · exact (by decide : (0 : UInt8).toNat < 128)
          · rename_i h2
            rw [if_neg h2] at h
            split
            · rename_i h3
              rw [if_pos h3] at h
              have : (padR c).kind = 5 := by unfold padR; split <;> rfl
              rw [this] at h
              exact absurd h.1 (by decide)
            · exact (by decide : (0 : UInt8).toNat < 128)
      · split
        · exact (by decide : (126 : UInt8).toNat < 128)
        · exact (by decide : (117 : UInt8).toNat < 128)
def keySq (fl : Int) (k : Ky) : Sq := ⟨1, 0, trimK [firstK fl k (formK k.code).1 (formK k.code).2.toNat, secondK fl k, thirdK fl k] 3, [], (formK k.code).2.toNat, []⟩
def keyK (fl : Int) (k : Ky) : List UInt8 :=
  if (!mayK k || !sentK fl k) = true then []
  else if textK fl k ≠ [] then textK fl k
  else putX (keySq fl k)
set_option maxHeartbeats 4000000 in
theorem fs_Key {Gl : Gh → Prop} (hst : Stays Gl) {k : Ky} {fl : Int} (hfl : fl ≤ 9223372036854775807) (ht : k.text.length ≤ 1000000000000) : FS Tryd.prog Gl 12 [.int .i64 fl, .agg (kyAV k)] [] [] (.sl none 1 (bytesAV (keyK fl k))) [] [] := by
  refine FS.ofW hm hst is_kittyKey rfl (by simp) fun γ hγ hfr => ?_
  have c1 := fs_Look (Gl := Gl) hst (c := k.code)
  rw [ent_eq] at c1
  have c2 := fs_MayK (Gl := Gl) hst ht
  have c3 := fs_sent (Gl := Gl) hst (k := k) hfl
  rw [evC] at c3
  have hky : kyAV k = [.int .i64 k.code, .int .i64 k.mods, .int .i64 k.type, .int .i64 k.shifted, .int .i64 k.base, .str k.text] := rfl
  rw [hky] at c2
  have hkd : (lookR k.code).kind = kindK k.code := rfl
  rw [hkd] at c1
  have hkk : keyK fl k = (if (!mayK k || !sentK fl k) = true then [] else if textK fl k ≠ [] then textK fl k else putX (keySq fl k)) := rfl
  (generalize hQ : (fun (ex : Ex) (_ _ : Nat) (s : St) => _) = Q; unfold ir_kittyKey)
  simp +contextual (maxSteps := 1000000) only [hky, go_sem, reduceCtorEq, ↓reduceIte, Nat.reduceAdd, Nat.reduceEqDiff, Nat.reduceLeDiff, Nat.reduceMul, Nat.reduceBEq, Int.reduceBEq, Int.reduceBNe, Int.reduceLT, Int.reduceLE, Int.reduceGT, Int.reduceGE, Int.reduceToNat, Int.natCast_one, Int.natCast_zero, Int.cast_ofNat_Int]
  refine DCall.new c1 ?_
  simp +contextual (maxSteps := 1000000) only [go_sem, reduceCtorEq, ↓reduceIte, Nat.reduceAdd, Nat.reduceEqDiff, Nat.reduceLeDiff, Nat.reduceMul, Nat.reduceBEq, Int.reduceBEq, Int.reduceBNe, Int.reduceLT, Int.reduceLE, Int.reduceGT, Int.reduceGE, Int.reduceToNat, Int.natCast_one, Int.natCast_zero, Int.cast_ofNat_Int]
  refine ⟨fun p hp => ?_, ?_⟩
  · simp only [List.mem_cons, List.not_mem_nil, or_false] at hp
    rcases hp with rfl | rfl | rfl <;> simp [Xev_t, mask_app, upd_app, AV.cells, oneL, AV.one]
  cases hmk : mayK k with
  | false =>
    rw [hmk] at c2
    (refine CallP.pure (c2) (fun _ => rfl) ?_; simp +contextual (maxSteps := 1000000) only [go_sem, reduceCtorEq, ↓reduceIte, Nat.reduceAdd, Nat.reduceEqDiff, Nat.reduceLeDiff, Nat.reduceMul, Nat.reduceBEq, Int.reduceBEq, Int.reduceBNe, Int.reduceLT, Int.reduceLE, Int.reduceGT, Int.reduceGE, Int.reduceToNat, Int.natCast_one, Int.natCast_zero, Int.cast_ofNat_Int])
    have hz : keyK fl k = [] := by rw [hkk, hmk]; rfl
    rw [← hQ, hz]
    exact ⟨trivial, .inl ⟨_, rfl, RepLe.nils 1⟩⟩
  | true =>
    rw [hmk] at c2
    have hmods : 0 ≤ k.mods ∧ k.mods ≤ 255 := by
      simp only [mayK, Bool.and_eq_true, decide_eq_true_eq] at hmk
      exact ⟨hmk.1.1.1.1.1.1.2, hmk.1.1.1.1.1.2⟩
    have c4 := fs_text (Gl := Gl) hst (k := k) hfl hmods.1 hmods.2 ht
    rw [evC] at c4
    cases hse : sentK fl k with
    | false =>
      rw [hse] at c3
      (refine CallP.pure (c2) (fun _ => rfl) ?_; simp +contextual (maxSteps := 1000000) only [go_sem, reduceCtorEq, ↓reduceIte, Nat.reduceAdd, Nat.reduceEqDiff, Nat.reduceLeDiff, Nat.reduceMul, Nat.reduceBEq, Int.reduceBEq, Int.reduceBNe, Int.reduceLT, Int.reduceLE, Int.reduceGT, Int.reduceGE, Int.reduceToNat, Int.natCast_one, Int.natCast_zero, Int.cast_ofNat_Int])
      (refine CallP.pure (c3) (fun _ => rfl) ?_; simp +contextual (maxSteps := 1000000) only [go_sem, reduceCtorEq, ↓reduceIte, Nat.reduceAdd, Nat.reduceEqDiff, Nat.reduceLeDiff, Nat.reduceMul, Nat.reduceBEq, Int.reduceBEq, Int.reduceBNe, Int.reduceLT, Int.reduceLE, Int.reduceGT, Int.reduceGE, Int.reduceToNat, Int.natCast_one, Int.natCast_zero, Int.cast_ofNat_Int])
      have hz : keyK fl k = [] := by rw [hkk, hmk, hse]; rfl
      rw [← hQ, hz]
      exact ⟨trivial, .inl ⟨_, rfl, RepLe.nils 1⟩⟩
    | true =>
      rw [hse] at c3
      have hk2 : keyK fl k = if textK fl k ≠ [] then textK fl k else putX (keySq fl k) := by rw [hkk, hmk, hse]; rfl
      (refine CallP.pure (c2) (fun _ => rfl) ?_; simp +contextual (maxSteps := 1000000) only [go_sem, reduceCtorEq, ↓reduceIte, Nat.reduceAdd, Nat.reduceEqDiff, Nat.reduceLeDiff, Nat.reduceMul, Nat.reduceBEq, Int.reduceBEq, Int.reduceBNe, Int.reduceLT, Int.reduceLE, Int.reduceGT, Int.reduceGE, Int.reduceToNat, Int.natCast_one, Int.natCast_zero, Int.cast_ofNat_Int])
      (refine CallP.pure (c3) (fun _ => rfl) ?_; simp +contextual (maxSteps := 1000000) only [go_sem, reduceCtorEq, ↓reduceIte, Nat.reduceAdd, Nat.reduceEqDiff, Nat.reduceLeDiff, Nat.reduceMul, Nat.reduceBEq, Int.reduceBEq, Int.reduceBNe, Int.reduceLT, Int.reduceLE, Int.reduceGT, Int.reduceGE, Int.reduceToNat, Int.natCast_one, Int.natCast_zero, Int.cast_ofNat_Int])
      (refine CallP.pure (c4) (fun _ => rfl) ?_; simp +contextual (maxSteps := 1000000) only [bytesAV_length', go_sem, reduceCtorEq, ↓reduceIte, Nat.reduceAdd, Nat.reduceEqDiff, Nat.reduceLeDiff, Nat.reduceMul, Nat.reduceBEq, Int.reduceBEq, Int.reduceBNe, Int.reduceLT, Int.reduceLE, Int.reduceGT, Int.reduceGE, Int.reduceToNat, Int.natCast_one, Int.natCast_zero, Int.cast_ofNat_Int])
      by_cases hte : textK fl k = []
      · rw [if_neg (fun h => h hte)] at hk2
        have hq : decide (((textK fl k).length : Int) > 0) = false := by rw [hte]; rfl
        have c5 := fs_Form (Gl := Gl) hst (c := k.code)
        simp +contextual (maxSteps := 1000000) only [hq, go_sem, reduceCtorEq, ↓reduceIte, Nat.reduceAdd, Nat.reduceEqDiff, Nat.reduceLeDiff, Nat.reduceMul, Nat.reduceBEq, Int.reduceBEq, Int.reduceBNe, Int.reduceLT, Int.reduceLE, Int.reduceGT, Int.reduceGE, Int.reduceToNat, Int.natCast_one, Int.natCast_zero, Int.cast_ofNat_Int]
        (refine CallP.pure (c5) (fun _ => rfl) ?_; simp +contextual (maxSteps := 1000000) only [go_sem, reduceCtorEq, ↓reduceIte, Nat.reduceAdd, Nat.reduceEqDiff, Nat.reduceLeDiff, Nat.reduceMul, Nat.reduceBEq, Int.reduceBEq, Int.reduceBNe, Int.reduceLT, Int.reduceLE, Int.reduceGT, Int.reduceGE, Int.reduceToNat, Int.natCast_one, Int.natCast_zero, Int.cast_ofNat_Int])
        have d1 : FS Tryd.prog Gl 31 [.agg (evC k fl (kindK k.code)), .int .i64 (formK k.code).1, .int .u8 ((formK k.code).2.toNat : Int)] [] [] (.sl none 1 (intsAV (firstK fl k (formK k.code).1 ((formK k.code).2.toNat : Int)))) [] [] := fs_code hst hfl hmods.1 hmods.2
        have d2 : FS Tryd.prog Gl 32 [.agg (evC k fl (kindK k.code))] [] [] (.sl none 1 (intsAV (secondK fl k))) [] [] := fs_how hst hfl
        have d3 : FS Tryd.prog Gl 33 [.agg (evC k fl (kindK k.code))] [] [] (.sl none 1 (intsAV (thirdK fl k))) [] [] := fs_texts hst hfl ht
        have d4 : ∀ t : Option Nm, FS Tryd.prog Gl 30 [.sl t 1 [[.sl none 1 (intsAV (firstK fl k (formK k.code).1 ((formK k.code).2.toNat : Int)))], [.sl none 1 (intsAV (secondK fl k))], [.sl none 1 (intsAV (thirdK fl k))]]] [] [] (.sl none 1 (parsAV (keySq fl k).ps)) [] [] := fun t => fs_params (l := [firstK fl k (formK k.code).1 ((formK k.code).2.toNat : Int), secondK fl k, thirdK fl k]) (tb := t) hst (by simp)
        have hthird : (thirdK fl k).length ≤ 1000000000000 := by
          unfold thirdK
          split
          · simp
          · have := allV_len k.text; omega
        have hfirst : (firstK fl k (formK k.code).1 ((formK k.code).2.toNat : Int)).length ≤ 10 := by
          unfold firstK
          split
          · simp
          · simp only
            repeat' split
            all_goals simp
        have hsec : (secondK fl k).length ≤ 10 := by
          unfold secondK
          repeat' split
          all_goals simp
        have hsm : (keySq fl k).sm := by
          have hmem : ∀ (n : Nat) (l : List (List Int)), ∀ p ∈ trimK l n, p ∈ l := by
            intro n l
            induction n with
            | zero => intro p hp; cases hp
            | succ n ih =>
              intro p hp
              rw [trimK] at hp
              split at hp
              · exact ih p hp
              · exact List.mem_of_mem_take hp
          have hlen : ∀ (n : Nat) (l : List (List Int)), (trimK l n).length ≤ l.length := by
            intro n l
            induction n with
            | zero => simp [trimK]
            | succ n ih =>
              rw [trimK]
              split
              · exact ih
              · rw [List.length_take]; omega
          refine ⟨?_, fun p hp => ?_, by simp [keySq], by simp [keySq]⟩
          · have := hlen 3 [firstK fl k (formK k.code).1 ((formK k.code).2.toNat : Int), secondK fl k, thirdK fl k]
            simp only [List.length_cons, List.length_nil] at this
            simp only [keySq]; omega
          · have := hmem 3 _ p hp
            simp only [List.mem_cons, List.not_mem_nil, or_false] at this
            rcases this with rfl | rfl | rfl <;> omega
        have hflt := formK_lt k.code
        have d5 : FS Tryd.prog Gl 29 [.agg [.int .i64 1, .int .u8 0, .sl none 1 (parsAV (keySq fl k).ps), .str [], .int .u8 ((formK k.code).2.toNat : Int), .str []]] [] [] (.tup [putV (keySq fl k), .int .i64 (mayP (keySq fl k))]) [] [] :=
          fs_wPut (s := keySq fl k) hst (by simp [keySq]) (by simp [keySq]) (by simp only [keySq]; omega) (by simp only [keySq]; omega) hsm
        have hrn : ∀ f, Ab.rn f (putV (keySq fl k)) = putV (keySq fl k) := fun f => by unfold putV; split <;> rfl
        have hpl := putV_le (keySq fl k)
        generalize putV (keySq fl k) = pv at *
        rw [evC] at d1 d2 d3
        refine DCall.new d1 ?_
        simp +contextual (maxSteps := 1000000) only [go_sem, reduceCtorEq, ↓reduceIte, Nat.reduceAdd, Nat.reduceEqDiff, Nat.reduceLeDiff, Nat.reduceMul, Nat.reduceBEq, Int.reduceBEq, Int.reduceBNe, Int.reduceLT, Int.reduceLE, Int.reduceGT, Int.reduceGE, Int.reduceToNat, Int.natCast_one, Int.natCast_zero, Int.cast_ofNat_Int]
        refine DCall.new d2 ?_
        simp +contextual (maxSteps := 1000000) only [go_sem, reduceCtorEq, ↓reduceIte, Nat.reduceAdd, Nat.reduceEqDiff, Nat.reduceLeDiff, Nat.reduceMul, Nat.reduceBEq, Int.reduceBEq, Int.reduceBNe, Int.reduceLT, Int.reduceLE, Int.reduceGT, Int.reduceGE, Int.reduceToNat, Int.natCast_one, Int.natCast_zero, Int.cast_ofNat_Int]
        refine DCall.new d3 ?_
        simp +contextual (maxSteps := 1000000) only [go_sem, reduceCtorEq, ↓reduceIte, Nat.reduceAdd, Nat.reduceEqDiff, Nat.reduceLeDiff, Nat.reduceMul, Nat.reduceBEq, Int.reduceBEq, Int.reduceBNe, Int.reduceLT, Int.reduceLE, Int.reduceGT, Int.reduceGE, Int.reduceToNat, Int.natCast_one, Int.natCast_zero, Int.cast_ofNat_Int]
        refine ⟨by simp [AV.closedL, AV.closed], DCall.new (d4 _) ?_⟩
        simp +contextual (maxSteps := 1000000) only [go_sem, reduceCtorEq, ↓reduceIte, Nat.reduceAdd, Nat.reduceEqDiff, Nat.reduceLeDiff, Nat.reduceMul, Nat.reduceBEq, Int.reduceBEq, Int.reduceBNe, Int.reduceLT, Int.reduceLE, Int.reduceGT, Int.reduceGE, Int.reduceToNat, Int.natCast_one, Int.natCast_zero, Int.cast_ofNat_Int]
        refine ⟨fun p hp => ?_, DCall.new d5 ?_⟩
        · simp only [List.mem_cons, List.not_mem_nil, or_false] at hp
          rcases hp with rfl | rfl | rfl <;> simp [Xev_t, Xev_c, mask_app, upd_app, AV.cells, oneL, AV.one]
        simp +contextual (maxSteps := 1000000) only [hrn, go_sem, reduceCtorEq, ↓reduceIte, Nat.reduceAdd, Nat.reduceEqDiff, Nat.reduceLeDiff, Nat.reduceMul, Nat.reduceBEq, Int.reduceBEq, Int.reduceBNe, Int.reduceLT, Int.reduceLE, Int.reduceGT, Int.reduceGE, Int.reduceToNat, Int.natCast_one, Int.natCast_zero, Int.cast_ofNat_Int]
        rw [← hQ, hk2]
        exact ⟨trivial, .inl ⟨_, rfl, hpl⟩⟩
      · rw [if_pos hte] at hk2
        have hq : decide (((textK fl k).length : Int) > 0) = true := by
          have := List.length_pos_iff.2 hte
          simp; omega
        simp +contextual (maxSteps := 1000000) only [hq, go_sem, reduceCtorEq, ↓reduceIte, Nat.reduceAdd, Nat.reduceEqDiff, Nat.reduceLeDiff, Nat.reduceMul, Nat.reduceBEq, Int.reduceBEq, Int.reduceBNe, Int.reduceLT, Int.reduceLE, Int.reduceGT, Int.reduceGE, Int.reduceToNat, Int.natCast_one, Int.natCast_zero, Int.cast_ofNat_Int]
        rw [← hQ, hk2]
        exact ⟨trivial, .inl ⟨_, rfl, RepLe.refl _⟩⟩
end Go.Proofs.YthmjlngdbabdeaaDoor

/- The statements of chapter 13: awake. -/
set_option linter.unusedVariables false
set_option linter.unusedSimpArgs false
set_option maxRecDepth 100000
namespace Go.Proofs.YthmjlngdbabdeaaDoor
open Go Go.Ab
/-- clavier/clavierlaw13.awake -/
def ir_clavierlaw13awake : ICode :=
 (.seq
  (.reg [⟨some 0, none, .mov (.c (.bool false))⟩] (some []))
  (.seq
   (.reg [⟨some 6, none, .bld [(.int .i64 0), (.int .i64 0), (.int .i64 0), (.int .i64 0), (.int .i64 0), (.str [])] [(0, 1, (.c (.int .i64 99))), (1, 1, (.c (.int .i64 4))), (2, 1, (.c (.int .i64 1)))]⟩,
     ⟨some 7, none, .call (.c (.fn (.func 12) [] [])) [(.c (.int .i64 1)), (.t 6)]⟩,
     ⟨some 1, none, .mov (.t 7)⟩] (some [1]))
   (.seq
    (.reg [⟨some 8, none, .bld [(.int .i64 0), (.int .i64 0), (.int .i64 0), (.int .i64 0), (.int .i64 0), (.str [])] [(0, 1, (.c (.int .i64 97))), (2, 1, (.c (.int .i64 1)))]⟩,
      ⟨some 9, none, .call (.c (.fn (.func 12) [] [])) [(.c (.int .i64 8)), (.t 8)]⟩,
      ⟨some 2, none, .mov (.t 9)⟩] (some [1, 2]))
    (.seq
     (.reg [⟨some 10, none, .bld [(.int .i64 0), (.int .i64 0), (.int .i64 0), (.int .i64 0), (.int .i64 0), (.str [])] [(0, 1, (.c (.int .i64 57352))), (2, 1, (.c (.int .i64 3)))]⟩,
       ⟨some 11, none, .call (.c (.fn (.func 12) [] [])) [(.c (.int .i64 2)), (.t 10)]⟩,
       ⟨some 3, none, .mov (.t 11)⟩] (some [1, 2, 3]))
     (.seq
      (.reg [⟨some 13, none, .call (.c (.fn (.func 16) [] [])) [(.c (.int .i64 57366))]⟩,
        ⟨some 12, none, .mov (.t 13)⟩,
        ⟨some 14, none, .ext (.t 12) 0⟩,
        ⟨some 15, none, .ext (.t 12) 1⟩,
        ⟨some 4, none, .mov (.t 14)⟩,
        ⟨some 5, none, .mov (.t 15)⟩] (some [1, 2, 3, 4, 5]))
      (.seq
       (.reg [⟨some 16, none, .mov (.t 1)⟩,
         ⟨some 17, none, .b2s (.t 16)⟩,
         ⟨some 18, none, .bin .eql .none (.t 17) (.c (.str [27, 91, 57, 57, 59, 53, 117]))⟩,
         ⟨some 19, none, .mov (.t 18)⟩,
         ⟨some 20, some (19, true), .mov (.t 2)⟩,
         ⟨some 21, some (19, true), .b2s (.t 20)⟩,
         ⟨some 22, some (19, true), .bin .eql .none (.t 21) (.c (.str [27, 91, 57, 55, 117]))⟩,
         ⟨some 23, none, .pick (.t 19) (.t 22) (.c (.bool false))⟩,
         ⟨some 24, none, .mov (.t 23)⟩,
         ⟨some 25, some (24, true), .mov (.t 3)⟩,
         ⟨some 26, some (24, true), .b2s (.t 25)⟩,
         ⟨some 27, some (24, true), .bin .eql .none (.t 26) (.c (.str [27, 91, 49, 59, 49, 58, 51, 65]))⟩,
         ⟨some 28, none, .pick (.t 24) (.t 27) (.c (.bool false))⟩,
         ⟨some 29, none, .mov (.t 28)⟩,
         ⟨some 30, some (29, true), .mov (.t 4)⟩,
         ⟨some 31, some (29, true), .bin .eql .none (.t 30) (.c (.int .i64 13))⟩,
         ⟨some 32, none, .pick (.t 29) (.t 31) (.c (.bool false))⟩,
         ⟨some 33, none, .mov (.t 32)⟩,
         ⟨some 34, some (33, true), .mov (.t 5)⟩,
         ⟨some 35, some (33, true), .bin .eql .none (.t 34) (.c (.int .u8 126))⟩,
         ⟨some 36, none, .pick (.t 33) (.t 35) (.c (.bool false))⟩,
         ⟨some 0, none, .mov (.t 36)⟩] (some [0]))
       .ret))))))
theorem is_clavierlaw13awake : IrOf Tryd.prog 10 37 ir_clavierlaw13awake [.t 0] := ⟨_, Tryd.func10, rfl, by kernel_rfl, by kernel_rfl, by kernel_rfl⟩

/-- clavier/clavierlaw13.KittyForms -/
def ir_clavierlaw13KittyForms : ICode :=
 (.seq
  (.reg [⟨some 4, none, .mov (.c (.bool false))⟩] (some [0, 1]))
  (.seq
   (.reg [⟨some 11, none, .call (.c (.fn (.func 10) [] [])) []⟩,
     ⟨some 5, none, .mov (.t 11)⟩] (some [0, 1, 5]))
   (.seq
    (.reg [⟨some 13, none, .mov (.t 0)⟩,
      ⟨some 14, none, .call (.c (.fn (.func 16) [] [])) [(.t 13)]⟩,
      ⟨some 12, none, .mov (.t 14)⟩,
      ⟨some 15, none, .ext (.t 12) 0⟩,
      ⟨some 16, none, .ext (.t 12) 1⟩,
      ⟨some 6, none, .mov (.t 15)⟩,
      ⟨some 7, none, .mov (.t 16)⟩] (some [0, 1, 5, 6, 7]))
    (.seq
     (.reg [⟨some 18, none, .mov (.t 1)⟩,
       ⟨some 19, none, .call (.c (.fn (.func 16) [] [])) [(.t 18)]⟩,
       ⟨some 17, none, .mov (.t 19)⟩,
       ⟨some 20, none, .ext (.t 17) 0⟩,
       ⟨some 21, none, .ext (.t 17) 1⟩,
       ⟨some 8, none, .mov (.t 20)⟩,
       ⟨some 9, none, .mov (.t 21)⟩] (some [0, 1, 5, 6, 7, 8, 9]))
     (.seq
      (.reg [⟨some 22, none, .mov (.t 0)⟩,
        ⟨some 23, none, .call (.c (.fn (.func 17) [] [])) [(.t 22)]⟩,
        ⟨some 10, none, .box 40 (.c (.agg [(.int .i64 0), (.int .u8 0), (.int .i64 0), (.int .i64 0), (.bool false)]))⟩,
        ⟨none, none, .st 5 (.t 10) (.t 23)⟩] (some [0, 1, 5, 6, 7, 8, 9, 10]))
      (.seq
       (.seq
        (.reg [⟨some 24, none, .fa 0 (.t 10)⟩,
          ⟨some 25, none, .ld none (.t 24)⟩,
          ⟨some 26, none, .bin .eql .none (.t 25) (.c (.int .i64 0))⟩,
          ⟨some 27, none, .mov (.t 26)⟩,
          ⟨some 28, some (27, false), .mov (.t 1)⟩,
          ⟨some 29, some (27, false), .call (.c (.fn (.func 17) [] [])) [(.t 28)]⟩,
          ⟨some 30, some (27, false), .fld 0 none (.t 29)⟩,
          ⟨some 31, some (27, false), .bin .eql .none (.t 30) (.c (.int .i64 0))⟩,
          ⟨some 32, none, .pick (.t 27) (.c (.bool true)) (.t 31)⟩] (some [0, 1, 5, 6, 7, 8, 9, 10, 32]))
        (.cond (.t 32)
         (.seq
          (.reg [⟨some 33, none, .mov (.t 5)⟩,
            ⟨some 34, none, .mov (.t 33)⟩,
            ⟨some 35, some (34, true), .fa 0 (.t 10)⟩,
            ⟨some 36, some (34, true), .ld none (.t 35)⟩,
            ⟨some 37, some (34, true), .bin .neq .none (.t 36) (.c (.int .i64 0))⟩,
            ⟨some 38, some (34, true), .mov (.t 37)⟩,
            ⟨some 39, some (38, false), .mov (.t 6)⟩,
            ⟨some 40, some (38, false), .bin .eql .none (.t 39) (.c (.int .i64 0))⟩,
            ⟨some 41, some (38, false), .mov (.t 40)⟩,
            ⟨some 42, some (41, true), .mov (.t 7)⟩,
            ⟨some 43, some (41, true), .bin .eql .none (.t 42) (.c (.int .u8 0))⟩,
            ⟨some 44, some (38, false), .pick (.t 41) (.t 43) (.c (.bool false))⟩,
            ⟨some 45, some (34, true), .pick (.t 38) (.c (.bool true)) (.t 44)⟩,
            ⟨some 46, none, .pick (.t 34) (.t 45) (.c (.bool false))⟩,
            ⟨some 4, none, .mov (.t 46)⟩] (some [4]))
          .ret)
         .skip))
       (.seq
        (.reg [⟨some 47, none, .mov (.t 5)⟩,
          ⟨some 48, none, .mov (.t 47)⟩,
          ⟨some 49, some (48, true), .mov (.t 6)⟩,
          ⟨some 50, some (48, true), .mov (.t 8)⟩,
          ⟨some 51, some (48, true), .bin .eql .none (.t 49) (.t 50)⟩,
          ⟨some 52, some (48, true), .mov (.t 51)⟩,
          ⟨some 53, some (52, true), .mov (.t 7)⟩,
          ⟨some 54, some (52, true), .mov (.t 9)⟩,
          ⟨some 55, some (52, true), .bin .eql .none (.t 53) (.t 54)⟩,
          ⟨some 56, some (48, true), .pick (.t 52) (.t 55) (.c (.bool false))⟩,
          ⟨some 57, some (48, true), .mov (.t 0)⟩,
          ⟨some 58, some (48, true), .mov (.t 1)⟩,
          ⟨some 59, some (48, true), .bin .eql .none (.t 57) (.t 58)⟩,
          ⟨some 60, some (48, true), .bin .eql .bool (.t 56) (.t 59)⟩,
          ⟨some 61, none, .pick (.t 48) (.t 60) (.c (.bool false))⟩,
          ⟨some 62, none, .mov (.t 61)⟩,
          ⟨some 63, some (62, true), .mov (.t 7)⟩,
          ⟨some 64, some (62, true), .bin .eql .none (.t 63) (.c (.int .u8 117))⟩,
          ⟨some 65, some (62, true), .mov (.t 6)⟩,
          ⟨some 66, some (62, true), .mov (.t 0)⟩,
          ⟨some 67, some (62, true), .bin .eql .none (.t 65) (.t 66)⟩,
          ⟨some 68, some (62, true), .bin .eql .bool (.t 64) (.t 67)⟩,
          ⟨some 69, none, .pick (.t 62) (.t 68) (.c (.bool false))⟩,
          ⟨some 4, none, .mov (.t 69)⟩] (some [4]))
        .ret)))))))
theorem is_clavierlaw13KittyForms : IrOf Tryd.prog 5 70 ir_clavierlaw13KittyForms [.t 4] := ⟨_, Tryd.func5, rfl, by kernel_rfl, by kernel_rfl, by kernel_rfl⟩


theorem key_a : keyK 1 ⟨99, 4, 1, 0, 0, []⟩ = [27, 91, 57, 57, 59, 53, 117] := by decide +kernel
theorem key_b : keyK 8 ⟨97, 0, 1, 0, 0, []⟩ = [27, 91, 57, 55, 117] := by decide +kernel
theorem key_c : keyK 2 ⟨57352, 0, 3, 0, 0, []⟩ = [27, 91, 49, 59, 49, 58, 51, 65] := by decide +kernel
theorem form_d : formK 57366 = (13, 126) := by decide +kernel
theorem fs_awake {Gl : Gh → Prop} (hst : Stays Gl) : FS Tryd.prog Gl 10 [] [] [] (.bool true) [] [] := by
  refine FS.of hm hst is_clavierlaw13awake (by simp) fun γ hγ hfr => ?_
  have c1 := fs_Key (Gl := Gl) hst (k := ⟨99, 4, 1, 0, 0, []⟩) (fl := 1) (by omega) (by simp)
  have c2 := fs_Key (Gl := Gl) hst (k := ⟨97, 0, 1, 0, 0, []⟩) (fl := 8) (by omega) (by simp)
  have c3 := fs_Key (Gl := Gl) hst (k := ⟨57352, 0, 3, 0, 0, []⟩) (fl := 2) (by omega) (by simp)
  have c4 := fs_Form (Gl := Gl) hst (c := 57366)
  rw [key_a] at c1
  rw [key_b] at c2
  rw [key_c] at c3
  rw [form_d] at c4
  rw [kyAV] at c1 c2 c3
  (generalize hQ : (fun (ex : Ex) (_ _ : Nat) (s : St) => _) = Q; unfold ir_clavierlaw13awake)
  simp +contextual (maxSteps := 1000000) only [go_sem, reduceCtorEq, ↓reduceIte, Nat.reduceAdd, Nat.reduceEqDiff, Nat.reduceLeDiff, Nat.reduceMul, Nat.reduceBEq, Int.reduceBEq, Int.reduceBNe, Int.reduceLT, Int.reduceLE, Int.reduceGT, Int.reduceGE, Int.reduceToNat, Int.natCast_one, Int.natCast_zero, Int.cast_ofNat_Int]
  (refine CallP.pure (c1) (fun _ => rfl) ?_; simp +contextual (maxSteps := 1000000) only [go_sem, reduceCtorEq, ↓reduceIte, Nat.reduceAdd, Nat.reduceEqDiff, Nat.reduceLeDiff, Nat.reduceMul, Nat.reduceBEq, Int.reduceBEq, Int.reduceBNe, Int.reduceLT, Int.reduceLE, Int.reduceGT, Int.reduceGE, Int.reduceToNat, Int.natCast_one, Int.natCast_zero, Int.cast_ofNat_Int])
  (refine CallP.pure (c2) (fun _ => rfl) ?_; simp +contextual (maxSteps := 1000000) only [go_sem, reduceCtorEq, ↓reduceIte, Nat.reduceAdd, Nat.reduceEqDiff, Nat.reduceLeDiff, Nat.reduceMul, Nat.reduceBEq, Int.reduceBEq, Int.reduceBNe, Int.reduceLT, Int.reduceLE, Int.reduceGT, Int.reduceGE, Int.reduceToNat, Int.natCast_one, Int.natCast_zero, Int.cast_ofNat_Int])
  (refine CallP.pure (c3) (fun _ => rfl) ?_; simp +contextual (maxSteps := 1000000) only [go_sem, reduceCtorEq, ↓reduceIte, Nat.reduceAdd, Nat.reduceEqDiff, Nat.reduceLeDiff, Nat.reduceMul, Nat.reduceBEq, Int.reduceBEq, Int.reduceBNe, Int.reduceLT, Int.reduceLE, Int.reduceGT, Int.reduceGE, Int.reduceToNat, Int.natCast_one, Int.natCast_zero, Int.cast_ofNat_Int])
  (refine CallP.pure (c4) (fun _ => rfl) ?_; simp +contextual (maxSteps := 1000000) only [bb_un, bb_is, go_sem, reduceCtorEq, ↓reduceIte, Nat.reduceAdd, Nat.reduceEqDiff, Nat.reduceLeDiff, Nat.reduceMul, Nat.reduceBEq, Int.reduceBEq, Int.reduceBNe, Int.reduceLT, Int.reduceLE, Int.reduceGT, Int.reduceGE, Int.reduceToNat, Int.natCast_one, Int.natCast_zero, Int.cast_ofNat_Int])
  rw [← hQ]
  exact ⟨trivial, Ret.flat rfl rfl⟩
theorem form_out {c : Int} (h : ¬(57348 ≤ c ∧ c ≤ 57454)) (hk : (lookR c).kind ≠ 0) : formK c = (c, 117) := by
  have h3 : letR c = 0 := by
    unfold letR
    repeat (first | rfl | rw [if_neg (by omega)])
  have h4 : numR c = 0 := by
    unfold numR
    repeat (first | rfl | rw [if_neg (by omega)])
  have e : lookR c = ⟨restR c, 0, 0, 0, false⟩ := by
    unfold lookR
    rw [if_neg (by rw [h3]; simp), if_neg (by rw [h4]; simp), if_neg (by omega)]
  have hr : restR c = 2 ∨ restR c = 0 ∨ restR c = 1 := by
    unfold restR
    split
    · simp
    · rw [if_neg (by omega), if_neg (by omega)]
      split <;> simp
  rw [e] at hk
  simp only at hk
  simp only [formK, e]
  rw [if_neg hk, if_neg (by omega), if_neg (by omega), if_neg (by omega)]
theorem form_in : ∀ k : Fin 107, (lookR ((57348 + k.val : Nat) : Int)).kind ≠ 0 → ((formK ((57348 + k.val : Nat) : Int)).2 = 117 ↔ (formK ((57348 + k.val : Nat) : Int)).1 = ((57348 + k.val : Nat) : Int)) := by decide +kernel
theorem form_in2 : ∀ k j : Fin 107, (formK ((57348 + k.val : Nat) : Int)).2 ≠ 117 → formK ((57348 + k.val : Nat) : Int) = formK ((57348 + j.val : Nat) : Int) → (lookR ((57348 + k.val : Nat) : Int)).kind ≠ 0 → k = j := by decide +kernel
theorem form_u {c : Int} (hk : (lookR c).kind ≠ 0) : (formK c).2 = 117 ↔ (formK c).1 = c := by
  by_cases h : 57348 ≤ c ∧ c ≤ 57454
  · have := form_in ⟨(c - 57348).toNat, by omega⟩
    simp only at this
    rw [show ((57348 + (c - 57348).toNat : Nat) : Int) = c by omega] at this
    exact this hk
  · rw [form_out h hk]; simp
theorem form_inj {c d : Int} (hc : (lookR c).kind ≠ 0) (hd : (lookR d).kind ≠ 0) (h : formK c = formK d) : c = d := by
  by_cases h1 : (formK c).2 = 117
  · have h2 := (form_u hc).1 h1
    have h3 := (form_u hd).1 (by rw [← h]; exact h1)
    rw [← h2, ← h3, h]
  · have i1 : 57348 ≤ c ∧ c ≤ 57454 := Classical.byContradiction fun hn => h1 (by rw [form_out hn hc])
    have i2 : 57348 ≤ d ∧ d ≤ 57454 := Classical.byContradiction fun hn => h1 (by rw [h, form_out hn hd])
    have := form_in2 ⟨(c - 57348).toNat, by omega⟩ ⟨(d - 57348).toNat, by omega⟩
    simp only at this
    rw [show ((57348 + (c - 57348).toNat : Nat) : Int) = c by omega, show ((57348 + (d - 57348).toNat : Nat) : Int) = d by omega] at this
    have := this h1 h hc
    simp only [Fin.mk.injEq] at this
    omega
theorem fs_KittyForms {Gl : Gh → Prop} (hst : Stays Gl) {code other : Int} (_ : -9223372036854775808 ≤ code ∧ code ≤ 9223372036854775807) (_ : -9223372036854775808 ≤ other ∧ other ≤ 9223372036854775807) : FS Tryd.prog Gl 5 [.int .i64 code, .int .i64 other] [] [] (.bool true) [] [] := by
  refine FS.of hm hst is_clavierlaw13KittyForms (by simp) fun γ hγ hfr => ?_
  have c1 := fs_Form (Gl := Gl) hst (c := code)
  have c2 := fs_Form (Gl := Gl) hst (c := other)
  have c3 := fs_rLook (Gl := Gl) hst (c := code)
  have c4 := fs_rLook (Gl := Gl) hst (c := other)
  rw [ent_eq] at c3 c4
  (generalize hQ : (fun (ex : Ex) (_ _ : Nat) (s : St) => _) = Q; unfold ir_clavierlaw13KittyForms)
  simp +contextual (maxSteps := 1000000) only [go_sem, reduceCtorEq, ↓reduceIte, Nat.reduceAdd, Nat.reduceEqDiff, Nat.reduceLeDiff, Nat.reduceMul, Nat.reduceBEq, Int.reduceBEq, Int.reduceBNe, Int.reduceLT, Int.reduceLE, Int.reduceGT, Int.reduceGE, Int.reduceToNat, Int.natCast_one, Int.natCast_zero, Int.cast_ofNat_Int]
  (refine CallP.pure (fs_awake hst) (fun _ => rfl) ?_; simp +contextual (maxSteps := 1000000) only [go_sem, reduceCtorEq, ↓reduceIte, Nat.reduceAdd, Nat.reduceEqDiff, Nat.reduceLeDiff, Nat.reduceMul, Nat.reduceBEq, Int.reduceBEq, Int.reduceBNe, Int.reduceLT, Int.reduceLE, Int.reduceGT, Int.reduceGE, Int.reduceToNat, Int.natCast_one, Int.natCast_zero, Int.cast_ofNat_Int])
  (refine CallP.pure (c1) (fun _ => rfl) ?_; simp +contextual (maxSteps := 1000000) only [go_sem, reduceCtorEq, ↓reduceIte, Nat.reduceAdd, Nat.reduceEqDiff, Nat.reduceLeDiff, Nat.reduceMul, Nat.reduceBEq, Int.reduceBEq, Int.reduceBNe, Int.reduceLT, Int.reduceLE, Int.reduceGT, Int.reduceGE, Int.reduceToNat, Int.natCast_one, Int.natCast_zero, Int.cast_ofNat_Int])
  (refine CallP.pure (c2) (fun _ => rfl) ?_; simp +contextual (maxSteps := 1000000) only [go_sem, reduceCtorEq, ↓reduceIte, Nat.reduceAdd, Nat.reduceEqDiff, Nat.reduceLeDiff, Nat.reduceMul, Nat.reduceBEq, Int.reduceBEq, Int.reduceBNe, Int.reduceLT, Int.reduceLE, Int.reduceGT, Int.reduceGE, Int.reduceToNat, Int.natCast_one, Int.natCast_zero, Int.cast_ofNat_Int])
  (refine CallP.pure (c3) (fun _ => rfl) ?_; simp +contextual (maxSteps := 1000000) only [go_sem, reduceCtorEq, ↓reduceIte, Nat.reduceAdd, Nat.reduceEqDiff, Nat.reduceLeDiff, Nat.reduceMul, Nat.reduceBEq, Int.reduceBEq, Int.reduceBNe, Int.reduceLT, Int.reduceLE, Int.reduceGT, Int.reduceGE, Int.reduceToNat, Int.natCast_one, Int.natCast_zero, Int.cast_ofNat_Int])
  by_cases h1 : (lookR code).kind = 0
  · have q1 : ((lookR code).kind == 0) = true := by simp [h1]
    have q2 : ((lookR code).kind != 0) = false := by simp [h1]
    have f0 : formK code = (0, 0) := by simp only [formK]; rw [if_pos h1]
    have f1 : (formK code).1 = 0 := by rw [f0]
    have f2 : ((formK code).2.toNat : Int) = 0 := by rw [f0]; rfl
    simp +contextual (maxSteps := 1000000) only [q1, q2, f1, f2, go_sem, reduceCtorEq, ↓reduceIte, Nat.reduceAdd, Nat.reduceEqDiff, Nat.reduceLeDiff, Nat.reduceMul, Nat.reduceBEq, Int.reduceBEq, Int.reduceBNe, Int.reduceLT, Int.reduceLE, Int.reduceGT, Int.reduceGE, Int.reduceToNat, Int.natCast_one, Int.natCast_zero, Int.cast_ofNat_Int]
    rw [← hQ]
    exact ⟨trivial, Ret.flat rfl rfl⟩
  · have q1 : ((lookR code).kind == 0) = false := by simp [h1]
    have q2 : ((lookR code).kind != 0) = true := by simp [h1]
    simp +contextual (maxSteps := 1000000) only [q1, q2, go_sem, reduceCtorEq, ↓reduceIte, Nat.reduceAdd, Nat.reduceEqDiff, Nat.reduceLeDiff, Nat.reduceMul, Nat.reduceBEq, Int.reduceBEq, Int.reduceBNe, Int.reduceLT, Int.reduceLE, Int.reduceGT, Int.reduceGE, Int.reduceToNat, Int.natCast_one, Int.natCast_zero, Int.cast_ofNat_Int]
    (refine CallP.pure (c4) (fun _ => rfl) ?_; simp +contextual (maxSteps := 1000000) only [go_sem, reduceCtorEq, ↓reduceIte, Nat.reduceAdd, Nat.reduceEqDiff, Nat.reduceLeDiff, Nat.reduceMul, Nat.reduceBEq, Int.reduceBEq, Int.reduceBNe, Int.reduceLT, Int.reduceLE, Int.reduceGT, Int.reduceGE, Int.reduceToNat, Int.natCast_one, Int.natCast_zero, Int.cast_ofNat_Int])
    by_cases h2 : (lookR other).kind = 0
    · have q3 : ((lookR other).kind == 0) = true := by simp [h2]
      simp +contextual (maxSteps := 1000000) only [q3, q2, go_sem, reduceCtorEq, ↓reduceIte, Nat.reduceAdd, Nat.reduceEqDiff, Nat.reduceLeDiff, Nat.reduceMul, Nat.reduceBEq, Int.reduceBEq, Int.reduceBNe, Int.reduceLT, Int.reduceLE, Int.reduceGT, Int.reduceGE, Int.reduceToNat, Int.natCast_one, Int.natCast_zero, Int.cast_ofNat_Int]
      rw [← hQ]
      exact ⟨trivial, Ret.flat rfl rfl⟩
    · have q3 : ((lookR other).kind == 0) = false := by simp [h2]
      simp +contextual (maxSteps := 1000000) only [q3, q2, go_sem, reduceCtorEq, ↓reduceIte, Nat.reduceAdd, Nat.reduceEqDiff, Nat.reduceLeDiff, Nat.reduceMul, Nat.reduceBEq, Int.reduceBEq, Int.reduceBNe, Int.reduceLT, Int.reduceLE, Int.reduceGT, Int.reduceGE, Int.reduceToNat, Int.natCast_one, Int.natCast_zero, Int.cast_ofNat_Int]
      have e1 : ((formK code).1 == (formK other).1 && ((formK code).2.toNat : Int) == ((formK other).2.toNat : Int)) = (code == other) := by
        rw [Bool.eq_iff_iff]
        simp only [Bool.and_eq_true, beq_iff_eq]
        constructor
        · rintro ⟨a1, a2⟩
          refine form_inj h1 h2 (Prod.ext a1 (UInt8.toNat_inj.1 ?_))
          omega
        · rintro rfl; exact ⟨rfl, rfl⟩
      have e2 : (((formK code).2.toNat : Int) == 117) = ((formK code).1 == code) := by
        rw [Bool.eq_iff_iff]
        simp only [beq_iff_eq]
        rw [← form_u h1]
        constructor
        · intro a
          refine UInt8.toNat_inj.1 ?_
          show (formK code).2.toNat = 117
          omega
        · intro a; rw [a]; rfl
      rw [← hQ, e1, e2]
      refine ⟨trivial, Ret.flat (show some (AV.bool _) = some (AV.bool _) from congrArg (fun z => some (AV.bool z)) ?_) rfl⟩
      simp
end Go.Proofs.YthmjlngdbabdeaaDoor

/- Keys by flags: what a sequence of a key's is, in plain words; texts' first bytes. -/
set_option linter.unusedVariables false
set_option linter.unusedSimpArgs false
set_option maxRecDepth 100000
namespace Go.Proofs.YthmjlngdbabdeaaDoor
open Go Go.Ab

theorem allU_spec : ∀ (n : Nat) {b : List UInt8} {l : List Int}, b.length ≤ n → allU b = some l → b = l.flatMap putU ∧ (∀ r ∈ l, isCP r = true) ∧ l.length ≤ b.length := by
  intro n
  induction n with
  | zero =>
    intro b l hb h
    have : b = [] := List.length_eq_zero_iff.1 (by omega)
    subst this
    rw [allU_nil] at h
    cases h
    simp
  | succ n ih =>
    intro b l hb h
    by_cases hbe : b = []
    · subst hbe
      rw [allU_nil] at h
      cases h
      simp
    · cases ht : takeU b with
      | none => rw [allU_none hbe ht] at h; cases h
      | some p =>
        obtain ⟨r, m⟩ := p
        rw [allU_some hbe ht] at h
        obtain ⟨h1, h2, h3, h4⟩ := takeU_of ht
        obtain ⟨l', hl, rfl⟩ := Option.map_eq_some_iff.1 h
        obtain ⟨i1, i2, i3⟩ := ih (b := b.drop m) (by rw [List.length_drop]; omega) hl
        refine ⟨?_, ?_, ?_⟩
        · rw [List.flatMap_cons, ← i1, h4, List.take_append_drop]
        · intro x hx
          rcases List.mem_cons.1 hx with rfl | hx
          · refine putU_ne.1 fun e => ?_
            rw [e] at h4
            have := congrArg List.length h4
            rw [List.length_take] at this
            simp at this
            omega
          · exact i2 x hx
        · rw [List.length_drop] at i3
          simp only [List.length_cons]; omega
/-- A character's first byte. -/
theorem putU_head {r : Int} (h : isCP r = true) : ∃ c t, putU r = c :: t ∧ (32 ≤ r → c ≠ 27) := by
  obtain ⟨n, rfl, h1, h2⟩ := isCP_spec h
  unfold putU
  rw [if_pos h, Int.toNat_natCast]
  unfold putN
  have key : ∀ x : Nat, 32 ≤ x → x < 256 → UInt8.ofNat x ≠ 27 := fun x h3 h4 e => by
    have := congrArg UInt8.toNat e
    rw [UInt8.toNat_ofNat', Nat.mod_eq_of_lt (by omega)] at this
    simp at this
    omega
  split
  · exact ⟨_, _, rfl, fun h3 => key n (by omega) (by omega)⟩
  · split
    · exact ⟨_, _, rfl, fun h3 => key _ (by omega) (by omega)⟩
    · split
      · exact ⟨_, _, rfl, fun h3 => key _ (by omega) (by omega)⟩
      · exact ⟨_, _, rfl, fun h3 => key _ (by omega) (by omega)⟩
structure MayK (k : Ky) : Prop where
  kind : kindK k.code ≠ 0
  m0 : 0 ≤ k.mods
  m1 : k.mods ≤ 255
  t0 : 1 ≤ k.type
  t1 : k.type ≤ 3
  sh : k.shifted = 0 ∨ kindK k.shifted = 1
  ba : k.base = 0 ∨ kindK k.base = 1
  tx : cleanK k.text = true
theorem mayK_iff {k : Ky} : mayK k = true ↔ MayK k := by
  simp only [mayK, Bool.and_eq_true, Bool.or_eq_true, decide_eq_true_eq]
  constructor
  · rintro ⟨⟨⟨⟨⟨⟨⟨a, b⟩, c⟩, d⟩, e⟩, f⟩, g⟩, h⟩; exact ⟨a, b, c, d, e, f, g, h⟩
  · rintro ⟨a, b, c, d, e, f, g, h⟩; exact ⟨⟨⟨⟨⟨⟨⟨a, b⟩, c⟩, d⟩, e⟩, f⟩, g⟩, h⟩
/-- A text's code. -/
theorem kind1 {c : Int} (h : kindK c = 1) : isCP c = true ∧ 32 ≤ c ∧ ¬(127 ≤ c ∧ c ≤ 159) := by
  unfold kindK lookR at h
  split at h
  · simp at h
  · split at h
    · simp at h
    · split at h
      · have : (padR c).kind = 5 := by unfold padR; split <;> rfl
        rw [this] at h; simp at h
      · simp only at h
        unfold restR at h
        split at h
        · simp at h
        · split at h
          · simp at h
          · split at h
            · simp at h
            · split at h
              · simp at h
              · rename_i hh
                simp only [not_or, Bool.not_eq_false] at hh
                exact ⟨hh.1, by omega, hh.2.2.1⟩
theorem kind_range {c : Int} (h : kindK c ≠ 0) : 0 ≤ c ∧ c ≤ 1114111 := by
  by_cases h1 : 9 ≤ c ∧ c ≤ 63743
  · omega
  · have : kindK c = 1 := by
      unfold kindK lookR at h ⊢
      have e1 : letR c = 0 := by
        unfold letR
        repeat (first | rfl | rw [if_neg (by omega)])
      have e2 : numR c = 0 := by
        unfold numR
        repeat (first | rfl | rw [if_neg (by omega)])
      rw [if_neg (by simp [e1]), if_neg (by simp [e2]), if_neg (by omega)] at h ⊢
      simp only at h ⊢
      unfold restR at h ⊢
      rw [if_neg (by omega), if_neg (by omega), if_neg (by omega)] at h ⊢
      split
      · rename_i hh; rw [if_pos hh] at h; exact absurd rfl h
      · rfl
    obtain ⟨a, _, _⟩ := kind1 this
    obtain ⟨n, rfl, _, _⟩ := isCP_spec a
    omega
theorem clean_spec {t : List UInt8} (h : cleanK t = true) : ∃ l, allU t = some l ∧ l.length ≤ 8 ∧ ∀ r ∈ l, isCP r = true ∧ 32 ≤ r := by
  unfold cleanK at h
  split at h
  · rename_i l hl
    simp only [Bool.and_eq_true, decide_eq_true_eq, List.all_eq_true] at h
    refine ⟨l, hl, h.1, fun r hr => ⟨(allU_spec _ (Nat.le_refl _) hl).2.1 r hr, ?_⟩⟩
    exact (h.2 r hr).1
  · cases h
theorem text_head {t : List UInt8} (h : cleanK t = true) (hne : t ≠ []) : ∃ c s, t = c :: s ∧ c ≠ 27 := by
  obtain ⟨l, hl, _, hr⟩ := clean_spec h
  have := (allU_spec _ (Nat.le_refl _) hl).1
  cases l with
  | nil => exact absurd this hne
  | cons r l =>
    obtain ⟨a, b⟩ := hr r (by simp)
    obtain ⟨c, s, e, hc⟩ := putU_head a
    refine ⟨c, s ++ l.flatMap putU, ?_, hc b⟩
    rw [this, List.flatMap_cons, e]; rfl
theorem text_all {t : List UInt8} (h : cleanK t = true) (hne : t ≠ []) : (allV t).1 ≠ [] ∧ (allV t).1.length ≤ 8 ∧ ∀ r ∈ (allV t).1, 0 ≤ r ∧ r ≤ 1114111 := by
  obtain ⟨l, hl, h8, hr⟩ := clean_spec h
  have e : allV t = (l, true) := by rw [allV, hl]
  rw [e]
  refine ⟨?_, h8, fun r h => ?_⟩
  · rintro rfl
    exact hne (allU_spec _ (Nat.le_refl _) hl).1
  · obtain ⟨n, rfl, _, _⟩ := isCP_spec (hr r h).1
    omega
theorem shown_cp {k : Ky} (h : kindK k.code = 1) (hs : k.shifted = 0 ∨ kindK k.shifted = 1) : isCP (shownK k) = true ∧ 32 ≤ shownK k := by
  obtain ⟨a, b, _⟩ := kind1 h
  unfold shownK
  split
  · exact ⟨a, b⟩
  · split
    · rename_i h0
      rcases hs with e | e
      · exact absurd e h0
      · obtain ⟨a, b, _⟩ := kind1 e
        exact ⟨a, b⟩
    · split
      · refine ⟨?_, by omega⟩
        simp only [isCP, Bool.and_eq_true, Bool.or_eq_true, decide_eq_true_eq]; omega
      · exact ⟨a, b⟩
theorem letR_or (c : Int) : letR c = 0 ∨ 64 ≤ (letR c).toNat ∧ (letR c).toNat ≤ 126 := by
  unfold letR
  repeat' split
  all_goals first | (exact .inr (by decide)) | (exact .inl rfl) | (refine .inr ?_; rw [UInt8.toNat_ofNat', Nat.mod_eq_of_lt (by omega)]; omega)
theorem formK_ge {c : Int} (h : kindK c ≠ 0) : 64 ≤ (formK c).2.toNat ∧ (formK c).2.toNat ≤ 126 := by
  simp only [formK]
  rw [if_neg (show (lookR c).kind ≠ 0 from h)]
  split
  · decide
  · split
    · rename_i h1
      have e : (lookR c).final = letR c ∧ letR c ≠ 0 := by
        unfold lookR at h1 ⊢
        split
        · rename_i h2; exact ⟨rfl, h2⟩
        · rename_i h2
          rw [if_neg h2] at h1
          split at h1
          · simp at h1
          · split at h1
            · have : (padR c).kind = 5 := by unfold padR; split <;> rfl
              rw [this] at h1; simp at h1
            · simp only at h1
              unfold restR at h1
              have := h1.1
              split at this
              · simp at this
              · split at this
                · simp at this
                · split at this
                  · simp at this
                  · split at this <;> simp at this
      show 64 ≤ (lookR c).final.toNat ∧ (lookR c).final.toNat ≤ 126
      rw [e.1]
      exact (letR_or c).resolve_left e.2
    · split
      · exact ⟨show 64 ≤ (126 : UInt8).toNat by decide, show (126 : UInt8).toNat ≤ 126 by decide⟩
      · exact ⟨show 64 ≤ (117 : UInt8).toNat by decide, show (117 : UInt8).toNat ≤ 126 by decide⟩
theorem numR_or (c : Int) : 0 ≤ numR c ∧ numR c ≤ 100 := by
  unfold numR
  repeat' split
  all_goals omega
theorem formK_num {c : Int} (h : kindK c ≠ 0) : 0 ≤ (formK c).1 ∧ (formK c).1 ≤ 1114111 := by
  have hr := kind_range h
  simp only [formK]
  rw [if_neg (show (lookR c).kind ≠ 0 from h)]
  split
  · decide
  · split
    · exact ⟨show (0 : Int) ≤ 1 by omega, show (1 : Int) ≤ 1114111 by omega⟩
    · split
      · show 0 ≤ (lookR c).num ∧ (lookR c).num ≤ 1114111
        have := numR_or c
        unfold lookR
        repeat' split
        all_goals first | (show (0 : Int) ≤ 0 ∧ (0 : Int) ≤ 1114111; omega) | (show 0 ≤ numR c ∧ numR c ≤ 1114111; omega) | skip
        unfold padR
        split <;> (show (0 : Int) ≤ 0 ∧ (0 : Int) ≤ 1114111) <;> omega
      · exact hr
theorem trimK_spec (l : List (List Int)) : ∀ n, trimK l n = [] ∨ ∃ m, m < n ∧ trimK l n = l.take (m + 1) ∧ untoldK (l.getD m []) (m == 0) = false
  | 0 => .inl rfl
  | n + 1 => by
    rw [trimK]
    split
    · rcases trimK_spec l n with h | ⟨m, h1, h2, h3⟩
      · exact .inl h
      · exact .inr ⟨m, by omega, h2, h3⟩
    · rename_i h
      exact .inr ⟨n, by omega, rfl, by simpa using h⟩
/-- What a key's sequence consists of. -/
structure PartK (p : List Int) : Prop where
  ne : p ≠ []
  le : p.length ≤ 8
  ok : ∀ n ∈ p, -1 ≤ n ∧ n ≤ 1114111
theorem first_ok {fl : Int} {k : Ky} (h : MayK k) : PartK (firstK fl k (formK k.code).1 (formK k.code).2.toNat) := by
  obtain ⟨a, b⟩ := formK_num h.kind
  have hs : 0 ≤ k.shifted ∧ k.shifted ≤ 1114111 := by
    rcases h.sh with e | e
    · omega
    · exact kind_range (by rw [e]; decide)
  have hb : 0 ≤ k.base ∧ k.base ≤ 1114111 := by
    rcases h.ba with e | e
    · omega
    · exact kind_range (by rw [e]; decide)
  unfold firstK
  generalize (formK k.code).1 = n at *
  split
  · exact ⟨by simp, by simp, by simp; omega⟩
  · simp only
    split
    · split
      · split
        · exact ⟨by simp, by simp, by simp; omega⟩
        · exact ⟨by simp, by simp, by simp; omega⟩
      · split
        · exact ⟨by simp, by simp, by simp; omega⟩
        · exact ⟨by simp, by simp, by simp; omega⟩
    · split
      · exact ⟨by simp, by simp, by simp; omega⟩
      · exact ⟨by simp, by simp, by simp; omega⟩
theorem second_ok {fl : Int} {k : Ky} (h : MayK k) : PartK (secondK fl k) := by
  have h1 := h.m0
  have h2 := h.m1
  have h3 := h.t0
  have h4 := h.t1
  have hp : paramK k.mods = k.mods + 1 := by rw [paramK, if_neg (by omega)]
  unfold secondK
  rw [hp]
  split
  · exact ⟨by simp, by simp, by simp; omega⟩
  · split
    · exact ⟨by simp, by simp, by simp; omega⟩
    · exact ⟨by simp, by simp, by simp⟩
theorem third_ok {fl : Int} {k : Ky} (h : MayK k) : PartK (thirdK fl k) := by
  unfold thirdK
  split
  · exact ⟨by simp, by simp, by simp⟩
  · rename_i hh
    have hne : k.text ≠ [] := by
      intro e
      simp [e] at hh
    obtain ⟨a, b, c⟩ := text_all h.tx hne
    exact ⟨a, b, fun n hn => by have := c n hn; omega⟩
theorem key_may {fl : Int} {k : Ky} (h : MayK k) : mayP (keySq fl k) = 0 := by
  have hf := formK_ge h.kind
  have hps : parsOk (keySq fl k).ps = true := by
    have hall : ∀ p ∈ [firstK fl k (formK k.code).1 (formK k.code).2.toNat, secondK fl k, thirdK fl k], PartK p := by
      intro p hp
      simp only [List.mem_cons, List.not_mem_nil, or_false] at hp
      rcases hp with rfl | rfl | rfl
      · exact first_ok h
      · exact second_ok h
      · exact third_ok h
    show parsOk (trimK _ 3) = true
    generalize hl : [firstK fl k (formK k.code).1 (formK k.code).2.toNat, secondK fl k, thirdK fl k] = l at hall
    have hlen : l.length = 3 := by rw [← hl]; rfl
    have good : ∀ m, m < 3 → (m = 0 → l.take 1 ≠ [[-1]]) → parsOk (l.take (m + 1)) = true := by
      intro m hm h1
      simp only [parsOk, Bool.and_eq_true, Bool.not_eq_true', Bool.or_eq_false_iff, decide_eq_false_iff_not]
      refine ⟨⟨by rw [List.length_take]; omega, fun e => ?_⟩, List.any_eq_false.2 fun p hp => ?_⟩
      · have := congrArg List.length e
        rw [List.length_take, hlen] at this
        simp at this
        have hm0 : m = 0 := by omega
        subst hm0
        exact h1 rfl e
      · have := hall p (List.mem_of_mem_take hp)
        simp only [parBad, Bool.or_eq_true, decide_eq_true_eq, not_or, List.any_eq_true, not_exists, not_and]
        refine ⟨fun n hn => by have := this.ok n hn; omega, ?_, by have := this.le; omega⟩
        have := List.length_pos_iff.2 this.ne
        omega
    rcases trimK_spec l 3 with e | ⟨m, hm, e, hu⟩
    · rw [e]; rfl
    · rw [e]
      refine good m hm fun h0 e1 => ?_
      subst h0
      have : l.getD 0 [] = [-1] := by
        have := congrArg (fun z : List (List Int) => z.getD 0 []) e1
        simpa [List.getD_eq_getElem?_getD, List.getElem?_take] using this
      rw [this] at hu
      cases hu
  have hsh : shapedP (keySq fl k) = true := by
    unfold shapedP
    rw [if_pos (show (keySq fl k).k = 1 from rfl)]
    simp only [keySq, Bool.and_eq_true, decide_eq_true_eq]
    exact ⟨⟨trivial, decide_eq_true (by omega)⟩, decide_eq_true (by omega)⟩
  unfold mayP
  rw [hps, hsh]
  rfl
theorem putX_key {fl : Int} {k : Ky} (h : MayK k) : putX (keySq fl k) = [27, 91] ++ bodyB (keySq fl k) ++ [(formK k.code).2] := by
  unfold putX
  rw [key_may h]
  show putB (keySq fl k) = _
  unfold putB
  rw [if_pos (show ((keySq fl k).k == 1) = true from rfl)]
  have : (keySq fl k).fi.toNat.toUInt8 = (formK k.code).2 := by simp [keySq]
  rw [this]
theorem key_sm {fl : Int} {k : Ky} (h : MayK k) : (keySq fl k).sm := by
  have hp := parsOk_iff (may_pars (key_may (fl := fl) h))
  refine ⟨?_, fun p hp' => ?_, by simp [keySq], by simp [keySq]⟩
  · have := hp.1; omega
  · have := (hp.2.2 p hp').2.1; omega
theorem typed1 {c : Int} (h : kindK c = 1) : typedK c = false := by
  obtain ⟨_, a, b⟩ := kind1 h
  unfold typedK
  rw [Bool.or_eq_false_iff, Bool.or_eq_false_iff]
  exact ⟨⟨decide_eq_false (by omega), decide_eq_false (by omega)⟩, decide_eq_false (by omega)⟩
end Go.Proofs.YthmjlngdbabdeaaDoor

/- The sequence with which bytes begin, as it is read: plain; and that what is put is read back. -/
set_option linter.unusedVariables false
set_option linter.unusedSimpArgs false
set_option maxRecDepth 100000
namespace Go.Proofs.YthmjlngdbabdeaaDoor
open Go Go.Ab

/-- What a sequence that may be has. -/
structure MayF (s : Sq) : Prop where
  pr : s.pr = 0 ∨ 60 ≤ s.pr ∧ s.pr ≤ 63
  il : s.it.length ≤ 2
  it : ∀ c ∈ s.it, 32 ≤ c.toNat ∧ c.toNat < 48
  ps : parsOk s.ps = true
  dl : s.da.length ≤ 4096
  da : ∀ c ∈ s.da, 32 ≤ c.toNat ∧ c.toNat < 127
  sh : shapedP s = true
theorem mayF {s : Sq} (h : mayP s = 0) : MayF s := by
  simp only [mayP] at h
  split at h
  · cases h
  rename_i h1
  split at h
  · cases h
  rename_i h2
  simp only [Bool.or_eq_true, Bool.not_eq_true', not_or, Bool.not_eq_false, Bool.and_eq_true, decide_eq_true_eq, beq_iff_eq] at h2 h1
  obtain ⟨⟨⟨⟨h3, h4⟩, h5⟩, h6⟩, h7⟩ := h2
  refine ⟨by omega, by omega, fun c hc => ?_, h5, by omega, fun c hc => ?_, h7⟩
  · have := List.all_eq_true.1 h4.2 c hc
    simp only [Bool.and_eq_true, decide_eq_true_eq] at this; omega
  · have := List.all_eq_true.1 h6 c hc
    simp only [Bool.and_eq_true, decide_eq_true_eq] at this; omega

/-- The next bytes between two. -/
def runL (x y : Nat) (l : List UInt8) : List UInt8 := l.takeWhile fun c => decide (x ≤ c.toNat) && decide (c.toNat ≤ y)
theorem runL_nil {x y : Nat} {r : List UInt8} (h : ∀ c, r.head? = some c → ¬(x ≤ c.toNat ∧ c.toNat ≤ y)) : runL x y r = [] := by
  cases r with
  | nil => rfl
  | cons c r =>
    have := h c rfl
    unfold runL
    rw [List.takeWhile_cons, if_neg]
    simpa using this
theorem runL_app {x y : Nat} : ∀ {a r : List UInt8}, (∀ c ∈ a, x ≤ c.toNat ∧ c.toNat ≤ y) → (∀ c, r.head? = some c → ¬(x ≤ c.toNat ∧ c.toNat ≤ y)) → runL x y (a ++ r) = a
  | [], r, _, h => runL_nil h
  | c :: a, r, ha, h => by
    have := ha c (by simp)
    unfold runL
    rw [List.cons_append, List.takeWhile_cons, if_pos (by simpa using this)]
    congr 1
    exact runL_app (fun d hd => ha d (by simp [hd])) h
theorem runL_pre (x y : Nat) (l : List UInt8) : runL x y l = l.take (runL x y l).length := by
  unfold runL
  exact (List.prefix_iff_eq_take.1 (List.takeWhile_prefix _))
theorem runL_le (x y : Nat) (l : List UInt8) : (runL x y l).length ≤ l.length := by
  unfold runL
  exact (List.takeWhile_prefix _).length_le
theorem runL_mem {x y : Nat} {l : List UInt8} {c : UInt8} (h : c ∈ runL x y l) : x ≤ c.toNat ∧ c.toNat ≤ y := by
  have h' : c ∈ l.takeWhile fun c => decide (x ≤ c.toNat) && decide (c.toNat ≤ y) := h
  have := List.all_eq_true.1 (List.all_takeWhile (l := l) (p := fun c => decide (x ≤ c.toNat) && decide (c.toNat ≤ y))) c h'
  simpa using this
/-- A part of a parameter; too large a one is as large as it may be. -/
def numW (t : List UInt8) : Int := if t = [] then -1 else ((takeN t 0 0).1 : Int)
def subsW (p : List UInt8) : List Int := (splitB 58 p).map numW
def numsW (t : List UInt8) : List (List Int) := if t = [] then [] else (splitB 59 t).map subsW
theorem numW_text {n : Int} (h1 : -1 ≤ n) (h2 : n ≤ 1114111) : numW (textZ n) = n := by
  unfold textZ
  split
  · have : n = -1 := by omega
    subst this; rfl
  · have := takeN_dec n.toNat [] 0 (by omega)
    rw [List.append_nil] at this
    unfold numW
    rw [if_neg (decB_ne _), this]
    simp only [takeN]
    omega
theorem subsW_text {p : List Int} (hp : p ≠ []) (h : ∀ n ∈ p, -1 ≤ n ∧ n ≤ 1114111) : subsW (subText p) = p := by
  unfold subsW subText
  rw [splitB_jn (by simpa using hp)]
  · rw [List.map_map]
    conv => rhs; rw [← List.map_id p]
    exact List.map_congr_left fun n hn => numW_text (h n hn).1 (h n hn).2
  · intro x hx hc
    obtain ⟨n, _, rfl⟩ := List.mem_map.1 hx
    exact fig_not (textZ_figs n _ hc) (by decide) rfl
theorem numsW_text {ps : List (List Int)} (h : parsOk ps = true) : numsW (parsText ps) = ps := by
  obtain ⟨a, b, c⟩ := parsOk_iff h
  have d : ∀ p ∈ ps, p ≠ [] ∧ ∀ n ∈ p, -1 ≤ n := fun p hp => ⟨(c p hp).1, fun n hn => ((c p hp).2.2 n hn).1⟩
  unfold numsW
  split
  · rename_i e
    rcases (parsText_nil d).1 e with e | e
    · exact e.symm
    · exact absurd e b
  · rename_i e
    have hne : ps ≠ [] := fun e' => e (by rw [e']; rfl)
    unfold parsText
    rw [splitB_jn (by simpa using hne)]
    · rw [List.map_map]
      conv => rhs; rw [← List.map_id ps]
      exact List.map_congr_left fun p hq => subsW_text (c p hq).1 (c p hq).2.2
    · intro x hx hc
      obtain ⟨p, _, rfl⟩ := List.mem_map.1 hx
      rcases subText_mem hc with h | h
      · cases h
      · cases h
def isPr (c : UInt8) : Bool := decide (60 ≤ c.toNat) && decide (c.toNat ≤ 63)
/-- Marks and parameters; how many bytes these are. -/
def headW (l : List UInt8) : Int × List (List Int) × Nat :=
  let k := if isPr (l.headD 0) = true then 1 else 0
  let t := runL 48 59 (l.drop k)
  (if isPr (l.headD 0) = true then ((l.headD 0).toNat : Int) else 0, numsW t, k + t.length)
/-- What stands behind parameters. -/
def restW (l : List UInt8) : List UInt8 × Int × Nat :=
  let it := runL 32 47 l
  (it, (((l.drop it.length).headD 0).toNat : Int), it.length + 1)
def zeroSq : Sq := ⟨0, 0, [], [], 0, []⟩
/-- The sequence that bytes might begin with, and how many these would be. -/
def readW (b : List UInt8) : Sq × Nat :=
  if b.headD 0 ≠ 27 then (zeroSq, 1)
  else
    let l := b.drop 1
    if l.headD 0 = 91 then
      let h := headW (b.drop 2)
      let r := restW (b.drop (2 + h.2.2))
      (⟨1, h.1, h.2.1, r.1, r.2.1, []⟩, 2 + h.2.2 + r.2.2)
    else if l.headD 0 = 79 then (⟨2, 0, [], [], ((b.drop 2).headD 0).toNat, []⟩, 3)
    else if l.headD 0 = 80 then
      let h := headW (b.drop 2)
      let r := restW (b.drop (2 + h.2.2))
      let d := runL 32 126 (b.drop (2 + h.2.2 + r.2.2))
      (⟨3, h.1, h.2.1, r.1, r.2.1, d⟩, 2 + h.2.2 + r.2.2 + d.length + 2)
    else if l.headD 0 = 93 then
      let d := runL 32 126 (b.drop 2)
      (⟨4, 0, [], [], 0, d⟩, 2 + d.length + 2)
    else
      let r := restW l
      (⟨5, 0, [], r.1, r.2.1, []⟩, 1 + r.2.2)
theorem head_app {a r : List UInt8} {c : UInt8} (h : (a ++ r).head? = some c) : c ∈ a ∨ (a = [] ∧ r.head? = some c) := by
  cases a with
  | nil => exact .inr ⟨rfl, h⟩
  | cons x a => simp at h; subst h; exact .inl (by simp)
theorem headW_put {s : Sq} (h : MayF s) {f : UInt8} {r : List UInt8} (hf : 64 ≤ f.toNat) : headW (bodyB s ++ f :: r) = (s.pr, s.ps, (prB s.pr).length + (parsText s.ps).length) := by
  have hp : ∀ c ∈ parsText s.ps, 48 ≤ c.toNat ∧ c.toNat ≤ 59 := fun c hc => by have := parsText_mem hc; omega
  have hi : ∀ c, (s.it ++ f :: r).head? = some c → ¬(48 ≤ c.toNat ∧ c.toNat ≤ 59) ∧ ¬(60 ≤ c.toNat ∧ c.toNat ≤ 63) := fun c hc => by
    rcases head_app hc with h1 | ⟨_, h1⟩
    · have := h.it c h1; omega
    · simp at h1; subst h1; omega
  have hrun : runL 48 59 (parsText s.ps ++ (s.it ++ f :: r)) = parsText s.ps := runL_app hp fun c hc => (hi c hc).1
  have hnum := numsW_text h.ps
  unfold bodyB
  rw [List.append_assoc, List.append_assoc]
  rcases h.pr with h0 | ⟨h1, h2⟩
  · have hb : prB s.pr = [] := by rw [h0]; rfl
    have hpr : isPr ((parsText s.ps ++ (s.it ++ f :: r)).headD 0) = false := by
      cases hh : (parsText s.ps ++ (s.it ++ f :: r)).head? with
      | none => rw [List.headD_eq_head?_getD, hh]; rfl
      | some c =>
        rw [List.headD_eq_head?_getD, hh, Option.getD_some]
        unfold isPr
        rw [Bool.and_eq_false_iff, decide_eq_false_iff_not, decide_eq_false_iff_not]
        rcases head_app hh with h3 | ⟨_, h3⟩
        · have := hp c h3; omega
        · have := (hi c h3).2; omega
    rw [hb, List.nil_append]
    unfold headW
    rw [hpr]
    simp only [Bool.false_eq_true, if_false, List.drop_zero, hrun, hnum, h0, List.length_nil]
  · have hne : (s.pr != 0) = true := by rw [bne_iff_ne]; omega
    have hb : prB s.pr = [s.pr.toNat.toUInt8] := by unfold prB; rw [if_pos hne]
    have hc : (s.pr.toNat.toUInt8).toNat = s.pr.toNat := by
      rw [Nat.toUInt8_eq, UInt8.toNat_ofNat', Nat.mod_eq_of_lt (by omega)]
    have hpr : isPr (s.pr.toNat.toUInt8) = true := by
      unfold isPr
      rw [hc, Bool.and_eq_true, decide_eq_true_eq, decide_eq_true_eq]; omega
    rw [hb]
    unfold headW
    simp only [List.cons_append, List.nil_append, List.headD_cons, hpr, if_true, List.drop_succ_cons, List.drop_zero, hrun, hnum, hc, List.length_cons, List.length_nil]
    rw [show ((s.pr.toNat : Nat) : Int) = s.pr by omega]
theorem restW_put {it : List UInt8} (hit : ∀ c ∈ it, 32 ≤ c.toNat ∧ c.toNat < 48) {f : UInt8} {r : List UInt8} (hf : 48 ≤ f.toNat) : restW (it ++ f :: r) = (it, (f.toNat : Int), it.length + 1) := by
  have hrun : runL 32 47 (it ++ f :: r) = it := runL_app (fun c hc => by have := hit c hc; omega) fun c hc => by simp at hc; subst hc; omega
  unfold restW
  simp only [hrun, List.drop_left, List.headD_cons]
theorem body_len (s : Sq) : (bodyB s).length = (prB s.pr).length + (parsText s.ps).length + s.it.length := by
  unfold bodyB; simp only [List.length_append]
/-- What is put is read back, whatever stands behind it. -/
theorem readW_put {s : Sq} (hm : mayP s = 0) (more : List UInt8) : readW (putB s ++ more) = (s, (putB s).length) := by
  have h := mayF hm
  have hsh := h.sh
  have hbl := body_len s
  have fin : 0 ≤ s.fi → s.fi ≤ 126 → ((s.fi.toNat.toUInt8).toNat : Int) = s.fi ∧ (s.fi.toNat.toUInt8).toNat = s.fi.toNat := fun h0 h1 => by
    have : (s.fi.toNat.toUInt8).toNat = s.fi.toNat := by rw [Nat.toUInt8_eq, UInt8.toNat_ofNat', Nat.mod_eq_of_lt (by omega)]
    exact ⟨by rw [this]; omega, this⟩
  have hdr : ∀ (a b : List UInt8), a.length = (prB s.pr).length + (parsText s.ps).length → a ++ b = b → True := fun _ _ _ _ => trivial
  have hbody : ∀ t : List UInt8, (bodyB s ++ t).drop ((prB s.pr).length + (parsText s.ps).length) = s.it ++ t := fun t => by
    unfold bodyB
    rw [List.append_assoc, ← List.length_append]
    exact List.drop_left
  unfold shapedP at hsh
  split at hsh
  · rename_i hk
    simp only [Bool.and_eq_true, decide_eq_true_eq] at hsh
    obtain ⟨⟨hda, hf1⟩, hf2⟩ := hsh
    obtain ⟨e1, e2⟩ := fin (by omega) hf2
    have hput : putB s = [27, 91] ++ bodyB s ++ [s.fi.toNat.toUInt8] := by unfold putB; rw [if_pos (by rw [hk]; rfl)]
    rw [hput]
    have hH := headW_put h (f := s.fi.toNat.toUInt8) (r := more) (by omega)
    have hR := restW_put h.it (f := s.fi.toNat.toUInt8) (r := more) (by omega)
    have hd : ([27, 91] ++ bodyB s ++ [s.fi.toNat.toUInt8] ++ more).drop 2 = bodyB s ++ s.fi.toNat.toUInt8 :: more := by simp
    have hd2 : ([27, 91] ++ bodyB s ++ [s.fi.toNat.toUInt8] ++ more).drop (2 + ((prB s.pr).length + (parsText s.ps).length)) = s.it ++ s.fi.toNat.toUInt8 :: more := by
      rw [← List.drop_drop, hd, hbody]
    unfold readW
    rw [if_neg (by simp)]
    simp only
    rw [if_pos (by simp), hd, hH]
    simp only
    rw [hd2, hR]
    simp only [e1, Prod.mk.injEq]
    refine ⟨?_, ?_⟩
    · obtain ⟨k, pr, ps, it, fi, da⟩ := s
      simp only at hk hda ⊢
      subst hk hda; rfl
    · simp only [List.length_append, List.length_cons, List.length_nil]; omega
  · rename_i hk1
    split at hsh
    · rename_i hk
      simp only [Bool.and_eq_true, decide_eq_true_eq] at hsh
      obtain ⟨hf1, hf2⟩ := hsh
      obtain ⟨e1, e2⟩ := fin (by omega) hf2
      have hput : putB s = [27, 80] ++ bodyB s ++ [s.fi.toNat.toUInt8] ++ s.da ++ [27, 92] := by unfold putB; rw [hk]; rfl
      rw [hput]
      have hH := headW_put h (f := s.fi.toNat.toUInt8) (r := s.da ++ [27, 92] ++ more) (by omega)
      have hR := restW_put h.it (f := s.fi.toNat.toUInt8) (r := s.da ++ [27, 92] ++ more) (by omega)
      have hD : runL 32 126 (s.da ++ ([27, 92] ++ more)) = s.da := runL_app (fun c hc => by have := h.da c hc; omega) fun c hc => by simp at hc; subst hc; decide
      have hd : ([27, 80] ++ bodyB s ++ [s.fi.toNat.toUInt8] ++ s.da ++ [27, 92] ++ more).drop 2 = bodyB s ++ s.fi.toNat.toUInt8 :: (s.da ++ [27, 92] ++ more) := by simp
      have hd2 : ([27, 80] ++ bodyB s ++ [s.fi.toNat.toUInt8] ++ s.da ++ [27, 92] ++ more).drop (2 + ((prB s.pr).length + (parsText s.ps).length)) = s.it ++ s.fi.toNat.toUInt8 :: (s.da ++ [27, 92] ++ more) := by
        rw [← List.drop_drop, hd, hbody]
      have hd3 : ([27, 80] ++ bodyB s ++ [s.fi.toNat.toUInt8] ++ s.da ++ [27, 92] ++ more).drop (2 + ((prB s.pr).length + (parsText s.ps).length) + (s.it.length + 1)) = s.da ++ ([27, 92] ++ more) := by
        rw [← List.drop_drop, hd2, ← List.drop_drop, List.drop_left]
        simp
      unfold readW
      rw [if_neg (by simp)]
      simp only
      rw [if_neg (by simp), if_neg (by simp), if_pos (by simp), hd, hH]
      simp only
      rw [hd2, hR]
      simp only
      rw [hd3, hD]
      simp only [e1, Prod.mk.injEq]
      refine ⟨?_, ?_⟩
      · obtain ⟨k, pr, ps, it, fi, da⟩ := s
        simp only at hk ⊢
        subst hk; rfl
      · simp only [List.length_append, List.length_cons, List.length_nil]; omega
    · rename_i hk3
      split at hsh
      · rename_i hk
        simp only [Bool.and_eq_true, decide_eq_true_eq, beq_iff_eq] at hsh
        obtain ⟨⟨⟨⟨⟨hpr, hps⟩, hit⟩, hda⟩, hf1⟩, hf2⟩ := hsh
        obtain ⟨e1, e2⟩ := fin (by omega) hf2
        have hput : putB s = [27, 79] ++ [s.fi.toNat.toUInt8] := by unfold putB; rw [hk]; rfl
        rw [hput]
        unfold readW
        rw [if_neg (by simp)]
        simp only
        rw [if_neg (by simp), if_pos (by simp)]
        simp only [Prod.mk.injEq]
        refine ⟨?_, by simp⟩
        have hps' : s.ps = [] := List.length_eq_zero_iff.1 (by omega)
        obtain ⟨k, pr, ps, it, fi, da⟩ := s
        simp only at hk hpr hps' hit hda e1 ⊢
        subst hk hpr hps' hit hda
        simp only [List.cons_append, List.nil_append, List.drop_succ_cons, List.drop_zero, List.headD_cons, e1]
      · rename_i hk2
        split at hsh
        · rename_i hk
          simp only [Bool.and_eq_true, decide_eq_true_eq, beq_iff_eq] at hsh
          obtain ⟨⟨⟨hpr, hps⟩, hit⟩, hf⟩ := hsh
          have hput : putB s = [27, 93] ++ s.da ++ [27, 92] := by unfold putB; rw [hk]; rfl
          have hD : runL 32 126 (s.da ++ ([27, 92] ++ more)) = s.da := runL_app (fun c hc => by have := h.da c hc; omega) fun c hc => by simp at hc; subst hc; decide
          have hd : ([27, 93] ++ s.da ++ [27, 92] ++ more).drop 2 = s.da ++ ([27, 92] ++ more) := by simp
          rw [hput]
          unfold readW
          rw [if_neg (by simp)]
          simp only
          rw [if_neg (by simp), if_neg (by simp), if_neg (by simp), if_pos (by simp), hd, hD]
          simp only [Prod.mk.injEq]
          refine ⟨?_, by simp; omega⟩
          have hps' : s.ps = [] := List.length_eq_zero_iff.1 (by omega)
          obtain ⟨k, pr, ps, it, fi, da⟩ := s
          simp only at hk hpr hps' hit hf ⊢
          subst hk hpr hps' hit hf
          rfl
        · rename_i hk4
          split at hsh
          · rename_i hk
            simp only [Bool.and_eq_true, decide_eq_true_eq, beq_iff_eq, Bool.or_eq_true, Bool.not_eq_true', decide_eq_false_iff_not] at hsh
            obtain ⟨⟨⟨⟨⟨hpr, hps⟩, hda⟩, hor⟩, hf1⟩, hf2⟩ := hsh
            obtain ⟨e1, e2⟩ := fin (by omega) hf2
            have hput : putB s = [27] ++ s.it ++ [s.fi.toNat.toUInt8] := by unfold putB; rw [hk]; rfl
            have hR := restW_put h.it (f := s.fi.toNat.toUInt8) (r := more) (by omega)
            have hd : ([27] ++ s.it ++ [s.fi.toNat.toUInt8] ++ more).drop 1 = s.it ++ s.fi.toNat.toUInt8 :: more := by simp
            have hne : ∀ x : UInt8, x ∈ ([79, 80, 91, 93] : List UInt8) → (s.it ++ s.fi.toNat.toUInt8 :: more).headD 0 ≠ x := by
              intro x hx e
              cases hit : s.it with
              | nil =>
                rw [hit] at e
                simp only [List.nil_append, List.headD_cons] at e
                rcases hor with h1 | h1
                · exact h1 hit
                · rw [e] at h1
                  revert h1 hx
                  simp only [List.mem_cons, List.not_mem_nil, or_false]
                  rintro (rfl | rfl | rfl | rfl) h1 <;> revert h1 <;> decide
              | cons c t =>
                rw [hit] at e
                simp only [List.cons_append, List.headD_cons] at e
                have := h.it c (by rw [hit]; simp)
                subst e
                simp only [List.mem_cons, List.not_mem_nil, or_false] at hx
                rcases hx with rfl | rfl | rfl | rfl <;> revert this <;> decide
            rw [hput]
            unfold readW
            rw [if_neg (by simp)]
            simp only
            rw [hd, if_neg (hne 91 (by simp)), if_neg (hne 79 (by simp)), if_neg (hne 80 (by simp)), if_neg (hne 93 (by simp)), hR]
            simp only [e1, Prod.mk.injEq]
            refine ⟨?_, ?_⟩
            · have hps' : s.ps = [] := List.length_eq_zero_iff.1 (by omega)
              obtain ⟨k, pr, ps, it, fi, da⟩ := s
              simp only at hk hpr hps' hda ⊢
              subst hk hpr hps' hda; rfl
            · simp only [List.length_append, List.length_cons, List.length_nil]; omega
          · cases hsh
/-- The sequence with which bytes begin, and how many these are. -/
def takeW (b : List UInt8) : Option (Sq × Nat) :=
  let r := readW b
  if mayP r.1 = 0 ∧ putB r.1 <+: b ∧ (putB r.1).length = r.2 then some r else none
theorem takeW_put {s : Sq} (hm : mayP s = 0) (more : List UInt8) : takeW (putB s ++ more) = some (s, (putB s).length) := by
  unfold takeW
  rw [readW_put hm]
  exact if_pos ⟨hm, List.prefix_append _ _, rfl⟩
theorem takeW_iff {b : List UInt8} {s : Sq} {n : Nat} : takeW b = some (s, n) ↔ mayP s = 0 ∧ putB s <+: b ∧ (putB s).length = n := by
  constructor
  · intro h
    unfold takeW at h
    simp only at h
    split at h
    · rename_i hh
      cases e : readW b with
      | mk s' n' =>
        rw [e] at h hh
        cases h
        exact hh
    · cases h
  · rintro ⟨h1, ⟨r, rfl⟩, rfl⟩
    exact takeW_put h1 r
theorem putB_inj {s t : Sq} (hs : mayP s = 0) (ht : mayP t = 0) (h : putB s = putB t) : s = t := by
  have h1 := takeW_put hs []
  have h2 := takeW_put ht []
  rw [h] at h1
  rw [h1] at h2
  simp only [Option.some.injEq, Prod.mk.injEq] at h2
  exact h2.1
/-- None of a sequence's bytes alone is one. -/
theorem takeW_cut {s : Sq} (hs : mayP s = 0) {n : Nat} (hn : n < (putB s).length) : takeW ((putB s).take n) = none := by
  cases h : takeW ((putB s).take n) with
  | none => rfl
  | some p =>
    obtain ⟨t, m⟩ := p
    obtain ⟨h1, ⟨r, h2⟩, h3⟩ := takeW_iff.1 h
    have h4 : putB s = putB t ++ (r ++ (putB s).drop n) := by rw [← List.append_assoc, h2, List.take_append_drop]
    have h5 := takeW_put h1 (r ++ (putB s).drop n)
    rw [← h4] at h5
    have h6 := takeW_put hs []
    rw [List.append_nil] at h6
    rw [h5] at h6
    simp only [Option.some.injEq, Prod.mk.injEq] at h6
    have h7 : (putB t).length ≤ n := by
      have := congrArg List.length h2
      rw [List.length_append, List.length_take] at this
      omega
    omega
end Go.Proofs.YthmjlngdbabdeaaDoor

/- Two events that are sent alike: plain. -/
set_option linter.unusedVariables false
set_option linter.unusedSimpArgs false
set_option maxRecDepth 100000
namespace Go.Proofs.YthmjlngdbabdeaaDoor
open Go Go.Ab

theorem formU {c : Int} (hk : kindK c ≠ 0) : formK c = (c, 117) ∨ (57344 ≤ c ∧ c < 57464) := by
  by_cases h : 57344 ≤ c ∧ c < 57464
  · exact .inr h
  · refine .inl ?_
    have h3 : letR c = 0 := by
      unfold letR
      repeat (first | rfl | rw [if_neg (by omega)])
    have h4 : numR c = 0 := by
      unfold numR
      repeat (first | rfl | rw [if_neg (by omega)])
    have e : lookR c = ⟨restR c, 0, 0, 0, false⟩ := by
      unfold lookR
      rw [if_neg (by rw [h3]; simp), if_neg (by rw [h4]; simp), if_neg (by omega)]
    have h5 : restR c ≠ 3 ∧ restR c ≠ 4 := by
      unfold restR
      repeat' split
      all_goals omega
    have hk' : (lookR c).kind ≠ 0 := hk
    simp only [formK]
    rw [if_neg hk', if_neg (by omega), if_neg (by rw [e]; exact fun h => h5.1 h.1), if_neg (by rw [e]; exact fun h => h5.2 h.1)]
theorem form_inj1 : ∀ i j : Fin 120, kindK (57344 + (i.val : Int)) ≠ 0 → kindK (57344 + (j.val : Int)) ≠ 0 → formK (57344 + (i.val : Int)) = formK (57344 + (j.val : Int)) → i = j := by decide +kernel
theorem form_u1 : ∀ i : Fin 120, (formK (57344 + (i.val : Int))).2 = 117 → (formK (57344 + (i.val : Int))).1 = 57344 + (i.val : Int) := by decide +kernel
theorem form_inj6 {c d : Int} (hc : kindK c ≠ 0) (hd : kindK d ≠ 0) (h : formK c = formK d) : c = d := by
  have fin : ∀ {c : Int}, 57344 ≤ c ∧ c < 57464 → ∃ i : Fin 120, c = 57344 + (i.val : Int) := fun {c} h => ⟨⟨(c - 57344).toNat, by omega⟩, by simp only; omega⟩
  rcases formU hc with h1 | h1 <;> rcases formU hd with h2 | h2
  · rw [h1, h2] at h; exact congrArg Prod.fst h
  · obtain ⟨i, rfl⟩ := fin h2
    rw [h1] at h
    have := form_u1 i (by rw [← h])
    rw [← h] at this; exact this
  · obtain ⟨i, rfl⟩ := fin h1
    rw [h2] at h
    have := form_u1 i (by rw [h])
    rw [h] at this; exact this.symm
  · obtain ⟨i, rfl⟩ := fin h1
    obtain ⟨j, rfl⟩ := fin h2
    rw [form_inj1 i j hc hd h]
theorem untold1 {p : List Int} {b : Bool} : untoldK p b = true ↔ p = [-1] ∨ (b = true ∧ p = [1]) := by
  unfold untoldK
  cases p with
  | nil => simp
  | cons x l =>
    cases l with
    | nil => cases b <;> simp
    | cons y l => simp
/-- What is cut off is told by that. -/
theorem trim_inj {a b c a' b' c' : List Int} (ha : a ≠ [-1]) (ha' : a' ≠ [-1]) : trimK [a, b, c] 3 = trimK [a', b', c'] 3 ↔ a = a' ∧ b = b' ∧ c = c' := by
  constructor
  · intro h
    have e : ∀ x y z : List Int, trimK [x, y, z] 3 = if z = [-1] then (if y = [-1] then (if x = [-1] ∨ x = [1] then [] else [x]) else [x, y]) else [x, y, z] := by
      intro x y z
      simp only [trimK, List.getD_cons_zero, List.getD_cons_succ]
      have u1 : untoldK z (2 == 0) = true ↔ z = [-1] := by rw [untold1]; simp
      have u2 : untoldK y (1 == 0) = true ↔ y = [-1] := by rw [untold1]; simp
      have u3 : untoldK x (0 == 0) = true ↔ (x = [-1] ∨ x = [1]) := by rw [untold1]; simp
      by_cases h1 : z = [-1]
      · rw [if_pos (u1.2 h1), if_pos h1]
        by_cases h2 : y = [-1]
        · rw [if_pos (u2.2 h2), if_pos h2]
          by_cases h3 : x = [-1] ∨ x = [1]
          · rw [if_pos (u3.2 h3), if_pos h3]
          · rw [if_neg (fun h => h3 (u3.1 h)), if_neg h3]; rfl
        · rw [if_neg (fun h => h2 (u2.1 h)), if_neg h2]; rfl
      · rw [if_neg (fun h => h1 (u1.1 h)), if_neg h1]; rfl
    rw [e, e] at h
    by_cases h1 : c = [-1] <;> by_cases h1' : c' = [-1] <;> by_cases h2 : b = [-1] <;> by_cases h2' : b' = [-1] <;> by_cases h3 : a = [1] <;> by_cases h3' : a' = [1] <;> simp_all
  · rintro ⟨rfl, rfl, rfl⟩; rfl
theorem second_inj {fl : Int} (hf : hasK fl 2 = true) {k j : Ky} (hk : MayK k) (hj : MayK j) : secondK fl k = secondK fl j ↔ k.mods = j.mods ∧ k.type = j.type := by
  have p : ∀ {m : Int}, 0 ≤ m → m ≤ 255 → paramK m = m + 1 := fun h0 h1 => by unfold paramK; rw [if_neg (by omega)]
  have k0 := hk.m0
  have j0 := hj.m0
  have pk := p hk.m0 hk.m1
  have pj := p hj.m0 hj.m1
  unfold secondK
  rw [hf, pk, pj]
  by_cases t1 : k.type = 1 <;> by_cases t2 : j.type = 1 <;> by_cases m1 : k.mods = 0 <;> by_cases m2 : j.mods = 0 <;> simp [t1, t2, m1, m2] <;> omega
theorem allV_inj {s t : List UInt8} (hs : cleanK s = true) (ht : cleanK t = true) (h : (allV s).1 = (allV t).1) : s = t := by
  obtain ⟨l, e, _, _⟩ := clean_spec hs
  obtain ⟨m, f, _, _⟩ := clean_spec ht
  have e1 := (allU_spec s.length (Nat.le_refl _) e).1
  have f1 := (allU_spec t.length (Nat.le_refl _) f).1
  have e2 : (allV s).1 = l := by unfold allV; rw [e]
  have f2 : (allV t).1 = m := by unfold allV; rw [f]
  rw [e2, f2] at h
  rw [e1, f1, h]
theorem third_inj {fl : Int} {k j : Ky} (hk : MayK k) (hj : MayK j) (ht : k.type = j.type) : thirdK fl k = thirdK fl j ↔ (hasK fl 16 = true ∧ k.type ≠ 3 → k.text = j.text) := by
  have ne1 : ∀ {t : List UInt8}, cleanK t = true → t ≠ [] → (allV t).1 ≠ [-1] := fun h1 h2 e => by
    have := (text_all h1 h2).2.2 (-1) (by rw [e]; simp)
    omega
  unfold thirdK
  rw [← ht]
  by_cases h16 : hasK fl 16 = true
  · by_cases h3 : k.type = 3
    · simp [h16, h3]
    · have h3' : (k.type == 3) = false := by rw [beq_eq_false_iff_ne]; exact h3
      rw [h16, h3']
      by_cases e1 : k.text = [] <;> by_cases e2 : j.text = []
      · simp [e1, e2]
      · have := ne1 hj.tx e2
        simp [e1, e2, h3]
        exact fun h => this h.symm
      · have := ne1 hk.tx e1
        simp [e1, e2, h3, this]
      · simp [e1, e2, h3]
        exact ⟨fun h => allV_inj hk.tx hj.tx h, fun h => by rw [h]⟩
  · have h16 : hasK fl 16 = false := by simpa using h16
    simp [h16]
def altK (k : Ky) : List Int := [if (formK k.code).2 = 117 ∧ hasK k.mods 1 = true then k.shifted else 0, if (formK k.code).2 = 117 ∧ k.base ≠ k.code then k.base else 0]
theorem kind_code {c : Int} (h : kindK c = 1) : 32 ≤ c := (kind1 h).2.1
theorem first_head {fl : Int} {k : Ky} (n f : Int) : (firstK fl k n f).head? = some n := by
  unfold firstK
  simp only
  repeat' split
  all_goals rfl
theorem first_eq {fl : Int} {k : Ky} (h : MayK k) : firstK fl k (formK k.code).1 (formK k.code).2.toNat = if hasK fl 4 = false then [(formK k.code).1] else
    match altK k with
    | [s, b] => if b = 0 then (if s = 0 then [(formK k.code).1] else [(formK k.code).1, s]) else (if s = 0 then [(formK k.code).1, -1, b] else [(formK k.code).1, s, b])
    | _ => [] := by
  unfold firstK altK
  by_cases h4 : hasK fl 4 = true
  · by_cases hu : (formK k.code).2 = 117
    · have hu' : (((formK k.code).2.toNat : Int) != 117) = false := by rw [hu]; rfl
      rw [h4, hu']
      by_cases hs : k.shifted = 0 <;> by_cases hh : hasK k.mods 1 = true <;> by_cases hb : k.base = 0 <;> by_cases hc : k.base = k.code <;> simp [hu, hs, hh, hb, hc]
    · have hu' : (((formK k.code).2.toNat : Int) != 117) = true := by
        rw [bne_iff_ne]; intro e
        exact hu (UInt8.toNat_inj.1 (by have : (117 : UInt8).toNat = 117 := rfl; omega))
      rw [h4, hu']
      simp [hu]
  · have h4 : hasK fl 4 = false := by simpa using h4
    rw [h4]; simp
theorem alt_ge {k : Ky} (h : MayK k) : ∃ s b, altK k = [s, b] ∧ (s = 0 ∨ 32 ≤ s) ∧ (b = 0 ∨ 32 ≤ b) := by
  refine ⟨_, _, rfl, ?_, ?_⟩
  · split
    · rcases h.sh with e | e
      · exact .inl e
      · exact .inr (kind_code e)
    · exact .inl rfl
  · split
    · rcases h.ba with e | e
      · exact .inl e
      · exact .inr (kind_code e)
    · exact .inl rfl
theorem first_inj {fl : Int} {k j : Ky} (hk : MayK k) (hj : MayK j) : (firstK fl k (formK k.code).1 (formK k.code).2.toNat = firstK fl j (formK j.code).1 (formK j.code).2.toNat ∧ (formK k.code).2 = (formK j.code).2) ↔ (k.code = j.code ∧ (hasK fl 4 = true → altK k = altK j)) := by
  obtain ⟨s, b, e1, hs, hb⟩ := alt_ge hk
  obtain ⟨s', b', e2, hs', hb'⟩ := alt_ge hj
  have f1 := first_eq (fl := fl) hk
  have f2 := first_eq (fl := fl) hj
  rw [e1] at f1
  rw [e2] at f2
  simp only at f1 f2
  constructor
  · rintro ⟨h1, h2⟩
    have hn : (formK k.code).1 = (formK j.code).1 := by
      have a1 := first_head (fl := fl) (k := k) (formK k.code).1 (formK k.code).2.toNat
      have a2 := first_head (fl := fl) (k := j) (formK j.code).1 (formK j.code).2.toNat
      rw [h1, a2] at a1
      exact (Option.some.inj a1).symm
    refine ⟨form_inj6 hk.kind hj.kind (Prod.ext hn h2), fun h4 => ?_⟩
    rw [f1, f2, hn] at h1
    simp only [h4, Bool.true_eq_false, if_false, ↓reduceIte] at h1
    rw [e1, e2]
    by_cases q1 : b = 0 <;> by_cases q2 : b' = 0 <;> by_cases q3 : s = 0 <;> by_cases q4 : s' = 0 <;> simp only [q1, q2, q3, q4, if_true, if_false, ↓reduceIte, List.cons.injEq, and_true, true_and, reduceCtorEq, and_false, false_and] at h1 ⊢
    all_goals first | exact h1.elim | omega
  · rintro ⟨h1, h2⟩
    refine ⟨?_, by rw [h1]⟩
    rw [f1, f2, h1]
    by_cases h4 : hasK fl 4 = true
    · have := h2 h4
      rw [e1, e2] at this
      simp only [List.cons.injEq, and_true] at this
      rw [this.1, this.2]
    · have h4 : hasK fl 4 = false := by simpa using h4
      rw [if_pos h4, if_pos h4]
/-- Clear, Events and All, besides what else is told. -/
def flAll (n : Nat) : Int := ((n % 32 ||| 11 : Nat) : Int)
theorem flAll_or : ∀ n : Fin 32, bits .or .i64 ((n.val : Nat) : Int) 11 = ((n.val ||| 11 : Nat) : Int) ∧ hasK ((n.val ||| 11 : Nat) : Int) 2 = true ∧ hasK ((n.val ||| 11 : Nat) : Int) 8 = true ∧ n.val ||| 11 < 32 := by decide +kernel
theorem flAll_spec (n : Nat) : bits .or .i64 ((n % 32 : Nat) : Int) 11 = flAll n ∧ hasK (flAll n) 2 = true ∧ hasK (flAll n) 8 = true ∧ flAll n ≤ 31 := by
  obtain ⟨a, b, c, d⟩ := flAll_or ⟨n % 32, Nat.mod_lt _ (by omega)⟩
  exact ⟨a, b, c, by unfold flAll; simp only at d; omega⟩
theorem key_all {n : Nat} {k : Ky} (M : MayK k) : keyK (flAll n) k = putX (keySq (flAll n) k) := by
  obtain ⟨_, h2, h8, _⟩ := flAll_spec n
  have h1 : sentK (flAll n) k = true := by
    unfold sentK; rw [h2, h8]; simp
  have h3 : textK (flAll n) k = [] := by
    unfold textK; rw [if_pos (by rw [h8]; rfl)]
  unfold keyK
  rw [mayK_iff.2 M, h1, h3]
  rfl
theorem putX_may6 {s : Sq} (h : mayP s = 0) : putX s = putB s := by unfold putX; rw [h]; rfl
/-- Two events are sent alike just if they are the same in what is told. -/
theorem apart {n : Nat} {k j : Ky} (hk : MayK k) (hj : MayK j) : keyK (flAll n) k = keyK (flAll n) j ↔
    (k.code = j.code ∧ k.mods = j.mods ∧ k.type = j.type) ∧ (hasK (flAll n) 4 = true → altK k = altK j) ∧ (hasK (flAll n) 16 = true ∧ k.type ≠ 3 → k.text = j.text) := by
  have m1 := key_may (fl := flAll n) hk
  have m2 := key_may (fl := flAll n) hj
  obtain ⟨_, h2, _, _⟩ := flAll_spec n
  have fne : ∀ {k : Ky}, MayK k → firstK (flAll n) k (formK k.code).1 (formK k.code).2.toNat ≠ [-1] := fun {k} h e => by
    have a := first_head (fl := flAll n) (k := k) (formK k.code).1 (formK k.code).2.toNat
    rw [e] at a
    have := (formK_num h.kind).1
    simp at a
    omega
  have fu : ∀ a b : UInt8, ((a.toNat : Nat) : Int) = ((b.toNat : Nat) : Int) → a = b := fun a b e => UInt8.toNat_inj.1 (by omega)
  rw [key_all hk, key_all hj, putX_may6 m1, putX_may6 m2]
  constructor
  · intro h
    have e := putB_inj m1 m2 h
    simp only [keySq, Sq.mk.injEq, true_and, and_true] at e
    obtain ⟨e1, e2⟩ := e
    obtain ⟨a, b, c⟩ := (trim_inj (fne hk) (fne hj)).1 e1
    obtain ⟨b1, b2⟩ := (second_inj h2 hk hj).1 b
    obtain ⟨a1, a2⟩ := (first_inj hk hj).1 ⟨a, fu _ _ e2⟩
    exact ⟨⟨a1, b1, b2⟩, a2, (third_inj hk hj b2).1 c⟩
  · rintro ⟨⟨a1, b1, b2⟩, a2, c⟩
    obtain ⟨f1, f2⟩ := (first_inj hk hj).2 ⟨a1, a2⟩
    have s := (second_inj h2 hk hj).2 ⟨b1, b2⟩
    have t := (third_inj hk hj b2).2 c
    have : keySq (flAll n) k = keySq (flAll n) j := by
      simp only [keySq]
      rw [f1, s, t, f2]
    rw [this]
end Go.Proofs.YthmjlngdbabdeaaDoor

/- Lists of numbers held against each other, walked. -/
set_option linter.unusedVariables false
set_option linter.unusedSimpArgs false
set_option maxRecDepth 100000
namespace Go.Proofs.YthmjlngdbabdeaaDoor
open Go Go.Ab
/-- clavier/clavierref02.Ints -/
def ir_clavierref02Ints : ICode :=
 (.seq
  (.reg [⟨some 4, none, .mov (.c (.bool false))⟩] (some [0, 1]))
  (.seq
   (.seq
    (.reg [⟨some 6, none, .mov (.t 0)⟩,
      ⟨some 7, none, .len (.t 6)⟩,
      ⟨some 8, none, .mov (.t 1)⟩,
      ⟨some 9, none, .len (.t 8)⟩,
      ⟨some 10, none, .bin .neq .none (.t 7) (.t 9)⟩] (some [0, 1, 10]))
    (.cond (.t 10)
     (.seq
      (.reg [⟨some 4, none, .mov (.c (.bool false))⟩] (some [4]))
      .ret)
     .skip))
   (.seq
    (.seq
     (.reg [⟨some 5, none, .mov (.c (.int .i64 0))⟩] (some [0, 1, 5]))
     (.blk 0
      (.loop
       (.seq
        (.seq
         (.reg [⟨some 11, none, .mov (.t 5)⟩,
           ⟨some 12, none, .mov (.t 0)⟩,
           ⟨some 13, none, .len (.t 12)⟩,
           ⟨some 14, none, .bin .lss .none (.t 11) (.t 13)⟩] (some [0, 1, 5, 14]))
         (.cond (.t 14)
          .skip
          (.exit 0)))
        (.seq
         (.blk 1
          (.seq
           (.drw [⟨⟨some 17, none, .mov (.t 0)⟩, []⟩,
             ⟨⟨some 18, none, .mov (.t 5)⟩, []⟩,
             ⟨⟨some 19, none, .ia 1 (.t 17) (.t 18)⟩, [0, 1]⟩,
             ⟨⟨some 20, none, .ld none (.t 19)⟩, [2]⟩,
             ⟨⟨some 21, none, .mov (.t 1)⟩, []⟩,
             ⟨⟨some 22, none, .mov (.t 5)⟩, []⟩,
             ⟨⟨some 23, none, .ia 1 (.t 21) (.t 22)⟩, [4, 5]⟩,
             ⟨⟨some 24, none, .ld none (.t 23)⟩, [6]⟩,
             ⟨⟨some 25, none, .bin .neq .none (.t 20) (.t 24)⟩, [3, 7]⟩]
             [] (some [0, 1, 5, 25]))
           (.cond (.t 25)
            (.seq
             (.reg [⟨some 4, none, .mov (.c (.bool false))⟩] (some [4]))
             .ret)
            .skip)))
         (.reg [⟨some 15, none, .mov (.t 5)⟩,
           ⟨some 16, none, .bin .add .none (.t 15) (.c (.int .i64 1))⟩,
           ⟨some 5, none, .mov (.t 16)⟩] (some [0, 1, 5])))))))
    (.seq
     (.reg [⟨some 4, none, .mov (.c (.bool true))⟩] (some [4]))
     .ret))))
theorem is_clavierref02Ints : IrOf Tryd.prog 34 26 ir_clavierref02Ints [.t 4] := ⟨_, Tryd.func34, rfl, by kernel_rfl, by kernel_rfl, by kernel_rfl⟩


theorem fs_Ints {Gl : Gh → Prop} (hst : Stays Gl) {a b : List Int} {ta tb : Option Nm} (ha : a.length < 9223372036854775808) (hb : b.length < 9223372036854775808) : FS Tryd.prog Gl 34 [.sl ta 1 (intsAV a), .sl tb 1 (intsAV b)] [] [] (.bool (decide (a = b))) [] [] := by
  refine FS.of hm hst is_clavierref02Ints (by simp) fun γ hγ hfr => ?_
  generalize hQ : (fun (ex : Ex) (_ _ : Nat) (s : St) => _) = Q
  unfold ir_clavierref02Ints
  simp +contextual (maxSteps := 1000000) only [intsAV_length, go_sem, reduceCtorEq, ↓reduceIte, Nat.reduceAdd, Nat.reduceEqDiff, Nat.reduceLeDiff, Nat.reduceMul, Nat.reduceBEq, Int.reduceBEq, Int.reduceBNe, Int.reduceLT, Int.reduceLE, Int.reduceGT, Int.reduceGE, Int.reduceToNat, Int.natCast_one, Int.natCast_zero, Int.cast_ofNat_Int]
  refine kCond_split (fun h => ?_) (fun h => ?_)
  · simp +contextual (maxSteps := 1000000) only [go_sem, reduceCtorEq, ↓reduceIte, Nat.reduceAdd, Nat.reduceEqDiff, Nat.reduceLeDiff, Nat.reduceMul, Nat.reduceBEq, Int.reduceBEq, Int.reduceBNe, Int.reduceLT, Int.reduceLE, Int.reduceGT, Int.reduceGE, Int.reduceToNat, Int.natCast_one, Int.natCast_zero, Int.cast_ofNat_Int]
    rw [← hQ]
    have : decide (a = b) = false := by
      simp only [bne_iff_ne, ne_eq] at h
      rw [decide_eq_false_iff_not]; intro e; subst e; simp at h
    rw [this]
    exact ⟨trivial, Ret.flat rfl rfl⟩
  · have hl : a.length = b.length := by simp at h; omega
    simp +contextual (maxSteps := 1000000) only [intsAV_length, go_sem, reduceCtorEq, ↓reduceIte, Nat.reduceAdd, Nat.reduceEqDiff, Nat.reduceLeDiff, Nat.reduceMul, Nat.reduceBEq, Int.reduceBEq, Int.reduceBNe, Int.reduceLT, Int.reduceLE, Int.reduceGT, Int.reduceGE, Int.reduceToNat, Int.natCast_one, Int.natCast_zero, Int.cast_ofNat_Int]
    refine kLoop_ix (fun i : Nat => ⟨lf [(0, .sl ta 1 (intsAV a)), (1, .sl tb 1 (intsAV b)), (5, .int .i64 i)], [], fun x => x ∈ []⟩) (fun i => i ≤ a.length ∧ a.take i = b.take i) (fun i => a.length - i) 0 0 (Wk.same ?_) ?_ ?_
    · simp only [lfOK, upd, initF]
      repeat' first | exact AVle.refl _ _ | exact trivial | refine And.intro ?_ ?_
    · simp
    · rintro γ' i hf ⟨hi, hinv⟩
      generalize hQ' : kIt _ _ _ _ _ = Q'
      by_cases hlt : i < a.length
      · have hd : decide ((i : Int) < (a.length : Int)) = true := by simp; omega
        have g1 : (intsAV a).getD (i : Int).toNat [] = [.int .i64 a[i]] := by rw [Int.toNat_natCast]; exact intsAV_get hlt
        have g2 : (intsAV b).getD (i : Int).toNat [] = [.int .i64 (b[i]'(by omega))] := by rw [Int.toNat_natCast]; exact intsAV_get (by omega)
        simp +contextual (maxSteps := 1000000) only [intsAV_length, hd, g1, g2, go_sem, reduceCtorEq, ↓reduceIte, Nat.reduceAdd, Nat.reduceEqDiff, Nat.reduceLeDiff, Nat.reduceMul, Nat.reduceBEq, Int.reduceBEq, Int.reduceBNe, Int.reduceLT, Int.reduceLE, Int.reduceGT, Int.reduceGE, Int.reduceToNat, Int.natCast_one, Int.natCast_zero, Int.cast_ofNat_Int]
        refine ⟨by omega, by omega, kCond_split (fun h1 => ?_) (fun h1 => ?_)⟩
        · simp +contextual (maxSteps := 1000000) only [go_sem, reduceCtorEq, ↓reduceIte, Nat.reduceAdd, Nat.reduceEqDiff, Nat.reduceLeDiff, Nat.reduceMul, Nat.reduceBEq, Int.reduceBEq, Int.reduceBNe, Int.reduceLT, Int.reduceLE, Int.reduceGT, Int.reduceGE, Int.reduceToNat, Int.natCast_one, Int.natCast_zero, Int.cast_ofNat_Int]
          rw [← hQ']
          simp only [w_kIt_r, w_kBlk_r, w_kSeq_r]
          have e : decide (a = b) = false := by
            simp only [bne_iff_ne, ne_eq] at h1
            rw [decide_eq_false_iff_not]; intro e; subst e; exact h1 rfl
          rw [← hQ, e]
          exact ⟨trivial, Ret.flat rfl rfl⟩
        · simp +contextual (maxSteps := 1000000) only [go_sem, reduceCtorEq, ↓reduceIte, Nat.reduceAdd, Nat.reduceEqDiff, Nat.reduceLeDiff, Nat.reduceMul, Nat.reduceBEq, Int.reduceBEq, Int.reduceBNe, Int.reduceLT, Int.reduceLE, Int.reduceGT, Int.reduceGE, Int.reduceToNat, Int.natCast_one, Int.natCast_zero, Int.cast_ofNat_Int]
          rw [← hQ']
          simp only [w_kIt_n]
          refine ⟨0, i + 1, Wk.same ?_, ⟨by omega, ?_⟩, by omega⟩
          · repeat' first | exact AVle.refl _ _ | exact trivial | refine And.intro ?_ ?_ | exact AVle.int (by simp only [IntKind.wrap_i64]; omega)
          · have h2 : a[i] = b[i]'(by omega) := by simpa using h1
            rw [List.take_add_one, List.take_add_one, hinv, List.getElem?_eq_getElem hlt, List.getElem?_eq_getElem (show i < b.length by omega), h2]
      · have hd : decide ((i : Int) < (a.length : Int)) = false := by simp; omega
        simp +contextual (maxSteps := 1000000) only [intsAV_length, hd, go_sem, reduceCtorEq, ↓reduceIte, Nat.reduceAdd, Nat.reduceEqDiff, Nat.reduceLeDiff, Nat.reduceMul, Nat.reduceBEq, Int.reduceBEq, Int.reduceBNe, Int.reduceLT, Int.reduceLE, Int.reduceGT, Int.reduceGE, Int.reduceToNat, Int.natCast_one, Int.natCast_zero, Int.cast_ofNat_Int]
        rw [← hQ']
        simp only [w_kIt_e, w_kBlk_e, ↓reduceIte]
        simp +contextual (maxSteps := 1000000) only [go_sem, reduceCtorEq, ↓reduceIte, Nat.reduceAdd, Nat.reduceEqDiff, Nat.reduceLeDiff, Nat.reduceMul, Nat.reduceBEq, Int.reduceBEq, Int.reduceBNe, Int.reduceLT, Int.reduceLE, Int.reduceGT, Int.reduceGE, Int.reduceToNat, Int.natCast_one, Int.natCast_zero, Int.cast_ofNat_Int]
        have e : decide (a = b) = true := by
          rw [decide_eq_true_eq]
          have h1 : i = a.length := by omega
          have h2 : i = b.length := by omega
          have h3 := hinv
          rw [List.take_of_length_le (by omega), List.take_of_length_le (by omega)] at h3
          exact h3
        rw [← hQ, e]
        exact ⟨trivial, Ret.flat rfl rfl⟩
end Go.Proofs.YthmjlngdbabdeaaDoor

/- Two rows of sequences held against each other. -/
set_option linter.unusedVariables false
set_option linter.unusedSimpArgs false
set_option maxRecDepth 100000
namespace Go.Proofs.YthmjlngdbabdeaaDoor
open Go Go.Ab
/- clavier/clavierref03.Same -/
def ir_clavierref03Same_l0 : ICode :=
 (.seq
        (.seq
         (.reg [⟨some 48, none, .mov (.t 5)⟩,
           ⟨some 49, none, .fa 2 (.t 2)⟩,
           ⟨some 50, none, .ld none (.t 49)⟩,
           ⟨some 51, none, .len (.t 50)⟩,
           ⟨some 52, none, .bin .lss .none (.t 48) (.t 51)⟩] (some [2, 3, 5, 52]))
         (.cond (.t 52)
          .skip
          (.exit 0)))
        (.seq
         (.blk 1
          (.seq
           (.drw [⟨⟨some 55, none, .fa 2 (.t 2)⟩, []⟩,
             ⟨⟨some 56, none, .ld none (.t 55)⟩, [0]⟩,
             ⟨⟨some 57, none, .mov (.t 5)⟩, []⟩,
             ⟨⟨some 58, none, .ia 1 (.t 56) (.t 57)⟩, [1, 2]⟩,
             ⟨⟨some 59, none, .ld none (.t 58)⟩, [3]⟩,
             ⟨⟨some 60, none, .fa 2 (.t 3)⟩, []⟩,
             ⟨⟨some 61, none, .ld none (.t 60)⟩, [5]⟩,
             ⟨⟨some 62, none, .mov (.t 5)⟩, []⟩,
             ⟨⟨some 63, none, .ia 1 (.t 61) (.t 62)⟩, [6, 7]⟩,
             ⟨⟨some 64, none, .ld none (.t 63)⟩, [8]⟩,
             ⟨⟨some 65, none, .call (.c (.fn (.func 34) [] [])) [(.t 59), (.t 64)]⟩, [4, 9]⟩,
             ⟨⟨some 66, none, .un .not (.t 65)⟩, [10]⟩]
             [] (some [2, 3, 5, 66]))
           (.cond (.t 66)
            (.seq
             (.reg [⟨some 4, none, .mov (.c (.bool false))⟩] (some [4]))
             .ret)
            .skip)))
         (.reg [⟨some 53, none, .mov (.t 5)⟩,
           ⟨some 54, none, .bin .add .none (.t 53) (.c (.int .i64 1))⟩,
           ⟨some 5, none, .mov (.t 54)⟩] (some [2, 3, 5]))))
def ir_clavierref03Same_t3 : ICode :=
 (.seq
  (.reg [⟨some 4, none, .mov (.c (.bool true))⟩] (some [4]))
  .ret)
def ir_clavierref03Same_t2 : ICode :=
 (.seq
  (.seq
     (.reg [⟨some 5, none, .mov (.c (.int .i64 0))⟩] (some [2, 3, 5]))
     (.blk 0
      (.loop
       ir_clavierref03Same_l0)))
  ir_clavierref03Same_t3)
def ir_clavierref03Same_t1 : ICode :=
 (.seq
  (.seq
    (.reg [⟨some 6, none, .fa 0 (.t 2)⟩,
      ⟨some 7, none, .ld none (.t 6)⟩,
      ⟨some 8, none, .fa 0 (.t 3)⟩,
      ⟨some 9, none, .ld none (.t 8)⟩,
      ⟨some 10, none, .bin .neq .none (.t 7) (.t 9)⟩,
      ⟨some 11, none, .mov (.t 10)⟩,
      ⟨some 12, some (11, false), .fa 1 (.t 2)⟩,
      ⟨some 13, some (11, false), .ld none (.t 12)⟩,
      ⟨some 14, some (11, false), .fa 1 (.t 3)⟩,
      ⟨some 15, some (11, false), .ld none (.t 14)⟩,
      ⟨some 16, some (11, false), .bin .neq .none (.t 13) (.t 15)⟩,
      ⟨some 17, none, .pick (.t 11) (.c (.bool true)) (.t 16)⟩,
      ⟨some 18, none, .mov (.t 17)⟩,
      ⟨some 19, some (18, false), .fa 3 (.t 2)⟩,
      ⟨some 20, some (18, false), .ld none (.t 19)⟩,
      ⟨some 21, some (18, false), .fa 3 (.t 3)⟩,
      ⟨some 22, some (18, false), .ld none (.t 21)⟩,
      ⟨some 23, some (18, false), .bin .neq .none (.t 20) (.t 22)⟩,
      ⟨some 24, none, .pick (.t 18) (.c (.bool true)) (.t 23)⟩,
      ⟨some 25, none, .mov (.t 24)⟩,
      ⟨some 26, some (25, false), .fa 4 (.t 2)⟩,
      ⟨some 27, some (25, false), .ld none (.t 26)⟩,
      ⟨some 28, some (25, false), .fa 4 (.t 3)⟩,
      ⟨some 29, some (25, false), .ld none (.t 28)⟩,
      ⟨some 30, some (25, false), .bin .neq .none (.t 27) (.t 29)⟩,
      ⟨some 31, none, .pick (.t 25) (.c (.bool true)) (.t 30)⟩,
      ⟨some 32, none, .mov (.t 31)⟩,
      ⟨some 33, some (32, false), .fa 5 (.t 2)⟩,
      ⟨some 34, some (32, false), .ld none (.t 33)⟩,
      ⟨some 35, some (32, false), .fa 5 (.t 3)⟩,
      ⟨some 36, some (32, false), .ld none (.t 35)⟩,
      ⟨some 37, some (32, false), .bin .neq .none (.t 34) (.t 36)⟩,
      ⟨some 38, none, .pick (.t 32) (.c (.bool true)) (.t 37)⟩,
      ⟨some 39, none, .mov (.t 38)⟩,
      ⟨some 40, some (39, false), .fa 2 (.t 2)⟩,
      ⟨some 41, some (39, false), .ld none (.t 40)⟩,
      ⟨some 42, some (39, false), .len (.t 41)⟩,
      ⟨some 43, some (39, false), .fa 2 (.t 3)⟩,
      ⟨some 44, some (39, false), .ld none (.t 43)⟩,
      ⟨some 45, some (39, false), .len (.t 44)⟩,
      ⟨some 46, some (39, false), .bin .neq .none (.t 42) (.t 45)⟩,
      ⟨some 47, none, .pick (.t 39) (.c (.bool true)) (.t 46)⟩] (some [2, 3, 47]))
    (.cond (.t 47)
     (.seq
      (.reg [⟨some 4, none, .mov (.c (.bool false))⟩] (some [4]))
      .ret)
     .skip))
  ir_clavierref03Same_t2)
def ir_clavierref03Same : ICode :=
 (.seq
  (.reg [⟨some 2, none, .box 32 (.t 0)⟩,
    ⟨some 3, none, .box 32 (.t 1)⟩,
    ⟨some 4, none, .mov (.c (.bool false))⟩] (some [2, 3]))
  ir_clavierref03Same_t1)
theorem is_clavierref03Same : IrOf Tryd.prog 13 67 ir_clavierref03Same [.t 4] := ⟨_, Tryd.func13, rfl, by kernel_rfl, by kernel_rfl, by kernel_rfl⟩

theorem fs_Same {Gl : Gh → Prop} (hst : Stays Gl) {a b : Sq} (ha : a.ps.length < 9223372036854775808) (hb : b.ps.length < 9223372036854775808) (ha2 : ∀ p ∈ a.ps, p.length < 9223372036854775808) (hb2 : ∀ p ∈ b.ps, p.length < 9223372036854775808) : FS Tryd.prog Gl 13 [.agg a.c, .agg b.c] [] [] (.bool (decide (a = b))) [] [] := by
  obtain ⟨k, pr, ps, it, fi, da⟩ := a
  obtain ⟨k', pr', ps', it', fi', da'⟩ := b
  simp only at ha hb ha2 hb2
  refine FS.of hm hst is_clavierref03Same (by simp) fun γ hγ hfr => ?_
  simp only [Sq.c, parsV] at hfr ⊢
  have cl : AV.closedL [AV.int .i64 k, .int .u8 pr, .sl none 1 (parsAV ps), .str it, .int .u8 fi, .str da] = true := rfl
  have cl' : AV.closedL [AV.int .i64 k', .int .u8 pr', .sl none 1 (parsAV ps'), .str it', .int .u8 fi', .str da'] = true := rfl
  (generalize hQ : (fun (ex : Ex) (_ _ : Nat) (s : St) => _) = Q; unfold ir_clavierref03Same)
  simp +contextual (maxSteps := 1000000) only [parsAV_length, go_sem, reduceCtorEq, ↓reduceIte, Nat.reduceAdd, Nat.reduceEqDiff, Nat.reduceLeDiff, Nat.reduceMul, Nat.reduceBEq, Int.reduceBEq, Int.reduceBNe, Int.reduceLT, Int.reduceLE, Int.reduceGT, Int.reduceGE, Int.reduceToNat, Int.natCast_one, Int.natCast_zero, Int.cast_ofNat_Int]
  unfold ir_clavierref03Same_t1
  simp +contextual (maxSteps := 1000000) only [parsAV_length, go_sem, reduceCtorEq, ↓reduceIte, Nat.reduceAdd, Nat.reduceEqDiff, Nat.reduceLeDiff, Nat.reduceMul, Nat.reduceBEq, Int.reduceBEq, Int.reduceBNe, Int.reduceLT, Int.reduceLE, Int.reduceGT, Int.reduceGE, Int.reduceToNat, Int.natCast_one, Int.natCast_zero, Int.cast_ofNat_Int]
  refine kCond_split (fun h => ?_) (fun h => ?_)
  · simp +contextual (maxSteps := 1000000) only [go_sem, reduceCtorEq, ↓reduceIte, Nat.reduceAdd, Nat.reduceEqDiff, Nat.reduceLeDiff, Nat.reduceMul, Nat.reduceBEq, Int.reduceBEq, Int.reduceBNe, Int.reduceLT, Int.reduceLE, Int.reduceGT, Int.reduceGE, Int.reduceToNat, Int.natCast_one, Int.natCast_zero, Int.cast_ofNat_Int]
    rw [← hQ]
    have e : decide ((⟨k, pr, ps, it, fi, da⟩ : Sq) = ⟨k', pr', ps', it', fi', da'⟩) = false := by
      rw [decide_eq_false_iff_not]; intro e; injection e with e1 e2 e3 e4 e5 e6; subst e1 e2 e3 e4 e5 e6; simp at h
    rw [e]
    exact ⟨trivial, Ret.flat rfl rfl⟩
  · simp +contextual (maxSteps := 1000000) only [go_sem, reduceCtorEq, ↓reduceIte, Nat.reduceAdd, Nat.reduceEqDiff, Nat.reduceLeDiff, Nat.reduceMul, Nat.reduceBEq, Int.reduceBEq, Int.reduceBNe, Int.reduceLT, Int.reduceLE, Int.reduceGT, Int.reduceGE, Int.reduceToNat, Int.natCast_one, Int.natCast_zero, Int.cast_ofNat_Int]
    unfold ir_clavierref03Same_t2
    simp +contextual (maxSteps := 1000000) only [go_sem, reduceCtorEq, ↓reduceIte, Nat.reduceAdd, Nat.reduceEqDiff, Nat.reduceLeDiff, Nat.reduceMul, Nat.reduceBEq, Int.reduceBEq, Int.reduceBNe, Int.reduceLT, Int.reduceLE, Int.reduceGT, Int.reduceGE, Int.reduceToNat, Int.natCast_one, Int.natCast_zero, Int.cast_ofNat_Int]
    refine kLoop_ix (fun i : Nat => ⟨lf [(2, .ptr (γ, 0, 0) 0), (3, .ptr (γ, 1, 0) 0), (5, .int .i64 i)], [((γ, 1, 0), .cells [.int .i64 k', .int .u8 pr', .sl none 1 (parsAV ps'), .str it', .int .u8 fi', .str da']), ((γ, 0, 0), .cells [.int .i64 k, .int .u8 pr, .sl none 1 (parsAV ps), .str it, .int .u8 fi, .str da])], fun x => x ∈ []⟩) (fun i => i ≤ ps.length ∧ ps.take i = ps'.take i) (fun i => ps.length - i) 0 0 (Wk.same ?_) ?_ ?_
    · (simp only [lfOK, upd, initF]; repeat' first | exact AVle.refl _ _ | exact trivial | refine And.intro ?_ ?_ | exact AVle.int (by simp only [IntKind.wrap_i64]; omega))
    · simp
    · rintro γ' i hf ⟨hi, hinv⟩
      generalize hQ' : kIt _ _ _ _ _ = Q'
      unfold ir_clavierref03Same_l0
      by_cases hlt : i < ps.length
      · have hd : decide ((i : Int) < (ps.length : Int)) = true := by simp; omega
        have hlt' : i < ps'.length := by simp at h; omega
        have g1 : (parsAV ps).getD (i : Int).toNat [] = [intsV ps[i]] := by rw [Int.toNat_natCast]; exact parsAV_get hlt
        have g2 : (parsAV ps').getD (i : Int).toNat [] = [intsV ps'[i]] := by rw [Int.toNat_natCast]; exact parsAV_get hlt'
        simp +contextual (maxSteps := 1000000) only [parsAV_length, hd, g1, g2, go_sem, reduceCtorEq, ↓reduceIte, Nat.reduceAdd, Nat.reduceEqDiff, Nat.reduceLeDiff, Nat.reduceMul, Nat.reduceBEq, Int.reduceBEq, Int.reduceBNe, Int.reduceLT, Int.reduceLE, Int.reduceGT, Int.reduceGE, Int.reduceToNat, Int.natCast_one, Int.natCast_zero, Int.cast_ofNat_Int]
        refine ⟨by omega, by omega, DCall.new (fs_Ints hst (ha2 _ (List.getElem_mem hlt)) (hb2 _ (List.getElem_mem hlt'))) ?_⟩
        simp +contextual (maxSteps := 1000000) only [go_sem, reduceCtorEq, ↓reduceIte, Nat.reduceAdd, Nat.reduceEqDiff, Nat.reduceLeDiff, Nat.reduceMul, Nat.reduceBEq, Int.reduceBEq, Int.reduceBNe, Int.reduceLT, Int.reduceLE, Int.reduceGT, Int.reduceGE, Int.reduceToNat, Int.natCast_one, Int.natCast_zero, Int.cast_ofNat_Int]
        refine kCond_split (fun h1 => ?_) (fun h1 => ?_)
        · simp +contextual (maxSteps := 1000000) only [go_sem, reduceCtorEq, ↓reduceIte, Nat.reduceAdd, Nat.reduceEqDiff, Nat.reduceLeDiff, Nat.reduceMul, Nat.reduceBEq, Int.reduceBEq, Int.reduceBNe, Int.reduceLT, Int.reduceLE, Int.reduceGT, Int.reduceGE, Int.reduceToNat, Int.natCast_one, Int.natCast_zero, Int.cast_ofNat_Int]
          rw [← hQ']
          simp only [w_kIt_r, w_kBlk_r, w_kSeq_r]
          have e : decide ((⟨k, pr, ps, it, fi, da⟩ : Sq) = ⟨k', pr', ps', it', fi', da'⟩) = false := by
            rw [decide_eq_false_iff_not]; intro e; injection e with e1 e2 e3 e4 e5 e6; subst e3; simp at h1
          rw [← hQ, e]
          exact ⟨trivial, Ret.flat rfl rfl⟩
        · simp +contextual (maxSteps := 1000000) only [go_sem, reduceCtorEq, ↓reduceIte, Nat.reduceAdd, Nat.reduceEqDiff, Nat.reduceLeDiff, Nat.reduceMul, Nat.reduceBEq, Int.reduceBEq, Int.reduceBNe, Int.reduceLT, Int.reduceLE, Int.reduceGT, Int.reduceGE, Int.reduceToNat, Int.natCast_one, Int.natCast_zero, Int.cast_ofNat_Int]
          rw [← hQ']
          simp only [w_kIt_n]
          have h2 : ps[i] = ps'[i] := by simpa using h1
          refine ⟨0, i + 1, Wk.same ?_, ⟨by omega, ?_⟩, by omega⟩
          · repeat' first | exact AVle.refl _ _ | exact trivial | refine And.intro ?_ ?_ | exact AVle.int (by simp only [IntKind.wrap_i64]; omega)
          · rw [List.take_add_one, List.take_add_one, hinv, List.getElem?_eq_getElem hlt, List.getElem?_eq_getElem hlt', h2]
      · have hd : decide ((i : Int) < (ps.length : Int)) = false := by simp; omega
        simp +contextual (maxSteps := 1000000) only [parsAV_length, hd, go_sem, reduceCtorEq, ↓reduceIte, Nat.reduceAdd, Nat.reduceEqDiff, Nat.reduceLeDiff, Nat.reduceMul, Nat.reduceBEq, Int.reduceBEq, Int.reduceBNe, Int.reduceLT, Int.reduceLE, Int.reduceGT, Int.reduceGE, Int.reduceToNat, Int.natCast_one, Int.natCast_zero, Int.cast_ofNat_Int]
        rw [← hQ']
        simp only [w_kIt_e, w_kBlk_e, ↓reduceIte]
        unfold ir_clavierref03Same_t3
        simp +contextual (maxSteps := 1000000) only [go_sem, reduceCtorEq, ↓reduceIte, Nat.reduceAdd, Nat.reduceEqDiff, Nat.reduceLeDiff, Nat.reduceMul, Nat.reduceBEq, Int.reduceBEq, Int.reduceBNe, Int.reduceLT, Int.reduceLE, Int.reduceGT, Int.reduceGE, Int.reduceToNat, Int.natCast_one, Int.natCast_zero, Int.cast_ofNat_Int]
        have h4 : ps.length = ps'.length := by simp at h; omega
        have h3 := hinv
        rw [List.take_of_length_le (by omega), List.take_of_length_le (by omega)] at h3
        have e : decide ((⟨k, pr, ps, it, fi, da⟩ : Sq) = ⟨k', pr', ps', it', fi', da'⟩) = true := by
          subst h3; simp at h; simp [h]
        rw [← hQ, e]
        exact ⟨trivial, Ret.flat rfl rfl⟩
end Go.Proofs.YthmjlngdbabdeaaDoor

/- The statements of chapter 13: which events are sent alike. -/
set_option linter.unusedVariables false
set_option linter.unusedSimpArgs false
set_option maxRecDepth 100000
namespace Go.Proofs.YthmjlngdbabdeaaDoor
open Go Go.Ab
/-- clavier/clavierlaw13.alternates -/
def ir_clavierlaw13alternates : ICode :=
 (.seq
  (.reg [⟨some 1, none, .box 23 (.t 0)⟩,
    ⟨some 2, none, .mov (.c .nils)⟩] (some [1]))
  (.seq
   (.reg [⟨some 8, none, .fa 0 (.t 1)⟩,
     ⟨some 9, none, .ld none (.t 8)⟩,
     ⟨some 10, none, .call (.c (.fn (.func 35) [] [])) [(.t 9)]⟩,
     ⟨some 7, none, .mov (.t 10)⟩,
     ⟨some 11, none, .ext (.t 7) 0⟩,
     ⟨some 12, none, .ext (.t 7) 1⟩,
     ⟨some 3, none, .mov (.t 11)⟩,
     ⟨some 4, none, .mov (.t 12)⟩] (some [1, 4]))
   (.seq
    (.reg [⟨some 5, none, .mov (.c (.int .i64 0))⟩] (some [1, 4, 5]))
    (.seq
     (.reg [⟨some 6, none, .mov (.c (.int .i64 0))⟩] (some [1, 4, 5, 6]))
     (.seq
      (.seq
       (.reg [⟨some 13, none, .mov (.t 4)⟩,
         ⟨some 14, none, .bin .eql .none (.t 13) (.c (.int .u8 117))⟩,
         ⟨some 15, none, .mov (.t 14)⟩,
         ⟨some 16, some (15, true), .fa 1 (.t 1)⟩,
         ⟨some 17, some (15, true), .ld none (.t 16)⟩,
         ⟨some 18, some (15, true), .call (.c (.fn (.func 36) [] [])) [(.t 17), (.c (.int .i64 1))]⟩,
         ⟨some 19, none, .pick (.t 15) (.t 18) (.c (.bool false))⟩] (some [1, 4, 5, 6, 19]))
       (.cond (.t 19)
        (.reg [⟨some 20, none, .fa 3 (.t 1)⟩,
          ⟨some 21, none, .ld none (.t 20)⟩,
          ⟨some 5, none, .mov (.t 21)⟩] (some [1, 4, 5, 6]))
        .skip))
      (.seq
       (.seq
        (.reg [⟨some 22, none, .mov (.t 4)⟩,
          ⟨some 23, none, .bin .eql .none (.t 22) (.c (.int .u8 117))⟩,
          ⟨some 24, none, .mov (.t 23)⟩,
          ⟨some 25, some (24, true), .fa 4 (.t 1)⟩,
          ⟨some 26, some (24, true), .ld none (.t 25)⟩,
          ⟨some 27, some (24, true), .fa 0 (.t 1)⟩,
          ⟨some 28, some (24, true), .ld none (.t 27)⟩,
          ⟨some 29, some (24, true), .bin .neq .none (.t 26) (.t 28)⟩,
          ⟨some 30, none, .pick (.t 24) (.t 29) (.c (.bool false))⟩] (some [1, 5, 6, 30]))
        (.cond (.t 30)
         (.reg [⟨some 31, none, .fa 4 (.t 1)⟩,
           ⟨some 32, none, .ld none (.t 31)⟩,
           ⟨some 6, none, .mov (.t 32)⟩] (some [5, 6]))
         .skip))
       (.seq
        (.reg [⟨some 33, none, .mov (.t 5)⟩,
          ⟨some 34, none, .mov (.t 6)⟩,
          ⟨some 35, none, .row 3 1 [(.t 33), (.t 34)]⟩,
          ⟨some 36, none, .row 64 1 [(.t 35)]⟩,
          ⟨some 2, none, .mov (.t 36)⟩] (some [2]))
        .ret)))))))
theorem is_clavierlaw13alternates : IrOf Tryd.prog 14 37 ir_clavierlaw13alternates [.t 2] := ⟨_, Tryd.func14, rfl, by kernel_rfl, by kernel_rfl, by kernel_rfl⟩

/-- clavier/clavierlaw13.KittyApart -/
def ir_clavierlaw13KittyApart : ICode :=
 (.seq
  (.reg [⟨some 4, none, .box 23 (.t 1)⟩,
    ⟨some 5, none, .box 23 (.t 2)⟩,
    ⟨some 6, none, .mov (.c (.bool false))⟩] (some [0, 4, 5]))
  (.seq
   (.reg [⟨some 12, none, .call (.c (.fn (.func 10) [] [])) []⟩,
     ⟨some 7, none, .mov (.t 12)⟩] (some [0, 4, 5, 7]))
   (.seq
    (.seq
     (.reg [⟨some 13, none, .ld (some 6) (.t 4)⟩,
       ⟨some 14, none, .call (.c (.fn (.func 11) [] [])) [(.t 13)]⟩,
       ⟨some 15, none, .un .not (.t 14)⟩,
       ⟨some 16, none, .mov (.t 15)⟩,
       ⟨some 17, some (16, false), .ld (some 6) (.t 5)⟩,
       ⟨some 18, some (16, false), .call (.c (.fn (.func 11) [] [])) [(.t 17)]⟩,
       ⟨some 19, some (16, false), .un .not (.t 18)⟩,
       ⟨some 20, none, .pick (.t 16) (.c (.bool true)) (.t 19)⟩] (some [0, 4, 5, 7, 20]))
     (.cond (.t 20)
      (.seq
       (.reg [⟨some 21, none, .mov (.t 7)⟩,
         ⟨some 6, none, .mov (.t 21)⟩] (some [6]))
       .ret)
      .skip))
    (.seq
     (.reg [⟨some 22, none, .mov (.t 0)⟩,
       ⟨some 23, none, .bin .rem .none (.t 22) (.c (.int .u8 32))⟩,
       ⟨some 24, none, .cvi .i64 (.t 23)⟩,
       ⟨some 25, none, .bin .or .none (.t 24) (.c (.int .i64 11))⟩,
       ⟨some 8, none, .mov (.t 25)⟩] (some [4, 5, 7, 8]))
     (.seq
      (.reg [⟨some 26, none, .mov (.t 8)⟩,
        ⟨some 27, none, .ld (some 6) (.t 4)⟩,
        ⟨some 28, none, .call (.c (.fn (.func 12) [] [])) [(.t 26), (.t 27)]⟩,
        ⟨some 9, none, .mov (.t 28)⟩] (some [4, 5, 7, 8, 9]))
      (.seq
       (.reg [⟨some 29, none, .mov (.t 8)⟩,
         ⟨some 30, none, .ld (some 6) (.t 5)⟩,
         ⟨some 31, none, .call (.c (.fn (.func 12) [] [])) [(.t 29), (.t 30)]⟩,
         ⟨some 10, none, .mov (.t 31)⟩] (some [4, 5, 7, 8, 9, 10]))
       (.seq
        (.reg [⟨some 32, none, .fa 0 (.t 4)⟩,
          ⟨some 33, none, .ld none (.t 32)⟩,
          ⟨some 34, none, .fa 0 (.t 5)⟩,
          ⟨some 35, none, .ld none (.t 34)⟩,
          ⟨some 36, none, .bin .eql .none (.t 33) (.t 35)⟩,
          ⟨some 37, none, .mov (.t 36)⟩,
          ⟨some 38, some (37, true), .fa 1 (.t 4)⟩,
          ⟨some 39, some (37, true), .ld none (.t 38)⟩,
          ⟨some 40, some (37, true), .fa 1 (.t 5)⟩,
          ⟨some 41, some (37, true), .ld none (.t 40)⟩,
          ⟨some 42, some (37, true), .bin .eql .none (.t 39) (.t 41)⟩,
          ⟨some 43, none, .pick (.t 37) (.t 42) (.c (.bool false))⟩,
          ⟨some 44, none, .mov (.t 43)⟩,
          ⟨some 45, some (44, true), .fa 2 (.t 4)⟩,
          ⟨some 46, some (44, true), .ld none (.t 45)⟩,
          ⟨some 47, some (44, true), .fa 2 (.t 5)⟩,
          ⟨some 48, some (44, true), .ld none (.t 47)⟩,
          ⟨some 49, some (44, true), .bin .eql .none (.t 46) (.t 48)⟩,
          ⟨some 50, none, .pick (.t 44) (.t 49) (.c (.bool false))⟩,
          ⟨some 11, none, .mov (.t 50)⟩] (some [4, 5, 7, 8, 9, 10, 11]))
        (.seq
         (.seq
          (.reg [⟨some 51, none, .mov (.t 8)⟩,
            ⟨some 52, none, .bin .quo .none (.t 51) (.c (.int .i64 4))⟩,
            ⟨some 53, none, .bin .rem .none (.t 52) (.c (.int .i64 2))⟩,
            ⟨some 54, none, .bin .eql .none (.t 53) (.c (.int .i64 1))⟩] (some [4, 5, 7, 8, 9, 10, 11, 54]))
          (.cond (.t 54)
           (.drw [⟨⟨some 55, none, .mov (.t 11)⟩, []⟩,
             ⟨⟨some 56, none, .mov (.t 55)⟩, [0]⟩,
             ⟨⟨some 57, some (56, true), .ld (some 6) (.t 4)⟩, [1]⟩,
             ⟨⟨some 58, some (56, true), .call (.c (.fn (.func 14) [] [])) [(.t 57)]⟩, [2, 1, 1]⟩,
             ⟨⟨some 59, some (56, true), .bld [(.int .i64 0), (.int .u8 0), .nils, (.str []), (.int .u8 0), (.str [])] [(2, 1, (.t 58))]⟩, [3, 1]⟩,
             ⟨⟨some 60, some (56, true), .ld (some 6) (.t 5)⟩, [1]⟩,
             ⟨⟨some 61, some (56, true), .call (.c (.fn (.func 14) [] [])) [(.t 60)]⟩, [5, 3, 1]⟩,
             ⟨⟨some 62, some (56, true), .bld [(.int .i64 0), (.int .u8 0), .nils, (.str []), (.int .u8 0), (.str [])] [(2, 1, (.t 61))]⟩, [6, 1]⟩,
             ⟨⟨some 63, some (56, true), .call (.c (.fn (.func 13) [] [])) [(.t 59), (.t 62)]⟩, [4, 7, 6, 1]⟩,
             ⟨⟨some 64, none, .pick (.t 56) (.t 63) (.c (.bool false))⟩, [1, 8]⟩]
             [⟨some 11, none, .mov (.t 64)⟩] (some [4, 5, 7, 8, 9, 10, 11]))
           .skip))
         (.seq
          (.seq
           (.reg [⟨some 65, none, .mov (.t 8)⟩,
             ⟨some 66, none, .bin .quo .none (.t 65) (.c (.int .i64 16))⟩,
             ⟨some 67, none, .bin .rem .none (.t 66) (.c (.int .i64 2))⟩,
             ⟨some 68, none, .bin .eql .none (.t 67) (.c (.int .i64 1))⟩,
             ⟨some 69, none, .mov (.t 68)⟩,
             ⟨some 70, some (69, true), .fa 2 (.t 4)⟩,
             ⟨some 71, some (69, true), .ld none (.t 70)⟩,
             ⟨some 72, some (69, true), .bin .neq .none (.t 71) (.c (.int .i64 3))⟩,
             ⟨some 73, none, .pick (.t 69) (.t 72) (.c (.bool false))⟩] (some [4, 5, 7, 9, 10, 11, 73]))
           (.cond (.t 73)
            (.reg [⟨some 74, none, .mov (.t 11)⟩,
              ⟨some 75, none, .mov (.t 74)⟩,
              ⟨some 76, some (75, true), .fa 5 (.t 4)⟩,
              ⟨some 77, some (75, true), .ld none (.t 76)⟩,
              ⟨some 78, some (75, true), .fa 5 (.t 5)⟩,
              ⟨some 79, some (75, true), .ld none (.t 78)⟩,
              ⟨some 80, some (75, true), .bin .eql .none (.t 77) (.t 79)⟩,
              ⟨some 81, none, .pick (.t 75) (.t 80) (.c (.bool false))⟩,
              ⟨some 11, none, .mov (.t 81)⟩] (some [7, 9, 10, 11]))
            .skip))
          (.seq
           (.reg [⟨some 82, none, .mov (.t 7)⟩,
             ⟨some 83, none, .mov (.t 82)⟩,
             ⟨some 84, some (83, true), .mov (.t 9)⟩,
             ⟨some 85, some (83, true), .b2s (.t 84)⟩,
             ⟨some 86, some (83, true), .mov (.t 10)⟩,
             ⟨some 87, some (83, true), .b2s (.t 86)⟩,
             ⟨some 88, some (83, true), .bin .eql .none (.t 85) (.t 87)⟩,
             ⟨some 89, some (83, true), .mov (.t 11)⟩,
             ⟨some 90, some (83, true), .bin .eql .bool (.t 88) (.t 89)⟩,
             ⟨some 91, none, .pick (.t 83) (.t 90) (.c (.bool false))⟩,
             ⟨some 6, none, .mov (.t 91)⟩] (some [6]))
           .ret))))))))))
theorem is_clavierlaw13KittyApart : IrOf Tryd.prog 3 92 ir_clavierlaw13KittyApart [.t 6] := ⟨_, Tryd.func3, rfl, by kernel_rfl, by kernel_rfl, by kernel_rfl⟩


theorem fs_alternates {Gl : Gh → Prop} (hst : Stays Gl) {k : Ky} (hm1 : k.mods ≤ 255) : FS Tryd.prog Gl 14 [.agg (kyAV k)] [] [] (.sl none 1 (parsAV [altK k])) [] [] := by
  refine FS.ofW hm hst is_clavierlaw13alternates rfl (by simp) fun γ hγ hfr => ?_
  have hky : kyAV k = [.int .i64 k.code, .int .i64 k.mods, .int .i64 k.type, .int .i64 k.shifted, .int .i64 k.base, .str k.text] := rfl
  have c1 := fs_rForm (Gl := Gl) hst (c := k.code)
  have c2 := fs_Has (Gl := Gl) hst (m := k.mods) (one := 1) (by omega) (by omega)
  have ha : altK k = [if (formK k.code).2 = 117 ∧ hasK k.mods 1 = true then k.shifted else 0, if (formK k.code).2 = 117 ∧ k.base ≠ k.code then k.base else 0] := rfl
  have u : (((formK k.code).2.toNat : Int) == 117) = decide ((formK k.code).2 = 117) := by
    rw [Bool.eq_iff_iff, beq_iff_eq, decide_eq_true_eq]
    constructor
    · intro h
      exact UInt8.toNat_inj.1 (by have : (117 : UInt8).toNat = 117 := rfl; omega)
    · intro h; rw [h]; rfl
  have fin : ∀ {t : Option Nm} {x y : Int}, x = (if (formK k.code).2 = 117 ∧ hasK k.mods 1 = true then k.shifted else 0) → y = (if (formK k.code).2 = 117 ∧ k.base ≠ k.code then k.base else 0) → RepLe (.sl t 1 [[.sl none 1 [[.int .i64 x], [.int .i64 y]]]]) (.sl none 1 (parsAV [altK k])) := by
    intro t x y hx hy
    refine RepLe.anon' ?_
    rw [ha, ← hx, ← hy]; rfl
  (generalize hQ : (fun (ex : Ex) (_ _ : Nat) (s : St) => _) = Q; unfold ir_clavierlaw13alternates)
  simp +contextual (maxSteps := 1000000) only [hky, go_sem, reduceCtorEq, ↓reduceIte, Nat.reduceAdd, Nat.reduceEqDiff, Nat.reduceLeDiff, Nat.reduceMul, Nat.reduceBEq, Int.reduceBEq, Int.reduceBNe, Int.reduceLT, Int.reduceLE, Int.reduceGT, Int.reduceGE, Int.reduceToNat, Int.natCast_one, Int.natCast_zero, Int.cast_ofNat_Int]
  (refine CallP.pure (c1) (fun _ => rfl) ?_; simp +contextual (maxSteps := 1000000) only [go_sem, reduceCtorEq, ↓reduceIte, Nat.reduceAdd, Nat.reduceEqDiff, Nat.reduceLeDiff, Nat.reduceMul, Nat.reduceBEq, Int.reduceBEq, Int.reduceBNe, Int.reduceLT, Int.reduceLE, Int.reduceGT, Int.reduceGE, Int.reduceToNat, Int.natCast_one, Int.natCast_zero, Int.cast_ofNat_Int])
  by_cases hu : (formK k.code).2 = 117
  · have q1 : (((formK k.code).2.toNat : Int) == 117) = true := by rw [u]; exact decide_eq_true hu
    simp +contextual (maxSteps := 1000000) only [q1, go_sem, reduceCtorEq, ↓reduceIte, Nat.reduceAdd, Nat.reduceEqDiff, Nat.reduceLeDiff, Nat.reduceMul, Nat.reduceBEq, Int.reduceBEq, Int.reduceBNe, Int.reduceLT, Int.reduceLE, Int.reduceGT, Int.reduceGE, Int.reduceToNat, Int.natCast_one, Int.natCast_zero, Int.cast_ofNat_Int]
    (refine CallP.pure (c2) (fun _ => rfl) ?_; simp +contextual (maxSteps := 1000000) only [q1, go_sem, reduceCtorEq, ↓reduceIte, Nat.reduceAdd, Nat.reduceEqDiff, Nat.reduceLeDiff, Nat.reduceMul, Nat.reduceBEq, Int.reduceBEq, Int.reduceBNe, Int.reduceLT, Int.reduceLE, Int.reduceGT, Int.reduceGE, Int.reduceToNat, Int.natCast_one, Int.natCast_zero, Int.cast_ofNat_Int])
    by_cases hb : k.base = k.code
    · have q2 : (k.base != k.code) = false := by rw [bne_eq_false_iff_eq]; exact hb
      cases hh : hasK k.mods 1 with
      | true =>
        simp +contextual (maxSteps := 1000000) only [q1, q2, hh, go_sem, reduceCtorEq, ↓reduceIte, Nat.reduceAdd, Nat.reduceEqDiff, Nat.reduceLeDiff, Nat.reduceMul, Nat.reduceBEq, Int.reduceBEq, Int.reduceBNe, Int.reduceLT, Int.reduceLE, Int.reduceGT, Int.reduceGE, Int.reduceToNat, Int.natCast_one, Int.natCast_zero, Int.cast_ofNat_Int]
        rw [← hQ]
        exact ⟨trivial, .inl ⟨_, rfl, fin (by simp [hu, hh]) (by simp [hb])⟩⟩
      | false =>
        simp +contextual (maxSteps := 1000000) only [q1, q2, hh, go_sem, reduceCtorEq, ↓reduceIte, Nat.reduceAdd, Nat.reduceEqDiff, Nat.reduceLeDiff, Nat.reduceMul, Nat.reduceBEq, Int.reduceBEq, Int.reduceBNe, Int.reduceLT, Int.reduceLE, Int.reduceGT, Int.reduceGE, Int.reduceToNat, Int.natCast_one, Int.natCast_zero, Int.cast_ofNat_Int]
        rw [← hQ]
        exact ⟨trivial, .inl ⟨_, rfl, fin (by simp [hu, hh]) (by simp [hb])⟩⟩
    · have q2 : (k.base != k.code) = true := by rw [bne_iff_ne]; exact hb
      cases hh : hasK k.mods 1 with
      | true =>
        simp +contextual (maxSteps := 1000000) only [q1, q2, hh, go_sem, reduceCtorEq, ↓reduceIte, Nat.reduceAdd, Nat.reduceEqDiff, Nat.reduceLeDiff, Nat.reduceMul, Nat.reduceBEq, Int.reduceBEq, Int.reduceBNe, Int.reduceLT, Int.reduceLE, Int.reduceGT, Int.reduceGE, Int.reduceToNat, Int.natCast_one, Int.natCast_zero, Int.cast_ofNat_Int]
        rw [← hQ]
        exact ⟨trivial, .inl ⟨_, rfl, fin (by simp [hu, hh]) (by simp [hb, hu])⟩⟩
      | false =>
        simp +contextual (maxSteps := 1000000) only [q1, q2, hh, go_sem, reduceCtorEq, ↓reduceIte, Nat.reduceAdd, Nat.reduceEqDiff, Nat.reduceLeDiff, Nat.reduceMul, Nat.reduceBEq, Int.reduceBEq, Int.reduceBNe, Int.reduceLT, Int.reduceLE, Int.reduceGT, Int.reduceGE, Int.reduceToNat, Int.natCast_one, Int.natCast_zero, Int.cast_ofNat_Int]
        rw [← hQ]
        exact ⟨trivial, .inl ⟨_, rfl, fin (by simp [hu, hh]) (by simp [hb, hu])⟩⟩
  · have q1 : (((formK k.code).2.toNat : Int) == 117) = false := by rw [u]; exact decide_eq_false hu
    simp +contextual (maxSteps := 1000000) only [q1, go_sem, reduceCtorEq, ↓reduceIte, Nat.reduceAdd, Nat.reduceEqDiff, Nat.reduceLeDiff, Nat.reduceMul, Nat.reduceBEq, Int.reduceBEq, Int.reduceBNe, Int.reduceLT, Int.reduceLE, Int.reduceGT, Int.reduceGE, Int.reduceToNat, Int.natCast_one, Int.natCast_zero, Int.cast_ofNat_Int]
    rw [← hQ]
    exact ⟨trivial, .inl ⟨_, rfl, fin (by simp [hu]) (by simp [hu])⟩⟩
theorem fl_div : ∀ n : Fin 32, (((IntKind.i64.wrap (((n.val ||| 11 : Nat) : Int).tdiv 4)).tmod 2) == 1) = hasK ((n.val ||| 11 : Nat) : Int) 4 ∧ (((IntKind.i64.wrap (((n.val ||| 11 : Nat) : Int).tdiv 16)).tmod 2) == 1) = hasK ((n.val ||| 11 : Nat) : Int) 16 := by decide +kernel
set_option maxHeartbeats 8000000 in
theorem fs_KittyApart {Gl : Gh → Prop} (hst : Stays Gl) {fl : UInt8} {k j : Ky} (_ : True) (ht : k.text.length ≤ 1000000000000) (ht' : j.text.length ≤ 1000000000000) : FS Tryd.prog Gl 3 [.int .u8 (fl.toNat : Int), .agg (kyAV k), .agg (kyAV j)] [] [] (.bool true) [] [] := by
  refine FS.of hm hst is_clavierlaw13KittyApart (by simp) fun γ hγ hfr => ?_
  have c1 := fs_rMayK (Gl := Gl) hst ht
  have c2 := fs_rMayK (Gl := Gl) hst ht'
  have hky : ∀ k, kyAV k = [.int .i64 k.code, .int .i64 k.mods, .int .i64 k.type, .int .i64 k.shifted, .int .i64 k.base, .str k.text] := fun _ => rfl
  rw [hky] at c1 c2
  (generalize hQ : (fun (ex : Ex) (_ _ : Nat) (s : St) => _) = Q; unfold ir_clavierlaw13KittyApart)
  simp +contextual (maxSteps := 1000000) only [hky, go_sem, reduceCtorEq, ↓reduceIte, Nat.reduceAdd, Nat.reduceEqDiff, Nat.reduceLeDiff, Nat.reduceMul, Nat.reduceBEq, Int.reduceBEq, Int.reduceBNe, Int.reduceLT, Int.reduceLE, Int.reduceGT, Int.reduceGE, Int.reduceToNat, Int.natCast_one, Int.natCast_zero, Int.cast_ofNat_Int]
  (refine CallP.pure (fs_awake hst) (fun _ => rfl) ?_; simp +contextual (maxSteps := 1000000) only [go_sem, reduceCtorEq, ↓reduceIte, Nat.reduceAdd, Nat.reduceEqDiff, Nat.reduceLeDiff, Nat.reduceMul, Nat.reduceBEq, Int.reduceBEq, Int.reduceBNe, Int.reduceLT, Int.reduceLE, Int.reduceGT, Int.reduceGE, Int.reduceToNat, Int.natCast_one, Int.natCast_zero, Int.cast_ofNat_Int])
  (refine CallP.pure (c1) (fun _ => rfl) ?_; simp +contextual (maxSteps := 1000000) only [go_sem, reduceCtorEq, ↓reduceIte, Nat.reduceAdd, Nat.reduceEqDiff, Nat.reduceLeDiff, Nat.reduceMul, Nat.reduceBEq, Int.reduceBEq, Int.reduceBNe, Int.reduceLT, Int.reduceLE, Int.reduceGT, Int.reduceGE, Int.reduceToNat, Int.natCast_one, Int.natCast_zero, Int.cast_ofNat_Int])
  cases hmk : mayK k with
  | false =>
    simp +contextual (maxSteps := 1000000) only [hmk, go_sem, reduceCtorEq, ↓reduceIte, Nat.reduceAdd, Nat.reduceEqDiff, Nat.reduceLeDiff, Nat.reduceMul, Nat.reduceBEq, Int.reduceBEq, Int.reduceBNe, Int.reduceLT, Int.reduceLE, Int.reduceGT, Int.reduceGE, Int.reduceToNat, Int.natCast_one, Int.natCast_zero, Int.cast_ofNat_Int]
    rw [← hQ]
    exact ⟨trivial, Ret.flat rfl rfl⟩
  | true =>
    simp +contextual (maxSteps := 1000000) only [hmk, go_sem, reduceCtorEq, ↓reduceIte, Nat.reduceAdd, Nat.reduceEqDiff, Nat.reduceLeDiff, Nat.reduceMul, Nat.reduceBEq, Int.reduceBEq, Int.reduceBNe, Int.reduceLT, Int.reduceLE, Int.reduceGT, Int.reduceGE, Int.reduceToNat, Int.natCast_one, Int.natCast_zero, Int.cast_ofNat_Int]
    (refine CallP.pure (c2) (fun _ => rfl) ?_; simp +contextual (maxSteps := 1000000) only [go_sem, reduceCtorEq, ↓reduceIte, Nat.reduceAdd, Nat.reduceEqDiff, Nat.reduceLeDiff, Nat.reduceMul, Nat.reduceBEq, Int.reduceBEq, Int.reduceBNe, Int.reduceLT, Int.reduceLE, Int.reduceGT, Int.reduceGE, Int.reduceToNat, Int.natCast_one, Int.natCast_zero, Int.cast_ofNat_Int])
    cases hmj : mayK j with
    | false =>
      simp +contextual (maxSteps := 1000000) only [hmj, go_sem, reduceCtorEq, ↓reduceIte, Nat.reduceAdd, Nat.reduceEqDiff, Nat.reduceLeDiff, Nat.reduceMul, Nat.reduceBEq, Int.reduceBEq, Int.reduceBNe, Int.reduceLT, Int.reduceLE, Int.reduceGT, Int.reduceGE, Int.reduceToNat, Int.natCast_one, Int.natCast_zero, Int.cast_ofNat_Int]
      rw [← hQ]
      exact ⟨trivial, Ret.flat rfl rfl⟩
    | true =>
      have M := mayK_iff.1 hmk
      have N := mayK_iff.1 hmj
      obtain ⟨o1, _, _, o2⟩ := flAll_spec fl.toNat
      obtain ⟨v4, v16⟩ := fl_div ⟨fl.toNat % 32, Nat.mod_lt _ (by omega)⟩
      have v4 : (((IntKind.i64.wrap ((flAll fl.toNat).tdiv 4)).tmod 2) == 1) = hasK (flAll fl.toNat) 4 := v4
      have v16 : (((IntKind.i64.wrap ((flAll fl.toNat).tdiv 16)).tmod 2) == 1) = hasK (flAll fl.toNat) 16 := v16
      have hfl' : IntKind.i64.wrap ((fl.toNat : Int).tmod 32) = ((fl.toNat % 32 : Nat) : Int) := by
        rw [Int.tmod_eq_emod_of_nonneg (by omega), IntKind.wrap_i64]
        omega
      have d1 := fs_Key (Gl := Gl) hst (k := k) (fl := flAll fl.toNat) (by omega) ht
      have d2 := fs_Key (Gl := Gl) hst (k := j) (fl := flAll fl.toNat) (by omega) ht'
      have e1 := fs_alternates (Gl := Gl) hst (k := k) M.m1
      have e2 := fs_alternates (Gl := Gl) hst (k := j) N.m1
      have e3 : FS Tryd.prog Gl 13 [.agg [.int .i64 0, .int .u8 0, .sl none 1 (parsAV [altK k]), .str [], .int .u8 0, .str []], .agg [.int .i64 0, .int .u8 0, .sl none 1 (parsAV [altK j]), .str [], .int .u8 0, .str []]] [] [] (.bool (decide (altK k = altK j))) [] [] := by
        have := fs_Same (Gl := Gl) hst (a := ⟨0, 0, [altK k], [], 0, []⟩) (b := ⟨0, 0, [altK j], [], 0, []⟩) (by simp) (by simp) (by simp [altK]) (by simp [altK])
        have h : decide ((⟨0, 0, [altK k], [], 0, []⟩ : Sq) = ⟨0, 0, [altK j], [], 0, []⟩) = decide (altK k = altK j) := by
          rw [decide_eq_decide]; simp
        rw [h] at this
        exact this
      have hD : decide (keyK (flAll fl.toNat) k = keyK (flAll fl.toNat) j) = ((((k.code == j.code) && (k.mods == j.mods)) && (k.type == j.type)) && (!hasK (flAll fl.toNat) 4 || decide (altK k = altK j)) && (!(hasK (flAll fl.toNat) 16 && (k.type != 3)) || decide (k.text = j.text))) := by
        rw [Bool.eq_iff_iff, decide_eq_true_eq, apart M N]
        simp only [Bool.and_eq_true, beq_iff_eq, Bool.or_eq_true, Bool.not_eq_true', decide_eq_true_eq, Bool.and_eq_false_iff, bne_eq_false_iff_eq, bne_iff_ne]
        constructor
        · rintro ⟨⟨a, b, c⟩, d, e⟩
          refine ⟨⟨⟨⟨a, b⟩, c⟩, ?_⟩, ?_⟩
          · cases h : hasK (flAll fl.toNat) 4 with
            | false => exact .inl rfl
            | true => exact .inr (d h)
          · by_cases h : hasK (flAll fl.toNat) 16 = true ∧ k.type ≠ 3
            · exact .inr (e h)
            · refine .inl ?_
              cases h1 : hasK (flAll fl.toNat) 16 with
              | false => exact .inl rfl
              | true => exact .inr (Classical.byContradiction fun h2 => h ⟨h1, h2⟩)
        · rintro ⟨⟨⟨⟨a, b⟩, c⟩, d⟩, e⟩
          refine ⟨⟨a, b, c⟩, fun h => d.resolve_left (by rw [h]; simp), fun h => e.resolve_left ?_⟩
          rintro (h1 | h1)
          · rw [h.1] at h1; cases h1
          · exact h.2 h1
      rw [hky] at d1 d2 e1 e2
      generalize keyK (flAll fl.toNat) k = bs at *
      generalize keyK (flAll fl.toNat) j = cs at *
      generalize hasK (flAll fl.toNat) 4 = b4 at *
      generalize hasK (flAll fl.toNat) 16 = b16 at *
      simp +contextual (maxSteps := 1000000) only [hmj, hfl', o1, go_sem, reduceCtorEq, ↓reduceIte, Nat.reduceAdd, Nat.reduceEqDiff, Nat.reduceLeDiff, Nat.reduceMul, Nat.reduceBEq, Int.reduceBEq, Int.reduceBNe, Int.reduceLT, Int.reduceLE, Int.reduceGT, Int.reduceGE, Int.reduceToNat, Int.natCast_one, Int.natCast_zero, Int.cast_ofNat_Int]
      refine ⟨by omega, ?_⟩
      (refine CallP.pure (d1) (fun _ => rfl) ?_; simp +contextual (maxSteps := 1000000) only [go_sem, reduceCtorEq, ↓reduceIte, Nat.reduceAdd, Nat.reduceEqDiff, Nat.reduceLeDiff, Nat.reduceMul, Nat.reduceBEq, Int.reduceBEq, Int.reduceBNe, Int.reduceLT, Int.reduceLE, Int.reduceGT, Int.reduceGE, Int.reduceToNat, Int.natCast_one, Int.natCast_zero, Int.cast_ofNat_Int])
      (refine CallP.pure (d2) (fun _ => rfl) ?_; simp +contextual (maxSteps := 1000000) only [v4, go_sem, reduceCtorEq, ↓reduceIte, Nat.reduceAdd, Nat.reduceEqDiff, Nat.reduceLeDiff, Nat.reduceMul, Nat.reduceBEq, Int.reduceBEq, Int.reduceBNe, Int.reduceLT, Int.reduceLE, Int.reduceGT, Int.reduceGE, Int.reduceToNat, Int.natCast_one, Int.natCast_zero, Int.cast_ofNat_Int])
      generalize hs : (((k.code == j.code) && (k.mods == j.mods)) && (k.type == j.type)) = b at *
      refine ⟨by omega, by omega, ?_⟩
      cases b with
      | false =>
        have hD0 : decide (bs = cs) = false := by rw [hD]; simp
        cases b4 <;> cases b16 <;> cases q3 : (k.type != 3)
        all_goals simp +contextual (maxSteps := 1000000) only [q3, v16, go_sem, reduceCtorEq, ↓reduceIte, Nat.reduceAdd, Nat.reduceEqDiff, Nat.reduceLeDiff, Nat.reduceMul, Nat.reduceBEq, Int.reduceBEq, Int.reduceBNe, Int.reduceLT, Int.reduceLE, Int.reduceGT, Int.reduceGE, Int.reduceToNat, Int.natCast_one, Int.natCast_zero, Int.cast_ofNat_Int]
        all_goals refine ⟨by omega, by omega, ?_⟩
        all_goals simp +contextual (maxSteps := 1000000) only [q3, hD0, bb_un, bb_is, go_sem, reduceCtorEq, ↓reduceIte, Nat.reduceAdd, Nat.reduceEqDiff, Nat.reduceLeDiff, Nat.reduceMul, Nat.reduceBEq, Int.reduceBEq, Int.reduceBNe, Int.reduceLT, Int.reduceLE, Int.reduceGT, Int.reduceGE, Int.reduceToNat, Int.natCast_one, Int.natCast_zero, Int.cast_ofNat_Int]
        all_goals
          rw [← hQ]
          exact ⟨trivial, Ret.flat rfl rfl⟩
      | true =>
        cases b4 with
        | false =>
          simp only [Bool.not_false, Bool.true_or, Bool.true_and, Bool.and_true] at hD
          cases b16 <;> cases q3 : (k.type != 3) <;> simp only [q3, Bool.not_true, Bool.not_false, Bool.true_or, Bool.false_or, Bool.and_true, Bool.true_and, Bool.and_false, Bool.false_and] at hD
          all_goals simp +contextual (maxSteps := 1000000) only [q3, v16, go_sem, reduceCtorEq, ↓reduceIte, Nat.reduceAdd, Nat.reduceEqDiff, Nat.reduceLeDiff, Nat.reduceMul, Nat.reduceBEq, Int.reduceBEq, Int.reduceBNe, Int.reduceLT, Int.reduceLE, Int.reduceGT, Int.reduceGE, Int.reduceToNat, Int.natCast_one, Int.natCast_zero, Int.cast_ofNat_Int]
          all_goals refine ⟨by omega, by omega, ?_⟩
          all_goals simp +contextual (maxSteps := 1000000) only [q3, hD, bb_un, bb_is, go_sem, reduceCtorEq, ↓reduceIte, Nat.reduceAdd, Nat.reduceEqDiff, Nat.reduceLeDiff, Nat.reduceMul, Nat.reduceBEq, Int.reduceBEq, Int.reduceBNe, Int.reduceLT, Int.reduceLE, Int.reduceGT, Int.reduceGE, Int.reduceToNat, Int.natCast_one, Int.natCast_zero, Int.cast_ofNat_Int]
          all_goals
            rw [← hQ]
            exact ⟨trivial, Ret.flat rfl rfl⟩
        | true =>
          simp only [Bool.not_true, Bool.false_or, Bool.true_and] at hD
          simp +contextual (maxSteps := 1000000) only [go_sem, reduceCtorEq, ↓reduceIte, Nat.reduceAdd, Nat.reduceEqDiff, Nat.reduceLeDiff, Nat.reduceMul, Nat.reduceBEq, Int.reduceBEq, Int.reduceBNe, Int.reduceLT, Int.reduceLE, Int.reduceGT, Int.reduceGE, Int.reduceToNat, Int.natCast_one, Int.natCast_zero, Int.cast_ofNat_Int]
          refine DCall.new e1 ?_
          simp +contextual (maxSteps := 1000000) only [go_sem, reduceCtorEq, ↓reduceIte, Nat.reduceAdd, Nat.reduceEqDiff, Nat.reduceLeDiff, Nat.reduceMul, Nat.reduceBEq, Int.reduceBEq, Int.reduceBNe, Int.reduceLT, Int.reduceLE, Int.reduceGT, Int.reduceGE, Int.reduceToNat, Int.natCast_one, Int.natCast_zero, Int.cast_ofNat_Int]
          refine DCall.new e2 ?_
          simp +contextual (maxSteps := 1000000) only [go_sem, reduceCtorEq, ↓reduceIte, Nat.reduceAdd, Nat.reduceEqDiff, Nat.reduceLeDiff, Nat.reduceMul, Nat.reduceBEq, Int.reduceBEq, Int.reduceBNe, Int.reduceLT, Int.reduceLE, Int.reduceGT, Int.reduceGE, Int.reduceToNat, Int.natCast_one, Int.natCast_zero, Int.cast_ofNat_Int]
          refine DCall.new e3 ?_
          simp +contextual (maxSteps := 1000000) only [v16, go_sem, reduceCtorEq, ↓reduceIte, Nat.reduceAdd, Nat.reduceEqDiff, Nat.reduceLeDiff, Nat.reduceMul, Nat.reduceBEq, Int.reduceBEq, Int.reduceBNe, Int.reduceLT, Int.reduceLE, Int.reduceGT, Int.reduceGE, Int.reduceToNat, Int.natCast_one, Int.natCast_zero, Int.cast_ofNat_Int]
          refine ⟨by omega, by omega, ?_⟩
          cases b16 <;> cases q3 : (k.type != 3) <;> simp only [q3, Bool.not_true, Bool.not_false, Bool.true_or, Bool.false_or, Bool.and_true, Bool.true_and, Bool.and_false, Bool.false_and] at hD
          all_goals simp +contextual (maxSteps := 1000000) only [q3, hD, bb_un, bb_is, go_sem, reduceCtorEq, ↓reduceIte, Nat.reduceAdd, Nat.reduceEqDiff, Nat.reduceLeDiff, Nat.reduceMul, Nat.reduceBEq, Int.reduceBEq, Int.reduceBNe, Int.reduceLT, Int.reduceLE, Int.reduceGT, Int.reduceGE, Int.reduceToNat, Int.natCast_one, Int.natCast_zero, Int.cast_ofNat_Int]
          all_goals
            rw [← hQ]
            exact ⟨trivial, Ret.flat rfl rfl⟩
end Go.Proofs.YthmjlngdbabdeaaDoor

/- The seat's facts that all rows want; arguments opened. -/
set_option linter.unusedVariables false
set_option linter.unusedSimpArgs false
set_option maxRecDepth 100000
namespace Go.Proofs.YthmjlngdbabdeaaDoor
open Go Go.Ab Go.WideShapes Go.RowKit
theorem seat_own : ownKnob Tryd.prog.godebug = none := by kernel_rfl
theorem seat_laidOut : laidOutB Tryd.prog = true := by kernel_rfl
section
variable {H : Type} {enc : TypeId × Value → H} {W : World} {base : Nat} {v : Value} {d : DataW H} {p : List MemPlace}
theorem tr_bytes : TR enc Tryd.prog W 26 fun xs => ∃ l : List UInt8, xs = [.sl none 1 (bytesAV l)] ∧ l.length ≤ maxLen := by
  refine (TR.slice (e := 5) (sz := 1) (by kernel_rfl) (by kernel_rfl) (by omega) (TR.int (k := .u8) (by kernel_rfl))).mono ?_
  rintro xs ⟨rows, rfl, h1, h2⟩
  obtain ⟨l, rfl⟩ := bytesAV_of fun r hr => (h2 r hr).1
  exact ⟨l, rfl, by rwa [bytesAV_length] at h1⟩
theorem op_bytes (hv : Value.okWide Tryd.prog W .any base 26 v) (hd : DataW.Trod enc Tryd.prog W 0 (fun _ => true) true 26 v d p) : ∃ l : List UInt8, l.length ≤ maxLen ∧ Rep (gh0 W) (.sl none 1 (bytesAV l)) v := by
  obtain ⟨a, len, cap, rfl⟩ := okWide_slice (P := Tryd.prog) (e := 5) (by kernel_rfl) hv
  obtain ⟨x, ⟨l, h1, h2⟩, hr⟩ := tr_bytes.arg1 rfl hd
  simp only [List.cons.injEq, and_true] at h1
  subst h1
  exact ⟨l, h2, hr⟩
theorem u8_of {n : Int} (h1 : IntKind.u8.min ≤ n) (h2 : n ≤ IntKind.u8.max) : ∃ c : UInt8, (c.toNat : Int) = n := by
  have h1' : 0 ≤ n := by simpa [IntKind.min, IntKind.signed] using h1
  have h2' : n ≤ 255 := by simpa [IntKind.max, IntKind.signed, IntKind.bits] using h2
  refine ⟨UInt8.ofNat n.toNat, ?_⟩
  rw [UInt8.toNat_ofNat', Nat.mod_eq_of_lt (by omega)]; omega
theorem op_u8 (hv : Value.okWide Tryd.prog W .any base 5 v) (hd : DataW.Trod enc Tryd.prog W 0 (fun _ => true) true 5 v d p) : ∃ c : UInt8, True ∧ Rep (gh0 W) (.int .u8 (c.toNat : Int)) v := by
  obtain ⟨n, rfl⟩ := okWide_int (P := Tryd.prog) (k := .u8) (by kernel_rfl) hv
  obtain ⟨x, ⟨m, h1, h2, h3⟩, hr⟩ := (TR.int (P := Tryd.prog) (k := .u8) (by kernel_rfl)).arg1 rfl hd
  simp only [List.cons.injEq, and_true] at h1
  subst h1
  obtain ⟨c, rfl⟩ := u8_of h2 h3
  exact ⟨c, trivial, hr⟩
theorem op_int (hv : Value.okWide Tryd.prog W .any base 3 v) (hd : DataW.Trod enc Tryd.prog W 0 (fun _ => true) true 3 v d p) : ∃ n : Int, (-9223372036854775808 ≤ n ∧ n ≤ 9223372036854775807) ∧ Rep (gh0 W) (.int .i64 n) v := by
  obtain ⟨n, rfl⟩ := okWide_int (P := Tryd.prog) (k := .i64) (by kernel_rfl) hv
  obtain ⟨x, ⟨m, h1, h2, h3⟩, hr⟩ := (TR.int (P := Tryd.prog) (k := .i64) (by kernel_rfl)).arg1 rfl hd
  simp only [List.cons.injEq, and_true] at h1
  subst h1
  exact ⟨m, ⟨by simpa [IntKind.min, IntKind.signed, IntKind.bits] using h2, by simpa [IntKind.max, IntKind.signed, IntKind.bits] using h3⟩, hr⟩
theorem op_bool (hv : Value.okWide Tryd.prog W .any base 4 v) (hd : DataW.Trod enc Tryd.prog W 0 (fun _ => true) true 4 v d p) : ∃ b : Bool, True ∧ Rep (gh0 W) (.bool b) v := by
  obtain ⟨b, rfl⟩ := okWide_bool (P := Tryd.prog) (by kernel_rfl) hv
  obtain ⟨x, ⟨c, h1⟩, hr⟩ := (TR.bool (P := Tryd.prog) (by kernel_rfl)).arg1 rfl hd
  simp only [List.cons.injEq, and_true] at h1
  subst h1
  exact ⟨c, trivial, hr⟩
end
end Go.Proofs.YthmjlngdbabdeaaDoor

/- The library's table, as the rows list it: what the seat's invariant wants of it. -/
set_option linter.unusedVariables false
set_option maxRecDepth 100000
namespace Go.Proofs.YthmjlngdbabdeaaDoor
open Go Go.Ab
theorem fixW_of {W : World} (h : laidMetH Tryd.prog [("math/bits.deBruijn32tab", Rows.laid_math_bits_deBruijn32tab), ("math/bits.deBruijn64tab", Rows.laid_math_bits_deBruijn64tab), ("internal/strconv.uint64pow10", Rows.laid_internal_strconv_uint64pow10)] W) : FixW W := by
  rw [MakeChecks.laidMetH_plain _ _ _ (by kernel_rfl)] at h
  have h2 := laidMet.filter (fun x => x.1 == "internal/strconv.uint64pow10") h
  have h3 : laidMet Tryd.prog [("internal/strconv.uint64pow10", Lib.tabData .u64 Lib.pow10Tab)] W := h2
  have h4 := Lib.tabIs_of_head (g := 3) (t := 166) (e := 157) (n := 20) (by kernel_rfl) (by kernel_rfl) (by kernel_rfl) (by kernel_rfl) (by kernel_rfl) (by kernel_rfl) h3
  intro p hp
  obtain rfl := List.mem_singleton.1 hp
  unfold Lib.TabIs World.var? at h4
  rw [show Program.globalNamed Tryd.prog "internal/strconv.uint64pow10" = some 3 from by kernel_rfl] at h4
  simp only [Option.bind_some] at h4
  split at h4
  · rename_i cs e fr hh
    simp only [Option.some.injEq] at h4
    refine ⟨e, fr, ?_⟩
    rw [hh, h4]
    simp [Lib.pow10Tab]
  · cases h4
end Go.Proofs.YthmjlngdbabdeaaDoor

/- Arguments that are a key's event, opened; what the bound of an Upto row gives. -/
set_option linter.unusedVariables false
set_option linter.unusedSimpArgs false
set_option maxRecDepth 100000
namespace Go.Proofs.YthmjlngdbabdeaaDoor
open Go Go.Ab Go.WideShapes Go.RowKit
def zero_apiKey : Value := .agg #[.int .i64 0, .int .i64 0, .int .i64 0, .int .i64 0, .int .i64 0, .string ByteArray.empty]
section
variable {H : Type} {enc : TypeId × Value → H} {W : World} {base : Nat} {v : Value} {d : DataW H} {p : List MemPlace}
theorem key_is : structIs Tryd.prog 23 [(0, 3), (1, 3), (2, 3), (3, 3), (4, 3), (5, 9)] = true := by kernel_rfl
theorem tr_Key : TR enc Tryd.prog W 23 fun xs => ∃ k : Ky, xs = kyAV k ∧ k.text.length ≤ maxLen := by
  refine (TR.structL (Rs := [fun xs => ∃ n, xs = [.int .i64 n] ∧ IntKind.i64.min ≤ n ∧ n ≤ IntKind.i64.max, fun xs => ∃ n, xs = [.int .i64 n] ∧ IntKind.i64.min ≤ n ∧ n ≤ IntKind.i64.max, fun xs => ∃ n, xs = [.int .i64 n] ∧ IntKind.i64.min ≤ n ∧ n ≤ IntKind.i64.max, fun xs => ∃ n, xs = [.int .i64 n] ∧ IntKind.i64.min ≤ n ∧ n ≤ IntKind.i64.max, fun xs => ∃ n, xs = [.int .i64 n] ∧ IntKind.i64.min ≤ n ∧ n ≤ IntKind.i64.max, fun xs => ∃ s, xs = [.str s] ∧ s.length ≤ maxLen]) 6 key_is (by kernel_rfl) ?_).mono ?_
  · exact ⟨rfl, TR.int (by kernel_rfl), 1, by kernel_rfl, rfl, TR.int (by kernel_rfl), 1, by kernel_rfl, rfl, TR.int (by kernel_rfl), 1, by kernel_rfl, rfl, TR.int (by kernel_rfl), 1, by kernel_rfl, rfl, TR.int (by kernel_rfl), 1, by kernel_rfl, rfl, TR.str (by kernel_rfl), 1, by kernel_rfl, rfl⟩
  · rintro xs ⟨_, _, ⟨a, rfl, _⟩, ⟨_, _, ⟨b, rfl, _⟩, ⟨_, _, ⟨c, rfl, _⟩, ⟨_, _, ⟨e, rfl, _⟩, ⟨_, _, ⟨f, rfl, _⟩, ⟨_, _, ⟨t, rfl, ht⟩, h, rfl⟩, rfl⟩, rfl⟩, rfl⟩, rfl⟩, rfl⟩
    have h : _ = [] := h
    subst h
    exact ⟨⟨a, b, c, e, f, t⟩, rfl, ht⟩
theorem op_apiKey (hv : Value.okWide Tryd.prog W .any base 23 v) (hd : DataW.Trod enc Tryd.prog W 0 (fun _ => true) true 23 v d p) : ∃ k : Ky, k.text.length ≤ maxLen ∧ Rep (gh0 W) (.agg (kyAV k)) v := by
  obtain ⟨cs, rfl⟩ := okWide_struct key_is hv
  obtain ⟨xs, ⟨k, rfl, h⟩, hr⟩ := tr_Key.argN hd
  exact ⟨k, h, hr⟩
theorem part_le {d : DataW H} {l : List (DataW H)} (h : d ∈ l) : Rows.uptoBulk d ≤ Rows.uptoBulkAll l := by
  induction l with
  | nil => cases h
  | cons x r ih =>
    simp only [Rows.uptoBulkAll]
    cases List.mem_cons.1 h with
    | inl e => subst e; omega
    | inr e => have := ih e; omega
/-- A text in a struct counts in its bulk. -/
theorem bulk_field {t : TypeId} {L : List (Nat × Nat)} {cs : Array Value} {s : ByteArray} {off ty : Nat} (h : structIs Tryd.prog t L = true) (hL : (off, ty) ∈ L) (hty : Tryd.prog.underlying ty = some .string) (hc : Tryd.prog.cellsOf ty = 1)
    (hs : cs.toList[off]? = some (.string s)) (hd : DataW.Trod enc Tryd.prog W 0 (fun _ => true) true t (.agg cs) d p) : s.data.toList.length + 1 ≤ Rows.uptoBulk d := by
  obtain ⟨fuel, hd⟩ := hd
  unfold structIs at h
  split at h
  · rename_i fs hu
    have := of_decide_eq_true h
    subst this
    cases fuel with
    | zero => simp [DataW.trod] at hd
    | succ fuel =>
      unfold DataW.trod at hd
      rw [hu] at hd
      simp only at hd
      split at hd
      · obtain ⟨ys, k1, k2⟩ := Option.map_eq_some_iff.1 hd
        simp only [Prod.mk.injEq] at k2
        obtain ⟨rfl, _⟩ := k2
        obtain ⟨f, hf, he⟩ := List.mem_map.1 hL
        simp only [Prod.mk.injEq] at he
        obtain ⟨rfl, rfl⟩ := he
        obtain ⟨j, hj, hfj⟩ := List.getElem_of_mem hf
        have hl := mapM_some_length k1
        have hg := mapM_some_get k1 j f (by rw [List.getElem?_eq_getElem hj, hfj])
        rw [List.getElem?_eq_getElem (by omega)] at hg
        have hcs : ((Value.agg cs).cells.toList.drop f.offset).take 1 = [.string s] := by
          show (cs.toList.drop f.offset).take 1 = _
          rw [List.getElem?_eq_some_iff] at hs
          obtain ⟨h1, h2⟩ := hs
          rw [List.drop_eq_getElem_cons h1, h2]; rfl
        rw [hc, hcs] at hg
        have hb : s.data.toList.length + 1 ≤ Rows.uptoBulk (ys[j]'(by omega)).1 := by
          cases fuel with
          | zero => simp [DataW.trod] at hg
          | succ fuel =>
            unfold DataW.trod at hg
            rw [hty] at hg
            simp only at hg
            split at hg
            · rw [← Option.some.inj hg]
              simp only [Rows.uptoBulk]
              exact Nat.le_refl _
            · cases hg
        have hm : (ys[j]'(by omega)).1 ∈ ys.map (·.1) := List.mem_map.2 ⟨_, List.getElem_mem _, rfl⟩
        have := part_le hm
        simp only [Rows.uptoBulk]
        omega
      · cases hd
  · cases h
theorem op_apiKeyB (hv : Value.okWide Tryd.prog W .any base 23 v) (hd : DataW.Trod enc Tryd.prog W 0 (fun _ => true) true 23 v d p) : ∃ k : Ky, k.text.length + 1 ≤ Rows.uptoBulk d ∧ Rep (gh0 W) (.agg (kyAV k)) v := by
  obtain ⟨cs, rfl⟩ := okWide_struct key_is hv
  obtain ⟨xs, ⟨k, rfl, h⟩, hr⟩ := tr_Key.argN hd
  refine ⟨k, ?_, hr⟩
  obtain ⟨vs, e, hl⟩ := hr
  obtain rfl : cs = vs := by cases e; rfl
  obtain ⟨x, h5, hx⟩ := RepL.get hl 5 (.str k.text) rfl
  have hx : x = .string ⟨k.text.toArray⟩ := hx
  subst hx
  have := bulk_field key_is (off := 5) (ty := 9) (by decide) (by kernel_rfl) (by kernel_rfl) h5 hd
  simpa using this
theorem tr_u8 : TR enc Tryd.prog W 5 fun xs => ∃ c : UInt8, xs = [.int .u8 (c.toNat : Int)] := by
  refine (TR.int (k := .u8) (by kernel_rfl)).mono ?_
  rintro xs ⟨n, rfl, h1, h2⟩
  obtain ⟨c, rfl⟩ := u8_of h1 h2
  exact ⟨c, rfl⟩
theorem okWide_array {t e : TypeId} {n base : Nat} {v : Value} {r : Reach} (h : Tryd.prog.underlying t = some (.array n e)) (hv : Value.okWide Tryd.prog W r base t v) : ∃ cs, v = .agg cs := by
  simp only [Value.okWide, h] at hv
  obtain ⟨cs, h, _⟩ := hv
  exact ⟨cs, h⟩
def zero_2uint8 : Value := .agg #[.int .u8 0, .int .u8 0]
end
end Go.Proofs.YthmjlngdbabdeaaDoor

/- KittyApart: whatever the input that the row lets in: true, and the input reads as it did. Conditions: those of the given row and card alone. -/
set_option linter.unusedVariables false
set_option linter.unusedSimpArgs false
set_option maxRecDepth 100000
namespace Go.Proofs.YthmjlngdbabdeaaDoor
open Go Go.Ab Go.ChangeShapes Go.WideShapes Go.ChangeAt Go.RowKit
theorem kittyApart_lifted (os : Os) (started : os.Started) (H : Type) (enc : TypeId × Value → H) (F : Stop.Interp) :
    ReturnsInHanded {} Tryd.checked os 3 .any ((Rows.OpenSpec.upto Rows.kittyApartSpec).preRow enc Tryd.prog Tryd.f3 Rows.kittyApartUptoRow.domain false Rows.kittyApartUptoRow.laid) (((Rows.OpenSpec.upto Rows.kittyApartSpec).at F).post enc Tryd.prog Tryd.f3 false true false false) := by
  have hw : (DataW.whole enc Tryd.prog ((World.laidAll Tryd.prog os [("math/bits.deBruijn32tab", Rows.laid_math_bits_deBruijn32tab), ("math/bits.deBruijn64tab", Rows.laid_math_bits_deBruijn64tab), ("internal/strconv.uint64pow10", Rows.laid_internal_strconv_uint64pow10)]).forCall (fun _ _ => 0) ⟨#[], #[.int .u8 0, zero_apiKey, zero_apiKey], []⟩).memory Tryd.f3.params.toList (Rows.OpenSpec.upto Rows.kittyApartSpec).vars false (#[.int .u8 0, zero_apiKey, zero_apiKey] : Array Value).toList 8).any (fun x => decide (Rows.uptoBulkAll (x.1 ++ x.2.1) ≤ 1048576)) = true := by kernel_rfl
  cases hx : DataW.whole enc Tryd.prog ((World.laidAll Tryd.prog os [("math/bits.deBruijn32tab", Rows.laid_math_bits_deBruijn32tab), ("math/bits.deBruijn64tab", Rows.laid_math_bits_deBruijn64tab), ("internal/strconv.uint64pow10", Rows.laid_internal_strconv_uint64pow10)]).forCall (fun _ _ => 0) ⟨#[], #[.int .u8 0, zero_apiKey, zero_apiKey], []⟩).memory Tryd.f3.params.toList (Rows.OpenSpec.upto Rows.kittyApartSpec).vars false (#[.int .u8 0, zero_apiKey, zero_apiKey] : Array Value).toList 8 with
  | none => rw [hx] at hw; cases hw
  | some x =>
  rw [hx] at hw
  have hok : Input.okWideB Tryd.checked.prog ((World.laidAll Tryd.prog os [("math/bits.deBruijn32tab", Rows.laid_math_bits_deBruijn32tab), ("math/bits.deBruijn64tab", Rows.laid_math_bits_deBruijn64tab), ("internal/strconv.uint64pow10", Rows.laid_internal_strconv_uint64pow10)]).forCall (fun _ _ => 0) ⟨#[], #[.int .u8 0, zero_apiKey, zero_apiKey], []⟩) 3 ⟨#[], #[.int .u8 0, zero_apiKey, zero_apiKey], []⟩ = true := by kernel_rfl
  refine returnsInHanded_of_row (C := Tryd.checked) (s := (Rows.OpenSpec.upto Rows.kittyApartSpec)) seat_own started (by kernel_rfl) Tryd.func3
    ⟨World.laidAll Tryd.prog os [("math/bits.deBruijn32tab", Rows.laid_math_bits_deBruijn32tab), ("math/bits.deBruijn64tab", Rows.laid_math_bits_deBruijn64tab), ("internal/strconv.uint64pow10", Rows.laid_internal_strconv_uint64pow10)], fun _ _ => 0, ⟨#[], #[.int .u8 0, zero_apiKey, zero_apiKey], []⟩, World.laidAll_os _ _ _, World.shaped_of_ZipB (by kernel_rfl) (by kernel_rfl), (Input.okWide_of_okWideB (base := 0) hok).1, (Input.okWide_of_okWideB hok).2,
      OpenSpec.preRow_of_cond 8 hx (by kernel_rfl) (fun k hk => by cases hk; exact hw) (by kernel_rfl) (by rw [show Rows.kittyApartUptoRow.laid = [("math/bits.deBruijn32tab", Rows.laid_math_bits_deBruijn32tab), ("math/bits.deBruijn64tab", Rows.laid_math_bits_deBruijn64tab), ("internal/strconv.uint64pow10", Rows.laid_internal_strconv_uint64pow10)] from rfl, MakeChecks.laidMetH_plain _ _ _ (by kernel_rfl)]; exact laidMet_laidAll _ (by kernel_rfl) (by kernel_rfl)),
      by simp only [Assume.holds]; exact ⟨by simp, by simp, fun _ => Modest.zero, by simp, by simp⟩⟩ ?_
  intro W base args ds gs before hval0 hW _ hcond hreach hL _ _
  have hbulk : Rows.uptoBulkAll (ds ++ gs) ≤ 1048576 := of_decide_eq_true (hcond _ rfl)
  have hval : ∀ (j : Nat) t v, Tryd.f3.params[j]? = some t → args[j]? = some v → Value.okWide Tryd.prog W .any base t v := hval0
  have hW' := hW
  obtain ⟨p, q, hA0, hV, rfl, _, _⟩ := hW
  have hA : DataW.TrodAll enc Tryd.prog W 0 (fun _ => true) true Tryd.f3.params.toList args.toList ds p := hA0
  rw [Tryd.params3] at hA hval
  obtain ⟨v0, vs0, d0, ds0, p0, q0, hargs, rfl, rfl, h0, r0⟩ := trodAll_cons hA
  obtain ⟨v1, vs1, d1, ds1, p1, q1, rfl, rfl, rfl, h1, r1⟩ := trodAll_cons r0
  obtain ⟨v2, vs2, d2, ds2, p2, q2, rfl, rfl, rfl, h2, r2⟩ := trodAll_cons r1
  obtain ⟨rfl, rfl, rfl⟩ := trodAll_nil r2
  obtain rfl : args = #[v0, v1, v2] := by cases args; simp_all
  obtain ⟨rfl, rfl⟩ := trodVars_none hV
  have lt0 : ∀ x ∈ p0, x.block < W.heap.size := by obtain ⟨m, hm⟩ := h0; exact DataW.trod_lt m _ _ _ hm
  obtain ⟨x0, c0, e0⟩ := op_u8 (hval 0 5 v0 rfl rfl) h0
  have hb0 : Rows.uptoBulk d0 ≤ 1048576 := Nat.le_trans (part_le (by simp)) hbulk
  have lt1 : ∀ x ∈ p1, x.block < W.heap.size := by obtain ⟨m, hm⟩ := h1; exact DataW.trod_lt m _ _ _ hm
  obtain ⟨x1, c1, e1⟩ := op_apiKeyB (hval 1 23 v1 rfl rfl) h1
  have hb1 : Rows.uptoBulk d1 ≤ 1048576 := Nat.le_trans (part_le (by simp)) hbulk
  have lt2 : ∀ x ∈ p2, x.block < W.heap.size := by obtain ⟨m, hm⟩ := h2; exact DataW.trod_lt m _ _ _ hm
  obtain ⟨x2, c2, e2⟩ := op_apiKeyB (hval 2 23 v2 rfl rfl) h2
  have hb2 : Rows.uptoBulk d2 ≤ 1048576 := Nat.le_trans (part_le (by simp)) hbulk
  clear hA0 hval0
  refine ((fs_KittyApart (Gl := fun _ => True) (fun _ _ _ _ => trivial) c0 (by omega) (by omega)).row (fixW_of hL) trivial ⟨_, _, rfl, e0, ⟨_, _, rfl, e1, ⟨_, _, rfl, e2, rfl⟩⟩⟩).mono fun e W' ⟨v, g', he, hr, bel⟩ => ?_
  obtain rfl : v = .bool true := hr
  subst he
  exact ⟨_, rfl, _, _, _, [], _, [], hW', trodAll_mk1 (shut_bool (show Tryd.prog.underlying 4 = some .bool by kernel_rfl) _), (trodAll_cons_mk (Below.trod seat_laidOut (by kernel_rfl) (of_decide_eq_true (by kernel_rfl)) h0 bel lt0) (trodAll_cons_mk (Below.trod seat_laidOut (by kernel_rfl) (of_decide_eq_true (by kernel_rfl)) h1 bel lt1) (trodAll_cons_mk (Below.trod seat_laidOut (by kernel_rfl) (of_decide_eq_true (by kernel_rfl)) h2 bel lt2) trodAll_mk0))), rfl, bel.frame _, fun h => by cases h⟩
theorem kittyApart_holds : Rows.KittyApartUptoSaid :=
  OpenClaim.holds_of_cond 3 Tryd.f3 rfl rfl rfl rfl rfl rfl rfl ⟨rfl, rfl, rfl, rfl, rfl⟩ rfl rfl rfl rfl rfl (by kernel_rfl) Tryd.func3 (by kernel_rfl)
    (of_decide_eq_true (by kernel_rfl)) (by unfold Func.isWrapper; first | (rw [if_pos (by decide +kernel)]; kernel_rfl) | (rw [if_neg (by decide +kernel)]; exact ⟨rfl, rfl⟩))
    (fun os started H enc _ F => by rw [OpenClaim.pre_eq_preRow]; exact kittyApart_lifted os started H enc F)
theorem kittyApart_card : Rows.KittyApartUptoCardSaid :=
  Claim7.holds_tied_plain_at .later [] [.data, .data, .data] true (true, "10d7e15395e41b53405f503ad2025702628cc14fe275b052672ea38bef7cccf1") false kittyApart_holds (fun _ h => by cases h) (by kernel_rfl) (fun _ h => by cases h) kittyApartUpto_row_tie rfl ⟨rfl, rfl⟩ (by kernel_rfl) rfl
    (fun f fn hf hfn => by
      obtain rfl : f = 3 := Option.some.inj ((show Tryd.prog.funcNamed "clavier/clavierlaw13.KittyApart" = some 3 by kernel_rfl).symm.trans hf) |>.symm
      obtain rfl : fn = Tryd.f3 := (Option.some.inj (Tryd.func3.symm.trans hfn)).symm
      exact ⟨by kernel_rfl, fun j t ht => by
        rw [Tryd.params3] at ht
        have hm : t ∈ ([5, 23, 23] : List Nat) := by simpa using Array.mem_of_getElem? ht
        have hall : (([5, 23, 23] : List Nat).all fun u => !Tryd.prog.wantsStandIn u) = true := by kernel_rfl
        exact (show Tryd.prog.wantsStandIn t = false by simpa using List.all_eq_true.1 hall t hm)⟩)
    (by kernel_rfl)
#print axioms kittyApart_card
end Go.Proofs.YthmjlngdbabdeaaDoor

