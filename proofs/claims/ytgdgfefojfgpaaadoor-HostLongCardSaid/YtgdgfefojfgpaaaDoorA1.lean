/- The reference's functions of layer 3, walked. -/
import Derived.Test.YtgdgfefojfgpaaaDoorA0
set_option linter.unusedVariables false
set_option linter.unusedSimpArgs false
set_option maxRecDepth 100000
namespace Go.Proofs.YtgdgfefojfgpaaaDoor
open Go Go.Ab
/-- clavier/clavierref03.within -/
def ir_clavierref03within : ICode :=
 (.seq
  (.reg [⟨some 6, none, .mov (.c (.bool false))⟩] (some [0, 1, 2]))
  (.seq
   (.seq
    (.reg [⟨some 7, none, .mov (.c (.int .i64 0))⟩] (some [0, 1, 2, 7]))
    (.blk 0
     (.loop
      (.seq
       (.seq
        (.reg [⟨some 8, none, .mov (.t 7)⟩,
          ⟨some 9, none, .mov (.t 0)⟩,
          ⟨some 10, none, .lns (.t 9)⟩,
          ⟨some 11, none, .bin .lss .none (.t 8) (.t 10)⟩] (some [0, 1, 2, 7, 11]))
        (.cond (.t 11)
         .skip
         (.exit 0)))
       (.seq
        (.blk 1
         (.seq
          (.reg [⟨some 14, none, .mov (.t 0)⟩,
            ⟨some 15, none, .mov (.t 7)⟩,
            ⟨some 16, none, .ixs (.t 14) (.t 15)⟩,
            ⟨some 17, none, .mov (.t 1)⟩,
            ⟨some 18, none, .bin .lss .none (.t 16) (.t 17)⟩,
            ⟨some 19, none, .mov (.t 18)⟩,
            ⟨some 20, some (19, false), .mov (.t 0)⟩,
            ⟨some 21, some (19, false), .mov (.t 7)⟩,
            ⟨some 22, some (19, false), .ixs (.t 20) (.t 21)⟩,
            ⟨some 23, some (19, false), .mov (.t 2)⟩,
            ⟨some 24, some (19, false), .bin .gtr .none (.t 22) (.t 23)⟩,
            ⟨some 25, none, .pick (.t 19) (.c (.bool true)) (.t 24)⟩] (some [0, 1, 2, 7, 25]))
          (.cond (.t 25)
           (.seq
            (.reg [⟨some 6, none, .mov (.c (.bool false))⟩] (some [6]))
            .ret)
           .skip)))
        (.reg [⟨some 12, none, .mov (.t 7)⟩,
          ⟨some 13, none, .bin .add .none (.t 12) (.c (.int .i64 1))⟩,
          ⟨some 7, none, .mov (.t 13)⟩] (some [0, 1, 2, 7])))))))
   (.seq
    (.reg [⟨some 6, none, .mov (.c (.bool true))⟩] (some [6]))
    .ret)))
theorem is_clavierref03within : IrOf Tryd.prog 23 26 ir_clavierref03within [.t 6] := ⟨_, Tryd.func23, rfl, by kernel_rfl, by kernel_rfl, by kernel_rfl⟩


theorem fs_within {Gl : Gh → Prop} (hst : Stays Gl) {s : List UInt8} {x y : Int} (hl : s.length < 4611686018427387904) : FS Tryd.prog Gl 23 [.str s, .int .u8 x, .int .u8 y] [] [] (.bool (s.all fun c => decide (x ≤ c.toNat) && decide ((c.toNat : Int) ≤ y))) [] [] := by
  refine FS.of hm hst is_clavierref03within (by simp) fun γ hγ hfr => ?_
  (generalize hQ : (fun (ex : Ex) (_ _ : Nat) (s : St) => _) = Q; unfold ir_clavierref03within)
  simp +contextual (maxSteps := 1000000) only [go_sem, reduceCtorEq, ↓reduceIte, Nat.reduceAdd, Nat.reduceEqDiff, Nat.reduceLeDiff, Nat.reduceMul, Nat.reduceBEq, Int.reduceBEq, Int.reduceBNe, Int.reduceLT, Int.reduceLE, Int.reduceGT, Int.reduceGE, Int.reduceToNat, Int.natCast_one, Int.natCast_zero, Int.cast_ofNat_Int]
  refine kLoop_ix (fun i : Nat => ⟨lf [(0, .str s), (1, .int .u8 x), (2, .int .u8 y), (7, .int .i64 i)], [], fun x => x ∈ []⟩) (fun i => i ≤ s.length ∧ (s.all fun c => decide (x ≤ c.toNat) && decide ((c.toNat : Int) ≤ y)) = ((s.drop i).all fun c => decide (x ≤ c.toNat) && decide ((c.toNat : Int) ≤ y))) (fun i => s.length - i) 0 0 (Wk.same ?_) (by simp) ?_
  · (simp only [lfOK, upd, initF]; repeat' first | exact AVle.refl _ _ | exact trivial | refine And.intro ?_ ?_ | exact AVle.int (by simp only [IntKind.wrap_i64]; omega))
  · rintro γ' i hf ⟨hi, hinv⟩
    generalize hQ' : kIt _ _ _ _ _ = Q'
    by_cases hlt : i < s.length
    · have hd : decide ((i : Int) < (s.length : Int)) = true := by simp; omega
      have hg0 : s.getD (i : Int).toNat 0 = s[i] := by rw [Int.toNat_natCast, List.getD_eq_getElem?_getD, List.getElem?_eq_getElem hlt]; rfl
      have hdrop : s.drop i = s[i] :: s.drop (i + 1) := List.drop_eq_getElem_cons hlt
      rw [hdrop, List.all_cons] at hinv
      have hor : (decide (((s[i]).toNat : Int) < x) || decide (((s[i]).toNat : Int) > y)) = !(decide (x ≤ (s[i]).toNat) && decide (((s[i]).toNat : Int) ≤ y)) := by
        rw [Bool.eq_iff_iff]; simp
      generalize (decide (x ≤ (s[i]).toNat) && decide (((s[i]).toNat : Int) ≤ y)) = q at hor hinv
      (simp +contextual (maxSteps := 1000000) only [hd, hg0, go_sem, reduceCtorEq, ↓reduceIte, Nat.reduceAdd, Nat.reduceEqDiff, Nat.reduceLeDiff, Nat.reduceMul, Nat.reduceBEq, Int.reduceBEq, Int.reduceBNe, Int.reduceLT, Int.reduceLE, Int.reduceGT, Int.reduceGE, Int.reduceToNat, Int.natCast_one, Int.natCast_zero, Int.cast_ofNat_Int]; repeat' first | ((first | refine kCond_split (fun hg => ?_) (fun hg => ?_) | refine kGc_split (fun hg => ?_) (fun hg => ?_) | refine kPreG_split (fun hg => ?_) (fun hg => ?_)) <;> (try rw [hg]) <;> simp +contextual (maxSteps := 1000000) only [hd, hg0, go_sem, reduceCtorEq, ↓reduceIte, Nat.reduceAdd, Nat.reduceEqDiff, Nat.reduceLeDiff, Nat.reduceMul, Nat.reduceBEq, Int.reduceBEq, Int.reduceBNe, Int.reduceLT, Int.reduceLE, Int.reduceGT, Int.reduceGE, Int.reduceToNat, Int.natCast_one, Int.natCast_zero, Int.cast_ofNat_Int]) | refine And.intro (by omega) ?_)
      all_goals rw [← hQ']; simp only [w_kIt_n, w_kIt_e, w_kIt_r, w_kBlk_n, w_kBlk_e, w_kBlk_r, w_kSeq_n, w_kSeq_e, w_kSeq_r, ↓reduceIte]
      · have hq : q = false := by rw [hor] at hg; simpa using hg
        rw [← hQ, hinv, hq]
        exact ⟨trivial, Ret.flat rfl rfl⟩
      · have hq : q = true := by rw [hor] at hg; simpa using hg
        refine ⟨0, i + 1, Wk.same ?_, ⟨by omega, ?_⟩, by omega⟩
        · repeat' first | exact AVle.refl _ _ | exact trivial | refine And.intro ?_ ?_ | exact AVle.int (by simp only [IntKind.wrap_i64]; omega)
        · rw [hinv, hq, Bool.true_and]
    · have hd : decide ((i : Int) < (s.length : Int)) = false := by simp; omega
      simp +contextual (maxSteps := 1000000) only [hd, go_sem, reduceCtorEq, ↓reduceIte, Nat.reduceAdd, Nat.reduceEqDiff, Nat.reduceLeDiff, Nat.reduceMul, Nat.reduceBEq, Int.reduceBEq, Int.reduceBNe, Int.reduceLT, Int.reduceLE, Int.reduceGT, Int.reduceGE, Int.reduceToNat, Int.natCast_one, Int.natCast_zero, Int.cast_ofNat_Int]
      rw [← hQ']
      simp only [w_kIt_e, w_kBlk_e, ↓reduceIte]
      simp +contextual (maxSteps := 1000000) only [go_sem, reduceCtorEq, ↓reduceIte, Nat.reduceAdd, Nat.reduceEqDiff, Nat.reduceLeDiff, Nat.reduceMul, Nat.reduceBEq, Int.reduceBEq, Int.reduceBNe, Int.reduceLT, Int.reduceLE, Int.reduceGT, Int.reduceGE, Int.reduceToNat, Int.natCast_one, Int.natCast_zero, Int.cast_ofNat_Int]
      rw [List.drop_of_length_le (by omega)] at hinv
      rw [← hQ, hinv]
      exact ⟨trivial, Ret.flat rfl rfl⟩
end Go.Proofs.YtgdgfefojfgpaaaDoor
