/- Numbers in figures, walked. -/
import Derived.Test.YtgdgfefojfgpaaaDoorA1
set_option linter.unusedVariables false
set_option linter.unusedSimpArgs false
set_option maxRecDepth 100000
namespace Go.Proofs.YtgdgfefojfgpaaaDoor
open Go Go.Ab
/-- clavier/num.Take$1 -/
def ir_numTake1 : ICode :=
 (.seq
  (.reg [⟨some 2, none, .mov (.c (.bool false))⟩] (some [0]))
  (.seq
   (.reg [⟨some 3, none, .mov (.t 0)⟩,
     ⟨some 4, none, .bin .geq .none (.t 3) (.c (.int .u8 48))⟩,
     ⟨some 5, none, .mov (.t 4)⟩,
     ⟨some 6, some (5, true), .mov (.t 0)⟩,
     ⟨some 7, some (5, true), .bin .leq .none (.t 6) (.c (.int .u8 57))⟩,
     ⟨some 8, none, .pick (.t 5) (.t 7) (.c (.bool false))⟩,
     ⟨some 2, none, .mov (.t 8)⟩] (some [2]))
   .ret))
theorem is_numTake1 : IrOf Tryd.prog 50 9 ir_numTake1 [.t 2] := ⟨_, Tryd.func50, rfl, by kernel_rfl, by kernel_rfl, by kernel_rfl⟩

/-- clavier/num.Take -/
def ir_numTake : ICode :=
 (.seq
  (.reg [⟨some 2, none, .mov (.c (.int .i64 0))⟩,
    ⟨some 3, none, .mov (.c (.int .i64 0))⟩] (some [0]))
  (.seq
   (.reg [⟨some 4, none, .mov (.c (.fn (.func 50) [] []))⟩] (some [0, 4]))
   (.seq
    (.reg [⟨some 5, none, .mov (.c (.int .i64 0))⟩] (some [0, 4, 5]))
    (.seq
     (.seq
      (.reg [⟨some 7, none, .mov (.t 0)⟩,
        ⟨some 8, none, .len (.t 7)⟩,
        ⟨some 9, none, .mov (.c (.int .i64 0))⟩] (some [0, 4, 5, 8, 9]))
      (.blk 0
       (.loop
        (.seq
         (.reg [⟨some 10, none, .bin .lss .none (.t 9) (.t 8)⟩] (some [0, 4, 5, 8, 9, 10]))
         (.seq
          (.cond (.t 10)
           .skip
           (.exit 0))
          (.seq
           (.blk 1
            (.seq
             (.reg [⟨some 11, none, .mov (.t 9)⟩,
               ⟨some 6, none, .mov (.t 11)⟩] (some [0, 4, 5, 6, 8, 9]))
             (.seq
              (.seq
               (.reg [⟨some 12, none, .mov (.t 4)⟩,
                 ⟨some 13, none, .mov (.t 0)⟩,
                 ⟨some 14, none, .mov (.t 6)⟩,
                 ⟨some 15, none, .ia 1 (.t 13) (.t 14)⟩,
                 ⟨some 16, none, .ld none (.t 15)⟩,
                 ⟨some 17, none, .call (.t 12) [(.t 16)]⟩,
                 ⟨some 18, none, .un .not (.t 17)⟩] (some [0, 4, 5, 6, 8, 9, 18]))
               (.cond (.t 18)
                (.seq
                 (.reg [⟨some 19, none, .mov (.t 5)⟩,
                   ⟨some 20, none, .mov (.t 6)⟩,
                   ⟨some 2, none, .mov (.t 19)⟩,
                   ⟨some 3, none, .mov (.t 20)⟩] (some [2, 3]))
                 .ret)
                .skip))
              (.reg [⟨some 21, none, .mov (.t 5)⟩,
                ⟨some 22, none, .bin .mul .none (.c (.int .i64 10)) (.t 21)⟩,
                ⟨some 23, none, .mov (.t 0)⟩,
                ⟨some 24, none, .mov (.t 6)⟩,
                ⟨some 25, none, .ia 1 (.t 23) (.t 24)⟩,
                ⟨some 26, none, .ld none (.t 25)⟩,
                ⟨some 27, none, .bin .sub .none (.t 26) (.c (.int .u8 48))⟩,
                ⟨some 28, none, .cvi .i64 (.t 27)⟩,
                ⟨some 29, none, .bin .add .none (.t 22) (.t 28)⟩,
                ⟨some 30, none, .mm true (.t 29) (.c (.int .i64 1114111))⟩,
                ⟨some 5, none, .mov (.t 30)⟩] (some [0, 4, 5, 8, 9])))))
           (.reg [⟨some 31, none, .bin .add .none (.t 9) (.c (.int .i64 1))⟩,
             ⟨some 9, none, .mov (.t 31)⟩] (some [0, 4, 5, 8, 9]))))))))
     (.seq
      (.reg [⟨some 32, none, .mov (.t 5)⟩,
        ⟨some 33, none, .mov (.t 0)⟩,
        ⟨some 34, none, .len (.t 33)⟩,
        ⟨some 2, none, .mov (.t 32)⟩,
        ⟨some 3, none, .mov (.t 34)⟩] (some [2, 3]))
      .ret)))))
theorem is_numTake : IrOf Tryd.prog 39 35 ir_numTake [.t 2, .t 3] := ⟨_, Tryd.func39, rfl, by kernel_rfl, by kernel_rfl, by kernel_rfl⟩


def fig (c : UInt8) : Bool := decide (48 ≤ c.toNat) && decide (c.toNat ≤ 57)
theorem fs_take1 {Gl : Gh → Prop} (hst : Stays Gl) {c : UInt8} : FS Tryd.prog Gl 50 [.int .u8 (c.toNat : Int)] [] [] (.bool (fig c)) [] [] := by
  refine FS.of hm hst is_numTake1 (by simp) fun γ hγ hfr => ?_
  generalize hQ : (fun (ex : Ex) (_ _ : Nat) (s : St) => _) = Q
  unfold ir_numTake1
  simp +contextual (maxSteps := 1000000) only [go_sem, reduceCtorEq, ↓reduceIte, Nat.reduceAdd, Nat.reduceEqDiff, Nat.reduceLeDiff, Nat.reduceMul, Nat.reduceBEq, Int.reduceBEq, Int.reduceBNe, Int.reduceLT, Int.reduceLE, Int.reduceGT, Int.reduceGE, Int.reduceToNat, Int.natCast_one, Int.natCast_zero, Int.cast_ofNat_Int]
  have e : (decide ((c.toNat : Int) ≥ 48) && decide ((c.toNat : Int) ≤ 57)) = fig c := by
    unfold fig; rw [Bool.eq_iff_iff]; simp; omega
  rw [← hQ, e]
  exact ⟨trivial, Ret.flat rfl rfl⟩

/-- The number with which bytes begin, and how many these are. -/
def takeN : List UInt8 → Nat → Nat → Nat × Nat
  | [], n, k => (n, k)
  | c :: l, n, k => if fig c = true then takeN l (min (10 * n + (c.toNat - 48)) 1114111) (k + 1) else (n, k)

theorem bytesAV_get {b : List UInt8} {i : Nat} (h : i < b.length) : (bytesAV b).getD i [] = [.int .u8 ((b[i]).toNat : Int)] := by
  rw [List.getD_eq_getElem?_getD]
  simp [bytesAV, h]

theorem fs_take {Gl : Gh → Prop} (hst : Stays Gl) {b : List UInt8} {t0 : Option Nm} (hb : b.length < 4611686018427387904) : FS Tryd.prog Gl 39 [.sl t0 1 (bytesAV b)] [] [] (.tup [.int .i64 (takeN b 0 0).1, .int .i64 (takeN b 0 0).2]) [] [] := by
  refine FS.of hm hst is_numTake (by simp) fun γ hγ hfr => ?_
  generalize hQ : (fun (ex : Ex) (_ _ : Nat) (s : St) => _) = Q
  unfold ir_numTake
  simp +contextual (maxSteps := 1000000) only [go_sem, reduceCtorEq, ↓reduceIte, Nat.reduceAdd, Nat.reduceEqDiff, Nat.reduceLeDiff, Nat.reduceMul, Nat.reduceBEq, Int.reduceBEq, Int.reduceBNe, Int.reduceLT, Int.reduceLE, Int.reduceGT, Int.reduceGE, Int.reduceToNat, Int.natCast_one, Int.natCast_zero, Int.cast_ofNat_Int]
  refine kLoop_ix (fun q : Nat × Nat => ⟨lf [(0, .sl t0 1 (bytesAV b)), (4, .fn (.func 50) [] []), (5, .int .i64 (q.2 : Int)), (8, .int .i64 (b.length : Int)), (9, .int .i64 (q.1 : Int))], [], fun x => x ∈ []⟩) (fun q => q.1 ≤ b.length ∧ q.2 ≤ 1114111 ∧ takeN b 0 0 = takeN (b.drop q.1) q.2 q.1) (fun q => b.length - q.1) 0 (0, 0) (Wk.same ?_) ?_ ?_
  · simp only [lfOK, upd, initF, bytesAV_length]
    repeat' first | exact AVle.refl _ _ | exact trivial | refine And.intro ?_ ?_
  · simp
  · rintro γ' ⟨i, n⟩ hf ⟨hi, hn, hinv⟩
    simp only at hi hn hinv
    generalize hQ' : kIt _ _ _ _ _ = Q'
    by_cases hlt : i < b.length
    · have hd : decide ((i : Int) < (b.length : Int)) = true := by simp; omega
      have hget : (bytesAV b).getD (i : Int).toNat [] = [.int .u8 ((b[i]).toNat : Int)] := by rw [Int.toNat_natCast]; exact bytesAV_get hlt
      have hdrop : b.drop i = b[i] :: b.drop (i + 1) := (List.drop_eq_getElem_cons hlt)
      simp +contextual (maxSteps := 1000000) only [hd, hget, bytesAV_length, go_sem, reduceCtorEq, ↓reduceIte, Nat.reduceAdd, Nat.reduceEqDiff, Nat.reduceLeDiff, Nat.reduceMul, Nat.reduceBEq, Int.reduceBEq, Int.reduceBNe, Int.reduceLT, Int.reduceLE, Int.reduceGT, Int.reduceGE, Int.reduceToNat, Int.natCast_one, Int.natCast_zero, Int.cast_ofNat_Int]
      refine ⟨by omega, CallP.pure (fs_take1 hst) (fun _ => rfl) ?_⟩
      cases hfig : fig b[i] with
      | false =>
        simp +contextual (maxSteps := 1000000) only [go_sem, reduceCtorEq, ↓reduceIte, Nat.reduceAdd, Nat.reduceEqDiff, Nat.reduceLeDiff, Nat.reduceMul, Nat.reduceBEq, Int.reduceBEq, Int.reduceBNe, Int.reduceLT, Int.reduceLE, Int.reduceGT, Int.reduceGE, Int.reduceToNat, Int.natCast_one, Int.natCast_zero, Int.cast_ofNat_Int]
        rw [← hQ']
        simp only [w_kIt_r, w_kBlk_r, w_kSeq_r]
        rw [← hQ, hinv, hdrop, takeN, if_neg (by rw [hfig]; simp)]
        exact ⟨trivial, Ret.flat2⟩
      | true =>
        simp +contextual (maxSteps := 1000000) only [hget, bytesAV_length, go_sem, reduceCtorEq, ↓reduceIte, Nat.reduceAdd, Nat.reduceEqDiff, Nat.reduceLeDiff, Nat.reduceMul, Nat.reduceBEq, Int.reduceBEq, Int.reduceBNe, Int.reduceLT, Int.reduceLE, Int.reduceGT, Int.reduceGE, Int.reduceToNat, Int.natCast_one, Int.natCast_zero, Int.cast_ofNat_Int]
        refine ⟨by omega, ?_⟩
        have hc : 48 ≤ (b[i]).toNat ∧ (b[i]).toNat ≤ 57 := by simpa [fig] using hfig
        rw [← hQ']
        simp only [w_kIt_n]
        refine ⟨0, (i + 1, min (10 * n + ((b[i]).toNat - 48)) 1114111), Wk.same ?_, ⟨by simp only; omega, by simp only; omega, ?_⟩, by simp only; omega⟩
        · repeat' first | exact AVle.refl _ _ | exact trivial | refine And.intro ?_ ?_
          · refine AVle.int ?_
            simp only [IntKind.wrap_i64, IntKind.wrap_u8]
            split <;> omega
          · exact AVle.int (by simp only [IntKind.wrap_i64]; omega)
        · simp only
          rw [hinv, hdrop, takeN, if_pos hfig]
    · have hd : decide ((i : Int) < (b.length : Int)) = false := by simp; omega
      simp +contextual (maxSteps := 1000000) only [hd, go_sem, reduceCtorEq, ↓reduceIte, Nat.reduceAdd, Nat.reduceEqDiff, Nat.reduceLeDiff, Nat.reduceMul, Nat.reduceBEq, Int.reduceBEq, Int.reduceBNe, Int.reduceLT, Int.reduceLE, Int.reduceGT, Int.reduceGE, Int.reduceToNat, Int.natCast_one, Int.natCast_zero, Int.cast_ofNat_Int]
      rw [← hQ']
      simp only [w_kIt_e, w_kBlk_e, ↓reduceIte]
      simp +contextual (maxSteps := 1000000) only [go_sem, reduceCtorEq, ↓reduceIte, Nat.reduceAdd, Nat.reduceEqDiff, Nat.reduceLeDiff, Nat.reduceMul, Nat.reduceBEq, Int.reduceBEq, Int.reduceBNe, Int.reduceLT, Int.reduceLE, Int.reduceGT, Int.reduceGE, Int.reduceToNat, Int.natCast_one, Int.natCast_zero, Int.cast_ofNat_Int]
      have hi' : i = b.length := by omega
      rw [← hQ, hinv, hi', List.drop_length, takeN]
      refine ⟨trivial, ?_⟩
      rw [bytesAV_length]
      exact Ret.flat2
end Go.Proofs.YtgdgfefojfgpaaaDoor
