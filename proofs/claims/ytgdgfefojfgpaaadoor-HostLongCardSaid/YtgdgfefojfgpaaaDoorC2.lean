/- Two rows of sequences held against each other. -/
import Derived.Test.YtgdgfefojfgpaaaDoorC1
set_option linter.unusedVariables false
set_option linter.unusedSimpArgs false
set_option maxRecDepth 100000
namespace Go.Proofs.YtgdgfefojfgpaaaDoor
open Go Go.Ab
/- clavier/clavierref03.Same -/
def ir_clavierref03Same_l0 : ICode :=
 (.seq
        (.seq
         (.reg [⟨some 48, none, .mov (.t 5)⟩,
           ⟨some 49, none, .fa 2 (.t 2)⟩,
           ⟨some 50, none, .ld none (.t 49)⟩,
           ⟨some 51, none, .len (.t 50)⟩,
           ⟨some 52, none, .bin .lss .none (.t 48) (.t 51)⟩] (some [2, 3, 5, 52]))
         (.cond (.t 52)
          .skip
          (.exit 0)))
        (.seq
         (.blk 1
          (.seq
           (.drw [⟨⟨some 55, none, .fa 2 (.t 2)⟩, []⟩,
             ⟨⟨some 56, none, .ld none (.t 55)⟩, [0]⟩,
             ⟨⟨some 57, none, .mov (.t 5)⟩, []⟩,
             ⟨⟨some 58, none, .ia 1 (.t 56) (.t 57)⟩, [1, 2]⟩,
             ⟨⟨some 59, none, .ld none (.t 58)⟩, [3]⟩,
             ⟨⟨some 60, none, .fa 2 (.t 3)⟩, []⟩,
             ⟨⟨some 61, none, .ld none (.t 60)⟩, [5]⟩,
             ⟨⟨some 62, none, .mov (.t 5)⟩, []⟩,
             ⟨⟨some 63, none, .ia 1 (.t 61) (.t 62)⟩, [6, 7]⟩,
             ⟨⟨some 64, none, .ld none (.t 63)⟩, [8]⟩,
             ⟨⟨some 65, none, .call (.c (.fn (.func 21) [] [])) [(.t 59), (.t 64)]⟩, [4, 9]⟩,
             ⟨⟨some 66, none, .un .not (.t 65)⟩, [10]⟩]
             [] (some [2, 3, 5, 66]))
           (.cond (.t 66)
            (.seq
             (.reg [⟨some 4, none, .mov (.c (.bool false))⟩] (some [4]))
             .ret)
            .skip)))
         (.reg [⟨some 53, none, .mov (.t 5)⟩,
           ⟨some 54, none, .bin .add .none (.t 53) (.c (.int .i64 1))⟩,
           ⟨some 5, none, .mov (.t 54)⟩] (some [2, 3, 5]))))
def ir_clavierref03Same_t3 : ICode :=
 (.seq
  (.reg [⟨some 4, none, .mov (.c (.bool true))⟩] (some [4]))
  .ret)
def ir_clavierref03Same_t2 : ICode :=
 (.seq
  (.seq
     (.reg [⟨some 5, none, .mov (.c (.int .i64 0))⟩] (some [2, 3, 5]))
     (.blk 0
      (.loop
       ir_clavierref03Same_l0)))
  ir_clavierref03Same_t3)
def ir_clavierref03Same_t1 : ICode :=
 (.seq
  (.seq
    (.reg [⟨some 6, none, .fa 0 (.t 2)⟩,
      ⟨some 7, none, .ld none (.t 6)⟩,
      ⟨some 8, none, .fa 0 (.t 3)⟩,
      ⟨some 9, none, .ld none (.t 8)⟩,
      ⟨some 10, none, .bin .neq .none (.t 7) (.t 9)⟩,
      ⟨some 11, none, .mov (.t 10)⟩,
      ⟨some 12, some (11, false), .fa 1 (.t 2)⟩,
      ⟨some 13, some (11, false), .ld none (.t 12)⟩,
      ⟨some 14, some (11, false), .fa 1 (.t 3)⟩,
      ⟨some 15, some (11, false), .ld none (.t 14)⟩,
      ⟨some 16, some (11, false), .bin .neq .none (.t 13) (.t 15)⟩,
      ⟨some 17, none, .pick (.t 11) (.c (.bool true)) (.t 16)⟩,
      ⟨some 18, none, .mov (.t 17)⟩,
      ⟨some 19, some (18, false), .fa 3 (.t 2)⟩,
      ⟨some 20, some (18, false), .ld none (.t 19)⟩,
      ⟨some 21, some (18, false), .fa 3 (.t 3)⟩,
      ⟨some 22, some (18, false), .ld none (.t 21)⟩,
      ⟨some 23, some (18, false), .bin .neq .none (.t 20) (.t 22)⟩,
      ⟨some 24, none, .pick (.t 18) (.c (.bool true)) (.t 23)⟩,
      ⟨some 25, none, .mov (.t 24)⟩,
      ⟨some 26, some (25, false), .fa 4 (.t 2)⟩,
      ⟨some 27, some (25, false), .ld none (.t 26)⟩,
      ⟨some 28, some (25, false), .fa 4 (.t 3)⟩,
      ⟨some 29, some (25, false), .ld none (.t 28)⟩,
      ⟨some 30, some (25, false), .bin .neq .none (.t 27) (.t 29)⟩,
      ⟨some 31, none, .pick (.t 25) (.c (.bool true)) (.t 30)⟩,
      ⟨some 32, none, .mov (.t 31)⟩,
      ⟨some 33, some (32, false), .fa 5 (.t 2)⟩,
      ⟨some 34, some (32, false), .ld none (.t 33)⟩,
      ⟨some 35, some (32, false), .fa 5 (.t 3)⟩,
      ⟨some 36, some (32, false), .ld none (.t 35)⟩,
      ⟨some 37, some (32, false), .bin .neq .none (.t 34) (.t 36)⟩,
      ⟨some 38, none, .pick (.t 32) (.c (.bool true)) (.t 37)⟩,
      ⟨some 39, none, .mov (.t 38)⟩,
      ⟨some 40, some (39, false), .fa 2 (.t 2)⟩,
      ⟨some 41, some (39, false), .ld none (.t 40)⟩,
      ⟨some 42, some (39, false), .len (.t 41)⟩,
      ⟨some 43, some (39, false), .fa 2 (.t 3)⟩,
      ⟨some 44, some (39, false), .ld none (.t 43)⟩,
      ⟨some 45, some (39, false), .len (.t 44)⟩,
      ⟨some 46, some (39, false), .bin .neq .none (.t 42) (.t 45)⟩,
      ⟨some 47, none, .pick (.t 39) (.c (.bool true)) (.t 46)⟩] (some [2, 3, 47]))
    (.cond (.t 47)
     (.seq
      (.reg [⟨some 4, none, .mov (.c (.bool false))⟩] (some [4]))
      .ret)
     .skip))
  ir_clavierref03Same_t2)
def ir_clavierref03Same : ICode :=
 (.seq
  (.reg [⟨some 2, none, .box 32 (.t 0)⟩,
    ⟨some 3, none, .box 32 (.t 1)⟩,
    ⟨some 4, none, .mov (.c (.bool false))⟩] (some [2, 3]))
  ir_clavierref03Same_t1)
theorem is_clavierref03Same : IrOf Tryd.prog 15 67 ir_clavierref03Same [.t 4] := ⟨_, Tryd.func15, rfl, by kernel_rfl, by kernel_rfl, by kernel_rfl⟩

/- clavier/clavierref05.Same -/
def ir_clavierref05Same_l0 : ICode :=
 (.seq
        (.seq
         (.reg [⟨some 11, none, .mov (.t 5)⟩,
           ⟨some 12, none, .mov (.t 0)⟩,
           ⟨some 13, none, .len (.t 12)⟩,
           ⟨some 14, none, .bin .lss .none (.t 11) (.t 13)⟩] (some [0, 1, 5, 14]))
         (.cond (.t 14)
          .skip
          (.exit 0)))
        (.seq
         (.blk 1
          (.seq
           (.drw [⟨⟨some 17, none, .mov (.t 0)⟩, []⟩,
             ⟨⟨some 18, none, .mov (.t 5)⟩, []⟩,
             ⟨⟨some 19, none, .ia 6 (.t 17) (.t 18)⟩, [0, 1]⟩,
             ⟨⟨some 20, none, .ld (some 6) (.t 19)⟩, [2]⟩,
             ⟨⟨some 21, none, .mov (.t 1)⟩, []⟩,
             ⟨⟨some 22, none, .mov (.t 5)⟩, []⟩,
             ⟨⟨some 23, none, .ia 6 (.t 21) (.t 22)⟩, [4, 5]⟩,
             ⟨⟨some 24, none, .ld (some 6) (.t 23)⟩, [6]⟩,
             ⟨⟨some 25, none, .call (.c (.fn (.func 15) [] [])) [(.t 20), (.t 24)]⟩, [3, 7]⟩,
             ⟨⟨some 26, none, .un .not (.t 25)⟩, [8]⟩]
             [] (some [0, 1, 5, 26]))
           (.cond (.t 26)
            (.seq
             (.reg [⟨some 4, none, .mov (.c (.bool false))⟩] (some [4]))
             .ret)
            .skip)))
         (.reg [⟨some 15, none, .mov (.t 5)⟩,
           ⟨some 16, none, .bin .add .none (.t 15) (.c (.int .i64 1))⟩,
           ⟨some 5, none, .mov (.t 16)⟩] (some [0, 1, 5]))))
def ir_clavierref05Same_t3 : ICode :=
 (.seq
  (.reg [⟨some 4, none, .mov (.c (.bool true))⟩] (some [4]))
  .ret)
def ir_clavierref05Same_t2 : ICode :=
 (.seq
  (.seq
     (.reg [⟨some 5, none, .mov (.c (.int .i64 0))⟩] (some [0, 1, 5]))
     (.blk 0
      (.loop
       ir_clavierref05Same_l0)))
  ir_clavierref05Same_t3)
def ir_clavierref05Same_t1 : ICode :=
 (.seq
  (.seq
    (.reg [⟨some 6, none, .mov (.t 0)⟩,
      ⟨some 7, none, .len (.t 6)⟩,
      ⟨some 8, none, .mov (.t 1)⟩,
      ⟨some 9, none, .len (.t 8)⟩,
      ⟨some 10, none, .bin .neq .none (.t 7) (.t 9)⟩] (some [0, 1, 10]))
    (.cond (.t 10)
     (.seq
      (.reg [⟨some 4, none, .mov (.c (.bool false))⟩] (some [4]))
      .ret)
     .skip))
  ir_clavierref05Same_t2)
def ir_clavierref05Same : ICode :=
 (.seq
  (.reg [⟨some 4, none, .mov (.c (.bool false))⟩] (some [0, 1]))
  ir_clavierref05Same_t1)
theorem is_clavierref05Same : IrOf Tryd.prog 10 27 ir_clavierref05Same [.t 4] := ⟨_, Tryd.func10, rfl, by kernel_rfl, by kernel_rfl, by kernel_rfl⟩

def Sq.eqb (a b : Sq) : Bool := decide (a = b)
theorem fs_Same {Gl : Gh → Prop} (hst : Stays Gl) {a b : Sq} (ha : a.ps.length < 4611686018427387904) (hb : b.ps.length < 4611686018427387904) (ha2 : ∀ p ∈ a.ps, p.length < 4611686018427387904) (hb2 : ∀ p ∈ b.ps, p.length < 4611686018427387904) : FS Tryd.prog Gl 15 [.agg a.c, .agg b.c] [] [] (.bool (decide (a = b))) [] [] := by
  obtain ⟨k, pr, ps, it, fi, da⟩ := a
  obtain ⟨k', pr', ps', it', fi', da'⟩ := b
  simp only at ha hb ha2 hb2
  refine FS.of hm hst is_clavierref03Same (by simp) fun γ hγ hfr => ?_
  simp only [Sq.c, parsV] at hfr ⊢
  have cl : AV.closedL [AV.int .i64 k, .int .u8 pr, .sl none 1 (parsAV ps), .str it, .int .u8 fi, .str da] = true := rfl
  have cl' : AV.closedL [AV.int .i64 k', .int .u8 pr', .sl none 1 (parsAV ps'), .str it', .int .u8 fi', .str da'] = true := rfl
  (generalize hQ : (fun (ex : Ex) (_ _ : Nat) (s : St) => _) = Q; unfold ir_clavierref03Same)
  simp +contextual (maxSteps := 1000000) only [parsAV_length, go_sem, reduceCtorEq, ↓reduceIte, Nat.reduceAdd, Nat.reduceEqDiff, Nat.reduceLeDiff, Nat.reduceMul, Nat.reduceBEq, Int.reduceBEq, Int.reduceBNe, Int.reduceLT, Int.reduceLE, Int.reduceGT, Int.reduceGE, Int.reduceToNat, Int.natCast_one, Int.natCast_zero, Int.cast_ofNat_Int]
  unfold ir_clavierref03Same_t1
  simp +contextual (maxSteps := 1000000) only [parsAV_length, go_sem, reduceCtorEq, ↓reduceIte, Nat.reduceAdd, Nat.reduceEqDiff, Nat.reduceLeDiff, Nat.reduceMul, Nat.reduceBEq, Int.reduceBEq, Int.reduceBNe, Int.reduceLT, Int.reduceLE, Int.reduceGT, Int.reduceGE, Int.reduceToNat, Int.natCast_one, Int.natCast_zero, Int.cast_ofNat_Int]
  refine kCond_split (fun h => ?_) (fun h => ?_)
  · simp +contextual (maxSteps := 1000000) only [go_sem, reduceCtorEq, ↓reduceIte, Nat.reduceAdd, Nat.reduceEqDiff, Nat.reduceLeDiff, Nat.reduceMul, Nat.reduceBEq, Int.reduceBEq, Int.reduceBNe, Int.reduceLT, Int.reduceLE, Int.reduceGT, Int.reduceGE, Int.reduceToNat, Int.natCast_one, Int.natCast_zero, Int.cast_ofNat_Int]
    rw [← hQ]
    have e : decide ((⟨k, pr, ps, it, fi, da⟩ : Sq) = ⟨k', pr', ps', it', fi', da'⟩) = false := by
      rw [decide_eq_false_iff_not]; intro e; injection e with e1 e2 e3 e4 e5 e6; subst e1 e2 e3 e4 e5 e6; simp at h
    rw [e]
    exact ⟨trivial, Ret.flat rfl rfl⟩
  · simp +contextual (maxSteps := 1000000) only [go_sem, reduceCtorEq, ↓reduceIte, Nat.reduceAdd, Nat.reduceEqDiff, Nat.reduceLeDiff, Nat.reduceMul, Nat.reduceBEq, Int.reduceBEq, Int.reduceBNe, Int.reduceLT, Int.reduceLE, Int.reduceGT, Int.reduceGE, Int.reduceToNat, Int.natCast_one, Int.natCast_zero, Int.cast_ofNat_Int]
    unfold ir_clavierref03Same_t2
    simp +contextual (maxSteps := 1000000) only [go_sem, reduceCtorEq, ↓reduceIte, Nat.reduceAdd, Nat.reduceEqDiff, Nat.reduceLeDiff, Nat.reduceMul, Nat.reduceBEq, Int.reduceBEq, Int.reduceBNe, Int.reduceLT, Int.reduceLE, Int.reduceGT, Int.reduceGE, Int.reduceToNat, Int.natCast_one, Int.natCast_zero, Int.cast_ofNat_Int]
    refine kLoop_ix (fun i : Nat => ⟨lf [(2, .ptr (γ, 0, 0) 0), (3, .ptr (γ, 1, 0) 0), (5, .int .i64 i)], [((γ, 1, 0), .cells [.int .i64 k', .int .u8 pr', .sl none 1 (parsAV ps'), .str it', .int .u8 fi', .str da']), ((γ, 0, 0), .cells [.int .i64 k, .int .u8 pr, .sl none 1 (parsAV ps), .str it, .int .u8 fi, .str da])], fun x => x ∈ []⟩) (fun i => i ≤ ps.length ∧ ps.take i = ps'.take i) (fun i => ps.length - i) 0 0 (Wk.same ?_) ?_ ?_
    · (simp only [lfOK, upd, initF]; repeat' first | exact AVle.refl _ _ | exact trivial | refine And.intro ?_ ?_ | exact AVle.int (by simp only [IntKind.wrap_i64]; omega))
    · simp
    · rintro γ' i hf ⟨hi, hinv⟩
      generalize hQ' : kIt _ _ _ _ _ = Q'
      unfold ir_clavierref03Same_l0
      by_cases hlt : i < ps.length
      · have hd : decide ((i : Int) < (ps.length : Int)) = true := by simp; omega
        have hlt' : i < ps'.length := by simp at h; omega
        have g1 : (parsAV ps).getD (i : Int).toNat [] = [intsV ps[i]] := by rw [Int.toNat_natCast]; exact parsAV_get hlt
        have g2 : (parsAV ps').getD (i : Int).toNat [] = [intsV ps'[i]] := by rw [Int.toNat_natCast]; exact parsAV_get hlt'
        simp +contextual (maxSteps := 1000000) only [parsAV_length, hd, g1, g2, go_sem, reduceCtorEq, ↓reduceIte, Nat.reduceAdd, Nat.reduceEqDiff, Nat.reduceLeDiff, Nat.reduceMul, Nat.reduceBEq, Int.reduceBEq, Int.reduceBNe, Int.reduceLT, Int.reduceLE, Int.reduceGT, Int.reduceGE, Int.reduceToNat, Int.natCast_one, Int.natCast_zero, Int.cast_ofNat_Int]
        refine ⟨by omega, by omega, DCall.new (fs_Ints hst (ha2 _ (List.getElem_mem hlt)) (hb2 _ (List.getElem_mem hlt'))) ?_⟩
        simp +contextual (maxSteps := 1000000) only [go_sem, reduceCtorEq, ↓reduceIte, Nat.reduceAdd, Nat.reduceEqDiff, Nat.reduceLeDiff, Nat.reduceMul, Nat.reduceBEq, Int.reduceBEq, Int.reduceBNe, Int.reduceLT, Int.reduceLE, Int.reduceGT, Int.reduceGE, Int.reduceToNat, Int.natCast_one, Int.natCast_zero, Int.cast_ofNat_Int]
        refine kCond_split (fun h1 => ?_) (fun h1 => ?_)
        · simp +contextual (maxSteps := 1000000) only [go_sem, reduceCtorEq, ↓reduceIte, Nat.reduceAdd, Nat.reduceEqDiff, Nat.reduceLeDiff, Nat.reduceMul, Nat.reduceBEq, Int.reduceBEq, Int.reduceBNe, Int.reduceLT, Int.reduceLE, Int.reduceGT, Int.reduceGE, Int.reduceToNat, Int.natCast_one, Int.natCast_zero, Int.cast_ofNat_Int]
          rw [← hQ']
          simp only [w_kIt_r, w_kBlk_r, w_kSeq_r]
          have e : decide ((⟨k, pr, ps, it, fi, da⟩ : Sq) = ⟨k', pr', ps', it', fi', da'⟩) = false := by
            rw [decide_eq_false_iff_not]; intro e; injection e with e1 e2 e3 e4 e5 e6; subst e3; simp at h1
          rw [← hQ, e]
          exact ⟨trivial, Ret.flat rfl rfl⟩
        · simp +contextual (maxSteps := 1000000) only [go_sem, reduceCtorEq, ↓reduceIte, Nat.reduceAdd, Nat.reduceEqDiff, Nat.reduceLeDiff, Nat.reduceMul, Nat.reduceBEq, Int.reduceBEq, Int.reduceBNe, Int.reduceLT, Int.reduceLE, Int.reduceGT, Int.reduceGE, Int.reduceToNat, Int.natCast_one, Int.natCast_zero, Int.cast_ofNat_Int]
          rw [← hQ']
          simp only [w_kIt_n]
          have h2 : ps[i] = ps'[i] := by simpa using h1
          refine ⟨0, i + 1, Wk.same ?_, ⟨by omega, ?_⟩, by omega⟩
          · repeat' first | exact AVle.refl _ _ | exact trivial | refine And.intro ?_ ?_ | exact AVle.int (by simp only [IntKind.wrap_i64]; omega)
          · rw [List.take_add_one, List.take_add_one, hinv, List.getElem?_eq_getElem hlt, List.getElem?_eq_getElem hlt', h2]
      · have hd : decide ((i : Int) < (ps.length : Int)) = false := by simp; omega
        simp +contextual (maxSteps := 1000000) only [parsAV_length, hd, go_sem, reduceCtorEq, ↓reduceIte, Nat.reduceAdd, Nat.reduceEqDiff, Nat.reduceLeDiff, Nat.reduceMul, Nat.reduceBEq, Int.reduceBEq, Int.reduceBNe, Int.reduceLT, Int.reduceLE, Int.reduceGT, Int.reduceGE, Int.reduceToNat, Int.natCast_one, Int.natCast_zero, Int.cast_ofNat_Int]
        rw [← hQ']
        simp only [w_kIt_e, w_kBlk_e, ↓reduceIte]
        unfold ir_clavierref03Same_t3
        simp +contextual (maxSteps := 1000000) only [go_sem, reduceCtorEq, ↓reduceIte, Nat.reduceAdd, Nat.reduceEqDiff, Nat.reduceLeDiff, Nat.reduceMul, Nat.reduceBEq, Int.reduceBEq, Int.reduceBNe, Int.reduceLT, Int.reduceLE, Int.reduceGT, Int.reduceGE, Int.reduceToNat, Int.natCast_one, Int.natCast_zero, Int.cast_ofNat_Int]
        have h4 : ps.length = ps'.length := by simp at h; omega
        have h3 := hinv
        rw [List.take_of_length_le (by omega), List.take_of_length_le (by omega)] at h3
        have e : decide ((⟨k, pr, ps, it, fi, da⟩ : Sq) = ⟨k', pr', ps', it', fi', da'⟩) = true := by
          subst h3; simp at h; simp [h]
        rw [← hQ, e]
        exact ⟨trivial, Ret.flat rfl rfl⟩
end Go.Proofs.YtgdgfefojfgpaaaDoor
