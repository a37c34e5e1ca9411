/- Whether all of a text stands between two bytes, walked. -/
import Derived.Test.YtgdgfefojfgpaaaDoorA5
set_option linter.unusedVariables false
set_option linter.unusedSimpArgs false
set_option maxRecDepth 100000
namespace Go.Proofs.YtgdgfefojfgpaaaDoor
open Go Go.Ab
/-- clavier/wire.between$1 -/
def ir_wirebetween1 : ICode :=
 (.seq
  (.reg [⟨some 4, none, .mov (.c (.bool false))⟩] (some [0, 1, 2]))
  (.seq
   (.reg [⟨some 5, none, .mov (.t 0)⟩,
     ⟨some 6, none, .ld none (.t 1)⟩,
     ⟨some 7, none, .cvi .i32 (.t 6)⟩,
     ⟨some 8, none, .bin .lss .none (.t 5) (.t 7)⟩,
     ⟨some 9, none, .mov (.t 8)⟩,
     ⟨some 10, some (9, false), .mov (.t 0)⟩,
     ⟨some 11, some (9, false), .ld none (.t 2)⟩,
     ⟨some 12, some (9, false), .cvi .i32 (.t 11)⟩,
     ⟨some 13, some (9, false), .bin .gtr .none (.t 10) (.t 12)⟩,
     ⟨some 14, none, .pick (.t 9) (.c (.bool true)) (.t 13)⟩,
     ⟨some 4, none, .mov (.t 14)⟩] (some [4]))
   .ret))
theorem is_wirebetween1 : IrOf Tryd.prog 52 15 ir_wirebetween1 [.t 4] := ⟨_, Tryd.func52, rfl, by kernel_rfl, by kernel_rfl, by kernel_rfl⟩

/-- clavier/wire.between -/
def ir_wirebetween : ICode :=
 (.seq
  (.reg [⟨some 4, none, .box 5 (.t 1)⟩,
    ⟨some 5, none, .box 5 (.t 2)⟩,
    ⟨some 6, none, .mov (.c (.bool false))⟩] (some [0, 4, 5]))
  (.seq
   (.reg [⟨some 7, none, .mov (.t 0)⟩,
     ⟨some 8, none, .mkf (.func 52) [] [(.t 4), (.t 5)]⟩,
     ⟨some 9, none, .call (.c (.fn (.func 51) [] [])) [(.t 7), (.t 8)]⟩,
     ⟨some 10, none, .un .not (.t 9)⟩,
     ⟨some 6, none, .mov (.t 10)⟩] (some [6]))
   .ret))
theorem is_wirebetween : IrOf Tryd.prog 40 11 ir_wirebetween [.t 6] := ⟨_, Tryd.func40, rfl, by kernel_rfl, by kernel_rfl, by kernel_rfl⟩


theorem rd2 {a b : Nm} {x y : Int} (ha : 1 ≤ a.1) (hb : 1 ≤ b.1) : Rd [(b, HB.cells [.int .u8 y]), (a, .cells [.int .u8 x])] := by
  refine ⟨fun f => ?_, fun p hp => ?_⟩
  · have e1 : rnN f a = a := by unfold rnN; rw [if_neg]; omega
    have e2 : rnN f b = b := by unfold rnN; rw [if_neg]; omega
    simp only [rnH, List.map_cons, List.map_nil, e1, e2, rnHB, rnL, Ab.rn]
  · simp only [List.mem_cons, List.not_mem_nil, or_false] at hp
    rcases hp with rfl | rfl
    · exact ⟨by unfold nmOK; rw [if_neg (by simp only; omega)]; simp, trivial, trivial⟩
    · exact ⟨by unfold nmOK; rw [if_neg (by simp only; omega)]; simp, trivial, trivial⟩

theorem fs_between1 {Gl : Gh → Prop} (hst : Stays Gl) {c : Nat} {x y : Int} {a b : Nm} (hab : a ≠ b) (ha : 1 ≤ a.1) (hb : 1 ≤ b.1) (hx : 0 ≤ x ∧ x < 256) (hy : 0 ≤ y ∧ y < 256) :
    FS Tryd.prog Gl 52 [.int .i32 c, .ptr a 0, .ptr b 0] [(b, .cells [.int .u8 y]), (a, .cells [.int .u8 x])] [] (.bool (decide ((c : Int) < x) || decide ((c : Int) > y))) [(b, .cells [.int .u8 y]), (a, .cells [.int .u8 x])] [] := by
  refine FS.of hm hst is_wirebetween1 (by simp) fun γ hγ hfr => ?_
  have hR := rd2 (x := x) (y := y) ha hb
  have w1 : IntKind.i32.wrap x = x := by rw [IntKind.wrap_i32]; omega
  have w2 : IntKind.i32.wrap y = y := by rw [IntKind.wrap_i32]; omega
  generalize hQ : (fun (ex : Ex) (_ _ : Nat) (s : St) => _) = Q
  unfold ir_wirebetween1
  simp +contextual (maxSteps := 1000000) only [hab, (Ne.symm hab), w1, w2, go_sem, reduceCtorEq, ↓reduceIte, Nat.reduceAdd, Nat.reduceEqDiff, Nat.reduceLeDiff, Nat.reduceMul, Nat.reduceBEq, Int.reduceBEq, Int.reduceBNe, Int.reduceLT, Int.reduceLE, Int.reduceGT, Int.reduceGE, Int.reduceToNat, Int.natCast_one, Int.natCast_zero, Int.cast_ofNat_Int]
  rw [← hQ]; exact ⟨trivial, Ret.reads hR rfl rfl (fun _ h => h)⟩

theorem bytes_get (s : List UInt8) (pos : Nat) (h : pos < s.length) (h' : pos < (⟨s.toArray⟩ : ByteArray).size) : (⟨s.toArray⟩ : ByteArray)[pos]'h' = s[pos] := rfl
theorem idxF_all {s : List UInt8} {x y : Int} (hy : y < 128) : ∀ (m pos : Nat), s.length - pos < m → (decide (idxF ⟨s.toArray⟩ (fun c => decide ((c : Int) < x) || decide ((c : Int) > y)) m pos ≥ 0) = !((s.drop pos).all fun c => decide (x ≤ c.toNat) && decide ((c.toNat : Int) ≤ y)))
  | 0, pos, h => by omega
  | m + 1, pos, h => by
    have hsz : (⟨s.toArray⟩ : ByteArray).size = s.length := by simp [ByteArray.size]
    unfold idxF
    by_cases hlt : pos < s.length
    · rw [if_pos (by rw [hsz]; exact hlt)]
      have hd : s.drop pos = s[pos] :: s.drop (pos + 1) := List.drop_eq_getElem_cons hlt
      by_cases ha : (s[pos]).toNat < 128
      · have hdec := decode_ascii ⟨s.toArray⟩ pos (by rw [hsz]; exact hlt) ha
        rw [bytes_get s pos hlt] at hdec
        rw [hdec, hd]
        simp only [List.all_cons]
        by_cases hq : (decide (((s[pos]).toNat : Int) < x) || decide (((s[pos]).toNat : Int) > y)) = true
        · rw [if_pos hq]
          have : (decide (x ≤ ((s[pos]).toNat : Int)) && decide (((s[pos]).toNat : Int) ≤ y)) = false := by
            rw [Bool.eq_false_iff]; simp at hq ⊢; omega
          rw [this]
          simp
        · rw [if_neg hq, idxF_all hy m (pos + 1) (by omega)]
          have : (decide (x ≤ ((s[pos]).toNat : Int)) && decide (((s[pos]).toNat : Int) ≤ y)) = true := by
            simp at hq ⊢; omega
          rw [this, Bool.true_and]
      · have hdec := decode_high ⟨s.toArray⟩ pos (by rw [hsz]; exact hlt) (by rw [bytes_get s pos hlt]; omega)
        rw [if_pos (by simp; right; omega), hd]
        have : (decide (x ≤ ((s[pos]).toNat : Int)) && decide (((s[pos]).toNat : Int) ≤ y)) = false := by
          rw [Bool.eq_false_iff]; simp; omega
        simp only [List.all_cons, this]
        simp
    · rw [if_neg (by rw [hsz]; exact hlt), List.drop_eq_nil_of_le (by omega)]
      simp

theorem fs_between {Gl : Gh → Prop} (hst : Stays Gl) {s : List UInt8} {x y : Int} (hs : s.length < 4611686018427387904) (hx : 0 ≤ x ∧ x < 256) (hy : 0 ≤ y ∧ y < 128) :
    FS Tryd.prog Gl 40 [.str s, .int .u8 x, .int .u8 y] [] [] (.bool (s.all fun c => decide (x ≤ c.toNat) && decide ((c.toNat : Int) ≤ y))) [] [] := by
  refine FS.of hm hst is_wirebetween (by simp) fun γ hγ hfr => ?_
  generalize hQ : (fun (ex : Ex) (_ _ : Nat) (s : St) => _) = Q
  unfold ir_wirebetween
  simp +contextual (maxSteps := 1000000) only [go_sem, reduceCtorEq, ↓reduceIte, Nat.reduceAdd, Nat.reduceEqDiff, Nat.reduceLeDiff, Nat.reduceMul, Nat.reduceBEq, Int.reduceBEq, Int.reduceBNe, Int.reduceLT, Int.reduceLE, Int.reduceGT, Int.reduceGE, Int.reduceToNat, Int.natCast_one, Int.natCast_zero, Int.cast_ofNat_Int]
  refine CallP.all (fs_ContainsFunc hst hs (rd2 hγ hγ) fun c => fs_between1 hst (by simp) hγ hγ hx (by omega)) (fun _ => rfl) (rd2 hγ hγ).rn ?_
  simp +contextual (maxSteps := 1000000) only [go_sem, reduceCtorEq, ↓reduceIte, Nat.reduceAdd, Nat.reduceEqDiff, Nat.reduceLeDiff, Nat.reduceMul, Nat.reduceBEq, Int.reduceBEq, Int.reduceBNe, Int.reduceLT, Int.reduceLE, Int.reduceGT, Int.reduceGE, Int.reduceToNat, Int.natCast_one, Int.natCast_zero, Int.cast_ofNat_Int]
  rw [← hQ]
  have e := idxF_all (s := s) (x := x) hy.2 (s.length + 1) 0 (by omega)
  rw [List.drop_zero] at e
  refine ⟨trivial, ?_⟩
  rw [e, Bool.not_not]
  exact Ret.flat rfl rfl
end Go.Proofs.YtgdgfefojfgpaaaDoor
