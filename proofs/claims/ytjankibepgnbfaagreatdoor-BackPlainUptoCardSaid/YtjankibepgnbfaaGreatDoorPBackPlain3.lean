/- Part 3 of 4 of a proof: the given statement BackPlain, whatever the input that its row lets in. Conditions: those of the given row and card alone. -/
import Derived.Test.YtjankibepgnbfaaGreatDoorPBackPlain2
import Derived.Test.YtjankibepgnbfaaGreatDoorShelf
import Derived.Test.YtjankibepgnbfaaGreatDoorPBackPlain1
import Derived.Test.YtjankibepgnbfaaGreatDoorPBackPlainAb12d
set_option linter.unusedVariables false
set_option linter.unusedSimpArgs false
set_option maxRecDepth 100000
namespace Go.Proofs.YtjankibepgnbfaaGreatDoor
open Go Go.Ab
def ir_wirebetween1 : ICode :=
 (.seq
 (.reg [qA 4 (.mov (qB false))] (some [0,1,2]))
 (.seq
 (.reg [qM 5 0,
 qL 6 1,
 qA 7 (.cvi .i32 (.t 6)),
 qA 8 (.bin .lss .none (.t 5) (.t 7)),
 qM 9 8,
 qG 10 9 false (.mov (.t 0)),
 qG 11 9 false (.ld none (.t 2)),
 qG 12 9 false (.cvi .i32 (.t 11)),
 qG 13 9 false (.bin .gtr .none (.t 10) (.t 12)),
 qA 14 (.pick (.t 9) (qB true) (.t 13)),
 qM 4 14] (some [4]))
 .ret))
theorem is_wirebetween1 : IrOf Tryz.prog 189 15 ir_wirebetween1 [.t 4] := ⟨_, Tryz.func189, rfl, by kernel_rfl, by kernel_rfl, by kernel_rfl⟩

def ir_wirebetween : ICode :=
 (.seq
 (.reg [qA 4 (.box 5 (.t 1)),
 qA 5 (.box 5 (.t 2)),
 qA 6 (.mov (qB false))] (some [0,4,5]))
 (.seq
 (.reg [qM 7 0,
 qA 8 (.mkf (.func 189) [] [(.t 4), (.t 5)]),
 qA 9 (.call (qC 188) [(.t 7), (.t 8)]),
 qA 10 (.un .not (.t 9)),
 qM 6 10] (some [6]))
 .ret))
theorem is_wirebetween : IrOf Tryz.prog 160 11 ir_wirebetween [.t 6] := ⟨_, Tryz.func160, rfl, by kernel_rfl, by kernel_rfl, by kernel_rfl⟩

theorem rd2 {a b : Nm} {x y : Int} (ha : 1 ≤ a.1) (hb : 1 ≤ b.1) : Rd [(b, HB.cells [.int .u8 y]), (a, .cells [.int .u8 x])] := by
  refine ⟨fun f => ?_, fun p hp => ?_⟩
  · have e1 : rnN f a = a := by unfold rnN; rw [if_neg]; omega
    have e2 : rnN f b = b := by unfold rnN; rw [if_neg]; omega
    simp only [rnH, List.map_cons, List.map_nil, e1, e2, rnHB, rnL, Ab.rn]
  · simp only [List.mem_cons, List.not_mem_nil, or_false] at hp
    rcases hp with rfl | rfl
    · exact ⟨by unfold nmOK; rw [if_neg (by simp only; omega)]; simp, trivial, trivial⟩
    · exact ⟨by unfold nmOK; rw [if_neg (by simp only; omega)]; simp, trivial, trivial⟩

theorem fs_between1 {Gl : Gh → Prop} (hst : Stays Gl) {c : Nat} {x y : Int} {a b : Nm} (hab : a ≠ b) (ha : 1 ≤ a.1) (hb : 1 ≤ b.1) (hx : 0 ≤ x ∧ x < 256) (hy : 0 ≤ y ∧ y < 256) :
    FS Tryz.prog Gl 189 [.int .i32 c, .ptr a 0, .ptr b 0] [(b, .cells [.int .u8 y]), (a, .cells [.int .u8 x])] [] (.bool (decide ((c : Int) < x) || decide ((c : Int) > y))) [(b, .cells [.int .u8 y]), (a, .cells [.int .u8 x])] [] := by
  refine FS.of hm hst is_wirebetween1 (by simp) fun γ hγ hfr => ?_
  have hR := rd2 (x := x) (y := y) ha hb
  have w1 : IntKind.i32.wrap x = x := by rw [IntKind.wrap_i32]; omega
  have w2 : IntKind.i32.wrap y = y := by rw [IntKind.wrap_i32]; omega
  generalize hQ : (fun (ex : Ex) (_ _ : Nat) (s : St) => _) = Q
  unfold ir_wirebetween1
  simp +contextual (maxSteps := 1000000) only [hab, (Ne.symm hab), w1, w2, go_sem, reduceCtorEq, ↓reduceIte, Nat.reduceAdd, Nat.reduceEqDiff]
  rw [← hQ]; exact ⟨trivial, Ret.reads hR rfl rfl (fun _ h => h)⟩

theorem bytes_get (s : List UInt8) (pos : Nat) (h : pos < s.length) (h' : pos < (⟨s.toArray⟩ : ByteArray).size) : (⟨s.toArray⟩ : ByteArray)[pos]'h' = s[pos] := rfl
theorem idxF_all {s : List UInt8} {x y : Int} (hy : y < 128) : ∀ (m pos : Nat), s.length - pos < m → (decide (idxF ⟨s.toArray⟩ (fun c => decide ((c : Int) < x) || decide ((c : Int) > y)) m pos ≥ 0) = !((s.drop pos).all fun c => decide (x ≤ c.toNat) && decide ((c.toNat : Int) ≤ y)))
  | 0, pos, h => by omega
  | m + 1, pos, h => by
    have hsz : (⟨s.toArray⟩ : ByteArray).size = s.length := by simp [ByteArray.size]
    unfold idxF
    by_cases hlt : pos < s.length
    · rw [if_pos (by rw [hsz]; exact hlt)]
      have hd : s.drop pos = s[pos] :: s.drop (pos + 1) := List.drop_eq_getElem_cons hlt
      by_cases ha : (s[pos]).toNat < 128
      · have hdec := decode_ascii ⟨s.toArray⟩ pos (by rw [hsz]; exact hlt) ha
        rw [bytes_get s pos hlt] at hdec
        rw [hdec, hd]
        simp only [List.all_cons]
        by_cases hq : (decide (((s[pos]).toNat : Int) < x) || decide (((s[pos]).toNat : Int) > y)) = true
        · rw [if_pos hq]
          have : (decide (x ≤ ((s[pos]).toNat : Int)) && decide (((s[pos]).toNat : Int) ≤ y)) = false := by
            rw [Bool.eq_false_iff]; simp at hq ⊢; omega
          rw [this]
          simp
        · rw [if_neg hq, idxF_all hy m (pos + 1) (by omega)]
          have : (decide (x ≤ ((s[pos]).toNat : Int)) && decide (((s[pos]).toNat : Int) ≤ y)) = true := by
            simp at hq ⊢; omega
          rw [this, Bool.true_and]
      · have hdec := decode_high ⟨s.toArray⟩ pos (by rw [hsz]; exact hlt) (by rw [bytes_get s pos hlt]; omega)
        rw [if_pos (by simp; right; omega), hd]
        have : (decide (x ≤ ((s[pos]).toNat : Int)) && decide (((s[pos]).toNat : Int) ≤ y)) = false := by
          rw [Bool.eq_false_iff]; simp; omega
        simp only [List.all_cons, this]
        simp
    · rw [if_neg (by rw [hsz]; exact hlt), List.drop_eq_nil_of_le (by omega)]
      simp

theorem fs_between {Gl : Gh → Prop} (hst : Stays Gl) {s : List UInt8} {x y : Int} (hs : s.length < 9223372036854775808) (hx : 0 ≤ x ∧ x < 256) (hy : 0 ≤ y ∧ y < 128) :
    FS Tryz.prog Gl 160 [.str s, .int .u8 x, .int .u8 y] [] [] (.bool (s.all fun c => decide (x ≤ c.toNat) && decide ((c.toNat : Int) ≤ y))) [] [] := by
  refine FS.of hm hst is_wirebetween (by simp) fun γ hγ hfr => ?_
  generalize hQ : (fun (ex : Ex) (_ _ : Nat) (s : St) => _) = Q
  unfold ir_wirebetween
  simp +contextual (maxSteps := 1000000) only [go_sem, reduceCtorEq, ↓reduceIte, Nat.reduceAdd, Nat.reduceEqDiff]
  refine CallP.all (fs_ContainsFunc hst hs (rd2 hγ hγ) fun c => fs_between1 hst (by simp) hγ hγ hx (by omega)) (fun _ => rfl) (rd2 hγ hγ).rn ?_
  simp +contextual (maxSteps := 1000000) only [go_sem, ↓reduceIte, Nat.reduceAdd]
  rw [← hQ]
  have e := idxF_all (s := s) (x := x) hy.2 (s.length + 1) 0 (by omega)
  rw [List.drop_zero] at e
  refine ⟨trivial, ?_⟩
  rw [e, Bool.not_not]
  exact Ret.flat rfl rfl
end Go.Proofs.YtjankibepgnbfaaGreatDoor

namespace Go.Proofs.YtjankibepgnbfaaGreatDoor
open Go Go.Ab
def ir_numTake1 : ICode :=
 (.seq
 (.reg [qA 2 (.mov (qB false))] (some [0]))
 (.seq
 (.reg [qM 3 0,
 qA 4 (.bin .geq .none (.t 3) (.c (.int .u8 48))),
 qM 5 4,
 qG 6 5 true (.mov (.t 0)),
 qG 7 5 true (.bin .leq .none (.t 6) (.c (.int .u8 57))),
 qA 8 (.pick (.t 5) (.t 7) (qB false)),
 qM 2 8] (some [2]))
 .ret))
theorem is_numTake1 : IrOf Tryz.prog 232 9 ir_numTake1 [.t 2] := ⟨_, Tryz.func232, rfl, by kernel_rfl, by kernel_rfl, by kernel_rfl⟩

def ir_numTake : ICode :=
 (.seq
 (.reg [qA 2 (.mov (qI 0)),
 qA 3 (.mov (qI 0))] (some [0]))
 (.seq
 (.reg [qA 4 (.mov (qC 232))] (some [0,4]))
 (.seq
 (.reg [qA 5 (.mov (qI 0))] (some [0,4,5]))
 (.seq
 (.seq
 (.reg [qM 7 0,
 qA 8 (.len (.t 7)),
 qA 9 (.mov (qI 0))] (some [0,4,5,8,9]))
 (.blk 0
 (.loop
 (.seq
 (.reg [qA 10 (.bin .lss .none (.t 9) (.t 8))] (some [0,4,5,8,9,10]))
 (.seq
 (.cond (.t 10)
 .skip
 (.exit 0))
 (.seq
 (.blk 1
 (.seq
 (.reg [qM 11 9,
 qM 6 11] (some [0,4,5,6,8,9]))
 (.seq
 (.seq
 (.reg [qM 12 4,
 qM 13 0,
 qM 14 6,
 qA 15 (.ia 1 (.t 13) (.t 14)),
 qL 16 15,
 qA 17 (.call (.t 12) [(.t 16)]),
 qA 18 (.un .not (.t 17))] (some [0,4,5,6,8,9,18]))
 (.cond (.t 18)
 (.seq
 (.reg [qM 19 5,
 qM 20 6,
 qM 2 19,
 qM 3 20] (some [2,3]))
 .ret)
 .skip))
 (.reg [qM 21 5,
 qA 22 (.bin .mul .none (qI 10) (.t 21)),
 qM 23 0,
 qM 24 6,
 qA 25 (.ia 1 (.t 23) (.t 24)),
 qL 26 25,
 qA 27 (.bin .sub .none (.t 26) (.c (.int .u8 48))),
 qA 28 (.cvi .i64 (.t 27)),
 qA 29 (.bin .add .none (.t 22) (.t 28)),
 qA 30 (.mm true (.t 29) (qI 1114111)),
 qM 5 30] (some [0,4,5,8,9])))))
 (.reg [qA 31 (.bin .add .none (.t 9) (qI 1)),
 qM 9 31] (some [0,4,5,8,9]))))))))
 (.seq
 (.reg [qM 32 5,
 qM 33 0,
 qA 34 (.len (.t 33)),
 qM 2 32,
 qM 3 34] (some [2,3]))
 .ret)))))
theorem is_numTake : IrOf Tryz.prog 220 35 ir_numTake [.t 2, .t 3] := ⟨_, Tryz.func220, rfl, by kernel_rfl, by kernel_rfl, by kernel_rfl⟩

def fig (c : UInt8) : Bool := decide (48 ≤ c.toNat) && decide (c.toNat ≤ 57)
theorem fs_take1 {Gl : Gh → Prop} (hst : Stays Gl) {c : UInt8} : FS Tryz.prog Gl 232 [.int .u8 (c.toNat : Int)] [] [] (.bool (fig c)) [] [] := by
  refine FS.of hm hst is_numTake1 (by simp) fun γ hγ hfr => ?_
  generalize hQ : (fun (ex : Ex) (_ _ : Nat) (s : St) => _) = Q
  unfold ir_numTake1
  simp +contextual (maxSteps := 1000000) only [go_sem, reduceCtorEq, ↓reduceIte, Nat.reduceAdd, Nat.reduceEqDiff]
  have e : (decide ((c.toNat : Int) ≥ 48) && decide ((c.toNat : Int) ≤ 57)) = fig c := by
    unfold fig; rw [Bool.eq_iff_iff]; simp; omega
  rw [← hQ, e]
  exact ⟨trivial, Ret.flat rfl rfl⟩

def takeN : List UInt8 → Nat → Nat → Nat × Nat
  | [], n, k => (n, k)
  | c :: l, n, k => if fig c = true then takeN l (min (10 * n + (c.toNat - 48)) 1114111) (k + 1) else (n, k)

theorem bytesAV_get {b : List UInt8} {i : Nat} (h : i < b.length) : (bytesAV b).getD i [] = [.int .u8 ((b[i]).toNat : Int)] := by
  rw [List.getD_eq_getElem?_getD]
  simp [bytesAV, h]

theorem fs_take {Gl : Gh → Prop} (hst : Stays Gl) {b : List UInt8} {t0 : Option Nm} (hb : b.length < 9223372036854775808) : FS Tryz.prog Gl 220 [.sl t0 1 (bytesAV b)] [] [] (.tup [.int .i64 (takeN b 0 0).1, .int .i64 (takeN b 0 0).2]) [] [] := by
  refine FS.of hm hst is_numTake (by simp) fun γ hγ hfr => ?_
  generalize hQ : (fun (ex : Ex) (_ _ : Nat) (s : St) => _) = Q
  unfold ir_numTake
  simp +contextual (maxSteps := 1000000) only [go_sem, reduceCtorEq, ↓reduceIte, Nat.reduceAdd, Nat.reduceEqDiff]
  refine kLoop_ix (fun q : Nat × Nat => ⟨lf [(0, .sl t0 1 (bytesAV b)), (4, .fn (.func 232) [] []), (5, .int .i64 (q.2 : Int)), (8, .int .i64 (b.length : Int)), (9, .int .i64 (q.1 : Int))], [], fun x => x ∈ []⟩) (fun q => q.1 ≤ b.length ∧ q.2 ≤ 1114111 ∧ takeN b 0 0 = takeN (b.drop q.1) q.2 q.1) (fun q => b.length - q.1) 0 (0, 0) (Wk.same ?_) ?_ ?_
  · simp only [lfOK, upd, initF, bytesAV_length]
    repeat' first | exact AVle.refl _ _ | exact trivial | refine And.intro ?_ ?_
  · simp
  · rintro γ' ⟨i, n⟩ hf ⟨hi, hn, hinv⟩
    simp only at hi hn hinv
    generalize hQ' : kIt _ _ _ _ _ = Q'
    by_cases hlt : i < b.length
    · have hd : decide ((i : Int) < (b.length : Int)) = true := by simp; omega
      have hget : (bytesAV b).getD (i : Int).toNat [] = [.int .u8 ((b[i]).toNat : Int)] := by rw [Int.toNat_natCast]; exact bytesAV_get hlt
      have hdrop : b.drop i = b[i] :: b.drop (i + 1) := (List.drop_eq_getElem_cons hlt)
      simp +contextual (maxSteps := 1000000) only [hd, hget, bytesAV_length, go_sem, reduceCtorEq, ↓reduceIte, Nat.reduceAdd, Nat.reduceEqDiff]
      refine ⟨by omega, CallP.pure (fs_take1 hst) (fun _ => rfl) ?_⟩
      cases hfig : fig b[i] with
      | false =>
        simp +contextual (maxSteps := 1000000) only [go_sem, reduceCtorEq, ↓reduceIte, Nat.reduceAdd, Nat.reduceEqDiff]
        rw [← hQ']
        simp only [w_kIt_r, w_kBlk_r, w_kSeq_r]
        rw [← hQ, hinv, hdrop, takeN, if_neg (by rw [hfig]; simp)]
        exact ⟨trivial, Ret.flat2⟩
      | true =>
        simp +contextual (maxSteps := 1000000) only [hget, bytesAV_length, go_sem, reduceCtorEq, ↓reduceIte, Nat.reduceAdd, Nat.reduceEqDiff]
        refine ⟨by omega, ?_⟩
        have hc : 48 ≤ (b[i]).toNat ∧ (b[i]).toNat ≤ 57 := by simpa [fig] using hfig
        rw [← hQ']
        simp only [w_kIt_n]
        refine ⟨0, (i + 1, min (10 * n + ((b[i]).toNat - 48)) 1114111), Wk.same ?_, ⟨by simp only; omega, by simp only; omega, ?_⟩, by simp only; omega⟩
        · repeat' first | exact AVle.refl _ _ | exact trivial | refine And.intro ?_ ?_
          · refine AVle.int ?_
            simp only [IntKind.wrap_i64, IntKind.wrap_u8]
            split <;> omega
          · exact AVle.int (by simp only [IntKind.wrap_i64]; omega)
        · simp only
          rw [hinv, hdrop, takeN, if_pos hfig]
    · have hd : decide ((i : Int) < (b.length : Int)) = false := by simp; omega
      simp +contextual (maxSteps := 1000000) only [hd, go_sem, reduceCtorEq, ↓reduceIte, Nat.reduceAdd, Nat.reduceEqDiff]
      rw [← hQ']
      simp only [w_kIt_e, w_kBlk_e, ↓reduceIte]
      simp +contextual (maxSteps := 1000000) only [go_sem, reduceCtorEq, ↓reduceIte, Nat.reduceAdd, Nat.reduceEqDiff]
      have hi' : i = b.length := by omega
      rw [← hQ, hinv, hi', List.drop_length, takeN]
      refine ⟨trivial, ?_⟩
      rw [bytesAV_length]
      exact Ret.flat2
end Go.Proofs.YtjankibepgnbfaaGreatDoor

namespace Go.Proofs.YtjankibepgnbfaaGreatDoor
open Go Go.Ab
def ir_stringsIndex : ICode :=
 (.seq
 (.reg [qA 4 (.mov (qI 0))] (some [0,1]))
 (.seq
 (.reg [qM 5 0,
 qM 6 1,
 qA 7 (.call (qC 236) [(.t 5), (.t 6)]),
 qM 4 7] (some [4]))
 .ret))
theorem is_stringsIndex : IrOf Tryz.prog 231 8 ir_stringsIndex [.t 4] := ⟨_, Tryz.func231, rfl, by kernel_rfl, by kernel_rfl, by kernel_rfl⟩

def ir_stringssplitSeq1 : ICode :=
 (.seq
 (.seq
 (.reg [qL 9 1,
 qA 10 (.lns (.t 9)),
 qA 11 (.bin .eql .none (.t 10) (qI 0))] (some [0,1,2,3,11]))
 (.cond (.t 11)
 (.seq
 (.blk 0
 (.loop
 (.seq
 (.seq
 (.reg [qL 12 2,
 qA 13 (.lns (.t 12)),
 qA 14 (.bin .gtr .none (.t 13) (qI 0))] (some [0,2,14]))
 (.cond (.t 14)
 .skip
 (.exit 0)))
 (.blk 1
 (.seq
 (.reg [qL 16 2,
 qA 17 (.call (qC 230) [(.t 16)]),
 qM 15 17,
 qE 18 15 0,
 qE 19 15 1,
 qM 5 18,
 qM 6 19] (some [0,2,6]))
 (.seq
 (.seq
 (.reg [qM 20 0,
 qL 21 2,
 qM 22 6,
 qA 23 (.sls (.t 21) none (some (.t 22))),
 qA 24 (.call (.t 20) [(.t 23)]),
 qA 25 (.un .not (.t 24))] (some [0,2,6,25]))
 (.cond (.t 25)
 .ret
 .skip))
 (.reg [qL 26 2,
 qM 27 6,
 qA 28 (.sls (.t 26) (some (.t 27)) none),
 qN (.st 1 (.t 2) (.t 28))] (some [0,2]))))))))
 .ret)
 .skip))
 (.seq
 (.blk 2
 (.loop
 (.blk 3
 (.seq
 (.reg [qL 29 2,
 qL 30 1,
 qA 31 (.call (qC 231) [(.t 29), (.t 30)]),
 qM 7 31] (some [0,1,2,3,7]))
 (.seq
 (.seq
 (.reg [qM 32 7,
 qA 33 (.bin .lss .none (.t 32) (qI 0))] (some [0,1,2,3,7,33]))
 (.cond (.t 33)
 (.exit 2)
 .skip))
 (.seq
 (.reg [qL 34 2,
 qM 35 7,
 qL 36 3,
 qA 37 (.bin .add .none (.t 35) (.t 36)),
 qA 38 (.sls (.t 34) none (some (.t 37))),
 qM 8 38] (some [0,1,2,3,7,8]))
 (.seq
 (.seq
 (.reg [qM 39 0,
 qM 40 8,
 qA 41 (.call (.t 39) [(.t 40)]),
 qA 42 (.un .not (.t 41))] (some [0,1,2,3,7,42]))
 (.cond (.t 42)
 .ret
 .skip))
 (.reg [qL 43 2,
 qM 44 7,
 qL 45 1,
 qA 46 (.lns (.t 45)),
 qA 47 (.bin .add .none (.t 44) (.t 46)),
 qA 48 (.sls (.t 43) (some (.t 47)) none),
 qN (.st 1 (.t 2) (.t 48))] (some [0,1,2,3])))))))))
 (.reg [qM 49 0,
 qL 50 2,
 qA 51 (.call (.t 49) [(.t 50)])] (some []))))
theorem is_stringssplitSeq1 : IrOf Tryz.prog 229 52 ir_stringssplitSeq1 [] := ⟨_, Tryz.func229, rfl, by kernel_rfl, by kernel_rfl, by kernel_rfl⟩

def ir_stringssplitSeq : ICode :=
 (.seq
 (.reg [qA 3 (.box 9 (.t 0)),
 qA 4 (.box 9 (.t 1)),
 qA 5 (.box 3 (.t 2)),
 qA 6 (.mov (.c .nilf))] (some [3,4,5]))
 (.seq
 (.reg [qA 7 (.mkf (.func 229) [] [(.t 4), (.t 3), (.t 5)]),
 qM 6 7] (some [6]))
 .ret))
theorem is_stringssplitSeq : IrOf Tryz.prog 219 8 ir_stringssplitSeq [.t 6] := ⟨_, Tryz.func219, rfl, by kernel_rfl, by kernel_rfl, by kernel_rfl⟩

def ir_stringsSplitSeq : ICode :=
 (.seq
 (.reg [qA 4 (.mov (.c .nilf))] (some [0,1]))
 (.seq
 (.reg [qM 5 0,
 qM 6 1,
 qA 7 (.call (qC 219) [(.t 5), (.t 6), (qI 0)]),
 qM 4 7] (some [4]))
 .ret))
theorem is_stringsSplitSeq : IrOf Tryz.prog 209 8 ir_stringsSplitSeq [.t 4] := ⟨_, Tryz.func209, rfl, by kernel_rfl, by kernel_rfl, by kernel_rfl⟩

def idxB (c : UInt8) : List UInt8 → Option Nat
  | [] => none
  | d :: l => if d = c then some 0 else (idxB c l).map (· + 1)
def splitB (c : UInt8) : List UInt8 → List (List UInt8)
  | [] => [[]]
  | d :: l => if d = c then [] :: splitB c l else match splitB c l with
    | p :: ps => (d :: p) :: ps
    | [] => [[d]]
theorem splitB_ne (c : UInt8) : ∀ l, splitB c l ≠ []
  | [] => by simp [splitB]
  | d :: l => by
    simp only [splitB]
    split
    · simp
    · split <;> simp
theorem splitB_eq (c : UInt8) : ∀ l, splitB c l = match idxB c l with | none => [l] | some i => l.take i :: splitB c (l.drop (i + 1))
  | [] => rfl
  | d :: l => by
    simp only [splitB, idxB]
    split
    · rename_i h; simp
    · have ih := splitB_eq c l
      cases h : idxB c l with
      | none => rw [h] at ih; simp only at ih; rw [ih]; simp
      | some i => rw [h] at ih; simp only at ih; rw [ih]; simp
theorem idxB_lt {c : UInt8} : ∀ {l : List UInt8} {i : Nat}, idxB c l = some i → i < l.length
  | [], _, h => by simp [idxB] at h
  | d :: l, i, h => by
    simp only [idxB] at h
    split at h
    · cases h; simp
    · obtain ⟨j, hj, rfl⟩ := Option.map_eq_some_iff.1 h
      have := idxB_lt hj
      simp; omega
theorem indexByte_idxB (c : UInt8) : ∀ l, Lib.indexByte l c = match idxB c l with | some i => (i : Int) | none => -1
  | [] => rfl
  | d :: l => by
    simp only [Lib.indexByte, idxB, indexByte_idxB c l]
    by_cases h : d = c
    · simp [h]
    · have hb : (d == c) = false := by simpa using h
      rw [hb, if_neg h]
      cases hi : idxB c l with
      | none => simp
      | some i =>
        simp only [Option.map_some]
        have : ((i : Int) == -1) = false := by simp
        simp [this]

theorem fs_index {Gl : Gh → Prop} {s : List UInt8} {c : UInt8} : FS Tryz.prog Gl 231 [.str s, .str [c]] [] [] (.int .i64 (match idxB c s with | some i => (i : Int) | none => -1)) [] [] := by
  refine FS.of_calls is_stringsIndex.enters (fun _ => rfl) fun g w vs hinv hgl hargs => ?_
  obtain ⟨v1, r1, rfl, h1, v2, r2, rfl, h2, h3⟩ := hargs
  cases h1; cases h2; cases h3
  refine ⟨_, rfl, (Tryz.strings_Index_one ⟨s.toArray⟩ c w).mono ?_⟩
  rintro e w' ⟨rfl, rfl⟩
  exact ⟨by rw [indexByte_idxB], rfl⟩

theorem it_split {Gl : Gh → Prop} {s : List UInt8} {c : UInt8} {a b d : Nm} (hab : a ≠ b) (had : a ≠ d) (hbd : b ≠ d) (hs : s.length < 4294967281) :
    IterS Tryz.prog Gl 229 [.ptr b 0, .ptr a 0, .ptr d 0] [(d, .cells [.int .i64 0]), (b, .cells [.str [c]]), (a, .cells [.str s])] ((splitB c s).map fun p => [.str p]) := by
  intro Gl' hst hG id J Jx hJid hround H T hJ
  refine FSX.of hm hst is_stringssplitSeq1 (by simp) fun γ hγ hfr => ?_
  generalize hQ : (fun (ex : Ex) (_ _ : Nat) (s : St) => _) = Q
  unfold ir_stringssplitSeq1
  simp +contextual (maxSteps := 1000000) only [hab, had, hbd, (Ne.symm hab), (Ne.symm had), (Ne.symm hbd), go_sem, reduceCtorEq, ↓reduceIte, Nat.reduceAdd, Nat.reduceEqDiff, Int.reduceBEq]
  refine kLoop_ix (fun q : Nat × List UInt8 × Hp × Tk => ⟨lf [(0, .yl id), (1, .ptr b 0), (2, .ptr a 0), (3, .ptr d 0)], [(d, .cells [.int .i64 0]), (b, .cells [.str [c]]), (a, .cells [.str q.2.1])] ++ q.2.2.1, q.2.2.2⟩)
    (fun q => J q.1 q.2.2.1 q.2.2.2 ∧ q.2.1.length ≤ s.length ∧ ∃ done : List (List UInt8), done.length = q.1 ∧ splitB c s = done ++ splitB c q.2.1)
    (fun q => q.2.1.length) 0 (0, s, H, T) ?_ ?_ ?_
  · refine Wk.same ?_
    simp only [lfOK, upd, initF]
    repeat' first | exact AVle.refl _ _ | exact trivial | refine And.intro ?_ ?_
  · exact ⟨hJ, Nat.le_refl _, [], rfl, rfl⟩
  · rintro γ' ⟨j, r, Hj, Tj⟩ hf ⟨hJj, hrl, done, hdone, hsp⟩
    simp only at hJj hrl hdone hsp
    generalize hQ' : kIt _ _ _ _ _ = Q'
    have hap := hJid j Hj Tj hJj
    simp +contextual (maxSteps := 1000000) only [hab, had, hbd, (Ne.symm hab), (Ne.symm had), (Ne.symm hbd), go_sem, reduceCtorEq, ↓reduceIte, Nat.reduceAdd, Nat.reduceEqDiff]
    refine CallP.pure fs_index (fun _ => rfl) ?_
    rw [splitB_eq c r] at hsp
    cases hix : idxB c r with
    | none =>
      rw [hix] at hsp
      simp only at hsp
      simp +contextual (maxSteps := 1000000) only [hab, had, hbd, (Ne.symm hab), (Ne.symm had), (Ne.symm hbd), go_sem, reduceCtorEq, ↓reduceIte, Nat.reduceAdd, Nat.reduceEqDiff, Int.reduceLT]
      rw [← hQ']
      simp +contextual (maxSteps := 1000000) only [hab, had, hbd, (Ne.symm hab), (Ne.symm had), (Ne.symm hbd), go_sem, reduceCtorEq, ↓reduceIte, Nat.reduceAdd, Nat.reduceEqDiff]
      have hit : ((splitB c s).map fun p => [AV.str p])[j]? = some [.str r] := by
        rw [hsp, ← hdone]; simp
      have hlen : ((splitB c s).map fun p => [AV.str p]).length = j + 1 := by rw [hsp]; simp [hdone]
      refine CallY.splitT (Ha := [(d, .cells [.int .i64 0]), (b, .cells [.str [c]]), (a, .cells [.str r])]) (hround j _ Hj Tj hit hJj) (fun p hp q hq => ?_) fun rv H1 T1 hR => ?_
      · simp only [List.mem_cons, List.not_mem_nil, or_false] at hp
        rcases hp with rfl | rfl | rfl
        · exact hap _ (by simp) q hq
        · exact hap _ (List.mem_cons_of_mem _ List.mem_cons_self) q hq
        · exact hap _ (List.mem_cons_of_mem _ (List.mem_cons_of_mem _ List.mem_cons_self)) q hq
      · simp +contextual (maxSteps := 1000000) only [go_sem]
        rw [← hQ]
        refine ⟨trivial, H1, T1, ?_, fun p hp => by simp [hp], fun t ht => ht⟩
        rw [hlen]
        rcases hR with ⟨_, h⟩ | ⟨_, h⟩
        · exact .inl h
        · exact .inr h
    | some i =>
      rw [hix] at hsp
      simp only at hsp
      have hil := idxB_lt hix
      have hd : decide ((i : Int) < 0) = false := by simp
      have hw : IntKind.i64.wrap ((i : Int) + 0) = i := by rw [IntKind.wrap_i64]; omega
      have hw2 : IntKind.i64.wrap ((i : Int) + 1) = ((i + 1 : Nat) : Int) := by rw [IntKind.wrap_i64]; omega
      simp +contextual (maxSteps := 1000000) only [hab, had, hbd, (Ne.symm hab), (Ne.symm had), (Ne.symm hbd), hd, hw, Int.toNat_natCast, Int.toNat_zero, go_sem, reduceCtorEq, ↓reduceIte, Nat.reduceAdd, Nat.reduceEqDiff, Int.reduceLE]
      refine ⟨⟨by omega, by omega⟩, ?_⟩
      have hit : ((splitB c s).map fun p => [AV.str p])[j]? = some [.str (r.take i)] := by
        rw [hsp, ← hdone]; simp
      refine CallY.splitT (Ha := [(d, .cells [.int .i64 0]), (b, .cells [.str [c]]), (a, .cells [.str r])]) (hround j _ Hj Tj hit hJj) (fun p hp q hq => ?_) fun rv H1 T1 hR => ?_
      · simp only [List.mem_cons, List.not_mem_nil, or_false] at hp
        rcases hp with rfl | rfl | rfl
        · exact hap _ (by simp) q hq
        · exact hap _ (List.mem_cons_of_mem _ List.mem_cons_self) q hq
        · exact hap _ (List.mem_cons_of_mem _ (List.mem_cons_of_mem _ List.mem_cons_self)) q hq
      · rcases hR with ⟨rfl, hR⟩ | ⟨rfl, hR⟩
        · have hs1 : ∀ hb, setH H1 a hb = H1 := fun hb => setH_ne fun q hq => hJid _ _ _ hR (a, .cells [.str s]) (by simp) q hq
          simp +contextual (maxSteps := 1000000) only [hab, had, hbd, (Ne.symm hab), (Ne.symm had), (Ne.symm hbd), hw2, hs1, Int.toNat_natCast, Int.toNat_zero, go_sem, reduceCtorEq, ↓reduceIte, Nat.reduceAdd, Nat.reduceEqDiff]
          refine ⟨⟨by omega, by omega, by omega⟩, ?_⟩
          rw [← hQ']
          simp only [w_kIt_n, w_kBlk_n, w_kSeq_n]
          refine ⟨0, (j + 1, r.drop (i + 1), H1, T1), ?_, ⟨hR, by simp only [List.length_drop]; omega, done ++ [r.take i], by simp [hdone], by rw [hsp]; simp⟩, by simp only [List.length_drop]; omega⟩
          refine Wk.perm ?_ (fun p hp => ?_)
          · repeat' first | exact AVle.refl _ _ | exact trivial | refine And.intro ?_ ?_
          · simp only [List.take_length]
            exact hp
        · simp +contextual (maxSteps := 1000000) only [hab, had, hbd, (Ne.symm hab), (Ne.symm had), (Ne.symm hbd), go_sem, reduceCtorEq, ↓reduceIte, Nat.reduceAdd, Nat.reduceEqDiff]
          rw [← hQ']
          simp +contextual (maxSteps := 1000000) only [go_sem]
          rw [← hQ]
          exact ⟨trivial, H1, T1, .inr hR, fun p hp => by simp [hp], fun t ht => ht⟩

def hpSplit (s : List UInt8) (c : UInt8) (a b d : Nm) : Hp := [(d, .cells [.int .i64 0]), (b, .cells [.str [c]]), (a, .cells [.str s])]
theorem fs_splitSeq0 {Gl : Gh → Prop} (hst : Stays Gl) {s : List UInt8} {c : UInt8} : FS Tryz.prog Gl 219 [.str s, .str [c], .int .i64 0] [] [] (.fn (.func 229) [] [.ptr (0, 0, 1) 0, .ptr (0, 0, 0) 0, .ptr (0, 0, 2) 0]) (hpSplit s c (0, 0, 0) (0, 0, 1) (0, 0, 2)) [] := by
  refine FS.of hm hst is_stringssplitSeq (by simp) fun γ hγ hfr => ?_
  generalize hQ : (fun (ex : Ex) (_ _ : Nat) (s : St) => _) = Q
  unfold ir_stringssplitSeq
  simp +contextual (maxSteps := 1000000) only [go_sem, ↓reduceIte, Nat.reduceAdd, Nat.reduceEqDiff]
  rw [← hQ]
  refine ⟨trivial, [(γ, 0, 0), (γ, 1, 0), (γ, 2, 0)], by simp, by simp, rfl, ?_, by simp, ?_, ?_, by simp⟩
  · simp [rnH, hpSplit, rnN, rnHB, rnL, Ab.rn]
  · simp [AV.okIn, AV.okInL, nmOK]
  · simp [hpSplit, AV.okIn, AV.okInL, nmOK, HB.okIn]
theorem fs_SplitSeq {Gl : Gh → Prop} (hst : Stays Gl) {s : List UInt8} {c : UInt8} : FS Tryz.prog Gl 209 [.str s, .str [c]] [] [] (.fn (.func 229) [] [.ptr (0, 0, 1) 0, .ptr (0, 0, 0) 0, .ptr (0, 0, 2) 0]) (hpSplit s c (0, 0, 0) (0, 0, 1) (0, 0, 2)) [] := by
  refine FS.of hm hst is_stringsSplitSeq (by simp) fun γ hγ hfr => ?_
  generalize hQ : (fun (ex : Ex) (_ _ : Nat) (s : St) => _) = Q
  unfold ir_stringsSplitSeq
  simp +contextual (maxSteps := 1000000) only [go_sem, reduceCtorEq, ↓reduceIte, Nat.reduceAdd, Nat.reduceEqDiff]
  refine CallP.of (fs_splitSeq0 hst) (by simp) (by simp) ?_
  simp only [rnH, hpSplit, rnN, rnHB, rnL, Ab.rn]
  simp +contextual (maxSteps := 1000000) only [go_sem, ↓reduceIte, Nat.reduceAdd]
  rw [← hQ]
  refine ⟨trivial, [(γ, 3, 0), (γ, 3, 1), (γ, 3, 2)], by simp, by simp, rfl, ?_, by simp, ?_, ?_, by simp⟩
  · simp [rnH, hpSplit, rnN, rnHB, rnL, Ab.rn]
  · simp [AV.okIn, AV.okInL, nmOK]
  · simp [hpSplit, AV.okIn, AV.okInL, nmOK, HB.okIn]
end Go.Proofs.YtjankibepgnbfaaGreatDoor

namespace Go.Proofs.YtjankibepgnbfaaGreatDoor
open Go Go.Ab
def ir_slicesEqualintint : ICode :=
 (.seq
 (.reg [qA 4 (.mov (qB false))] (some [0,1]))
 (.seq
 (.seq
 (.reg [qM 6 0,
 qA 7 (.len (.t 6)),
 qM 8 1,
 qA 9 (.len (.t 8)),
 qA 10 (.bin .neq .none (.t 7) (.t 9))] (some [0,1,10]))
 (.cond (.t 10)
 (.seq
 (.reg [qA 4 (.mov (qB false))] (some [4]))
 .ret)
 .skip))
 (.seq
 (.seq
 (.reg [qM 11 0,
 qA 12 (.len (.t 11)),
 qA 13 (.mov (qI 0))] (some [0,1,12,13]))
 (.blk 0
 (.loop
 (.seq
 (.reg [qA 14 (.bin .lss .none (.t 13) (.t 12))] (some [0,1,12,13,14]))
 (.seq
 (.cond (.t 14)
 .skip
 (.exit 0))
 (.seq
 (.blk 1
 (.seq
 (.reg [qM 15 13,
 qM 5 15] (some [0,1,5,12,13]))
 (.seq
 (.drw [⟨qM 16 0, []⟩,
 ⟨qM 17 5, []⟩,
 ⟨qA 18 (.ia 1 (.t 16) (.t 17)), [0,1]⟩,
 ⟨qL 19 18, [2]⟩,
 ⟨qM 20 1, []⟩,
 ⟨qM 21 5, []⟩,
 ⟨qA 22 (.ia 1 (.t 20) (.t 21)), [4,5]⟩,
 ⟨qL 23 22, [6]⟩,
 ⟨qA 24 (.bin .neq .none (.t 19) (.t 23)), [3,7]⟩]
 [] (some [0,1,12,13,24]))
 (.cond (.t 24)
 (.seq
 (.reg [qA 4 (.mov (qB false))] (some [4]))
 .ret)
 .skip))))
 (.reg [qA 25 (.bin .add .none (.t 13) (qI 1)),
 qM 13 25] (some [0,1,12,13]))))))))
 (.seq
 (.reg [qA 4 (.mov (qB true))] (some [4]))
 .ret))))
theorem is_slicesEqualintint : IrOf Tryz.prog 152 26 ir_slicesEqualintint [.t 4] := ⟨_, Tryz.func152, rfl, by kernel_rfl, by kernel_rfl, by kernel_rfl⟩

def ir_slicesIndexFuncintint : ICode :=
 (.seq
 (.reg [qA 4 (.mov (qI 0))] (some [0,1]))
 (.seq
 (.seq
 (.reg [qM 6 0,
 qA 7 (.len (.t 6)),
 qA 8 (.mov (qI 0))] (some [0,1,7,8]))
 (.blk 0
 (.loop
 (.seq
 (.reg [qA 9 (.bin .lss .none (.t 8) (.t 7))] (some [0,1,7,8,9]))
 (.seq
 (.cond (.t 9)
 .skip
 (.exit 0))
 (.seq
 (.blk 1
 (.seq
 (.reg [qM 10 8,
 qM 5 10] (some [0,1,5,7,8]))
 (.seq
 (.reg [qM 11 1,
 qM 12 0,
 qM 13 5,
 qA 14 (.ia 1 (.t 12) (.t 13)),
 qL 15 14,
 qA 16 (.call (.t 11) [(.t 15)])] (some [0,1,5,7,8,16]))
 (.cond (.t 16)
 (.seq
 (.reg [qM 17 5,
 qM 4 17] (some [4]))
 .ret)
 .skip))))
 (.reg [qA 18 (.bin .add .none (.t 8) (qI 1)),
 qM 8 18] (some [0,1,7,8]))))))))
 (.seq
 (.reg [qA 4 (.mov (qI (-1)))] (some [4]))
 .ret)))
theorem is_slicesIndexFuncintint : IrOf Tryz.prog 212 19 ir_slicesIndexFuncintint [.t 4] := ⟨_, Tryz.func212, rfl, by kernel_rfl, by kernel_rfl, by kernel_rfl⟩

def ir_slicesContainsFuncintint : ICode :=
 (.seq
 (.reg [qA 4 (.mov (qB false))] (some [0,1]))
 (.seq
 (.reg [qM 5 0,
 qM 6 1,
 qA 7 (.call (qC 212) [(.t 5), (.t 6)]),
 qA 8 (.bin .geq .none (.t 7) (qI 0)),
 qM 4 8] (some [4]))
 .ret))
theorem is_slicesContainsFuncintint : IrOf Tryz.prog 190 9 ir_slicesContainsFuncintint [.t 4] := ⟨_, Tryz.func190, rfl, by kernel_rfl, by kernel_rfl, by kernel_rfl⟩

def ir_wirelisted1 : ICode :=
 (.seq
 (.reg [qA 2 (.mov (qB false))] (some [0]))
 (.seq
 (.reg [qM 3 0,
 qA 4 (.bin .lss .none (.t 3) (qI (-1))),
 qM 5 4,
 qG 6 5 false (.mov (.t 0)),
 qG 7 5 false (.bin .gtr .none (.t 6) (qI 1114111)),
 qA 8 (.pick (.t 5) (qB true) (.t 7)),
 qM 2 8] (some [2]))
 .ret))
theorem is_wirelisted1 : IrOf Tryz.prog 191 9 ir_wirelisted1 [.t 2] := ⟨_, Tryz.func191, rfl, by kernel_rfl, by kernel_rfl, by kernel_rfl⟩

/- clavier/wire.listed -/
def ir_wirelisted_l0 : ICode :=
 (.seq
 (.reg [qA 24 (.bin .lss .none (.t 23) (.t 22))] (some [21,22,23,24]))
 (.seq
 (.cond (.t 24)
 .skip
 (.exit 0))
 (.seq
 (.blk 1
 (.seq
 (.reg [qA 25 (.ia 1 (.t 21) (.t 23)),
 qL 26 25,
 qM 4 26] (some [4,21,22,23]))
 (.seq
 (.reg [qM 27 4,
 qA 28 (.call (qC 190) [(.t 27), (qC 191)]),
 qM 5 28] (some [4,5,21,22,23]))
 (.seq
 (.reg [qM 29 5,
 qM 30 29,
 qG 31 30 false (.mov (.t 4)),
 qG 32 30 false (.len (.t 31)),
 qG 33 30 false (.bin .lss .none (.t 32) (qI 1)),
 qA 34 (.pick (.t 30) (qB true) (.t 33)),
 qM 35 34,
 qG 36 35 false (.mov (.t 4)),
 qG 37 35 false (.len (.t 36)),
 qG 38 35 false (.bin .gtr .none (.t 37) (qI 8)),
 qA 39 (.pick (.t 35) (qB true) (.t 38))] (some [21,22,23,39]))
 (.cond (.t 39)
 (.seq
 (.reg [qA 2 (.mov (qB false))] (some [2]))
 .ret)
 .skip)))))
 (.reg [qA 40 (.bin .add .none (.t 23) (qI 1)),
 qM 23 40] (some [21,22,23])))))
def ir_wirelisted : ICode :=
 (.seq
 (.reg [qA 2 (.mov (qB false))] (some [0]))
 (.seq
 (.seq
 (.reg [qM 6 0,
 qA 7 (.len (.t 6)),
 qA 8 (.bin .gtr .none (.t 7) (qI 16)),
 qM 9 8,
 qG 10 9 false (.mov (.t 0)),
 qG 11 9 false (.len (.t 10)),
 qG 12 9 false (.bin .eql .none (.t 11) (qI 1)),
 qG 13 9 false (.mov (.t 12)),
 qG 14 13 true (.mov (.t 0)),
 qG 15 13 true (.ia 1 (.t 14) (qI 0)),
 qG 16 13 true (.ld none (.t 15)),
 qG 17 13 true (.row 3 1 [(qI (-1))]),
 qG 18 13 true (.call (qC 152) [(.t 16), (.t 17)]),
 qG 19 9 false (.pick (.t 13) (.t 18) (qB false)),
 qA 20 (.pick (.t 9) (qB true) (.t 19))] (some [0,20]))
 (.cond (.t 20)
 (.seq
 (.reg [qA 2 (.mov (qB false))] (some [2]))
 .ret)
 .skip))
 (.seq
 (.seq
 (.reg [qM 21 0,
 qA 22 (.len (.t 21)),
 qA 23 (.mov (qI 0))] (some [21,22,23]))
 (.blk 0
 (.loop
 ir_wirelisted_l0)))
 (.seq
 (.reg [qA 2 (.mov (qB true))] (some [2]))
 .ret))))
theorem is_wirelisted : IrOf Tryz.prog 161 41 ir_wirelisted [.t 2] := ⟨_, Tryz.func161, rfl, by kernel_rfl, by kernel_rfl, by kernel_rfl⟩

theorem fs_EqualInts {Gl : Gh → Prop} (hst : Stays Gl) {a b : List Int} {ta tb : Option Nm} (ha : a.length < 9223372036854775808) (hb : b.length < 9223372036854775808) : FS Tryz.prog Gl 152 [.sl ta 1 (intsAV a), .sl tb 1 (intsAV b)] [] [] (.bool (decide (a = b))) [] [] := by
  refine FS.of hm hst is_slicesEqualintint (by simp) fun γ hγ hfr => ?_
  (generalize hQ : (fun (ex : Ex) (_ _ : Nat) (s : St) => _) = Q; unfold ir_slicesEqualintint)
  simp +contextual (maxSteps := 1000000) only [intsAV_length, go_sem, reduceCtorEq, ↓reduceIte, Nat.reduceAdd, Nat.reduceEqDiff]
  refine kCond_split (fun h => ?_) (fun h => ?_)
  · simp +contextual (maxSteps := 1000000) only [go_sem, ↓reduceIte, Nat.reduceAdd]
    rw [← hQ]
    have : decide (a = b) = false := by
      simp only [bne_iff_ne, ne_eq] at h
      rw [decide_eq_false_iff_not]; intro e; subst e; simp at h
    rw [this]
    exact ⟨trivial, Ret.flat rfl rfl⟩
  · have hl : a.length = b.length := by simp at h; omega
    simp +contextual (maxSteps := 1000000) only [intsAV_length, go_sem, reduceCtorEq, ↓reduceIte, Nat.reduceAdd, Nat.reduceEqDiff]
    refine kLoop_ix (fun i : Nat => ⟨lf [(0, .sl ta 1 (intsAV a)), (1, .sl tb 1 (intsAV b)), (12, .int .i64 a.length), (13, .int .i64 i)], [], fun x => x ∈ []⟩) (fun i => i ≤ a.length ∧ a.take i = b.take i) (fun i => a.length - i) 0 0 (Wk.same ?_) ?_ ?_
    · (simp only [lfOK, upd, initF]; repeat' first | exact AVle.refl _ _ | exact trivial | refine And.intro ?_ ?_ | exact AVle.int (by simp only [IntKind.wrap_i64]; omega))
    · simp
    · rintro γ' i hf ⟨hi, hinv⟩
      generalize hQ' : kIt _ _ _ _ _ = Q'
      by_cases hlt : i < a.length
      · have hd : decide ((i : Int) < (a.length : Int)) = true := by simp; omega
        have g1 : (intsAV a).getD (i : Int).toNat [] = [.int .i64 a[i]] := by rw [Int.toNat_natCast]; exact intsAV_get hlt
        have g2 : (intsAV b).getD (i : Int).toNat [] = [.int .i64 (b[i]'(by omega))] := by rw [Int.toNat_natCast]; exact intsAV_get (by omega)
        simp +contextual (maxSteps := 1000000) only [intsAV_length, hd, g1, g2, go_sem, reduceCtorEq, ↓reduceIte, Nat.reduceAdd, Nat.reduceEqDiff, Nat.reduceBEq]
        refine ⟨by omega, by omega, kCond_split (fun h1 => ?_) (fun h1 => ?_)⟩
        · simp +contextual (maxSteps := 1000000) only [go_sem, ↓reduceIte, Nat.reduceAdd]
          rw [← hQ']
          simp only [w_kIt_r, w_kBlk_r, w_kSeq_r]
          have e : decide (a = b) = false := by
            simp only [bne_iff_ne, ne_eq] at h1
            rw [decide_eq_false_iff_not]; intro e; subst e; exact h1 rfl
          rw [← hQ, e]
          exact ⟨trivial, Ret.flat rfl rfl⟩
        · simp +contextual (maxSteps := 1000000) only [go_sem, reduceCtorEq, ↓reduceIte, Nat.reduceAdd, Nat.reduceEqDiff]
          rw [← hQ']
          simp only [w_kIt_n]
          refine ⟨0, i + 1, Wk.same ?_, ⟨by omega, ?_⟩, by omega⟩
          · repeat' first | exact AVle.refl _ _ | exact trivial | refine And.intro ?_ ?_ | exact AVle.int (by simp only [IntKind.wrap_i64]; omega)
          · have h2 : a[i] = b[i]'(by omega) := by simpa using h1
            rw [List.take_add_one, List.take_add_one, hinv, List.getElem?_eq_getElem hlt, List.getElem?_eq_getElem (show i < b.length by omega), h2]
      · have hd : decide ((i : Int) < (a.length : Int)) = false := by simp; omega
        simp +contextual (maxSteps := 1000000) only [intsAV_length, hd, go_sem, reduceCtorEq, ↓reduceIte, Nat.reduceAdd, Nat.reduceEqDiff]
        rw [← hQ']
        simp only [w_kIt_e, w_kBlk_e, ↓reduceIte]
        simp +contextual (maxSteps := 1000000) only [go_sem, ↓reduceIte, Nat.reduceAdd]
        have e : decide (a = b) = true := by
          rw [decide_eq_true_eq]
          have h3 := hinv
          rw [List.take_of_length_le (by omega), List.take_of_length_le (by omega)] at h3
          exact h3
        rw [← hQ, e]
        exact ⟨trivial, Ret.flat rfl rfl⟩

def idxP (q : Int → Bool) : List Int → Option Nat
  | [] => none
  | n :: l => if q n = true then some 0 else (idxP q l).map (· + 1)
theorem idxP_any (q : Int → Bool) : ∀ l, (idxP q l).isSome = l.any q
  | [] => rfl
  | n :: l => by
    simp only [idxP, List.any_cons]
    split
    · rename_i h; simp [h]
    · rename_i h
      have h : q n = false := by simpa using h
      simp [h, idxP_any q l]
theorem fs_IndexFuncInts {Gl : Gh → Prop} (hst : Stays Gl) {a : List Int} {ta : Option Nm} {k : Nat} {caps : List AV} {q : Int → Bool} (ha : a.length < 9223372036854775808) (hk : ∀ c, c ∈ a → FS Tryz.prog Gl k (.int .i64 c :: caps) [] [] (.bool (q c)) [] []) :
    FS Tryz.prog Gl 212 [.sl ta 1 (intsAV a), .fn (.func k) [] caps] [] [] (.int .i64 (match idxP q a with | some i => (i : Int) | none => -1)) [] [] := by
  refine FS.of hm hst is_slicesIndexFuncintint (by simp) fun γ hγ hfr => ?_
  (generalize hQ : (fun (ex : Ex) (_ _ : Nat) (s : St) => _) = Q; unfold ir_slicesIndexFuncintint)
  simp +contextual (maxSteps := 1000000) only [intsAV_length, go_sem, reduceCtorEq, ↓reduceIte, Nat.reduceAdd, Nat.reduceEqDiff]
  refine kLoop_ix (fun i : Nat => ⟨lf [(0, .sl ta 1 (intsAV a)), (1, .fn (.func k) [] caps), (7, .int .i64 a.length), (8, .int .i64 i)], [], fun x => x ∈ []⟩) (fun i => i ≤ a.length ∧ idxP q a = (idxP q (a.drop i)).map (· + i)) (fun i => a.length - i) 0 0 (Wk.same ?_) ?_ ?_
  · (simp only [lfOK, upd, initF]; repeat' first | exact AVle.refl _ _ | exact trivial | refine And.intro ?_ ?_ | exact AVle.int (by simp only [IntKind.wrap_i64]; omega))
  · simp
  · rintro γ' i hf ⟨hi, hinv⟩
    generalize hQ' : kIt _ _ _ _ _ = Q'
    by_cases hlt : i < a.length
    · have hd : decide ((i : Int) < (a.length : Int)) = true := by simp; omega
      have g1 : (intsAV a).getD (i : Int).toNat [] = [.int .i64 a[i]] := by rw [Int.toNat_natCast]; exact intsAV_get hlt
      have hdrop : a.drop i = a[i] :: a.drop (i + 1) := List.drop_eq_getElem_cons hlt
      rw [hdrop] at hinv
      simp +contextual (maxSteps := 1000000) only [intsAV_length, hd, g1, go_sem, reduceCtorEq, ↓reduceIte, Nat.reduceAdd, Nat.reduceEqDiff]
      refine ⟨by omega, CallP.pure (hk _ (List.getElem_mem hlt)) (fun _ => rfl) ?_⟩
      cases hq : q a[i] with
      | true =>
        simp +contextual (maxSteps := 1000000) only [go_sem, reduceCtorEq, ↓reduceIte, Nat.reduceAdd, Nat.reduceEqDiff]
        rw [← hQ', ← hQ, hinv]
        simp only [w_kIt_r, w_kBlk_r, w_kSeq_r, idxP, hq, if_true]
        exact ⟨trivial, Ret.flat (by simp [resOf, getAll, IRes.get, lf]) rfl⟩
      | false =>
        simp +contextual (maxSteps := 1000000) only [go_sem, reduceCtorEq, ↓reduceIte, Nat.reduceAdd, Nat.reduceEqDiff]
        rw [← hQ']
        simp only [w_kIt_n]
        refine ⟨0, i + 1, Wk.same ?_, ⟨by omega, ?_⟩, by omega⟩
        · repeat' first | exact AVle.refl _ _ | exact trivial | refine And.intro ?_ ?_ | exact AVle.int (by simp only [IntKind.wrap_i64]; omega)
        · rw [hinv]
          simp only [idxP, hq, Bool.false_eq_true, if_false, Option.map_map]
          congr 1
          funext x; simp; omega
    · have hd : decide ((i : Int) < (a.length : Int)) = false := by simp; omega
      simp +contextual (maxSteps := 1000000) only [intsAV_length, hd, go_sem, reduceCtorEq, ↓reduceIte, Nat.reduceAdd, Nat.reduceEqDiff]
      rw [← hQ']
      simp only [w_kIt_e, w_kBlk_e, ↓reduceIte]
      simp +contextual (maxSteps := 1000000) only [go_sem, ↓reduceIte, Nat.reduceAdd]
      rw [List.drop_of_length_le (by omega)] at hinv
      rw [← hQ, hinv]
      exact ⟨trivial, Ret.flat rfl rfl⟩

theorem fs_ContainsFuncInts {Gl : Gh → Prop} (hst : Stays Gl) {a : List Int} {ta : Option Nm} {k : Nat} {caps : List AV} {q : Int → Bool} (ha : a.length < 9223372036854775808) (hk : ∀ c, c ∈ a → FS Tryz.prog Gl k (.int .i64 c :: caps) [] [] (.bool (q c)) [] []) :
    FS Tryz.prog Gl 190 [.sl ta 1 (intsAV a), .fn (.func k) [] caps] [] [] (.bool (a.any q)) [] [] := by
  refine FS.of hm hst is_slicesContainsFuncintint (by simp) fun γ hγ hfr => ?_
  (generalize hQ : (fun (ex : Ex) (_ _ : Nat) (s : St) => _) = Q; unfold ir_slicesContainsFuncintint)
  simp +contextual (maxSteps := 1000000) only [go_sem, reduceCtorEq, ↓reduceIte, Nat.reduceAdd, Nat.reduceEqDiff]
  refine CallP.pure (fs_IndexFuncInts hst ha hk) (fun _ => rfl) ?_
  have hi : decide ((match idxP q a with | some i => (i : Int) | none => -1) ≥ 0) = a.any q := by
    rw [← idxP_any]
    cases idxP q a with
    | none => rfl
    | some i => simp
  generalize (match idxP q a with | some i => (i : Int) | none => -1) = x at hi
  simp +contextual (maxSteps := 1000000) only [hi, go_sem, reduceCtorEq, ↓reduceIte, Nat.reduceAdd]
  rw [← hQ]
  exact ⟨trivial, Ret.flat rfl rfl⟩

theorem fs_listed1 {Gl : Gh → Prop} (hst : Stays Gl) {n : Int} : FS Tryz.prog Gl 191 [.int .i64 n] [] [] (.bool (decide (n < -1) || decide (n > 1114111))) [] [] := by
  refine FS.of hm hst is_wirelisted1 (by simp) fun γ hγ hfr => ?_
  (generalize hQ : (fun (ex : Ex) (_ _ : Nat) (s : St) => _) = Q; unfold ir_wirelisted1)
  simp +contextual (maxSteps := 1000000) only [go_sem, reduceCtorEq, ↓reduceIte, Nat.reduceAdd, Nat.reduceEqDiff]
  rw [← hQ]
  exact ⟨trivial, Ret.flat rfl rfl⟩

def parBad (p : List Int) : Bool := p.any (fun n => decide (n < -1) || decide (n > 1114111)) || (decide (p.length < 1) || decide (p.length > 8))
theorem lp_listed {Gl : Gh → Prop} (hst : Stays Gl) {l : List (List Int)} (ha : l.length < 9223372036854775808) (hb : ∀ p ∈ l, p.length < 9223372036854775808) {γ c : Nat} {F : Nat → AV} {T : Tk} {K : Ex → Nat → Nat → St → Prop}
    (hF : lfOK [] F [(21, .sl none 1 (parsAV l)), (22, .int .i64 l.length), (23, .int .i64 0)])
    (hret : l.any parBad = true → ∀ γ c F, F 2 = .bool false → K .ret γ c ⟨F, [], T⟩) (hex : l.any parBad = false → ∀ γ c F, K (.exit 0) γ c ⟨F, [], T⟩) : kLoop Tryz.prog Gl ir_wirelisted_l0 γ c ⟨F, [], T⟩ K := by
  refine kLoop_ix (fun i : Nat => ⟨lf [(21, .sl none 1 (parsAV l)), (22, .int .i64 l.length), (23, .int .i64 i)], [], T⟩) (fun i => i ≤ l.length ∧ l.any parBad = (l.drop i).any parBad) (fun i => l.length - i) 0 0 (Wk.same hF) (by simp) ?_
  rintro γ' i hf ⟨hi, hinv⟩
  generalize hK : kIt _ _ _ _ _ = K'
  unfold ir_wirelisted_l0
  by_cases hlt : i < l.length
  · have hd : decide ((i : Int) < (l.length : Int)) = true := by simp; omega
    have g1 : (parsAV l).getD (i : Int).toNat [] = [intsV l[i]] := by rw [Int.toNat_natCast]; exact parsAV_get hlt
    have hdrop : l.drop i = l[i] :: l.drop (i + 1) := List.drop_eq_getElem_cons hlt
    rw [hdrop, List.any_cons] at hinv
    have hm : l[i] ∈ l := List.getElem_mem hlt
    generalize l[i] = p at g1 hinv hm
    simp +contextual (maxSteps := 1000000) only [parsAV_length, hd, g1, go_sem, reduceCtorEq, ↓reduceIte, Nat.reduceAdd, Nat.reduceEqDiff]
    refine ⟨by omega, CallP.pure (fs_ContainsFuncInts hst (hb p hm) (fun c _ => fs_listed1 hst)) (fun _ => rfl) ?_⟩
    have fin1 : parBad p = true → ∀ γ c F, F 2 = .bool false → K' .ret γ c ⟨F, [], T⟩ := fun h γ c F hF => by
      rw [← hK]; simp only [w_kIt_r]; exact hret (by rw [hinv, h]; rfl) γ c F hF
    have fin2 : parBad p = false → ∀ γ c F, F 21 = .sl none 1 (parsAV l) → F 22 = .int .i64 l.length → F 23 = .int .i64 (i + 1 : Nat) → K' .normal γ c ⟨F, [], T⟩ := fun h γ c F h1 h2 h3 => by
      rw [← hK]; simp only [w_kIt_n]
      refine ⟨0, i + 1, Wk.same ⟨.inl h1.symm, .inl h2.symm, .inl h3.symm, trivial⟩, ⟨by omega, ?_⟩, by omega⟩
      rw [hinv, h]; rfl
    have hw : IntKind.i64.wrap ((i : Int) + 1) = ((i + 1 : Nat) : Int) := by rw [IntKind.wrap_i64]; omega
    unfold parBad at fin1 fin2
    cases h1 : p.any (fun n => decide (n < -1) || decide (n > 1114111)) with
    | true =>
      rw [h1] at fin1
      simp +contextual (maxSteps := 1000000) only [go_sem, ↓reduceIte, Nat.reduceAdd, Nat.reduceEqDiff]
      exact fin1 rfl _ _ _ rfl
    | false =>
      rw [h1] at fin1 fin2
      have i1 : decide ((p.length : Int) < 1) = decide (p.length < 1) := by rw [decide_eq_decide]; omega
      have i2 : decide ((p.length : Int) > 8) = decide (p.length > 8) := by rw [decide_eq_decide]; omega
      cases h2 : decide (p.length < 1) with
      | true =>
        rw [h2] at fin1
        simp +contextual (maxSteps := 1000000) only [intsV, intsAV_length, i1, h2, go_sem, reduceCtorEq, ↓reduceIte, Nat.reduceAdd, Nat.reduceEqDiff]
        exact fin1 rfl _ _ _ rfl
      | false =>
        rw [h2] at fin1 fin2
        cases h3 : decide (p.length > 8) with
        | true =>
          rw [h3] at fin1
          simp +contextual (maxSteps := 1000000) only [intsV, intsAV_length, i1, h2, i2, h3, go_sem, reduceCtorEq, ↓reduceIte, Nat.reduceAdd, Nat.reduceEqDiff]
          exact fin1 rfl _ _ _ rfl
        | false =>
          rw [h3] at fin2
          simp +contextual (maxSteps := 1000000) only [intsV, intsAV_length, i1, h2, i2, h3, hw, go_sem, reduceCtorEq, ↓reduceIte, Nat.reduceAdd, Nat.reduceEqDiff]
          exact fin2 rfl _ _ _ rfl rfl rfl
  · have hd : decide ((i : Int) < (l.length : Int)) = false := by simp; omega
    simp +contextual (maxSteps := 1000000) only [hd, go_sem, reduceCtorEq, ↓reduceIte, Nat.reduceAdd, Nat.reduceEqDiff]
    rw [← hK]
    simp only [w_kIt_e]
    rw [List.drop_of_length_le (by omega)] at hinv
    exact hex hinv _ _ _

def parsOk (l : List (List Int)) : Bool := !(decide (l.length > 16) || decide (l = [[-1]])) && !l.any parBad
set_option maxHeartbeats 1000000 in
theorem fs_listed {Gl : Gh → Prop} (hst : Stays Gl) {l : List (List Int)} (ha : l.length < 9223372036854775808) (hb : ∀ p ∈ l, p.length < 9223372036854775808) : FS Tryz.prog Gl 161 [parsV l] [] [] (.bool (parsOk l)) [] [] := by
  refine FS.of hm hst is_wirelisted (by simp) fun γ hγ hfr => ?_
  (generalize hQ : (fun (ex : Ex) (_ _ : Nat) (s : St) => _) = Q; unfold ir_wirelisted)
  simp only [parsV]
  have i1 : decide ((l.length : Int) > 16) = decide (l.length > 16) := by rw [decide_eq_decide]; omega
  have i2 : ((l.length : Int) == 1) = decide (l.length = 1) := by rw [Bool.eq_iff_iff]; simp; omega
  have loop : ∀ c F T, lfOK [] F [(21, .sl none 1 (parsAV l)), (22, .int .i64 l.length), (23, .int .i64 0)] → decide (l.length > 16) = false → decide (l = [[-1]]) = false →
      kLoop Tryz.prog Gl ir_wirelisted_l0 γ c ⟨F, [], T⟩ (kBlk 0 (kSeq Tryz.prog Gl (.seq (.reg [⟨some 2, none, .mov (.c (.bool true))⟩] (some [2])) .ret) Q)) := fun c F T hF h16 h1 => by
    refine lp_listed hst ha hb hF (fun h γ c F hF => ?_) (fun h γ c F => ?_)
    · simp +contextual (maxSteps := 1000000) only [go_sem]
      rw [← hQ, parsOk, h16, h1, h]
      exact ⟨trivial, Ret.flat (by simp [resOf, getAll, IRes.get, hF]) rfl⟩
    · simp +contextual (maxSteps := 1000000) only [go_sem, ↓reduceIte, Nat.reduceAdd]
      rw [← hQ, parsOk, h16, h1, h]
      exact ⟨trivial, Ret.flat rfl rfl⟩
  cases h16 : decide (l.length > 16) with
  | true =>
    simp +contextual (maxSteps := 1000000) only [parsAV_length, i1, h16, go_sem, reduceCtorEq, ↓reduceIte, Nat.reduceAdd, Nat.reduceEqDiff]
    rw [← hQ, parsOk, h16]
    exact ⟨trivial, Ret.flat rfl rfl⟩
  | false =>
    cases h1 : decide (l.length = 1) with
    | false =>
      simp +contextual (maxSteps := 1000000) only [parsAV_length, i1, h16, i2, h1, go_sem, reduceCtorEq, ↓reduceIte, Nat.reduceAdd, Nat.reduceEqDiff]
      refine loop _ _ _ ?_ h16 ?_
      · (simp only [lfOK, upd, initF]; repeat' first | exact AVle.refl _ _ | exact trivial | refine And.intro ?_ ?_ | exact AVle.int (by simp only [IntKind.wrap_i64]; omega))
      · simp only [decide_eq_false_iff_not] at h1 ⊢
        intro e; subst e; exact h1 rfl
    | true =>
      obtain ⟨p, rfl⟩ : ∃ p, l = [p] := by
        match l, h1 with
        | [p], _ => exact ⟨p, rfl⟩
        | [], h => simp at h
        | _ :: _ :: _, h => simp at h
      have hp := hb p (by simp)
      have g1 : (parsAV [p]).getD 0 [] = [intsV p] := rfl
      simp +contextual (maxSteps := 1000000) only [parsAV_length, g1, go_sem, reduceCtorEq, ↓reduceIte, Nat.reduceAdd, Nat.reduceEqDiff, Int.reduceLT, Int.reduceLE, Int.reduceGT, Int.reduceToNat]
      have hfs : FS Tryz.prog Gl 152 [intsV p, .sl (some (γ, 12, 0)) 1 [[.int .i64 (-1)]]] [] [] (.bool (decide (p = [-1]))) [] [] := fs_EqualInts (ta := none) (b := [-1]) hst hp (by simp)
      refine CallP.pure hfs (fun _ => rfl) ?_
      cases h2 : decide (p = [-1]) with
      | true =>
        have hp1 : decide ([p] = [[-1]]) = true := by simpa using h2
        simp +contextual (maxSteps := 1000000) only [go_sem, reduceCtorEq, ↓reduceIte, Nat.reduceAdd, Nat.reduceEqDiff]
        rw [← hQ, parsOk, h16, hp1]
        exact ⟨trivial, Ret.flat rfl rfl⟩
      | false =>
        have hp1 : decide ([p] = [[-1]]) = false := by simpa using h2
        simp +contextual (maxSteps := 1000000) only [go_sem, reduceCtorEq, ↓reduceIte, Nat.reduceAdd, Nat.reduceEqDiff]
        refine loop _ _ _ ?_ h16 hp1
        (simp only [lfOK, upd, initF]; repeat' first | exact AVle.refl _ _ | exact trivial | refine And.intro ?_ ?_ | exact AVle.int (by simp only [IntKind.wrap_i64]; omega))
end Go.Proofs.YtjankibepgnbfaaGreatDoor

namespace Go.Proofs.YtjankibepgnbfaaGreatDoor
open Go Go.Ab

def jn (c : UInt8) : List (List UInt8) → List UInt8
  | [] => []
  | [x] => x
  | x :: y :: l => x ++ c :: jn c (y :: l)
theorem jn_cons {c : UInt8} {x : List UInt8} {l : List (List UInt8)} (h : l ≠ []) : jn c (x :: l) = x ++ c :: jn c l := by
  cases l with
  | nil => exact absurd rfl h
  | cons y l => rfl
theorem splitB_none {c : UInt8} : ∀ {x : List UInt8}, c ∉ x → splitB c x = [x]
  | [], _ => rfl
  | d :: x, h => by
    have h1 : d ≠ c := fun e => h (by simp [e])
    have h2 : c ∉ x := fun e => h (by simp [e])
    simp only [splitB, if_neg h1, splitB_none h2]
theorem splitB_app {c : UInt8} {r : List UInt8} : ∀ {x : List UInt8}, c ∉ x → splitB c (x ++ c :: r) = x :: splitB c r
  | [], _ => by simp [splitB]
  | d :: x, h => by
    have h1 : d ≠ c := fun e => h (by simp [e])
    have h2 : c ∉ x := fun e => h (by simp [e])
    simp only [List.cons_append, splitB, if_neg h1, splitB_app h2]
theorem splitB_jn {c : UInt8} : ∀ {l : List (List UInt8)}, l ≠ [] → (∀ x ∈ l, c ∉ x) → splitB c (jn c l) = l
  | [], h, _ => absurd rfl h
  | [x], _, h => splitB_none (h x (by simp))
  | x :: y :: l, _, h => by
    rw [jn_cons (by simp), splitB_app (h x (by simp)), splitB_jn (by simp) fun z hz => h z (by simp at hz ⊢; exact .inr hz)]

theorem fig_ofNat {d : Nat} (h : d < 10) : fig (UInt8.ofNat (48 + d)) = true ∧ (UInt8.ofNat (48 + d)).toNat - 48 = d := by
  have e : (UInt8.ofNat (48 + d)).toNat = 48 + d := by rw [UInt8.toNat_ofNat', Nat.mod_eq_of_lt (by omega)]
  constructor
  · simp only [fig, e, Bool.and_eq_true, decide_eq_true_eq]; omega
  · rw [e]; omega
theorem decB_figs : ∀ (n : Nat), ∀ c ∈ decB n, fig c = true := by
  intro n
  induction n using Nat.strongRecOn with
  | ind n ih =>
    rw [decB]
    split
    · intro c hc
      simp only [List.mem_singleton] at hc
      rw [hc]; exact (fig_ofNat (by omega)).1
    · intro c hc
      rcases List.mem_append.1 hc with h | h
      · exact ih (n / 10) (by omega) c h
      · simp only [List.mem_singleton] at h
        rw [h]; exact (fig_ofNat (by omega)).1
theorem decB_ne (n : Nat) : decB n ≠ [] := by
  rw [decB]; split <;> simp
theorem takeN_dec : ∀ (n : Nat) (rest : List UInt8) (k : Nat), n ≤ 1114111 → takeN (decB n ++ rest) 0 k = takeN rest n (k + (decB n).length) := by
  intro n
  induction n using Nat.strongRecOn with
  | ind n ih =>
    intro rest k hn
    rw [decB]
    split
    · obtain ⟨h1, h2⟩ := fig_ofNat (d := n) (by omega)
      simp only [List.singleton_append, takeN, h1, if_true, h2, List.length_singleton]
      congr 1; omega
    · obtain ⟨h1, h2⟩ := fig_ofNat (d := n % 10) (by omega)
      rw [List.append_assoc, ih (n / 10) (by omega) _ k (by omega)]
      simp only [List.singleton_append, takeN, h1, if_true, h2, List.length_append, List.length_singleton]
      congr 1; omega
theorem textZ_figs (n : Int) : ∀ c ∈ textZ n, fig c = true := by
  unfold textZ
  split
  · simp
  · exact decB_figs _
theorem fig_not {c d : UInt8} (h : fig c = true) (hd : fig d = false) : c ≠ d := by rintro rfl; rw [h] at hd; cases hd
def subText (p : List Int) : List UInt8 := jn 58 (p.map textZ)
def parsText (ps : List (List Int)) : List UInt8 := jn 59 (ps.map subText)
theorem jn_mem {c d : UInt8} : ∀ {l : List (List UInt8)}, d ∈ jn c l → d = c ∨ ∃ x ∈ l, d ∈ x
  | [], h => by simp [jn] at h
  | [x], h => .inr ⟨x, by simp, h⟩
  | x :: y :: l, h => by
    rw [jn_cons (by simp)] at h
    rcases List.mem_append.1 h with h | h
    · exact .inr ⟨x, by simp, h⟩
    · rcases List.mem_cons.1 h with h | h
      · exact .inl h
      · rcases jn_mem h with h | ⟨z, hz, h⟩
        · exact .inl h
        · exact .inr ⟨z, by simp at hz ⊢; exact .inr hz, h⟩
theorem subText_mem {p : List Int} {c : UInt8} (h : c ∈ subText p) : c = 58 ∨ fig c = true := by
  rcases jn_mem h with h | ⟨x, hx, h⟩
  · exact .inl h
  · obtain ⟨n, _, rfl⟩ := List.mem_map.1 hx
    exact .inr (textZ_figs n _ h)
theorem parsText_mem {ps : List (List Int)} {c : UInt8} (h : c ∈ parsText ps) : 48 ≤ c.toNat ∧ c.toNat < 60 := by
  have key : c = 59 ∨ c = 58 ∨ fig c = true := by
    rcases jn_mem h with h | ⟨x, hx, h⟩
    · exact .inl h
    · obtain ⟨p, _, rfl⟩ := List.mem_map.1 hx
      exact .inr (subText_mem h)
  rcases key with rfl | rfl | h
  · decide
  · decide
  · simp only [fig, Bool.and_eq_true, decide_eq_true_eq] at h; omega
theorem subText_nil {p : List Int} (hp : p ≠ []) (h : ∀ n ∈ p, -1 ≤ n) : subText p = [] ↔ p = [-1] := by
  constructor
  · intro e
    cases p with
    | nil => exact absurd rfl hp
    | cons n q =>
      cases q with
      | nil =>
        simp only [subText, List.map_cons, List.map_nil, jn, textZ] at e
        split at e
        · have := h n (by simp); congr 1; omega
        · exact absurd e (decB_ne _)
      | cons m q =>
        simp only [subText, List.map_cons] at e
        rw [jn_cons (by simp)] at e
        simp at e
  · rintro rfl; rfl
theorem parsText_nil {ps : List (List Int)} (h : ∀ p ∈ ps, p ≠ [] ∧ ∀ n ∈ p, -1 ≤ n) : parsText ps = [] ↔ ps = [] ∨ ps = [[-1]] := by
  constructor
  · intro e
    cases ps with
    | nil => exact .inl rfl
    | cons p q =>
      cases q with
      | nil =>
        simp only [parsText, List.map_cons, List.map_nil, jn] at e
        exact .inr (by rw [(subText_nil (h p (by simp)).1 (h p (by simp)).2).1 e])
      | cons m q =>
        simp only [parsText, List.map_cons] at e
        rw [jn_cons (by simp)] at e
        simp at e
  · rintro (rfl | rfl) <;> rfl
theorem parsOk_iff {ps : List (List Int)} (h : parsOk ps = true) : ps.length ≤ 16 ∧ ps ≠ [[-1]] ∧ ∀ p ∈ ps, p ≠ [] ∧ p.length ≤ 8 ∧ ∀ n ∈ p, -1 ≤ n ∧ n ≤ 1114111 := by
  simp only [parsOk, Bool.and_eq_true, Bool.not_eq_true', Bool.or_eq_false_iff, decide_eq_false_iff_not] at h
  obtain ⟨⟨h1, h3⟩, h2⟩ := h
  refine ⟨by omega, h3, fun p hp => ?_⟩
  have := List.any_eq_false.1 h2 p hp
  simp only [parBad, Bool.or_eq_true, decide_eq_true_eq, not_or, List.any_eq_true, not_exists, not_and] at this
  obtain ⟨a, b, c⟩ := this
  refine ⟨fun e => by simp [e] at b, by omega, fun n hn => ?_⟩
  have := a n hn
  omega
end Go.Proofs.YtjankibepgnbfaaGreatDoor

namespace Go.Proofs.YtjankibepgnbfaaGreatDoor
open Go Go.Ab
def ir_strconvItoa : ICode :=
 (.seq
 (.reg [qA 2 (.mov (.c (.str [])))] (some [0]))
 (.seq
 (.reg [qM 3 0,
 qA 4 (.call (qC 228) [(.t 3)]),
 qM 2 4] (some [2]))
 .ret))
theorem is_strconvItoa : IrOf Tryz.prog 216 5 ir_strconvItoa [.t 2] := ⟨_, Tryz.func216, rfl, by kernel_rfl, by kernel_rfl, by kernel_rfl⟩

def ir_numText : ICode :=
 (.seq
 (.reg [qA 2 (.mov (.c (.str [])))] (some [0]))
 (.seq
 (.seq
 (.reg [qM 3 0,
 qA 4 (.bin .lss .none (.t 3) (qI 0))] (some [0,4]))
 (.cond (.t 4)
 (.seq
 (.reg [qA 2 (.mov (.c (.str [])))] (some [2]))
 .ret)
 .skip))
 (.seq
 (.reg [qM 5 0,
 qA 6 (.call (qC 216) [(.t 5)]),
 qM 2 6] (some [2]))
 .ret)))
theorem is_numText : IrOf Tryz.prog 196 7 ir_numText [.t 2] := ⟨_, Tryz.func196, rfl, by kernel_rfl, by kernel_rfl, by kernel_rfl⟩

theorem tab_is {g : Gh} {w : World} (h : HInv g w) : Lib.TabIs Tryz.prog w "internal/strconv.uint64pow10" .u64 Lib.pow10Tab := by
  obtain ⟨⟨e, fr, h1⟩, _⟩ := h.fix _ (List.mem_singleton.2 rfl)
  unfold Lib.TabIs World.var?
  rw [show Program.globalNamed Tryz.prog "internal/strconv.uint64pow10" = some 3 from by kernel_rfl]
  simp only [Option.bind_some]
  rw [h1]
  simp [Lib.pow10Tab]
theorem decDigits_eq : ∀ n : Nat, Lib.decDigits n = decB n := by
  intro n
  induction n using Nat.strongRecOn with
  | ind n ih =>
    rw [Lib.decDigits, decB]
    by_cases h : n < 10
    · rw [dif_pos h, if_pos h]
    · rw [dif_neg h, if_neg h, ih (n / 10) (by omega)]
theorem fs_Itoa {Gl : Gh → Prop} {n : Int} (h0 : 0 ≤ n) (h1 : n ≤ 9223372036854775807) : FS Tryz.prog Gl 216 [.int .i64 n] [] [] (.str (textZ n)) [] [] := by
  refine FS.of_below is_strconvItoa.enters (fun _ => rfl) fun g w vs hinv hgl hargs => ?_
  obtain ⟨v1, r1, rfl, h2, h3⟩ := hargs
  cases h2; cases h3
  refine ⟨_, rfl, (Tryz.strconv_Itoa n (by omega) h1 w (tab_is hinv)).mono ?_⟩
  rintro e w' ⟨rfl, k, os, rfl⟩
  have hd : Lib.itoa n = textZ n := by rw [Lib.itoa, if_neg (by omega), textZ, if_neg (by omega), decDigits_eq]
  refine ⟨by rw [hd], rfl, rfl, rfl, ?_, fun b hb => ?_⟩
  · show w.heap.size ≤ ((w.drewN k).heap ++ os).size
    rw [Array.size_append]; exact Nat.le_add_right _ _
  · show ((w.drewN k).heap ++ os)[b]? = w.heap[b]?
    exact Array.getElem?_append_left hb
theorem fs_NumText {Gl : Gh → Prop} (hst : Stays Gl) {n : Int} (h1 : n ≤ 9223372036854775807) : FS Tryz.prog Gl 196 [.int .i64 n] [] [] (.str (textZ n)) [] [] := by
  refine FS.of hm hst is_numText (by simp) fun γ hγ hfr => ?_
  (generalize hQ : (fun (ex : Ex) (_ _ : Nat) (s : St) => _) = Q; unfold ir_numText)
  by_cases h0 : n < 0
  · have hd : decide (n < 0) = true := by simp [h0]
    simp +contextual (maxSteps := 1000000) only [hd, go_sem, reduceCtorEq, ↓reduceIte, Nat.reduceAdd]
    rw [← hQ]
    have hz : textZ n = [] := by rw [textZ, if_pos h0]
    rw [hz]
    exact ⟨trivial, Ret.flat rfl rfl⟩
  · have hd : decide (n < 0) = false := by simp [h0]
    simp +contextual (maxSteps := 1000000) only [hd, go_sem, reduceCtorEq, ↓reduceIte, Nat.reduceAdd]
    (refine CallP.pure (fs_Itoa (n := n) (by omega) h1) (fun _ => rfl) ?_; simp +contextual (maxSteps := 1000000) only [go_sem, ↓reduceIte, Nat.reduceAdd])
    rw [← hQ]
    exact ⟨trivial, Ret.flat rfl rfl⟩
def strsAV (xs : List (List UInt8)) : List (List AV) := xs.map fun x => [AV.str x]
theorem en_Join : enters Tryz.prog 163 := by
  have h : ((Tryz.prog.funcs[163]?).map fun f => f.body.isSome && !(f.name == "runtime.NumGoroutine")) = some true := by kernel_rfl
  obtain ⟨fn, h1, h2⟩ := Option.map_eq_some_iff.1 h
  simp only [Bool.and_eq_true, Bool.not_eq_true'] at h2
  exact ⟨fn, h1, h2.1, h2.2⟩
theorem fs_Join {Gl : Gh → Prop} {xs : List (List UInt8)} {sep : List UInt8} {t : Option Nm} (hN : xs.length ≤ 140737488355328) (hl : (Lib.join xs sep).length ≤ 140737488355328) : FS Tryz.prog Gl 163 [.sl t 1 (strsAV xs), .str sep] [] [] (.str (Lib.join xs sep)) [] [] := by
  refine FS.of_below en_Join (fun _ => rfl) fun g w vs hinv hgl hargs => ?_
  obtain ⟨v1, r1, rfl, ⟨A, cap, rfl, h2, _⟩, v2, r2, rfl, h3, h4⟩ := hargs
  cases h3; cases h4
  have hlen : (strsAV xs).length = xs.length := by simp [strsAV]
  rw [hlen] at h2 ⊢
  cases xs with
  | nil =>
    refine ⟨_, rfl, (Tryz.strings_Join_none A cap ⟨sep.toArray⟩ w).mono ?_⟩
    rintro e w' ⟨rfl, rfl⟩
    exact ⟨rfl, .refl _ _⟩
  | cons x xs =>
    rcases h2 with ⟨_, _, h⟩ | ⟨b, o, rfl, _, hc, _, hrow⟩
    · simp [strsAV] at h
    · have hcell : ∀ (j : Nat) (y : ByteArray), ((x :: xs).map fun z => (⟨z.toArray⟩ : ByteArray))[j]? = some y → w.cell? ⟨b, o + j, none⟩ = some (.string y) := by
        intro j y hj
        rw [List.getElem?_map, Option.map_eq_some_iff] at hj
        obtain ⟨z, hz, rfl⟩ := hj
        obtain ⟨⟨⟨v, q1, _, q2⟩, _⟩, _⟩ := RepRow.get hrow j [.str z] (by rw [strsAV, List.getElem?_map, hz]; rfl)
        cases q2
        rw [Nat.mul_one] at q1
        exact hinv.imm _ _ _ q1
      have hb : b < w.heap.size := lt_of_cell (hcell 0 _ rfl)
      have hmap : ((x :: xs).map fun z => (⟨z.toArray⟩ : ByteArray)).map (·.data.toList) = x :: xs := by
        rw [List.map_map]
        exact (List.map_congr_left (g := _root_.id) (fun z _ => by simp)).trans (List.map_id _)
      have := Tryz.strings_Join b o cap ((x :: xs).map fun z => (⟨z.toArray⟩ : ByteArray)) ⟨sep.toArray⟩ w hcell hb (by simpa using hN) (by simpa using hc) (by rw [hmap]; exact hl)
      rw [List.length_map, hmap] at this
      refine ⟨_, rfl, this.mono ?_⟩
      rintro e w' ⟨rfl, hbl⟩
      exact ⟨rfl, hbl⟩
end Go.Proofs.YtjankibepgnbfaaGreatDoor

namespace Go.Proofs.YtjankibepgnbfaaGreatDoor
open Go Go.Ab
def ir_stringsContainsRune : ICode :=
 (.seq
 (.reg [qA 4 (.mov (qB false))] (some [0,1]))
 (.seq
 (.reg [qM 5 0,
 qM 6 1,
 qA 7 (.call (qC 213) [(.t 5), (.t 6)]),
 qA 8 (.bin .geq .none (.t 7) (qI 0)),
 qM 4 8] (some [4]))
 .ret))
theorem is_stringsContainsRune : IrOf Tryz.prog 192 9 ir_stringsContainsRune [.t 4] := ⟨_, Tryz.func192, rfl, by kernel_rfl, by kernel_rfl, by kernel_rfl⟩

def ir_wireshaped : ICode :=
 (.seq
 (.reg [qA 1 (.box 43 (.t 0)),
 qA 2 (.mov (qB false))] (some [1]))
 (.seq
 (.reg [qF 5 1 1,
 qL 6 5,
 qA 7 (.bin .eql .none (.t 6) (.c (.int .u8 0))),
 qM 8 7,
 qG 9 8 true (.fa 2 (.t 1)),
 qG 10 8 true (.ld none (.t 9)),
 qG 11 8 true (.len (.t 10)),
 qG 12 8 true (.bin .eql .none (.t 11) (qI 0)),
 qA 13 (.pick (.t 8) (.t 12) (qB false)),
 qM 3 13] (some [1,3]))
 (.seq
 (.seq
 (.reg [qF 14 0 1,
 qL 15 14] (some [1,3,15]))
 (.blk 0
 (.seq
 (.reg [qA 17 (.bin .eql .none (.t 15) (qI 1)),
 qM 16 17] (some [1,3,15,16]))
 (.cond (.t 16)
 (.seq
 (.reg [qF 18 5 1,
 qL 19 18,
 qA 20 (.bin .eql .none (.t 19) (.c (.str []))),
 qM 21 20,
 qG 22 21 true (.fa 4 (.t 1)),
 qG 23 21 true (.ld none (.t 22)),
 qG 24 21 true (.bin .geq .none (.t 23) (.c (.int .u8 64))),
 qA 25 (.pick (.t 21) (.t 24) (qB false)),
 qM 26 25,
 qG 27 26 true (.fa 4 (.t 1)),
 qG 28 26 true (.ld none (.t 27)),
 qG 29 26 true (.bin .leq .none (.t 28) (.c (.int .u8 126))),
 qA 30 (.pick (.t 26) (.t 29) (qB false)),
 qM 2 30] (some [2]))
 .ret)
 (.seq
 (.reg [qA 32 (.bin .eql .none (.t 15) (qI 3)),
 qM 31 32] (some [1,3,15,31]))
 (.cond (.t 31)
 (.seq
 (.reg [qF 33 4 1,
 qL 34 33,
 qA 35 (.bin .geq .none (.t 34) (.c (.int .u8 64))),
 qM 36 35,
 qG 37 36 true (.fa 4 (.t 1)),
 qG 38 36 true (.ld none (.t 37)),
 qG 39 36 true (.bin .leq .none (.t 38) (.c (.int .u8 126))),
 qA 40 (.pick (.t 36) (.t 39) (qB false)),
 qM 2 40] (some [2]))
 .ret)
 (.seq
 (.reg [qA 42 (.bin .eql .none (.t 15) (qI 2)),
 qM 41 42] (some [1,3,15,41]))
 (.cond (.t 41)
 (.seq
 (.reg [qM 43 3,
 qM 44 43,
 qG 45 44 true (.fa 3 (.t 1)),
 qG 46 44 true (.ld none (.t 45)),
 qG 47 44 true (.bin .eql .none (.t 46) (.c (.str []))),
 qA 48 (.pick (.t 44) (.t 47) (qB false)),
 qM 49 48,
 qG 50 49 true (.fa 5 (.t 1)),
 qG 51 49 true (.ld none (.t 50)),
 qG 52 49 true (.bin .eql .none (.t 51) (.c (.str []))),
 qA 53 (.pick (.t 49) (.t 52) (qB false)),
 qM 54 53,
 qG 55 54 true (.fa 4 (.t 1)),
 qG 56 54 true (.ld none (.t 55)),
 qG 57 54 true (.bin .geq .none (.t 56) (.c (.int .u8 64))),
 qA 58 (.pick (.t 54) (.t 57) (qB false)),
 qM 59 58,
 qG 60 59 true (.fa 4 (.t 1)),
 qG 61 59 true (.ld none (.t 60)),
 qG 62 59 true (.bin .leq .none (.t 61) (.c (.int .u8 126))),
 qA 63 (.pick (.t 59) (.t 62) (qB false)),
 qM 2 63] (some [2]))
 .ret)
 (.seq
 (.reg [qA 65 (.bin .eql .none (.t 15) (qI 4)),
 qM 64 65] (some [1,3,15,64]))
 (.cond (.t 64)
 (.seq
 (.reg [qM 66 3,
 qM 67 66,
 qG 68 67 true (.fa 3 (.t 1)),
 qG 69 67 true (.ld none (.t 68)),
 qG 70 67 true (.bin .eql .none (.t 69) (.c (.str []))),
 qA 71 (.pick (.t 67) (.t 70) (qB false)),
 qM 72 71,
 qG 73 72 true (.fa 4 (.t 1)),
 qG 74 72 true (.ld none (.t 73)),
 qG 75 72 true (.bin .eql .none (.t 74) (.c (.int .u8 0))),
 qA 76 (.pick (.t 72) (.t 75) (qB false)),
 qM 2 76] (some [2]))
 .ret)
 (.seq
 (.reg [qA 78 (.bin .eql .none (.t 15) (qI 5)),
 qM 77 78] (some [1,3,77]))
 (.cond (.t 77)
 (.seq
 (.reg [qF 79 3 1,
 qL 80 79,
 qA 81 (.bin .neq .none (.t 80) (.c (.str []))),
 qM 82 81,
 qG 83 82 false (.fa 4 (.t 1)),
 qG 84 82 false (.ld none (.t 83)),
 qG 85 82 false (.cvi .i32 (.t 84)),
 qG 86 82 false (.call (qC 192) [(.c (.str [79, 80, 88, 91, 93, 92, 94, 95])), (.t 85)]),
 qG 87 82 false (.un .not (.t 86)),
 qA 88 (.pick (.t 82) (qB true) (.t 87)),
 qM 4 88] (some [1,3,4]))
 (.seq
 (.reg [qM 89 3,
 qM 90 89,
 qG 91 90 true (.fa 5 (.t 1)),
 qG 92 90 true (.ld none (.t 91)),
 qG 93 90 true (.bin .eql .none (.t 92) (.c (.str []))),
 qA 94 (.pick (.t 90) (.t 93) (qB false)),
 qM 95 94,
 qG 96 95 true (.mov (.t 4)),
 qA 97 (.pick (.t 95) (.t 96) (qB false)),
 qM 98 97,
 qG 99 98 true (.fa 4 (.t 1)),
 qG 100 98 true (.ld none (.t 99)),
 qG 101 98 true (.bin .geq .none (.t 100) (.c (.int .u8 48))),
 qA 102 (.pick (.t 98) (.t 101) (qB false)),
 qM 103 102,
 qG 104 103 true (.fa 4 (.t 1)),
 qG 105 103 true (.ld none (.t 104)),
 qG 106 103 true (.bin .leq .none (.t 105) (.c (.int .u8 126))),
 qA 107 (.pick (.t 103) (.t 106) (qB false)),
 qM 2 107] (some [2]))
 .ret))
 .skip))))))))))))
 (.seq
 (.reg [qA 2 (.mov (qB false))] (some [2]))
 .ret))))
theorem is_wireshaped : IrOf Tryz.prog 162 108 ir_wireshaped [.t 2] := ⟨_, Tryz.func162, rfl, by kernel_rfl, by kernel_rfl, by kernel_rfl⟩

theorem indexByte_mem : ∀ (l : List UInt8) (c : UInt8), decide (0 ≤ Lib.indexByte l c) = l.contains c
  | [], c => rfl
  | d :: l, c => by
    have ih := indexByte_mem l c
    have hg := Lib.indexByte_ge l c
    rw [List.contains_cons]
    have hu : Lib.indexByte (d :: l) c = if d == c then 0 else if Lib.indexByte l c == -1 then -1 else Lib.indexByte l c + 1 := rfl
    rw [hu]
    by_cases h : d = c
    · subst h; simp
    · have hb : (d == c) = false := by simpa using h
      have hb2 : (c == d) = false := by simpa using Ne.symm h
      rw [hb2, Bool.false_or, ← ih, decide_eq_decide]
      simp only [hb, Bool.false_eq_true, if_false]
      by_cases h1 : Lib.indexByte l c = -1
      · simp [h1]
      · have : (Lib.indexByte l c == -1) = false := by simpa using h1
        simp only [this, Bool.false_eq_true, if_false]
        omega
theorem fs_ContainsRune {Gl : Gh → Prop} {s : List UInt8} {r : Int} (h0 : 0 ≤ r) (h1 : r < 128) : FS Tryz.prog Gl 192 [.str s, .int .i32 r] [] [] (.bool (s.contains r.toNat.toUInt8)) [] [] := by
  refine FS.of_calls is_stringsContainsRune.enters (fun _ => rfl) fun g w vs hinv hgl hargs => ?_
  obtain ⟨v1, r1, rfl, h1', v2, r2, rfl, h2', h3'⟩ := hargs
  cases h1'; cases h2'; cases h3'
  refine ⟨_, rfl, (Tryz.strings_ContainsRune_ascii ⟨s.toArray⟩ r w h0 h1).mono ?_⟩
  rintro e w' ⟨rfl, rfl⟩
  exact ⟨by rw [indexByte_mem], rfl⟩

theorem firsts_high : ∀ k : Fin 128, ([79, 80, 88, 91, 93, 92, 94, 95] : List UInt8).contains ((128 + k.val : Nat) : Int).toNat.toUInt8 = false := by decide +kernel
theorem fs_ContainsFirsts {Gl : Gh → Prop} {r : Int} (h0 : 0 ≤ r) (h1 : r < 256) : FS Tryz.prog Gl 192 [.str [79, 80, 88, 91, 93, 92, 94, 95], .int .i32 r] [] [] (.bool (([79, 80, 88, 91, 93, 92, 94, 95] : List UInt8).contains r.toNat.toUInt8)) [] [] := by
  by_cases h : r < 128
  · exact fs_ContainsRune h0 h
  · have hf := firsts_high ⟨(r - 128).toNat, by omega⟩
    simp only at hf
    rw [show ((128 + (r - 128).toNat : Nat) : Int) = r by omega] at hf
    rw [hf]
    refine FS.of_below is_stringsContainsRune.enters (fun _ => rfl) fun g w vs hinv hgl hargs => ?_
    obtain ⟨v1, r1, rfl, h1', v2, r2, rfl, h2', h3'⟩ := hargs
    cases h1'; cases h2'; cases h3'
    refine ⟨_, rfl, (hi_ContainsRune Tryz.lays151 Tryz.lays151.t21 Tryz.lays151.t9 w r (by omega) h1).mono ?_⟩
    rintro e w' ⟨rfl, hw⟩
    exact ⟨rfl, hw⟩
def shapedP (s : Sq) : Bool :=
  if s.k = 1 then decide (s.da = []) && decide (s.fi ≥ 64) && decide (s.fi ≤ 126)
  else if s.k = 3 then decide (s.fi ≥ 64) && decide (s.fi ≤ 126)
  else if s.k = 2 then s.pr == 0 && (s.ps.length : Int) == 0 && decide (s.it = []) && decide (s.da = []) && decide (s.fi ≥ 64) && decide (s.fi ≤ 126)
  else if s.k = 4 then s.pr == 0 && (s.ps.length : Int) == 0 && decide (s.it = []) && s.fi == 0
  else if s.k = 5 then s.pr == 0 && (s.ps.length : Int) == 0 && decide (s.da = []) && (!decide (s.it = []) || !([79, 80, 88, 91, 93, 92, 94, 95] : List UInt8).contains s.fi.toNat.toUInt8) && decide (s.fi ≥ 48) && decide (s.fi ≤ 126)
  else false

theorem fs_shaped {Gl : Gh → Prop} (hst : Stays Gl) {s : Sq} (hf0 : 0 ≤ s.fi) (hf1 : s.fi < 256) : FS Tryz.prog Gl 162 [.agg s.c] [] [] (.bool (shapedP s)) [] [] := by
  refine FS.of hm hst is_wireshaped (by simp) fun γ hγ hfr => ?_
  obtain ⟨k, pr, ps, it, fi, da⟩ := s
  simp only [Sq.c] at hf0 hf1 ⊢
  have hw : IntKind.i32.wrap fi = fi := by rw [IntKind.wrap_i32]; omega
  simp only [shapedP]
  generalize hp0 : (pr == 0) = p0
  generalize hps : ((ps.length : Int) == 0) = ps0
  generalize hda : decide (da = []) = da0
  generalize hit : decide (it = []) = it0
  generalize h64 : decide (fi ≥ 64) = f64
  generalize h126 : decide (fi ≤ 126) = f126
  generalize h48 : decide (fi ≥ 48) = f48
  generalize hfz : (fi == 0) = fz
  generalize hcr : ([79, 80, 88, 91, 93, 92, 94, 95] : List UInt8).contains fi.toNat.toUInt8 = cr
  have hcall : FS Tryz.prog Gl 192 [.str [79, 80, 88, 91, 93, 92, 94, 95], .int .i32 fi] [] [] (.bool cr) [] [] := hcr ▸ fs_ContainsFirsts hf0 hf1
  have x1 : (k == 1) = decide (k = 1) := by rw [Bool.eq_iff_iff]; simp
  have x3 : (k == 3) = decide (k = 3) := by rw [Bool.eq_iff_iff]; simp
  have x2 : (k == 2) = decide (k = 2) := by rw [Bool.eq_iff_iff]; simp
  have x4 : (k == 4) = decide (k = 4) := by rw [Bool.eq_iff_iff]; simp
  have x5 : (k == 5) = decide (k = 5) := by rw [Bool.eq_iff_iff]; simp
  by_cases h1 : k = 1
  · simp only [if_pos h1]
    (generalize hQ : (fun (ex : Ex) (_ _ : Nat) (s : St) => _) = Q; unfold ir_wireshaped)
    simp +contextual (maxSteps := 1000000) only [parsV, parsAV_length, hp0, hps, hda, hit, h64, h126, h48, hfz, hw, x1, h1, if_true, if_false, go_sem, reduceCtorEq, ↓reduceIte, Nat.reduceAdd, Nat.reduceEqDiff]
    rw [← hQ]; exact ⟨trivial, Ret.flat rfl rfl⟩
  by_cases h3 : k = 3
  · simp only [if_neg h1, if_pos h3]
    (generalize hQ : (fun (ex : Ex) (_ _ : Nat) (s : St) => _) = Q; unfold ir_wireshaped)
    simp +contextual (maxSteps := 1000000) only [parsV, parsAV_length, hp0, hps, hda, hit, h64, h126, h48, hfz, hw, x1, h1, x3, h3, if_true, if_false, go_sem, reduceCtorEq, ↓reduceIte, Nat.reduceAdd, Nat.reduceEqDiff, Int.reduceBEq]
    rw [← hQ]; exact ⟨trivial, Ret.flat rfl rfl⟩
  by_cases h2 : k = 2
  · simp only [if_neg h1, if_neg h3, if_pos h2]
    (generalize hQ : (fun (ex : Ex) (_ _ : Nat) (s : St) => _) = Q; unfold ir_wireshaped)
    simp +contextual (maxSteps := 1000000) only [parsV, parsAV_length, hp0, hps, hda, hit, h64, h126, h48, hfz, hw, x1, h1, x3, h3, x2, h2, if_true, if_false, go_sem, reduceCtorEq, ↓reduceIte, Nat.reduceAdd, Nat.reduceEqDiff, Int.reduceBEq]
    rw [← hQ]; exact ⟨trivial, Ret.flat rfl rfl⟩
  by_cases h4 : k = 4
  · simp only [if_neg h1, if_neg h3, if_neg h2, if_pos h4]
    (generalize hQ : (fun (ex : Ex) (_ _ : Nat) (s : St) => _) = Q; unfold ir_wireshaped)
    simp +contextual (maxSteps := 1000000) only [parsV, parsAV_length, hp0, hps, hda, hit, h64, h126, h48, hfz, hw, x1, h1, x3, h3, x2, h2, x4, h4, if_true, if_false, go_sem, reduceCtorEq, ↓reduceIte, Nat.reduceAdd, Nat.reduceEqDiff, Int.reduceBEq]
    rw [← hQ]; exact ⟨trivial, Ret.flat rfl rfl⟩
  by_cases h5 : k = 5
  · simp only [if_neg h1, if_neg h3, if_neg h2, if_neg h4, if_pos h5]
    (generalize hQ : (fun (ex : Ex) (_ _ : Nat) (s : St) => _) = Q; unfold ir_wireshaped)
    simp +contextual (maxSteps := 1000000) only [parsV, parsAV_length, hp0, hps, hda, hit, h64, h126, h48, hfz, hw, x1, h1, x3, h3, x2, h2, x4, h4, x5, h5, if_true, if_false, go_sem, reduceCtorEq, ↓reduceIte, Nat.reduceAdd, Nat.reduceEqDiff, Int.reduceBEq]
    refine kGc_call hcall (fun _ => rfl) (fun hg => ?_) ?_
    · revert hg
      simp +contextual [Xev_t, Xev_c, upd_app, lf_cons, lf_nil]
    · simp +contextual (maxSteps := 1000000) only [parsV, parsAV_length, hp0, hps, hda, hit, h64, h126, h48, hfz, go_sem, reduceCtorEq, ↓reduceIte, Nat.reduceAdd, Nat.reduceEqDiff]
      rw [← hQ]; exact ⟨trivial, Ret.flat rfl rfl⟩
  have e1 : decide (k = 1) = false := decide_eq_false h1
  have e2 : decide (k = 2) = false := decide_eq_false h2
  have e3 : decide (k = 3) = false := decide_eq_false h3
  have e4 : decide (k = 4) = false := decide_eq_false h4
  have e5 : decide (k = 5) = false := decide_eq_false h5
  simp only [if_neg h1, if_neg h3, if_neg h2, if_neg h4, if_neg h5]
  (generalize hQ : (fun (ex : Ex) (_ _ : Nat) (s : St) => _) = Q; unfold ir_wireshaped)
  simp +contextual (maxSteps := 1000000) only [parsV, parsAV_length, hp0, hps, x1, x2, x3, x4, x5, e1, e2, e3, e4, e5, go_sem, reduceCtorEq, ↓reduceIte, Nat.reduceAdd, Nat.reduceEqDiff]
  rw [← hQ]; exact ⟨trivial, Ret.flat rfl rfl⟩
end Go.Proofs.YtjankibepgnbfaaGreatDoor

namespace Go.Proofs.YtjankibepgnbfaaGreatDoor
open Go Go.Ab
def ir_wireMay : ICode :=
 (.seq
 (.reg [qA 1 (.box 43 (.t 0)),
 qA 2 (.mov (qI 0))] (some [1]))
 (.seq
 (.reg [qF 5 1 1,
 qL 6 5,
 qA 7 (.bin .eql .none (.t 6) (.c (.int .u8 0))),
 qM 8 7,
 qG 9 8 false (.fa 1 (.t 1)),
 qG 10 8 false (.ld none (.t 9)),
 qG 11 8 false (.bin .geq .none (.t 10) (.c (.int .u8 60))),
 qG 12 8 false (.mov (.t 11)),
 qG 13 12 true (.fa 1 (.t 1)),
 qG 14 12 true (.ld none (.t 13)),
 qG 15 12 true (.bin .leq .none (.t 14) (.c (.int .u8 63))),
 qG 16 8 false (.pick (.t 12) (.t 15) (qB false)),
 qA 17 (.pick (.t 8) (qB true) (.t 16)),
 qM 3 17] (some [1,3]))
 (.seq
 (.reg [qF 18 3 1,
 qL 19 18,
 qA 20 (.lns (.t 19)),
 qA 21 (.bin .leq .none (.t 20) (qI 2)),
 qM 22 21,
 qG 23 22 true (.fa 3 (.t 1)),
 qG 24 22 true (.ld none (.t 23)),
 qG 25 22 true (.call (qC 160) [(.t 24), (.c (.int .u8 32)), (.c (.int .u8 47))]),
 qA 26 (.pick (.t 22) (.t 25) (qB false)),
 qM 4 26] (some [1,3,4]))
 (.seq
 (.blk 0
 (.seq
 (.reg [qF 28 5 1,
 qL 29 28,
 qA 30 (.lns (.t 29)),
 qA 31 (.bin .gtr .none (.t 30) (qI 4096)),
 qM 27 31] (some [1,3,4,27]))
 (.cond (.t 27)
 (.seq
 (.reg [qA 2 (.mov (qI 4))] (some [2]))
 .ret)
 (.seq
 (.reg [qM 33 3,
 qA 34 (.un .not (.t 33)),
 qM 35 34,
 qG 36 35 false (.mov (.t 4)),
 qG 37 35 false (.un .not (.t 36)),
 qA 38 (.pick (.t 35) (qB true) (.t 37)),
 qM 39 38,
 qG 40 39 false (.fa 2 (.t 1)),
 qG 41 39 false (.ld none (.t 40)),
 qG 42 39 false (.call (qC 161) [(.t 41)]),
 qG 43 39 false (.un .not (.t 42)),
 qA 44 (.pick (.t 39) (qB true) (.t 43)),
 qM 45 44,
 qG 46 45 false (.fa 5 (.t 1)),
 qG 47 45 false (.ld none (.t 46)),
 qG 48 45 false (.call (qC 160) [(.t 47), (.c (.int .u8 32)), (.c (.int .u8 126))]),
 qG 49 45 false (.un .not (.t 48)),
 qA 50 (.pick (.t 45) (qB true) (.t 49)),
 qM 51 50,
 qG 52 51 false (.ld (some 6) (.t 1)),
 qG 53 51 false (.call (qC 162) [(.t 52)]),
 qG 54 51 false (.un .not (.t 53)),
 qA 55 (.pick (.t 51) (qB true) (.t 54)),
 qM 32 55] (some [32]))
 (.cond (.t 32)
 (.seq
 (.reg [qA 2 (.mov (qI 1))] (some [2]))
 .ret)
 .skip)))))
 (.seq
 (.reg [qA 2 (.mov (qI 0))] (some [2]))
 .ret)))))
theorem is_wireMay : IrOf Tryz.prog 118 56 ir_wireMay [.t 2] := ⟨_, Tryz.func118, rfl, by kernel_rfl, by kernel_rfl, by kernel_rfl⟩

def within (x y : Int) (s : List UInt8) : Bool := s.all fun c => decide (x ≤ c.toNat) && decide ((c.toNat : Int) ≤ y)
def mayP (s : Sq) : Int :=
  if decide ((s.da.length : Int) > 4096) = true then 4
  else if (!(s.pr == 0 || (decide (s.pr ≥ 60) && decide (s.pr ≤ 63))) || !(decide ((s.it.length : Int) ≤ 2) && within 32 47 s.it) || !parsOk s.ps || !within 32 126 s.da || !shapedP s) = true then 1 else 0

set_option maxHeartbeats 2000000 in
theorem fs_May {Gl : Gh → Prop} (hst : Stays Gl) {s : Sq} (hf0 : 0 ≤ s.fi) (hf1 : s.fi < 256) (h1 : s.ps.length < 9223372036854775808) (h2 : ∀ p ∈ s.ps, p.length < 9223372036854775808) (h3 : s.it.length < 9223372036854775808) (h4 : s.da.length < 9223372036854775808) :
    FS Tryz.prog Gl 118 [.agg s.c] [] [] (.int .i64 (mayP s)) [] [] := by
  have c1 := fs_between hst h3 (x := 32) (y := 47) (by omega) (by omega)
  have c2 := fs_listed hst h1 h2
  have c3 := fs_between hst h4 (x := 32) (y := 126) (by omega) (by omega)
  have c4 := fs_shaped hst hf0 hf1
  refine FS.of hm hst is_wireMay (by simp) fun γ hγ hfr => ?_
  have hsp : mayP s = if decide ((s.da.length : Int) > 4096) = true then 4 else if (!(s.pr == 0 || (decide (s.pr ≥ 60) && decide (s.pr ≤ 63))) || !(decide ((s.it.length : Int) ≤ 2) && within 32 47 s.it) || !parsOk s.ps || !within 32 126 s.da || !shapedP s) = true then 1 else 0 := rfl
  rw [hsp]
  change FS _ _ _ _ _ _ (.bool (within 32 47 s.it)) _ _ at c1
  change FS _ _ _ _ _ _ (.bool (within 32 126 s.da)) _ _ at c3
  obtain ⟨k, pr, ps, it, fi, da⟩ := s
  simp only at c1 c2 c3 c4 ⊢
  generalize hp0 : (pr == 0) = p0
  generalize hp1 : decide (pr ≥ 60) = p1
  generalize hp2 : decide (pr ≤ 63) = p2
  generalize hit : decide ((it.length : Int) ≤ 2) = it2
  generalize hda : decide ((da.length : Int) > 4096) = da4
  generalize within 32 47 it = w1 at c1
  generalize within 32 126 da = w2 at c3
  generalize parsOk ps = pk at c2
  generalize shapedP _ = sh at c4
  simp only [Sq.c] at c4 ⊢
  have cl : AV.closedL [AV.int .i64 k, .int .u8 pr, parsV ps, .str it, .int .u8 fi, .str da] = true := rfl
  (generalize hQ : (fun (ex : Ex) (_ _ : Nat) (s : St) => _) = Q; unfold ir_wireMay)
  simp +contextual (maxSteps := 1000000) only [hp0, hp1, hp2, hit, hda, go_sem, reduceCtorEq, ↓reduceIte, Nat.reduceAdd, Nat.reduceEqDiff]
  generalize (p0 || p1 && p2) = b0 at hQ ⊢
  (refine kGc_call (c1) (fun _ => rfl) (fun hgc => ?_) ?_; (focus (first | (rw [Bool.not_eq_true'] at hgc; simp only [List.map_cons, List.map_nil, List.nil_append, List.append_nil, List.cons_append, Xev_t, Xev_c, upd_app, lf_cons, lf_nil, Nat.reduceEqDiff, ↓reduceIte, hgc, Bool.false_eq_true, Bool.true_eq_false, reduceCtorEq]; done) | (simp only [List.map_cons, List.map_nil, List.nil_append, List.append_nil, List.cons_append, Xev_t, Xev_c, upd_app, lf_cons, lf_nil, Nat.reduceEqDiff, ↓reduceIte, hgc, Bool.false_eq_true, Bool.true_eq_false, reduceCtorEq]; done) | (revert hgc; simp +contextual [Xev_t, Xev_c, upd_app, lf_cons, lf_nil]; done) | simp [Xev_t, Xev_c, upd_app, lf_cons, lf_nil])); simp +contextual (maxSteps := 1000000) only [hp0, hp1, hp2, hit, hda, go_sem, reduceCtorEq, ↓reduceIte, Nat.reduceAdd, Nat.reduceEqDiff])
  generalize (it2 && w1) = b1 at hQ ⊢
  cases da4
  · simp +contextual (maxSteps := 1000000) only [go_sem, ↓reduceIte, Nat.reduceAdd, Nat.reduceEqDiff]
    (refine kGc_call (c2) (fun _ => rfl) (fun hgc => ?_) ?_; (focus (first | (rw [Bool.not_eq_true'] at hgc; simp only [List.map_cons, List.map_nil, List.nil_append, List.append_nil, List.cons_append, Xev_t, Xev_c, upd_app, lf_cons, lf_nil, Nat.reduceEqDiff, ↓reduceIte, hgc, Bool.false_eq_true, Bool.true_eq_false, reduceCtorEq]; done) | (simp only [List.map_cons, List.map_nil, List.nil_append, List.append_nil, List.cons_append, Xev_t, Xev_c, upd_app, lf_cons, lf_nil, Nat.reduceEqDiff, ↓reduceIte, hgc, Bool.false_eq_true, Bool.true_eq_false, reduceCtorEq]; done) | (revert hgc; simp +contextual [Xev_t, Xev_c, upd_app, lf_cons, lf_nil]; done) | simp [Xev_t, Xev_c, upd_app, lf_cons, lf_nil])); simp +contextual (maxSteps := 1000000) only [hp0, go_sem, ↓reduceIte, Nat.reduceAdd, Nat.reduceEqDiff])
    (refine kGc_call (c3) (fun _ => rfl) (fun hgc => ?_) ?_; (focus (first | (rw [Bool.not_eq_true'] at hgc; simp only [List.map_cons, List.map_nil, List.nil_append, List.append_nil, List.cons_append, Xev_t, Xev_c, upd_app, lf_cons, lf_nil, Nat.reduceEqDiff, ↓reduceIte, hgc, Bool.false_eq_true, Bool.true_eq_false, reduceCtorEq]; done) | (simp only [List.map_cons, List.map_nil, List.nil_append, List.append_nil, List.cons_append, Xev_t, Xev_c, upd_app, lf_cons, lf_nil, Nat.reduceEqDiff, ↓reduceIte, hgc, Bool.false_eq_true, Bool.true_eq_false, reduceCtorEq]; done) | (revert hgc; simp +contextual [Xev_t, Xev_c, upd_app, lf_cons, lf_nil]; done) | simp [Xev_t, Xev_c, upd_app, lf_cons, lf_nil])); simp +contextual (maxSteps := 1000000) only [hp0, go_sem, ↓reduceIte, Nat.reduceAdd, Nat.reduceEqDiff])
    (refine kGc_call (c4) (fun _ => rfl) (fun hgc => ?_) ?_; (focus (first | (rw [Bool.not_eq_true'] at hgc; simp only [List.map_cons, List.map_nil, List.nil_append, List.append_nil, List.cons_append, Xev_t, Xev_c, upd_app, lf_cons, lf_nil, Nat.reduceEqDiff, ↓reduceIte, hgc, Bool.false_eq_true, Bool.true_eq_false, reduceCtorEq]; done) | (simp only [List.map_cons, List.map_nil, List.nil_append, List.append_nil, List.cons_append, Xev_t, Xev_c, upd_app, lf_cons, lf_nil, Nat.reduceEqDiff, ↓reduceIte, hgc, Bool.false_eq_true, Bool.true_eq_false, reduceCtorEq]; done) | (revert hgc; simp +contextual [Xev_t, Xev_c, upd_app, lf_cons, lf_nil]; done) | simp [Xev_t, Xev_c, upd_app, lf_cons, lf_nil])); simp +contextual (maxSteps := 1000000) only [hp0, go_sem, ↓reduceIte, Nat.reduceAdd, Nat.reduceEqDiff])
    cases hb : (!b0 || !b1 || !pk || !w2 || !sh) <;> rw [hb] at hQ <;> simp +contextual (maxSteps := 1000000) only [hb, go_sem, ↓reduceIte, Nat.reduceAdd] <;> rw [← hQ] <;> exact ⟨trivial, Ret.flat rfl rfl⟩
  · simp +contextual (maxSteps := 1000000) only [go_sem, ↓reduceIte, Nat.reduceAdd]
    rw [← hQ]; exact ⟨trivial, Ret.flat rfl rfl⟩
end Go.Proofs.YtjankibepgnbfaaGreatDoor

namespace Go.Proofs.YtjankibepgnbfaaGreatDoor
open Go Go.Ab
/- clavier/clavierref03.params -/
end Go.Proofs.YtjankibepgnbfaaGreatDoor

namespace Go.Proofs.YtjankibepgnbfaaGreatDoor
open Go Go.Ab
end Go.Proofs.YtjankibepgnbfaaGreatDoor

namespace Go.Proofs.YtjankibepgnbfaaGreatDoor
open Go Go.Ab
/- clavier/clavierref03.body -/
def prB (pr : Int) : List UInt8 := if (pr != 0) = true then [pr.toNat.toUInt8] else []
def bodyB (s : Sq) : List UInt8 := prB s.pr ++ parsText s.ps ++ s.it
theorem byteOf {n : Int} (h0 : 0 ≤ n) (h1 : n < 256) : ∃ c : UInt8, n = (c.toNat : Int) := ⟨UInt8.ofNat n.toNat, by rw [UInt8.toNat_ofNat', Nat.mod_eq_of_lt (by omega)]; omega⟩
theorem subText_len {p : List Int} (h : ∀ n ∈ p, n ≤ 1114111) : (subText p).length ≤ 20 * p.length := by
  induction p with
  | nil => simp [subText, jn]
  | cons n p ih =>
    have h1 : (textZ n).length ≤ 19 := by
      unfold textZ
      split
      · simp
      · exact decB_len20 (by have := h n (by simp); omega)
    cases p with
    | nil => simp [subText, jn]; omega
    | cons m p =>
      have := ih fun x hx => h x (by simp at hx ⊢; exact .inr hx)
      simp only [subText, List.map_cons] at this ⊢
      rw [jn_cons (by simp)]
      simp only [List.length_append, List.length_cons] at this ⊢; omega
theorem parsText_len {ps : List (List Int)} (h : ∀ p ∈ ps, p.length ≤ 8 ∧ ∀ n ∈ p, n ≤ 1114111) : (parsText ps).length ≤ 161 * ps.length := by
  induction ps with
  | nil => simp [parsText, jn]
  | cons n p ih =>
    have h1 := subText_len (h n (by simp)).2
    have h2 := (h n (by simp)).1
    cases p with
    | nil => simp [parsText, jn]; omega
    | cons m p =>
      have := ih fun x hx => h x (by simp at hx ⊢; exact .inr hx)
      simp only [parsText, List.map_cons] at this ⊢
      rw [jn_cons (by simp)]
      simp only [List.length_append, List.length_cons] at this ⊢; omega

end Go.Proofs.YtjankibepgnbfaaGreatDoor

namespace Go.Proofs.YtjankibepgnbfaaGreatDoor
open Go Go.Ab

structure Sq.sm (s : Sq) : Prop where
  ps : s.ps.length < 9223372036854775808
  pp : ∀ p ∈ s.ps, p.length < 9223372036854775808
  it : s.it.length < 9223372036854775808
  da : s.da.length < 9223372036854775808
theorem parsOk_len {l : List (List Int)} (h : parsOk l = true) : l.length ≤ 16 ∧ ∀ p ∈ l, p.length ≤ 8 := by
  simp only [parsOk, Bool.and_eq_true, Bool.not_eq_true', Bool.or_eq_false_iff, decide_eq_false_iff_not] at h
  obtain ⟨⟨h1, _⟩, h2⟩ := h
  refine ⟨by omega, fun p hp => ?_⟩
  have := List.any_eq_false.1 h2 p hp
  simp only [parBad, Bool.or_eq_true, decide_eq_true_eq, not_or] at this
  omega
theorem mayP_sm {s : Sq} (h : mayP s = 0) : s.sm ∧ s.ps.length ≤ 16 ∧ (∀ p ∈ s.ps, p.length ≤ 8) ∧ s.it.length ≤ 2 ∧ s.da.length ≤ 4096 := by
  simp only [mayP] at h
  split at h
  · cases h
  · rename_i h1
    split at h
    · cases h
    · rename_i h2
      simp only [Bool.or_eq_true, Bool.not_eq_true', not_or, Bool.not_eq_false, Bool.and_eq_true, decide_eq_true_eq] at h2 h1
      obtain ⟨⟨⟨⟨_, h3⟩, h4⟩, _⟩, _⟩ := h2
      obtain ⟨k1, k2⟩ := parsOk_len h4
      have k3 : s.it.length ≤ 2 := by have := h3.1; omega
      have k4 : s.da.length ≤ 4096 := by omega
      exact ⟨⟨by omega, fun p hp => by have := k2 p hp; omega, by omega, by omega⟩, k1, k2, k3, k4⟩

end Go.Proofs.YtjankibepgnbfaaGreatDoor

namespace Go.Proofs.YtjankibepgnbfaaGreatDoor
open Go Go.Ab
def putB (s : Sq) : List UInt8 :=
  let f := [s.fi.toNat.toUInt8]
  if (s.k == 1) = true then [27, 91] ++ bodyB s ++ f
  else if (s.k == 2) = true then [27, 79] ++ f
  else if (s.k == 3) = true then [27, 80] ++ bodyB s ++ f ++ s.da ++ [27, 92]
  else if (s.k == 4) = true then [27, 93] ++ s.da ++ [27, 92]
  else [27] ++ s.it ++ f
def putV (s : Sq) : AV := if (mayP s != 0) = true then .nils else .sl none 1 (bytesAV (putB s))
theorem may_pars {s : Sq} (h : mayP s = 0) : parsOk s.ps = true := by
  simp only [mayP] at h
  split at h
  · cases h
  · split at h
    · cases h
    · rename_i h2
      simp only [Bool.or_eq_true, Bool.not_eq_true', not_or, Bool.not_eq_false] at h2
      exact h2.1.1.2
end Go.Proofs.YtjankibepgnbfaaGreatDoor

namespace Go.Proofs.YtjankibepgnbfaaGreatDoor
open Go Go.Ab
/- clavier/wire.one -/
def ir_wireone_l0 : ICode :=
 (.seq
 (.reg [qA 9 (.bin .lss .none (.t 8) (.t 7))] (some [3,6,7,8,9]))
 (.seq
 (.cond (.t 9)
 .skip
 (.exit 0))
 (.seq
 (.blk 1
 (.seq
 (.reg [qA 10 (.ia 1 (.t 6) (.t 8)),
 qL 11 10,
 qM 5 11] (some [3,5,6,7,8]))
 (.reg [qM 12 3,
 qM 13 5,
 qA 14 (.call (qC 196) [(.t 13)]),
 qA 15 (.row 9 1 [(.t 14)]),
 qA 16 (.app 9 1 16 (.t 12) (.t 15)),
 qM 3 16] (some [3,6,7,8]))))
 (.reg [qA 17 (.bin .add .none (.t 8) (qI 1)),
 qM 8 17] (some [3,6,7,8])))))
def ir_wireone : ICode :=
 (.seq
 (.reg [qA 2 (.mov (.c (.str [])))] (some [0]))
 (.seq
 (.reg [qA 3 (.mov (.c .nils))] (some [0,3]))
 (.seq
 (.seq
 (.reg [qM 6 0,
 qA 7 (.len (.t 6)),
 qA 8 (.mov (qI 0))] (some [3,6,7,8]))
 (.blk 0
 (.loop
 ir_wireone_l0)))
 (.seq
 (.reg [qM 18 3,
 qA 19 (.call (qC 163) [(.t 18), (.c (.str [58]))]),
 qM 2 19] (some [2]))
 .ret))))
theorem is_wireone : IrOf Tryz.prog 164 20 ir_wireone [.t 2] := ⟨_, Tryz.func164, rfl, by kernel_rfl, by kernel_rfl, by kernel_rfl⟩

/- clavier/wire.body -/
def ir_wirebody_l0 : ICode :=
 (.seq
 (.reg [qA 11 (.bin .lss .none (.t 10) (.t 9))] (some [1,3,8,9,10,11]))
 (.seq
 (.cond (.t 11)
 .skip
 (.exit 0))
 (.seq
 (.blk 1
 (.seq
 (.reg [qA 12 (.ia 1 (.t 8) (.t 10)),
 qL 13 12,
 qM 5 13] (some [1,3,5,8,9,10]))
 (.reg [qM 14 3,
 qM 15 5,
 qA 16 (.call (qC 164) [(.t 15)]),
 qA 17 (.row 9 1 [(.t 16)]),
 qA 18 (.app 9 1 16 (.t 14) (.t 17)),
 qM 3 18] (some [1,3,8,9,10]))))
 (.reg [qA 19 (.bin .add .none (.t 10) (qI 1)),
 qM 10 19] (some [1,3,8,9,10])))))
def ir_wirebody : ICode :=
 (.seq
 (.reg [qA 1 (.box 43 (.t 0)),
 qA 2 (.mov (.c (.str [])))] (some [1]))
 (.seq
 (.reg [qA 3 (.mov (.c .nils))] (some [1,3]))
 (.seq
 (.seq
 (.reg [qF 7 2 1,
 qL 8 7,
 qA 9 (.len (.t 8)),
 qA 10 (.mov (qI 0))] (some [1,3,8,9,10]))
 (.blk 0
 (.loop
 ir_wirebody_l0)))
 (.seq
 (.drw [⟨qM 20 3, []⟩,
 ⟨qA 21 (.call (qC 163) [(.t 20), (.c (.str [59]))]), [0]⟩,
 ⟨qF 22 3 1, []⟩,
 ⟨qL 23 22, [2]⟩,
 ⟨qA 24 (.bin .add .none (.t 21) (.t 23)), [1,3]⟩,
 ⟨qF 25 4 1, []⟩,
 ⟨qL 26 25, [5]⟩,
 ⟨qA 27 (.row 5 1 [(.t 26)]), [6]⟩,
 ⟨qA 28 (.b2s (.t 27)), [7]⟩,
 ⟨qA 29 (.bin .add .none (.t 24) (.t 28)), [4,8]⟩]
 [qM 6 29] (some [1,6]))
 (.seq
 (.seq
 (.reg [qF 30 1 1,
 qL 31 30,
 qA 32 (.bin .neq .none (.t 31) (.c (.int .u8 0)))] (some [1,6,32]))
 (.cond (.t 32)
 (.reg [qF 33 1 1,
 qL 34 33,
 qA 35 (.row 5 1 [(.t 34)]),
 qA 36 (.b2s (.t 35)),
 qM 37 6,
 qA 38 (.bin .add .none (.t 36) (.t 37)),
 qM 6 38] (some [6]))
 .skip))
 (.seq
 (.reg [qM 39 6,
 qM 2 39] (some [2]))
 .ret))))))
theorem is_wirebody : IrOf Tryz.prog 120 40 ir_wirebody [.t 2] := ⟨_, Tryz.func120, rfl, by kernel_rfl, by kernel_rfl, by kernel_rfl⟩

def ir_wireglue : ICode :=
 (.seq
 (.reg [qA 2 (.mov (.c .nils))] (some [0]))
 (.seq
 (.reg [qA 3 (.row 5 1 [(.c (.int .u8 27))]),
 qM 4 0,
 qA 5 (.call (qC 163) [(.t 4), (.c (.str []))]),
 qA 6 (.aps 5 (.t 3) (.t 5)),
 qM 2 6] (some [2]))
 .ret))
theorem is_wireglue : IrOf Tryz.prog 119 7 ir_wireglue [.t 2] := ⟨_, Tryz.func119, rfl, by kernel_rfl, by kernel_rfl, by kernel_rfl⟩

theorem join_jn (c : UInt8) : ∀ xs : List (List UInt8), Lib.join xs [c] = jn c xs
  | [] => rfl
  | [x] => by simp [Lib.join, List.intercalate, jn]
  | x :: y :: l => by
    have ih := join_jn c (y :: l)
    simp only [Lib.join, List.intercalate] at ih ⊢
    rw [jn, ← ih]
    simp [List.intersperse]
theorem join_flat : ∀ xs : List (List UInt8), Lib.join xs [] = xs.flatten
  | [] => rfl
  | [x] => by simp [Lib.join, List.intercalate]
  | x :: y :: l => by
    have ih := join_flat (y :: l)
    simp only [Lib.join, List.intercalate] at ih ⊢
    rw [List.flatten_cons, ← ih]
    simp [List.intersperse]
theorem strsAV_snoc (xs : List (List UInt8)) (x : List UInt8) : strsAV (xs ++ [x]) = strsAV xs ++ [[.str x]] := by simp [strsAV]
theorem strsAV_length (xs : List (List UInt8)) : (strsAV xs).length = xs.length := by simp [strsAV]
set_option maxHeartbeats 2000000 in
theorem fs_one {Gl : Gh → Prop} (hst : Stays Gl) {p : List Int} {t : Option Nm} (hl : p.length ≤ 100000) (hp : ∀ n ∈ p, n ≤ 1114111) : FS Tryz.prog Gl 164 [.sl t 1 (intsAV p)] [] [] (.str (subText p)) [] [] := by
  refine FS.of hm hst is_wireone (by simp) fun γ hγ hfr => ?_
  have hsl := subText_len hp
  (generalize hQ : (fun (ex : Ex) (_ _ : Nat) (s : St) => _) = Q; unfold ir_wireone)
  simp +contextual (maxSteps := 1000000) only [intsAV_length, go_sem, reduceCtorEq, ↓reduceIte, Nat.reduceAdd, Nat.reduceEqDiff]
  refine kLoop_ix (fun q : Nat × Option Nm => ⟨lf [(3, sv q.2 1 (strsAV ((p.take q.1).map textZ))), (6, .sl t 1 (intsAV p)), (7, .int .i64 (p.length : Int)), (8, .int .i64 (q.1 : Int))], [], fun x => q.2 = some x⟩)
    (fun q => q.1 ≤ p.length ∧ (q.2 = none → q.1 = 0)) (fun q => p.length - q.1) 0 (0, none) ?_ ⟨by simp, by simp⟩ ?_
  · refine Wk.perm' ?_ (fun p hp => by cases hp) (fun t ht => by cases ht)
    simp only [lfOK, upd]
    repeat' first | exact AVle.refl _ _ | exact trivial | refine And.intro ?_ ?_ | exact AVle.int (by simp only [IntKind.wrap_i64]; omega)
  · rintro γ' ⟨i, tk⟩ hf ⟨hi, htk⟩
    simp only at hi htk
    generalize hQ' : kIt _ _ _ _ _ = Q'
    unfold ir_wireone_l0
    by_cases hlt : i < p.length
    · have hd : decide ((i : Int) < (p.length : Int)) = true := by simp; omega
      have hg1 : (intsAV p).getD i [] = [.int .i64 p[i]] := intsAV_get hlt
      have hpi := hp _ (List.getElem_mem hlt)
      have c1 := fs_NumText (Gl := Gl) hst (n := p[i]) (by omega)
      have htk1 : (p.take (i + 1)).map textZ = (p.take i).map textZ ++ [textZ p[i]] := by
        rw [List.take_add_one, List.getElem?_eq_getElem hlt, List.map_append]; rfl
      have hlen : (strsAV ((p.take i).map textZ)).length ≤ p.length := by rw [strsAV_length]; simp; omega
      cases tk with
      | none =>
        have h0 := htk rfl
        have ht0 : p.take i = [] := by rw [h0]; rfl
        rw [ht0, List.map_nil, List.nil_append] at htk1
        simp +contextual (maxSteps := 1000000) only [hd, hg1, Int.toNat_natCast, intsAV_length, go_sem, reduceCtorEq, ↓reduceIte, Nat.reduceAdd, Nat.reduceEqDiff]
        refine ⟨⟨by omega, by omega⟩, ?_⟩
        (refine CallP.pure (c1) (fun _ => rfl) ?_; simp +contextual (maxSteps := 1000000) only [go_sem, reduceCtorEq, ↓reduceIte, Nat.reduceAdd, Nat.reduceEqDiff, Nat.reduceLeDiff, Nat.reduceMul])
        rw [← hQ']
        simp only [w_kIt_n]
        refine ⟨0, (i + 1, some (γ', 8, 0)), Wk.perm' ?_ (fun p hp => by cases hp) ?_, ⟨by simp only; omega, by simp⟩, by simp only; omega⟩
        · simp only [htk1, sv_some, strsAV, List.map_cons, List.map_nil]
          repeat' first | exact AVle.refl _ _ | exact trivial | refine And.intro ?_ ?_ | exact AVle.int (by simp only [IntKind.wrap_i64]; omega)
        · intro t ht
          cases ht
          exact .inl rfl
      | some t0 =>
        simp +contextual (maxSteps := 1000000) only [hd, hg1, Int.toNat_natCast, intsAV_length, go_sem, reduceCtorEq, ↓reduceIte, Nat.reduceAdd, Nat.reduceEqDiff]
        refine ⟨⟨by omega, by omega⟩, ?_⟩
        (refine CallP.pure (c1) (fun _ => rfl) ?_; simp +contextual (maxSteps := 1000000) only [go_sem, reduceCtorEq, ↓reduceIte, Nat.reduceAdd, Nat.reduceEqDiff])
        refine ⟨⟨.inr trivial, by omega⟩, ?_⟩
        rw [← hQ']
        simp only [w_kIt_n]
        refine ⟨0, (i + 1, some (γ', 8, 0)), Wk.perm' ?_ (fun p hp => by cases hp) ?_, ⟨by simp only; omega, by simp⟩, by simp only; omega⟩
        · simp only [htk1, sv_some, strsAV_snoc]
          repeat' first | exact AVle.refl _ _ | exact trivial | refine And.intro ?_ ?_ | exact AVle.int (by simp only [IntKind.wrap_i64]; omega)
        · intro t ht
          cases ht
          exact .inl rfl
    · have hii : i = p.length := by omega
      have hd : decide ((i : Int) < (p.length : Int)) = false := by simp; omega
      have hfull : (p.take i).map textZ = p.map textZ := by rw [List.take_of_length_le (by omega)]
      have hjl : (Lib.join (p.map textZ) [58]).length ≤ 140737488355328 := by
        rw [join_jn]; show (subText p).length ≤ _; omega
      have hz : Lib.join (p.map textZ) [58] = subText p := join_jn 58 _
      cases tk with
      | none =>
        have h0 : p = [] := List.length_eq_zero_iff.1 (by rw [← hii]; exact htk rfl)
        have c1 := (fs_Join (Gl := Gl) (xs := p.map textZ) (sep := [58]) (t := none) (by simp; omega) hjl).args (args := [.nils, .str [58]]) ⟨by rw [h0]; exact RepLe.nils 1, RepLe.refl _, trivial⟩
        rw [hz] at c1
        simp +contextual (maxSteps := 1000000) only [hd, go_sem, reduceCtorEq, ↓reduceIte, Nat.reduceAdd, Nat.reduceEqDiff]
        rw [← hQ']
        simp only [w_kIt_e, w_kBlk_e, ↓reduceIte]
        simp +contextual (maxSteps := 1000000) only [go_sem, ↓reduceIte, Nat.reduceAdd]
        (refine CallP.pure (c1) (fun _ => rfl) ?_; simp +contextual (maxSteps := 1000000) only [go_sem, ↓reduceIte, Nat.reduceAdd])
        rw [← hQ]
        exact ⟨trivial, Ret.flat rfl rfl⟩
      | some t0 =>
        have c1 := fs_Join (Gl := Gl) (xs := p.map textZ) (sep := [58]) (t := some t0) (by simp; omega) hjl
        rw [hz] at c1
        simp +contextual (maxSteps := 1000000) only [hd, hfull, go_sem, reduceCtorEq, ↓reduceIte, Nat.reduceAdd, Nat.reduceEqDiff]
        rw [← hQ']
        simp only [w_kIt_e, w_kBlk_e, ↓reduceIte]
        simp +contextual (maxSteps := 1000000) only [go_sem, ↓reduceIte, Nat.reduceAdd]
        (refine CallP.pure (c1) (fun _ => rfl) ?_; simp +contextual (maxSteps := 1000000) only [go_sem, ↓reduceIte, Nat.reduceAdd])
        rw [← hQ]
        exact ⟨trivial, Ret.flat rfl rfl⟩
theorem fs_glue {Gl : Gh → Prop} (hst : Stays Gl) {xs : List (List UInt8)} {t : Option Nm} (hN : xs.length ≤ 100) (hl : xs.flatten.length ≤ 1000000) : FS Tryz.prog Gl 119 [.sl t 1 (strsAV xs)] [] [] (.sl none 1 (bytesAV (27 :: xs.flatten))) [] [] := by
  refine FS.ofW hm hst is_wireglue rfl (by simp) fun γ hγ hfr => ?_
  have c1 := fs_Join (Gl := Gl) (xs := xs) (sep := []) (t := t) (by omega) (by rw [join_flat]; omega)
  rw [join_flat] at c1
  (generalize hQ : (fun (ex : Ex) (_ _ : Nat) (s : St) => _) = Q; unfold ir_wireglue)
  simp +contextual (maxSteps := 1000000) only [go_sem, reduceCtorEq, ↓reduceIte, Nat.reduceAdd]
  (refine CallP.pure (c1) (fun _ => rfl) ?_; simp +contextual (maxSteps := 1000000) only [go_sem, ↓reduceIte, Nat.reduceAdd, Nat.reduceEqDiff])
  refine ⟨⟨.inl trivial, by omega⟩, ?_⟩
  rw [← hQ]
  exact ⟨trivial, .inl ⟨_, rfl, RepLe.anon' rfl⟩⟩
set_option maxHeartbeats 4000000 in
theorem fs_body {Gl : Gh → Prop} (hst : Stays Gl) {k : Int} {ps : List (List Int)} {it da : List UInt8} {pr fi : UInt8} (hl : ps.length ≤ 16) (hp : ∀ p ∈ ps, p.length ≤ 8 ∧ ∀ n ∈ p, n ≤ 1114111) (hit : it.length ≤ 100000) :
    FS Tryz.prog Gl 120 [.agg (Sq.c ⟨k, pr.toNat, ps, it, fi.toNat, da⟩)] [] [] (.str (prB pr.toNat ++ (parsText ps ++ it ++ [fi]))) [] [] := by
  refine FS.of hm hst is_wirebody (by simp) fun γ hγ hfr => ?_
  have hsl := parsText_len hp
  have hsc : Sq.c ⟨k, pr.toNat, ps, it, fi.toNat, da⟩ = [.int .i64 k, .int .u8 (pr.toNat : Int), .sl none 1 (parsAV ps), .str it, .int .u8 (fi.toNat : Int), .str da] := rfl
  (generalize hQ : (fun (ex : Ex) (_ _ : Nat) (s : St) => _) = Q; unfold ir_wirebody)
  simp +contextual (maxSteps := 1000000) only [hsc, parsAV_length, go_sem, ↓reduceIte, Nat.reduceAdd, Nat.reduceEqDiff]
  refine kLoop_ix (fun q : Nat × Option Nm => ⟨lf [(1, .ptr (γ, 0, 0) 0), (3, sv q.2 1 (strsAV ((ps.take q.1).map subText))), (8, .sl none 1 (parsAV ps)), (9, .int .i64 (ps.length : Int)), (10, .int .i64 (q.1 : Int))], [((γ, 0, 0), .cells [.int .i64 k, .int .u8 (pr.toNat : Int), .sl none 1 (parsAV ps), .str it, .int .u8 (fi.toNat : Int), .str da])], fun x => q.2 = some x⟩)
    (fun q => q.1 ≤ ps.length ∧ (q.2 = none → q.1 = 0)) (fun q => ps.length - q.1) 0 (0, none) ?_ ⟨by simp, by simp⟩ ?_
  · refine Wk.perm' ?_ (fun p hp => hp) (fun t ht => by cases ht)
    simp only [lfOK, upd]
    repeat' first | exact AVle.refl _ _ | exact trivial | refine And.intro ?_ ?_ | exact AVle.int (by simp only [IntKind.wrap_i64]; omega)
  · rintro γ' ⟨i, tk⟩ hf ⟨hi, htk⟩
    simp only at hi htk
    generalize hQ' : kIt _ _ _ _ _ = Q'
    unfold ir_wirebody_l0
    by_cases hlt : i < ps.length
    · have hd : decide ((i : Int) < (ps.length : Int)) = true := by simp; omega
      have hg1 : (parsAV ps).getD i [] = [.sl none 1 (intsAV ps[i])] := parsAV_get hlt
      have hpi := hp _ (List.getElem_mem hlt)
      have c1 := fs_one (Gl := Gl) hst (p := ps[i]) (t := none) (by omega) hpi.2
      have htk1 : (ps.take (i + 1)).map subText = (ps.take i).map subText ++ [subText ps[i]] := by
        rw [List.take_add_one, List.getElem?_eq_getElem hlt, List.map_append]; rfl
      have hlen : (strsAV ((ps.take i).map subText)).length ≤ ps.length := by rw [strsAV_length]; simp; omega
      cases tk with
      | none =>
        have h0 := htk rfl
        have ht0 : ps.take i = [] := by rw [h0]; rfl
        rw [ht0, List.map_nil, List.nil_append] at htk1
        simp +contextual (maxSteps := 1000000) only [hd, hg1, Int.toNat_natCast, parsAV_length, go_sem, reduceCtorEq, ↓reduceIte, Nat.reduceAdd, Nat.reduceEqDiff]
        refine ⟨⟨by omega, by omega⟩, ?_⟩
        (refine CallP.pure (c1) (fun _ => rfl) ?_; simp +contextual (maxSteps := 1000000) only [go_sem, reduceCtorEq, ↓reduceIte, Nat.reduceAdd, Nat.reduceEqDiff, Nat.reduceLeDiff, Nat.reduceMul])
        rw [← hQ']
        simp only [w_kIt_n]
        refine ⟨0, (i + 1, some (γ', 8, 0)), Wk.perm' ?_ (fun p hp => hp) ?_, ⟨by simp only; omega, by simp⟩, by simp only; omega⟩
        · simp only [htk1, sv_some, strsAV, List.map_cons, List.map_nil]
          repeat' first | exact AVle.refl _ _ | exact trivial | refine And.intro ?_ ?_ | exact AVle.int (by simp only [IntKind.wrap_i64]; omega)
        · intro t ht
          cases ht
          exact .inl rfl
      | some t0 =>
        simp +contextual (maxSteps := 1000000) only [hd, hg1, Int.toNat_natCast, parsAV_length, go_sem, reduceCtorEq, ↓reduceIte, Nat.reduceAdd, Nat.reduceEqDiff]
        refine ⟨⟨by omega, by omega⟩, ?_⟩
        (refine CallP.pure (c1) (fun _ => rfl) ?_; simp +contextual (maxSteps := 1000000) only [go_sem, reduceCtorEq, ↓reduceIte, Nat.reduceAdd, Nat.reduceEqDiff])
        refine ⟨⟨.inr trivial, by omega⟩, ?_⟩
        rw [← hQ']
        simp only [w_kIt_n]
        refine ⟨0, (i + 1, some (γ', 8, 0)), Wk.perm' ?_ (fun p hp => hp) ?_, ⟨by simp only; omega, by simp⟩, by simp only; omega⟩
        · simp only [htk1, sv_some, strsAV_snoc]
          repeat' first | exact AVle.refl _ _ | exact trivial | refine And.intro ?_ ?_ | exact AVle.int (by simp only [IntKind.wrap_i64]; omega)
        · intro t ht
          cases ht
          exact .inl rfl
    · have hii : i = ps.length := by omega
      have hd : decide ((i : Int) < (ps.length : Int)) = false := by simp; omega
      have hfull : (ps.take i).map subText = ps.map subText := by rw [List.take_of_length_le (by omega)]
      have hz : Lib.join (ps.map subText) [59] = parsText ps := join_jn 59 _
      have hjl : (Lib.join (ps.map subText) [59]).length ≤ 140737488355328 := by rw [hz]; omega
      have c1 : FS Tryz.prog Gl 163 [sv tk 1 (strsAV (ps.map subText)), .str [59]] [] [] (.str (parsText ps)) [] [] := by
        rw [← hz]
        cases tk with
        | none =>
          have h0 : ps = [] := List.length_eq_zero_iff.1 (by rw [← hii]; exact htk rfl)
          exact (fs_Join (Gl := Gl) (xs := ps.map subText) (sep := [59]) (t := none) (by simp; omega) hjl).args ⟨by rw [h0]; exact RepLe.nils 1, RepLe.refl _, trivial⟩
        | some t0 => exact fs_Join (Gl := Gl) (xs := ps.map subText) (sep := [59]) (t := some t0) (by simp; omega) hjl
      simp +contextual (maxSteps := 1000000) only [hd, hfull, go_sem, reduceCtorEq, ↓reduceIte, Nat.reduceAdd, Nat.reduceEqDiff]
      rw [← hQ']
      simp only [w_kIt_e, w_kBlk_e, ↓reduceIte]
      simp +contextual (maxSteps := 1000000) only [go_sem, ↓reduceIte, Nat.reduceAdd, Nat.reduceEqDiff]
      refine DCall.new c1 ?_
      simp +contextual (maxSteps := 1000000) only [isByte_one, unbyte_c, go_sem, reduceCtorEq, ↓reduceIte, Nat.reduceAdd, Nat.reduceEqDiff, Nat.reduceLeDiff, Nat.reduceBEq]
      refine ⟨by omega, by simp only [List.length_append]; omega, ?_⟩
      have hpr : ((pr.toNat : Int).toNat).toUInt8 = pr := by rw [Int.toNat_natCast]; exact UInt8.ofNat_toNat
      cases hq : ((pr.toNat : Int) != 0) with
      | false =>
        simp +contextual (maxSteps := 1000000) only [go_sem, ↓reduceIte, Nat.reduceAdd, Nat.reduceEqDiff]
        have hz1 : prB (pr.toNat : Int) = [] := by rw [prB, hq]; rfl
        rw [← hQ, hz1]
        exact ⟨trivial, Ret.flat rfl rfl⟩
      | true =>
        simp +contextual (maxSteps := 1000000) only [isByte_one, unbyte_c, go_sem, ↓reduceIte, Nat.reduceAdd, Nat.reduceEqDiff]
        refine ⟨by simp only [List.length_append, List.length_cons, List.length_nil]; omega, ?_⟩
        have hz1 : prB (pr.toNat : Int) = [pr] := by rw [prB, hq, hpr]; rfl
        rw [← hQ, hz1]
        exact ⟨trivial, Ret.flat rfl rfl⟩
end Go.Proofs.YtjankibepgnbfaaGreatDoor

namespace Go.Proofs.YtjankibepgnbfaaGreatDoor
open Go Go.Ab
def ir_wirePut : ICode :=
 (.seq
 (.reg [qA 1 (.box 43 (.t 0)),
 qA 2 (.mov (.c .nils)),
 qA 3 (.mov (qI 0))] (some [1]))
 (.seq
 (.seq
 (.reg [qA 5 (.ld (some 6) (.t 1)),
 qA 6 (.call (qC 118) [(.t 5)]),
 qM 4 6] (some [1,4]))
 (.seq
 (.reg [qM 7 4,
 qA 8 (.bin .neq .none (.t 7) (qI 0))] (some [1,4,8]))
 (.cond (.t 8)
 (.seq
 (.reg [qM 9 4,
 qA 2 (.mov (.c .nils)),
 qM 3 9] (some [2,3]))
 .ret)
 .skip)))
 (.seq
 (.seq
 (.reg [qF 10 0 1,
 qL 11 10] (some [1,11]))
 (.blk 0
 (.seq
 (.reg [qA 13 (.bin .eql .none (.t 11) (qI 1)),
 qM 12 13] (some [1,11,12]))
 (.cond (.t 12)
 (.seq
 (.reg [qA 14 (.ld (some 6) (.t 1)),
 qA 15 (.call (qC 120) [(.t 14)]),
 qA 16 (.row 9 1 [(.c (.str [91])), (.t 15)]),
 qA 17 (.call (qC 119) [(.t 16)]),
 qM 2 17,
 qA 3 (.mov (qI 0))] (some [2,3]))
 .ret)
 (.seq
 (.reg [qA 19 (.bin .eql .none (.t 11) (qI 2)),
 qM 18 19] (some [1,11,18]))
 (.cond (.t 18)
 (.seq
 (.reg [qF 20 4 1,
 qL 21 20,
 qA 22 (.row 5 1 [(.t 21)]),
 qA 23 (.b2s (.t 22)),
 qA 24 (.row 9 1 [(.c (.str [79])), (.t 23)]),
 qA 25 (.call (qC 119) [(.t 24)]),
 qM 2 25,
 qA 3 (.mov (qI 0))] (some [2,3]))
 .ret)
 (.seq
 (.reg [qA 27 (.bin .eql .none (.t 11) (qI 3)),
 qM 26 27] (some [1,11,26]))
 (.cond (.t 26)
 (.seq
 (.drw [⟨qA 28 (.ld (some 6) (.t 1)), []⟩,
 ⟨qA 29 (.call (qC 120) [(.t 28)]), [0]⟩,
 ⟨qF 30 5 1, []⟩,
 ⟨qL 31 30, [2]⟩,
 ⟨qA 32 (.row 9 1 [(.c (.str [80])), (.t 29), (.t 31), (.c (.str [27, 92]))]), [1,3]⟩,
 ⟨qA 33 (.call (qC 119) [(.t 32)]), [4,1]⟩]
 [qM 2 33,
 qA 3 (.mov (qI 0))] (some [2,3]))
 .ret)
 (.seq
 (.reg [qA 35 (.bin .eql .none (.t 11) (qI 4)),
 qM 34 35] (some [1,34]))
 (.cond (.t 34)
 (.seq
 (.reg [qF 36 5 1,
 qL 37 36,
 qA 38 (.row 9 1 [(.c (.str [93])), (.t 37), (.c (.str [27, 92]))]),
 qA 39 (.call (qC 119) [(.t 38)]),
 qM 2 39,
 qA 3 (.mov (qI 0))] (some [2,3]))
 .ret)
 .skip))))))))))
 (.seq
 (.reg [qA 40 (.ld (some 6) (.t 1)),
 qA 41 (.call (qC 120) [(.t 40)]),
 qA 42 (.row 9 1 [(.t 41)]),
 qA 43 (.call (qC 119) [(.t 42)]),
 qM 2 43,
 qA 3 (.mov (qI 0))] (some [2,3]))
 .ret))))
theorem is_wirePut : IrOf Tryz.prog 60 44 ir_wirePut [.t 2, .t 3] := ⟨_, Tryz.func60, rfl, by kernel_rfl, by kernel_rfl, by kernel_rfl⟩

theorem esc_plain {s : Sq} (h : mayP s = 0) (h1 : s.k ≠ 1) (h2 : s.k ≠ 2) (h3 : s.k ≠ 3) (h4 : s.k ≠ 4) : s.pr = 0 ∧ s.ps = [] := by
  have hs : shapedP s = true := by
    simp only [mayP] at h
    split at h
    · cases h
    · split at h
      · cases h
      · rename_i h2
        simp only [Bool.or_eq_true, Bool.not_eq_true', not_or, Bool.not_eq_false] at h2
        exact h2.2
  simp only [shapedP, if_neg h1, if_neg h2, if_neg h3, if_neg h4] at hs
  split at hs
  · simp only [Bool.and_eq_true, beq_iff_eq] at hs
    obtain ⟨⟨⟨⟨⟨q1, q2⟩, _⟩, _⟩, _⟩, _⟩ := hs
    exact ⟨q1, List.length_eq_zero_iff.1 (by omega)⟩
  · cases hs
set_option maxHeartbeats 4000000 in
theorem fs_wPut {Gl : Gh → Prop} (hst : Stays Gl) {s : Sq} (hp0 : 0 ≤ s.pr) (hp1 : s.pr < 256) (hf0 : 0 ≤ s.fi) (hf1 : s.fi < 256) (h : s.sm) : FS Tryz.prog Gl 60 [.agg s.c] [] [] (.tup [putV s, .int .i64 (mayP s)]) [] [] := by
  have c1 := fs_May (Gl := Gl) hst hf0 hf1 h.ps h.pp h.it h.da
  have hfl : (AV.tup [putV s, .int .i64 (mayP s)]).flatT = true := by
    unfold putV; split <;> rfl
  refine FS.ofW hm hst is_wirePut hfl (by simp) fun γ hγ hfr => ?_
  have hpv : putV s = if (mayP s != 0) = true then .nils else .sl none 1 (bytesAV (putB s)) := rfl
  have hda : mayP s = 0 → s.da.length ≤ 4096 := fun hz => (mayP_sm hz).2.2.2.2
  have hil : mayP s = 0 → s.it.length ≤ 2 := fun hz => (mayP_sm hz).2.2.2.1
  have hpl : mayP s = 0 → s.ps.length ≤ 16 := fun hz => (mayP_sm hz).2.1
  have hpp : mayP s = 0 → ∀ p ∈ s.ps, p.length ≤ 8 ∧ ∀ n ∈ p, n ≤ 1114111 := fun hz p hp => ⟨(mayP_sm hz).2.2.1 p hp, fun n hn => (((parsOk_iff (may_pars hz)).2.2 p hp).2.2 n hn).2⟩
  obtain ⟨k, pr, ps, it, fi, da⟩ := s
  simp only at hp0 hp1 hf0 hf1 hda hil hpl hpp
  obtain ⟨pr, rfl⟩ := byteOf hp0 hp1
  obtain ⟨fi, rfl⟩ := byteOf hf0 (by omega)
  have hbb : putB ⟨k, pr.toNat, ps, it, fi.toNat, da⟩ = (if (k == 1) = true then [27, 91] ++ (prB pr.toNat ++ parsText ps ++ it) ++ [fi]
    else if (k == 2) = true then [27, 79] ++ [fi]
    else if (k == 3) = true then [27, 80] ++ (prB pr.toNat ++ parsText ps ++ it) ++ [fi] ++ da ++ [27, 92]
    else if (k == 4) = true then [27, 93] ++ da ++ [27, 92]
    else [27] ++ it ++ [fi]) := by
    have : ((fi.toNat : Int).toNat).toUInt8 = fi := by rw [Int.toNat_natCast]; exact UInt8.ofNat_toNat
    simp only [putB, bodyB, this]
  have hcc : Sq.c ⟨k, pr.toNat, ps, it, fi.toNat, da⟩ = [.int .i64 k, .int .u8 (pr.toNat : Int), parsV ps, .str it, .int .u8 (fi.toNat : Int), .str da] := rfl
  rw [hcc] at c1
  generalize hmp : mayP _ = mp at *
  (generalize hQ : (fun (ex : Ex) (_ _ : Nat) (s : St) => _) = Q; unfold ir_wirePut)
  simp +contextual (maxSteps := 1000000) only [hcc, go_sem, ↓reduceIte, Nat.reduceAdd, Nat.reduceEqDiff]
  (refine CallP.pure (c1) (fun _ => rfl) ?_; simp +contextual (maxSteps := 1000000) only [go_sem, reduceCtorEq, ↓reduceIte, Nat.reduceAdd, Nat.reduceEqDiff])
  by_cases hz : mp = 0
  · subst hz
    have hda := hda rfl
    have hil := hil rfl
    have c2 := fs_body (Gl := Gl) hst (k := k) (ps := ps) (it := it) (da := da) (pr := pr) (fi := fi) (hpl rfl) (hpp rfl) (by omega)
    rw [hcc] at c2
    have hsl := parsText_len (hpp rfl)
    have hpl := hpl rfl
    have hprl : (prB pr.toNat).length ≤ 1 := by unfold prB; split <;> simp
    have fin : ∀ {l : List UInt8} {γ c : Nat} {H : Hp} {T : Tk}, l = putB ⟨k, pr.toNat, ps, it, fi.toNat, da⟩ → Q .ret γ c ⟨lf [(2, .sl none 1 (bytesAV l)), (3, .int .i64 0)], H, T⟩ := by
      intro l γ c H T hl
      rw [← hQ, hpv, hl]
      exact ⟨trivial, .inl ⟨_, rfl, RepLe.refl _⟩⟩
    have hpt : (parsText ps).length ≤ 3000 := by omega
    have hk1 : (k == 1) = true ∨ (k == 1) = false := by cases (k == 1) <;> simp
    rcases hk1 with hk1 | hk1
    · simp +contextual (maxSteps := 1000000) only [hk1, go_sem, reduceCtorEq, ↓reduceIte, Nat.reduceAdd, Nat.reduceEqDiff, Int.reduceBNe]
      (refine CallP.pure (c2) (fun _ => rfl) ?_; simp +contextual (maxSteps := 1000000) only [go_sem, ↓reduceIte, Nat.reduceAdd])
      (refine CallP.pure (fs_glue (xs := [[91], prB pr.toNat ++ (parsText ps ++ it ++ [fi])]) hst (by simp) (by simp; omega)) (fun _ => rfl) ?_; simp +contextual (maxSteps := 1000000) only [go_sem, ↓reduceIte, Nat.reduceAdd, Nat.reduceEqDiff])
      refine fin ?_
      rw [hbb, if_pos hk1]; simp
    have hk2 : (k == 2) = true ∨ (k == 2) = false := by cases (k == 2) <;> simp
    rcases hk2 with hk2 | hk2
    · simp +contextual (maxSteps := 1000000) only [hk1, hk2, isByte_one, unbyte_c, go_sem, reduceCtorEq, ↓reduceIte, Nat.reduceAdd, Nat.reduceEqDiff, Int.reduceBNe]
      (refine CallP.pure (fs_glue (xs := [[79], [fi]]) hst (by simp) (by simp)) (fun _ => rfl) ?_; simp +contextual (maxSteps := 1000000) only [go_sem, ↓reduceIte, Nat.reduceAdd, Nat.reduceEqDiff])
      refine fin ?_
      rw [hbb, hk1, if_neg (by simp), if_pos hk2]; simp
    have hk3 : (k == 3) = true ∨ (k == 3) = false := by cases (k == 3) <;> simp
    rcases hk3 with hk3 | hk3
    · simp +contextual (maxSteps := 1000000) only [hk1, hk2, hk3, go_sem, reduceCtorEq, ↓reduceIte, Nat.reduceAdd, Nat.reduceEqDiff, Int.reduceBNe]
      refine DCall.new c2 ?_
      simp +contextual (maxSteps := 1000000) only [go_sem, ↓reduceIte, Nat.reduceAdd, Nat.reduceEqDiff, Nat.reduceBEq]
      refine ⟨by simp [AV.closedL, AV.closed], DCall.new (fs_glue (xs := [[80], prB pr.toNat ++ (parsText ps ++ it ++ [fi]), da, [27, 92]]) hst (by simp) (by simp; omega)) ?_⟩
      simp +contextual (maxSteps := 1000000) only [go_sem, ↓reduceIte, Nat.reduceAdd, Nat.reduceEqDiff]
      refine fin ?_
      rw [hbb, hk1, if_neg (by simp), hk2, if_neg (by simp), if_pos hk3]; simp
    have hk4 : (k == 4) = true ∨ (k == 4) = false := by cases (k == 4) <;> simp
    rcases hk4 with hk4 | hk4
    · simp +contextual (maxSteps := 1000000) only [hk1, hk2, hk3, hk4, go_sem, reduceCtorEq, ↓reduceIte, Nat.reduceAdd, Nat.reduceEqDiff, Int.reduceBNe]
      (refine CallP.pure (fs_glue (xs := [[93], da, [27, 92]]) hst (by simp) (by simp; omega)) (fun _ => rfl) ?_; simp +contextual (maxSteps := 1000000) only [go_sem, ↓reduceIte, Nat.reduceAdd, Nat.reduceEqDiff])
      refine fin ?_
      rw [hbb, hk1, if_neg (by simp), hk2, if_neg (by simp), hk3, if_neg (by simp), if_pos hk4]; simp
    · simp +contextual (maxSteps := 1000000) only [hk1, hk2, hk3, hk4, go_sem, reduceCtorEq, ↓reduceIte, Nat.reduceAdd, Nat.reduceEqDiff, Int.reduceBNe]
      (refine CallP.pure (c2) (fun _ => rfl) ?_; simp +contextual (maxSteps := 1000000) only [go_sem, ↓reduceIte, Nat.reduceAdd])
      (refine CallP.pure (fs_glue (xs := [prB pr.toNat ++ (parsText ps ++ it ++ [fi])]) hst (by simp) (by simp; omega)) (fun _ => rfl) ?_; simp +contextual (maxSteps := 1000000) only [go_sem, ↓reduceIte, Nat.reduceAdd, Nat.reduceEqDiff])
      refine fin ?_
      rw [hbb, hk1, if_neg (by simp), hk2, if_neg (by simp), hk3, if_neg (by simp), hk4, if_neg (by simp)]
      obtain ⟨hpl1, hpl2⟩ := esc_plain hmp (by simpa using hk1) (by simpa using hk2) (by simpa using hk3) (by simpa using hk4)
      simp only at hpl1 hpl2
      rw [hpl1, hpl2]; rfl
  · have hq : (mp != 0) = true := by simp [hz]
    simp +contextual (maxSteps := 1000000) only [hq, go_sem, ↓reduceIte, Nat.reduceAdd, Nat.reduceEqDiff]
    rw [← hQ, hpv, if_pos hq]
    exact ⟨trivial, .inl ⟨_, rfl, RepLe.refl _⟩⟩
end Go.Proofs.YtjankibepgnbfaaGreatDoor

namespace Go.Proofs.YtjankibepgnbfaaGreatDoor
open Go Go.Ab
/- clavier/wire.Num -/
def ir_wireNum_l0 : ICode :=
 (.seq
 (.reg [qA 16 (.bin .lss .none (.t 15) (.t 14))] (some [6,7,13,14,15,16]))
 (.seq
 (.cond (.t 16)
 .skip
 (.exit 0))
 (.seq
 (.blk 1
 (.seq
 (.reg [qA 17 (.ia 1 (.t 13) (.t 15)),
 qL 18 17,
 qM 9 18] (some [6,7,9,13,14,15]))
 (.reg [qF 19 2 7,
 qL 20 19,
 qM 21 9,
 qA 22 (.row 3 1 [(.t 21)]),
 qA 23 (.row 87 1 [(.t 22)]),
 qA 24 (.app 87 1 24 (.t 20) (.t 23)),
 qF 25 2 7,
 qN (.st 1 (.t 25) (.t 24))] (some [6,7,13,14,15]))))
 (.reg [qA 26 (.bin .add .none (.t 15) (qI 1)),
 qM 15 26] (some [6,7,13,14,15])))))
def ir_wireNum : ICode :=
 (.seq
 (.reg [qA 6 (.box 43 (.c (.agg [(.int .i64 0), (.int .u8 0), .nils, (.str []), (.int .u8 0), (.str [])])))] (some [0,1,2,6]))
 (.seq
 (.reg [qM 10 0,
 qM 11 1,
 qA 12 (.bld [(.int .i64 0), (.int .u8 0), .nils, (.str []), (.int .u8 0), (.str [])] [(0, 1, (qI 1)), (1, 1, (.t 10)), (4, 1, (.t 11))]),
 qA 7 (.box 43 (.c (.agg [(.int .i64 0), (.int .u8 0), .nils, (.str []), (.int .u8 0), (.str [])]))),
 qN (.st 6 (.t 7) (.t 12))] (some [2,6,7]))
 (.seq
 (.seq
 (.reg [qM 13 2,
 qA 14 (.len (.t 13)),
 qA 15 (.mov (qI 0))] (some [6,7,13,14,15]))
 (.blk 0
 (.loop
 ir_wireNum_l0)))
 (.seq
 (.reg [qA 27 (.ld (some 6) (.t 7)),
 qN (.st 6 (.t 6) (.t 27))] (some [6]))
 .ret))))
theorem is_wireNum : IrOf Tryz.prog 68 28 ir_wireNum [.cell 6 (some 6)] := ⟨_, Tryz.func68, rfl, by kernel_rfl, by kernel_rfl, by kernel_rfl⟩

def putX (s : Sq) : List UInt8 := if (mayP s != 0) = true then [] else putB s
theorem putV_le (s : Sq) : RepLe (putV s) (.sl none 1 (bytesAV (putX s))) := by
  unfold putV putX
  split
  · exact RepLe.nils 1
  · exact RepLe.refl _
def numSq (k pr fi : Int) (nums : List Int) : Sq := ⟨k, pr, nums.map fun n => [n], [], fi, []⟩
theorem fs_Num {Gl : Gh → Prop} (hst : Stays Gl) {pr fi : Int} {nums : List Int} {tn : Option Nm} (hn : nums.length ≤ 1000) : FS Tryz.prog Gl 68 [.int .u8 pr, .int .u8 fi, .sl tn 1 (intsAV nums)] [] [] (.agg (numSq 1 pr fi nums).c) [] [] := by
  refine FS.ofW hm hst is_wireNum rfl (by simp) fun γ hγ hfr => ?_
  (generalize hQ : (fun (ex : Ex) (_ _ : Nat) (s : St) => _) = Q; unfold ir_wireNum)
  simp +contextual (maxSteps := 1000000) only [go_sem, reduceCtorEq, ↓reduceIte, Nat.reduceAdd, Nat.reduceEqDiff, Nat.reduceLeDiff]
  refine kLoop_ix (fun q : Nat × Option Nm => ⟨lf [(6, .ptr (γ, 0, 0) 0), (7, .ptr (γ, 4, 0) 0), (13, .sl tn 1 (intsAV nums)), (14, .int .i64 nums.length), (15, .int .i64 q.1)], [((γ, 4, 0), .cells [.int .i64 1, .int .u8 pr, sv q.2 1 (parsAV ((nums.take q.1).map fun n => [n])), .str [], .int .u8 fi, .str []]), ((γ, 0, 0), .cells [.int .i64 0, .int .u8 0, .nils, .str [], .int .u8 0, .str []])], fun x => q.2 = some x⟩)
    (fun q => q.1 ≤ nums.length ∧ (q.2 = none → q.1 = 0)) (fun q => nums.length - q.1) 0 (0, none) ?_ ⟨by simp, by simp⟩ ?_
  · refine Wk.perm' ?_ (fun p hp => hp) (fun t ht => by cases ht)
    simp only [lfOK, intsAV_length]
    repeat' first | exact AVle.refl _ _ | exact trivial | refine And.intro ?_ ?_ | exact AVle.int (by simp only [IntKind.wrap_i64]; omega)
  rintro γ' ⟨i, tk⟩ hf ⟨hi, htk⟩
  simp only at hi htk hf
  generalize hQ' : kIt _ _ _ _ _ = Q'
  unfold ir_wireNum_l0
  by_cases hlt : i < nums.length
  · have hd : decide ((i : Int) < (nums.length : Int)) = true := decide_eq_true (by omega)
    have hg1 : (intsAV nums).getD i [] = [.int .i64 nums[i]] := intsAV_get hlt
    have hw : IntKind.i64.wrap ((i : Int) + 1) = ((i + 1 : Nat) : Int) := by rw [IntKind.wrap_i64]; omega
    have hsn : parsAV ((nums.take (i + 1)).map fun n => [n]) = parsAV ((nums.take i).map fun n => [n]) ++ [[intsV [nums[i]]]] := by
      rw [List.take_add_one, List.getElem?_eq_getElem hlt, List.map_append]
      unfold parsAV
      rw [List.map_append]; rfl
    have hln : (parsAV ((nums.take i).map fun n => [n])).length = i := by rw [parsAV_length, List.length_map, List.length_take]; omega
    cases tk with
    | none =>
      obtain rfl := htk rfl
      have hd0 : decide (0 < (nums.length : Int)) = true := decide_eq_true (by omega)
      have hg0 : (intsAV nums).getD 0 [] = [.int .i64 nums[0]] := hg1
      simp +contextual (maxSteps := 1000000) only [hd0, hg0, Int.toNat_natCast, intsAV_length, Int.toNat_zero, go_sem, reduceCtorEq, ↓reduceIte, Nat.reduceAdd, Nat.reduceEqDiff, Nat.reduceLeDiff, Nat.reduceMul, Int.reduceLE]
      refine ⟨by omega, ?_⟩
      rw [← hQ']
      simp only [w_kIt_n]
      refine ⟨0, (1, some (γ', 9, 0)), Wk.perm' ?_ (fun p hp => ?_) (fun t ht => ?_), ⟨by simp only; omega, by simp⟩, by simp only; omega⟩
      · repeat' first | exact AVle.refl _ _ | exact trivial | refine And.intro ?_ ?_ | exact AVle.int (by simp only [IntKind.wrap_i64]; omega)
      · have e : sv (some ((γ', 9, 0) : Nm)) 1 (parsAV ((nums.take 1).map fun n => [n])) = .sl (some (γ', 9, 0)) 1 [[.sl none 1 [[.int .i64 nums[0]]]]] := by
          rw [show nums.take 1 = [nums[0]] by cases nums with | nil => simp at hlt | cons x l => rfl]; rfl
        simp only [e] at hp
        exact hp
      · simp only [Option.some.injEq] at ht
        exact .inl ht.symm
    | some t0 =>
      simp +contextual (maxSteps := 1000000) only [hd, hg1, Int.toNat_natCast, intsAV_length, hln, go_sem, reduceCtorEq, ↓reduceIte, Nat.reduceAdd, Nat.reduceEqDiff, Nat.reduceLeDiff]
      refine ⟨⟨by omega, by omega⟩, ⟨.inr (.inr trivial), by omega⟩, ?_⟩
      rw [← hQ']
      simp only [w_kIt_n]
      refine ⟨0, (i + 1, some (γ', 9, 0)), Wk.perm' ?_ (fun p hp => ?_) (fun t ht => ?_), ⟨by simp only; omega, by simp⟩, by simp only; omega⟩
      · rw [hw]
        repeat' first | exact AVle.refl _ _ | exact trivial | refine And.intro ?_ ?_ | exact AVle.int (by simp only [IntKind.wrap_i64]; omega)
      · simp only [sv_some, hsn] at hp
        exact hp
      · simp only [Option.some.injEq] at ht
        exact .inl ht.symm
  · have hd : decide ((i : Int) < (nums.length : Int)) = false := decide_eq_false (by omega)
    simp +contextual (maxSteps := 1000000) only [hd, go_sem, reduceCtorEq, ↓reduceIte, Nat.reduceAdd, Nat.reduceEqDiff]
    rw [← hQ']
    simp only [w_kIt_e, w_kBlk_e, ↓reduceIte]
    have hall : nums.take i = nums := List.take_of_length_le (by omega)
    cases tk with
    | none =>
      simp +contextual (maxSteps := 1000000) only [go_sem, reduceCtorEq, ↓reduceIte, Nat.reduceAdd, Nat.reduceEqDiff]
      obtain rfl := htk rfl
      have hz : (numSq 1 pr fi nums).c = [.int .i64 1, .int .u8 pr, .sl none 1 [], .str [], .int .u8 fi, .str []] := by
        have : nums = [] := List.length_eq_zero_iff.1 (by omega)
        subst this; rfl
      rw [← hQ, hz]
      refine ⟨trivial, .inl ⟨.agg [.int .i64 1, .int .u8 pr, .nils, .str [], .int .u8 fi, .str []], ?_, RepLe.agg ⟨.refl _, .refl _, .nils 1, .refl _, .refl _, .refl _, trivial⟩⟩⟩
      simp [resOf, getAll, IRes.get, lf, getH]
    | some t0 =>
      simp +contextual (maxSteps := 1000000) only [go_sem, reduceCtorEq, ↓reduceIte, Nat.reduceAdd, Nat.reduceEqDiff]
      rw [hall, ← hQ]
      refine ⟨trivial, .inl ⟨.agg [.int .i64 1, .int .u8 pr, .sl (some t0) 1 (parsAV (nums.map fun n => [n])), .str [], .int .u8 fi, .str []], ?_, RepLe.agg ⟨.refl _, .refl _, .anon' rfl, .refl _, .refl _, .refl _, trivial⟩⟩⟩
      simp [resOf, getAll, IRes.get, lf, getH]
end Go.Proofs.YtjankibepgnbfaaGreatDoor

namespace Go.Proofs.YtjankibepgnbfaaGreatDoor
open Go Go.Ab
def ir_kittyKey : ICode :=
 (.seq
 (.reg [qA 3 (.box 27 (.t 1)),
 qA 4 (.mov (.c .nils))] (some [0,3]))
 (.seq
 (.drw [⟨qA 11 (.ld (some 6) (.t 3)), []⟩,
 ⟨qM 12 0, []⟩,
 ⟨qF 13 0 3, []⟩,
 ⟨qL 14 13, [2]⟩,
 ⟨qA 15 (.call (qC 55) [(.t 14)]), [3]⟩,
 ⟨qA 16 (.fld 0 none (.t 15)), [4]⟩,
 ⟨qA 17 (.bld [(.int .i64 0), (.int .i64 0), (.int .i64 0), (.int .i64 0), (.int .i64 0), (.str []), (.int .i64 0), (.int .i64 0)] [(0, 6, (.t 11)), (6, 1, (.t 12)), (7, 1, (.t 16))]), [0,1,5]⟩,
 ⟨qA 5 (.box 101 (.c (.agg [(.int .i64 0), (.int .i64 0), (.int .i64 0), (.int .i64 0), (.int .i64 0), (.str []), (.int .i64 0), (.int .i64 0)]))), []⟩]
 [qN (.st 8 (.t 5) (.t 17))] (some [3,5]))
 (.seq
 (.seq
 (.reg [qA 18 (.ld (some 6) (.t 3)),
 qA 19 (.call (qC 26) [(.t 18)]),
 qA 20 (.un .not (.t 19)),
 qM 21 20,
 qG 22 21 false (.ld (some 8) (.t 5)),
 qG 23 21 false (.call (qC 57) [(.t 22)]),
 qG 24 21 false (.un .not (.t 23)),
 qA 25 (.pick (.t 21) (qB true) (.t 24))] (some [3,5,25]))
 (.cond (.t 25)
 (.seq
 (.reg [qA 4 (.mov (.c .nils))] (some [4]))
 .ret)
 .skip))
 (.seq
 (.seq
 (.reg [qA 26 (.ld (some 8) (.t 5)),
 qA 27 (.call (qC 58) [(.t 26)]),
 qM 6 27] (some [3,5,6]))
 (.seq
 (.reg [qM 28 6,
 qA 29 (.len (.t 28)),
 qA 30 (.bin .gtr .none (.t 29) (qI 0))] (some [3,5,6,30]))
 (.cond (.t 30)
 (.seq
 (.reg [qM 31 6,
 qM 4 31] (some [4]))
 .ret)
 .skip)))
 (.seq
 (.reg [qF 33 0 3,
 qL 34 33,
 qA 35 (.call (qC 59) [(.t 34)]),
 qM 32 35,
 qE 36 32 0,
 qE 37 32 1,
 qM 7 36,
 qM 8 37] (some [5,7,8]))
 (.seq
 (.drw [⟨qM 39 8, []⟩,
 ⟨qA 40 (.ld (some 8) (.t 5)), []⟩,
 ⟨qM 41 7, []⟩,
 ⟨qM 42 8, []⟩,
 ⟨qA 43 (.call (qC 62) [(.t 40), (.t 41), (.t 42)]), [1,2,3]⟩,
 ⟨qA 44 (.ld (some 8) (.t 5)), []⟩,
 ⟨qA 45 (.call (qC 63) [(.t 44)]), [5,4]⟩,
 ⟨qA 46 (.ld (some 8) (.t 5)), []⟩,
 ⟨qA 47 (.call (qC 64) [(.t 46)]), [7,6]⟩,
 ⟨qA 48 (.row 87 1 [(.t 43), (.t 45), (.t 47)]), [4,6,8]⟩,
 ⟨qA 49 (.call (qC 61) [(.t 48)]), [9,8]⟩,
 ⟨qA 50 (.bld [(.int .i64 0), (.int .u8 0), .nils, (.str []), (.int .u8 0), (.str [])] [(0, 1, (qI 1)), (4, 1, (.t 39)), (2, 1, (.t 49))]), [0,10]⟩,
 ⟨qA 51 (.call (qC 60) [(.t 50)]), [11,10]⟩,
 ⟨qM 38 51, [12]⟩,
 ⟨qE 52 38 0, [13]⟩,
 ⟨qE 53 38 1, [13]⟩,
 ⟨qM 9 52, [14,12,0,1,2,3,4,5,6,7,8,9,10,11,12,13,14]⟩]
 [qM 10 53] (some [9]))
 (.seq
 (.reg [qM 54 9,
 qM 4 54] (some [4]))
 .ret)))))))
theorem is_kittyKey : IrOf Tryz.prog 28 55 ir_kittyKey [.t 4] := ⟨_, Tryz.func28, rfl, by kernel_rfl, by kernel_rfl, by kernel_rfl⟩

theorem letR_lt (c : Int) : (letR c).toNat < 128 := by
  unfold letR
  repeat' split
  all_goals first | decide | (rw [UInt8.toNat_ofNat', Nat.mod_eq_of_lt (by omega)]; omega)
theorem formK_lt (c : Int) : (formK c).2.toNat < 128 := by
  simp only [formK]
  split
  · decide
  · split
    · decide
    · split
      · rename_i h
        show (lookR c).final.toNat < 128
        unfold lookR at h ⊢
        split
        · exact letR_lt c
        · rename_i h1
          rw [if_neg h1] at h
          split
          · exact (by decide : (0 : UInt8).toNat < 128)
          · rename_i h2
            rw [if_neg h2] at h
            split
            · rename_i h3
              rw [if_pos h3] at h
              have : (padR c).kind = 5 := by unfold padR; split <;> rfl
              rw [this] at h
              exact absurd h.1 (by decide)
            · exact (by decide : (0 : UInt8).toNat < 128)
      · split
        · exact (by decide : (126 : UInt8).toNat < 128)
        · exact (by decide : (117 : UInt8).toNat < 128)
def keySq (fl : Int) (k : Ky) : Sq := ⟨1, 0, trimK [firstK fl k (formK k.code).1 (formK k.code).2.toNat, secondK fl k, thirdK fl k] 3, [], (formK k.code).2.toNat, []⟩
def keyK (fl : Int) (k : Ky) : List UInt8 :=
  if (!mayK k || !sentK fl k) = true then []
  else if textK fl k ≠ [] then textK fl k
  else putX (keySq fl k)
set_option maxHeartbeats 4000000 in
theorem fs_Key {Gl : Gh → Prop} (hst : Stays Gl) {k : Ky} {fl : Int} (hfl : fl ≤ 9223372036854775807) (ht : k.text.length ≤ 1000000000000) : FS Tryz.prog Gl 28 [.int .i64 fl, .agg (kyAV k)] [] [] (.sl none 1 (bytesAV (keyK fl k))) [] [] := by
  refine FS.ofW hm hst is_kittyKey rfl (by simp) fun γ hγ hfr => ?_
  have c1 := fs_Look (Gl := Gl) hst (c := k.code)
  rw [ent_eq] at c1
  have c2 := fs_MayK (Gl := Gl) hst ht
  have c3 := fs_sent (Gl := Gl) hst (k := k) hfl
  rw [evC] at c3
  have hky : kyAV k = [.int .i64 k.code, .int .i64 k.mods, .int .i64 k.type, .int .i64 k.shifted, .int .i64 k.base, .str k.text] := rfl
  rw [hky] at c2
  have hkd : (lookR k.code).kind = kindK k.code := rfl
  rw [hkd] at c1
  have hkk : keyK fl k = (if (!mayK k || !sentK fl k) = true then [] else if textK fl k ≠ [] then textK fl k else putX (keySq fl k)) := rfl
  (generalize hQ : (fun (ex : Ex) (_ _ : Nat) (s : St) => _) = Q; unfold ir_kittyKey)
  simp +contextual (maxSteps := 1000000) only [hky, go_sem, reduceCtorEq, ↓reduceIte, Nat.reduceAdd, Nat.reduceEqDiff]
  refine DCall.new c1 ?_
  simp +contextual (maxSteps := 1000000) only [go_sem, reduceCtorEq, ↓reduceIte, Nat.reduceAdd, Nat.reduceEqDiff, Nat.reduceLeDiff, Nat.reduceBEq]
  refine ⟨fun p hp => ?_, ?_⟩
  · simp only [List.mem_cons, List.not_mem_nil, or_false] at hp
    rcases hp with rfl | rfl | rfl <;> simp [Xev_t, mask_app, upd_app, AV.cells, oneL, AV.one]
  cases hmk : mayK k with
  | false =>
    rw [hmk] at c2
    (refine CallP.pure (c2) (fun _ => rfl) ?_; simp +contextual (maxSteps := 1000000) only [go_sem, ↓reduceIte, Nat.reduceAdd, Nat.reduceEqDiff])
    have hz : keyK fl k = [] := by rw [hkk, hmk]; rfl
    rw [← hQ, hz]
    exact ⟨trivial, .inl ⟨_, rfl, RepLe.nils 1⟩⟩
  | true =>
    rw [hmk] at c2
    have hmods : 0 ≤ k.mods ∧ k.mods ≤ 255 := by
      simp only [mayK, Bool.and_eq_true, decide_eq_true_eq] at hmk
      exact ⟨hmk.1.1.1.1.1.1.2, hmk.1.1.1.1.1.2⟩
    have c4 := fs_text (Gl := Gl) hst (k := k) hfl hmods.1 hmods.2 ht
    rw [evC] at c4
    cases hse : sentK fl k with
    | false =>
      rw [hse] at c3
      (refine CallP.pure (c2) (fun _ => rfl) ?_; simp +contextual (maxSteps := 1000000) only [go_sem, ↓reduceIte, Nat.reduceAdd, Nat.reduceEqDiff])
      (refine CallP.pure (c3) (fun _ => rfl) ?_; simp +contextual (maxSteps := 1000000) only [go_sem, ↓reduceIte, Nat.reduceAdd, Nat.reduceEqDiff])
      have hz : keyK fl k = [] := by rw [hkk, hmk, hse]; rfl
      rw [← hQ, hz]
      exact ⟨trivial, .inl ⟨_, rfl, RepLe.nils 1⟩⟩
    | true =>
      rw [hse] at c3
      have hk2 : keyK fl k = if textK fl k ≠ [] then textK fl k else putX (keySq fl k) := by rw [hkk, hmk, hse]; rfl
      (refine CallP.pure (c2) (fun _ => rfl) ?_; simp +contextual (maxSteps := 1000000) only [go_sem, ↓reduceIte, Nat.reduceAdd, Nat.reduceEqDiff])
      (refine CallP.pure (c3) (fun _ => rfl) ?_; simp +contextual (maxSteps := 1000000) only [go_sem, ↓reduceIte, Nat.reduceAdd, Nat.reduceEqDiff])
      (refine CallP.pure (c4) (fun _ => rfl) ?_; simp +contextual (maxSteps := 1000000) only [bytesAV_length', go_sem, reduceCtorEq, ↓reduceIte, Nat.reduceAdd, Nat.reduceEqDiff])
      by_cases hte : textK fl k = []
      · rw [if_neg (fun h => h hte)] at hk2
        have hq : decide (((textK fl k).length : Int) > 0) = false := by rw [hte]; rfl
        have c5 := fs_Form (Gl := Gl) hst (c := k.code)
        simp +contextual (maxSteps := 1000000) only [hq, go_sem, reduceCtorEq, ↓reduceIte, Nat.reduceAdd]
        (refine CallP.pure (c5) (fun _ => rfl) ?_; simp +contextual (maxSteps := 1000000) only [go_sem, ↓reduceIte, Nat.reduceAdd, Nat.reduceEqDiff, Nat.reduceBEq])
        have d1 : FS Tryz.prog Gl 62 [.agg (evC k fl (kindK k.code)), .int .i64 (formK k.code).1, .int .u8 ((formK k.code).2.toNat : Int)] [] [] (.sl none 1 (intsAV (firstK fl k (formK k.code).1 ((formK k.code).2.toNat : Int)))) [] [] := fs_code hst hfl hmods.1 hmods.2
        have d2 : FS Tryz.prog Gl 63 [.agg (evC k fl (kindK k.code))] [] [] (.sl none 1 (intsAV (secondK fl k))) [] [] := fs_how hst hfl
        have d3 : FS Tryz.prog Gl 64 [.agg (evC k fl (kindK k.code))] [] [] (.sl none 1 (intsAV (thirdK fl k))) [] [] := fs_texts hst hfl ht
        have d4 : ∀ t : Option Nm, FS Tryz.prog Gl 61 [.sl t 1 [[.sl none 1 (intsAV (firstK fl k (formK k.code).1 ((formK k.code).2.toNat : Int)))], [.sl none 1 (intsAV (secondK fl k))], [.sl none 1 (intsAV (thirdK fl k))]]] [] [] (.sl none 1 (parsAV (keySq fl k).ps)) [] [] := fun t => fs_params (l := [firstK fl k (formK k.code).1 ((formK k.code).2.toNat : Int), secondK fl k, thirdK fl k]) (tb := t) hst (by simp)
        have hthird : (thirdK fl k).length ≤ 1000000000000 := by
          unfold thirdK
          split
          · simp
          · have := allV_len k.text; omega
        have hfirst : (firstK fl k (formK k.code).1 ((formK k.code).2.toNat : Int)).length ≤ 10 := by
          unfold firstK
          split
          · simp
          · simp only
            repeat' split
            all_goals simp
        have hsec : (secondK fl k).length ≤ 10 := by
          unfold secondK
          repeat' split
          all_goals simp
        have hsm : (keySq fl k).sm := by
          have hmem : ∀ (n : Nat) (l : List (List Int)), ∀ p ∈ trimK l n, p ∈ l := by
            intro n l
            induction n with
            | zero => intro p hp; cases hp
            | succ n ih =>
              intro p hp
              rw [trimK] at hp
              split at hp
              · exact ih p hp
              · exact List.mem_of_mem_take hp
          have hlen : ∀ (n : Nat) (l : List (List Int)), (trimK l n).length ≤ l.length := by
            intro n l
            induction n with
            | zero => simp [trimK]
            | succ n ih =>
              rw [trimK]
              split
              · exact ih
              · rw [List.length_take]; omega
          refine ⟨?_, fun p hp => ?_, by simp [keySq], by simp [keySq]⟩
          · have := hlen 3 [firstK fl k (formK k.code).1 ((formK k.code).2.toNat : Int), secondK fl k, thirdK fl k]
            simp only [List.length_cons, List.length_nil] at this
            simp only [keySq]; omega
          · have := hmem 3 _ p hp
            simp only [List.mem_cons, List.not_mem_nil, or_false] at this
            rcases this with rfl | rfl | rfl <;> omega
        have hflt := formK_lt k.code
        have d5 : FS Tryz.prog Gl 60 [.agg [.int .i64 1, .int .u8 0, .sl none 1 (parsAV (keySq fl k).ps), .str [], .int .u8 ((formK k.code).2.toNat : Int), .str []]] [] [] (.tup [putV (keySq fl k), .int .i64 (mayP (keySq fl k))]) [] [] :=
          fs_wPut (s := keySq fl k) hst (by simp [keySq]) (by simp [keySq]) (by simp only [keySq]; omega) (by simp only [keySq]; omega) hsm
        have hrn : ∀ f, Ab.rn f (putV (keySq fl k)) = putV (keySq fl k) := fun f => by unfold putV; split <;> rfl
        have hpl := putV_le (keySq fl k)
        generalize putV (keySq fl k) = pv at *
        rw [evC] at d1 d2 d3
        refine DCall.new d1 ?_
        simp +contextual (maxSteps := 1000000) only [go_sem, ↓reduceIte, Nat.reduceAdd, Nat.reduceEqDiff]
        refine DCall.new d2 ?_
        simp +contextual (maxSteps := 1000000) only [go_sem, ↓reduceIte, Nat.reduceAdd, Nat.reduceEqDiff]
        refine DCall.new d3 ?_
        simp +contextual (maxSteps := 1000000) only [go_sem, ↓reduceIte, Nat.reduceAdd, Nat.reduceEqDiff, Nat.reduceBEq]
        refine ⟨by simp [AV.closedL, AV.closed], DCall.new (d4 _) ?_⟩
        simp +contextual (maxSteps := 1000000) only [go_sem, ↓reduceIte, Nat.reduceAdd, Nat.reduceEqDiff, Nat.reduceLeDiff, Nat.reduceBEq]
        refine ⟨fun p hp => ?_, DCall.new d5 ?_⟩
        · simp only [List.mem_cons, List.not_mem_nil, or_false] at hp
          rcases hp with rfl | rfl | rfl <;> simp [Xev_t, Xev_c, mask_app, upd_app, AV.cells, oneL, AV.one]
        simp +contextual (maxSteps := 1000000) only [hrn, go_sem, ↓reduceIte, Nat.reduceAdd, Nat.reduceEqDiff]
        rw [← hQ, hk2]
        exact ⟨trivial, .inl ⟨_, rfl, hpl⟩⟩
      · rw [if_pos hte] at hk2
        have hq : decide (((textK fl k).length : Int) > 0) = true := by
          have := List.length_pos_iff.2 hte
          simp; omega
        simp +contextual (maxSteps := 1000000) only [hq, go_sem, ↓reduceIte, Nat.reduceAdd, Nat.reduceEqDiff]
        rw [← hQ, hk2]
        exact ⟨trivial, .inl ⟨_, rfl, RepLe.refl _⟩⟩
end Go.Proofs.YtjankibepgnbfaaGreatDoor

namespace Go.Proofs.YtjankibepgnbfaaGreatDoor
open Go Go.Ab

structure MayK (k : Ky) : Prop where
  kind : kindK k.code ≠ 0
  m0 : 0 ≤ k.mods
  m1 : k.mods ≤ 255
  t0 : 1 ≤ k.type
  t1 : k.type ≤ 3
  sh : k.shifted = 0 ∨ kindK k.shifted = 1
  ba : k.base = 0 ∨ kindK k.base = 1
  tx : cleanK k.text = true
theorem mayK_iff {k : Ky} : mayK k = true ↔ MayK k := by
  simp only [mayK, Bool.and_eq_true, Bool.or_eq_true, decide_eq_true_eq]
  constructor
  · rintro ⟨⟨⟨⟨⟨⟨⟨a, b⟩, c⟩, d⟩, e⟩, f⟩, g⟩, h⟩; exact ⟨a, b, c, d, e, f, g, h⟩
  · rintro ⟨a, b, c, d, e, f, g, h⟩; exact ⟨⟨⟨⟨⟨⟨⟨a, b⟩, c⟩, d⟩, e⟩, f⟩, g⟩, h⟩
theorem kind1 {c : Int} (h : kindK c = 1) : isCP c = true ∧ 32 ≤ c ∧ ¬(127 ≤ c ∧ c ≤ 159) := by
  unfold kindK lookR at h
  split at h
  · simp at h
  · split at h
    · simp at h
    · split at h
      · have : (padR c).kind = 5 := by unfold padR; split <;> rfl
        rw [this] at h; simp at h
      · simp only at h
        unfold restR at h
        split at h
        · simp at h
        · split at h
          · simp at h
          · split at h
            · simp at h
            · split at h
              · simp at h
              · rename_i hh
                simp only [not_or, Bool.not_eq_false] at hh
                exact ⟨hh.1, by omega, hh.2.2.1⟩
theorem kind_range {c : Int} (h : kindK c ≠ 0) : 0 ≤ c ∧ c ≤ 1114111 := by
  by_cases h1 : 9 ≤ c ∧ c ≤ 63743
  · omega
  · have : kindK c = 1 := by
      unfold kindK lookR at h ⊢
      have e1 : letR c = 0 := by
        unfold letR
        repeat (first | rfl | rw [if_neg (by omega)])
      have e2 : numR c = 0 := by
        unfold numR
        repeat (first | rfl | rw [if_neg (by omega)])
      rw [if_neg (by simp [e1]), if_neg (by simp [e2]), if_neg (by omega)] at h ⊢
      simp only at h ⊢
      unfold restR at h ⊢
      rw [if_neg (by omega), if_neg (by omega), if_neg (by omega)] at h ⊢
      split
      · rename_i hh; rw [if_pos hh] at h; exact absurd rfl h
      · rfl
    obtain ⟨a, _, _⟩ := kind1 this
    obtain ⟨n, rfl, _, _⟩ := isCP_spec a
    omega
theorem shown_cp {k : Ky} (h : kindK k.code = 1) (hs : k.shifted = 0 ∨ kindK k.shifted = 1) : isCP (shownK k) = true ∧ 32 ≤ shownK k := by
  obtain ⟨a, b, _⟩ := kind1 h
  unfold shownK
  split
  · exact ⟨a, b⟩
  · split
    · rename_i h0
      rcases hs with e | e
      · exact absurd e h0
      · obtain ⟨a, b, _⟩ := kind1 e
        exact ⟨a, b⟩
    · split
      · refine ⟨?_, by omega⟩
        simp only [isCP, Bool.and_eq_true, Bool.or_eq_true, decide_eq_true_eq]; omega
      · exact ⟨a, b⟩
structure PartK (p : List Int) : Prop where
  ne : p ≠ []
  le : p.length ≤ 8
  ok : ∀ n ∈ p, -1 ≤ n ∧ n ≤ 1114111
end Go.Proofs.YtjankibepgnbfaaGreatDoor

namespace Go.Proofs.YtjankibepgnbfaaGreatDoor
open Go Go.Ab
def ir_modsOld : ICode :=
 (.seq
 (.reg [qA 2 (.mov (qI 0))] (some [0]))
 (.seq
 (.reg [qM 3 0,
 qA 4 (.mm false (.t 3) (qI 0)),
 qA 5 (.bin .and .none (.t 4) (qI 7)),
 qM 2 5] (some [2]))
 .ret))
theorem is_modsOld : IrOf Tryz.prog 70 6 ir_modsOld [.t 2] := ⟨_, Tryz.func70, rfl, by kernel_rfl, by kernel_rfl, by kernel_rfl⟩

/- clavier/mods.Fold -/
def ir_modsFold_t4 : ICode :=
 (.seq
 (.reg [qM 43 5,
 qM 44 6,
 qM 2 43,
 qM 3 44] (some [2,3]))
 .ret)
def ir_modsFold_t3 : ICode :=
 (.seq
 (.reg [qM 37 4,
 qM 38 0,
 qA 39 (.cvi .i32 (.t 38)),
 qA 40 (.lkp .int (.int .i64 0) true (.t 37) (.t 39)),
 qM 36 40,
 qE 41 36 0,
 qE 42 36 1,
 qM 5 41,
 qM 6 42] (some [5,6]))
 ir_modsFold_t4)
def ir_modsFold_t2 : ICode :=
 (.seq
 (.blk 0
 (.seq
 (.reg [qM 10 0,
 qA 11 (.bin .geq .none (.t 10) (qI 97)),
 qM 12 11,
 qG 13 12 true (.mov (.t 0)),
 qG 14 12 true (.bin .leq .none (.t 13) (qI 122)),
 qA 15 (.pick (.t 12) (.t 14) (qB false)),
 qM 9 15] (some [0,4,9]))
 (.cond (.t 9)
 (.seq
 (.reg [qM 16 0,
 qA 17 (.bin .sub .none (.t 16) (qI 97)),
 qA 18 (.bin .add .none (.t 17) (qI 1)),
 qM 2 18,
 qA 3 (.mov (qB true))] (some [2,3]))
 .ret)
 (.seq
 (.reg [qM 20 0,
 qA 21 (.bin .geq .none (.t 20) (qI 65)),
 qM 22 21,
 qG 23 22 true (.mov (.t 0)),
 qG 24 22 true (.bin .leq .none (.t 23) (qI 90)),
 qA 25 (.pick (.t 22) (.t 24) (qB false)),
 qM 19 25] (some [0,4,19]))
 (.cond (.t 19)
 (.seq
 (.reg [qM 26 0,
 qA 27 (.bin .sub .none (.t 26) (qI 65)),
 qA 28 (.bin .add .none (.t 27) (qI 1)),
 qM 2 28,
 qA 3 (.mov (qB true))] (some [2,3]))
 .ret)
 (.seq
 (.reg [qM 30 0,
 qA 31 (.bin .lss .none (.t 30) (qI 0)),
 qM 32 31,
 qG 33 32 false (.mov (.t 0)),
 qG 34 32 false (.bin .gtr .none (.t 33) (qI 255)),
 qA 35 (.pick (.t 32) (qB true) (.t 34)),
 qM 29 35] (some [0,4,29]))
 (.cond (.t 29)
 (.seq
 (.reg [qA 2 (.mov (qI 0)),
 qA 3 (.mov (qB false))] (some [2,3]))
 .ret)
 .skip)))))))
 ir_modsFold_t3)
def ir_modsFold_t1 : ICode :=
 (.seq
 (.reg [qA 7 (.mkm),
 qN (.ins .int (.t 7) (.c (.int .i32 32)) (qI 0)),
 qN (.ins .int (.t 7) (.c (.int .i32 50)) (qI 0)),
 qN (.ins .int (.t 7) (.c (.int .i32 64)) (qI 0)),
 qN (.ins .int (.t 7) (.c (.int .i32 51)) (qI 27)),
 qN (.ins .int (.t 7) (.c (.int .i32 91)) (qI 27)),
 qN (.ins .int (.t 7) (.c (.int .i32 52)) (qI 28)),
 qN (.ins .int (.t 7) (.c (.int .i32 92)) (qI 28)),
 qN (.ins .int (.t 7) (.c (.int .i32 53)) (qI 29)),
 qN (.ins .int (.t 7) (.c (.int .i32 93)) (qI 29)),
 qN (.ins .int (.t 7) (.c (.int .i32 54)) (qI 30)),
 qN (.ins .int (.t 7) (.c (.int .i32 94)) (qI 30)),
 qN (.ins .int (.t 7) (.c (.int .i32 55)) (qI 31)),
 qN (.ins .int (.t 7) (.c (.int .i32 47)) (qI 31)),
 qN (.ins .int (.t 7) (.c (.int .i32 95)) (qI 31)),
 qN (.ins .int (.t 7) (.c (.int .i32 56)) (qI 127)),
 qN (.ins .int (.t 7) (.c (.int .i32 63)) (qI 127)),
 qM 8 7,
 qM 4 8] (some [0,4]))
 ir_modsFold_t2)
def ir_modsFold : ICode :=
 (.seq
 (.reg [qA 2 (.mov (qI 0)),
 qA 3 (.mov (qB false))] (some [0]))
 ir_modsFold_t1)
theorem is_modsFold : IrOf Tryz.prog 123 45 ir_modsFold [.t 2, .t 3] := ⟨_, Tryz.func123, rfl, by kernel_rfl, by kernel_rfl, by kernel_rfl⟩

def ir_legacybytes : ICode :=
 (.seq
 (.reg [qA 1 (.box 43 (.t 0)),
 qA 2 (.mov (.c .nils))] (some [1]))
 (.seq
 (.reg [qA 6 (.ld (some 6) (.t 1)),
 qA 7 (.call (qC 60) [(.t 6)]),
 qM 5 7,
 qE 8 5 0,
 qE 9 5 1,
 qM 3 8,
 qM 4 9] (some [3]))
 (.seq
 (.reg [qM 10 3,
 qM 2 10] (some [2]))
 .ret)))
theorem is_legacybytes : IrOf Tryz.prog 125 11 ir_legacybytes [.t 2] := ⟨_, Tryz.func125, rfl, by kernel_rfl, by kernel_rfl, by kernel_rfl⟩

structure Md where
  cursor : Bool
  keypad : Bool
  back : Bool
  focus : Bool
  paste : Bool
  lock : Bool
  line : Bool
  mouse : Int
  coding : Int
  other : Int
def mdAV (m : Md) : List AV := [.bool m.cursor, .bool m.keypad, .bool m.back, .bool m.focus, .bool m.paste, .bool m.lock, .bool m.line, .int .i64 m.mouse, .int .i64 m.coding, .int .i64 m.other]
def oldK (m : Int) : Int := max m 0 % 8
theorem or7 : bits .or .i64 (bits .or .i64 1 2) 4 = 7 := by decide +kernel
theorem and7 {m : Int} (hm : m ≤ 9223372036854775807) : bits .and .i64 (max m 0) 7 = oldK m := by
  obtain ⟨n, hn⟩ := Int.eq_ofNat_of_zero_le (show 0 ≤ max m 0 by omega)
  unfold oldK
  rw [hn, show (7 : Int) = ((7 : Nat) : Int) from rfl, and_i64 (by omega) (by omega), show (7 : Nat) = 2 ^ 3 - 1 from rfl, Nat.and_two_pow_sub_one_eq_mod]
  omega
theorem fs_Old {Gl : Gh → Prop} (hst : Stays Gl) {m : Int} (hm2 : m ≤ 9223372036854775807) : FS Tryz.prog Gl 70 [.int .i64 m] [] [] (.int .i64 (oldK m)) [] [] := by
  refine FS.of hm hst is_modsOld (by simp) fun γ hγ hfr => ?_
  (generalize hQ : (fun (ex : Ex) (_ _ : Nat) (s : St) => _) = Q; unfold ir_modsOld)
  simp +contextual (maxSteps := 1000000) only [maxE, and7 hm2, or7, go_sem, reduceCtorEq, ↓reduceIte, Nat.reduceAdd, Nat.reduceEqDiff]
  rw [← hQ]
  exact ⟨trivial, Ret.flat rfl rfl⟩
def foldK (c : Int) : Option Int :=
  if c = 32 ∨ c = 50 ∨ c = 64 then some 0
  else if 97 ≤ c ∧ c ≤ 122 then some (c - 96)
  else if 65 ≤ c ∧ c ≤ 95 then some (c - 64)
  else if 51 ≤ c ∧ c ≤ 55 then some (27 + c - 51)
  else if c = 47 then some 31
  else if c = 56 ∨ c = 63 then some 127
  else none
def foldV (c : Int) : AV := .tup [.int .i64 ((foldK c).getD 0), .bool (foldK c).isSome]
theorem fold_some {c x : Int} (h : foldK c = some x) : foldV c = .tup [.int .i64 x, .bool true] := by unfold foldV; rw [h]; rfl
theorem fold_none {c : Int} (h : foldK c = none) : foldV c = .tup [.int .i64 0, .bool false] := by unfold foldV; rw [h]; rfl
theorem fe_nil {kc : KC} {k : AV} : findE kc k [] = some none := rfl
theorem fe_int {k : IntKind} {a b : Int} {v : AV} {es : List (AV × AV)} : findE .int (.int k a) ((.int k b, v) :: es) = if (a == b) = true then some (some v) else findE .int (.int k a) es := by
  simp only [findE, keyEq, if_true]
  cases (a == b) <;> rfl
theorem isKey_int {k : IntKind} {a : Int} : (isKey .int (.int k a) = true) = True := by simp [isKey]
def foldsE : List (AV × AV) := [(.int .i32 32, .int .i64 0), (.int .i32 50, .int .i64 0), (.int .i32 64, .int .i64 0), (.int .i32 51, .int .i64 27), (.int .i32 91, .int .i64 27), (.int .i32 52, .int .i64 28), (.int .i32 92, .int .i64 28), (.int .i32 53, .int .i64 29), (.int .i32 93, .int .i64 29), (.int .i32 54, .int .i64 30), (.int .i32 94, .int .i64 30), (.int .i32 55, .int .i64 31), (.int .i32 47, .int .i64 31), (.int .i32 95, .int .i64 31), (.int .i32 56, .int .i64 127), (.int .i32 63, .int .i64 127)]
theorem folds_find {c : Int} (h1 : ¬(97 ≤ c ∧ c ≤ 122)) (h2 : ¬(65 ≤ c ∧ c ≤ 90)) : findE .int (.int .i32 c) foldsE = some ((foldK c).map fun f => .int .i64 f) := by
  unfold foldsE
  simp only [fe_int, fe_nil, beq_iff_eq]
  by_cases h : c = 32 ∨ c = 50 ∨ c = 64 ∨ c = 51 ∨ c = 91 ∨ c = 52 ∨ c = 92 ∨ c = 53 ∨ c = 93 ∨ c = 54 ∨ c = 94 ∨ c = 55 ∨ c = 47 ∨ c = 95 ∨ c = 56 ∨ c = 63
  · rcases h with rfl | rfl | rfl | rfl | rfl | rfl | rfl | rfl | rfl | rfl | rfl | rfl | rfl | rfl | rfl | rfl <;> rfl
  · have hn : foldK c = none := by unfold foldK; rw [if_neg (by omega), if_neg (by omega), if_neg (by omega), if_neg (by omega), if_neg (by omega), if_neg (by omega)]
    rw [hn]
    repeat (rw [if_neg (by omega)])
    rfl
theorem fs_Fold {Gl : Gh → Prop} (hst : Stays Gl) {c : Int} : FS Tryz.prog Gl 123 [.int .i64 c] [] [] (foldV c) [] [] := by
  refine FS.of hm hst is_modsFold (by simp) fun γ hγ hfr => ?_
  (generalize hQ : (fun (ex : Ex) (_ _ : Nat) (s : St) => _) = Q; unfold ir_modsFold)
  simp +contextual (maxSteps := 1000000) only [go_sem, reduceCtorEq, ↓reduceIte, Nat.reduceAdd, Nat.reduceEqDiff, Nat.reduceLeDiff, Nat.reduceMul, Nat.reduceBEq, Int.reduceBEq, Int.reduceBNe, Int.reduceLT, Int.reduceLE, Int.reduceGT, Int.reduceGE, Int.reduceToNat]
  unfold ir_modsFold_t1
  simp +contextual (maxSteps := 1000000) only [fe_nil, fe_int, isKey_int, go_sem, reduceCtorEq, ↓reduceIte, Nat.reduceAdd, Nat.reduceEqDiff, Nat.reduceLeDiff, Nat.reduceMul, Nat.reduceBEq, Int.reduceBEq, Int.reduceBNe, Int.reduceLT, Int.reduceLE, Int.reduceGT, Int.reduceGE, Int.reduceToNat]
  have hE : ∀ {P : List (AV × AV) → Prop}, P foldsE → P [(.int .i32 32, .int .i64 0), (.int .i32 50, .int .i64 0), (.int .i32 64, .int .i64 0), (.int .i32 51, .int .i64 27), (.int .i32 91, .int .i64 27), (.int .i32 52, .int .i64 28), (.int .i32 92, .int .i64 28), (.int .i32 53, .int .i64 29), (.int .i32 93, .int .i64 29), (.int .i32 54, .int .i64 30), (.int .i32 94, .int .i64 30), (.int .i32 55, .int .i64 31), (.int .i32 47, .int .i64 31), (.int .i32 95, .int .i64 31), (.int .i32 56, .int .i64 127), (.int .i32 63, .int .i64 127)] := fun h => h
  refine hE (P := fun es => aw Tryz.prog Gl ir_modsFold_t2 γ 21 ⟨lf [(0, .int .i64 c), (4, .mp (γ, 2, 0))], [((γ, 2, 0), .mapp es)], fun x => x ∈ []⟩ Q) ?_
  have hfind : ¬(97 ≤ c ∧ c ≤ 122) → ¬(65 ≤ c ∧ c ≤ 90) → findE .int (.int .i32 c) foldsE = some ((foldK c).map fun f => .int .i64 f) := folds_find
  generalize foldsE = es at hfind ⊢
  unfold ir_modsFold_t2
  simp +contextual (maxSteps := 1000000) only [go_sem, reduceCtorEq, ↓reduceIte, Nat.reduceAdd, Nat.reduceEqDiff, Nat.reduceLeDiff, Nat.reduceMul, Nat.reduceBEq, Int.reduceBEq, Int.reduceBNe, Int.reduceLT, Int.reduceLE, Int.reduceGT, Int.reduceGE, Int.reduceToNat]
  refine kCond_split (fun h => ?_) (fun h => ?_)
  · simp only [Bool.and_eq_true, decide_eq_true_eq] at h
    simp +contextual (maxSteps := 1000000) only [go_sem, reduceCtorEq, ↓reduceIte, Nat.reduceAdd, Nat.reduceEqDiff, Nat.reduceLeDiff, Nat.reduceMul, Nat.reduceBEq, Int.reduceBEq, Int.reduceBNe, Int.reduceLT, Int.reduceLE, Int.reduceGT, Int.reduceGE, Int.reduceToNat]
    rw [← hQ, fold_some (x := IntKind.i64.wrap (IntKind.i64.wrap (c - 97) + 1)) (by unfold foldK; rw [if_neg (by omega), if_pos (by omega), IntKind.wrap_i64, IntKind.wrap_i64]; congr 1; omega)]
    exact ⟨trivial, Ret.flatT rfl rfl⟩
  have h1 : ¬(97 ≤ c ∧ c ≤ 122) := fun e => by
    have : (decide (c ≥ 97) && decide (c ≤ 122)) = true := by simp; omega
    rw [h] at this; cases this
  simp +contextual (maxSteps := 1000000) only [go_sem, reduceCtorEq, ↓reduceIte, Nat.reduceAdd, Nat.reduceEqDiff, Nat.reduceLeDiff, Nat.reduceMul, Nat.reduceBEq, Int.reduceBEq, Int.reduceBNe, Int.reduceLT, Int.reduceLE, Int.reduceGT, Int.reduceGE, Int.reduceToNat]
  refine kCond_split (fun h => ?_) (fun h => ?_)
  · simp only [Bool.and_eq_true, decide_eq_true_eq] at h
    simp +contextual (maxSteps := 1000000) only [go_sem, reduceCtorEq, ↓reduceIte, Nat.reduceAdd, Nat.reduceEqDiff, Nat.reduceLeDiff, Nat.reduceMul, Nat.reduceBEq, Int.reduceBEq, Int.reduceBNe, Int.reduceLT, Int.reduceLE, Int.reduceGT, Int.reduceGE, Int.reduceToNat]
    rw [← hQ, fold_some (x := IntKind.i64.wrap (IntKind.i64.wrap (c - 65) + 1)) (by unfold foldK; rw [if_neg (by omega), if_neg (by omega), if_pos (by omega), IntKind.wrap_i64, IntKind.wrap_i64]; congr 1; omega)]
    exact ⟨trivial, Ret.flatT rfl rfl⟩
  have h2 : ¬(65 ≤ c ∧ c ≤ 90) := fun e => by
    have : (decide (c ≥ 65) && decide (c ≤ 90)) = true := by simp; omega
    rw [h] at this; cases this
  simp +contextual (maxSteps := 1000000) only [go_sem, reduceCtorEq, ↓reduceIte, Nat.reduceAdd, Nat.reduceEqDiff, Nat.reduceLeDiff, Nat.reduceMul, Nat.reduceBEq, Int.reduceBEq, Int.reduceBNe, Int.reduceLT, Int.reduceLE, Int.reduceGT, Int.reduceGE, Int.reduceToNat]
  refine kCond_split (fun h => ?_) (fun h => ?_)
  · simp only [Bool.or_eq_true, decide_eq_true_eq] at h
    simp +contextual (maxSteps := 1000000) only [go_sem, reduceCtorEq, ↓reduceIte, Nat.reduceAdd, Nat.reduceEqDiff, Nat.reduceLeDiff, Nat.reduceMul, Nat.reduceBEq, Int.reduceBEq, Int.reduceBNe, Int.reduceLT, Int.reduceLE, Int.reduceGT, Int.reduceGE, Int.reduceToNat]
    rw [← hQ, fold_none (by unfold foldK; rw [if_neg (by omega), if_neg (by omega), if_neg (by omega), if_neg (by omega), if_neg (by omega), if_neg (by omega)])]
    exact ⟨trivial, Ret.flatT rfl rfl⟩
  have h3 : ¬(c < 0 ∨ c > 255) := fun e => by
    have : (decide (c < 0) || decide (c > 255)) = true := by simp; omega
    rw [h] at this; cases this
  have hw : IntKind.i32.wrap c = c := by rw [IntKind.wrap_i32]; omega
  have hf := hfind h1 h2
  cases hk : foldK c with
  | none =>
    rw [hk, Option.map_none] at hf
    simp +contextual (maxSteps := 1000000) only [go_sem, reduceCtorEq, ↓reduceIte, Nat.reduceAdd, Nat.reduceEqDiff, Nat.reduceLeDiff, Nat.reduceMul, Nat.reduceBEq, Int.reduceBEq, Int.reduceBNe, Int.reduceLT, Int.reduceLE, Int.reduceGT, Int.reduceGE, Int.reduceToNat]
    unfold ir_modsFold_t3
    simp +contextual (maxSteps := 1000000) only [hw, hf, isKey_int, go_sem, reduceCtorEq, ↓reduceIte, Nat.reduceAdd, Nat.reduceEqDiff, Nat.reduceLeDiff, Nat.reduceMul, Nat.reduceBEq, Int.reduceBEq, Int.reduceBNe, Int.reduceLT, Int.reduceLE, Int.reduceGT, Int.reduceGE, Int.reduceToNat]
    unfold ir_modsFold_t4
    simp +contextual (maxSteps := 1000000) only [go_sem, reduceCtorEq, ↓reduceIte, Nat.reduceAdd, Nat.reduceEqDiff, Nat.reduceLeDiff, Nat.reduceMul, Nat.reduceBEq, Int.reduceBEq, Int.reduceBNe, Int.reduceLT, Int.reduceLE, Int.reduceGT, Int.reduceGE, Int.reduceToNat]
    rw [← hQ, fold_none hk]
    exact ⟨trivial, Ret.flatT rfl rfl⟩
  | some f =>
    rw [hk, Option.map_some] at hf
    simp +contextual (maxSteps := 1000000) only [go_sem, reduceCtorEq, ↓reduceIte, Nat.reduceAdd, Nat.reduceEqDiff, Nat.reduceLeDiff, Nat.reduceMul, Nat.reduceBEq, Int.reduceBEq, Int.reduceBNe, Int.reduceLT, Int.reduceLE, Int.reduceGT, Int.reduceGE, Int.reduceToNat]
    unfold ir_modsFold_t3
    simp +contextual (maxSteps := 1000000) only [hw, hf, isKey_int, go_sem, reduceCtorEq, ↓reduceIte, Nat.reduceAdd, Nat.reduceEqDiff, Nat.reduceLeDiff, Nat.reduceMul, Nat.reduceBEq, Int.reduceBEq, Int.reduceBNe, Int.reduceLT, Int.reduceLE, Int.reduceGT, Int.reduceGE, Int.reduceToNat]
    unfold ir_modsFold_t4
    simp +contextual (maxSteps := 1000000) only [go_sem, reduceCtorEq, ↓reduceIte, Nat.reduceAdd, Nat.reduceEqDiff, Nat.reduceLeDiff, Nat.reduceMul, Nat.reduceBEq, Int.reduceBEq, Int.reduceBNe, Int.reduceLT, Int.reduceLE, Int.reduceGT, Int.reduceGE, Int.reduceToNat]
    rw [← hQ, fold_some hk]
    exact ⟨trivial, Ret.flatT rfl rfl⟩
theorem fs_bytes {Gl : Gh → Prop} (hst : Stays Gl) {s : Sq} (hp0 : 0 ≤ s.pr) (hp1 : s.pr < 256) (hf0 : 0 ≤ s.fi) (hf1 : s.fi < 128) (h : s.sm) : FS Tryz.prog Gl 125 [.agg s.c] [] [] (.sl none 1 (bytesAV (putX s))) [] [] := by
  refine FS.ofW hm hst is_legacybytes rfl (by simp) fun γ hγ hfr => ?_
  have c1 := fs_wPut (Gl := Gl) hst hp0 hp1 hf0 (by omega) h
  have hrn : ∀ f, Ab.rn f (putV s) = putV s := fun f => by unfold putV; split <;> rfl
  have hpl := putV_le s
  generalize putV s = pv at *
  have hc : s.c = [.int .i64 s.k, .int .u8 s.pr, .sl none 1 (parsAV s.ps), .str s.it, .int .u8 s.fi, .str s.da] := rfl
  rw [hc] at c1
  (generalize hQ : (fun (ex : Ex) (_ _ : Nat) (s : St) => _) = Q; unfold ir_legacybytes)
  simp +contextual (maxSteps := 1000000) only [hc, go_sem, reduceCtorEq, ↓reduceIte, Nat.reduceAdd, Nat.reduceEqDiff]
  refine CallP.pure c1 (fun f => by simp only [Ab.rn, rnL, hrn]) ?_
  simp +contextual (maxSteps := 1000000) only [hrn, go_sem, reduceCtorEq, ↓reduceIte, Nat.reduceAdd, Nat.reduceEqDiff]
  rw [← hQ]
  exact ⟨trivial, .inl ⟨_, rfl, hpl⟩⟩
end Go.Proofs.YtjankibepgnbfaaGreatDoor

namespace Go.Proofs.YtjankibepgnbfaaGreatDoor
open Go Go.Ab
def ir_legacyahead : ICode :=
 (.seq
 (.reg [qA 2 (.box 27 (.t 0))] (some [1,2]))
 (.seq
 (.reg [qF 4 1 2,
 qL 5 4,
 qA 6 (.bin .and .none (.t 5) (qI 2)),
 qA 7 (.bin .neq .none (.t 6) (qI 0))] (some [1,7]))
 (.cond (.t 7)
 (.reg [qM 8 1,
 qA 9 (.row 5 1 [(.c (.int .u8 27))]),
 qM 10 1,
 qA 11 (.nck (.t 10)),
 qL 12 11,
 qA 13 (.app 5 1 1 (.t 9) (.t 12)),
 qA 14 (.nck (.t 8)),
 qN (.st 1 (.t 14) (.t 13))] (some []))
 .skip)))
theorem is_legacyahead : IrOf Tryz.prog 124 15 ir_legacyahead [] := ⟨_, Tryz.func124, rfl, by kernel_rfl, by kernel_rfl, by kernel_rfl⟩

def ir_legacytext_a : ICode :=
 (.reg [qA 3 (.box 23 (.t 0)),
 qA 4 (.box 27 (.t 1)),
 qA 5 (.box 98 (.t 2)),
 qA 6 (.box 34 (.c .nils))] (some [4,6]))
def ir_legacytext_r : ICode :=
 (.seq
 (.reg [qF 12 1 4,
 qL 13 12,
 qA 14 (.bin .and .none (.t 13) (qI 4)),
 qA 15 (.bin .neq .none (.t 14) (qI 0)),
 qM 7 15] (some [4,6,7]))
 (.seq
 (.seq
 (.reg [qM 16 7,
 qA 17 (.un .not (.t 16)),
 qM 18 17,
 qG 19 18 true (.fa 5 (.t 4)),
 qG 20 18 true (.ld none (.t 19)),
 qG 21 18 true (.bin .neq .none (.t 20) (.c (.str []))),
 qA 22 (.pick (.t 18) (.t 21) (qB false))] (some [4,6,7,22]))
 (.cond (.t 22)
 (.seq
 (.reg [qF 23 5 4,
 qL 24 23,
 qA 25 (.s2b 5 (.t 24)),
 qN (.st 1 (.t 6) (.t 25))] (some [6]))
 .ret)
 .skip))
 (.seq
 (.reg [qA 26 (.ld (some 6) (.t 4)),
 qA 27 (.call (qC 117) [(.t 26)]),
 qM 8 27] (some [6,7,8]))
 (.seq
 (.seq
 (.reg [qM 29 8,
 qA 30 (.call (qC 123) [(.t 29)]),
 qM 28 30,
 qE 31 28 0,
 qE 32 28 1,
 qM 9 31,
 qM 10 32] (some [6,7,8,9,10]))
 (.seq
 (.reg [qM 33 10,
 qM 34 33,
 qG 35 34 true (.mov (.t 7)),
 qA 36 (.pick (.t 34) (.t 35) (qB false))] (some [6,8,9,36]))
 (.cond (.t 36)
 (.seq
 (.reg [qM 37 9,
 qA 38 (.cvi .u8 (.t 37)),
 qA 39 (.row 5 1 [(.t 38)]),
 qN (.st 1 (.t 6) (.t 39))] (some [6]))
 .ret)
 .skip)))
 (.seq
 (.reg [qM 40 8,
 qA 41 (.call (qC 111) [(.t 40)]),
 qN (.st 1 (.t 6) (.t 41))] (some [6]))
 .ret)))))
def ir_legacytext : IDef := ⟨ir_legacytext_a, [qA 11 (.ld (some 6) (.t 4))], 124, [(.t 11), (.t 6)], ir_legacytext_r⟩
theorem is_legacytext : IrOfD Tryz.prog 71 42 ir_legacytext [.cell 6 none] := ⟨_, Tryz.func71, rfl, by kernel_rfl, by kernel_rfl, by kernel_rfl⟩

def ir_legacyplain_a : ICode :=
 (.reg [qA 3 (.box 23 (.t 0)),
 qA 4 (.box 27 (.t 1)),
 qA 5 (.box 98 (.t 2)),
 qA 6 (.box 34 (.c .nils))] (some [3,4,6]))
def ir_legacyplain_r : ICode :=
 (.seq
 (.blk 0
 (.seq
 (.reg [qF 9 0 4,
 qL 10 9,
 qA 11 (.bin .eql .none (.t 10) (qI 9)),
 qM 12 11,
 qG 13 12 true (.fa 1 (.t 4)),
 qG 14 12 true (.ld none (.t 13)),
 qG 15 12 true (.bin .and .none (.t 14) (qI 1)),
 qG 16 12 true (.bin .neq .none (.t 15) (qI 0)),
 qA 17 (.pick (.t 12) (.t 16) (qB false)),
 qM 8 17] (some [3,4,6,8]))
 (.cond (.t 8)
 (.seq
 (.reg [qA 18 (.call (qC 68) [(.c (.int .u8 0)), (.c (.int .u8 90)), (.c .nils)]),
 qA 19 (.call (qC 125) [(.t 18)]),
 qN (.st 1 (.t 6) (.t 19))] (some [6]))
 .ret)
 (.seq
 (.reg [qF 21 0 4,
 qL 22 21,
 qA 23 (.bin .eql .none (.t 22) (qI 13)),
 qM 24 23,
 qG 25 24 true (.fa 6 (.t 3)),
 qG 26 24 true (.ld none (.t 25)),
 qA 27 (.pick (.t 24) (.t 26) (qB false)),
 qM 20 27] (some [3,4,6,20]))
 (.cond (.t 20)
 (.seq
 (.reg [qA 28 (.row 5 1 [(.c (.int .u8 13)), (.c (.int .u8 10))]),
 qN (.st 1 (.t 6) (.t 28))] (some [6]))
 .ret)
 (.seq
 (.reg [qF 30 0 4,
 qL 31 30,
 qA 32 (.bin .eql .none (.t 31) (qI 127)),
 qM 33 32,
 qG 34 33 true (.fa 2 (.t 3)),
 qG 35 33 true (.ld none (.t 34)),
 qG 36 33 true (.fa 1 (.t 4)),
 qG 37 33 true (.ld none (.t 36)),
 qG 38 33 true (.bin .and .none (.t 37) (qI 4)),
 qG 39 33 true (.bin .neq .none (.t 38) (qI 0)),
 qG 40 33 true (.bin .neq .bool (.t 35) (.t 39)),
 qA 41 (.pick (.t 33) (.t 40) (qB false)),
 qM 29 41] (some [4,6,29]))
 (.cond (.t 29)
 (.seq
 (.reg [qA 42 (.row 5 1 [(.c (.int .u8 8))]),
 qN (.st 1 (.t 6) (.t 42))] (some [6]))
 .ret)
 .skip)))))))
 (.seq
 (.reg [qF 43 0 4,
 qL 44 43,
 qA 45 (.cvi .u8 (.t 44)),
 qA 46 (.row 5 1 [(.t 45)]),
 qN (.st 1 (.t 6) (.t 46))] (some [6]))
 .ret))
def ir_legacyplain : IDef := ⟨ir_legacyplain_a, [qA 7 (.ld (some 6) (.t 4))], 124, [(.t 7), (.t 6)], ir_legacyplain_r⟩
theorem is_legacyplain : IrOfD Tryz.prog 72 47 ir_legacyplain [.cell 6 none] := ⟨_, Tryz.func72, rfl, by kernel_rfl, by kernel_rfl, by kernel_rfl⟩

def aheadK (k : Ky) (b : List UInt8) : List UInt8 := if hasK k.mods 2 = true then 27 :: b else b
theorem hasB {m : Int} (h0 : 0 ≤ m) (h1 : m ≤ 255) (j : Nat) (hj : j < 63) : (bits .and .i64 m ((2 ^ j : Nat) : Int) != 0) = hasK m ((2 ^ j : Nat) : Int) := by
  have := has_and (m := m) (by omega) j hj
  rw [show max m 0 = m by omega] at this
  rw [bne, this, Bool.not_not]
theorem CallD.one {P : Program} {Gl : Gh → Prop} {k : FuncId} {args : List AV} {p : Nm} {z : AV} {s : St} {R : AV → Prop} {K : St → Prop} (h : FSD P Gl k args [(p, .cells [z])] (fun _ => False) fun H1 _ => ∃ z', R z' ∧ H1 = [(p, .cells [z'])])
    (hs : (p, .cells [z]) ∈ s.H) (hK : ∀ z', R z' → K ⟨s.F, [(p, .cells [z'])], fun _ => False⟩) : CallD P Gl k args s K := by
  refine ⟨_, _, _, h, fun q hq => ?_, fun t ht => ht.elim, ?_⟩
  · simp only [List.mem_singleton] at hq; subst hq; exact hs
  · rintro H1 T1 ⟨z', hz, rfl⟩
    exact ⟨_, _, fun q hq => List.mem_append.2 (.inl hq), fun t ht => ht.elim, hK z' hz⟩
theorem fd_ahead {Gl : Gh → Prop} (hst : Stays Gl) {k : Ky} {p : Nm} (hp : 1 ≤ p.1) {t : Option Nm} {b : List UInt8} (h0 : 0 ≤ k.mods) (h1 : k.mods ≤ 255) (hl : b.length ≤ 10000000000000) :
    FSD Tryz.prog Gl 124 [.agg (kyAV k), .ptr p 0] [(p, .cells [.sl t 1 (bytesAV b)])] (fun _ => False) fun H1 _ => ∃ z', RepLe z' (.sl none 1 (bytesAV (aheadK k b))) ∧ H1 = [(p, .cells [z'])] := by
  refine FSD.of hm hst is_legacyahead rfl (by simp) fun γ hγ hfr => ?_
  have hq := hasB h0 h1 1 (by omega)
  have hq : (bits .and .i64 k.mods 2 != 0) = hasK k.mods 2 := hq
  have hky : kyAV k = [.int .i64 k.code, .int .i64 k.mods, .int .i64 k.type, .int .i64 k.shifted, .int .i64 k.base, .str k.text] := rfl
  have hz : aheadK k b = if hasK k.mods 2 = true then 27 :: b else b := rfl
  have hne : ((γ, 0, 0) = p) = False := eq_false fun e => hfr.1 (p, .cells [.sl t 1 (bytesAV b)]) List.mem_cons_self (by rw [← e])
  have hne2 : (p = (γ, 0, 0)) = False := eq_false fun e => hfr.1 (p, .cells [.sl t 1 (bytesAV b)]) List.mem_cons_self (by rw [e])
  (generalize hQ : (fun (ex : Ex) (_ _ : Nat) (s : St) => _) = Q; unfold ir_legacyahead)
  simp +contextual (maxSteps := 1000000) only [hky, hq, go_sem, reduceCtorEq, ↓reduceIte, Nat.reduceAdd, Nat.reduceEqDiff]
  cases hB : hasK k.mods 2 with
  | false =>
    simp +contextual (maxSteps := 1000000) only [hB, hne, hne2, go_sem, reduceCtorEq, ↓reduceIte, Nat.reduceAdd, Nat.reduceEqDiff]
    rw [← hQ]
    refine ⟨trivial, [(p, .cells [.sl t 1 (bytesAV b)])], fun _ => False, ⟨_, ?_, rfl⟩, ?_, fun _ h => h.elim⟩
    · rw [hz, hB]; exact RepLe.anon _ _ _
    · intro q hq'
      exact List.mem_cons_of_mem _ hq'
  | true =>
    simp +contextual (maxSteps := 1000000) only [hB, hne, hne2, bytesAV_length', go_sem, reduceCtorEq, ↓reduceIte, Nat.reduceAdd, Nat.reduceEqDiff]
    refine ⟨by omega, ?_⟩
    rw [← hQ]
    refine ⟨trivial, _, fun _ => False, ⟨_, ?_, rfl⟩, fun q hq' => List.mem_cons_of_mem _ hq', fun _ h => h.elim⟩
    rw [hz, hB]
    exact RepLe.anon' rfl
theorem fold_range (c : Int) : 0 ≤ (foldK c).getD 0 ∧ (foldK c).getD 0 ≤ 127 := by
  unfold foldK
  repeat' split
  all_goals simp only [Option.getD_some, Option.getD_none]
  all_goals omega
def shownL (k : Ky) : List UInt8 :=
  if (!hasK k.mods 4 && !decide (k.text = [])) = true then k.text
  else if ((foldK (shownK k)).isSome && hasK k.mods 4) = true then [UInt8.ofNat ((foldK (shownK k)).getD 0).toNat] else putU (shownK k)
def textL (k : Ky) : List UInt8 := aheadK k (shownL k)
def plainB (m : Md) (k : Ky) : List UInt8 :=
  if ((k.code == 9) && hasK k.mods 1) = true then putX (numSq 1 0 90 [])
  else if ((k.code == 13) && m.line) = true then [13, 10]
  else if ((k.code == 127) && !(m.back == hasK k.mods 4)) = true then [8]
  else [UInt8.ofNat (k.code % 256).toNat]
def plainL (m : Md) (k : Ky) : List UInt8 := aheadK k (plainB m k)
set_option maxHeartbeats 4000000 in
theorem fs_textL {Gl : Gh → Prop} (hst : Stays Gl) {m : Md} {k : Ky} {e : Ent} (h0 : 0 ≤ k.mods) (h1 : k.mods ≤ 255) (ht : k.text.length ≤ 1000000000000) : FS Tryz.prog Gl 71 [.agg (mdAV m), .agg (kyAV k), .agg (entAV e)] [] [] (.sl none 1 (bytesAV (textL k))) [] [] := by
  refine FS.ofD hm hst is_legacytext rfl rfl (by simp) fun γ hγ hfr => ?_
  have hky : kyAV k = [.int .i64 k.code, .int .i64 k.mods, .int .i64 k.type, .int .i64 k.shifted, .int .i64 k.base, .str k.text] := rfl
  have hq : (bits .and .i64 k.mods 4 != 0) = hasK k.mods 4 := hasB h0 h1 2 (by omega)
  have c1 := fs_Shown (Gl := Gl) hst (k := k) (by omega)
  have c2 : FS Tryz.prog Gl 123 [.int .i64 (shownK k)] [] [] (.tup [.int .i64 ((foldK (shownK k)).getD 0), .bool (foldK (shownK k)).isSome]) [] [] := fs_Fold (Gl := Gl) hst
  rw [hky] at c1
  simp only [mdAV, hky, entAV]
  generalize hQ : (fun (ex : Ex) (_ _ : Nat) (s : St) => _) = Q
  show aw _ _ ir_legacytext_a γ 0 _ Q
  unfold ir_legacytext_a
  simp +contextual (maxSteps := 1000000) only [go_sem, reduceCtorEq, ↓reduceIte, Nat.reduceAdd, Nat.reduceEqDiff]
  rw [← hQ]
  refine ⟨rfl, ?_⟩
  simp only [ir_legacytext]
  generalize hK : (fun s : St => _) = K
  simp +contextual (maxSteps := 1000000) only [go_sem, reduceCtorEq, ↓reduceIte, Nat.reduceAdd, Nat.reduceEqDiff]
  rw [← hK]
  clear hK
  simp only [Xev_t, upd_app, lf_cons, List.map_cons, List.map_nil, List.length_cons, List.length_nil, ↓reduceIte, Nat.reduceEqDiff]
  have fin : ∀ {s₃ : St} {t : Option Nm} {b : List UInt8}, b.length ≤ 10000000000000 → ((γ, 3, 0), HB.cells [.sl t 1 (bytesAV b)]) ∈ s₃.H → s₃.F 6 = .ptr (γ, 3, 0) 0 → aheadK k b = textL k →
      CallD Tryz.prog Gl 124 [.agg [.int .i64 k.code, .int .i64 k.mods, .int .i64 k.type, .int .i64 k.shifted, .int .i64 k.base, .str k.text], .ptr (γ, 3, 0) 0] s₃ fun s₄ => ∃ x, resOf s₄ [IRes.cell 6 none] = some x ∧ RepLe x (.sl none 1 (bytesAV (textL k))) := by
    intro s₃ t b hb hH hF hz
    refine CallD.one (fd_ahead hst (k := k) hγ h0 h1 hb) hH fun z' hz' => ⟨z', ?_, by rw [← hz]; exact hz'⟩
    simp [resOf, getAll, IRes.get, hF, getH]
  generalize hR : (fun (ex : Ex) (_ _ : Nat) (s : St) => _) = R
  have hsh : shownL k = if (!hasK k.mods 4 && !decide (k.text = [])) = true then k.text
    else if ((foldK (shownK k)).isSome && hasK k.mods 4) = true then [UInt8.ofNat ((foldK (shownK k)).getD 0).toNat] else putU (shownK k) := rfl
  have htx : textL k = aheadK k (shownL k) := rfl
  unfold ir_legacytext_r
  simp +contextual (maxSteps := 1000000) only [hq, go_sem, reduceCtorEq, ↓reduceIte, Nat.reduceAdd, Nat.reduceEqDiff]
  cases hA : (!hasK k.mods 4 && !decide (k.text = [])) with
  | true =>
    simp +contextual (maxSteps := 1000000) only [hA, go_sem, reduceCtorEq, ↓reduceIte, Nat.reduceAdd, Nat.reduceEqDiff]
    refine ⟨by simp only [maxLen]; omega, ?_⟩
    rw [← hR]
    exact ⟨trivial, fin (t := none) (b := k.text) (by omega) (by simp) rfl (by rw [htx, hsh, if_pos hA])⟩
  | false =>
    simp +contextual (maxSteps := 1000000) only [hA, go_sem, reduceCtorEq, ↓reduceIte, Nat.reduceAdd, Nat.reduceEqDiff]
    (refine CallP.pure (c1) (fun _ => rfl) ?_; simp +contextual (maxSteps := 1000000) only [go_sem, reduceCtorEq, ↓reduceIte, Nat.reduceAdd, Nat.reduceEqDiff])
    (refine CallP.pure (c2) (fun _ => rfl) ?_; simp +contextual (maxSteps := 1000000) only [go_sem, reduceCtorEq, ↓reduceIte, Nat.reduceAdd, Nat.reduceEqDiff])
    cases hB : ((foldK (shownK k)).isSome && hasK k.mods 4) with
    | true =>
      simp +contextual (maxSteps := 1000000) only [hB, go_sem, reduceCtorEq, ↓reduceIte, Nat.reduceAdd, Nat.reduceEqDiff]
      rw [← hR]
      have hrow : [[AV.int IntKind.u8 (IntKind.u8.wrap ((foldK (shownK k)).getD 0))]] = bytesAV [UInt8.ofNat ((foldK (shownK k)).getD 0).toNat] := by
        obtain ⟨f0, f1⟩ := fold_range (shownK k)
        generalize (foldK (shownK k)).getD 0 = f at *
        have : ((UInt8.ofNat f.toNat).toNat : Int) = IntKind.u8.wrap f := by
          rw [IntKind.wrap_u8, UInt8.toNat_ofNat', Nat.mod_eq_of_lt (by omega)]; omega
        simp only [bytesAV, List.map_cons, List.map_nil, this]
      rw [hrow]
      exact ⟨trivial, fin (t := some (γ, 34, 0)) (b := [UInt8.ofNat ((foldK (shownK k)).getD 0).toNat]) (by simp) (by simp) rfl (by rw [htx, hsh, if_neg (by rw [hA]; simp), if_pos hB])⟩
    | false =>
      simp +contextual (maxSteps := 1000000) only [hB, go_sem, reduceCtorEq, ↓reduceIte, Nat.reduceAdd, Nat.reduceEqDiff]
      (refine CallP.pure (fs_putU hst) (fun _ => rfl) ?_; simp +contextual (maxSteps := 1000000) only [go_sem, reduceCtorEq, ↓reduceIte, Nat.reduceAdd, Nat.reduceEqDiff])
      rw [← hR]
      have := putU_len (shownK k)
      exact ⟨trivial, fin (t := none) (b := putU (shownK k)) (by omega) (by simp) rfl (by rw [htx, hsh, if_neg (by rw [hA]; simp), if_neg (by rw [hB]; simp)])⟩
set_option maxHeartbeats 4000000 in
theorem fs_plainL {Gl : Gh → Prop} (hst : Stays Gl) {m : Md} {k : Ky} {e : Ent} (h0 : 0 ≤ k.mods) (h1 : k.mods ≤ 255) : FS Tryz.prog Gl 72 [.agg (mdAV m), .agg (kyAV k), .agg (entAV e)] [] [] (.sl none 1 (bytesAV (plainL m k))) [] [] := by
  refine FS.ofD hm hst is_legacyplain rfl rfl (by simp) fun γ hγ hfr => ?_
  have hky : kyAV k = [.int .i64 k.code, .int .i64 k.mods, .int .i64 k.type, .int .i64 k.shifted, .int .i64 k.base, .str k.text] := rfl
  have hq : (bits .and .i64 k.mods 4 != 0) = hasK k.mods 4 := hasB h0 h1 2 (by omega)
  have hq1 : (bits .and .i64 k.mods 1 != 0) = hasK k.mods 1 := hasB h0 h1 0 (by omega)
  have c1 : FS Tryz.prog Gl 68 [.int .u8 0, .int .u8 90, .nils] [] [] (.agg (numSq 1 0 90 []).c) [] [] := (fs_Num (Gl := Gl) hst (pr := 0) (fi := 90) (nums := []) (tn := none) (by simp)).args ⟨.refl _, .refl _, .nils 1, trivial⟩
  have c2 := fs_bytes (Gl := Gl) hst (s := numSq 1 0 90 []) (by decide) (by decide) (by decide) (by decide) ⟨by simp [numSq], by simp [numSq], by simp [numSq], by simp [numSq]⟩
  have hpl : plainB m k = if ((k.code == 9) && hasK k.mods 1) = true then putX (numSq 1 0 90 []) else if ((k.code == 13) && m.line) = true then [13, 10] else if ((k.code == 127) && !(m.back == hasK k.mods 4)) = true then [8] else [UInt8.ofNat (k.code % 256).toNat] := rfl
  have htx : plainL m k = aheadK k (plainB m k) := rfl
  simp only [mdAV, hky, entAV]
  generalize hQ : (fun (ex : Ex) (_ _ : Nat) (s : St) => _) = Q
  show aw _ _ ir_legacyplain_a γ 0 _ Q
  unfold ir_legacyplain_a
  simp +contextual (maxSteps := 1000000) only [go_sem, reduceCtorEq, ↓reduceIte, Nat.reduceAdd, Nat.reduceEqDiff]
  rw [← hQ]
  refine ⟨rfl, ?_⟩
  simp only [ir_legacyplain]
  generalize hK : (fun s : St => _) = K
  simp +contextual (maxSteps := 1000000) only [go_sem, reduceCtorEq, ↓reduceIte, Nat.reduceAdd, Nat.reduceEqDiff]
  rw [← hK]
  clear hK
  simp only [Xev_t, upd_app, lf_cons, List.map_cons, List.map_nil, List.length_cons, List.length_nil, ↓reduceIte, Nat.reduceEqDiff]
  have fin : ∀ {s₃ : St} {t : Option Nm} {b : List UInt8}, b.length ≤ 10000000000000 → ((γ, 3, 0), HB.cells [.sl t 1 (bytesAV b)]) ∈ s₃.H → s₃.F 6 = .ptr (γ, 3, 0) 0 → aheadK k b = plainL m k →
      CallD Tryz.prog Gl 124 [.agg [.int .i64 k.code, .int .i64 k.mods, .int .i64 k.type, .int .i64 k.shifted, .int .i64 k.base, .str k.text], .ptr (γ, 3, 0) 0] s₃ fun s₄ => ∃ x, resOf s₄ [IRes.cell 6 none] = some x ∧ RepLe x (.sl none 1 (bytesAV (plainL m k))) := by
    intro s₃ t b hb hH hF hz
    refine CallD.one (fd_ahead hst (k := k) hγ h0 h1 hb) hH fun z' hz' => ⟨z', ?_, by rw [← hz]; exact hz'⟩
    simp [resOf, getAll, IRes.get, hF, getH]
  generalize hR : (fun (ex : Ex) (_ _ : Nat) (s : St) => _) = R
  unfold ir_legacyplain_r
  simp +contextual (maxSteps := 1000000) only [hq1, go_sem, reduceCtorEq, ↓reduceIte, Nat.reduceAdd, Nat.reduceEqDiff]
  cases hA : ((k.code == 9) && hasK k.mods 1) with
  | true =>
    simp +contextual (maxSteps := 1000000) only [hA, go_sem, reduceCtorEq, ↓reduceIte, Nat.reduceAdd, Nat.reduceEqDiff]
    (refine CallP.pure (c1) (fun _ => rfl) ?_; simp +contextual (maxSteps := 1000000) only [go_sem, reduceCtorEq, ↓reduceIte, Nat.reduceAdd, Nat.reduceEqDiff])
    (refine CallP.pure (c2) (fun _ => rfl) ?_; simp +contextual (maxSteps := 1000000) only [go_sem, reduceCtorEq, ↓reduceIte, Nat.reduceAdd, Nat.reduceEqDiff])
    rw [← hR]
    exact ⟨trivial, fin (t := none) (b := putX (numSq 1 0 90 [])) (by decide +kernel) (by simp) rfl (by rw [htx, hpl, if_pos hA])⟩
  | false =>
    simp +contextual (maxSteps := 1000000) only [hA, go_sem, reduceCtorEq, ↓reduceIte, Nat.reduceAdd, Nat.reduceEqDiff]
    cases hB : ((k.code == 13) && m.line) with
    | true =>
      simp +contextual (maxSteps := 1000000) only [hB, go_sem, reduceCtorEq, ↓reduceIte, Nat.reduceAdd, Nat.reduceEqDiff]
      rw [← hR]
      exact ⟨trivial, fin (t := some (γ, 24, 0)) (b := [13, 10]) (by simp) List.mem_cons_self rfl (by rw [htx, hpl, if_neg (by rw [hA]; simp), if_pos hB])⟩
    | false =>
      simp +contextual (maxSteps := 1000000) only [hB, hq, go_sem, reduceCtorEq, ↓reduceIte, Nat.reduceAdd, Nat.reduceEqDiff]
      cases hC : ((k.code == 127) && !(m.back == hasK k.mods 4)) with
      | true =>
        simp +contextual (maxSteps := 1000000) only [hC, go_sem, reduceCtorEq, ↓reduceIte, Nat.reduceAdd, Nat.reduceEqDiff]
        rw [← hR]
        exact ⟨trivial, fin (t := some (γ, 37, 0)) (b := [8]) (by simp) List.mem_cons_self rfl (by rw [htx, hpl, if_neg (by rw [hA]; simp), if_neg (by rw [hB]; simp), if_pos hC])⟩
      | false =>
        simp +contextual (maxSteps := 1000000) only [hC, go_sem, reduceCtorEq, ↓reduceIte, Nat.reduceAdd, Nat.reduceEqDiff]
        rw [← hR]
        have hrow : [[AV.int IntKind.u8 (IntKind.u8.wrap k.code)]] = bytesAV [UInt8.ofNat (k.code % 256).toNat] := by
          have : ((UInt8.ofNat (k.code % 256).toNat).toNat : Int) = IntKind.u8.wrap k.code := by
            rw [IntKind.wrap_u8, UInt8.toNat_ofNat', Nat.mod_eq_of_lt (by omega)]; omega
          simp only [bytesAV, List.map_cons, List.map_nil, this]
        rw [hrow]
        exact ⟨trivial, fin (t := some (γ, 40, 0)) (b := [UInt8.ofNat (k.code % 256).toNat]) (by simp) List.mem_cons_self rfl (by rw [htx, hpl, if_neg (by rw [hA]; simp), if_neg (by rw [hB]; simp), if_neg (by rw [hC]; simp)])⟩
end Go.Proofs.YtjankibepgnbfaaGreatDoor

namespace Go.Proofs.YtjankibepgnbfaaGreatDoor
open Go Go.Ab
def ir_legacyletter : ICode :=
 (.seq
 (.reg [qA 3 (.box 23 (.t 0)),
 qA 4 (.box 27 (.t 1)),
 qA 5 (.box 98 (.t 2)),
 qA 6 (.mov (.c .nils))] (some [3,4,5]))
 (.seq
 (.reg [qF 8 1 4,
 qL 9 8,
 qA 10 (.call (qC 70) [(.t 9)]),
 qM 7 10] (some [3,5,7]))
 (.seq
 (.blk 0
 (.seq
 (.reg [qM 12 7,
 qA 13 (.bin .neq .none (.t 12) (qI 0)),
 qM 11 13] (some [3,5,7,11]))
 (.cond (.t 11)
 (.seq
 (.drw [⟨qF 14 1 5, []⟩,
 ⟨qL 15 14, [0]⟩,
 ⟨qM 16 7, []⟩,
 ⟨qA 17 (.call (qC 69) [(.t 16)]), [2]⟩,
 ⟨qA 18 (.row 3 1 [(qI 1), (.t 17)]), [3]⟩,
 ⟨qA 19 (.call (qC 68) [(.c (.int .u8 0)), (.t 15), (.t 18)]), [1,4,3]⟩,
 ⟨qA 20 (.call (qC 125) [(.t 19)]), [5,5]⟩]
 [qM 6 20] (some [6]))
 .ret)
 (.seq
 (.reg [qF 22 0 3,
 qL 23 22,
 qM 24 23,
 qG 25 24 false (.fa 1 (.t 5)),
 qG 26 24 false (.ld none (.t 25)),
 qG 27 24 false (.bin .geq .none (.t 26) (.c (.int .u8 80))),
 qA 28 (.pick (.t 24) (qB true) (.t 27)),
 qM 21 28] (some [5,21]))
 (.cond (.t 21)
 (.seq
 (.reg [qF 29 1 5,
 qL 30 29,
 qA 31 (.bld [(.int .i64 0), (.int .u8 0), .nils, (.str []), (.int .u8 0), (.str [])] [(0, 1, (qI 2)), (4, 1, (.t 30))]),
 qA 32 (.call (qC 125) [(.t 31)]),
 qM 6 32] (some [6]))
 .ret)
 .skip)))))
 (.seq
 (.reg [qF 33 1 5,
 qL 34 33,
 qA 35 (.call (qC 68) [(.c (.int .u8 0)), (.t 34), (.c .nils)]),
 qA 36 (.call (qC 125) [(.t 35)]),
 qM 6 36] (some [6]))
 .ret))))
theorem is_legacyletter : IrOf Tryz.prog 73 37 ir_legacyletter [.t 6] := ⟨_, Tryz.func73, rfl, by kernel_rfl, by kernel_rfl, by kernel_rfl⟩

def ir_legacynumber : ICode :=
 (.seq
 (.reg [qA 3 (.box 23 (.t 0)),
 qA 4 (.box 27 (.t 1)),
 qA 5 (.box 98 (.t 2)),
 qA 6 (.mov (.c .nils))] (some [4,5]))
 (.seq
 (.reg [qF 9 2 5,
 qL 10 9,
 qA 11 (.row 3 1 [(.t 10)]),
 qM 7 11] (some [4,7]))
 (.seq
 (.seq
 (.reg [qF 12 1 4,
 qL 13 12,
 qA 14 (.call (qC 70) [(.t 13)]),
 qM 8 14] (some [7,8]))
 (.seq
 (.reg [qM 15 8,
 qA 16 (.bin .neq .none (.t 15) (qI 0))] (some [7,8,16]))
 (.cond (.t 16)
 (.reg [qM 17 7,
 qM 18 8,
 qA 19 (.call (qC 69) [(.t 18)]),
 qA 20 (.row 3 1 [(.t 19)]),
 qA 21 (.app 3 1 8 (.t 17) (.t 20)),
 qM 7 21] (some [7]))
 .skip)))
 (.seq
 (.reg [qM 22 7,
 qA 23 (.call (qC 68) [(.c (.int .u8 0)), (.c (.int .u8 126)), (.t 22)]),
 qA 24 (.call (qC 125) [(.t 23)]),
 qM 6 24] (some [6]))
 .ret))))
theorem is_legacynumber : IrOf Tryz.prog 74 25 ir_legacynumber [.t 6] := ⟨_, Tryz.func74, rfl, by kernel_rfl, by kernel_rfl, by kernel_rfl⟩

def ir_legacypad : ICode :=
 (.seq
 (.reg [qA 3 (.box 23 (.t 0)),
 qA 4 (.box 27 (.t 1)),
 qA 5 (.box 98 (.t 2)),
 qA 6 (.mov (.c .nils))] (some [3,4,5]))
 (.seq
 (.seq
 (.reg [qF 7 1 3,
 qL 8 7,
 qM 9 8,
 qG 10 9 true (.fa 1 (.t 4)),
 qG 11 9 true (.ld none (.t 10)),
 qG 12 9 true (.call (qC 70) [(.t 11)]),
 qG 13 9 true (.bin .eql .none (.t 12) (qI 0)),
 qA 14 (.pick (.t 9) (.t 13) (qB false))] (some [3,4,5,14]))
 (.cond (.t 14)
 (.seq
 (.reg [qF 15 1 5,
 qL 16 15,
 qA 17 (.bld [(.int .i64 0), (.int .u8 0), .nils, (.str []), (.int .u8 0), (.str [])] [(0, 1, (qI 2)), (4, 1, (.t 16))]),
 qA 18 (.call (qC 125) [(.t 17)]),
 qM 6 18] (some [6]))
 .ret)
 .skip))
 (.seq
 (.reg [qF 19 3 5,
 qL 20 19,
 qF 21 0 4,
 qN (.st 1 (.t 21) (.t 20)),
 qF 22 3 4,
 qN (.st 1 (.t 22) (qI 0))] (some [3,4,5]))
 (.seq
 (.seq
 (.reg [qF 23 3 5,
 qL 24 23,
 qA 25 (.bin .eql .none (.t 24) (qI 13))] (some [3,4,5,25]))
 (.cond (.t 25)
 (.seq
 (.reg [qA 26 (.ld (some 10) (.t 3)),
 qA 27 (.ld (some 6) (.t 4)),
 qA 28 (.ld (some 5) (.t 5)),
 qA 29 (.call (qC 72) [(.t 26), (.t 27), (.t 28)]),
 qM 6 29] (some [6]))
 .ret)
 .skip))
 (.seq
 (.reg [qA 30 (.ld (some 10) (.t 3)),
 qA 31 (.ld (some 6) (.t 4)),
 qA 32 (.ld (some 5) (.t 5)),
 qA 33 (.call (qC 71) [(.t 30), (.t 31), (.t 32)]),
 qM 6 33] (some [6]))
 .ret)))))
theorem is_legacypad : IrOf Tryz.prog 75 34 ir_legacypad [.t 6] := ⟨_, Tryz.func75, rfl, by kernel_rfl, by kernel_rfl, by kernel_rfl⟩

/- clavier/legacy.Key -/
def ir_legacyKey_t5 : ICode :=
 (.seq
 (.reg [qM 29 7,
 qA 30 (.ld (some 10) (.t 2)),
 qA 31 (.ld (some 6) (.t 3)),
 qA 32 (.ld (some 5) (.t 6)),
 qA 33 (.call (.t 29) [(.t 30), (.t 31), (.t 32)]),
 qM 4 33] (some [4]))
 .ret)
def ir_legacyKey_t4 : ICode :=
 (.seq
 (.seq
 (.reg [qM 17 7,
 qA 18 (.bin .eql .func (.t 17) (.c .nilf)),
 qM 19 18,
 qG 20 19 false (.ld (some 6) (.t 3)),
 qG 21 19 false (.call (qC 26) [(.t 20)]),
 qG 22 19 false (.un .not (.t 21)),
 qA 23 (.pick (.t 19) (qB true) (.t 22)),
 qM 24 23,
 qG 25 24 false (.fa 2 (.t 3)),
 qG 26 24 false (.ld none (.t 25)),
 qG 27 24 false (.bin .eql .none (.t 26) (qI 3)),
 qA 28 (.pick (.t 24) (qB true) (.t 27))] (some [2,3,6,7,28]))
 (.cond (.t 28)
 (.seq
 (.reg [qA 4 (.mov (.c .nils))] (some [4]))
 .ret)
 .skip))
 ir_legacyKey_t5)
def ir_legacyKey_t3 : ICode :=
 (.seq
 (.reg [qM 13 5,
 qF 14 0 6,
 qL 15 14,
 qA 16 (.lkp .int .nilf false (.t 13) (.t 15)),
 qM 7 16] (some [2,3,6,7]))
 ir_legacyKey_t4)
def ir_legacyKey_t2 : ICode :=
 (.seq
 (.reg [qF 10 0 3,
 qL 11 10,
 qA 12 (.call (qC 55) [(.t 11)]),
 qA 6 (.box 98 (.c (.agg [(.int .i64 0), (.int .u8 0), (.int .i64 0), (.int .i64 0), (.bool false)]))),
 qN (.st 5 (.t 6) (.t 12))] (some [2,3,5,6]))
 ir_legacyKey_t3)
def ir_legacyKey_t1 : ICode :=
 (.seq
 (.reg [qA 8 (.mkm),
 qN (.ins .int (.t 8) (qI 1) (qC 71)),
 qN (.ins .int (.t 8) (qI 2) (qC 72)),
 qN (.ins .int (.t 8) (qI 3) (qC 73)),
 qN (.ins .int (.t 8) (qI 4) (qC 74)),
 qN (.ins .int (.t 8) (qI 5) (qC 75)),
 qM 9 8,
 qM 5 9] (some [2,3,5]))
 ir_legacyKey_t2)
def ir_legacyKey : ICode :=
 (.seq
 (.reg [qA 2 (.box 23 (.t 0)),
 qA 3 (.box 27 (.t 1)),
 qA 4 (.mov (.c .nils))] (some [2,3]))
 ir_legacyKey_t1)
theorem is_legacyKey : IrOf Tryz.prog 31 34 ir_legacyKey [.t 4] := ⟨_, Tryz.func31, rfl, by kernel_rfl, by kernel_rfl, by kernel_rfl⟩

theorem sm_num {k pr fi : Int} {nums : List Int} (h : nums.length ≤ 1000) : (numSq k pr fi nums).sm := by
  refine ⟨by simp only [numSq, List.length_map]; omega, fun p hp => ?_, by simp [numSq], by simp [numSq]⟩
  simp only [numSq, List.mem_map] at hp
  obtain ⟨n, _, rfl⟩ := hp
  simp
theorem fs_bytesN {Gl : Gh → Prop} (hst : Stays Gl) {k fi : Int} {nums : List Int} (h : nums.length ≤ 1000) (hf0 : 0 ≤ fi) (hf1 : fi < 128) : FS Tryz.prog Gl 125 [.agg [.int .i64 k, .int .u8 0, .sl none 1 (parsAV (nums.map fun n => [n])), .str [], .int .u8 fi, .str []]] [] [] (.sl none 1 (bytesAV (putX (numSq k 0 fi nums)))) [] [] :=
  fs_bytes (s := numSq k 0 fi nums) hst (by simp [numSq]) (by simp [numSq]) hf0 hf1 (sm_num h)
theorem fs_bytes0 {Gl : Gh → Prop} (hst : Stays Gl) {k fi : Int} (hf0 : 0 ≤ fi) (hf1 : fi < 128) : FS Tryz.prog Gl 125 [.agg [.int .i64 k, .int .u8 0, .nils, .str [], .int .u8 fi, .str []]] [] [] (.sl none 1 (bytesAV (putX (numSq k 0 fi [])))) [] [] :=
  (fs_bytesN (nums := []) hst (by simp) hf0 hf1).args ⟨RepLe.agg ⟨.refl _, .refl _, .nils 1, .refl _, .refl _, .refl _, trivial⟩, trivial⟩
theorem fs_NumV {Gl : Gh → Prop} (hst : Stays Gl) {pr fi : Int} {nums : List Int} {tn : Option Nm} (hn : nums.length ≤ 1000) : FS Tryz.prog Gl 68 [.int .u8 pr, .int .u8 fi, .sl tn 1 (intsAV nums)] [] [] (.agg [.int .i64 1, .int .u8 pr, .sl none 1 (parsAV (nums.map fun n => [n])), .str [], .int .u8 fi, .str []]) [] [] := fs_Num hst hn
theorem fs_Num0 {Gl : Gh → Prop} (hst : Stays Gl) {pr fi : Int} : FS Tryz.prog Gl 68 [.int .u8 pr, .int .u8 fi, .nils] [] [] (.agg [.int .i64 1, .int .u8 pr, .sl none 1 (parsAV (([] : List Int).map fun n => [n])), .str [], .int .u8 fi, .str []]) [] [] :=
  (fs_Num (Gl := Gl) hst (nums := []) (tn := none) (by simp)).args ⟨.refl _, .refl _, .nils 1, trivial⟩
def letterL (m : Md) (k : Ky) (e : Ent) : List UInt8 :=
  if (oldK k.mods != 0) = true then putX (numSq 1 0 e.final.toNat [1, paramK (oldK k.mods)])
  else if (m.cursor || decide ((e.final.toNat : Int) ≥ 80)) = true then putX (numSq 2 0 e.final.toNat []) else putX (numSq 1 0 e.final.toNat [])
def numberL (k : Ky) (e : Ent) : List UInt8 := putX (numSq 1 0 126 (if (oldK k.mods != 0) = true then [e.num, paramK (oldK k.mods)] else [e.num]))
def padL (m : Md) (k : Ky) (e : Ent) : List UInt8 :=
  if (m.keypad && (oldK k.mods == 0)) = true then putX (numSq 2 0 e.final.toNat [])
  else if (e.char == 13) = true then plainL m { k with code := e.char, shifted := 0 } else textL { k with code := e.char, shifted := 0 }
set_option maxHeartbeats 4000000 in
theorem fs_letterL {Gl : Gh → Prop} (hst : Stays Gl) {m : Md} {k : Ky} {e : Ent} (h1 : k.mods ≤ 255) (hf : e.final.toNat < 128) : FS Tryz.prog Gl 73 [.agg (mdAV m), .agg (kyAV k), .agg (entAV e)] [] [] (.sl none 1 (bytesAV (letterL m k e))) [] [] := by
  refine FS.ofW hm hst is_legacyletter rfl (by simp) fun γ hγ hfr => ?_
  have hky : kyAV k = [.int .i64 k.code, .int .i64 k.mods, .int .i64 k.type, .int .i64 k.shifted, .int .i64 k.base, .str k.text] := rfl
  have c1 := fs_Old (Gl := Gl) hst (m := k.mods) (by omega)
  have c2 := fs_Param (Gl := Gl) hst (m := oldK k.mods)
  have c3 := fs_NumV (Gl := Gl) hst (pr := 0) (fi := e.final.toNat) (nums := [1, paramK (oldK k.mods)]) (tn := none) (by simp)
  have c3' := fun t : Option Nm => fs_NumV (Gl := Gl) hst (pr := 0) (fi := e.final.toNat) (nums := [1, paramK (oldK k.mods)]) (tn := t) (by simp)
  have c4 := fs_bytesN (Gl := Gl) hst (k := 1) (fi := e.final.toNat) (nums := [1, paramK (oldK k.mods)]) (by simp) (by omega) (by omega)
  have c5 := fs_bytes0 (Gl := Gl) hst (k := 2) (fi := e.final.toNat) (by omega) (by omega)
  have c6 := fs_Num0 (Gl := Gl) hst (pr := 0) (fi := e.final.toNat)
  have c7 := fs_bytesN (Gl := Gl) hst (k := 1) (fi := e.final.toNat) (nums := []) (by simp) (by omega) (by omega)
  have hz : letterL m k e = if (oldK k.mods != 0) = true then putX (numSq 1 0 e.final.toNat [1, paramK (oldK k.mods)]) else if (m.cursor || decide ((e.final.toNat : Int) ≥ 80)) = true then putX (numSq 2 0 e.final.toNat []) else putX (numSq 1 0 e.final.toNat []) := rfl
  have hi2 : intsAV [1, paramK (oldK k.mods)] = [[.int .i64 1], [.int .i64 (paramK (oldK k.mods))]] := rfl
  simp only [mdAV, hky, entAV]
  (generalize hQ : (fun (ex : Ex) (_ _ : Nat) (s : St) => _) = Q; unfold ir_legacyletter)
  simp +contextual (maxSteps := 1000000) only [go_sem, reduceCtorEq, ↓reduceIte, Nat.reduceAdd, Nat.reduceEqDiff, Nat.reduceLeDiff, Nat.reduceMul, Nat.reduceBEq, Int.reduceBEq, Int.reduceBNe, Int.reduceLT, Int.reduceLE, Int.reduceGT, Int.reduceGE, Int.reduceToNat]
  (refine CallP.pure (c1) (fun _ => rfl) ?_; simp +contextual (maxSteps := 1000000) only [go_sem, reduceCtorEq, ↓reduceIte, Nat.reduceAdd, Nat.reduceEqDiff, Nat.reduceLeDiff, Nat.reduceMul, Nat.reduceBEq, Int.reduceBEq, Int.reduceBNe, Int.reduceLT, Int.reduceLE, Int.reduceGT, Int.reduceGE, Int.reduceToNat])
  cases hA : (oldK k.mods != 0) with
  | true =>
    simp +contextual (maxSteps := 1000000) only [go_sem, reduceCtorEq, ↓reduceIte, Nat.reduceAdd, Nat.reduceEqDiff, Nat.reduceLeDiff, Nat.reduceMul, Nat.reduceBEq, Int.reduceBEq, Int.reduceBNe, Int.reduceLT, Int.reduceLE, Int.reduceGT, Int.reduceGE, Int.reduceToNat]
    refine DCall.new c2 ?_
    simp +contextual (maxSteps := 1000000) only [go_sem, reduceCtorEq, ↓reduceIte, Nat.reduceAdd, Nat.reduceEqDiff, Nat.reduceLeDiff, Nat.reduceMul, Nat.reduceBEq, Int.reduceBEq, Int.reduceBNe, Int.reduceLT, Int.reduceLE, Int.reduceGT, Int.reduceGE, Int.reduceToNat]
    rw [hi2] at c3'
    refine ⟨?_, DCall.new (c3' _) ?_⟩
    · simp [AV.closedL, AV.closed]
    simp +contextual (maxSteps := 1000000) only [go_sem, reduceCtorEq, ↓reduceIte, Nat.reduceAdd, Nat.reduceEqDiff, Nat.reduceLeDiff, Nat.reduceMul, Nat.reduceBEq, Int.reduceBEq, Int.reduceBNe, Int.reduceLT, Int.reduceLE, Int.reduceGT, Int.reduceGE, Int.reduceToNat]
    refine DCall.new c4 ?_
    simp +contextual (maxSteps := 1000000) only [go_sem, reduceCtorEq, ↓reduceIte, Nat.reduceAdd, Nat.reduceEqDiff, Nat.reduceLeDiff, Nat.reduceMul, Nat.reduceBEq, Int.reduceBEq, Int.reduceBNe, Int.reduceLT, Int.reduceLE, Int.reduceGT, Int.reduceGE, Int.reduceToNat]
    rw [← hQ, hz, hA]
    exact ⟨trivial, .inl ⟨_, rfl, RepLe.refl _⟩⟩
  | false =>
    simp +contextual (maxSteps := 1000000) only [go_sem, reduceCtorEq, ↓reduceIte, Nat.reduceAdd, Nat.reduceEqDiff, Nat.reduceLeDiff, Nat.reduceMul, Nat.reduceBEq, Int.reduceBEq, Int.reduceBNe, Int.reduceLT, Int.reduceLE, Int.reduceGT, Int.reduceGE, Int.reduceToNat]
    cases hB : (m.cursor || decide ((e.final.toNat : Int) ≥ 80)) with
    | true =>
      simp +contextual (maxSteps := 1000000) only [hB, go_sem, reduceCtorEq, ↓reduceIte, Nat.reduceAdd, Nat.reduceEqDiff, Nat.reduceLeDiff, Nat.reduceMul, Nat.reduceBEq, Int.reduceBEq, Int.reduceBNe, Int.reduceLT, Int.reduceLE, Int.reduceGT, Int.reduceGE, Int.reduceToNat]
      (refine CallP.pure (c5) (fun _ => rfl) ?_; simp +contextual (maxSteps := 1000000) only [go_sem, reduceCtorEq, ↓reduceIte, Nat.reduceAdd, Nat.reduceEqDiff, Nat.reduceLeDiff, Nat.reduceMul, Nat.reduceBEq, Int.reduceBEq, Int.reduceBNe, Int.reduceLT, Int.reduceLE, Int.reduceGT, Int.reduceGE, Int.reduceToNat])
      rw [← hQ, hz, hA, hB]
      exact ⟨trivial, .inl ⟨_, rfl, RepLe.refl _⟩⟩
    | false =>
      simp +contextual (maxSteps := 1000000) only [hB, go_sem, reduceCtorEq, ↓reduceIte, Nat.reduceAdd, Nat.reduceEqDiff, Nat.reduceLeDiff, Nat.reduceMul, Nat.reduceBEq, Int.reduceBEq, Int.reduceBNe, Int.reduceLT, Int.reduceLE, Int.reduceGT, Int.reduceGE, Int.reduceToNat]
      (refine CallP.pure (c6) (fun _ => rfl) ?_; simp +contextual (maxSteps := 1000000) only [go_sem, reduceCtorEq, ↓reduceIte, Nat.reduceAdd, Nat.reduceEqDiff, Nat.reduceLeDiff, Nat.reduceMul, Nat.reduceBEq, Int.reduceBEq, Int.reduceBNe, Int.reduceLT, Int.reduceLE, Int.reduceGT, Int.reduceGE, Int.reduceToNat])
      (refine CallP.pure (c7) (fun _ => rfl) ?_; simp +contextual (maxSteps := 1000000) only [go_sem, reduceCtorEq, ↓reduceIte, Nat.reduceAdd, Nat.reduceEqDiff, Nat.reduceLeDiff, Nat.reduceMul, Nat.reduceBEq, Int.reduceBEq, Int.reduceBNe, Int.reduceLT, Int.reduceLE, Int.reduceGT, Int.reduceGE, Int.reduceToNat])
      rw [← hQ, hz, hA, hB]
      exact ⟨trivial, .inl ⟨_, rfl, RepLe.refl _⟩⟩
set_option maxHeartbeats 4000000 in
theorem fs_numberL {Gl : Gh → Prop} (hst : Stays Gl) {m : Md} {k : Ky} {e : Ent} (h1 : k.mods ≤ 255) : FS Tryz.prog Gl 74 [.agg (mdAV m), .agg (kyAV k), .agg (entAV e)] [] [] (.sl none 1 (bytesAV (numberL k e))) [] [] := by
  refine FS.ofW hm hst is_legacynumber rfl (by simp) fun γ hγ hfr => ?_
  have hky : kyAV k = [.int .i64 k.code, .int .i64 k.mods, .int .i64 k.type, .int .i64 k.shifted, .int .i64 k.base, .str k.text] := rfl
  have c1 := fs_Old (Gl := Gl) hst (m := k.mods) (by omega)
  have c2 := fs_Param (Gl := Gl) hst (m := oldK k.mods)
  have c3 := fun (t : Option Nm) => fs_NumV (Gl := Gl) hst (pr := 0) (fi := 126) (nums := [e.num, paramK (oldK k.mods)]) (tn := t) (by simp)
  have c4 := fs_bytesN (Gl := Gl) hst (k := 1) (fi := 126) (nums := [e.num, paramK (oldK k.mods)]) (by simp) (by omega) (by omega)
  have c5 := fun (t : Option Nm) => fs_NumV (Gl := Gl) hst (pr := 0) (fi := 126) (nums := [e.num]) (tn := t) (by simp)
  have c6 := fs_bytesN (Gl := Gl) hst (k := 1) (fi := 126) (nums := [e.num]) (by simp) (by omega) (by omega)
  have hz : numberL k e = putX (numSq 1 0 126 (if (oldK k.mods != 0) = true then [e.num, paramK (oldK k.mods)] else [e.num])) := rfl
  have hi2 : intsAV [e.num, paramK (oldK k.mods)] = [[.int .i64 e.num], [.int .i64 (paramK (oldK k.mods))]] := rfl
  have hi1 : intsAV [e.num] = [[.int .i64 e.num]] := rfl
  simp only [mdAV, hky, entAV]
  (generalize hQ : (fun (ex : Ex) (_ _ : Nat) (s : St) => _) = Q; unfold ir_legacynumber)
  simp +contextual (maxSteps := 1000000) only [go_sem, reduceCtorEq, ↓reduceIte, Nat.reduceAdd, Nat.reduceEqDiff, Nat.reduceLeDiff, Nat.reduceMul, Nat.reduceBEq, Int.reduceBEq, Int.reduceBNe, Int.reduceLT, Int.reduceLE, Int.reduceGT, Int.reduceGE, Int.reduceToNat]
  (refine CallP.pure (c1) (fun _ => rfl) ?_; simp +contextual (maxSteps := 1000000) only [go_sem, reduceCtorEq, ↓reduceIte, Nat.reduceAdd, Nat.reduceEqDiff, Nat.reduceLeDiff, Nat.reduceMul, Nat.reduceBEq, Int.reduceBEq, Int.reduceBNe, Int.reduceLT, Int.reduceLE, Int.reduceGT, Int.reduceGE, Int.reduceToNat])
  cases hA : (oldK k.mods != 0) with
  | true =>
    simp +contextual (maxSteps := 1000000) only [go_sem, reduceCtorEq, ↓reduceIte, Nat.reduceAdd, Nat.reduceEqDiff, Nat.reduceLeDiff, Nat.reduceMul, Nat.reduceBEq, Int.reduceBEq, Int.reduceBNe, Int.reduceLT, Int.reduceLE, Int.reduceGT, Int.reduceGE, Int.reduceToNat]
    (refine CallP.pure (c2) (fun _ => rfl) ?_; simp +contextual (maxSteps := 1000000) only [go_sem, reduceCtorEq, ↓reduceIte, Nat.reduceAdd, Nat.reduceEqDiff, Nat.reduceLeDiff, Nat.reduceMul, Nat.reduceBEq, Int.reduceBEq, Int.reduceBNe, Int.reduceLT, Int.reduceLE, Int.reduceGT, Int.reduceGE, Int.reduceToNat])
    rw [hi2] at c3
    refine ⟨.inl trivial, ?_⟩
    (refine CallP.pure (c3 _) (fun _ => rfl) ?_; simp +contextual (maxSteps := 1000000) only [go_sem, reduceCtorEq, ↓reduceIte, Nat.reduceAdd, Nat.reduceEqDiff, Nat.reduceLeDiff, Nat.reduceMul, Nat.reduceBEq, Int.reduceBEq, Int.reduceBNe, Int.reduceLT, Int.reduceLE, Int.reduceGT, Int.reduceGE, Int.reduceToNat])
    (refine CallP.pure (c4) (fun _ => rfl) ?_; simp +contextual (maxSteps := 1000000) only [go_sem, reduceCtorEq, ↓reduceIte, Nat.reduceAdd, Nat.reduceEqDiff, Nat.reduceLeDiff, Nat.reduceMul, Nat.reduceBEq, Int.reduceBEq, Int.reduceBNe, Int.reduceLT, Int.reduceLE, Int.reduceGT, Int.reduceGE, Int.reduceToNat])
    rw [← hQ, hz, hA]
    exact ⟨trivial, .inl ⟨_, rfl, RepLe.refl _⟩⟩
  | false =>
    simp +contextual (maxSteps := 1000000) only [go_sem, reduceCtorEq, ↓reduceIte, Nat.reduceAdd, Nat.reduceEqDiff, Nat.reduceLeDiff, Nat.reduceMul, Nat.reduceBEq, Int.reduceBEq, Int.reduceBNe, Int.reduceLT, Int.reduceLE, Int.reduceGT, Int.reduceGE, Int.reduceToNat]
    rw [hi1] at c5
    (refine CallP.pure (c5 _) (fun _ => rfl) ?_; simp +contextual (maxSteps := 1000000) only [go_sem, reduceCtorEq, ↓reduceIte, Nat.reduceAdd, Nat.reduceEqDiff, Nat.reduceLeDiff, Nat.reduceMul, Nat.reduceBEq, Int.reduceBEq, Int.reduceBNe, Int.reduceLT, Int.reduceLE, Int.reduceGT, Int.reduceGE, Int.reduceToNat])
    (refine CallP.pure (c6) (fun _ => rfl) ?_; simp +contextual (maxSteps := 1000000) only [go_sem, reduceCtorEq, ↓reduceIte, Nat.reduceAdd, Nat.reduceEqDiff, Nat.reduceLeDiff, Nat.reduceMul, Nat.reduceBEq, Int.reduceBEq, Int.reduceBNe, Int.reduceLT, Int.reduceLE, Int.reduceGT, Int.reduceGE, Int.reduceToNat])
    rw [← hQ, hz, hA]
    exact ⟨trivial, .inl ⟨_, rfl, RepLe.refl _⟩⟩
set_option maxHeartbeats 4000000 in
theorem fs_padL {Gl : Gh → Prop} (hst : Stays Gl) {m : Md} {k : Ky} {e : Ent} (h0 : 0 ≤ k.mods) (h1 : k.mods ≤ 255) (ht : k.text.length ≤ 1000000000000) (hf : e.final.toNat < 128) : FS Tryz.prog Gl 75 [.agg (mdAV m), .agg (kyAV k), .agg (entAV e)] [] [] (.sl none 1 (bytesAV (padL m k e))) [] [] := by
  refine FS.ofW hm hst is_legacypad rfl (by simp) fun γ hγ hfr => ?_
  have hky : kyAV k = [.int .i64 k.code, .int .i64 k.mods, .int .i64 k.type, .int .i64 k.shifted, .int .i64 k.base, .str k.text] := rfl
  have c1 := fs_Old (Gl := Gl) hst (m := k.mods) (by omega)
  have c2 := fs_bytes0 (Gl := Gl) hst (k := 2) (fi := e.final.toNat) (by omega) (by omega)
  have c3 := fs_plainL (Gl := Gl) hst (m := m) (k := { k with code := e.char, shifted := 0 }) (e := e) h0 h1
  have c4 := fs_textL (Gl := Gl) hst (m := m) (k := { k with code := e.char, shifted := 0 }) (e := e) h0 h1 ht
  have hz : padL m k e = if (m.keypad && (oldK k.mods == 0)) = true then putX (numSq 2 0 e.final.toNat []) else if (e.char == 13) = true then plainL m { k with code := e.char, shifted := 0 } else textL { k with code := e.char, shifted := 0 } := rfl
  rw [mdAV, kyAV, entAV] at c3 c4
  simp only [mdAV, hky, entAV]
  (generalize hQ : (fun (ex : Ex) (_ _ : Nat) (s : St) => _) = Q; unfold ir_legacypad)
  simp +contextual (maxSteps := 1000000) only [go_sem, reduceCtorEq, ↓reduceIte, Nat.reduceAdd, Nat.reduceEqDiff, Nat.reduceLeDiff, Nat.reduceMul, Nat.reduceBEq, Int.reduceBEq, Int.reduceBNe, Int.reduceLT, Int.reduceLE, Int.reduceGT, Int.reduceGE, Int.reduceToNat]
  (refine kGc_call (c1) (fun _ => rfl) (fun hgc => ?_) ?_; (focus (first | (rw [Bool.not_eq_true'] at hgc; simp only [List.map_cons, List.map_nil, List.nil_append, List.append_nil, List.cons_append, Xev_t, Xev_c, upd_app, lf_cons, lf_nil, Nat.reduceEqDiff, ↓reduceIte, hgc, Bool.false_eq_true, Bool.true_eq_false, reduceCtorEq]; done) | (simp only [List.map_cons, List.map_nil, List.nil_append, List.append_nil, List.cons_append, Xev_t, Xev_c, upd_app, lf_cons, lf_nil, Nat.reduceEqDiff, ↓reduceIte, hgc, Bool.false_eq_true, Bool.true_eq_false, reduceCtorEq]; done) | (revert hgc; simp +contextual [Xev_t, Xev_c, upd_app, lf_cons, lf_nil]; done) | simp [Xev_t, Xev_c, upd_app, lf_cons, lf_nil])); simp +contextual (maxSteps := 1000000) only [go_sem, reduceCtorEq, ↓reduceIte, Nat.reduceAdd, Nat.reduceEqDiff, Nat.reduceLeDiff, Nat.reduceMul, Nat.reduceBEq, Int.reduceBEq, Int.reduceBNe, Int.reduceLT, Int.reduceLE, Int.reduceGT, Int.reduceGE, Int.reduceToNat])
  cases hA : (m.keypad && (oldK k.mods == 0)) with
  | true =>
    simp +contextual (maxSteps := 1000000) only [hA, go_sem, reduceCtorEq, ↓reduceIte, Nat.reduceAdd, Nat.reduceEqDiff, Nat.reduceLeDiff, Nat.reduceMul, Nat.reduceBEq, Int.reduceBEq, Int.reduceBNe, Int.reduceLT, Int.reduceLE, Int.reduceGT, Int.reduceGE, Int.reduceToNat]
    (refine CallP.pure (c2) (fun _ => rfl) ?_; simp +contextual (maxSteps := 1000000) only [go_sem, reduceCtorEq, ↓reduceIte, Nat.reduceAdd, Nat.reduceEqDiff, Nat.reduceLeDiff, Nat.reduceMul, Nat.reduceBEq, Int.reduceBEq, Int.reduceBNe, Int.reduceLT, Int.reduceLE, Int.reduceGT, Int.reduceGE, Int.reduceToNat])
    rw [← hQ, hz, hA]
    exact ⟨trivial, .inl ⟨_, rfl, RepLe.refl _⟩⟩
  | false =>
    simp +contextual (maxSteps := 1000000) only [hA, go_sem, reduceCtorEq, ↓reduceIte, Nat.reduceAdd, Nat.reduceEqDiff, Nat.reduceLeDiff, Nat.reduceMul, Nat.reduceBEq, Int.reduceBEq, Int.reduceBNe, Int.reduceLT, Int.reduceLE, Int.reduceGT, Int.reduceGE, Int.reduceToNat]
    cases hB : (e.char == 13) with
    | true =>
      simp +contextual (maxSteps := 1000000) only [hB, go_sem, reduceCtorEq, ↓reduceIte, Nat.reduceAdd, Nat.reduceEqDiff, Nat.reduceLeDiff, Nat.reduceMul, Nat.reduceBEq, Int.reduceBEq, Int.reduceBNe, Int.reduceLT, Int.reduceLE, Int.reduceGT, Int.reduceGE, Int.reduceToNat]
      (refine CallP.pure (c3) (fun _ => rfl) ?_; simp +contextual (maxSteps := 1000000) only [go_sem, reduceCtorEq, ↓reduceIte, Nat.reduceAdd, Nat.reduceEqDiff, Nat.reduceLeDiff, Nat.reduceMul, Nat.reduceBEq, Int.reduceBEq, Int.reduceBNe, Int.reduceLT, Int.reduceLE, Int.reduceGT, Int.reduceGE, Int.reduceToNat])
      rw [← hQ, hz, hA, hB]
      exact ⟨trivial, .inl ⟨_, rfl, RepLe.refl _⟩⟩
    | false =>
      simp +contextual (maxSteps := 1000000) only [hB, go_sem, reduceCtorEq, ↓reduceIte, Nat.reduceAdd, Nat.reduceEqDiff, Nat.reduceLeDiff, Nat.reduceMul, Nat.reduceBEq, Int.reduceBEq, Int.reduceBNe, Int.reduceLT, Int.reduceLE, Int.reduceGT, Int.reduceGE, Int.reduceToNat]
      (refine CallP.pure (c4) (fun _ => rfl) ?_; simp +contextual (maxSteps := 1000000) only [go_sem, reduceCtorEq, ↓reduceIte, Nat.reduceAdd, Nat.reduceEqDiff, Nat.reduceLeDiff, Nat.reduceMul, Nat.reduceBEq, Int.reduceBEq, Int.reduceBNe, Int.reduceLT, Int.reduceLE, Int.reduceGT, Int.reduceGE, Int.reduceToNat])
      rw [← hQ, hz, hA, hB]
      exact ⟨trivial, .inl ⟨_, rfl, RepLe.refl _⟩⟩
theorem kind_cases (c : Int) : kindK c = 0 ∨ kindK c = 1 ∨ kindK c = 2 ∨ kindK c = 3 ∨ kindK c = 4 ∨ kindK c = 5 ∨ kindK c = 6 ∨ kindK c = 7 := by
  unfold kindK lookR
  repeat' split
  · simp
  · simp
  · have : (padR c).kind = 5 := by unfold padR; split <;> rfl
    rw [this]; simp
  · simp only
    unfold restR
    repeat' split
    all_goals simp
theorem final_lt (c : Int) : (lookR c).final.toNat < 128 := by
  unfold lookR
  repeat' split
  · exact letR_lt c
  · exact (by decide : (0 : UInt8).toNat < 128)
  · have h : 57399 ≤ c ∧ c ≤ 57416 := by assumption
    have key : ∀ k : Fin 18, (padR ((57399 + k.val : Nat) : Int)).final.toNat < 128 := by decide +kernel
    have := key ⟨(c - 57399).toNat, by omega⟩
    rwa [show ((57399 + (c - 57399).toNat : Nat) : Int) = c by omega] at this
  · exact (by decide : (0 : UInt8).toNat < 128)
def formL (m : Md) (k : Ky) : List UInt8 :=
  if kindK k.code = 1 then textL k else if kindK k.code = 2 then plainL m k else if kindK k.code = 3 then letterL m k (lookR k.code)
  else if kindK k.code = 4 then numberL k (lookR k.code) else if kindK k.code = 5 then padL m k (lookR k.code) else []
def legK (m : Md) (k : Ky) : List UInt8 := if (mayK k && (k.type != 3)) = true then formL m k else []
set_option maxHeartbeats 8000000 in
theorem fs_legKey {Gl : Gh → Prop} (hst : Stays Gl) {m : Md} {k : Ky} (ht : k.text.length ≤ 1000000000000) : FS Tryz.prog Gl 31 [.agg (mdAV m), .agg (kyAV k)] [] [] (.sl none 1 (bytesAV (legK m k))) [] [] := by
  refine FS.ofW hm hst is_legacyKey rfl (by simp) fun γ hγ hfr => ?_
  have hky : kyAV k = [.int .i64 k.code, .int .i64 k.mods, .int .i64 k.type, .int .i64 k.shifted, .int .i64 k.base, .str k.text] := rfl
  have hmd : mdAV m = [.bool m.cursor, .bool m.keypad, .bool m.back, .bool m.focus, .bool m.paste, .bool m.lock, .bool m.line, .int .i64 m.mouse, .int .i64 m.coding, .int .i64 m.other] := rfl
  have c1 := fs_Look (Gl := Gl) hst (c := k.code)
  rw [ent_eq] at c1
  have c2 := fs_MayK (Gl := Gl) hst ht
  rw [hky] at c2
  have hz : legK m k = if (mayK k && (k.type != 3)) = true then formL m k else [] := rfl
  have hf : formL m k = if kindK k.code = 1 then textL k else if kindK k.code = 2 then plainL m k else if kindK k.code = 3 then letterL m k (lookR k.code)
    else if kindK k.code = 4 then numberL k (lookR k.code) else if kindK k.code = 5 then padL m k (lookR k.code) else [] := rfl
  have hfin := final_lt k.code
  have hkd : (lookR k.code).kind = kindK k.code := rfl
  have hent : entAV (lookR k.code) = [.int .i64 (kindK k.code), .int .u8 ((lookR k.code).final.toNat : Int), .int .i64 (lookR k.code).num, .int .i64 (lookR k.code).char, .bool (lookR k.code).keys] := rfl
  have d1 := fun (M : MayK k) => fs_textL (Gl := Gl) hst (m := m) (k := k) (e := lookR k.code) M.m0 M.m1 ht
  have d2 := fun (M : MayK k) => fs_plainL (Gl := Gl) hst (m := m) (k := k) (e := lookR k.code) M.m0 M.m1
  have d3 := fun (M : MayK k) => fs_letterL (Gl := Gl) hst (m := m) (k := k) (e := lookR k.code) M.m1 hfin
  have d4 := fun (M : MayK k) => fs_numberL (Gl := Gl) hst (m := m) (k := k) (e := lookR k.code) M.m1
  have d5 := fun (M : MayK k) => fs_padL (Gl := Gl) hst (m := m) (k := k) (e := lookR k.code) M.m0 M.m1 ht hfin
  rw [hkd] at c1
  simp only [hmd, hky, hent] at d1 d2 d3 d4 d5
  simp only [hmd, hky]
  (generalize hQ : (fun (ex : Ex) (_ _ : Nat) (s : St) => _) = Q; unfold ir_legacyKey)
  simp +contextual (maxSteps := 1000000) only [go_sem, reduceCtorEq, ↓reduceIte, Nat.reduceAdd, Nat.reduceEqDiff, Nat.reduceLeDiff, Nat.reduceMul, Nat.reduceBEq, Int.reduceBEq, Int.reduceBNe, Int.reduceLT, Int.reduceLE, Int.reduceGT, Int.reduceGE, Int.reduceToNat]
  unfold ir_legacyKey_t1
  simp +contextual (maxSteps := 1000000) only [fe_nil, fe_int, isKey_int, go_sem, reduceCtorEq, ↓reduceIte, Nat.reduceAdd, Nat.reduceEqDiff, Nat.reduceLeDiff, Nat.reduceMul, Nat.reduceBEq, Int.reduceBEq, Int.reduceBNe, Int.reduceLT, Int.reduceLE, Int.reduceGT, Int.reduceGE, Int.reduceToNat]
  unfold ir_legacyKey_t2
  simp +contextual (maxSteps := 1000000) only [go_sem, reduceCtorEq, ↓reduceIte, Nat.reduceAdd, Nat.reduceEqDiff, Nat.reduceLeDiff, Nat.reduceMul, Nat.reduceBEq, Int.reduceBEq, Int.reduceBNe, Int.reduceLT, Int.reduceLE, Int.reduceGT, Int.reduceGE, Int.reduceToNat]
  (refine CallP.pure (c1) (fun _ => rfl) ?_; simp +contextual (maxSteps := 1000000) only [go_sem, reduceCtorEq, ↓reduceIte, Nat.reduceAdd, Nat.reduceEqDiff, Nat.reduceLeDiff, Nat.reduceMul, Nat.reduceBEq, Int.reduceBEq, Int.reduceBNe, Int.reduceLT, Int.reduceLE, Int.reduceGT, Int.reduceGE, Int.reduceToNat])
  unfold ir_legacyKey_t3
  have low : ¬ (1 ≤ kindK k.code ∧ kindK k.code ≤ 5) → legK m k = [] := fun h => by
    have : formL m k = [] := by rw [hf, if_neg (by omega), if_neg (by omega), if_neg (by omega), if_neg (by omega), if_neg (by omega)]
    rw [hz, this]
    simp
  rcases kind_cases k.code with hk | hk | hk | hk | hk | hk | hk | hk
  · simp +contextual (maxSteps := 1000000) only [hk, fe_nil, fe_int, isKey_int, go_sem, reduceCtorEq, ↓reduceIte, Nat.reduceAdd, Nat.reduceEqDiff, Nat.reduceLeDiff, Nat.reduceMul, Nat.reduceBEq, Int.reduceBEq, Int.reduceBNe, Int.reduceLT, Int.reduceLE, Int.reduceGT, Int.reduceGE, Int.reduceToNat]
    unfold ir_legacyKey_t4
    simp +contextual (maxSteps := 1000000) only [go_sem, reduceCtorEq, ↓reduceIte, Nat.reduceAdd, Nat.reduceEqDiff, Nat.reduceLeDiff, Nat.reduceMul, Nat.reduceBEq, Int.reduceBEq, Int.reduceBNe, Int.reduceLT, Int.reduceLE, Int.reduceGT, Int.reduceGE, Int.reduceToNat]
    rw [← hQ, low (by omega)]
    exact ⟨trivial, .inl ⟨_, rfl, RepLe.nils 1⟩⟩
  · have hfm : formL m k = textL k := by rw [hf]; simp only [hk]; rfl
    have nf : (mayK k && (k.type != 3)) = false → legK m k = [] := fun h => by rw [hz, h]; rfl
    simp +contextual (maxSteps := 1000000) only [hk, fe_nil, fe_int, isKey_int, go_sem, reduceCtorEq, ↓reduceIte, Nat.reduceAdd, Nat.reduceEqDiff, Nat.reduceLeDiff, Nat.reduceMul, Nat.reduceBEq, Int.reduceBEq, Int.reduceBNe, Int.reduceLT, Int.reduceLE, Int.reduceGT, Int.reduceGE, Int.reduceToNat]
    unfold ir_legacyKey_t4
    simp +contextual (maxSteps := 1000000) only [go_sem, reduceCtorEq, ↓reduceIte, Nat.reduceAdd, Nat.reduceEqDiff, Nat.reduceLeDiff, Nat.reduceMul, Nat.reduceBEq, Int.reduceBEq, Int.reduceBNe, Int.reduceLT, Int.reduceLE, Int.reduceGT, Int.reduceGE, Int.reduceToNat]
    (refine CallP.pure (c2) (fun _ => rfl) ?_; simp +contextual (maxSteps := 1000000) only [go_sem, reduceCtorEq, ↓reduceIte, Nat.reduceAdd, Nat.reduceEqDiff, Nat.reduceLeDiff, Nat.reduceMul, Nat.reduceBEq, Int.reduceBEq, Int.reduceBNe, Int.reduceLT, Int.reduceLE, Int.reduceGT, Int.reduceGE, Int.reduceToNat])
    cases hmk : mayK k with
    | false =>
      simp +contextual (maxSteps := 1000000) only [hmk, go_sem, reduceCtorEq, ↓reduceIte, Nat.reduceAdd, Nat.reduceEqDiff, Nat.reduceLeDiff, Nat.reduceMul, Nat.reduceBEq, Int.reduceBEq, Int.reduceBNe, Int.reduceLT, Int.reduceLE, Int.reduceGT, Int.reduceGE, Int.reduceToNat]
      rw [← hQ, nf (by rw [hmk]; rfl)]
      exact ⟨trivial, .inl ⟨_, rfl, RepLe.nils 1⟩⟩
    | true =>
      have M := mayK_iff.1 hmk
      cases ht3 : (k.type == 3) with
      | true =>
        simp +contextual (maxSteps := 1000000) only [hmk, ht3, go_sem, reduceCtorEq, ↓reduceIte, Nat.reduceAdd, Nat.reduceEqDiff, Nat.reduceLeDiff, Nat.reduceMul, Nat.reduceBEq, Int.reduceBEq, Int.reduceBNe, Int.reduceLT, Int.reduceLE, Int.reduceGT, Int.reduceGE, Int.reduceToNat]
        rw [← hQ, nf (by rw [hmk, bne, ht3]; rfl)]
        exact ⟨trivial, .inl ⟨_, rfl, RepLe.nils 1⟩⟩
      | false =>
        have c3 := d1 M
        rw [hk] at c3
        have hlk : legK m k = textL k := by rw [hz, hmk, bne, ht3, ← hfm]; rfl
        simp +contextual (maxSteps := 1000000) only [hmk, ht3, go_sem, reduceCtorEq, ↓reduceIte, Nat.reduceAdd, Nat.reduceEqDiff, Nat.reduceLeDiff, Nat.reduceMul, Nat.reduceBEq, Int.reduceBEq, Int.reduceBNe, Int.reduceLT, Int.reduceLE, Int.reduceGT, Int.reduceGE, Int.reduceToNat]
        unfold ir_legacyKey_t5
        simp +contextual (maxSteps := 1000000) only [go_sem, reduceCtorEq, ↓reduceIte, Nat.reduceAdd, Nat.reduceEqDiff, Nat.reduceLeDiff, Nat.reduceMul, Nat.reduceBEq, Int.reduceBEq, Int.reduceBNe, Int.reduceLT, Int.reduceLE, Int.reduceGT, Int.reduceGE, Int.reduceToNat]
        (refine CallP.pure (c3) (fun _ => rfl) ?_; simp +contextual (maxSteps := 1000000) only [go_sem, reduceCtorEq, ↓reduceIte, Nat.reduceAdd, Nat.reduceEqDiff, Nat.reduceLeDiff, Nat.reduceMul, Nat.reduceBEq, Int.reduceBEq, Int.reduceBNe, Int.reduceLT, Int.reduceLE, Int.reduceGT, Int.reduceGE, Int.reduceToNat])
        rw [← hQ, hlk]
        exact ⟨trivial, .inl ⟨_, rfl, RepLe.refl _⟩⟩
  · have hfm : formL m k = plainL m k := by rw [hf]; simp only [hk]; rfl
    have nf : (mayK k && (k.type != 3)) = false → legK m k = [] := fun h => by rw [hz, h]; rfl
    simp +contextual (maxSteps := 1000000) only [hk, fe_nil, fe_int, isKey_int, go_sem, reduceCtorEq, ↓reduceIte, Nat.reduceAdd, Nat.reduceEqDiff, Nat.reduceLeDiff, Nat.reduceMul, Nat.reduceBEq, Int.reduceBEq, Int.reduceBNe, Int.reduceLT, Int.reduceLE, Int.reduceGT, Int.reduceGE, Int.reduceToNat]
    unfold ir_legacyKey_t4
    simp +contextual (maxSteps := 1000000) only [go_sem, reduceCtorEq, ↓reduceIte, Nat.reduceAdd, Nat.reduceEqDiff, Nat.reduceLeDiff, Nat.reduceMul, Nat.reduceBEq, Int.reduceBEq, Int.reduceBNe, Int.reduceLT, Int.reduceLE, Int.reduceGT, Int.reduceGE, Int.reduceToNat]
    (refine CallP.pure (c2) (fun _ => rfl) ?_; simp +contextual (maxSteps := 1000000) only [go_sem, reduceCtorEq, ↓reduceIte, Nat.reduceAdd, Nat.reduceEqDiff, Nat.reduceLeDiff, Nat.reduceMul, Nat.reduceBEq, Int.reduceBEq, Int.reduceBNe, Int.reduceLT, Int.reduceLE, Int.reduceGT, Int.reduceGE, Int.reduceToNat])
    cases hmk : mayK k with
    | false =>
      simp +contextual (maxSteps := 1000000) only [hmk, go_sem, reduceCtorEq, ↓reduceIte, Nat.reduceAdd, Nat.reduceEqDiff, Nat.reduceLeDiff, Nat.reduceMul, Nat.reduceBEq, Int.reduceBEq, Int.reduceBNe, Int.reduceLT, Int.reduceLE, Int.reduceGT, Int.reduceGE, Int.reduceToNat]
      rw [← hQ, nf (by rw [hmk]; rfl)]
      exact ⟨trivial, .inl ⟨_, rfl, RepLe.nils 1⟩⟩
    | true =>
      have M := mayK_iff.1 hmk
      cases ht3 : (k.type == 3) with
      | true =>
        simp +contextual (maxSteps := 1000000) only [hmk, ht3, go_sem, reduceCtorEq, ↓reduceIte, Nat.reduceAdd, Nat.reduceEqDiff, Nat.reduceLeDiff, Nat.reduceMul, Nat.reduceBEq, Int.reduceBEq, Int.reduceBNe, Int.reduceLT, Int.reduceLE, Int.reduceGT, Int.reduceGE, Int.reduceToNat]
        rw [← hQ, nf (by rw [hmk, bne, ht3]; rfl)]
        exact ⟨trivial, .inl ⟨_, rfl, RepLe.nils 1⟩⟩
      | false =>
        have c3 := d2 M
        rw [hk] at c3
        have hlk : legK m k = plainL m k := by rw [hz, hmk, bne, ht3, ← hfm]; rfl
        simp +contextual (maxSteps := 1000000) only [hmk, ht3, go_sem, reduceCtorEq, ↓reduceIte, Nat.reduceAdd, Nat.reduceEqDiff, Nat.reduceLeDiff, Nat.reduceMul, Nat.reduceBEq, Int.reduceBEq, Int.reduceBNe, Int.reduceLT, Int.reduceLE, Int.reduceGT, Int.reduceGE, Int.reduceToNat]
        unfold ir_legacyKey_t5
        simp +contextual (maxSteps := 1000000) only [go_sem, reduceCtorEq, ↓reduceIte, Nat.reduceAdd, Nat.reduceEqDiff, Nat.reduceLeDiff, Nat.reduceMul, Nat.reduceBEq, Int.reduceBEq, Int.reduceBNe, Int.reduceLT, Int.reduceLE, Int.reduceGT, Int.reduceGE, Int.reduceToNat]
        (refine CallP.pure (c3) (fun _ => rfl) ?_; simp +contextual (maxSteps := 1000000) only [go_sem, reduceCtorEq, ↓reduceIte, Nat.reduceAdd, Nat.reduceEqDiff, Nat.reduceLeDiff, Nat.reduceMul, Nat.reduceBEq, Int.reduceBEq, Int.reduceBNe, Int.reduceLT, Int.reduceLE, Int.reduceGT, Int.reduceGE, Int.reduceToNat])
        rw [← hQ, hlk]
        exact ⟨trivial, .inl ⟨_, rfl, RepLe.refl _⟩⟩
  · have hfm : formL m k = letterL m k (lookR k.code) := by rw [hf]; simp only [hk]; rfl
    have nf : (mayK k && (k.type != 3)) = false → legK m k = [] := fun h => by rw [hz, h]; rfl
    simp +contextual (maxSteps := 1000000) only [hk, fe_nil, fe_int, isKey_int, go_sem, reduceCtorEq, ↓reduceIte, Nat.reduceAdd, Nat.reduceEqDiff, Nat.reduceLeDiff, Nat.reduceMul, Nat.reduceBEq, Int.reduceBEq, Int.reduceBNe, Int.reduceLT, Int.reduceLE, Int.reduceGT, Int.reduceGE, Int.reduceToNat]
    unfold ir_legacyKey_t4
    simp +contextual (maxSteps := 1000000) only [go_sem, reduceCtorEq, ↓reduceIte, Nat.reduceAdd, Nat.reduceEqDiff, Nat.reduceLeDiff, Nat.reduceMul, Nat.reduceBEq, Int.reduceBEq, Int.reduceBNe, Int.reduceLT, Int.reduceLE, Int.reduceGT, Int.reduceGE, Int.reduceToNat]
    (refine CallP.pure (c2) (fun _ => rfl) ?_; simp +contextual (maxSteps := 1000000) only [go_sem, reduceCtorEq, ↓reduceIte, Nat.reduceAdd, Nat.reduceEqDiff, Nat.reduceLeDiff, Nat.reduceMul, Nat.reduceBEq, Int.reduceBEq, Int.reduceBNe, Int.reduceLT, Int.reduceLE, Int.reduceGT, Int.reduceGE, Int.reduceToNat])
    cases hmk : mayK k with
    | false =>
      simp +contextual (maxSteps := 1000000) only [hmk, go_sem, reduceCtorEq, ↓reduceIte, Nat.reduceAdd, Nat.reduceEqDiff, Nat.reduceLeDiff, Nat.reduceMul, Nat.reduceBEq, Int.reduceBEq, Int.reduceBNe, Int.reduceLT, Int.reduceLE, Int.reduceGT, Int.reduceGE, Int.reduceToNat]
      rw [← hQ, nf (by rw [hmk]; rfl)]
      exact ⟨trivial, .inl ⟨_, rfl, RepLe.nils 1⟩⟩
    | true =>
      have M := mayK_iff.1 hmk
      cases ht3 : (k.type == 3) with
      | true =>
        simp +contextual (maxSteps := 1000000) only [hmk, ht3, go_sem, reduceCtorEq, ↓reduceIte, Nat.reduceAdd, Nat.reduceEqDiff, Nat.reduceLeDiff, Nat.reduceMul, Nat.reduceBEq, Int.reduceBEq, Int.reduceBNe, Int.reduceLT, Int.reduceLE, Int.reduceGT, Int.reduceGE, Int.reduceToNat]
        rw [← hQ, nf (by rw [hmk, bne, ht3]; rfl)]
        exact ⟨trivial, .inl ⟨_, rfl, RepLe.nils 1⟩⟩
      | false =>
        have c3 := d3 M
        rw [hk] at c3
        have hlk : legK m k = letterL m k (lookR k.code) := by rw [hz, hmk, bne, ht3, ← hfm]; rfl
        simp +contextual (maxSteps := 1000000) only [hmk, ht3, go_sem, reduceCtorEq, ↓reduceIte, Nat.reduceAdd, Nat.reduceEqDiff, Nat.reduceLeDiff, Nat.reduceMul, Nat.reduceBEq, Int.reduceBEq, Int.reduceBNe, Int.reduceLT, Int.reduceLE, Int.reduceGT, Int.reduceGE, Int.reduceToNat]
        unfold ir_legacyKey_t5
        simp +contextual (maxSteps := 1000000) only [go_sem, reduceCtorEq, ↓reduceIte, Nat.reduceAdd, Nat.reduceEqDiff, Nat.reduceLeDiff, Nat.reduceMul, Nat.reduceBEq, Int.reduceBEq, Int.reduceBNe, Int.reduceLT, Int.reduceLE, Int.reduceGT, Int.reduceGE, Int.reduceToNat]
        (refine CallP.pure (c3) (fun _ => rfl) ?_; simp +contextual (maxSteps := 1000000) only [go_sem, reduceCtorEq, ↓reduceIte, Nat.reduceAdd, Nat.reduceEqDiff, Nat.reduceLeDiff, Nat.reduceMul, Nat.reduceBEq, Int.reduceBEq, Int.reduceBNe, Int.reduceLT, Int.reduceLE, Int.reduceGT, Int.reduceGE, Int.reduceToNat])
        rw [← hQ, hlk]
        exact ⟨trivial, .inl ⟨_, rfl, RepLe.refl _⟩⟩
  · have hfm : formL m k = numberL k (lookR k.code) := by rw [hf]; simp only [hk]; rfl
    have nf : (mayK k && (k.type != 3)) = false → legK m k = [] := fun h => by rw [hz, h]; rfl
    simp +contextual (maxSteps := 1000000) only [hk, fe_nil, fe_int, isKey_int, go_sem, reduceCtorEq, ↓reduceIte, Nat.reduceAdd, Nat.reduceEqDiff, Nat.reduceLeDiff, Nat.reduceMul, Nat.reduceBEq, Int.reduceBEq, Int.reduceBNe, Int.reduceLT, Int.reduceLE, Int.reduceGT, Int.reduceGE, Int.reduceToNat]
    unfold ir_legacyKey_t4
    simp +contextual (maxSteps := 1000000) only [go_sem, reduceCtorEq, ↓reduceIte, Nat.reduceAdd, Nat.reduceEqDiff, Nat.reduceLeDiff, Nat.reduceMul, Nat.reduceBEq, Int.reduceBEq, Int.reduceBNe, Int.reduceLT, Int.reduceLE, Int.reduceGT, Int.reduceGE, Int.reduceToNat]
    (refine CallP.pure (c2) (fun _ => rfl) ?_; simp +contextual (maxSteps := 1000000) only [go_sem, reduceCtorEq, ↓reduceIte, Nat.reduceAdd, Nat.reduceEqDiff, Nat.reduceLeDiff, Nat.reduceMul, Nat.reduceBEq, Int.reduceBEq, Int.reduceBNe, Int.reduceLT, Int.reduceLE, Int.reduceGT, Int.reduceGE, Int.reduceToNat])
    cases hmk : mayK k with
    | false =>
      simp +contextual (maxSteps := 1000000) only [hmk, go_sem, reduceCtorEq, ↓reduceIte, Nat.reduceAdd, Nat.reduceEqDiff, Nat.reduceLeDiff, Nat.reduceMul, Nat.reduceBEq, Int.reduceBEq, Int.reduceBNe, Int.reduceLT, Int.reduceLE, Int.reduceGT, Int.reduceGE, Int.reduceToNat]
      rw [← hQ, nf (by rw [hmk]; rfl)]
      exact ⟨trivial, .inl ⟨_, rfl, RepLe.nils 1⟩⟩
    | true =>
      have M := mayK_iff.1 hmk
      cases ht3 : (k.type == 3) with
      | true =>
        simp +contextual (maxSteps := 1000000) only [hmk, ht3, go_sem, reduceCtorEq, ↓reduceIte, Nat.reduceAdd, Nat.reduceEqDiff, Nat.reduceLeDiff, Nat.reduceMul, Nat.reduceBEq, Int.reduceBEq, Int.reduceBNe, Int.reduceLT, Int.reduceLE, Int.reduceGT, Int.reduceGE, Int.reduceToNat]
        rw [← hQ, nf (by rw [hmk, bne, ht3]; rfl)]
        exact ⟨trivial, .inl ⟨_, rfl, RepLe.nils 1⟩⟩
      | false =>
        have c3 := d4 M
        rw [hk] at c3
        have hlk : legK m k = numberL k (lookR k.code) := by rw [hz, hmk, bne, ht3, ← hfm]; rfl
        simp +contextual (maxSteps := 1000000) only [hmk, ht3, go_sem, reduceCtorEq, ↓reduceIte, Nat.reduceAdd, Nat.reduceEqDiff, Nat.reduceLeDiff, Nat.reduceMul, Nat.reduceBEq, Int.reduceBEq, Int.reduceBNe, Int.reduceLT, Int.reduceLE, Int.reduceGT, Int.reduceGE, Int.reduceToNat]
        unfold ir_legacyKey_t5
        simp +contextual (maxSteps := 1000000) only [go_sem, reduceCtorEq, ↓reduceIte, Nat.reduceAdd, Nat.reduceEqDiff, Nat.reduceLeDiff, Nat.reduceMul, Nat.reduceBEq, Int.reduceBEq, Int.reduceBNe, Int.reduceLT, Int.reduceLE, Int.reduceGT, Int.reduceGE, Int.reduceToNat]
        (refine CallP.pure (c3) (fun _ => rfl) ?_; simp +contextual (maxSteps := 1000000) only [go_sem, reduceCtorEq, ↓reduceIte, Nat.reduceAdd, Nat.reduceEqDiff, Nat.reduceLeDiff, Nat.reduceMul, Nat.reduceBEq, Int.reduceBEq, Int.reduceBNe, Int.reduceLT, Int.reduceLE, Int.reduceGT, Int.reduceGE, Int.reduceToNat])
        rw [← hQ, hlk]
        exact ⟨trivial, .inl ⟨_, rfl, RepLe.refl _⟩⟩
  · have hfm : formL m k = padL m k (lookR k.code) := by rw [hf]; simp only [hk]; rfl
    have nf : (mayK k && (k.type != 3)) = false → legK m k = [] := fun h => by rw [hz, h]; rfl
    simp +contextual (maxSteps := 1000000) only [hk, fe_nil, fe_int, isKey_int, go_sem, reduceCtorEq, ↓reduceIte, Nat.reduceAdd, Nat.reduceEqDiff, Nat.reduceLeDiff, Nat.reduceMul, Nat.reduceBEq, Int.reduceBEq, Int.reduceBNe, Int.reduceLT, Int.reduceLE, Int.reduceGT, Int.reduceGE, Int.reduceToNat]
    unfold ir_legacyKey_t4
    simp +contextual (maxSteps := 1000000) only [go_sem, reduceCtorEq, ↓reduceIte, Nat.reduceAdd, Nat.reduceEqDiff, Nat.reduceLeDiff, Nat.reduceMul, Nat.reduceBEq, Int.reduceBEq, Int.reduceBNe, Int.reduceLT, Int.reduceLE, Int.reduceGT, Int.reduceGE, Int.reduceToNat]
    (refine CallP.pure (c2) (fun _ => rfl) ?_; simp +contextual (maxSteps := 1000000) only [go_sem, reduceCtorEq, ↓reduceIte, Nat.reduceAdd, Nat.reduceEqDiff, Nat.reduceLeDiff, Nat.reduceMul, Nat.reduceBEq, Int.reduceBEq, Int.reduceBNe, Int.reduceLT, Int.reduceLE, Int.reduceGT, Int.reduceGE, Int.reduceToNat])
    cases hmk : mayK k with
    | false =>
      simp +contextual (maxSteps := 1000000) only [hmk, go_sem, reduceCtorEq, ↓reduceIte, Nat.reduceAdd, Nat.reduceEqDiff, Nat.reduceLeDiff, Nat.reduceMul, Nat.reduceBEq, Int.reduceBEq, Int.reduceBNe, Int.reduceLT, Int.reduceLE, Int.reduceGT, Int.reduceGE, Int.reduceToNat]
      rw [← hQ, nf (by rw [hmk]; rfl)]
      exact ⟨trivial, .inl ⟨_, rfl, RepLe.nils 1⟩⟩
    | true =>
      have M := mayK_iff.1 hmk
      cases ht3 : (k.type == 3) with
      | true =>
        simp +contextual (maxSteps := 1000000) only [hmk, ht3, go_sem, reduceCtorEq, ↓reduceIte, Nat.reduceAdd, Nat.reduceEqDiff, Nat.reduceLeDiff, Nat.reduceMul, Nat.reduceBEq, Int.reduceBEq, Int.reduceBNe, Int.reduceLT, Int.reduceLE, Int.reduceGT, Int.reduceGE, Int.reduceToNat]
        rw [← hQ, nf (by rw [hmk, bne, ht3]; rfl)]
        exact ⟨trivial, .inl ⟨_, rfl, RepLe.nils 1⟩⟩
      | false =>
        have c3 := d5 M
        rw [hk] at c3
        have hlk : legK m k = padL m k (lookR k.code) := by rw [hz, hmk, bne, ht3, ← hfm]; rfl
        simp +contextual (maxSteps := 1000000) only [hmk, ht3, go_sem, reduceCtorEq, ↓reduceIte, Nat.reduceAdd, Nat.reduceEqDiff, Nat.reduceLeDiff, Nat.reduceMul, Nat.reduceBEq, Int.reduceBEq, Int.reduceBNe, Int.reduceLT, Int.reduceLE, Int.reduceGT, Int.reduceGE, Int.reduceToNat]
        unfold ir_legacyKey_t5
        simp +contextual (maxSteps := 1000000) only [go_sem, reduceCtorEq, ↓reduceIte, Nat.reduceAdd, Nat.reduceEqDiff, Nat.reduceLeDiff, Nat.reduceMul, Nat.reduceBEq, Int.reduceBEq, Int.reduceBNe, Int.reduceLT, Int.reduceLE, Int.reduceGT, Int.reduceGE, Int.reduceToNat]
        (refine CallP.pure (c3) (fun _ => rfl) ?_; simp +contextual (maxSteps := 1000000) only [go_sem, reduceCtorEq, ↓reduceIte, Nat.reduceAdd, Nat.reduceEqDiff, Nat.reduceLeDiff, Nat.reduceMul, Nat.reduceBEq, Int.reduceBEq, Int.reduceBNe, Int.reduceLT, Int.reduceLE, Int.reduceGT, Int.reduceGE, Int.reduceToNat])
        rw [← hQ, hlk]
        exact ⟨trivial, .inl ⟨_, rfl, RepLe.refl _⟩⟩
  · simp +contextual (maxSteps := 1000000) only [hk, fe_nil, fe_int, isKey_int, go_sem, reduceCtorEq, ↓reduceIte, Nat.reduceAdd, Nat.reduceEqDiff, Nat.reduceLeDiff, Nat.reduceMul, Nat.reduceBEq, Int.reduceBEq, Int.reduceBNe, Int.reduceLT, Int.reduceLE, Int.reduceGT, Int.reduceGE, Int.reduceToNat]
    unfold ir_legacyKey_t4
    simp +contextual (maxSteps := 1000000) only [go_sem, reduceCtorEq, ↓reduceIte, Nat.reduceAdd, Nat.reduceEqDiff, Nat.reduceLeDiff, Nat.reduceMul, Nat.reduceBEq, Int.reduceBEq, Int.reduceBNe, Int.reduceLT, Int.reduceLE, Int.reduceGT, Int.reduceGE, Int.reduceToNat]
    rw [← hQ, low (by omega)]
    exact ⟨trivial, .inl ⟨_, rfl, RepLe.nils 1⟩⟩
  · simp +contextual (maxSteps := 1000000) only [hk, fe_nil, fe_int, isKey_int, go_sem, reduceCtorEq, ↓reduceIte, Nat.reduceAdd, Nat.reduceEqDiff, Nat.reduceLeDiff, Nat.reduceMul, Nat.reduceBEq, Int.reduceBEq, Int.reduceBNe, Int.reduceLT, Int.reduceLE, Int.reduceGT, Int.reduceGE, Int.reduceToNat]
    unfold ir_legacyKey_t4
    simp +contextual (maxSteps := 1000000) only [go_sem, reduceCtorEq, ↓reduceIte, Nat.reduceAdd, Nat.reduceEqDiff, Nat.reduceLeDiff, Nat.reduceMul, Nat.reduceBEq, Int.reduceBEq, Int.reduceBNe, Int.reduceLT, Int.reduceLE, Int.reduceGT, Int.reduceGE, Int.reduceToNat]
    rw [← hQ, low (by omega)]
    exact ⟨trivial, .inl ⟨_, rfl, RepLe.nils 1⟩⟩
end Go.Proofs.YtjankibepgnbfaaGreatDoor

namespace Go.Proofs.YtjankibepgnbfaaGreatDoor
open Go Go.Ab

structure MayF (s : Sq) : Prop where
  pr : s.pr = 0 ∨ 60 ≤ s.pr ∧ s.pr ≤ 63
  il : s.it.length ≤ 2
  it : ∀ c ∈ s.it, 32 ≤ c.toNat ∧ c.toNat < 48
  ps : parsOk s.ps = true
  dl : s.da.length ≤ 4096
  da : ∀ c ∈ s.da, 32 ≤ c.toNat ∧ c.toNat < 127
  sh : shapedP s = true
theorem mayF {s : Sq} (h : mayP s = 0) : MayF s := by
  simp only [mayP] at h
  split at h
  · cases h
  rename_i h1
  split at h
  · cases h
  rename_i h2
  simp only [Bool.or_eq_true, Bool.not_eq_true', not_or, Bool.not_eq_false, Bool.and_eq_true, decide_eq_true_eq, beq_iff_eq] at h2 h1
  obtain ⟨⟨⟨⟨h3, h4⟩, h5⟩, h6⟩, h7⟩ := h2
  refine ⟨by omega, by omega, fun c hc => ?_, h5, by omega, fun c hc => ?_, h7⟩
  · have := List.all_eq_true.1 h4.2 c hc
    simp only [Bool.and_eq_true, decide_eq_true_eq] at this; omega
  · have := List.all_eq_true.1 h6 c hc
    simp only [Bool.and_eq_true, decide_eq_true_eq] at this; omega

def runL (x y : Nat) (l : List UInt8) : List UInt8 := l.takeWhile fun c => decide (x ≤ c.toNat) && decide (c.toNat ≤ y)
theorem runL_nil {x y : Nat} {r : List UInt8} (h : ∀ c, r.head? = some c → ¬(x ≤ c.toNat ∧ c.toNat ≤ y)) : runL x y r = [] := by
  cases r with
  | nil => rfl
  | cons c r =>
    have := h c rfl
    unfold runL
    rw [List.takeWhile_cons, if_neg]
    simpa using this
theorem runL_app {x y : Nat} : ∀ {a r : List UInt8}, (∀ c ∈ a, x ≤ c.toNat ∧ c.toNat ≤ y) → (∀ c, r.head? = some c → ¬(x ≤ c.toNat ∧ c.toNat ≤ y)) → runL x y (a ++ r) = a
  | [], r, _, h => runL_nil h
  | c :: a, r, ha, h => by
    have := ha c (by simp)
    unfold runL
    rw [List.cons_append, List.takeWhile_cons, if_pos (by simpa using this)]
    congr 1
    exact runL_app (fun d hd => ha d (by simp [hd])) h
theorem runL_le (x y : Nat) (l : List UInt8) : (runL x y l).length ≤ l.length := by
  unfold runL
  exact (List.takeWhile_prefix _).length_le
def numW (t : List UInt8) : Int := if t = [] then -1 else ((takeN t 0 0).1 : Int)
def subsW (p : List UInt8) : List Int := (splitB 58 p).map numW
def numsW (t : List UInt8) : List (List Int) := if t = [] then [] else (splitB 59 t).map subsW
theorem numW_text {n : Int} (h1 : -1 ≤ n) (h2 : n ≤ 1114111) : numW (textZ n) = n := by
  unfold textZ
  split
  · have : n = -1 := by omega
    subst this; rfl
  · have := takeN_dec n.toNat [] 0 (by omega)
    rw [List.append_nil] at this
    unfold numW
    rw [if_neg (decB_ne _), this]
    simp only [takeN]
    omega
theorem subsW_text {p : List Int} (hp : p ≠ []) (h : ∀ n ∈ p, -1 ≤ n ∧ n ≤ 1114111) : subsW (subText p) = p := by
  unfold subsW subText
  rw [splitB_jn (by simpa using hp)]
  · rw [List.map_map]
    conv => rhs; rw [← List.map_id p]
    exact List.map_congr_left fun n hn => numW_text (h n hn).1 (h n hn).2
  · intro x hx hc
    obtain ⟨n, _, rfl⟩ := List.mem_map.1 hx
    exact fig_not (textZ_figs n _ hc) (by decide) rfl
theorem numsW_text {ps : List (List Int)} (h : parsOk ps = true) : numsW (parsText ps) = ps := by
  obtain ⟨a, b, c⟩ := parsOk_iff h
  have d : ∀ p ∈ ps, p ≠ [] ∧ ∀ n ∈ p, -1 ≤ n := fun p hp => ⟨(c p hp).1, fun n hn => ((c p hp).2.2 n hn).1⟩
  unfold numsW
  split
  · rename_i e
    rcases (parsText_nil d).1 e with e | e
    · exact e.symm
    · exact absurd e b
  · rename_i e
    have hne : ps ≠ [] := fun e' => e (by rw [e']; rfl)
    unfold parsText
    rw [splitB_jn (by simpa using hne)]
    · rw [List.map_map]
      conv => rhs; rw [← List.map_id ps]
      exact List.map_congr_left fun p hq => subsW_text (c p hq).1 (c p hq).2.2
    · intro x hx hc
      obtain ⟨p, _, rfl⟩ := List.mem_map.1 hx
      rcases subText_mem hc with h | h
      · cases h
      · cases h
def isPr (c : UInt8) : Bool := decide (60 ≤ c.toNat) && decide (c.toNat ≤ 63)
def headW (l : List UInt8) : Int × List (List Int) × Nat :=
  let k := if isPr (l.headD 0) = true then 1 else 0
  let t := runL 48 59 (l.drop k)
  (if isPr (l.headD 0) = true then ((l.headD 0).toNat : Int) else 0, numsW t, k + t.length)
def restW (l : List UInt8) : List UInt8 × Int × Nat :=
  let it := runL 32 47 l
  (it, (((l.drop it.length).headD 0).toNat : Int), it.length + 1)
def zeroSq : Sq := ⟨0, 0, [], [], 0, []⟩
def readW (b : List UInt8) : Sq × Nat :=
  if b.headD 0 ≠ 27 then (zeroSq, 1)
  else
    let l := b.drop 1
    if l.headD 0 = 91 then
      let h := headW (b.drop 2)
      let r := restW (b.drop (2 + h.2.2))
      (⟨1, h.1, h.2.1, r.1, r.2.1, []⟩, 2 + h.2.2 + r.2.2)
    else if l.headD 0 = 79 then (⟨2, 0, [], [], ((b.drop 2).headD 0).toNat, []⟩, 3)
    else if l.headD 0 = 80 then
      let h := headW (b.drop 2)
      let r := restW (b.drop (2 + h.2.2))
      let d := runL 32 126 (b.drop (2 + h.2.2 + r.2.2))
      (⟨3, h.1, h.2.1, r.1, r.2.1, d⟩, 2 + h.2.2 + r.2.2 + d.length + 2)
    else if l.headD 0 = 93 then
      let d := runL 32 126 (b.drop 2)
      (⟨4, 0, [], [], 0, d⟩, 2 + d.length + 2)
    else
      let r := restW l
      (⟨5, 0, [], r.1, r.2.1, []⟩, 1 + r.2.2)
theorem head_app {a r : List UInt8} {c : UInt8} (h : (a ++ r).head? = some c) : c ∈ a ∨ (a = [] ∧ r.head? = some c) := by
  cases a with
  | nil => exact .inr ⟨rfl, h⟩
  | cons x a => simp at h; subst h; exact .inl (by simp)
theorem headW_put {s : Sq} (h : MayF s) {f : UInt8} {r : List UInt8} (hf : 64 ≤ f.toNat) : headW (bodyB s ++ f :: r) = (s.pr, s.ps, (prB s.pr).length + (parsText s.ps).length) := by
  have hp : ∀ c ∈ parsText s.ps, 48 ≤ c.toNat ∧ c.toNat ≤ 59 := fun c hc => by have := parsText_mem hc; omega
  have hi : ∀ c, (s.it ++ f :: r).head? = some c → ¬(48 ≤ c.toNat ∧ c.toNat ≤ 59) ∧ ¬(60 ≤ c.toNat ∧ c.toNat ≤ 63) := fun c hc => by
    rcases head_app hc with h1 | ⟨_, h1⟩
    · have := h.it c h1; omega
    · simp at h1; subst h1; omega
  have hrun : runL 48 59 (parsText s.ps ++ (s.it ++ f :: r)) = parsText s.ps := runL_app hp fun c hc => (hi c hc).1
  have hnum := numsW_text h.ps
  unfold bodyB
  rw [List.append_assoc, List.append_assoc]
  rcases h.pr with h0 | ⟨h1, h2⟩
  · have hb : prB s.pr = [] := by rw [h0]; rfl
    have hpr : isPr ((parsText s.ps ++ (s.it ++ f :: r)).headD 0) = false := by
      cases hh : (parsText s.ps ++ (s.it ++ f :: r)).head? with
      | none => rw [List.headD_eq_head?_getD, hh]; rfl
      | some c =>
        rw [List.headD_eq_head?_getD, hh, Option.getD_some]
        unfold isPr
        rw [Bool.and_eq_false_iff, decide_eq_false_iff_not, decide_eq_false_iff_not]
        rcases head_app hh with h3 | ⟨_, h3⟩
        · have := hp c h3; omega
        · have := (hi c h3).2; omega
    rw [hb, List.nil_append]
    unfold headW
    rw [hpr]
    simp only [Bool.false_eq_true, if_false, List.drop_zero, hrun, hnum, h0, List.length_nil]
  · have hne : (s.pr != 0) = true := by rw [bne_iff_ne]; omega
    have hb : prB s.pr = [s.pr.toNat.toUInt8] := by unfold prB; rw [if_pos hne]
    have hc : (s.pr.toNat.toUInt8).toNat = s.pr.toNat := by
      rw [Nat.toUInt8_eq, UInt8.toNat_ofNat', Nat.mod_eq_of_lt (by omega)]
    have hpr : isPr (s.pr.toNat.toUInt8) = true := by
      unfold isPr
      rw [hc, Bool.and_eq_true, decide_eq_true_eq, decide_eq_true_eq]; omega
    rw [hb]
    unfold headW
    simp only [List.cons_append, List.nil_append, List.headD_cons, hpr, if_true, List.drop_succ_cons, List.drop_zero, hrun, hnum, hc, List.length_cons, List.length_nil]
    rw [show ((s.pr.toNat : Nat) : Int) = s.pr by omega]
theorem restW_put {it : List UInt8} (hit : ∀ c ∈ it, 32 ≤ c.toNat ∧ c.toNat < 48) {f : UInt8} {r : List UInt8} (hf : 48 ≤ f.toNat) : restW (it ++ f :: r) = (it, (f.toNat : Int), it.length + 1) := by
  have hrun : runL 32 47 (it ++ f :: r) = it := runL_app (fun c hc => by have := hit c hc; omega) fun c hc => by simp at hc; subst hc; omega
  unfold restW
  simp only [hrun, List.drop_left, List.headD_cons]
theorem body_len (s : Sq) : (bodyB s).length = (prB s.pr).length + (parsText s.ps).length + s.it.length := by
  unfold bodyB; simp only [List.length_append]
theorem readW_put {s : Sq} (hm : mayP s = 0) (more : List UInt8) : readW (putB s ++ more) = (s, (putB s).length) := by
  have h := mayF hm
  have hsh := h.sh
  have hbl := body_len s
  have fin : 0 ≤ s.fi → s.fi ≤ 126 → ((s.fi.toNat.toUInt8).toNat : Int) = s.fi ∧ (s.fi.toNat.toUInt8).toNat = s.fi.toNat := fun h0 h1 => by
    have : (s.fi.toNat.toUInt8).toNat = s.fi.toNat := by rw [Nat.toUInt8_eq, UInt8.toNat_ofNat', Nat.mod_eq_of_lt (by omega)]
    exact ⟨by rw [this]; omega, this⟩
  have hdr : ∀ (a b : List UInt8), a.length = (prB s.pr).length + (parsText s.ps).length → a ++ b = b → True := fun _ _ _ _ => trivial
  have hbody : ∀ t : List UInt8, (bodyB s ++ t).drop ((prB s.pr).length + (parsText s.ps).length) = s.it ++ t := fun t => by
    unfold bodyB
    rw [List.append_assoc, ← List.length_append]
    exact List.drop_left
  unfold shapedP at hsh
  split at hsh
  · rename_i hk
    simp only [Bool.and_eq_true, decide_eq_true_eq] at hsh
    obtain ⟨⟨hda, hf1⟩, hf2⟩ := hsh
    obtain ⟨e1, e2⟩ := fin (by omega) hf2
    have hput : putB s = [27, 91] ++ bodyB s ++ [s.fi.toNat.toUInt8] := by unfold putB; rw [if_pos (by rw [hk]; rfl)]
    rw [hput]
    have hH := headW_put h (f := s.fi.toNat.toUInt8) (r := more) (by omega)
    have hR := restW_put h.it (f := s.fi.toNat.toUInt8) (r := more) (by omega)
    have hd : ([27, 91] ++ bodyB s ++ [s.fi.toNat.toUInt8] ++ more).drop 2 = bodyB s ++ s.fi.toNat.toUInt8 :: more := by simp
    have hd2 : ([27, 91] ++ bodyB s ++ [s.fi.toNat.toUInt8] ++ more).drop (2 + ((prB s.pr).length + (parsText s.ps).length)) = s.it ++ s.fi.toNat.toUInt8 :: more := by
      rw [← List.drop_drop, hd, hbody]
    unfold readW
    rw [if_neg (by simp)]
    simp only
    rw [if_pos (by simp), hd, hH]
    simp only
    rw [hd2, hR]
    simp only [e1, Prod.mk.injEq]
    refine ⟨?_, ?_⟩
    · obtain ⟨k, pr, ps, it, fi, da⟩ := s
      simp only at hk hda ⊢
      subst hk hda; rfl
    · simp only [List.length_append, List.length_cons, List.length_nil]; omega
  · rename_i hk1
    split at hsh
    · rename_i hk
      simp only [Bool.and_eq_true, decide_eq_true_eq] at hsh
      obtain ⟨hf1, hf2⟩ := hsh
      obtain ⟨e1, e2⟩ := fin (by omega) hf2
      have hput : putB s = [27, 80] ++ bodyB s ++ [s.fi.toNat.toUInt8] ++ s.da ++ [27, 92] := by unfold putB; rw [hk]; rfl
      rw [hput]
      have hH := headW_put h (f := s.fi.toNat.toUInt8) (r := s.da ++ [27, 92] ++ more) (by omega)
      have hR := restW_put h.it (f := s.fi.toNat.toUInt8) (r := s.da ++ [27, 92] ++ more) (by omega)
      have hD : runL 32 126 (s.da ++ ([27, 92] ++ more)) = s.da := runL_app (fun c hc => by have := h.da c hc; omega) fun c hc => by simp at hc; subst hc; decide
      have hd : ([27, 80] ++ bodyB s ++ [s.fi.toNat.toUInt8] ++ s.da ++ [27, 92] ++ more).drop 2 = bodyB s ++ s.fi.toNat.toUInt8 :: (s.da ++ [27, 92] ++ more) := by simp
      have hd2 : ([27, 80] ++ bodyB s ++ [s.fi.toNat.toUInt8] ++ s.da ++ [27, 92] ++ more).drop (2 + ((prB s.pr).length + (parsText s.ps).length)) = s.it ++ s.fi.toNat.toUInt8 :: (s.da ++ [27, 92] ++ more) := by
        rw [← List.drop_drop, hd, hbody]
      have hd3 : ([27, 80] ++ bodyB s ++ [s.fi.toNat.toUInt8] ++ s.da ++ [27, 92] ++ more).drop (2 + ((prB s.pr).length + (parsText s.ps).length) + (s.it.length + 1)) = s.da ++ ([27, 92] ++ more) := by
        rw [← List.drop_drop, hd2, ← List.drop_drop, List.drop_left]
        simp
      unfold readW
      rw [if_neg (by simp)]
      simp only
      rw [if_neg (by simp), if_neg (by simp), if_pos (by simp), hd, hH]
      simp only
      rw [hd2, hR]
      simp only
      rw [hd3, hD]
      simp only [e1, Prod.mk.injEq]
      refine ⟨?_, ?_⟩
      · obtain ⟨k, pr, ps, it, fi, da⟩ := s
        simp only at hk ⊢
        subst hk; rfl
      · simp only [List.length_append, List.length_cons, List.length_nil]; omega
    · rename_i hk3
      split at hsh
      · rename_i hk
        simp only [Bool.and_eq_true, decide_eq_true_eq, beq_iff_eq] at hsh
        obtain ⟨⟨⟨⟨⟨hpr, hps⟩, hit⟩, hda⟩, hf1⟩, hf2⟩ := hsh
        obtain ⟨e1, e2⟩ := fin (by omega) hf2
        have hput : putB s = [27, 79] ++ [s.fi.toNat.toUInt8] := by unfold putB; rw [hk]; rfl
        rw [hput]
        unfold readW
        rw [if_neg (by simp)]
        simp only
        rw [if_neg (by simp), if_pos (by simp)]
        simp only [Prod.mk.injEq]
        refine ⟨?_, by simp⟩
        have hps' : s.ps = [] := List.length_eq_zero_iff.1 (by omega)
        obtain ⟨k, pr, ps, it, fi, da⟩ := s
        simp only at hk hpr hps' hit hda e1 ⊢
        subst hk hpr hps' hit hda
        simp only [List.cons_append, List.nil_append, List.drop_succ_cons, List.drop_zero, List.headD_cons, e1]
      · rename_i hk2
        split at hsh
        · rename_i hk
          simp only [Bool.and_eq_true, decide_eq_true_eq, beq_iff_eq] at hsh
          obtain ⟨⟨⟨hpr, hps⟩, hit⟩, hf⟩ := hsh
          have hput : putB s = [27, 93] ++ s.da ++ [27, 92] := by unfold putB; rw [hk]; rfl
          have hD : runL 32 126 (s.da ++ ([27, 92] ++ more)) = s.da := runL_app (fun c hc => by have := h.da c hc; omega) fun c hc => by simp at hc; subst hc; decide
          have hd : ([27, 93] ++ s.da ++ [27, 92] ++ more).drop 2 = s.da ++ ([27, 92] ++ more) := by simp
          rw [hput]
          unfold readW
          rw [if_neg (by simp)]
          simp only
          rw [if_neg (by simp), if_neg (by simp), if_neg (by simp), if_pos (by simp), hd, hD]
          simp only [Prod.mk.injEq]
          refine ⟨?_, by simp; omega⟩
          have hps' : s.ps = [] := List.length_eq_zero_iff.1 (by omega)
          obtain ⟨k, pr, ps, it, fi, da⟩ := s
          simp only at hk hpr hps' hit hf ⊢
          subst hk hpr hps' hit hf
          rfl
        · rename_i hk4
          split at hsh
          · rename_i hk
            simp only [Bool.and_eq_true, decide_eq_true_eq, beq_iff_eq, Bool.or_eq_true, Bool.not_eq_true', decide_eq_false_iff_not] at hsh
            obtain ⟨⟨⟨⟨⟨hpr, hps⟩, hda⟩, hor⟩, hf1⟩, hf2⟩ := hsh
            obtain ⟨e1, e2⟩ := fin (by omega) hf2
            have hput : putB s = [27] ++ s.it ++ [s.fi.toNat.toUInt8] := by unfold putB; rw [hk]; rfl
            have hR := restW_put h.it (f := s.fi.toNat.toUInt8) (r := more) (by omega)
            have hd : ([27] ++ s.it ++ [s.fi.toNat.toUInt8] ++ more).drop 1 = s.it ++ s.fi.toNat.toUInt8 :: more := by simp
            have hne : ∀ x : UInt8, x ∈ ([79, 80, 91, 93] : List UInt8) → (s.it ++ s.fi.toNat.toUInt8 :: more).headD 0 ≠ x := by
              intro x hx e
              cases hit : s.it with
              | nil =>
                rw [hit] at e
                simp only [List.nil_append, List.headD_cons] at e
                rcases hor with h1 | h1
                · exact h1 hit
                · rw [e] at h1
                  revert h1 hx
                  simp only [List.mem_cons, List.not_mem_nil, or_false]
                  rintro (rfl | rfl | rfl | rfl) h1 <;> revert h1 <;> decide
              | cons c t =>
                rw [hit] at e
                simp only [List.cons_append, List.headD_cons] at e
                have := h.it c (by rw [hit]; simp)
                subst e
                simp only [List.mem_cons, List.not_mem_nil, or_false] at hx
                rcases hx with rfl | rfl | rfl | rfl <;> revert this <;> decide
            rw [hput]
            unfold readW
            rw [if_neg (by simp)]
            simp only
            rw [hd, if_neg (hne 91 (by simp)), if_neg (hne 79 (by simp)), if_neg (hne 80 (by simp)), if_neg (hne 93 (by simp)), hR]
            simp only [e1, Prod.mk.injEq]
            refine ⟨?_, ?_⟩
            · have hps' : s.ps = [] := List.length_eq_zero_iff.1 (by omega)
              obtain ⟨k, pr, ps, it, fi, da⟩ := s
              simp only at hk hpr hps' hda ⊢
              subst hk hpr hps' hda; rfl
            · simp only [List.length_append, List.length_cons, List.length_nil]; omega
          · cases hsh
def takeW (b : List UInt8) : Option (Sq × Nat) :=
  let r := readW b
  if mayP r.1 = 0 ∧ putB r.1 <+: b ∧ (putB r.1).length = r.2 then some r else none
theorem takeW_put {s : Sq} (hm : mayP s = 0) (more : List UInt8) : takeW (putB s ++ more) = some (s, (putB s).length) := by
  unfold takeW
  rw [readW_put hm]
  exact if_pos ⟨hm, List.prefix_append _ _, rfl⟩
theorem takeW_iff {b : List UInt8} {s : Sq} {n : Nat} : takeW b = some (s, n) ↔ mayP s = 0 ∧ putB s <+: b ∧ (putB s).length = n := by
  constructor
  · intro h
    unfold takeW at h
    simp only at h
    split at h
    · rename_i hh
      cases e : readW b with
      | mk s' n' =>
        rw [e] at h hh
        cases h
        exact hh
    · cases h
  · rintro ⟨h1, ⟨r, rfl⟩, rfl⟩
    exact takeW_put h1 r
end Go.Proofs.YtjankibepgnbfaaGreatDoor

namespace Go.Proofs.YtjankibepgnbfaaGreatDoor
open Go Go.Ab
def ir_wirecursorpeek : ICode :=
 (.seq
 (.reg [qA 2 (.mov (.c (.int .u8 0)))] (some [0]))
 (.seq
 (.seq
 (.drw [⟨qM 3 0, []⟩,
 ⟨qA 4 (.nck (.t 3)), [0]⟩,
 ⟨qF 5 1 4, [1]⟩,
 ⟨qL 6 5, [2]⟩,
 ⟨qM 7 0, []⟩,
 ⟨qA 8 (.nck (.t 7)), [4]⟩,
 ⟨qF 9 0 8, [5]⟩,
 ⟨qL 10 9, [6]⟩,
 ⟨qA 11 (.len (.t 10)), [7]⟩,
 ⟨qA 12 (.bin .geq .none (.t 6) (.t 11)), [3,8]⟩]
 [] (some [0,12]))
 (.cond (.t 12)
 (.seq
 (.reg [qA 2 (.mov (.c (.int .u8 0)))] (some [2]))
 .ret)
 .skip))
 (.seq
 (.drw [⟨qM 13 0, []⟩,
 ⟨qA 14 (.nck (.t 13)), [0]⟩,
 ⟨qF 15 0 14, [1]⟩,
 ⟨qL 16 15, [2]⟩,
 ⟨qM 17 0, []⟩,
 ⟨qA 18 (.nck (.t 17)), [4]⟩,
 ⟨qF 19 1 18, [5]⟩,
 ⟨qL 20 19, [6]⟩,
 ⟨qA 21 (.ia 1 (.t 16) (.t 20)), [3,7]⟩,
 ⟨qL 22 21, [8]⟩]
 [qM 2 22] (some [2]))
 .ret)))
theorem is_wirecursorpeek : IrOf Tryz.prog 183 23 ir_wirecursorpeek [.t 2] := ⟨_, Tryz.func183, rfl, by kernel_rfl, by kernel_rfl, by kernel_rfl⟩

def ir_wirecursornext : ICode :=
 (.seq
 (.reg [qA 2 (.mov (.c (.int .u8 0)))] (some [0]))
 (.seq
 (.reg [qM 4 0,
 qA 5 (.call (qC 183) [(.t 4)]),
 qM 3 5] (some [0,3]))
 (.seq
 (.reg [qM 6 0,
 qA 7 (.nck (.t 6)),
 qF 8 1 7,
 qL 9 8,
 qA 10 (.bin .add .none (.t 9) (qI 1)),
 qA 11 (.nck (.t 6)),
 qF 12 1 11,
 qN (.st 1 (.t 12) (.t 10))] (some [3]))
 (.seq
 (.reg [qM 13 3,
 qM 2 13] (some [2]))
 .ret))))
theorem is_wirecursornext : IrOf Tryz.prog 182 14 ir_wirecursornext [.t 2] := ⟨_, Tryz.func182, rfl, by kernel_rfl, by kernel_rfl, by kernel_rfl⟩

/- (*clavier/wire.cursor).run -/
def ir_wirecursorrun_l0 : ICode :=
 (.seq
 (.seq
 (.drw [⟨qM 12 0, []⟩,
 ⟨qA 13 (.nck (.t 12)), [0]⟩,
 ⟨qF 14 1 13, [1]⟩,
 ⟨qL 15 14, [2]⟩,
 ⟨qM 16 0, []⟩,
 ⟨qA 17 (.nck (.t 16)), [4]⟩,
 ⟨qF 18 0 17, [5]⟩,
 ⟨qL 19 18, [6]⟩,
 ⟨qA 20 (.len (.t 19)), [7]⟩,
 ⟨qA 21 (.bin .lss .none (.t 15) (.t 20)), [3,8]⟩,
 ⟨qM 22 21, [9]⟩,
 ⟨qG 23 22 true (.mov (.t 0)), [10]⟩,
 ⟨qG 24 22 true (.nck (.t 23)), [11,10]⟩,
 ⟨qG 25 22 true (.fa 0 (.t 24)), [12,10]⟩,
 ⟨qG 26 22 true (.ld none (.t 25)), [13,10]⟩,
 ⟨qG 27 22 true (.mov (.t 0)), [10]⟩,
 ⟨qG 28 22 true (.nck (.t 27)), [15,10]⟩,
 ⟨qG 29 22 true (.fa 1 (.t 28)), [16,10]⟩,
 ⟨qG 30 22 true (.ld none (.t 29)), [17,10]⟩,
 ⟨qG 31 22 true (.ia 1 (.t 26) (.t 30)), [14,18,10]⟩,
 ⟨qG 32 22 true (.ld none (.t 31)), [19,10]⟩,
 ⟨qG 33 22 true (.mov (.t 1)), [10]⟩,
 ⟨qG 34 22 true (.bin .geq .none (.t 32) (.t 33)), [20,21,10]⟩,
 ⟨qA 35 (.pick (.t 22) (.t 34) (qB false)), [10,22]⟩,
 ⟨qM 36 35, [23,10]⟩,
 ⟨qG 37 36 true (.mov (.t 0)), [24]⟩,
 ⟨qG 38 36 true (.nck (.t 37)), [25,24]⟩,
 ⟨qG 39 36 true (.fa 0 (.t 38)), [26,24]⟩,
 ⟨qG 40 36 true (.ld none (.t 39)), [27,24]⟩,
 ⟨qG 41 36 true (.mov (.t 0)), [24]⟩,
 ⟨qG 42 36 true (.nck (.t 41)), [29,24]⟩,
 ⟨qG 43 36 true (.fa 1 (.t 42)), [30,24]⟩,
 ⟨qG 44 36 true (.ld none (.t 43)), [31,24]⟩,
 ⟨qG 45 36 true (.ia 1 (.t 40) (.t 44)), [28,32,24]⟩,
 ⟨qG 46 36 true (.ld none (.t 45)), [33,24]⟩,
 ⟨qG 47 36 true (.mov (.t 2)), [24]⟩,
 ⟨qG 48 36 true (.bin .leq .none (.t 46) (.t 47)), [34,35,24]⟩,
 ⟨qA 49 (.pick (.t 36) (.t 48) (qB false)), [24,36]⟩]
 [] (some [0,1,2,7,49]))
 (.cond (.t 49)
 .skip
 (.exit 0)))
 (.blk 1
 (.reg [qM 50 0,
 qA 51 (.nck (.t 50)),
 qF 52 1 51,
 qL 53 52,
 qA 54 (.bin .add .none (.t 53) (qI 1)),
 qA 55 (.nck (.t 50)),
 qF 56 1 55,
 qN (.st 1 (.t 56) (.t 54))] (some [0,1,2,7]))))
def ir_wirecursorrun : ICode :=
 (.seq
 (.reg [qA 6 (.mov (.c (.str [])))] (some [0,1,2]))
 (.seq
 (.reg [qM 8 0,
 qA 9 (.nck (.t 8)),
 qF 10 1 9,
 qL 11 10,
 qM 7 11] (some [0,1,2,7]))
 (.seq
 (.blk 0
 (.loop
 ir_wirecursorrun_l0))
 (.seq
 (.drw [⟨qM 57 0, []⟩,
 ⟨qA 58 (.nck (.t 57)), [0]⟩,
 ⟨qF 59 0 58, [1]⟩,
 ⟨qL 60 59, [2]⟩,
 ⟨qM 61 7, []⟩,
 ⟨qM 62 0, []⟩,
 ⟨qA 63 (.nck (.t 62)), [5]⟩,
 ⟨qF 64 1 63, [6]⟩,
 ⟨qL 65 64, [7]⟩,
 ⟨qA 66 (.sll 1 (.t 60) (some (.t 61)) (some (.t 65)) none), [3,4,8]⟩,
 ⟨qA 67 (.b2s (.t 66)), [9]⟩]
 [qM 6 67] (some [6]))
 .ret))))
theorem is_wirecursorrun : IrOf Tryz.prog 186 68 ir_wirecursorrun [.t 6] := ⟨_, Tryz.func186, rfl, by kernel_rfl, by kernel_rfl, by kernel_rfl⟩

def pw (ps : List (List Int)) : AV := match ps with
  | [] => .nils
  | p :: l => parsV (p :: l)
theorem pw_le (ps : List (List Int)) : RepLe (pw ps) (parsV ps) := by
  cases ps with
  | nil => exact RepLe.nils 1
  | cons p l => exact RepLe.refl _
theorem pw_one (ps : List (List Int)) : (pw ps).one = true := by cases ps <;> rfl
theorem pw_cells (ps : List (List Int)) : (pw ps).cells = [pw ps] := by cases ps <;> rfl
theorem pw_rn {f : Nat → Nm} (ps : List (List Int)) : Ab.rn f (pw ps) = pw ps := by cases ps <;> rfl
theorem pw_ok {m : Nat} {L T : List Nm} (ps : List (List Int)) : (pw ps).okIn m L T := by cases ps <;> trivial
def rdC (b : List UInt8) (n : Nat) (s : Sq) : List AV := [.sl none 1 (bytesAV b), .int .i64 n, .int .i64 s.k, .int .u8 s.pr, pw s.ps, .str s.it, .int .u8 s.fi, .str s.da]
theorem rdC_rn {f : Nat → Nm} {b : List UInt8} {n : Nat} {s : Sq} : rnHB f (.cells (rdC b n s)) = .cells (rdC b n s) := by
  simp only [rnHB, rdC, rnL, Ab.rn, pw_rn]
theorem rdC_ok {m : Nat} {L T : List Nm} {b : List UInt8} {n : Nat} {s : Sq} : HB.okIn m L T (.cells (rdC b n s)) :=
  ⟨trivial, trivial, trivial, trivial, pw_ok _, trivial, trivial, trivial, trivial⟩
theorem nm_real {f : Nat → Nm} {n : Nm} (h : 1 ≤ n.1) : rnN f n = n := by unfold rnN; rw [if_neg]; omega
theorem nm_ok {m : Nat} {L : List Nm} {n : Nm} (h : 1 ≤ n.1) (hL : n ∈ L) : nmOK m L n := by unfold nmOK; rw [if_neg (by omega)]; exact hL
theorem Ret.rd {rs : List IRes} {p : Nm} {hb : HB} {y : AV} {b : List UInt8} {n : Nat} {s : Sq} {γ : Nat} {st : St} (h : resOf st rs = some y) (hy : y.flatT = true) (hp : 1 ≤ p.1) (hH : (p, .cells (rdC b n s)) ∈ st.H) : Ret rs [(p, hb)] [] y [(p, .cells (rdC b n s))] [] γ st := by
  refine Ret.plain h (flatT_rn hy) (fun q hq => ?_) (by simp) (flatT_ok hy) (fun q hq => ?_) (by simp)
  · simp only [List.mem_singleton] at hq; subst hq
    exact ⟨hH, nm_real hp, rdC_rn⟩
  · simp only [List.mem_singleton] at hq; subst hq
    exact ⟨nm_ok hp (by simp), rdC_ok⟩
theorem CallP.rd {Gl : Gh → Prop} {k : FuncId} {args : List AV} {p : Nm} {Ha : Hp} {b : List UInt8} {n n' : Nat} {s s' : Sq} {y : AV} {T : Tk} {f : Nat → Nm} {K : AV → Hp → Tk → Prop} (h : FS Tryz.prog Gl k args [(p, .cells (rdC b n s))] [] y [(p, .cells (rdC b n' s'))] []) (hp : 1 ≤ p.1) (hy : y.flatT = true) (hap : ∀ q ∈ Ha, p ≠ q.1)
    (hK : K y (Ha ++ [(p, .cells (rdC b n' s'))]) T) : CallP Tryz.prog Gl k args (Ha ++ [(p, .cells (rdC b n s))]) T f K := by
  refine .inl (CallG.split h (by simp) (fun q hq u hu => by simp only [List.mem_singleton] at hu; subst hu; exact hap q hq) ?_)
  rintro r H1 T1 ⟨rfl, rfl, rfl⟩
  have e2 : (fun s => s ∈ ([] : List Nm).map (rnN f) ∨ (T s ∧ s ∉ ([] : List Nm))) = T := by funext s; simp
  rw [flatT_rn hy, e2]
  simp only [rnH, List.map_cons, List.map_nil, nm_real hp, rdC_rn]
  exact hK

def peekW (b : List UInt8) (n : Nat) : UInt8 := (b.drop n).headD 0
theorem peek_lt {b : List UInt8} {n : Nat} (h : n < b.length) : peekW b n = b[n] := by
  unfold peekW; rw [List.drop_eq_getElem_cons h]; rfl
theorem peek_ge {b : List UInt8} {n : Nat} (h : b.length ≤ n) : peekW b n = 0 := by
  unfold peekW; rw [List.drop_eq_nil_of_le h]; rfl
theorem fs_peek {Gl : Gh → Prop} (hst : Stays Gl) {p : Nm} (hp : 1 ≤ p.1) {b : List UInt8} {n : Nat} {s : Sq} : FS Tryz.prog Gl 183 [.ptr p 0] [(p, .cells (rdC b n s))] [] (.int .u8 (peekW b n).toNat) [(p, .cells (rdC b n s))] [] := by
  refine FS.of hm hst is_wirecursorpeek (by simp) fun γ hγ hfr => ?_
  (generalize hQ : (fun (ex : Ex) (_ _ : Nat) (s : St) => _) = Q; unfold ir_wirecursorpeek)
  by_cases hlt : n < b.length
  · have hd : decide ((n : Int) ≥ (b.length : Int)) = false := by simp; omega
    have hget := bb_get hlt
    simp only [rdC]
    simp +contextual (maxSteps := 1000000) only [hd, bytesAV_length', hget, Int.toNat_natCast, go_sem, reduceCtorEq, ↓reduceIte, Nat.reduceAdd, Nat.reduceEqDiff, Nat.reduceBEq]
    refine ⟨by omega, ?_⟩
    rw [← hQ, peek_lt hlt]
    exact ⟨trivial, Ret.rd rfl rfl hp (by simp [rdC])⟩
  · have hd : decide ((n : Int) ≥ (b.length : Int)) = true := by simp; omega
    simp only [rdC]
    simp +contextual (maxSteps := 1000000) only [hd, bytesAV_length', go_sem, reduceCtorEq, ↓reduceIte, Nat.reduceAdd, Nat.reduceEqDiff, Nat.reduceBEq]
    rw [← hQ, peek_ge (by omega)]
    exact ⟨trivial, Ret.rd rfl rfl hp (by simp [rdC])⟩
theorem fs_next {Gl : Gh → Prop} (hst : Stays Gl) {p : Nm} (hp : 1 ≤ p.1) {b : List UInt8} {n : Nat} {s : Sq} (hn : n < 4611686018427387904) : FS Tryz.prog Gl 182 [.ptr p 0] [(p, .cells (rdC b n s))] [] (.int .u8 (peekW b n).toNat) [(p, .cells (rdC b (n + 1) s))] [] := by
  refine FS.of hm hst is_wirecursornext (by simp) fun γ hγ hfr => ?_
  have hw : IntKind.i64.wrap ((n : Int) + 1) = ((n + 1 : Nat) : Int) := by rw [IntKind.wrap_i64]; omega
  (generalize hQ : (fun (ex : Ex) (_ _ : Nat) (s : St) => _) = Q; unfold ir_wirecursornext)
  simp +contextual (maxSteps := 1000000) only [go_sem, reduceCtorEq, ↓reduceIte, Nat.reduceAdd]
  refine CallP.rd (Ha := []) (fs_peek hst hp) hp rfl (by simp) ?_
  simp only [rdC]
  simp +contextual (maxSteps := 1000000) only [hw, go_sem, reduceCtorEq, ↓reduceIte, Nat.reduceAdd, Nat.reduceEqDiff, Nat.reduceLeDiff]
  rw [← hQ]
  exact ⟨trivial, Ret.rd rfl rfl hp (by simp [rdC])⟩
theorem runL_cons {x y : Nat} {c : UInt8} {l : List UInt8} (h : x ≤ c.toNat ∧ c.toNat ≤ y) : runL x y (c :: l) = c :: runL x y l := by
  unfold runL
  rw [List.takeWhile_cons, if_pos (by simpa using h)]
theorem fs_run {Gl : Gh → Prop} (hst : Stays Gl) {p : Nm} (hp : 1 ≤ p.1) {b : List UInt8} {n : Nat} {s : Sq} {x y : Nat} (hn : n ≤ b.length) (hb : b.length < 4611686018427387904) : FS Tryz.prog Gl 186 [.ptr p 0, .int .u8 x, .int .u8 y] [(p, .cells (rdC b n s))] [] (.str (runL x y (b.drop n))) [(p, .cells (rdC b (n + (runL x y (b.drop n)).length) s))] [] := by
  refine FS.of hm hst is_wirecursorrun (by simp) fun γ hγ hfr => ?_
  (generalize hQ : (fun (ex : Ex) (_ _ : Nat) (s : St) => _) = Q; unfold ir_wirecursorrun)
  simp only [rdC]
  simp +contextual (maxSteps := 1000000) only [go_sem, reduceCtorEq, ↓reduceIte, Nat.reduceAdd, Nat.reduceEqDiff]
  refine kLoop_ix (fun i : Nat => ⟨lf [(0, .ptr p 0), (1, .int .u8 x), (2, .int .u8 y), (7, .int .i64 n)], [(p, .cells (rdC b (n + i) s))], fun x => x ∈ []⟩) (fun i => n + i ≤ b.length ∧ runL x y (b.drop n) = (b.drop n).take i ++ runL x y (b.drop (n + i))) (fun i => b.length - (n + i)) 0 0 ?_ ⟨by omega, by simp⟩ ?_
  · refine Wk.same ?_
    (simp only [lfOK, upd, initF]; repeat' first | exact AVle.refl _ _ | exact trivial | refine And.intro ?_ ?_ | exact AVle.int (by simp only [IntKind.wrap_i64]; omega))
  rintro γ' i hf ⟨hi, hr⟩
  generalize hQ' : kIt _ _ _ _ _ = Q'
  have fin : runL x y (b.drop (n + i)) = [] → ∀ γ c F, F 0 = .ptr p 0 → F 7 = .int .i64 n → Q' (.exit 0) γ c ⟨F, [(p, .cells [.sl none 1 (bytesAV b), .int .i64 ((n + i : Nat) : Int), .int .i64 s.k, .int .u8 s.pr, pw s.ps, .str s.it, .int .u8 s.fi, .str s.da])], fun x => x ∈ []⟩ := by
    intro h0 γ c F h1 h2
    rw [h0, List.append_nil] at hr
    have hl : (runL x y (b.drop n)).length = i := by rw [hr, List.length_take, List.length_drop]; omega
    have e1 : ((b.take (n + i)).drop n).take i = (b.drop n).take i := by rw [List.drop_take, List.take_take]; congr 1; omega
    have e2 : (b.take (n + i)).drop n = runL x y (b.drop n) := by rw [hr, List.drop_take]; congr 1; omega
    rw [← hQ']
    simp only [w_kIt_e, w_kBlk_e, ↓reduceIte]
    simp +contextual (maxSteps := 1000000) only [h1, h2, bytesAV_take, bytesAV_drop, Int.toNat_natCast, bb_un, bb_is, bytesAV_length', go_sem, reduceCtorEq, ↓reduceIte, Nat.reduceAdd, Nat.reduceEqDiff, Nat.reduceBEq]
    refine ⟨⟨by omega, by omega, by omega⟩, ?_⟩
    rw [← hQ, hl]
    refine ⟨trivial, Ret.rd (by simp only [resOf, getAll, IRes.get, lf_cons, ↓reduceIte, e2]) rfl hp (by simp [rdC])⟩
  unfold ir_wirecursorrun_l0
  simp only [rdC]
  by_cases hlt : n + i < b.length
  · have hd : decide (((n + i : Nat) : Int) < (b.length : Int)) = true := by simp; omega
    have hget := bb_get hlt
    have hdrop : b.drop (n + i) = b[n + i] :: b.drop (n + i + 1) := List.drop_eq_getElem_cons hlt
    have hw : IntKind.i64.wrap (((n + i : Nat) : Int) + 1) = ((n + (i + 1) : Nat) : Int) := by rw [IntKind.wrap_i64]; omega
    by_cases hx : x ≤ (b[n + i]).toNat
    · have hx' : decide (((b[n + i]).toNat : Int) ≥ (x : Int)) = true := by simp; omega
      by_cases hy : (b[n + i]).toNat ≤ y
      · have hy' : decide (((b[n + i]).toNat : Int) ≤ (y : Int)) = true := by simp; omega
        simp +contextual (maxSteps := 1000000) only [hd, bytesAV_length', hget, hx', hy', hw, Int.toNat_natCast, go_sem, reduceCtorEq, ↓reduceIte, Nat.reduceAdd, Nat.reduceEqDiff, Nat.reduceLeDiff, Nat.reduceBEq]
        refine ⟨by omega, by omega, ?_⟩
        rw [← hQ']
        simp only [w_kIt_n]
        refine ⟨0, i + 1, Wk.same ?_, ⟨by omega, ?_⟩, by omega⟩
        · repeat' first | exact AVle.refl _ _ | exact trivial | refine And.intro ?_ ?_ | exact AVle.int (by simp only [IntKind.wrap_i64]; omega)
        · rw [hr, hdrop, runL_cons ⟨hx, hy⟩, List.take_add_one, List.getElem?_drop, List.getElem?_eq_getElem hlt, List.append_assoc]
          rfl
      · have hy' : decide (((b[n + i]).toNat : Int) ≤ (y : Int)) = false := by simp; omega
        simp +contextual (maxSteps := 1000000) only [hd, bytesAV_length', hget, hx', hy', Int.toNat_natCast, go_sem, reduceCtorEq, ↓reduceIte, Nat.reduceAdd, Nat.reduceEqDiff, Nat.reduceBEq]
        refine ⟨by omega, by omega, ?_⟩
        exact fin (runL_nil fun c hc => by rw [hdrop, List.head?_cons] at hc; cases hc; omega) _ _ _ rfl rfl
    · have hx' : decide (((b[n + i]).toNat : Int) ≥ (x : Int)) = false := by simp; omega
      simp +contextual (maxSteps := 1000000) only [hd, bytesAV_length', hget, hx', Int.toNat_natCast, go_sem, reduceCtorEq, ↓reduceIte, Nat.reduceAdd, Nat.reduceEqDiff, Nat.reduceBEq]
      refine ⟨by omega, ?_⟩
      exact fin (runL_nil fun c hc => by rw [hdrop, List.head?_cons] at hc; cases hc; omega) _ _ _ rfl rfl
  · have hd : decide (((n + i : Nat) : Int) < (b.length : Int)) = false := by simp; omega
    simp +contextual (maxSteps := 1000000) only [hd, bytesAV_length', go_sem, reduceCtorEq, ↓reduceIte, Nat.reduceAdd, Nat.reduceEqDiff, Nat.reduceBEq]
    exact fin (by rw [List.drop_eq_nil_of_le (by omega)]; rfl) _ _ _ rfl rfl
end Go.Proofs.YtjankibepgnbfaaGreatDoor

namespace Go.Proofs.YtjankibepgnbfaaGreatDoor
open Go Go.Ab
theorem splitB_mem_len {c : UInt8} : ∀ {l : List UInt8} {p : List UInt8}, p ∈ splitB c l → p.length ≤ l.length
  | [], p, h => by simp [splitB] at h; simp [h]
  | d :: l, p, h => by
    simp only [splitB] at h
    split at h
    · rcases List.mem_cons.1 h with rfl | h
      · simp
      · have := splitB_mem_len h; simp; omega
    · split at h
      · rename_i q qs e
        rcases List.mem_cons.1 h with rfl | h
        · have := splitB_mem_len (c := c) (l := l) (p := q) (by rw [e]; simp); simp; omega
        · have := splitB_mem_len (c := c) (l := l) (p := p) (by rw [e]; simp [h]); simp; omega
      · simp at h; simp [h]
theorem splitB_len {c : UInt8} : ∀ {l : List UInt8}, (splitB c l).length ≤ l.length + 1
  | [] => by simp [splitB]
  | d :: l => by
    have ih := splitB_len (c := c) (l := l)
    simp only [splitB]
    split
    · simp; omega
    · split
      · rename_i q qs e; rw [e] at ih; simp at ih ⊢; omega
      · simp

end Go.Proofs.YtjankibepgnbfaaGreatDoor

