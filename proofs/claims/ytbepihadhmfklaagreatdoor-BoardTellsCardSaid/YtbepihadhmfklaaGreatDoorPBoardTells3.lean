/- Part 3 of 4 of a proof: the given statement BoardTells, whatever the input that its row lets in. Conditions: those of the given row and card alone. -/
import Derived.Test.YtbepihadhmfklaaGreatDoorPBoardTells2
import Derived.Test.YtbepihadhmfklaaGreatDoorPBoardTellsAb12d
set_option linter.unusedVariables false
set_option linter.unusedSimpArgs false
set_option maxRecDepth 100000
namespace Go.Proofs.YtbepihadhmfklaaGreatDoor
open Go Go.Ab
def ir_wirePut : ICode :=
 (.seq
 (.reg [⟨some 1, none, .box 47 (.t 0)⟩,
 ⟨some 2, none, .mov (.c .nils)⟩,
 ⟨some 3, none, .mov (.c (.int .i64 0))⟩] (some [1]))
 (.seq
 (.seq
 (.reg [⟨some 5, none, .ld (some 6) (.t 1)⟩,
 ⟨some 6, none, .call (.c (.fn (.func 87) [] [])) [(.t 5)]⟩,
 ⟨some 4, none, .mov (.t 6)⟩] (some [1, 4]))
 (.seq
 (.reg [⟨some 7, none, .mov (.t 4)⟩,
 ⟨some 8, none, .bin .neq .none (.t 7) (.c (.int .i64 0))⟩] (some [1, 4, 8]))
 (.cond (.t 8)
 (.seq
 (.reg [⟨some 9, none, .mov (.t 4)⟩,
 ⟨some 2, none, .mov (.c .nils)⟩,
 ⟨some 3, none, .mov (.t 9)⟩] (some [2, 3]))
 .ret)
 .skip)))
 (.seq
 (.seq
 (.reg [⟨some 10, none, .fa 0 (.t 1)⟩,
 ⟨some 11, none, .ld none (.t 10)⟩] (some [1, 11]))
 (.blk 0
 (.seq
 (.reg [⟨some 13, none, .bin .eql .none (.t 11) (.c (.int .i64 1))⟩,
 ⟨some 12, none, .mov (.t 13)⟩] (some [1, 11, 12]))
 (.cond (.t 12)
 (.seq
 (.reg [⟨some 14, none, .ld (some 6) (.t 1)⟩,
 ⟨some 15, none, .call (.c (.fn (.func 89) [] [])) [(.t 14)]⟩,
 ⟨some 16, none, .row 9 1 [(.c (.str [91])), (.t 15)]⟩,
 ⟨some 17, none, .call (.c (.fn (.func 88) [] [])) [(.t 16)]⟩,
 ⟨some 2, none, .mov (.t 17)⟩,
 ⟨some 3, none, .mov (.c (.int .i64 0))⟩] (some [2, 3]))
 .ret)
 (.seq
 (.reg [⟨some 19, none, .bin .eql .none (.t 11) (.c (.int .i64 2))⟩,
 ⟨some 18, none, .mov (.t 19)⟩] (some [1, 11, 18]))
 (.cond (.t 18)
 (.seq
 (.reg [⟨some 20, none, .fa 4 (.t 1)⟩,
 ⟨some 21, none, .ld none (.t 20)⟩,
 ⟨some 22, none, .row 5 1 [(.t 21)]⟩,
 ⟨some 23, none, .b2s (.t 22)⟩,
 ⟨some 24, none, .row 9 1 [(.c (.str [79])), (.t 23)]⟩,
 ⟨some 25, none, .call (.c (.fn (.func 88) [] [])) [(.t 24)]⟩,
 ⟨some 2, none, .mov (.t 25)⟩,
 ⟨some 3, none, .mov (.c (.int .i64 0))⟩] (some [2, 3]))
 .ret)
 (.seq
 (.reg [⟨some 27, none, .bin .eql .none (.t 11) (.c (.int .i64 3))⟩,
 ⟨some 26, none, .mov (.t 27)⟩] (some [1, 11, 26]))
 (.cond (.t 26)
 (.seq
 (.drw [⟨⟨some 28, none, .ld (some 6) (.t 1)⟩, []⟩,
 ⟨⟨some 29, none, .call (.c (.fn (.func 89) [] [])) [(.t 28)]⟩, [0]⟩,
 ⟨⟨some 30, none, .fa 5 (.t 1)⟩, []⟩,
 ⟨⟨some 31, none, .ld none (.t 30)⟩, [2]⟩,
 ⟨⟨some 32, none, .row 9 1 [(.c (.str [80])), (.t 29), (.t 31), (.c (.str [27, 92]))]⟩, [1, 3]⟩,
 ⟨⟨some 33, none, .call (.c (.fn (.func 88) [] [])) [(.t 32)]⟩, [4, 1]⟩]
 [⟨some 2, none, .mov (.t 33)⟩,
 ⟨some 3, none, .mov (.c (.int .i64 0))⟩] (some [2, 3]))
 .ret)
 (.seq
 (.reg [⟨some 35, none, .bin .eql .none (.t 11) (.c (.int .i64 4))⟩,
 ⟨some 34, none, .mov (.t 35)⟩] (some [1, 34]))
 (.cond (.t 34)
 (.seq
 (.reg [⟨some 36, none, .fa 5 (.t 1)⟩,
 ⟨some 37, none, .ld none (.t 36)⟩,
 ⟨some 38, none, .row 9 1 [(.c (.str [93])), (.t 37), (.c (.str [27, 92]))]⟩,
 ⟨some 39, none, .call (.c (.fn (.func 88) [] [])) [(.t 38)]⟩,
 ⟨some 2, none, .mov (.t 39)⟩,
 ⟨some 3, none, .mov (.c (.int .i64 0))⟩] (some [2, 3]))
 .ret)
 .skip))))))))))
 (.seq
 (.reg [⟨some 40, none, .ld (some 6) (.t 1)⟩,
 ⟨some 41, none, .call (.c (.fn (.func 89) [] [])) [(.t 40)]⟩,
 ⟨some 42, none, .row 9 1 [(.t 41)]⟩,
 ⟨some 43, none, .call (.c (.fn (.func 88) [] [])) [(.t 42)]⟩,
 ⟨some 2, none, .mov (.t 43)⟩,
 ⟨some 3, none, .mov (.c (.int .i64 0))⟩] (some [2, 3]))
 .ret))))
theorem is_wirePut : IrOf Tryz.prog 40 44 ir_wirePut [.t 2, .t 3] := ⟨_, Tryz.func40, rfl, by kernel_rfl, by kernel_rfl, by kernel_rfl⟩

theorem esc_plain {s : Sq} (h : mayP s = 0) (h1 : s.k ≠ 1) (h2 : s.k ≠ 2) (h3 : s.k ≠ 3) (h4 : s.k ≠ 4) : s.pr = 0 ∧ s.ps = [] := by
  have hs : shapedP s = true := by
    simp only [mayP] at h
    split at h
    · cases h
    · split at h
      · cases h
      · rename_i h2
        simp only [Bool.or_eq_true, Bool.not_eq_true', not_or, Bool.not_eq_false] at h2
        exact h2.2
  simp only [shapedP, if_neg h1, if_neg h2, if_neg h3, if_neg h4] at hs
  split at hs
  · simp only [Bool.and_eq_true, beq_iff_eq] at hs
    obtain ⟨⟨⟨⟨⟨q1, q2⟩, _⟩, _⟩, _⟩, _⟩ := hs
    exact ⟨q1, List.length_eq_zero_iff.1 (by omega)⟩
  · cases hs
set_option maxHeartbeats 4000000 in
theorem fs_wPut {Gl : Gh → Prop} (hst : Stays Gl) {s : Sq} (hp0 : 0 ≤ s.pr) (hp1 : s.pr < 256) (hf0 : 0 ≤ s.fi) (hf1 : s.fi < 128) (h : s.sm) : FS Tryz.prog Gl 40 [.agg s.c] [] [] (.tup [putV s, .int .i64 (mayP s)]) [] [] := by
  have c1 := fs_May (Gl := Gl) hst hf0 hf1 h.ps h.pp h.it h.da
  have hfl : (AV.tup [putV s, .int .i64 (mayP s)]).flatT = true := by
    unfold putV; split <;> rfl
  refine FS.ofW hm hst is_wirePut hfl (by simp) fun γ hγ hfr => ?_
  have hpv : putV s = if (mayP s != 0) = true then .nils else .sl none 1 (bytesAV (putB s)) := rfl
  have hda : mayP s = 0 → s.da.length ≤ 4096 := fun hz => (mayP_sm hz).2.2.2.2
  have hil : mayP s = 0 → s.it.length ≤ 2 := fun hz => (mayP_sm hz).2.2.2.1
  have hpl : mayP s = 0 → s.ps.length ≤ 16 := fun hz => (mayP_sm hz).2.1
  have hpp : mayP s = 0 → ∀ p ∈ s.ps, p.length ≤ 8 ∧ ∀ n ∈ p, n ≤ 1114111 := fun hz p hp => ⟨(mayP_sm hz).2.2.1 p hp, fun n hn => (((parsOk_iff (may_pars hz)).2.2 p hp).2.2 n hn).2⟩
  obtain ⟨k, pr, ps, it, fi, da⟩ := s
  simp only at hp0 hp1 hf0 hf1 hda hil hpl hpp
  obtain ⟨pr, rfl⟩ := byteOf hp0 hp1
  obtain ⟨fi, rfl⟩ := byteOf hf0 (by omega)
  have hbb : putB ⟨k, pr.toNat, ps, it, fi.toNat, da⟩ = (if (k == 1) = true then [27, 91] ++ (prB pr.toNat ++ parsText ps ++ it) ++ [fi]
    else if (k == 2) = true then [27, 79] ++ [fi]
    else if (k == 3) = true then [27, 80] ++ (prB pr.toNat ++ parsText ps ++ it) ++ [fi] ++ da ++ [27, 92]
    else if (k == 4) = true then [27, 93] ++ da ++ [27, 92]
    else [27] ++ it ++ [fi]) := by
    have : ((fi.toNat : Int).toNat).toUInt8 = fi := by rw [Int.toNat_natCast]; exact UInt8.ofNat_toNat
    simp only [putB, bodyB, this]
  have hcc : Sq.c ⟨k, pr.toNat, ps, it, fi.toNat, da⟩ = [.int .i64 k, .int .u8 (pr.toNat : Int), parsV ps, .str it, .int .u8 (fi.toNat : Int), .str da] := rfl
  rw [hcc] at c1
  generalize hmp : mayP _ = mp at *
  (generalize hQ : (fun (ex : Ex) (_ _ : Nat) (s : St) => _) = Q; unfold ir_wirePut)
  simp +contextual (maxSteps := 1000000) only [hcc, go_sem, reduceCtorEq, ↓reduceIte, Nat.reduceAdd, Nat.reduceEqDiff, Nat.reduceLeDiff, Nat.reduceMul, Nat.reduceBEq, Int.reduceBEq, Int.reduceBNe, Int.reduceLT, Int.reduceLE, Int.reduceGT, Int.reduceGE, Int.reduceToNat]
  (refine CallP.pure (c1) (fun _ => rfl) ?_; simp +contextual (maxSteps := 1000000) only [go_sem, reduceCtorEq, ↓reduceIte, Nat.reduceAdd, Nat.reduceEqDiff, Nat.reduceLeDiff, Nat.reduceMul, Nat.reduceBEq, Int.reduceBEq, Int.reduceBNe, Int.reduceLT, Int.reduceLE, Int.reduceGT, Int.reduceGE, Int.reduceToNat])
  by_cases hz : mp = 0
  · subst hz
    have hda := hda rfl
    have hil := hil rfl
    have c2 := fs_body (Gl := Gl) hst (k := k) (ps := ps) (it := it) (da := da) (pr := pr) (fi := fi) (hpl rfl) (hpp rfl) (by omega)
    rw [hcc] at c2
    have hsl := parsText_len (hpp rfl)
    have hpl := hpl rfl
    have hprl : (prB pr.toNat).length ≤ 1 := by unfold prB; split <;> simp
    have fin : ∀ {l : List UInt8} {γ c : Nat} {H : Hp} {T : Tk}, l = putB ⟨k, pr.toNat, ps, it, fi.toNat, da⟩ → Q .ret γ c ⟨lf [(2, .sl none 1 (bytesAV l)), (3, .int .i64 0)], H, T⟩ := by
      intro l γ c H T hl
      rw [← hQ, hpv, hl]
      exact ⟨trivial, .inl ⟨_, rfl, RepLe.refl _⟩⟩
    have hpt : (parsText ps).length ≤ 3000 := by omega
    have hk1 : (k == 1) = true ∨ (k == 1) = false := by cases (k == 1) <;> simp
    rcases hk1 with hk1 | hk1
    · simp +contextual (maxSteps := 1000000) only [hk1, go_sem, reduceCtorEq, ↓reduceIte, Nat.reduceAdd, Nat.reduceEqDiff, Nat.reduceLeDiff, Nat.reduceMul, Nat.reduceBEq, Int.reduceBEq, Int.reduceBNe, Int.reduceLT, Int.reduceLE, Int.reduceGT, Int.reduceGE, Int.reduceToNat]
      (refine CallP.pure (c2) (fun _ => rfl) ?_; simp +contextual (maxSteps := 1000000) only [go_sem, reduceCtorEq, ↓reduceIte, Nat.reduceAdd, Nat.reduceEqDiff, Nat.reduceLeDiff, Nat.reduceMul, Nat.reduceBEq, Int.reduceBEq, Int.reduceBNe, Int.reduceLT, Int.reduceLE, Int.reduceGT, Int.reduceGE, Int.reduceToNat])
      (refine CallP.pure (fs_glue (xs := [[91], prB pr.toNat ++ (parsText ps ++ it ++ [fi])]) hst (by simp) (by simp; omega)) (fun _ => rfl) ?_; simp +contextual (maxSteps := 1000000) only [go_sem, reduceCtorEq, ↓reduceIte, Nat.reduceAdd, Nat.reduceEqDiff, Nat.reduceLeDiff, Nat.reduceMul, Nat.reduceBEq, Int.reduceBEq, Int.reduceBNe, Int.reduceLT, Int.reduceLE, Int.reduceGT, Int.reduceGE, Int.reduceToNat])
      refine fin ?_
      rw [hbb, if_pos hk1]; simp
    have hk2 : (k == 2) = true ∨ (k == 2) = false := by cases (k == 2) <;> simp
    rcases hk2 with hk2 | hk2
    · simp +contextual (maxSteps := 1000000) only [hk1, hk2, isByte_one, unbyte_c, go_sem, reduceCtorEq, ↓reduceIte, Nat.reduceAdd, Nat.reduceEqDiff, Nat.reduceLeDiff, Nat.reduceMul, Nat.reduceBEq, Int.reduceBEq, Int.reduceBNe, Int.reduceLT, Int.reduceLE, Int.reduceGT, Int.reduceGE, Int.reduceToNat]
      (refine CallP.pure (fs_glue (xs := [[79], [fi]]) hst (by simp) (by simp)) (fun _ => rfl) ?_; simp +contextual (maxSteps := 1000000) only [go_sem, reduceCtorEq, ↓reduceIte, Nat.reduceAdd, Nat.reduceEqDiff, Nat.reduceLeDiff, Nat.reduceMul, Nat.reduceBEq, Int.reduceBEq, Int.reduceBNe, Int.reduceLT, Int.reduceLE, Int.reduceGT, Int.reduceGE, Int.reduceToNat])
      refine fin ?_
      rw [hbb, hk1, if_neg (by simp), if_pos hk2]; simp
    have hk3 : (k == 3) = true ∨ (k == 3) = false := by cases (k == 3) <;> simp
    rcases hk3 with hk3 | hk3
    · simp +contextual (maxSteps := 1000000) only [hk1, hk2, hk3, go_sem, reduceCtorEq, ↓reduceIte, Nat.reduceAdd, Nat.reduceEqDiff, Nat.reduceLeDiff, Nat.reduceMul, Nat.reduceBEq, Int.reduceBEq, Int.reduceBNe, Int.reduceLT, Int.reduceLE, Int.reduceGT, Int.reduceGE, Int.reduceToNat]
      refine DCall.new c2 ?_
      simp +contextual (maxSteps := 1000000) only [go_sem, reduceCtorEq, ↓reduceIte, Nat.reduceAdd, Nat.reduceEqDiff, Nat.reduceLeDiff, Nat.reduceMul, Nat.reduceBEq, Int.reduceBEq, Int.reduceBNe, Int.reduceLT, Int.reduceLE, Int.reduceGT, Int.reduceGE, Int.reduceToNat]
      refine ⟨by simp [AV.closedL, AV.closed], DCall.new (fs_glue (xs := [[80], prB pr.toNat ++ (parsText ps ++ it ++ [fi]), da, [27, 92]]) hst (by simp) (by simp; omega)) ?_⟩
      simp +contextual (maxSteps := 1000000) only [go_sem, reduceCtorEq, ↓reduceIte, Nat.reduceAdd, Nat.reduceEqDiff, Nat.reduceLeDiff, Nat.reduceMul, Nat.reduceBEq, Int.reduceBEq, Int.reduceBNe, Int.reduceLT, Int.reduceLE, Int.reduceGT, Int.reduceGE, Int.reduceToNat]
      refine fin ?_
      rw [hbb, hk1, if_neg (by simp), hk2, if_neg (by simp), if_pos hk3]; simp
    have hk4 : (k == 4) = true ∨ (k == 4) = false := by cases (k == 4) <;> simp
    rcases hk4 with hk4 | hk4
    · simp +contextual (maxSteps := 1000000) only [hk1, hk2, hk3, hk4, go_sem, reduceCtorEq, ↓reduceIte, Nat.reduceAdd, Nat.reduceEqDiff, Nat.reduceLeDiff, Nat.reduceMul, Nat.reduceBEq, Int.reduceBEq, Int.reduceBNe, Int.reduceLT, Int.reduceLE, Int.reduceGT, Int.reduceGE, Int.reduceToNat]
      (refine CallP.pure (fs_glue (xs := [[93], da, [27, 92]]) hst (by simp) (by simp; omega)) (fun _ => rfl) ?_; simp +contextual (maxSteps := 1000000) only [go_sem, reduceCtorEq, ↓reduceIte, Nat.reduceAdd, Nat.reduceEqDiff, Nat.reduceLeDiff, Nat.reduceMul, Nat.reduceBEq, Int.reduceBEq, Int.reduceBNe, Int.reduceLT, Int.reduceLE, Int.reduceGT, Int.reduceGE, Int.reduceToNat])
      refine fin ?_
      rw [hbb, hk1, if_neg (by simp), hk2, if_neg (by simp), hk3, if_neg (by simp), if_pos hk4]; simp
    · simp +contextual (maxSteps := 1000000) only [hk1, hk2, hk3, hk4, go_sem, reduceCtorEq, ↓reduceIte, Nat.reduceAdd, Nat.reduceEqDiff, Nat.reduceLeDiff, Nat.reduceMul, Nat.reduceBEq, Int.reduceBEq, Int.reduceBNe, Int.reduceLT, Int.reduceLE, Int.reduceGT, Int.reduceGE, Int.reduceToNat]
      (refine CallP.pure (c2) (fun _ => rfl) ?_; simp +contextual (maxSteps := 1000000) only [go_sem, reduceCtorEq, ↓reduceIte, Nat.reduceAdd, Nat.reduceEqDiff, Nat.reduceLeDiff, Nat.reduceMul, Nat.reduceBEq, Int.reduceBEq, Int.reduceBNe, Int.reduceLT, Int.reduceLE, Int.reduceGT, Int.reduceGE, Int.reduceToNat])
      (refine CallP.pure (fs_glue (xs := [prB pr.toNat ++ (parsText ps ++ it ++ [fi])]) hst (by simp) (by simp; omega)) (fun _ => rfl) ?_; simp +contextual (maxSteps := 1000000) only [go_sem, reduceCtorEq, ↓reduceIte, Nat.reduceAdd, Nat.reduceEqDiff, Nat.reduceLeDiff, Nat.reduceMul, Nat.reduceBEq, Int.reduceBEq, Int.reduceBNe, Int.reduceLT, Int.reduceLE, Int.reduceGT, Int.reduceGE, Int.reduceToNat])
      refine fin ?_
      rw [hbb, hk1, if_neg (by simp), hk2, if_neg (by simp), hk3, if_neg (by simp), hk4, if_neg (by simp)]
      obtain ⟨hpl1, hpl2⟩ := esc_plain hmp (by simpa using hk1) (by simpa using hk2) (by simpa using hk3) (by simpa using hk4)
      simp only at hpl1 hpl2
      rw [hpl1, hpl2]; rfl
  · have hq : (mp != 0) = true := by simp [hz]
    simp +contextual (maxSteps := 1000000) only [hq, go_sem, reduceCtorEq, ↓reduceIte, Nat.reduceAdd, Nat.reduceEqDiff, Nat.reduceLeDiff, Nat.reduceMul, Nat.reduceBEq, Int.reduceBEq, Int.reduceBNe, Int.reduceLT, Int.reduceLE, Int.reduceGT, Int.reduceGE, Int.reduceToNat]
    rw [← hQ, hpv, if_pos hq]
    exact ⟨trivial, .inl ⟨_, rfl, RepLe.refl _⟩⟩
end Go.Proofs.YtbepihadhmfklaaGreatDoor

namespace Go.Proofs.YtbepihadhmfklaaGreatDoor
open Go Go.Ab
def ir_kittyKey : ICode :=
 (.seq
 (.reg [⟨some 3, none, .box 25 (.t 1)⟩,
 ⟨some 4, none, .mov (.c .nils)⟩] (some [0, 3]))
 (.seq
 (.drw [⟨⟨some 11, none, .ld (some 6) (.t 3)⟩, []⟩,
 ⟨⟨some 12, none, .mov (.t 0)⟩, []⟩,
 ⟨⟨some 13, none, .fa 0 (.t 3)⟩, []⟩,
 ⟨⟨some 14, none, .ld none (.t 13)⟩, [2]⟩,
 ⟨⟨some 15, none, .call (.c (.fn (.func 24) [] [])) [(.t 14)]⟩, [3]⟩,
 ⟨⟨some 16, none, .fld 0 none (.t 15)⟩, [4]⟩,
 ⟨⟨some 17, none, .bld [(.int .i64 0), (.int .i64 0), (.int .i64 0), (.int .i64 0), (.int .i64 0), (.str []), (.int .i64 0), (.int .i64 0)] [(0, 6, (.t 11)), (6, 1, (.t 12)), (7, 1, (.t 16))]⟩, [0, 1, 5]⟩,
 ⟨⟨some 5, none, .box 80 (.c (.agg [(.int .i64 0), (.int .i64 0), (.int .i64 0), (.int .i64 0), (.int .i64 0), (.str []), (.int .i64 0), (.int .i64 0)]))⟩, []⟩]
 [⟨none, none, .st 8 (.t 5) (.t 17)⟩] (some [3, 5]))
 (.seq
 (.seq
 (.reg [⟨some 18, none, .ld (some 6) (.t 3)⟩,
 ⟨some 19, none, .call (.c (.fn (.func 39) [] [])) [(.t 18)]⟩,
 ⟨some 20, none, .un .not (.t 19)⟩,
 ⟨some 21, none, .mov (.t 20)⟩,
 ⟨some 22, some (21, false), .ld (some 8) (.t 5)⟩,
 ⟨some 23, some (21, false), .call (.c (.fn (.func 54) [] [])) [(.t 22)]⟩,
 ⟨some 24, some (21, false), .un .not (.t 23)⟩,
 ⟨some 25, none, .pick (.t 21) (.c (.bool true)) (.t 24)⟩] (some [3, 5, 25]))
 (.cond (.t 25)
 (.seq
 (.reg [⟨some 4, none, .mov (.c .nils)⟩] (some [4]))
 .ret)
 .skip))
 (.seq
 (.seq
 (.reg [⟨some 26, none, .ld (some 8) (.t 5)⟩,
 ⟨some 27, none, .call (.c (.fn (.func 55) [] [])) [(.t 26)]⟩,
 ⟨some 6, none, .mov (.t 27)⟩] (some [3, 5, 6]))
 (.seq
 (.reg [⟨some 28, none, .mov (.t 6)⟩,
 ⟨some 29, none, .len (.t 28)⟩,
 ⟨some 30, none, .bin .gtr .none (.t 29) (.c (.int .i64 0))⟩] (some [3, 5, 6, 30]))
 (.cond (.t 30)
 (.seq
 (.reg [⟨some 31, none, .mov (.t 6)⟩,
 ⟨some 4, none, .mov (.t 31)⟩] (some [4]))
 .ret)
 .skip)))
 (.seq
 (.reg [⟨some 33, none, .fa 0 (.t 3)⟩,
 ⟨some 34, none, .ld none (.t 33)⟩,
 ⟨some 35, none, .call (.c (.fn (.func 56) [] [])) [(.t 34)]⟩,
 ⟨some 32, none, .mov (.t 35)⟩,
 ⟨some 36, none, .ext (.t 32) 0⟩,
 ⟨some 37, none, .ext (.t 32) 1⟩,
 ⟨some 7, none, .mov (.t 36)⟩,
 ⟨some 8, none, .mov (.t 37)⟩] (some [5, 7, 8]))
 (.seq
 (.drw [⟨⟨some 39, none, .mov (.t 8)⟩, []⟩,
 ⟨⟨some 40, none, .ld (some 8) (.t 5)⟩, []⟩,
 ⟨⟨some 41, none, .mov (.t 7)⟩, []⟩,
 ⟨⟨some 42, none, .mov (.t 8)⟩, []⟩,
 ⟨⟨some 43, none, .call (.c (.fn (.func 58) [] [])) [(.t 40), (.t 41), (.t 42)]⟩, [1, 2, 3]⟩,
 ⟨⟨some 44, none, .ld (some 8) (.t 5)⟩, []⟩,
 ⟨⟨some 45, none, .call (.c (.fn (.func 59) [] [])) [(.t 44)]⟩, [5, 4]⟩,
 ⟨⟨some 46, none, .ld (some 8) (.t 5)⟩, []⟩,
 ⟨⟨some 47, none, .call (.c (.fn (.func 60) [] [])) [(.t 46)]⟩, [7, 6]⟩,
 ⟨⟨some 48, none, .row 64 1 [(.t 43), (.t 45), (.t 47)]⟩, [4, 6, 8]⟩,
 ⟨⟨some 49, none, .call (.c (.fn (.func 57) [] [])) [(.t 48)]⟩, [9, 8]⟩,
 ⟨⟨some 50, none, .bld [(.int .i64 0), (.int .u8 0), .nils, (.str []), (.int .u8 0), (.str [])] [(0, 1, (.c (.int .i64 1))), (4, 1, (.t 39)), (2, 1, (.t 49))]⟩, [0, 10]⟩,
 ⟨⟨some 51, none, .call (.c (.fn (.func 40) [] [])) [(.t 50)]⟩, [11, 10]⟩,
 ⟨⟨some 38, none, .mov (.t 51)⟩, [12]⟩,
 ⟨⟨some 52, none, .ext (.t 38) 0⟩, [13]⟩,
 ⟨⟨some 53, none, .ext (.t 38) 1⟩, [13]⟩,
 ⟨⟨some 9, none, .mov (.t 52)⟩, [14, 12, 0, 1, 2, 3, 4, 5, 6, 7, 8, 9, 10, 11, 12, 13, 14]⟩]
 [⟨some 10, none, .mov (.t 53)⟩] (some [9]))
 (.seq
 (.reg [⟨some 54, none, .mov (.t 9)⟩,
 ⟨some 4, none, .mov (.t 54)⟩] (some [4]))
 .ret)))))))
theorem is_kittyKey : IrOf Tryz.prog 28 55 ir_kittyKey [.t 4] := ⟨_, Tryz.func28, rfl, by kernel_rfl, by kernel_rfl, by kernel_rfl⟩

def putX (s : Sq) : List UInt8 := if (mayP s != 0) = true then [] else putB s
theorem putV_le (s : Sq) : RepLe (putV s) (.sl none 1 (bytesAV (putX s))) := by
  unfold putV putX
  split
  · exact RepLe.nils 1
  · exact RepLe.refl _
theorem letR_lt (c : Int) : (letR c).toNat < 128 := by
  unfold letR
  repeat' split
  all_goals first | decide | (rw [UInt8.toNat_ofNat', Nat.mod_eq_of_lt (by omega)]; omega)
theorem formK_lt (c : Int) : (formK c).2.toNat < 128 := by
  simp only [formK]
  split
  · decide
  · split
    · decide
    · split
      · rename_i h
        show (lookR c).final.toNat < 128
        unfold lookR at h ⊢
        split
        · exact letR_lt c
        · rename_i h1
          rw [if_neg h1] at h
          split
          · exact (by decide : (0 : UInt8).toNat < 128)
          · rename_i h2
            rw [if_neg h2] at h
            split
            · rename_i h3
              rw [if_pos h3] at h
              have : (padR c).kind = 5 := by unfold padR; split <;> rfl
              rw [this] at h
              exact absurd h.1 (by decide)
            · exact (by decide : (0 : UInt8).toNat < 128)
      · split
        · exact (by decide : (126 : UInt8).toNat < 128)
        · exact (by decide : (117 : UInt8).toNat < 128)
def keySq (fl : Int) (k : Ky) : Sq := ⟨1, 0, trimK [firstK fl k (formK k.code).1 (formK k.code).2.toNat, secondK fl k, thirdK fl k] 3, [], (formK k.code).2.toNat, []⟩
def keyK (fl : Int) (k : Ky) : List UInt8 :=
  if (!mayK k || !sentK fl k) = true then []
  else if textK fl k ≠ [] then textK fl k
  else putX (keySq fl k)
set_option maxHeartbeats 4000000 in
theorem fs_Key {Gl : Gh → Prop} (hst : Stays Gl) {k : Ky} {fl : Int} (hfl : fl ≤ 9223372036854775807) (ht : k.text.length ≤ 1000000000000) : FS Tryz.prog Gl 28 [.int .i64 fl, .agg (kyAV k)] [] [] (.sl none 1 (bytesAV (keyK fl k))) [] [] := by
  refine FS.ofW hm hst is_kittyKey rfl (by simp) fun γ hγ hfr => ?_
  have c1 := fs_Look (Gl := Gl) hst (c := k.code)
  rw [ent_eq] at c1
  have c2 := fs_MayK (Gl := Gl) hst ht
  have c3 := fs_sent (Gl := Gl) hst (k := k) hfl
  rw [evC] at c3
  have hky : kyAV k = [.int .i64 k.code, .int .i64 k.mods, .int .i64 k.type, .int .i64 k.shifted, .int .i64 k.base, .str k.text] := rfl
  rw [hky] at c2
  have hkd : (lookR k.code).kind = kindK k.code := rfl
  rw [hkd] at c1
  have hkk : keyK fl k = (if (!mayK k || !sentK fl k) = true then [] else if textK fl k ≠ [] then textK fl k else putX (keySq fl k)) := rfl
  (generalize hQ : (fun (ex : Ex) (_ _ : Nat) (s : St) => _) = Q; unfold ir_kittyKey)
  simp +contextual (maxSteps := 1000000) only [hky, go_sem, reduceCtorEq, ↓reduceIte, Nat.reduceAdd, Nat.reduceEqDiff, Nat.reduceLeDiff, Nat.reduceMul, Nat.reduceBEq, Int.reduceBEq, Int.reduceBNe, Int.reduceLT, Int.reduceLE, Int.reduceGT, Int.reduceGE, Int.reduceToNat]
  refine DCall.new c1 ?_
  simp +contextual (maxSteps := 1000000) only [go_sem, reduceCtorEq, ↓reduceIte, Nat.reduceAdd, Nat.reduceEqDiff, Nat.reduceLeDiff, Nat.reduceMul, Nat.reduceBEq, Int.reduceBEq, Int.reduceBNe, Int.reduceLT, Int.reduceLE, Int.reduceGT, Int.reduceGE, Int.reduceToNat]
  refine ⟨fun p hp => ?_, ?_⟩
  · simp only [List.mem_cons, List.not_mem_nil, or_false] at hp
    rcases hp with rfl | rfl | rfl <;> simp [Xev_t, mask_app, upd_app, AV.cells, oneL, AV.one]
  cases hmk : mayK k with
  | false =>
    rw [hmk] at c2
    (refine CallP.pure (c2) (fun _ => rfl) ?_; simp +contextual (maxSteps := 1000000) only [go_sem, reduceCtorEq, ↓reduceIte, Nat.reduceAdd, Nat.reduceEqDiff, Nat.reduceLeDiff, Nat.reduceMul, Nat.reduceBEq, Int.reduceBEq, Int.reduceBNe, Int.reduceLT, Int.reduceLE, Int.reduceGT, Int.reduceGE, Int.reduceToNat])
    have hz : keyK fl k = [] := by rw [hkk, hmk]; rfl
    rw [← hQ, hz]
    exact ⟨trivial, .inl ⟨_, rfl, RepLe.nils 1⟩⟩
  | true =>
    rw [hmk] at c2
    have hmods : 0 ≤ k.mods ∧ k.mods ≤ 255 := by
      simp only [mayK, Bool.and_eq_true, decide_eq_true_eq] at hmk
      exact ⟨hmk.1.1.1.1.1.1.2, hmk.1.1.1.1.1.2⟩
    have c4 := fs_text (Gl := Gl) hst (k := k) hfl hmods.1 hmods.2 ht
    rw [evC] at c4
    cases hse : sentK fl k with
    | false =>
      rw [hse] at c3
      (refine CallP.pure (c2) (fun _ => rfl) ?_; simp +contextual (maxSteps := 1000000) only [go_sem, reduceCtorEq, ↓reduceIte, Nat.reduceAdd, Nat.reduceEqDiff, Nat.reduceLeDiff, Nat.reduceMul, Nat.reduceBEq, Int.reduceBEq, Int.reduceBNe, Int.reduceLT, Int.reduceLE, Int.reduceGT, Int.reduceGE, Int.reduceToNat])
      (refine CallP.pure (c3) (fun _ => rfl) ?_; simp +contextual (maxSteps := 1000000) only [go_sem, reduceCtorEq, ↓reduceIte, Nat.reduceAdd, Nat.reduceEqDiff, Nat.reduceLeDiff, Nat.reduceMul, Nat.reduceBEq, Int.reduceBEq, Int.reduceBNe, Int.reduceLT, Int.reduceLE, Int.reduceGT, Int.reduceGE, Int.reduceToNat])
      have hz : keyK fl k = [] := by rw [hkk, hmk, hse]; rfl
      rw [← hQ, hz]
      exact ⟨trivial, .inl ⟨_, rfl, RepLe.nils 1⟩⟩
    | true =>
      rw [hse] at c3
      have hk2 : keyK fl k = if textK fl k ≠ [] then textK fl k else putX (keySq fl k) := by rw [hkk, hmk, hse]; rfl
      (refine CallP.pure (c2) (fun _ => rfl) ?_; simp +contextual (maxSteps := 1000000) only [go_sem, reduceCtorEq, ↓reduceIte, Nat.reduceAdd, Nat.reduceEqDiff, Nat.reduceLeDiff, Nat.reduceMul, Nat.reduceBEq, Int.reduceBEq, Int.reduceBNe, Int.reduceLT, Int.reduceLE, Int.reduceGT, Int.reduceGE, Int.reduceToNat])
      (refine CallP.pure (c3) (fun _ => rfl) ?_; simp +contextual (maxSteps := 1000000) only [go_sem, reduceCtorEq, ↓reduceIte, Nat.reduceAdd, Nat.reduceEqDiff, Nat.reduceLeDiff, Nat.reduceMul, Nat.reduceBEq, Int.reduceBEq, Int.reduceBNe, Int.reduceLT, Int.reduceLE, Int.reduceGT, Int.reduceGE, Int.reduceToNat])
      (refine CallP.pure (c4) (fun _ => rfl) ?_; simp +contextual (maxSteps := 1000000) only [bytesAV_length', go_sem, reduceCtorEq, ↓reduceIte, Nat.reduceAdd, Nat.reduceEqDiff, Nat.reduceLeDiff, Nat.reduceMul, Nat.reduceBEq, Int.reduceBEq, Int.reduceBNe, Int.reduceLT, Int.reduceLE, Int.reduceGT, Int.reduceGE, Int.reduceToNat])
      by_cases hte : textK fl k = []
      · rw [if_neg (fun h => h hte)] at hk2
        have hq : decide (((textK fl k).length : Int) > 0) = false := by rw [hte]; rfl
        have c5 := fs_Form (Gl := Gl) hst (c := k.code)
        simp +contextual (maxSteps := 1000000) only [hq, go_sem, reduceCtorEq, ↓reduceIte, Nat.reduceAdd, Nat.reduceEqDiff, Nat.reduceLeDiff, Nat.reduceMul, Nat.reduceBEq, Int.reduceBEq, Int.reduceBNe, Int.reduceLT, Int.reduceLE, Int.reduceGT, Int.reduceGE, Int.reduceToNat]
        (refine CallP.pure (c5) (fun _ => rfl) ?_; simp +contextual (maxSteps := 1000000) only [go_sem, reduceCtorEq, ↓reduceIte, Nat.reduceAdd, Nat.reduceEqDiff, Nat.reduceLeDiff, Nat.reduceMul, Nat.reduceBEq, Int.reduceBEq, Int.reduceBNe, Int.reduceLT, Int.reduceLE, Int.reduceGT, Int.reduceGE, Int.reduceToNat])
        have d1 : FS Tryz.prog Gl 58 [.agg (evC k fl (kindK k.code)), .int .i64 (formK k.code).1, .int .u8 ((formK k.code).2.toNat : Int)] [] [] (.sl none 1 (intsAV (firstK fl k (formK k.code).1 ((formK k.code).2.toNat : Int)))) [] [] := fs_code hst hfl hmods.1 hmods.2
        have d2 : FS Tryz.prog Gl 59 [.agg (evC k fl (kindK k.code))] [] [] (.sl none 1 (intsAV (secondK fl k))) [] [] := fs_how hst hfl
        have d3 : FS Tryz.prog Gl 60 [.agg (evC k fl (kindK k.code))] [] [] (.sl none 1 (intsAV (thirdK fl k))) [] [] := fs_texts hst hfl ht
        have d4 : ∀ t : Option Nm, FS Tryz.prog Gl 57 [.sl t 1 [[.sl none 1 (intsAV (firstK fl k (formK k.code).1 ((formK k.code).2.toNat : Int)))], [.sl none 1 (intsAV (secondK fl k))], [.sl none 1 (intsAV (thirdK fl k))]]] [] [] (.sl none 1 (parsAV (keySq fl k).ps)) [] [] := fun t => fs_params (l := [firstK fl k (formK k.code).1 ((formK k.code).2.toNat : Int), secondK fl k, thirdK fl k]) (tb := t) hst (by simp)
        have hthird : (thirdK fl k).length ≤ 1000000000000 := by
          unfold thirdK
          split
          · simp
          · have := allV_len k.text; omega
        have hfirst : (firstK fl k (formK k.code).1 ((formK k.code).2.toNat : Int)).length ≤ 10 := by
          unfold firstK
          split
          · simp
          · simp only
            repeat' split
            all_goals simp
        have hsec : (secondK fl k).length ≤ 10 := by
          unfold secondK
          repeat' split
          all_goals simp
        have hsm : (keySq fl k).sm := by
          have hmem : ∀ (n : Nat) (l : List (List Int)), ∀ p ∈ trimK l n, p ∈ l := by
            intro n l
            induction n with
            | zero => intro p hp; cases hp
            | succ n ih =>
              intro p hp
              rw [trimK] at hp
              split at hp
              · exact ih p hp
              · exact List.mem_of_mem_take hp
          have hlen : ∀ (n : Nat) (l : List (List Int)), (trimK l n).length ≤ l.length := by
            intro n l
            induction n with
            | zero => simp [trimK]
            | succ n ih =>
              rw [trimK]
              split
              · exact ih
              · rw [List.length_take]; omega
          refine ⟨?_, fun p hp => ?_, by simp [keySq], by simp [keySq]⟩
          · have := hlen 3 [firstK fl k (formK k.code).1 ((formK k.code).2.toNat : Int), secondK fl k, thirdK fl k]
            simp only [List.length_cons, List.length_nil] at this
            simp only [keySq]; omega
          · have := hmem 3 _ p hp
            simp only [List.mem_cons, List.not_mem_nil, or_false] at this
            rcases this with rfl | rfl | rfl <;> omega
        have hflt := formK_lt k.code
        have d5 : FS Tryz.prog Gl 40 [.agg [.int .i64 1, .int .u8 0, .sl none 1 (parsAV (keySq fl k).ps), .str [], .int .u8 ((formK k.code).2.toNat : Int), .str []]] [] [] (.tup [putV (keySq fl k), .int .i64 (mayP (keySq fl k))]) [] [] :=
          fs_wPut (s := keySq fl k) hst (by simp [keySq]) (by simp [keySq]) (by simp only [keySq]; omega) (by simp only [keySq]; omega) hsm
        have hrn : ∀ f, Ab.rn f (putV (keySq fl k)) = putV (keySq fl k) := fun f => by unfold putV; split <;> rfl
        have hpl := putV_le (keySq fl k)
        generalize putV (keySq fl k) = pv at *
        rw [evC] at d1 d2 d3
        refine DCall.new d1 ?_
        simp +contextual (maxSteps := 1000000) only [go_sem, reduceCtorEq, ↓reduceIte, Nat.reduceAdd, Nat.reduceEqDiff, Nat.reduceLeDiff, Nat.reduceMul, Nat.reduceBEq, Int.reduceBEq, Int.reduceBNe, Int.reduceLT, Int.reduceLE, Int.reduceGT, Int.reduceGE, Int.reduceToNat]
        refine DCall.new d2 ?_
        simp +contextual (maxSteps := 1000000) only [go_sem, reduceCtorEq, ↓reduceIte, Nat.reduceAdd, Nat.reduceEqDiff, Nat.reduceLeDiff, Nat.reduceMul, Nat.reduceBEq, Int.reduceBEq, Int.reduceBNe, Int.reduceLT, Int.reduceLE, Int.reduceGT, Int.reduceGE, Int.reduceToNat]
        refine DCall.new d3 ?_
        simp +contextual (maxSteps := 1000000) only [go_sem, reduceCtorEq, ↓reduceIte, Nat.reduceAdd, Nat.reduceEqDiff, Nat.reduceLeDiff, Nat.reduceMul, Nat.reduceBEq, Int.reduceBEq, Int.reduceBNe, Int.reduceLT, Int.reduceLE, Int.reduceGT, Int.reduceGE, Int.reduceToNat]
        refine ⟨by simp [AV.closedL, AV.closed], DCall.new (d4 _) ?_⟩
        simp +contextual (maxSteps := 1000000) only [go_sem, reduceCtorEq, ↓reduceIte, Nat.reduceAdd, Nat.reduceEqDiff, Nat.reduceLeDiff, Nat.reduceMul, Nat.reduceBEq, Int.reduceBEq, Int.reduceBNe, Int.reduceLT, Int.reduceLE, Int.reduceGT, Int.reduceGE, Int.reduceToNat]
        refine ⟨fun p hp => ?_, DCall.new d5 ?_⟩
        · simp only [List.mem_cons, List.not_mem_nil, or_false] at hp
          rcases hp with rfl | rfl | rfl <;> simp [Xev_t, Xev_c, mask_app, upd_app, AV.cells, oneL, AV.one]
        simp +contextual (maxSteps := 1000000) only [hrn, go_sem, reduceCtorEq, ↓reduceIte, Nat.reduceAdd, Nat.reduceEqDiff, Nat.reduceLeDiff, Nat.reduceMul, Nat.reduceBEq, Int.reduceBEq, Int.reduceBNe, Int.reduceLT, Int.reduceLE, Int.reduceGT, Int.reduceGE, Int.reduceToNat]
        rw [← hQ, hk2]
        exact ⟨trivial, .inl ⟨_, rfl, hpl⟩⟩
      · rw [if_pos hte] at hk2
        have hq : decide (((textK fl k).length : Int) > 0) = true := by
          have := List.length_pos_iff.2 hte
          simp; omega
        simp +contextual (maxSteps := 1000000) only [hq, go_sem, reduceCtorEq, ↓reduceIte, Nat.reduceAdd, Nat.reduceEqDiff, Nat.reduceLeDiff, Nat.reduceMul, Nat.reduceBEq, Int.reduceBEq, Int.reduceBNe, Int.reduceLT, Int.reduceLE, Int.reduceGT, Int.reduceGE, Int.reduceToNat]
        rw [← hQ, hk2]
        exact ⟨trivial, .inl ⟨_, rfl, RepLe.refl _⟩⟩
end Go.Proofs.YtbepihadhmfklaaGreatDoor

namespace Go.Proofs.YtbepihadhmfklaaGreatDoor
open Go Go.Ab

theorem allU_spec : ∀ (n : Nat) {b : List UInt8} {l : List Int}, b.length ≤ n → allU b = some l → b = l.flatMap putU ∧ (∀ r ∈ l, isCP r = true) ∧ l.length ≤ b.length := by
  intro n
  induction n with
  | zero =>
    intro b l hb h
    have : b = [] := List.length_eq_zero_iff.1 (by omega)
    subst this
    rw [allU_nil] at h
    cases h
    simp
  | succ n ih =>
    intro b l hb h
    by_cases hbe : b = []
    · subst hbe
      rw [allU_nil] at h
      cases h
      simp
    · cases ht : takeU b with
      | none => rw [allU_none hbe ht] at h; cases h
      | some p =>
        obtain ⟨r, m⟩ := p
        rw [allU_some hbe ht] at h
        obtain ⟨h1, h2, h3, h4⟩ := takeU_of ht
        obtain ⟨l', hl, rfl⟩ := Option.map_eq_some_iff.1 h
        obtain ⟨i1, i2, i3⟩ := ih (b := b.drop m) (by rw [List.length_drop]; omega) hl
        refine ⟨?_, ?_, ?_⟩
        · rw [List.flatMap_cons, ← i1, h4, List.take_append_drop]
        · intro x hx
          rcases List.mem_cons.1 hx with rfl | hx
          · refine putU_ne.1 fun e => ?_
            rw [e] at h4
            have := congrArg List.length h4
            rw [List.length_take] at this
            simp at this
            omega
          · exact i2 x hx
        · rw [List.length_drop] at i3
          simp only [List.length_cons]; omega
structure MayK (k : Ky) : Prop where
  kind : kindK k.code ≠ 0
  m0 : 0 ≤ k.mods
  m1 : k.mods ≤ 255
  t0 : 1 ≤ k.type
  t1 : k.type ≤ 3
  sh : k.shifted = 0 ∨ kindK k.shifted = 1
  ba : k.base = 0 ∨ kindK k.base = 1
  tx : cleanK k.text = true
theorem mayK_iff {k : Ky} : mayK k = true ↔ MayK k := by
  simp only [mayK, Bool.and_eq_true, Bool.or_eq_true, decide_eq_true_eq]
  constructor
  · rintro ⟨⟨⟨⟨⟨⟨⟨a, b⟩, c⟩, d⟩, e⟩, f⟩, g⟩, h⟩; exact ⟨a, b, c, d, e, f, g, h⟩
  · rintro ⟨a, b, c, d, e, f, g, h⟩; exact ⟨⟨⟨⟨⟨⟨⟨a, b⟩, c⟩, d⟩, e⟩, f⟩, g⟩, h⟩
theorem kind1 {c : Int} (h : kindK c = 1) : isCP c = true ∧ 32 ≤ c ∧ ¬(127 ≤ c ∧ c ≤ 159) := by
  unfold kindK lookR at h
  split at h
  · simp at h
  · split at h
    · simp at h
    · split at h
      · have : (padR c).kind = 5 := by unfold padR; split <;> rfl
        rw [this] at h; simp at h
      · simp only at h
        unfold restR at h
        split at h
        · simp at h
        · split at h
          · simp at h
          · split at h
            · simp at h
            · split at h
              · simp at h
              · rename_i hh
                simp only [not_or, Bool.not_eq_false] at hh
                exact ⟨hh.1, by omega, hh.2.2.1⟩
theorem kind_range {c : Int} (h : kindK c ≠ 0) : 0 ≤ c ∧ c ≤ 1114111 := by
  by_cases h1 : 9 ≤ c ∧ c ≤ 63743
  · omega
  · have : kindK c = 1 := by
      unfold kindK lookR at h ⊢
      have e1 : letR c = 0 := by
        unfold letR
        repeat (first | rfl | rw [if_neg (by omega)])
      have e2 : numR c = 0 := by
        unfold numR
        repeat (first | rfl | rw [if_neg (by omega)])
      rw [if_neg (by simp [e1]), if_neg (by simp [e2]), if_neg (by omega)] at h ⊢
      simp only at h ⊢
      unfold restR at h ⊢
      rw [if_neg (by omega), if_neg (by omega), if_neg (by omega)] at h ⊢
      split
      · rename_i hh; rw [if_pos hh] at h; exact absurd rfl h
      · rfl
    obtain ⟨a, _, _⟩ := kind1 this
    obtain ⟨n, rfl, _, _⟩ := isCP_spec a
    omega
theorem clean_spec {t : List UInt8} (h : cleanK t = true) : ∃ l, allU t = some l ∧ l.length ≤ 8 ∧ ∀ r ∈ l, isCP r = true ∧ 32 ≤ r := by
  unfold cleanK at h
  split at h
  · rename_i l hl
    simp only [Bool.and_eq_true, decide_eq_true_eq, List.all_eq_true] at h
    refine ⟨l, hl, h.1, fun r hr => ⟨(allU_spec _ (Nat.le_refl _) hl).2.1 r hr, ?_⟩⟩
    exact (h.2 r hr).1
  · cases h
theorem text_all {t : List UInt8} (h : cleanK t = true) (hne : t ≠ []) : (allV t).1 ≠ [] ∧ (allV t).1.length ≤ 8 ∧ ∀ r ∈ (allV t).1, 0 ≤ r ∧ r ≤ 1114111 := by
  obtain ⟨l, hl, h8, hr⟩ := clean_spec h
  have e : allV t = (l, true) := by rw [allV, hl]
  rw [e]
  refine ⟨?_, h8, fun r h => ?_⟩
  · rintro rfl
    exact hne (allU_spec _ (Nat.le_refl _) hl).1
  · obtain ⟨n, rfl, _, _⟩ := isCP_spec (hr r h).1
    omega
theorem shown_cp {k : Ky} (h : kindK k.code = 1) (hs : k.shifted = 0 ∨ kindK k.shifted = 1) : isCP (shownK k) = true ∧ 32 ≤ shownK k := by
  obtain ⟨a, b, _⟩ := kind1 h
  unfold shownK
  split
  · exact ⟨a, b⟩
  · split
    · rename_i h0
      rcases hs with e | e
      · exact absurd e h0
      · obtain ⟨a, b, _⟩ := kind1 e
        exact ⟨a, b⟩
    · split
      · refine ⟨?_, by omega⟩
        simp only [isCP, Bool.and_eq_true, Bool.or_eq_true, decide_eq_true_eq]; omega
      · exact ⟨a, b⟩
theorem letR_or (c : Int) : letR c = 0 ∨ 64 ≤ (letR c).toNat ∧ (letR c).toNat ≤ 126 := by
  unfold letR
  repeat' split
  all_goals first | (exact .inr (by decide)) | (exact .inl rfl) | (refine .inr ?_; rw [UInt8.toNat_ofNat', Nat.mod_eq_of_lt (by omega)]; omega)
theorem formK_ge {c : Int} (h : kindK c ≠ 0) : 64 ≤ (formK c).2.toNat ∧ (formK c).2.toNat ≤ 126 := by
  simp only [formK]
  rw [if_neg (show (lookR c).kind ≠ 0 from h)]
  split
  · decide
  · split
    · rename_i h1
      have e : (lookR c).final = letR c ∧ letR c ≠ 0 := by
        unfold lookR at h1 ⊢
        split
        · rename_i h2; exact ⟨rfl, h2⟩
        · rename_i h2
          rw [if_neg h2] at h1
          split at h1
          · simp at h1
          · split at h1
            · have : (padR c).kind = 5 := by unfold padR; split <;> rfl
              rw [this] at h1; simp at h1
            · simp only at h1
              unfold restR at h1
              have := h1.1
              split at this
              · simp at this
              · split at this
                · simp at this
                · split at this
                  · simp at this
                  · split at this <;> simp at this
      show 64 ≤ (lookR c).final.toNat ∧ (lookR c).final.toNat ≤ 126
      rw [e.1]
      exact (letR_or c).resolve_left e.2
    · split
      · exact ⟨show 64 ≤ (126 : UInt8).toNat by decide, show (126 : UInt8).toNat ≤ 126 by decide⟩
      · exact ⟨show 64 ≤ (117 : UInt8).toNat by decide, show (117 : UInt8).toNat ≤ 126 by decide⟩
theorem numR_or (c : Int) : 0 ≤ numR c ∧ numR c ≤ 100 := by
  unfold numR
  repeat' split
  all_goals omega
theorem formK_num {c : Int} (h : kindK c ≠ 0) : 0 ≤ (formK c).1 ∧ (formK c).1 ≤ 1114111 := by
  have hr := kind_range h
  simp only [formK]
  rw [if_neg (show (lookR c).kind ≠ 0 from h)]
  split
  · decide
  · split
    · exact ⟨show (0 : Int) ≤ 1 by omega, show (1 : Int) ≤ 1114111 by omega⟩
    · split
      · show 0 ≤ (lookR c).num ∧ (lookR c).num ≤ 1114111
        have := numR_or c
        unfold lookR
        repeat' split
        all_goals first | (show (0 : Int) ≤ 0 ∧ (0 : Int) ≤ 1114111; omega) | (show 0 ≤ numR c ∧ numR c ≤ 1114111; omega) | skip
        unfold padR
        split <;> (show (0 : Int) ≤ 0 ∧ (0 : Int) ≤ 1114111) <;> omega
      · exact hr
theorem trimK_spec (l : List (List Int)) : ∀ n, trimK l n = [] ∨ ∃ m, m < n ∧ trimK l n = l.take (m + 1) ∧ untoldK (l.getD m []) (m == 0) = false
  | 0 => .inl rfl
  | n + 1 => by
    rw [trimK]
    split
    · rcases trimK_spec l n with h | ⟨m, h1, h2, h3⟩
      · exact .inl h
      · exact .inr ⟨m, by omega, h2, h3⟩
    · rename_i h
      exact .inr ⟨n, by omega, rfl, by simpa using h⟩
structure PartK (p : List Int) : Prop where
  ne : p ≠ []
  le : p.length ≤ 8
  ok : ∀ n ∈ p, -1 ≤ n ∧ n ≤ 1114111
theorem first_ok {fl : Int} {k : Ky} (h : MayK k) : PartK (firstK fl k (formK k.code).1 (formK k.code).2.toNat) := by
  obtain ⟨a, b⟩ := formK_num h.kind
  have hs : 0 ≤ k.shifted ∧ k.shifted ≤ 1114111 := by
    rcases h.sh with e | e
    · omega
    · exact kind_range (by rw [e]; decide)
  have hb : 0 ≤ k.base ∧ k.base ≤ 1114111 := by
    rcases h.ba with e | e
    · omega
    · exact kind_range (by rw [e]; decide)
  unfold firstK
  generalize (formK k.code).1 = n at *
  split
  · exact ⟨by simp, by simp, by simp; omega⟩
  · simp only
    split
    · split
      · split
        · exact ⟨by simp, by simp, by simp; omega⟩
        · exact ⟨by simp, by simp, by simp; omega⟩
      · split
        · exact ⟨by simp, by simp, by simp; omega⟩
        · exact ⟨by simp, by simp, by simp; omega⟩
    · split
      · exact ⟨by simp, by simp, by simp; omega⟩
      · exact ⟨by simp, by simp, by simp; omega⟩
theorem second_ok {fl : Int} {k : Ky} (h : MayK k) : PartK (secondK fl k) := by
  have h1 := h.m0
  have h2 := h.m1
  have h3 := h.t0
  have h4 := h.t1
  have hp : paramK k.mods = k.mods + 1 := by rw [paramK, if_neg (by omega)]
  unfold secondK
  rw [hp]
  split
  · exact ⟨by simp, by simp, by simp; omega⟩
  · split
    · exact ⟨by simp, by simp, by simp; omega⟩
    · exact ⟨by simp, by simp, by simp⟩
theorem third_ok {fl : Int} {k : Ky} (h : MayK k) : PartK (thirdK fl k) := by
  unfold thirdK
  split
  · exact ⟨by simp, by simp, by simp⟩
  · rename_i hh
    have hne : k.text ≠ [] := by
      intro e
      simp [e] at hh
    obtain ⟨a, b, c⟩ := text_all h.tx hne
    exact ⟨a, b, fun n hn => by have := c n hn; omega⟩
theorem key_may {fl : Int} {k : Ky} (h : MayK k) : mayP (keySq fl k) = 0 := by
  have hf := formK_ge h.kind
  have hps : parsOk (keySq fl k).ps = true := by
    have hall : ∀ p ∈ [firstK fl k (formK k.code).1 (formK k.code).2.toNat, secondK fl k, thirdK fl k], PartK p := by
      intro p hp
      simp only [List.mem_cons, List.not_mem_nil, or_false] at hp
      rcases hp with rfl | rfl | rfl
      · exact first_ok h
      · exact second_ok h
      · exact third_ok h
    show parsOk (trimK _ 3) = true
    generalize hl : [firstK fl k (formK k.code).1 (formK k.code).2.toNat, secondK fl k, thirdK fl k] = l at hall
    have hlen : l.length = 3 := by rw [← hl]; rfl
    have good : ∀ m, m < 3 → (m = 0 → l.take 1 ≠ [[-1]]) → parsOk (l.take (m + 1)) = true := by
      intro m hm h1
      simp only [parsOk, Bool.and_eq_true, Bool.not_eq_true', Bool.or_eq_false_iff, decide_eq_false_iff_not]
      refine ⟨⟨by rw [List.length_take]; omega, fun e => ?_⟩, List.any_eq_false.2 fun p hp => ?_⟩
      · have := congrArg List.length e
        rw [List.length_take, hlen] at this
        simp at this
        have hm0 : m = 0 := by omega
        subst hm0
        exact h1 rfl e
      · have := hall p (List.mem_of_mem_take hp)
        simp only [parBad, Bool.or_eq_true, decide_eq_true_eq, not_or, List.any_eq_true, not_exists, not_and]
        refine ⟨fun n hn => by have := this.ok n hn; omega, ?_, by have := this.le; omega⟩
        have := List.length_pos_iff.2 this.ne
        omega
    rcases trimK_spec l 3 with e | ⟨m, hm, e, hu⟩
    · rw [e]; rfl
    · rw [e]
      refine good m hm fun h0 e1 => ?_
      subst h0
      have : l.getD 0 [] = [-1] := by
        have := congrArg (fun z : List (List Int) => z.getD 0 []) e1
        simpa [List.getD_eq_getElem?_getD, List.getElem?_take] using this
      rw [this] at hu
      cases hu
  have hsh : shapedP (keySq fl k) = true := by
    unfold shapedP
    rw [if_pos (show (keySq fl k).k = 1 from rfl)]
    simp only [keySq, Bool.and_eq_true, decide_eq_true_eq]
    exact ⟨⟨trivial, decide_eq_true (by omega)⟩, decide_eq_true (by omega)⟩
  unfold mayP
  rw [hps, hsh]
  rfl
theorem key_sm {fl : Int} {k : Ky} (h : MayK k) : (keySq fl k).sm := by
  have hp := parsOk_iff (may_pars (key_may (fl := fl) h))
  refine ⟨?_, fun p hp' => ?_, by simp [keySq], by simp [keySq]⟩
  · have := hp.1; omega
  · have := (hp.2.2 p hp').2.1; omega
theorem typed1 {c : Int} (h : kindK c = 1) : typedK c = false := by
  obtain ⟨_, a, b⟩ := kind1 h
  unfold typedK
  rw [Bool.or_eq_false_iff, Bool.or_eq_false_iff]
  exact ⟨⟨decide_eq_false (by omega), decide_eq_false (by omega)⟩, decide_eq_false (by omega)⟩
end Go.Proofs.YtbepihadhmfklaaGreatDoor

namespace Go.Proofs.YtbepihadhmfklaaGreatDoor
open Go Go.Ab
def ir_modsOld : ICode :=
 (.seq
 (.reg [⟨some 2, none, .mov (.c (.int .i64 0))⟩] (some [0]))
 (.seq
 (.reg [⟨some 3, none, .mov (.t 0)⟩,
 ⟨some 4, none, .mm false (.t 3) (.c (.int .i64 0))⟩,
 ⟨some 5, none, .bin .and .none (.t 4) (.c (.int .i64 7))⟩,
 ⟨some 2, none, .mov (.t 5)⟩] (some [2]))
 .ret))
theorem is_modsOld : IrOf Tryz.prog 43 6 ir_modsOld [.t 2] := ⟨_, Tryz.func43, rfl, by kernel_rfl, by kernel_rfl, by kernel_rfl⟩

def ir_clavierref10Old : ICode :=
 (.seq
 (.reg [⟨some 2, none, .mov (.c (.int .i64 0))⟩] (some [0]))
 (.seq
 (.reg [⟨some 3, none, .mov (.t 0)⟩,
 ⟨some 4, none, .mm false (.t 3) (.c (.int .i64 0))⟩,
 ⟨some 5, none, .bin .rem .none (.t 4) (.c (.int .i64 8))⟩,
 ⟨some 2, none, .mov (.t 5)⟩] (some [2]))
 .ret))
theorem is_clavierref10Old : IrOf Tryz.prog 25 6 ir_clavierref10Old [.t 2] := ⟨_, Tryz.func25, rfl, by kernel_rfl, by kernel_rfl, by kernel_rfl⟩

/- clavier/mods.Fold -/
def ir_modsFold_t4 : ICode :=
 (.seq
 (.reg [⟨some 43, none, .mov (.t 5)⟩,
 ⟨some 44, none, .mov (.t 6)⟩,
 ⟨some 2, none, .mov (.t 43)⟩,
 ⟨some 3, none, .mov (.t 44)⟩] (some [2, 3]))
 .ret)
def ir_modsFold_t3 : ICode :=
 (.seq
 (.reg [⟨some 37, none, .mov (.t 4)⟩,
 ⟨some 38, none, .mov (.t 0)⟩,
 ⟨some 39, none, .cvi .i32 (.t 38)⟩,
 ⟨some 40, none, .lkp .int (.int .i64 0) true (.t 37) (.t 39)⟩,
 ⟨some 36, none, .mov (.t 40)⟩,
 ⟨some 41, none, .ext (.t 36) 0⟩,
 ⟨some 42, none, .ext (.t 36) 1⟩,
 ⟨some 5, none, .mov (.t 41)⟩,
 ⟨some 6, none, .mov (.t 42)⟩] (some [5, 6]))
 ir_modsFold_t4)
def ir_modsFold_t2 : ICode :=
 (.seq
 (.blk 0
 (.seq
 (.reg [⟨some 10, none, .mov (.t 0)⟩,
 ⟨some 11, none, .bin .geq .none (.t 10) (.c (.int .i64 97))⟩,
 ⟨some 12, none, .mov (.t 11)⟩,
 ⟨some 13, some (12, true), .mov (.t 0)⟩,
 ⟨some 14, some (12, true), .bin .leq .none (.t 13) (.c (.int .i64 122))⟩,
 ⟨some 15, none, .pick (.t 12) (.t 14) (.c (.bool false))⟩,
 ⟨some 9, none, .mov (.t 15)⟩] (some [0, 4, 9]))
 (.cond (.t 9)
 (.seq
 (.reg [⟨some 16, none, .mov (.t 0)⟩,
 ⟨some 17, none, .bin .sub .none (.t 16) (.c (.int .i64 97))⟩,
 ⟨some 18, none, .bin .add .none (.t 17) (.c (.int .i64 1))⟩,
 ⟨some 2, none, .mov (.t 18)⟩,
 ⟨some 3, none, .mov (.c (.bool true))⟩] (some [2, 3]))
 .ret)
 (.seq
 (.reg [⟨some 20, none, .mov (.t 0)⟩,
 ⟨some 21, none, .bin .geq .none (.t 20) (.c (.int .i64 65))⟩,
 ⟨some 22, none, .mov (.t 21)⟩,
 ⟨some 23, some (22, true), .mov (.t 0)⟩,
 ⟨some 24, some (22, true), .bin .leq .none (.t 23) (.c (.int .i64 90))⟩,
 ⟨some 25, none, .pick (.t 22) (.t 24) (.c (.bool false))⟩,
 ⟨some 19, none, .mov (.t 25)⟩] (some [0, 4, 19]))
 (.cond (.t 19)
 (.seq
 (.reg [⟨some 26, none, .mov (.t 0)⟩,
 ⟨some 27, none, .bin .sub .none (.t 26) (.c (.int .i64 65))⟩,
 ⟨some 28, none, .bin .add .none (.t 27) (.c (.int .i64 1))⟩,
 ⟨some 2, none, .mov (.t 28)⟩,
 ⟨some 3, none, .mov (.c (.bool true))⟩] (some [2, 3]))
 .ret)
 (.seq
 (.reg [⟨some 30, none, .mov (.t 0)⟩,
 ⟨some 31, none, .bin .lss .none (.t 30) (.c (.int .i64 0))⟩,
 ⟨some 32, none, .mov (.t 31)⟩,
 ⟨some 33, some (32, false), .mov (.t 0)⟩,
 ⟨some 34, some (32, false), .bin .gtr .none (.t 33) (.c (.int .i64 255))⟩,
 ⟨some 35, none, .pick (.t 32) (.c (.bool true)) (.t 34)⟩,
 ⟨some 29, none, .mov (.t 35)⟩] (some [0, 4, 29]))
 (.cond (.t 29)
 (.seq
 (.reg [⟨some 2, none, .mov (.c (.int .i64 0))⟩,
 ⟨some 3, none, .mov (.c (.bool false))⟩] (some [2, 3]))
 .ret)
 .skip)))))))
 ir_modsFold_t3)
def ir_modsFold_t1 : ICode :=
 (.seq
 (.reg [⟨some 7, none, .mkm⟩,
 ⟨none, none, .ins .int (.t 7) (.c (.int .i32 32)) (.c (.int .i64 0))⟩,
 ⟨none, none, .ins .int (.t 7) (.c (.int .i32 50)) (.c (.int .i64 0))⟩,
 ⟨none, none, .ins .int (.t 7) (.c (.int .i32 64)) (.c (.int .i64 0))⟩,
 ⟨none, none, .ins .int (.t 7) (.c (.int .i32 51)) (.c (.int .i64 27))⟩,
 ⟨none, none, .ins .int (.t 7) (.c (.int .i32 91)) (.c (.int .i64 27))⟩,
 ⟨none, none, .ins .int (.t 7) (.c (.int .i32 52)) (.c (.int .i64 28))⟩,
 ⟨none, none, .ins .int (.t 7) (.c (.int .i32 92)) (.c (.int .i64 28))⟩,
 ⟨none, none, .ins .int (.t 7) (.c (.int .i32 53)) (.c (.int .i64 29))⟩,
 ⟨none, none, .ins .int (.t 7) (.c (.int .i32 93)) (.c (.int .i64 29))⟩,
 ⟨none, none, .ins .int (.t 7) (.c (.int .i32 54)) (.c (.int .i64 30))⟩,
 ⟨none, none, .ins .int (.t 7) (.c (.int .i32 94)) (.c (.int .i64 30))⟩,
 ⟨none, none, .ins .int (.t 7) (.c (.int .i32 55)) (.c (.int .i64 31))⟩,
 ⟨none, none, .ins .int (.t 7) (.c (.int .i32 47)) (.c (.int .i64 31))⟩,
 ⟨none, none, .ins .int (.t 7) (.c (.int .i32 95)) (.c (.int .i64 31))⟩,
 ⟨none, none, .ins .int (.t 7) (.c (.int .i32 56)) (.c (.int .i64 127))⟩,
 ⟨none, none, .ins .int (.t 7) (.c (.int .i32 63)) (.c (.int .i64 127))⟩,
 ⟨some 8, none, .mov (.t 7)⟩,
 ⟨some 4, none, .mov (.t 8)⟩] (some [0, 4]))
 ir_modsFold_t2)
def ir_modsFold : ICode :=
 (.seq
 (.reg [⟨some 2, none, .mov (.c (.int .i64 0))⟩,
 ⟨some 3, none, .mov (.c (.bool false))⟩] (some [0]))
 ir_modsFold_t1)
theorem is_modsFold : IrOf Tryz.prog 83 45 ir_modsFold [.t 2, .t 3] := ⟨_, Tryz.func83, rfl, by kernel_rfl, by kernel_rfl, by kernel_rfl⟩

def ir_clavierref10Fold : ICode :=
 (.seq
 (.reg [⟨some 2, none, .mov (.c (.int .i64 0))⟩,
 ⟨some 3, none, .mov (.c (.bool false))⟩] (some [0]))
 (.seq
 (.blk 0
 (.seq
 (.reg [⟨some 5, none, .mov (.t 0)⟩,
 ⟨some 6, none, .bin .eql .none (.t 5) (.c (.int .i64 32))⟩,
 ⟨some 7, none, .mov (.t 6)⟩,
 ⟨some 8, some (7, false), .mov (.t 0)⟩,
 ⟨some 9, some (7, false), .bin .eql .none (.t 8) (.c (.int .i64 50))⟩,
 ⟨some 10, none, .pick (.t 7) (.c (.bool true)) (.t 9)⟩,
 ⟨some 11, none, .mov (.t 10)⟩,
 ⟨some 12, some (11, false), .mov (.t 0)⟩,
 ⟨some 13, some (11, false), .bin .eql .none (.t 12) (.c (.int .i64 64))⟩,
 ⟨some 14, none, .pick (.t 11) (.c (.bool true)) (.t 13)⟩,
 ⟨some 4, none, .mov (.t 14)⟩] (some [0, 4]))
 (.cond (.t 4)
 (.seq
 (.reg [⟨some 2, none, .mov (.c (.int .i64 0))⟩,
 ⟨some 3, none, .mov (.c (.bool true))⟩] (some [2, 3]))
 .ret)
 (.seq
 (.reg [⟨some 16, none, .mov (.t 0)⟩,
 ⟨some 17, none, .bin .geq .none (.t 16) (.c (.int .i64 97))⟩,
 ⟨some 18, none, .mov (.t 17)⟩,
 ⟨some 19, some (18, true), .mov (.t 0)⟩,
 ⟨some 20, some (18, true), .bin .leq .none (.t 19) (.c (.int .i64 122))⟩,
 ⟨some 21, none, .pick (.t 18) (.t 20) (.c (.bool false))⟩,
 ⟨some 15, none, .mov (.t 21)⟩] (some [0, 15]))
 (.cond (.t 15)
 (.seq
 (.reg [⟨some 22, none, .mov (.t 0)⟩,
 ⟨some 23, none, .bin .sub .none (.t 22) (.c (.int .i64 96))⟩,
 ⟨some 2, none, .mov (.t 23)⟩,
 ⟨some 3, none, .mov (.c (.bool true))⟩] (some [2, 3]))
 .ret)
 (.seq
 (.reg [⟨some 25, none, .mov (.t 0)⟩,
 ⟨some 26, none, .bin .geq .none (.t 25) (.c (.int .i64 65))⟩,
 ⟨some 27, none, .mov (.t 26)⟩,
 ⟨some 28, some (27, true), .mov (.t 0)⟩,
 ⟨some 29, some (27, true), .bin .leq .none (.t 28) (.c (.int .i64 95))⟩,
 ⟨some 30, none, .pick (.t 27) (.t 29) (.c (.bool false))⟩,
 ⟨some 24, none, .mov (.t 30)⟩] (some [0, 24]))
 (.cond (.t 24)
 (.seq
 (.reg [⟨some 31, none, .mov (.t 0)⟩,
 ⟨some 32, none, .bin .sub .none (.t 31) (.c (.int .i64 64))⟩,
 ⟨some 2, none, .mov (.t 32)⟩,
 ⟨some 3, none, .mov (.c (.bool true))⟩] (some [2, 3]))
 .ret)
 (.seq
 (.reg [⟨some 34, none, .mov (.t 0)⟩,
 ⟨some 35, none, .bin .geq .none (.t 34) (.c (.int .i64 51))⟩,
 ⟨some 36, none, .mov (.t 35)⟩,
 ⟨some 37, some (36, true), .mov (.t 0)⟩,
 ⟨some 38, some (36, true), .bin .leq .none (.t 37) (.c (.int .i64 55))⟩,
 ⟨some 39, none, .pick (.t 36) (.t 38) (.c (.bool false))⟩,
 ⟨some 33, none, .mov (.t 39)⟩] (some [0, 33]))
 (.cond (.t 33)
 (.seq
 (.reg [⟨some 40, none, .mov (.t 0)⟩,
 ⟨some 41, none, .bin .add .none (.c (.int .i64 27)) (.t 40)⟩,
 ⟨some 42, none, .bin .sub .none (.t 41) (.c (.int .i64 51))⟩,
 ⟨some 2, none, .mov (.t 42)⟩,
 ⟨some 3, none, .mov (.c (.bool true))⟩] (some [2, 3]))
 .ret)
 (.seq
 (.reg [⟨some 44, none, .mov (.t 0)⟩,
 ⟨some 45, none, .bin .eql .none (.t 44) (.c (.int .i64 47))⟩,
 ⟨some 43, none, .mov (.t 45)⟩] (some [0, 43]))
 (.cond (.t 43)
 (.seq
 (.reg [⟨some 2, none, .mov (.c (.int .i64 31))⟩,
 ⟨some 3, none, .mov (.c (.bool true))⟩] (some [2, 3]))
 .ret)
 (.seq
 (.reg [⟨some 47, none, .mov (.t 0)⟩,
 ⟨some 48, none, .bin .eql .none (.t 47) (.c (.int .i64 56))⟩,
 ⟨some 49, none, .mov (.t 48)⟩,
 ⟨some 50, some (49, false), .mov (.t 0)⟩,
 ⟨some 51, some (49, false), .bin .eql .none (.t 50) (.c (.int .i64 63))⟩,
 ⟨some 52, none, .pick (.t 49) (.c (.bool true)) (.t 51)⟩,
 ⟨some 46, none, .mov (.t 52)⟩] (some [46]))
 (.cond (.t 46)
 (.seq
 (.reg [⟨some 2, none, .mov (.c (.int .i64 127))⟩,
 ⟨some 3, none, .mov (.c (.bool true))⟩] (some [2, 3]))
 .ret)
 .skip)))))))))))))
 (.seq
 (.reg [⟨some 2, none, .mov (.c (.int .i64 0))⟩,
 ⟨some 3, none, .mov (.c (.bool false))⟩] (some [2, 3]))
 .ret)))
theorem is_clavierref10Fold : IrOf Tryz.prog 90 53 ir_clavierref10Fold [.t 2, .t 3] := ⟨_, Tryz.func90, rfl, by kernel_rfl, by kernel_rfl, by kernel_rfl⟩

/- clavier/wire.Num -/
def ir_wireNum_l0 : ICode :=
 (.seq
 (.reg [⟨some 16, none, .bin .lss .none (.t 15) (.t 14)⟩] (some [6, 7, 13, 14, 15, 16]))
 (.seq
 (.cond (.t 16)
 .skip
 (.exit 0))
 (.seq
 (.blk 1
 (.seq
 (.reg [⟨some 17, none, .ia 1 (.t 13) (.t 15)⟩,
 ⟨some 18, none, .ld none (.t 17)⟩,
 ⟨some 9, none, .mov (.t 18)⟩] (some [6, 7, 9, 13, 14, 15]))
 (.reg [⟨some 19, none, .fa 2 (.t 7)⟩,
 ⟨some 20, none, .ld none (.t 19)⟩,
 ⟨some 21, none, .mov (.t 9)⟩,
 ⟨some 22, none, .row 3 1 [(.t 21)]⟩,
 ⟨some 23, none, .row 64 1 [(.t 22)]⟩,
 ⟨some 24, none, .app 64 1 24 (.t 20) (.t 23)⟩,
 ⟨some 25, none, .fa 2 (.t 7)⟩,
 ⟨none, none, .st 1 (.t 25) (.t 24)⟩] (some [6, 7, 13, 14, 15]))))
 (.reg [⟨some 26, none, .bin .add .none (.t 15) (.c (.int .i64 1))⟩,
 ⟨some 15, none, .mov (.t 26)⟩] (some [6, 7, 13, 14, 15])))))
def ir_wireNum : ICode :=
 (.seq
 (.reg [⟨some 6, none, .box 47 (.c (.agg [(.int .i64 0), (.int .u8 0), .nils, (.str []), (.int .u8 0), (.str [])]))⟩] (some [0, 1, 2, 6]))
 (.seq
 (.reg [⟨some 10, none, .mov (.t 0)⟩,
 ⟨some 11, none, .mov (.t 1)⟩,
 ⟨some 12, none, .bld [(.int .i64 0), (.int .u8 0), .nils, (.str []), (.int .u8 0), (.str [])] [(0, 1, (.c (.int .i64 1))), (1, 1, (.t 10)), (4, 1, (.t 11))]⟩,
 ⟨some 7, none, .box 47 (.c (.agg [(.int .i64 0), (.int .u8 0), .nils, (.str []), (.int .u8 0), (.str [])]))⟩,
 ⟨none, none, .st 6 (.t 7) (.t 12)⟩] (some [2, 6, 7]))
 (.seq
 (.seq
 (.reg [⟨some 13, none, .mov (.t 2)⟩,
 ⟨some 14, none, .len (.t 13)⟩,
 ⟨some 15, none, .mov (.c (.int .i64 0))⟩] (some [6, 7, 13, 14, 15]))
 (.blk 0
 (.loop
 ir_wireNum_l0)))
 (.seq
 (.reg [⟨some 27, none, .ld (some 6) (.t 7)⟩,
 ⟨none, none, .st 6 (.t 6) (.t 27)⟩] (some [6]))
 .ret))))
theorem is_wireNum : IrOf Tryz.prog 41 28 ir_wireNum [.cell 6 (some 6)] := ⟨_, Tryz.func41, rfl, by kernel_rfl, by kernel_rfl, by kernel_rfl⟩

def ir_legacybytes : ICode :=
 (.seq
 (.reg [⟨some 1, none, .box 47 (.t 0)⟩,
 ⟨some 2, none, .mov (.c .nils)⟩] (some [1]))
 (.seq
 (.reg [⟨some 6, none, .ld (some 6) (.t 1)⟩,
 ⟨some 7, none, .call (.c (.fn (.func 40) [] [])) [(.t 6)]⟩,
 ⟨some 5, none, .mov (.t 7)⟩,
 ⟨some 8, none, .ext (.t 5) 0⟩,
 ⟨some 9, none, .ext (.t 5) 1⟩,
 ⟨some 3, none, .mov (.t 8)⟩,
 ⟨some 4, none, .mov (.t 9)⟩] (some [3]))
 (.seq
 (.reg [⟨some 10, none, .mov (.t 3)⟩,
 ⟨some 2, none, .mov (.t 10)⟩] (some [2]))
 .ret)))
theorem is_legacybytes : IrOf Tryz.prog 112 11 ir_legacybytes [.t 2] := ⟨_, Tryz.func112, rfl, by kernel_rfl, by kernel_rfl, by kernel_rfl⟩

structure Md where
  cursor : Bool
  keypad : Bool
  back : Bool
  focus : Bool
  paste : Bool
  lock : Bool
  line : Bool
  mouse : Int
  coding : Int
  other : Int
def mdAV (m : Md) : List AV := [.bool m.cursor, .bool m.keypad, .bool m.back, .bool m.focus, .bool m.paste, .bool m.lock, .bool m.line, .int .i64 m.mouse, .int .i64 m.coding, .int .i64 m.other]
def oldK (m : Int) : Int := max m 0 % 8
theorem or7 : bits .or .i64 (bits .or .i64 1 2) 4 = 7 := by decide +kernel
theorem and7 {m : Int} (hm : m ≤ 9223372036854775807) : bits .and .i64 (max m 0) 7 = oldK m := by
  obtain ⟨n, hn⟩ := Int.eq_ofNat_of_zero_le (show 0 ≤ max m 0 by omega)
  unfold oldK
  rw [hn, show (7 : Int) = ((7 : Nat) : Int) from rfl, and_i64 (by omega) (by omega), show (7 : Nat) = 2 ^ 3 - 1 from rfl, Nat.and_two_pow_sub_one_eq_mod]
  omega
theorem fs_Old {Gl : Gh → Prop} (hst : Stays Gl) {m : Int} (hm2 : m ≤ 9223372036854775807) : FS Tryz.prog Gl 43 [.int .i64 m] [] [] (.int .i64 (oldK m)) [] [] := by
  refine FS.of hm hst is_modsOld (by simp) fun γ hγ hfr => ?_
  (generalize hQ : (fun (ex : Ex) (_ _ : Nat) (s : St) => _) = Q; unfold ir_modsOld)
  simp +contextual (maxSteps := 1000000) only [maxE, and7 hm2, or7, go_sem, reduceCtorEq, ↓reduceIte, Nat.reduceAdd, Nat.reduceEqDiff]
  rw [← hQ]
  exact ⟨trivial, Ret.flat rfl rfl⟩
theorem fs_rOld {Gl : Gh → Prop} (hst : Stays Gl) {m : Int} (hm2 : m ≤ 9223372036854775807) : FS Tryz.prog Gl 25 [.int .i64 m] [] [] (.int .i64 (oldK m)) [] [] := by
  refine FS.of hm hst is_clavierref10Old (by simp) fun γ hγ hfr => ?_
  have h' : IntKind.i64.wrap ((max m 0).tmod 8) = oldK m := by
    rw [Int.tmod_eq_emod_of_nonneg (by omega), IntKind.wrap_i64]; unfold oldK; omega
  have h : (max m 0).tmod 8 = oldK m := by
    rw [Int.tmod_eq_emod_of_nonneg (by omega)]; rfl
  (generalize hQ : (fun (ex : Ex) (_ _ : Nat) (s : St) => _) = Q; unfold ir_clavierref10Old)
  simp +contextual (maxSteps := 1000000) only [maxE, h, h', go_sem, reduceCtorEq, ↓reduceIte, Nat.reduceAdd, Nat.reduceEqDiff, Nat.reduceLeDiff, Nat.reduceMul, Nat.reduceBEq, Int.reduceBEq, Int.reduceBNe, Int.reduceLT, Int.reduceLE, Int.reduceGT, Int.reduceGE, Int.reduceToNat]
  refine ⟨by omega, ?_⟩
  rw [← hQ]
  exact ⟨trivial, Ret.flat rfl rfl⟩
def foldK (c : Int) : Option Int :=
  if c = 32 ∨ c = 50 ∨ c = 64 then some 0
  else if 97 ≤ c ∧ c ≤ 122 then some (c - 96)
  else if 65 ≤ c ∧ c ≤ 95 then some (c - 64)
  else if 51 ≤ c ∧ c ≤ 55 then some (27 + c - 51)
  else if c = 47 then some 31
  else if c = 56 ∨ c = 63 then some 127
  else none
def foldV (c : Int) : AV := .tup [.int .i64 ((foldK c).getD 0), .bool (foldK c).isSome]
theorem fold_some {c x : Int} (h : foldK c = some x) : foldV c = .tup [.int .i64 x, .bool true] := by unfold foldV; rw [h]; rfl
theorem fold_none {c : Int} (h : foldK c = none) : foldV c = .tup [.int .i64 0, .bool false] := by unfold foldV; rw [h]; rfl
theorem fs_rFold {Gl : Gh → Prop} (hst : Stays Gl) {c : Int} : FS Tryz.prog Gl 90 [.int .i64 c] [] [] (foldV c) [] [] := by
  refine FS.of hm hst is_clavierref10Fold (by simp) fun γ hγ hfr => ?_
  (generalize hQ : (fun (ex : Ex) (_ _ : Nat) (s : St) => _) = Q; unfold ir_clavierref10Fold)
  (simp +contextual (maxSteps := 1000000) only [go_sem, reduceCtorEq, ↓reduceIte, Nat.reduceAdd, Nat.reduceEqDiff, Nat.reduceLeDiff, Nat.reduceMul, Nat.reduceBEq, Int.reduceBEq, Int.reduceBNe, Int.reduceLT, Int.reduceLE, Int.reduceGT, Int.reduceGE, Int.reduceToNat]; repeat' first | ((first | refine kCond_split (fun hg => ?_) (fun hg => ?_) | refine kGc_split (fun hg => ?_) (fun hg => ?_) | refine kPreG_split (fun hg => ?_) (fun hg => ?_)) <;> (try rw [hg]) <;> simp +contextual (maxSteps := 1000000) only [go_sem, reduceCtorEq, ↓reduceIte, Nat.reduceAdd, Nat.reduceEqDiff, Nat.reduceLeDiff, Nat.reduceMul, Nat.reduceBEq, Int.reduceBEq, Int.reduceBNe, Int.reduceLT, Int.reduceLE, Int.reduceGT, Int.reduceGE, Int.reduceToNat]) | refine And.intro (by omega) ?_)
  all_goals simp only [Bool.or_eq_true, Bool.and_eq_true, beq_iff_eq, decide_eq_true_eq, Bool.or_eq_false_iff, Bool.and_eq_false_iff, beq_eq_false_iff_ne, decide_eq_false_iff_not] at *
  · rw [← hQ, fold_some (x := 0) (by unfold foldK; rw [if_pos (by omega)])]
    exact ⟨trivial, Ret.flatT rfl rfl⟩
  · rw [← hQ, fold_some (x := IntKind.i64.wrap (c - 96)) (by unfold foldK; rw [if_neg (by omega), if_pos (by omega), IntKind.wrap_i64]; congr 1; omega)]
    exact ⟨trivial, Ret.flatT rfl rfl⟩
  · rw [← hQ, fold_some (x := IntKind.i64.wrap (c - 64)) (by unfold foldK; rw [if_neg (by omega), if_neg (by omega), if_pos (by omega), IntKind.wrap_i64]; congr 1; omega)]
    exact ⟨trivial, Ret.flatT rfl rfl⟩
  · rw [← hQ, fold_some (x := IntKind.i64.wrap (IntKind.i64.wrap (27 + c) - 51)) (by unfold foldK; rw [if_neg (by omega), if_neg (by omega), if_neg (by omega), if_pos (by omega), IntKind.wrap_i64, IntKind.wrap_i64]; congr 1; omega)]
    exact ⟨trivial, Ret.flatT rfl rfl⟩
  · rw [← hQ, fold_some (x := 31) (by unfold foldK; rw [if_neg (by omega), if_neg (by omega), if_neg (by omega), if_neg (by omega), if_pos (by omega)])]
    exact ⟨trivial, Ret.flatT rfl rfl⟩
  · rw [← hQ, fold_some (x := 127) (by unfold foldK; rw [if_neg (by omega), if_neg (by omega), if_neg (by omega), if_neg (by omega), if_neg (by omega), if_pos (by omega)])]
    exact ⟨trivial, Ret.flatT rfl rfl⟩
  · rw [← hQ, fold_none (by unfold foldK; rw [if_neg (by omega), if_neg (by omega), if_neg (by omega), if_neg (by omega), if_neg (by omega), if_neg (by omega)])]
    exact ⟨trivial, Ret.flatT rfl rfl⟩
theorem fe_nil {kc : KC} {k : AV} : findE kc k [] = some none := rfl
theorem fe_int {k : IntKind} {a b : Int} {v : AV} {es : List (AV × AV)} : findE .int (.int k a) ((.int k b, v) :: es) = if (a == b) = true then some (some v) else findE .int (.int k a) es := by
  simp only [findE, keyEq, if_true]
  cases (a == b) <;> rfl
theorem isKey_int {k : IntKind} {a : Int} : (isKey .int (.int k a) = true) = True := by simp [isKey]
def foldsE : List (AV × AV) := [(.int .i32 32, .int .i64 0), (.int .i32 50, .int .i64 0), (.int .i32 64, .int .i64 0), (.int .i32 51, .int .i64 27), (.int .i32 91, .int .i64 27), (.int .i32 52, .int .i64 28), (.int .i32 92, .int .i64 28), (.int .i32 53, .int .i64 29), (.int .i32 93, .int .i64 29), (.int .i32 54, .int .i64 30), (.int .i32 94, .int .i64 30), (.int .i32 55, .int .i64 31), (.int .i32 47, .int .i64 31), (.int .i32 95, .int .i64 31), (.int .i32 56, .int .i64 127), (.int .i32 63, .int .i64 127)]
theorem folds_find {c : Int} (h1 : ¬(97 ≤ c ∧ c ≤ 122)) (h2 : ¬(65 ≤ c ∧ c ≤ 90)) : findE .int (.int .i32 c) foldsE = some ((foldK c).map fun f => .int .i64 f) := by
  unfold foldsE
  simp only [fe_int, fe_nil, beq_iff_eq]
  by_cases h : c = 32 ∨ c = 50 ∨ c = 64 ∨ c = 51 ∨ c = 91 ∨ c = 52 ∨ c = 92 ∨ c = 53 ∨ c = 93 ∨ c = 54 ∨ c = 94 ∨ c = 55 ∨ c = 47 ∨ c = 95 ∨ c = 56 ∨ c = 63
  · rcases h with rfl | rfl | rfl | rfl | rfl | rfl | rfl | rfl | rfl | rfl | rfl | rfl | rfl | rfl | rfl | rfl <;> rfl
  · have hn : foldK c = none := by unfold foldK; rw [if_neg (by omega), if_neg (by omega), if_neg (by omega), if_neg (by omega), if_neg (by omega), if_neg (by omega)]
    rw [hn]
    repeat (rw [if_neg (by omega)])
    rfl
theorem fs_Fold {Gl : Gh → Prop} (hst : Stays Gl) {c : Int} : FS Tryz.prog Gl 83 [.int .i64 c] [] [] (foldV c) [] [] := by
  refine FS.of hm hst is_modsFold (by simp) fun γ hγ hfr => ?_
  (generalize hQ : (fun (ex : Ex) (_ _ : Nat) (s : St) => _) = Q; unfold ir_modsFold)
  simp +contextual (maxSteps := 1000000) only [go_sem, reduceCtorEq, ↓reduceIte, Nat.reduceAdd, Nat.reduceEqDiff, Nat.reduceLeDiff, Nat.reduceMul, Nat.reduceBEq, Int.reduceBEq, Int.reduceBNe, Int.reduceLT, Int.reduceLE, Int.reduceGT, Int.reduceGE, Int.reduceToNat]
  unfold ir_modsFold_t1
  simp +contextual (maxSteps := 1000000) only [fe_nil, fe_int, isKey_int, go_sem, reduceCtorEq, ↓reduceIte, Nat.reduceAdd, Nat.reduceEqDiff, Nat.reduceLeDiff, Nat.reduceMul, Nat.reduceBEq, Int.reduceBEq, Int.reduceBNe, Int.reduceLT, Int.reduceLE, Int.reduceGT, Int.reduceGE, Int.reduceToNat]
  have hE : ∀ {P : List (AV × AV) → Prop}, P foldsE → P [(.int .i32 32, .int .i64 0), (.int .i32 50, .int .i64 0), (.int .i32 64, .int .i64 0), (.int .i32 51, .int .i64 27), (.int .i32 91, .int .i64 27), (.int .i32 52, .int .i64 28), (.int .i32 92, .int .i64 28), (.int .i32 53, .int .i64 29), (.int .i32 93, .int .i64 29), (.int .i32 54, .int .i64 30), (.int .i32 94, .int .i64 30), (.int .i32 55, .int .i64 31), (.int .i32 47, .int .i64 31), (.int .i32 95, .int .i64 31), (.int .i32 56, .int .i64 127), (.int .i32 63, .int .i64 127)] := fun h => h
  refine hE (P := fun es => aw Tryz.prog Gl ir_modsFold_t2 γ 21 ⟨lf [(0, .int .i64 c), (4, .mp (γ, 2, 0))], [((γ, 2, 0), .mapp es)], fun x => x ∈ []⟩ Q) ?_
  have hfind : ¬(97 ≤ c ∧ c ≤ 122) → ¬(65 ≤ c ∧ c ≤ 90) → findE .int (.int .i32 c) foldsE = some ((foldK c).map fun f => .int .i64 f) := folds_find
  generalize foldsE = es at hfind ⊢
  unfold ir_modsFold_t2
  simp +contextual (maxSteps := 1000000) only [go_sem, reduceCtorEq, ↓reduceIte, Nat.reduceAdd, Nat.reduceEqDiff, Nat.reduceLeDiff, Nat.reduceMul, Nat.reduceBEq, Int.reduceBEq, Int.reduceBNe, Int.reduceLT, Int.reduceLE, Int.reduceGT, Int.reduceGE, Int.reduceToNat]
  refine kCond_split (fun h => ?_) (fun h => ?_)
  · simp only [Bool.and_eq_true, decide_eq_true_eq] at h
    simp +contextual (maxSteps := 1000000) only [go_sem, reduceCtorEq, ↓reduceIte, Nat.reduceAdd, Nat.reduceEqDiff, Nat.reduceLeDiff, Nat.reduceMul, Nat.reduceBEq, Int.reduceBEq, Int.reduceBNe, Int.reduceLT, Int.reduceLE, Int.reduceGT, Int.reduceGE, Int.reduceToNat]
    rw [← hQ, fold_some (x := IntKind.i64.wrap (IntKind.i64.wrap (c - 97) + 1)) (by unfold foldK; rw [if_neg (by omega), if_pos (by omega), IntKind.wrap_i64, IntKind.wrap_i64]; congr 1; omega)]
    exact ⟨trivial, Ret.flatT rfl rfl⟩
  have h1 : ¬(97 ≤ c ∧ c ≤ 122) := fun e => by
    have : (decide (c ≥ 97) && decide (c ≤ 122)) = true := by simp; omega
    rw [h] at this; cases this
  simp +contextual (maxSteps := 1000000) only [go_sem, reduceCtorEq, ↓reduceIte, Nat.reduceAdd, Nat.reduceEqDiff, Nat.reduceLeDiff, Nat.reduceMul, Nat.reduceBEq, Int.reduceBEq, Int.reduceBNe, Int.reduceLT, Int.reduceLE, Int.reduceGT, Int.reduceGE, Int.reduceToNat]
  refine kCond_split (fun h => ?_) (fun h => ?_)
  · simp only [Bool.and_eq_true, decide_eq_true_eq] at h
    simp +contextual (maxSteps := 1000000) only [go_sem, reduceCtorEq, ↓reduceIte, Nat.reduceAdd, Nat.reduceEqDiff, Nat.reduceLeDiff, Nat.reduceMul, Nat.reduceBEq, Int.reduceBEq, Int.reduceBNe, Int.reduceLT, Int.reduceLE, Int.reduceGT, Int.reduceGE, Int.reduceToNat]
    rw [← hQ, fold_some (x := IntKind.i64.wrap (IntKind.i64.wrap (c - 65) + 1)) (by unfold foldK; rw [if_neg (by omega), if_neg (by omega), if_pos (by omega), IntKind.wrap_i64, IntKind.wrap_i64]; congr 1; omega)]
    exact ⟨trivial, Ret.flatT rfl rfl⟩
  have h2 : ¬(65 ≤ c ∧ c ≤ 90) := fun e => by
    have : (decide (c ≥ 65) && decide (c ≤ 90)) = true := by simp; omega
    rw [h] at this; cases this
  simp +contextual (maxSteps := 1000000) only [go_sem, reduceCtorEq, ↓reduceIte, Nat.reduceAdd, Nat.reduceEqDiff, Nat.reduceLeDiff, Nat.reduceMul, Nat.reduceBEq, Int.reduceBEq, Int.reduceBNe, Int.reduceLT, Int.reduceLE, Int.reduceGT, Int.reduceGE, Int.reduceToNat]
  refine kCond_split (fun h => ?_) (fun h => ?_)
  · simp only [Bool.or_eq_true, decide_eq_true_eq] at h
    simp +contextual (maxSteps := 1000000) only [go_sem, reduceCtorEq, ↓reduceIte, Nat.reduceAdd, Nat.reduceEqDiff, Nat.reduceLeDiff, Nat.reduceMul, Nat.reduceBEq, Int.reduceBEq, Int.reduceBNe, Int.reduceLT, Int.reduceLE, Int.reduceGT, Int.reduceGE, Int.reduceToNat]
    rw [← hQ, fold_none (by unfold foldK; rw [if_neg (by omega), if_neg (by omega), if_neg (by omega), if_neg (by omega), if_neg (by omega), if_neg (by omega)])]
    exact ⟨trivial, Ret.flatT rfl rfl⟩
  have h3 : ¬(c < 0 ∨ c > 255) := fun e => by
    have : (decide (c < 0) || decide (c > 255)) = true := by simp; omega
    rw [h] at this; cases this
  have hw : IntKind.i32.wrap c = c := by rw [IntKind.wrap_i32]; omega
  have hf := hfind h1 h2
  cases hk : foldK c with
  | none =>
    rw [hk, Option.map_none] at hf
    simp +contextual (maxSteps := 1000000) only [go_sem, reduceCtorEq, ↓reduceIte, Nat.reduceAdd, Nat.reduceEqDiff, Nat.reduceLeDiff, Nat.reduceMul, Nat.reduceBEq, Int.reduceBEq, Int.reduceBNe, Int.reduceLT, Int.reduceLE, Int.reduceGT, Int.reduceGE, Int.reduceToNat]
    unfold ir_modsFold_t3
    simp +contextual (maxSteps := 1000000) only [hw, hf, isKey_int, go_sem, reduceCtorEq, ↓reduceIte, Nat.reduceAdd, Nat.reduceEqDiff, Nat.reduceLeDiff, Nat.reduceMul, Nat.reduceBEq, Int.reduceBEq, Int.reduceBNe, Int.reduceLT, Int.reduceLE, Int.reduceGT, Int.reduceGE, Int.reduceToNat]
    unfold ir_modsFold_t4
    simp +contextual (maxSteps := 1000000) only [go_sem, reduceCtorEq, ↓reduceIte, Nat.reduceAdd, Nat.reduceEqDiff, Nat.reduceLeDiff, Nat.reduceMul, Nat.reduceBEq, Int.reduceBEq, Int.reduceBNe, Int.reduceLT, Int.reduceLE, Int.reduceGT, Int.reduceGE, Int.reduceToNat]
    rw [← hQ, fold_none hk]
    exact ⟨trivial, Ret.flatT rfl rfl⟩
  | some f =>
    rw [hk, Option.map_some] at hf
    simp +contextual (maxSteps := 1000000) only [go_sem, reduceCtorEq, ↓reduceIte, Nat.reduceAdd, Nat.reduceEqDiff, Nat.reduceLeDiff, Nat.reduceMul, Nat.reduceBEq, Int.reduceBEq, Int.reduceBNe, Int.reduceLT, Int.reduceLE, Int.reduceGT, Int.reduceGE, Int.reduceToNat]
    unfold ir_modsFold_t3
    simp +contextual (maxSteps := 1000000) only [hw, hf, isKey_int, go_sem, reduceCtorEq, ↓reduceIte, Nat.reduceAdd, Nat.reduceEqDiff, Nat.reduceLeDiff, Nat.reduceMul, Nat.reduceBEq, Int.reduceBEq, Int.reduceBNe, Int.reduceLT, Int.reduceLE, Int.reduceGT, Int.reduceGE, Int.reduceToNat]
    unfold ir_modsFold_t4
    simp +contextual (maxSteps := 1000000) only [go_sem, reduceCtorEq, ↓reduceIte, Nat.reduceAdd, Nat.reduceEqDiff, Nat.reduceLeDiff, Nat.reduceMul, Nat.reduceBEq, Int.reduceBEq, Int.reduceBNe, Int.reduceLT, Int.reduceLE, Int.reduceGT, Int.reduceGE, Int.reduceToNat]
    rw [← hQ, fold_some hk]
    exact ⟨trivial, Ret.flatT rfl rfl⟩
def numSq (k pr fi : Int) (nums : List Int) : Sq := ⟨k, pr, nums.map fun n => [n], [], fi, []⟩
theorem fs_Num {Gl : Gh → Prop} (hst : Stays Gl) {pr fi : Int} {nums : List Int} {tn : Option Nm} (hn : nums.length ≤ 1000) : FS Tryz.prog Gl 41 [.int .u8 pr, .int .u8 fi, .sl tn 1 (intsAV nums)] [] [] (.agg (numSq 1 pr fi nums).c) [] [] := by
  refine FS.ofW hm hst is_wireNum rfl (by simp) fun γ hγ hfr => ?_
  (generalize hQ : (fun (ex : Ex) (_ _ : Nat) (s : St) => _) = Q; unfold ir_wireNum)
  simp +contextual (maxSteps := 1000000) only [go_sem, reduceCtorEq, ↓reduceIte, Nat.reduceAdd, Nat.reduceEqDiff, Nat.reduceLeDiff, Nat.reduceMul, Nat.reduceBEq, Int.reduceBEq, Int.reduceBNe, Int.reduceLT, Int.reduceLE, Int.reduceGT, Int.reduceGE, Int.reduceToNat]
  refine kLoop_ix (fun q : Nat × Option Nm => ⟨lf [(6, .ptr (γ, 0, 0) 0), (7, .ptr (γ, 4, 0) 0), (13, .sl tn 1 (intsAV nums)), (14, .int .i64 nums.length), (15, .int .i64 q.1)], [((γ, 4, 0), .cells [.int .i64 1, .int .u8 pr, sv q.2 1 (parsAV ((nums.take q.1).map fun n => [n])), .str [], .int .u8 fi, .str []]), ((γ, 0, 0), .cells [.int .i64 0, .int .u8 0, .nils, .str [], .int .u8 0, .str []])], fun x => q.2 = some x⟩)
    (fun q => q.1 ≤ nums.length ∧ (q.2 = none → q.1 = 0)) (fun q => nums.length - q.1) 0 (0, none) ?_ ⟨by simp, by simp⟩ ?_
  · refine Wk.perm' ?_ (fun p hp => hp) (fun t ht => by cases ht)
    simp only [lfOK, intsAV_length]
    repeat' first | exact AVle.refl _ _ | exact trivial | refine And.intro ?_ ?_ | exact AVle.int (by simp only [IntKind.wrap_i64]; omega)
  rintro γ' ⟨i, tk⟩ hf ⟨hi, htk⟩
  simp only at hi htk hf
  generalize hQ' : kIt _ _ _ _ _ = Q'
  unfold ir_wireNum_l0
  by_cases hlt : i < nums.length
  · have hd : decide ((i : Int) < (nums.length : Int)) = true := decide_eq_true (by omega)
    have hg1 : (intsAV nums).getD i [] = [.int .i64 nums[i]] := intsAV_get hlt
    have hw : IntKind.i64.wrap ((i : Int) + 1) = ((i + 1 : Nat) : Int) := by rw [IntKind.wrap_i64]; omega
    have hsn : parsAV ((nums.take (i + 1)).map fun n => [n]) = parsAV ((nums.take i).map fun n => [n]) ++ [[intsV [nums[i]]]] := by
      rw [List.take_add_one, List.getElem?_eq_getElem hlt, List.map_append]
      unfold parsAV
      rw [List.map_append]; rfl
    have hln : (parsAV ((nums.take i).map fun n => [n])).length = i := by rw [parsAV_length, List.length_map, List.length_take]; omega
    cases tk with
    | none =>
      obtain rfl := htk rfl
      have hd0 : decide (0 < (nums.length : Int)) = true := decide_eq_true (by omega)
      have hg0 : (intsAV nums).getD 0 [] = [.int .i64 nums[0]] := hg1
      simp +contextual (maxSteps := 1000000) only [hd0, hg0, Int.toNat_natCast, intsAV_length, Int.toNat_zero, go_sem, reduceCtorEq, ↓reduceIte, Nat.reduceAdd, Nat.reduceEqDiff, Nat.reduceLeDiff, Nat.reduceMul, Nat.reduceBEq, Int.reduceBEq, Int.reduceBNe, Int.reduceLT, Int.reduceLE, Int.reduceGT, Int.reduceGE, Int.reduceToNat]
      refine ⟨by omega, ?_⟩
      rw [← hQ']
      simp only [w_kIt_n]
      refine ⟨0, (1, some (γ', 9, 0)), Wk.perm' ?_ (fun p hp => ?_) (fun t ht => ?_), ⟨by simp only; omega, by simp⟩, by simp only; omega⟩
      · repeat' first | exact AVle.refl _ _ | exact trivial | refine And.intro ?_ ?_ | exact AVle.int (by simp only [IntKind.wrap_i64]; omega)
      · have e : sv (some ((γ', 9, 0) : Nm)) 1 (parsAV ((nums.take 1).map fun n => [n])) = .sl (some (γ', 9, 0)) 1 [[.sl none 1 [[.int .i64 nums[0]]]]] := by
          rw [show nums.take 1 = [nums[0]] by cases nums with | nil => simp at hlt | cons x l => rfl]; rfl
        simp only [e] at hp
        exact hp
      · simp only [Option.some.injEq] at ht
        exact .inl ht.symm
    | some t0 =>
      simp +contextual (maxSteps := 1000000) only [hd, hg1, Int.toNat_natCast, intsAV_length, hln, go_sem, reduceCtorEq, ↓reduceIte, Nat.reduceAdd, Nat.reduceEqDiff, Nat.reduceLeDiff, Nat.reduceMul, Nat.reduceBEq, Int.reduceBEq, Int.reduceBNe, Int.reduceLT, Int.reduceLE, Int.reduceGT, Int.reduceGE, Int.reduceToNat]
      refine ⟨⟨by omega, by omega⟩, ⟨.inr (.inr trivial), by omega⟩, ?_⟩
      rw [← hQ']
      simp only [w_kIt_n]
      refine ⟨0, (i + 1, some (γ', 9, 0)), Wk.perm' ?_ (fun p hp => ?_) (fun t ht => ?_), ⟨by simp only; omega, by simp⟩, by simp only; omega⟩
      · rw [hw]
        repeat' first | exact AVle.refl _ _ | exact trivial | refine And.intro ?_ ?_ | exact AVle.int (by simp only [IntKind.wrap_i64]; omega)
      · simp only [sv_some, hsn] at hp
        exact hp
      · simp only [Option.some.injEq] at ht
        exact .inl ht.symm
  · have hd : decide ((i : Int) < (nums.length : Int)) = false := decide_eq_false (by omega)
    simp +contextual (maxSteps := 1000000) only [hd, go_sem, reduceCtorEq, ↓reduceIte, Nat.reduceAdd, Nat.reduceEqDiff, Nat.reduceLeDiff, Nat.reduceMul, Nat.reduceBEq, Int.reduceBEq, Int.reduceBNe, Int.reduceLT, Int.reduceLE, Int.reduceGT, Int.reduceGE, Int.reduceToNat]
    rw [← hQ']
    simp only [w_kIt_e, w_kBlk_e, ↓reduceIte]
    have hall : nums.take i = nums := List.take_of_length_le (by omega)
    cases tk with
    | none =>
      simp +contextual (maxSteps := 1000000) only [go_sem, reduceCtorEq, ↓reduceIte, Nat.reduceAdd, Nat.reduceEqDiff, Nat.reduceLeDiff, Nat.reduceMul, Nat.reduceBEq, Int.reduceBEq, Int.reduceBNe, Int.reduceLT, Int.reduceLE, Int.reduceGT, Int.reduceGE, Int.reduceToNat]
      obtain rfl := htk rfl
      have hz : (numSq 1 pr fi nums).c = [.int .i64 1, .int .u8 pr, .sl none 1 [], .str [], .int .u8 fi, .str []] := by
        have : nums = [] := List.length_eq_zero_iff.1 (by omega)
        subst this; rfl
      rw [← hQ, hz]
      refine ⟨trivial, .inl ⟨.agg [.int .i64 1, .int .u8 pr, .nils, .str [], .int .u8 fi, .str []], ?_, RepLe.agg ⟨.refl _, .refl _, .nils 1, .refl _, .refl _, .refl _, trivial⟩⟩⟩
      simp [resOf, getAll, IRes.get, lf, getH]
    | some t0 =>
      simp +contextual (maxSteps := 1000000) only [go_sem, reduceCtorEq, ↓reduceIte, Nat.reduceAdd, Nat.reduceEqDiff, Nat.reduceLeDiff, Nat.reduceMul, Nat.reduceBEq, Int.reduceBEq, Int.reduceBNe, Int.reduceLT, Int.reduceLE, Int.reduceGT, Int.reduceGE, Int.reduceToNat]
      rw [hall, ← hQ]
      refine ⟨trivial, .inl ⟨.agg [.int .i64 1, .int .u8 pr, .sl (some t0) 1 (parsAV (nums.map fun n => [n])), .str [], .int .u8 fi, .str []], ?_, RepLe.agg ⟨.refl _, .refl _, .anon' rfl, .refl _, .refl _, .refl _, trivial⟩⟩⟩
      simp [resOf, getAll, IRes.get, lf, getH]
theorem fs_bytes {Gl : Gh → Prop} (hst : Stays Gl) {s : Sq} (hp0 : 0 ≤ s.pr) (hp1 : s.pr < 256) (hf0 : 0 ≤ s.fi) (hf1 : s.fi < 128) (h : s.sm) : FS Tryz.prog Gl 112 [.agg s.c] [] [] (.sl none 1 (bytesAV (putX s))) [] [] := by
  refine FS.ofW hm hst is_legacybytes rfl (by simp) fun γ hγ hfr => ?_
  have c1 := fs_wPut (Gl := Gl) hst hp0 hp1 hf0 hf1 h
  have hrn : ∀ f, Ab.rn f (putV s) = putV s := fun f => by unfold putV; split <;> rfl
  have hpl := putV_le s
  generalize putV s = pv at *
  have hc : s.c = [.int .i64 s.k, .int .u8 s.pr, .sl none 1 (parsAV s.ps), .str s.it, .int .u8 s.fi, .str s.da] := rfl
  rw [hc] at c1
  (generalize hQ : (fun (ex : Ex) (_ _ : Nat) (s : St) => _) = Q; unfold ir_legacybytes)
  simp +contextual (maxSteps := 1000000) only [hc, go_sem, reduceCtorEq, ↓reduceIte, Nat.reduceAdd, Nat.reduceEqDiff]
  refine CallP.pure c1 (fun f => by simp only [Ab.rn, rnL, hrn]) ?_
  simp +contextual (maxSteps := 1000000) only [hrn, go_sem, reduceCtorEq, ↓reduceIte, Nat.reduceAdd, Nat.reduceEqDiff]
  rw [← hQ]
  exact ⟨trivial, .inl ⟨_, rfl, hpl⟩⟩
end Go.Proofs.YtbepihadhmfklaaGreatDoor

namespace Go.Proofs.YtbepihadhmfklaaGreatDoor
open Go Go.Ab
def ir_legacyahead : ICode :=
 (.seq
 (.reg [⟨some 2, none, .box 25 (.t 0)⟩] (some [1, 2]))
 (.seq
 (.reg [⟨some 4, none, .fa 1 (.t 2)⟩,
 ⟨some 5, none, .ld none (.t 4)⟩,
 ⟨some 6, none, .bin .and .none (.t 5) (.c (.int .i64 2))⟩,
 ⟨some 7, none, .bin .neq .none (.t 6) (.c (.int .i64 0))⟩] (some [1, 7]))
 (.cond (.t 7)
 (.reg [⟨some 8, none, .mov (.t 1)⟩,
 ⟨some 9, none, .row 5 1 [(.c (.int .u8 27))]⟩,
 ⟨some 10, none, .mov (.t 1)⟩,
 ⟨some 11, none, .nck (.t 10)⟩,
 ⟨some 12, none, .ld none (.t 11)⟩,
 ⟨some 13, none, .app 5 1 1 (.t 9) (.t 12)⟩,
 ⟨some 14, none, .nck (.t 8)⟩,
 ⟨none, none, .st 1 (.t 14) (.t 13)⟩] (some []))
 .skip)))
theorem is_legacyahead : IrOf Tryz.prog 111 15 ir_legacyahead [] := ⟨_, Tryz.func111, rfl, by kernel_rfl, by kernel_rfl, by kernel_rfl⟩

def ir_legacytext_a : ICode :=
 (.reg [⟨some 3, none, .box 23 (.t 0)⟩,
 ⟨some 4, none, .box 25 (.t 1)⟩,
 ⟨some 5, none, .box 41 (.t 2)⟩,
 ⟨some 6, none, .box 27 (.c .nils)⟩] (some [4, 6]))
def ir_legacytext_r : ICode :=
 (.seq
 (.reg [⟨some 12, none, .fa 1 (.t 4)⟩,
 ⟨some 13, none, .ld none (.t 12)⟩,
 ⟨some 14, none, .bin .and .none (.t 13) (.c (.int .i64 4))⟩,
 ⟨some 15, none, .bin .neq .none (.t 14) (.c (.int .i64 0))⟩,
 ⟨some 7, none, .mov (.t 15)⟩] (some [4, 6, 7]))
 (.seq
 (.seq
 (.reg [⟨some 16, none, .mov (.t 7)⟩,
 ⟨some 17, none, .un .not (.t 16)⟩,
 ⟨some 18, none, .mov (.t 17)⟩,
 ⟨some 19, some (18, true), .fa 5 (.t 4)⟩,
 ⟨some 20, some (18, true), .ld none (.t 19)⟩,
 ⟨some 21, some (18, true), .bin .neq .none (.t 20) (.c (.str []))⟩,
 ⟨some 22, none, .pick (.t 18) (.t 21) (.c (.bool false))⟩] (some [4, 6, 7, 22]))
 (.cond (.t 22)
 (.seq
 (.reg [⟨some 23, none, .fa 5 (.t 4)⟩,
 ⟨some 24, none, .ld none (.t 23)⟩,
 ⟨some 25, none, .s2b 5 (.t 24)⟩,
 ⟨none, none, .st 1 (.t 6) (.t 25)⟩] (some [6]))
 .ret)
 .skip))
 (.seq
 (.reg [⟨some 26, none, .ld (some 6) (.t 4)⟩,
 ⟨some 27, none, .call (.c (.fn (.func 84) [] [])) [(.t 26)]⟩,
 ⟨some 8, none, .mov (.t 27)⟩] (some [6, 7, 8]))
 (.seq
 (.seq
 (.reg [⟨some 29, none, .mov (.t 8)⟩,
 ⟨some 30, none, .call (.c (.fn (.func 83) [] [])) [(.t 29)]⟩,
 ⟨some 28, none, .mov (.t 30)⟩,
 ⟨some 31, none, .ext (.t 28) 0⟩,
 ⟨some 32, none, .ext (.t 28) 1⟩,
 ⟨some 9, none, .mov (.t 31)⟩,
 ⟨some 10, none, .mov (.t 32)⟩] (some [6, 7, 8, 9, 10]))
 (.seq
 (.reg [⟨some 33, none, .mov (.t 10)⟩,
 ⟨some 34, none, .mov (.t 33)⟩,
 ⟨some 35, some (34, true), .mov (.t 7)⟩,
 ⟨some 36, none, .pick (.t 34) (.t 35) (.c (.bool false))⟩] (some [6, 8, 9, 36]))
 (.cond (.t 36)
 (.seq
 (.reg [⟨some 37, none, .mov (.t 9)⟩,
 ⟨some 38, none, .cvi .u8 (.t 37)⟩,
 ⟨some 39, none, .row 5 1 [(.t 38)]⟩,
 ⟨none, none, .st 1 (.t 6) (.t 39)⟩] (some [6]))
 .ret)
 .skip)))
 (.seq
 (.reg [⟨some 40, none, .mov (.t 8)⟩,
 ⟨some 41, none, .call (.c (.fn (.func 51) [] [])) [(.t 40)]⟩,
 ⟨none, none, .st 1 (.t 6) (.t 41)⟩] (some [6]))
 .ret)))))
def ir_legacytext : IDef := ⟨ir_legacytext_a, [⟨some 11, none, .ld (some 6) (.t 4)⟩], 111, [(.t 11), (.t 6)], ir_legacytext_r⟩
theorem is_legacytext : IrOfD Tryz.prog 61 42 ir_legacytext [.cell 6 none] := ⟨_, Tryz.func61, rfl, by kernel_rfl, by kernel_rfl, by kernel_rfl⟩

def ir_legacyplain_a : ICode :=
 (.reg [⟨some 3, none, .box 23 (.t 0)⟩,
 ⟨some 4, none, .box 25 (.t 1)⟩,
 ⟨some 5, none, .box 41 (.t 2)⟩,
 ⟨some 6, none, .box 27 (.c .nils)⟩] (some [3, 4, 6]))
def ir_legacyplain_r : ICode :=
 (.seq
 (.blk 0
 (.seq
 (.reg [⟨some 9, none, .fa 0 (.t 4)⟩,
 ⟨some 10, none, .ld none (.t 9)⟩,
 ⟨some 11, none, .bin .eql .none (.t 10) (.c (.int .i64 9))⟩,
 ⟨some 12, none, .mov (.t 11)⟩,
 ⟨some 13, some (12, true), .fa 1 (.t 4)⟩,
 ⟨some 14, some (12, true), .ld none (.t 13)⟩,
 ⟨some 15, some (12, true), .bin .and .none (.t 14) (.c (.int .i64 1))⟩,
 ⟨some 16, some (12, true), .bin .neq .none (.t 15) (.c (.int .i64 0))⟩,
 ⟨some 17, none, .pick (.t 12) (.t 16) (.c (.bool false))⟩,
 ⟨some 8, none, .mov (.t 17)⟩] (some [3, 4, 6, 8]))
 (.cond (.t 8)
 (.seq
 (.reg [⟨some 18, none, .call (.c (.fn (.func 41) [] [])) [(.c (.int .u8 0)), (.c (.int .u8 90)), (.c .nils)]⟩,
 ⟨some 19, none, .call (.c (.fn (.func 112) [] [])) [(.t 18)]⟩,
 ⟨none, none, .st 1 (.t 6) (.t 19)⟩] (some [6]))
 .ret)
 (.seq
 (.reg [⟨some 21, none, .fa 0 (.t 4)⟩,
 ⟨some 22, none, .ld none (.t 21)⟩,
 ⟨some 23, none, .bin .eql .none (.t 22) (.c (.int .i64 13))⟩,
 ⟨some 24, none, .mov (.t 23)⟩,
 ⟨some 25, some (24, true), .fa 6 (.t 3)⟩,
 ⟨some 26, some (24, true), .ld none (.t 25)⟩,
 ⟨some 27, none, .pick (.t 24) (.t 26) (.c (.bool false))⟩,
 ⟨some 20, none, .mov (.t 27)⟩] (some [3, 4, 6, 20]))
 (.cond (.t 20)
 (.seq
 (.reg [⟨some 28, none, .row 5 1 [(.c (.int .u8 13)), (.c (.int .u8 10))]⟩,
 ⟨none, none, .st 1 (.t 6) (.t 28)⟩] (some [6]))
 .ret)
 (.seq
 (.reg [⟨some 30, none, .fa 0 (.t 4)⟩,
 ⟨some 31, none, .ld none (.t 30)⟩,
 ⟨some 32, none, .bin .eql .none (.t 31) (.c (.int .i64 127))⟩,
 ⟨some 33, none, .mov (.t 32)⟩,
 ⟨some 34, some (33, true), .fa 2 (.t 3)⟩,
 ⟨some 35, some (33, true), .ld none (.t 34)⟩,
 ⟨some 36, some (33, true), .fa 1 (.t 4)⟩,
 ⟨some 37, some (33, true), .ld none (.t 36)⟩,
 ⟨some 38, some (33, true), .bin .and .none (.t 37) (.c (.int .i64 4))⟩,
 ⟨some 39, some (33, true), .bin .neq .none (.t 38) (.c (.int .i64 0))⟩,
 ⟨some 40, some (33, true), .bin .neq .bool (.t 35) (.t 39)⟩,
 ⟨some 41, none, .pick (.t 33) (.t 40) (.c (.bool false))⟩,
 ⟨some 29, none, .mov (.t 41)⟩] (some [4, 6, 29]))
 (.cond (.t 29)
 (.seq
 (.reg [⟨some 42, none, .row 5 1 [(.c (.int .u8 8))]⟩,
 ⟨none, none, .st 1 (.t 6) (.t 42)⟩] (some [6]))
 .ret)
 .skip)))))))
 (.seq
 (.reg [⟨some 43, none, .fa 0 (.t 4)⟩,
 ⟨some 44, none, .ld none (.t 43)⟩,
 ⟨some 45, none, .cvi .u8 (.t 44)⟩,
 ⟨some 46, none, .row 5 1 [(.t 45)]⟩,
 ⟨none, none, .st 1 (.t 6) (.t 46)⟩] (some [6]))
 .ret))
def ir_legacyplain : IDef := ⟨ir_legacyplain_a, [⟨some 7, none, .ld (some 6) (.t 4)⟩], 111, [(.t 7), (.t 6)], ir_legacyplain_r⟩
theorem is_legacyplain : IrOfD Tryz.prog 62 47 ir_legacyplain [.cell 6 none] := ⟨_, Tryz.func62, rfl, by kernel_rfl, by kernel_rfl, by kernel_rfl⟩

def aheadK (k : Ky) (b : List UInt8) : List UInt8 := if hasK k.mods 2 = true then 27 :: b else b
theorem hasB {m : Int} (h0 : 0 ≤ m) (h1 : m ≤ 255) (j : Nat) (hj : j < 63) : (bits .and .i64 m ((2 ^ j : Nat) : Int) != 0) = hasK m ((2 ^ j : Nat) : Int) := by
  have := has_and (m := m) (by omega) j hj
  rw [show max m 0 = m by omega] at this
  rw [bne, this, Bool.not_not]
theorem CallD.one {P : Program} {Gl : Gh → Prop} {k : FuncId} {args : List AV} {p : Nm} {z : AV} {s : St} {R : AV → Prop} {K : St → Prop} (h : FSD P Gl k args [(p, .cells [z])] (fun _ => False) fun H1 _ => ∃ z', R z' ∧ H1 = [(p, .cells [z'])])
    (hs : (p, .cells [z]) ∈ s.H) (hK : ∀ z', R z' → K ⟨s.F, [(p, .cells [z'])], fun _ => False⟩) : CallD P Gl k args s K := by
  refine ⟨_, _, _, h, fun q hq => ?_, fun t ht => ht.elim, ?_⟩
  · simp only [List.mem_singleton] at hq; subst hq; exact hs
  · rintro H1 T1 ⟨z', hz, rfl⟩
    exact ⟨_, _, fun q hq => List.mem_append.2 (.inl hq), fun t ht => ht.elim, hK z' hz⟩
theorem fd_ahead {Gl : Gh → Prop} (hst : Stays Gl) {k : Ky} {p : Nm} (hp : 1 ≤ p.1) {t : Option Nm} {b : List UInt8} (h0 : 0 ≤ k.mods) (h1 : k.mods ≤ 255) (hl : b.length ≤ 10000000000000) :
    FSD Tryz.prog Gl 111 [.agg (kyAV k), .ptr p 0] [(p, .cells [.sl t 1 (bytesAV b)])] (fun _ => False) fun H1 _ => ∃ z', RepLe z' (.sl none 1 (bytesAV (aheadK k b))) ∧ H1 = [(p, .cells [z'])] := by
  refine FSD.of hm hst is_legacyahead rfl (by simp) fun γ hγ hfr => ?_
  have hq := hasB h0 h1 1 (by omega)
  have hq : (bits .and .i64 k.mods 2 != 0) = hasK k.mods 2 := hq
  have hky : kyAV k = [.int .i64 k.code, .int .i64 k.mods, .int .i64 k.type, .int .i64 k.shifted, .int .i64 k.base, .str k.text] := rfl
  have hz : aheadK k b = if hasK k.mods 2 = true then 27 :: b else b := rfl
  have hne : ((γ, 0, 0) = p) = False := eq_false fun e => hfr.1 (p, .cells [.sl t 1 (bytesAV b)]) List.mem_cons_self (by rw [← e])
  have hne2 : (p = (γ, 0, 0)) = False := eq_false fun e => hfr.1 (p, .cells [.sl t 1 (bytesAV b)]) List.mem_cons_self (by rw [e])
  (generalize hQ : (fun (ex : Ex) (_ _ : Nat) (s : St) => _) = Q; unfold ir_legacyahead)
  simp +contextual (maxSteps := 1000000) only [hky, hq, go_sem, reduceCtorEq, ↓reduceIte, Nat.reduceAdd, Nat.reduceEqDiff]
  cases hB : hasK k.mods 2 with
  | false =>
    simp +contextual (maxSteps := 1000000) only [hB, hne, hne2, go_sem, reduceCtorEq, ↓reduceIte, Nat.reduceAdd, Nat.reduceEqDiff]
    rw [← hQ]
    refine ⟨trivial, [(p, .cells [.sl t 1 (bytesAV b)])], fun _ => False, ⟨_, ?_, rfl⟩, ?_, fun _ h => h.elim⟩
    · rw [hz, hB]; exact RepLe.anon _ _ _
    · intro q hq'
      exact List.mem_cons_of_mem _ hq'
  | true =>
    simp +contextual (maxSteps := 1000000) only [hB, hne, hne2, bytesAV_length', go_sem, reduceCtorEq, ↓reduceIte, Nat.reduceAdd, Nat.reduceEqDiff]
    refine ⟨by omega, ?_⟩
    rw [← hQ]
    refine ⟨trivial, _, fun _ => False, ⟨_, ?_, rfl⟩, fun q hq' => List.mem_cons_of_mem _ hq', fun _ h => h.elim⟩
    rw [hz, hB]
    exact RepLe.anon' rfl
theorem fold_range (c : Int) : 0 ≤ (foldK c).getD 0 ∧ (foldK c).getD 0 ≤ 127 := by
  unfold foldK
  repeat' split
  all_goals simp only [Option.getD_some, Option.getD_none]
  all_goals omega
def shownL (k : Ky) : List UInt8 :=
  if (!hasK k.mods 4 && !decide (k.text = [])) = true then k.text
  else if ((foldK (shownK k)).isSome && hasK k.mods 4) = true then [UInt8.ofNat ((foldK (shownK k)).getD 0).toNat] else putU (shownK k)
def textL (k : Ky) : List UInt8 := aheadK k (shownL k)
def plainB (m : Md) (k : Ky) : List UInt8 :=
  if ((k.code == 9) && hasK k.mods 1) = true then putX (numSq 1 0 90 [])
  else if ((k.code == 13) && m.line) = true then [13, 10]
  else if ((k.code == 127) && !(m.back == hasK k.mods 4)) = true then [8]
  else [UInt8.ofNat (k.code % 256).toNat]
def plainL (m : Md) (k : Ky) : List UInt8 := aheadK k (plainB m k)
set_option maxHeartbeats 4000000 in
theorem fs_textL {Gl : Gh → Prop} (hst : Stays Gl) {m : Md} {k : Ky} {e : Ent} (h0 : 0 ≤ k.mods) (h1 : k.mods ≤ 255) (ht : k.text.length ≤ 1000000000000) : FS Tryz.prog Gl 61 [.agg (mdAV m), .agg (kyAV k), .agg (entAV e)] [] [] (.sl none 1 (bytesAV (textL k))) [] [] := by
  refine FS.ofD hm hst is_legacytext rfl rfl (by simp) fun γ hγ hfr => ?_
  have hky : kyAV k = [.int .i64 k.code, .int .i64 k.mods, .int .i64 k.type, .int .i64 k.shifted, .int .i64 k.base, .str k.text] := rfl
  have hq : (bits .and .i64 k.mods 4 != 0) = hasK k.mods 4 := hasB h0 h1 2 (by omega)
  have c1 := fs_Shown (Gl := Gl) hst (k := k) (by omega)
  have c2 : FS Tryz.prog Gl 83 [.int .i64 (shownK k)] [] [] (.tup [.int .i64 ((foldK (shownK k)).getD 0), .bool (foldK (shownK k)).isSome]) [] [] := fs_Fold (Gl := Gl) hst
  rw [hky] at c1
  simp only [mdAV, hky, entAV]
  generalize hQ : (fun (ex : Ex) (_ _ : Nat) (s : St) => _) = Q
  show aw _ _ ir_legacytext_a γ 0 _ Q
  unfold ir_legacytext_a
  simp +contextual (maxSteps := 1000000) only [go_sem, reduceCtorEq, ↓reduceIte, Nat.reduceAdd, Nat.reduceEqDiff]
  rw [← hQ]
  refine ⟨rfl, ?_⟩
  simp only [ir_legacytext]
  generalize hK : (fun s : St => _) = K
  simp +contextual (maxSteps := 1000000) only [go_sem, reduceCtorEq, ↓reduceIte, Nat.reduceAdd, Nat.reduceEqDiff]
  rw [← hK]
  clear hK
  simp only [Xev_t, upd_app, lf_cons, List.map_cons, List.map_nil, List.length_cons, List.length_nil, ↓reduceIte, Nat.reduceEqDiff]
  have fin : ∀ {s₃ : St} {t : Option Nm} {b : List UInt8}, b.length ≤ 10000000000000 → ((γ, 3, 0), HB.cells [.sl t 1 (bytesAV b)]) ∈ s₃.H → s₃.F 6 = .ptr (γ, 3, 0) 0 → aheadK k b = textL k →
      CallD Tryz.prog Gl 111 [.agg [.int .i64 k.code, .int .i64 k.mods, .int .i64 k.type, .int .i64 k.shifted, .int .i64 k.base, .str k.text], .ptr (γ, 3, 0) 0] s₃ fun s₄ => ∃ x, resOf s₄ [IRes.cell 6 none] = some x ∧ RepLe x (.sl none 1 (bytesAV (textL k))) := by
    intro s₃ t b hb hH hF hz
    refine CallD.one (fd_ahead hst (k := k) hγ h0 h1 hb) hH fun z' hz' => ⟨z', ?_, by rw [← hz]; exact hz'⟩
    simp [resOf, getAll, IRes.get, hF, getH]
  generalize hR : (fun (ex : Ex) (_ _ : Nat) (s : St) => _) = R
  have hsh : shownL k = if (!hasK k.mods 4 && !decide (k.text = [])) = true then k.text
    else if ((foldK (shownK k)).isSome && hasK k.mods 4) = true then [UInt8.ofNat ((foldK (shownK k)).getD 0).toNat] else putU (shownK k) := rfl
  have htx : textL k = aheadK k (shownL k) := rfl
  unfold ir_legacytext_r
  simp +contextual (maxSteps := 1000000) only [hq, go_sem, reduceCtorEq, ↓reduceIte, Nat.reduceAdd, Nat.reduceEqDiff]
  cases hA : (!hasK k.mods 4 && !decide (k.text = [])) with
  | true =>
    simp +contextual (maxSteps := 1000000) only [hA, go_sem, reduceCtorEq, ↓reduceIte, Nat.reduceAdd, Nat.reduceEqDiff]
    refine ⟨by simp only [maxLen]; omega, ?_⟩
    rw [← hR]
    exact ⟨trivial, fin (t := none) (b := k.text) (by omega) (by simp) rfl (by rw [htx, hsh, if_pos hA])⟩
  | false =>
    simp +contextual (maxSteps := 1000000) only [hA, go_sem, reduceCtorEq, ↓reduceIte, Nat.reduceAdd, Nat.reduceEqDiff]
    (refine CallP.pure (c1) (fun _ => rfl) ?_; simp +contextual (maxSteps := 1000000) only [go_sem, reduceCtorEq, ↓reduceIte, Nat.reduceAdd, Nat.reduceEqDiff])
    (refine CallP.pure (c2) (fun _ => rfl) ?_; simp +contextual (maxSteps := 1000000) only [go_sem, reduceCtorEq, ↓reduceIte, Nat.reduceAdd, Nat.reduceEqDiff])
    cases hB : ((foldK (shownK k)).isSome && hasK k.mods 4) with
    | true =>
      simp +contextual (maxSteps := 1000000) only [hB, go_sem, reduceCtorEq, ↓reduceIte, Nat.reduceAdd, Nat.reduceEqDiff]
      rw [← hR]
      have hrow : [[AV.int IntKind.u8 (IntKind.u8.wrap ((foldK (shownK k)).getD 0))]] = bytesAV [UInt8.ofNat ((foldK (shownK k)).getD 0).toNat] := by
        obtain ⟨f0, f1⟩ := fold_range (shownK k)
        generalize (foldK (shownK k)).getD 0 = f at *
        have : ((UInt8.ofNat f.toNat).toNat : Int) = IntKind.u8.wrap f := by
          rw [IntKind.wrap_u8, UInt8.toNat_ofNat', Nat.mod_eq_of_lt (by omega)]; omega
        simp only [bytesAV, List.map_cons, List.map_nil, this]
      rw [hrow]
      exact ⟨trivial, fin (t := some (γ, 34, 0)) (b := [UInt8.ofNat ((foldK (shownK k)).getD 0).toNat]) (by simp) (by simp) rfl (by rw [htx, hsh, if_neg (by rw [hA]; simp), if_pos hB])⟩
    | false =>
      simp +contextual (maxSteps := 1000000) only [hB, go_sem, reduceCtorEq, ↓reduceIte, Nat.reduceAdd, Nat.reduceEqDiff]
      (refine CallP.pure (fs_putU hst) (fun _ => rfl) ?_; simp +contextual (maxSteps := 1000000) only [go_sem, reduceCtorEq, ↓reduceIte, Nat.reduceAdd, Nat.reduceEqDiff])
      rw [← hR]
      have := putU_len (shownK k)
      exact ⟨trivial, fin (t := none) (b := putU (shownK k)) (by omega) (by simp) rfl (by rw [htx, hsh, if_neg (by rw [hA]; simp), if_neg (by rw [hB]; simp)])⟩
set_option maxHeartbeats 4000000 in
theorem fs_plainL {Gl : Gh → Prop} (hst : Stays Gl) {m : Md} {k : Ky} {e : Ent} (h0 : 0 ≤ k.mods) (h1 : k.mods ≤ 255) : FS Tryz.prog Gl 62 [.agg (mdAV m), .agg (kyAV k), .agg (entAV e)] [] [] (.sl none 1 (bytesAV (plainL m k))) [] [] := by
  refine FS.ofD hm hst is_legacyplain rfl rfl (by simp) fun γ hγ hfr => ?_
  have hky : kyAV k = [.int .i64 k.code, .int .i64 k.mods, .int .i64 k.type, .int .i64 k.shifted, .int .i64 k.base, .str k.text] := rfl
  have hq : (bits .and .i64 k.mods 4 != 0) = hasK k.mods 4 := hasB h0 h1 2 (by omega)
  have hq1 : (bits .and .i64 k.mods 1 != 0) = hasK k.mods 1 := hasB h0 h1 0 (by omega)
  have c1 : FS Tryz.prog Gl 41 [.int .u8 0, .int .u8 90, .nils] [] [] (.agg (numSq 1 0 90 []).c) [] [] := (fs_Num (Gl := Gl) hst (pr := 0) (fi := 90) (nums := []) (tn := none) (by simp)).args ⟨.refl _, .refl _, .nils 1, trivial⟩
  have c2 := fs_bytes (Gl := Gl) hst (s := numSq 1 0 90 []) (by decide) (by decide) (by decide) (by decide) ⟨by simp [numSq], by simp [numSq], by simp [numSq], by simp [numSq]⟩
  have hpl : plainB m k = if ((k.code == 9) && hasK k.mods 1) = true then putX (numSq 1 0 90 []) else if ((k.code == 13) && m.line) = true then [13, 10] else if ((k.code == 127) && !(m.back == hasK k.mods 4)) = true then [8] else [UInt8.ofNat (k.code % 256).toNat] := rfl
  have htx : plainL m k = aheadK k (plainB m k) := rfl
  simp only [mdAV, hky, entAV]
  generalize hQ : (fun (ex : Ex) (_ _ : Nat) (s : St) => _) = Q
  show aw _ _ ir_legacyplain_a γ 0 _ Q
  unfold ir_legacyplain_a
  simp +contextual (maxSteps := 1000000) only [go_sem, reduceCtorEq, ↓reduceIte, Nat.reduceAdd, Nat.reduceEqDiff]
  rw [← hQ]
  refine ⟨rfl, ?_⟩
  simp only [ir_legacyplain]
  generalize hK : (fun s : St => _) = K
  simp +contextual (maxSteps := 1000000) only [go_sem, reduceCtorEq, ↓reduceIte, Nat.reduceAdd, Nat.reduceEqDiff]
  rw [← hK]
  clear hK
  simp only [Xev_t, upd_app, lf_cons, List.map_cons, List.map_nil, List.length_cons, List.length_nil, ↓reduceIte, Nat.reduceEqDiff]
  have fin : ∀ {s₃ : St} {t : Option Nm} {b : List UInt8}, b.length ≤ 10000000000000 → ((γ, 3, 0), HB.cells [.sl t 1 (bytesAV b)]) ∈ s₃.H → s₃.F 6 = .ptr (γ, 3, 0) 0 → aheadK k b = plainL m k →
      CallD Tryz.prog Gl 111 [.agg [.int .i64 k.code, .int .i64 k.mods, .int .i64 k.type, .int .i64 k.shifted, .int .i64 k.base, .str k.text], .ptr (γ, 3, 0) 0] s₃ fun s₄ => ∃ x, resOf s₄ [IRes.cell 6 none] = some x ∧ RepLe x (.sl none 1 (bytesAV (plainL m k))) := by
    intro s₃ t b hb hH hF hz
    refine CallD.one (fd_ahead hst (k := k) hγ h0 h1 hb) hH fun z' hz' => ⟨z', ?_, by rw [← hz]; exact hz'⟩
    simp [resOf, getAll, IRes.get, hF, getH]
  generalize hR : (fun (ex : Ex) (_ _ : Nat) (s : St) => _) = R
  unfold ir_legacyplain_r
  simp +contextual (maxSteps := 1000000) only [hq1, go_sem, reduceCtorEq, ↓reduceIte, Nat.reduceAdd, Nat.reduceEqDiff]
  cases hA : ((k.code == 9) && hasK k.mods 1) with
  | true =>
    simp +contextual (maxSteps := 1000000) only [hA, go_sem, reduceCtorEq, ↓reduceIte, Nat.reduceAdd, Nat.reduceEqDiff]
    (refine CallP.pure (c1) (fun _ => rfl) ?_; simp +contextual (maxSteps := 1000000) only [go_sem, reduceCtorEq, ↓reduceIte, Nat.reduceAdd, Nat.reduceEqDiff])
    (refine CallP.pure (c2) (fun _ => rfl) ?_; simp +contextual (maxSteps := 1000000) only [go_sem, reduceCtorEq, ↓reduceIte, Nat.reduceAdd, Nat.reduceEqDiff])
    rw [← hR]
    exact ⟨trivial, fin (t := none) (b := putX (numSq 1 0 90 [])) (by decide +kernel) (by simp) rfl (by rw [htx, hpl, if_pos hA])⟩
  | false =>
    simp +contextual (maxSteps := 1000000) only [hA, go_sem, reduceCtorEq, ↓reduceIte, Nat.reduceAdd, Nat.reduceEqDiff]
    cases hB : ((k.code == 13) && m.line) with
    | true =>
      simp +contextual (maxSteps := 1000000) only [hB, go_sem, reduceCtorEq, ↓reduceIte, Nat.reduceAdd, Nat.reduceEqDiff]
      rw [← hR]
      exact ⟨trivial, fin (t := some (γ, 24, 0)) (b := [13, 10]) (by simp) List.mem_cons_self rfl (by rw [htx, hpl, if_neg (by rw [hA]; simp), if_pos hB])⟩
    | false =>
      simp +contextual (maxSteps := 1000000) only [hB, hq, go_sem, reduceCtorEq, ↓reduceIte, Nat.reduceAdd, Nat.reduceEqDiff]
      cases hC : ((k.code == 127) && !(m.back == hasK k.mods 4)) with
      | true =>
        simp +contextual (maxSteps := 1000000) only [hC, go_sem, reduceCtorEq, ↓reduceIte, Nat.reduceAdd, Nat.reduceEqDiff]
        rw [← hR]
        exact ⟨trivial, fin (t := some (γ, 37, 0)) (b := [8]) (by simp) List.mem_cons_self rfl (by rw [htx, hpl, if_neg (by rw [hA]; simp), if_neg (by rw [hB]; simp), if_pos hC])⟩
      | false =>
        simp +contextual (maxSteps := 1000000) only [hC, go_sem, reduceCtorEq, ↓reduceIte, Nat.reduceAdd, Nat.reduceEqDiff]
        rw [← hR]
        have hrow : [[AV.int IntKind.u8 (IntKind.u8.wrap k.code)]] = bytesAV [UInt8.ofNat (k.code % 256).toNat] := by
          have : ((UInt8.ofNat (k.code % 256).toNat).toNat : Int) = IntKind.u8.wrap k.code := by
            rw [IntKind.wrap_u8, UInt8.toNat_ofNat', Nat.mod_eq_of_lt (by omega)]; omega
          simp only [bytesAV, List.map_cons, List.map_nil, this]
        rw [hrow]
        exact ⟨trivial, fin (t := some (γ, 40, 0)) (b := [UInt8.ofNat (k.code % 256).toNat]) (by simp) List.mem_cons_self rfl (by rw [htx, hpl, if_neg (by rw [hA]; simp), if_neg (by rw [hB]; simp), if_neg (by rw [hC]; simp)])⟩
end Go.Proofs.YtbepihadhmfklaaGreatDoor

namespace Go.Proofs.YtbepihadhmfklaaGreatDoor
open Go Go.Ab
def ir_legacyletter : ICode :=
 (.seq
 (.reg [⟨some 3, none, .box 23 (.t 0)⟩,
 ⟨some 4, none, .box 25 (.t 1)⟩,
 ⟨some 5, none, .box 41 (.t 2)⟩,
 ⟨some 6, none, .mov (.c .nils)⟩] (some [3, 4, 5]))
 (.seq
 (.reg [⟨some 8, none, .fa 1 (.t 4)⟩,
 ⟨some 9, none, .ld none (.t 8)⟩,
 ⟨some 10, none, .call (.c (.fn (.func 43) [] [])) [(.t 9)]⟩,
 ⟨some 7, none, .mov (.t 10)⟩] (some [3, 5, 7]))
 (.seq
 (.blk 0
 (.seq
 (.reg [⟨some 12, none, .mov (.t 7)⟩,
 ⟨some 13, none, .bin .neq .none (.t 12) (.c (.int .i64 0))⟩,
 ⟨some 11, none, .mov (.t 13)⟩] (some [3, 5, 7, 11]))
 (.cond (.t 11)
 (.seq
 (.drw [⟨⟨some 14, none, .fa 1 (.t 5)⟩, []⟩,
 ⟨⟨some 15, none, .ld none (.t 14)⟩, [0]⟩,
 ⟨⟨some 16, none, .mov (.t 7)⟩, []⟩,
 ⟨⟨some 17, none, .call (.c (.fn (.func 42) [] [])) [(.t 16)]⟩, [2]⟩,
 ⟨⟨some 18, none, .row 3 1 [(.c (.int .i64 1)), (.t 17)]⟩, [3]⟩,
 ⟨⟨some 19, none, .call (.c (.fn (.func 41) [] [])) [(.c (.int .u8 0)), (.t 15), (.t 18)]⟩, [1, 4, 3]⟩,
 ⟨⟨some 20, none, .call (.c (.fn (.func 112) [] [])) [(.t 19)]⟩, [5, 5]⟩]
 [⟨some 6, none, .mov (.t 20)⟩] (some [6]))
 .ret)
 (.seq
 (.reg [⟨some 22, none, .fa 0 (.t 3)⟩,
 ⟨some 23, none, .ld none (.t 22)⟩,
 ⟨some 24, none, .mov (.t 23)⟩,
 ⟨some 25, some (24, false), .fa 1 (.t 5)⟩,
 ⟨some 26, some (24, false), .ld none (.t 25)⟩,
 ⟨some 27, some (24, false), .bin .geq .none (.t 26) (.c (.int .u8 80))⟩,
 ⟨some 28, none, .pick (.t 24) (.c (.bool true)) (.t 27)⟩,
 ⟨some 21, none, .mov (.t 28)⟩] (some [5, 21]))
 (.cond (.t 21)
 (.seq
 (.reg [⟨some 29, none, .fa 1 (.t 5)⟩,
 ⟨some 30, none, .ld none (.t 29)⟩,
 ⟨some 31, none, .bld [(.int .i64 0), (.int .u8 0), .nils, (.str []), (.int .u8 0), (.str [])] [(0, 1, (.c (.int .i64 2))), (4, 1, (.t 30))]⟩,
 ⟨some 32, none, .call (.c (.fn (.func 112) [] [])) [(.t 31)]⟩,
 ⟨some 6, none, .mov (.t 32)⟩] (some [6]))
 .ret)
 .skip)))))
 (.seq
 (.reg [⟨some 33, none, .fa 1 (.t 5)⟩,
 ⟨some 34, none, .ld none (.t 33)⟩,
 ⟨some 35, none, .call (.c (.fn (.func 41) [] [])) [(.c (.int .u8 0)), (.t 34), (.c .nils)]⟩,
 ⟨some 36, none, .call (.c (.fn (.func 112) [] [])) [(.t 35)]⟩,
 ⟨some 6, none, .mov (.t 36)⟩] (some [6]))
 .ret))))
theorem is_legacyletter : IrOf Tryz.prog 63 37 ir_legacyletter [.t 6] := ⟨_, Tryz.func63, rfl, by kernel_rfl, by kernel_rfl, by kernel_rfl⟩

def ir_legacynumber : ICode :=
 (.seq
 (.reg [⟨some 3, none, .box 23 (.t 0)⟩,
 ⟨some 4, none, .box 25 (.t 1)⟩,
 ⟨some 5, none, .box 41 (.t 2)⟩,
 ⟨some 6, none, .mov (.c .nils)⟩] (some [4, 5]))
 (.seq
 (.reg [⟨some 9, none, .fa 2 (.t 5)⟩,
 ⟨some 10, none, .ld none (.t 9)⟩,
 ⟨some 11, none, .row 3 1 [(.t 10)]⟩,
 ⟨some 7, none, .mov (.t 11)⟩] (some [4, 7]))
 (.seq
 (.seq
 (.reg [⟨some 12, none, .fa 1 (.t 4)⟩,
 ⟨some 13, none, .ld none (.t 12)⟩,
 ⟨some 14, none, .call (.c (.fn (.func 43) [] [])) [(.t 13)]⟩,
 ⟨some 8, none, .mov (.t 14)⟩] (some [7, 8]))
 (.seq
 (.reg [⟨some 15, none, .mov (.t 8)⟩,
 ⟨some 16, none, .bin .neq .none (.t 15) (.c (.int .i64 0))⟩] (some [7, 8, 16]))
 (.cond (.t 16)
 (.reg [⟨some 17, none, .mov (.t 7)⟩,
 ⟨some 18, none, .mov (.t 8)⟩,
 ⟨some 19, none, .call (.c (.fn (.func 42) [] [])) [(.t 18)]⟩,
 ⟨some 20, none, .row 3 1 [(.t 19)]⟩,
 ⟨some 21, none, .app 3 1 8 (.t 17) (.t 20)⟩,
 ⟨some 7, none, .mov (.t 21)⟩] (some [7]))
 .skip)))
 (.seq
 (.reg [⟨some 22, none, .mov (.t 7)⟩,
 ⟨some 23, none, .call (.c (.fn (.func 41) [] [])) [(.c (.int .u8 0)), (.c (.int .u8 126)), (.t 22)]⟩,
 ⟨some 24, none, .call (.c (.fn (.func 112) [] [])) [(.t 23)]⟩,
 ⟨some 6, none, .mov (.t 24)⟩] (some [6]))
 .ret))))
theorem is_legacynumber : IrOf Tryz.prog 64 25 ir_legacynumber [.t 6] := ⟨_, Tryz.func64, rfl, by kernel_rfl, by kernel_rfl, by kernel_rfl⟩

def ir_legacypad : ICode :=
 (.seq
 (.reg [⟨some 3, none, .box 23 (.t 0)⟩,
 ⟨some 4, none, .box 25 (.t 1)⟩,
 ⟨some 5, none, .box 41 (.t 2)⟩,
 ⟨some 6, none, .mov (.c .nils)⟩] (some [3, 4, 5]))
 (.seq
 (.seq
 (.reg [⟨some 7, none, .fa 1 (.t 3)⟩,
 ⟨some 8, none, .ld none (.t 7)⟩,
 ⟨some 9, none, .mov (.t 8)⟩,
 ⟨some 10, some (9, true), .fa 1 (.t 4)⟩,
 ⟨some 11, some (9, true), .ld none (.t 10)⟩,
 ⟨some 12, some (9, true), .call (.c (.fn (.func 43) [] [])) [(.t 11)]⟩,
 ⟨some 13, some (9, true), .bin .eql .none (.t 12) (.c (.int .i64 0))⟩,
 ⟨some 14, none, .pick (.t 9) (.t 13) (.c (.bool false))⟩] (some [3, 4, 5, 14]))
 (.cond (.t 14)
 (.seq
 (.reg [⟨some 15, none, .fa 1 (.t 5)⟩,
 ⟨some 16, none, .ld none (.t 15)⟩,
 ⟨some 17, none, .bld [(.int .i64 0), (.int .u8 0), .nils, (.str []), (.int .u8 0), (.str [])] [(0, 1, (.c (.int .i64 2))), (4, 1, (.t 16))]⟩,
 ⟨some 18, none, .call (.c (.fn (.func 112) [] [])) [(.t 17)]⟩,
 ⟨some 6, none, .mov (.t 18)⟩] (some [6]))
 .ret)
 .skip))
 (.seq
 (.reg [⟨some 19, none, .fa 3 (.t 5)⟩,
 ⟨some 20, none, .ld none (.t 19)⟩,
 ⟨some 21, none, .fa 0 (.t 4)⟩,
 ⟨none, none, .st 1 (.t 21) (.t 20)⟩,
 ⟨some 22, none, .fa 3 (.t 4)⟩,
 ⟨none, none, .st 1 (.t 22) (.c (.int .i64 0))⟩] (some [3, 4, 5]))
 (.seq
 (.seq
 (.reg [⟨some 23, none, .fa 3 (.t 5)⟩,
 ⟨some 24, none, .ld none (.t 23)⟩,
 ⟨some 25, none, .bin .eql .none (.t 24) (.c (.int .i64 13))⟩] (some [3, 4, 5, 25]))
 (.cond (.t 25)
 (.seq
 (.reg [⟨some 26, none, .ld (some 10) (.t 3)⟩,
 ⟨some 27, none, .ld (some 6) (.t 4)⟩,
 ⟨some 28, none, .ld (some 5) (.t 5)⟩,
 ⟨some 29, none, .call (.c (.fn (.func 62) [] [])) [(.t 26), (.t 27), (.t 28)]⟩,
 ⟨some 6, none, .mov (.t 29)⟩] (some [6]))
 .ret)
 .skip))
 (.seq
 (.reg [⟨some 30, none, .ld (some 10) (.t 3)⟩,
 ⟨some 31, none, .ld (some 6) (.t 4)⟩,
 ⟨some 32, none, .ld (some 5) (.t 5)⟩,
 ⟨some 33, none, .call (.c (.fn (.func 61) [] [])) [(.t 30), (.t 31), (.t 32)]⟩,
 ⟨some 6, none, .mov (.t 33)⟩] (some [6]))
 .ret)))))
theorem is_legacypad : IrOf Tryz.prog 65 34 ir_legacypad [.t 6] := ⟨_, Tryz.func65, rfl, by kernel_rfl, by kernel_rfl, by kernel_rfl⟩

/- clavier/legacy.Key -/
def ir_legacyKey_t5 : ICode :=
 (.seq
 (.reg [⟨some 29, none, .mov (.t 7)⟩,
 ⟨some 30, none, .ld (some 10) (.t 2)⟩,
 ⟨some 31, none, .ld (some 6) (.t 3)⟩,
 ⟨some 32, none, .ld (some 5) (.t 6)⟩,
 ⟨some 33, none, .call (.t 29) [(.t 30), (.t 31), (.t 32)]⟩,
 ⟨some 4, none, .mov (.t 33)⟩] (some [4]))
 .ret)
def ir_legacyKey_t4 : ICode :=
 (.seq
 (.seq
 (.reg [⟨some 17, none, .mov (.t 7)⟩,
 ⟨some 18, none, .bin .eql .func (.t 17) (.c .nilf)⟩,
 ⟨some 19, none, .mov (.t 18)⟩,
 ⟨some 20, some (19, false), .ld (some 6) (.t 3)⟩,
 ⟨some 21, some (19, false), .call (.c (.fn (.func 39) [] [])) [(.t 20)]⟩,
 ⟨some 22, some (19, false), .un .not (.t 21)⟩,
 ⟨some 23, none, .pick (.t 19) (.c (.bool true)) (.t 22)⟩,
 ⟨some 24, none, .mov (.t 23)⟩,
 ⟨some 25, some (24, false), .fa 2 (.t 3)⟩,
 ⟨some 26, some (24, false), .ld none (.t 25)⟩,
 ⟨some 27, some (24, false), .bin .eql .none (.t 26) (.c (.int .i64 3))⟩,
 ⟨some 28, none, .pick (.t 24) (.c (.bool true)) (.t 27)⟩] (some [2, 3, 6, 7, 28]))
 (.cond (.t 28)
 (.seq
 (.reg [⟨some 4, none, .mov (.c .nils)⟩] (some [4]))
 .ret)
 .skip))
 ir_legacyKey_t5)
def ir_legacyKey_t3 : ICode :=
 (.seq
 (.reg [⟨some 13, none, .mov (.t 5)⟩,
 ⟨some 14, none, .fa 0 (.t 6)⟩,
 ⟨some 15, none, .ld none (.t 14)⟩,
 ⟨some 16, none, .lkp .int .nilf false (.t 13) (.t 15)⟩,
 ⟨some 7, none, .mov (.t 16)⟩] (some [2, 3, 6, 7]))
 ir_legacyKey_t4)
def ir_legacyKey_t2 : ICode :=
 (.seq
 (.reg [⟨some 10, none, .fa 0 (.t 3)⟩,
 ⟨some 11, none, .ld none (.t 10)⟩,
 ⟨some 12, none, .call (.c (.fn (.func 24) [] [])) [(.t 11)]⟩,
 ⟨some 6, none, .box 41 (.c (.agg [(.int .i64 0), (.int .u8 0), (.int .i64 0), (.int .i64 0), (.bool false)]))⟩,
 ⟨none, none, .st 5 (.t 6) (.t 12)⟩] (some [2, 3, 5, 6]))
 ir_legacyKey_t3)
def ir_legacyKey_t1 : ICode :=
 (.seq
 (.reg [⟨some 8, none, .mkm⟩,
 ⟨none, none, .ins .int (.t 8) (.c (.int .i64 1)) (.c (.fn (.func 61) [] []))⟩,
 ⟨none, none, .ins .int (.t 8) (.c (.int .i64 2)) (.c (.fn (.func 62) [] []))⟩,
 ⟨none, none, .ins .int (.t 8) (.c (.int .i64 3)) (.c (.fn (.func 63) [] []))⟩,
 ⟨none, none, .ins .int (.t 8) (.c (.int .i64 4)) (.c (.fn (.func 64) [] []))⟩,
 ⟨none, none, .ins .int (.t 8) (.c (.int .i64 5)) (.c (.fn (.func 65) [] []))⟩,
 ⟨some 9, none, .mov (.t 8)⟩,
 ⟨some 5, none, .mov (.t 9)⟩] (some [2, 3, 5]))
 ir_legacyKey_t2)
def ir_legacyKey : ICode :=
 (.seq
 (.reg [⟨some 2, none, .box 23 (.t 0)⟩,
 ⟨some 3, none, .box 25 (.t 1)⟩,
 ⟨some 4, none, .mov (.c .nils)⟩] (some [2, 3]))
 ir_legacyKey_t1)
theorem is_legacyKey : IrOf Tryz.prog 30 34 ir_legacyKey [.t 4] := ⟨_, Tryz.func30, rfl, by kernel_rfl, by kernel_rfl, by kernel_rfl⟩

theorem sm_num {k pr fi : Int} {nums : List Int} (h : nums.length ≤ 1000) : (numSq k pr fi nums).sm := by
  refine ⟨by simp only [numSq, List.length_map]; omega, fun p hp => ?_, by simp [numSq], by simp [numSq]⟩
  simp only [numSq, List.mem_map] at hp
  obtain ⟨n, _, rfl⟩ := hp
  simp
theorem fs_bytesN {Gl : Gh → Prop} (hst : Stays Gl) {k fi : Int} {nums : List Int} (h : nums.length ≤ 1000) (hf0 : 0 ≤ fi) (hf1 : fi < 128) : FS Tryz.prog Gl 112 [.agg [.int .i64 k, .int .u8 0, .sl none 1 (parsAV (nums.map fun n => [n])), .str [], .int .u8 fi, .str []]] [] [] (.sl none 1 (bytesAV (putX (numSq k 0 fi nums)))) [] [] :=
  fs_bytes (s := numSq k 0 fi nums) hst (by simp [numSq]) (by simp [numSq]) hf0 hf1 (sm_num h)
theorem fs_bytes0 {Gl : Gh → Prop} (hst : Stays Gl) {k fi : Int} (hf0 : 0 ≤ fi) (hf1 : fi < 128) : FS Tryz.prog Gl 112 [.agg [.int .i64 k, .int .u8 0, .nils, .str [], .int .u8 fi, .str []]] [] [] (.sl none 1 (bytesAV (putX (numSq k 0 fi [])))) [] [] :=
  (fs_bytesN (nums := []) hst (by simp) hf0 hf1).args ⟨RepLe.agg ⟨.refl _, .refl _, .nils 1, .refl _, .refl _, .refl _, trivial⟩, trivial⟩
theorem fs_NumV {Gl : Gh → Prop} (hst : Stays Gl) {pr fi : Int} {nums : List Int} {tn : Option Nm} (hn : nums.length ≤ 1000) : FS Tryz.prog Gl 41 [.int .u8 pr, .int .u8 fi, .sl tn 1 (intsAV nums)] [] [] (.agg [.int .i64 1, .int .u8 pr, .sl none 1 (parsAV (nums.map fun n => [n])), .str [], .int .u8 fi, .str []]) [] [] := fs_Num hst hn
theorem fs_Num0 {Gl : Gh → Prop} (hst : Stays Gl) {pr fi : Int} : FS Tryz.prog Gl 41 [.int .u8 pr, .int .u8 fi, .nils] [] [] (.agg [.int .i64 1, .int .u8 pr, .sl none 1 (parsAV (([] : List Int).map fun n => [n])), .str [], .int .u8 fi, .str []]) [] [] :=
  (fs_Num (Gl := Gl) hst (nums := []) (tn := none) (by simp)).args ⟨.refl _, .refl _, .nils 1, trivial⟩
def letterL (m : Md) (k : Ky) (e : Ent) : List UInt8 :=
  if (oldK k.mods != 0) = true then putX (numSq 1 0 e.final.toNat [1, paramK (oldK k.mods)])
  else if (m.cursor || decide ((e.final.toNat : Int) ≥ 80)) = true then putX (numSq 2 0 e.final.toNat []) else putX (numSq 1 0 e.final.toNat [])
def numberL (k : Ky) (e : Ent) : List UInt8 := putX (numSq 1 0 126 (if (oldK k.mods != 0) = true then [e.num, paramK (oldK k.mods)] else [e.num]))
def padL (m : Md) (k : Ky) (e : Ent) : List UInt8 :=
  if (m.keypad && (oldK k.mods == 0)) = true then putX (numSq 2 0 e.final.toNat [])
  else if (e.char == 13) = true then plainL m { k with code := e.char, shifted := 0 } else textL { k with code := e.char, shifted := 0 }
set_option maxHeartbeats 4000000 in
theorem fs_letterL {Gl : Gh → Prop} (hst : Stays Gl) {m : Md} {k : Ky} {e : Ent} (h1 : k.mods ≤ 255) (hf : e.final.toNat < 128) : FS Tryz.prog Gl 63 [.agg (mdAV m), .agg (kyAV k), .agg (entAV e)] [] [] (.sl none 1 (bytesAV (letterL m k e))) [] [] := by
  refine FS.ofW hm hst is_legacyletter rfl (by simp) fun γ hγ hfr => ?_
  have hky : kyAV k = [.int .i64 k.code, .int .i64 k.mods, .int .i64 k.type, .int .i64 k.shifted, .int .i64 k.base, .str k.text] := rfl
  have c1 := fs_Old (Gl := Gl) hst (m := k.mods) (by omega)
  have c2 := fs_Param (Gl := Gl) hst (m := oldK k.mods)
  have c3 := fs_NumV (Gl := Gl) hst (pr := 0) (fi := e.final.toNat) (nums := [1, paramK (oldK k.mods)]) (tn := none) (by simp)
  have c3' := fun t : Option Nm => fs_NumV (Gl := Gl) hst (pr := 0) (fi := e.final.toNat) (nums := [1, paramK (oldK k.mods)]) (tn := t) (by simp)
  have c4 := fs_bytesN (Gl := Gl) hst (k := 1) (fi := e.final.toNat) (nums := [1, paramK (oldK k.mods)]) (by simp) (by omega) (by omega)
  have c5 := fs_bytes0 (Gl := Gl) hst (k := 2) (fi := e.final.toNat) (by omega) (by omega)
  have c6 := fs_Num0 (Gl := Gl) hst (pr := 0) (fi := e.final.toNat)
  have c7 := fs_bytesN (Gl := Gl) hst (k := 1) (fi := e.final.toNat) (nums := []) (by simp) (by omega) (by omega)
  have hz : letterL m k e = if (oldK k.mods != 0) = true then putX (numSq 1 0 e.final.toNat [1, paramK (oldK k.mods)]) else if (m.cursor || decide ((e.final.toNat : Int) ≥ 80)) = true then putX (numSq 2 0 e.final.toNat []) else putX (numSq 1 0 e.final.toNat []) := rfl
  have hi2 : intsAV [1, paramK (oldK k.mods)] = [[.int .i64 1], [.int .i64 (paramK (oldK k.mods))]] := rfl
  simp only [mdAV, hky, entAV]
  (generalize hQ : (fun (ex : Ex) (_ _ : Nat) (s : St) => _) = Q; unfold ir_legacyletter)
  simp +contextual (maxSteps := 1000000) only [go_sem, reduceCtorEq, ↓reduceIte, Nat.reduceAdd, Nat.reduceEqDiff, Nat.reduceLeDiff, Nat.reduceMul, Nat.reduceBEq, Int.reduceBEq, Int.reduceBNe, Int.reduceLT, Int.reduceLE, Int.reduceGT, Int.reduceGE, Int.reduceToNat]
  (refine CallP.pure (c1) (fun _ => rfl) ?_; simp +contextual (maxSteps := 1000000) only [go_sem, reduceCtorEq, ↓reduceIte, Nat.reduceAdd, Nat.reduceEqDiff, Nat.reduceLeDiff, Nat.reduceMul, Nat.reduceBEq, Int.reduceBEq, Int.reduceBNe, Int.reduceLT, Int.reduceLE, Int.reduceGT, Int.reduceGE, Int.reduceToNat])
  cases hA : (oldK k.mods != 0) with
  | true =>
    simp +contextual (maxSteps := 1000000) only [go_sem, reduceCtorEq, ↓reduceIte, Nat.reduceAdd, Nat.reduceEqDiff, Nat.reduceLeDiff, Nat.reduceMul, Nat.reduceBEq, Int.reduceBEq, Int.reduceBNe, Int.reduceLT, Int.reduceLE, Int.reduceGT, Int.reduceGE, Int.reduceToNat]
    refine DCall.new c2 ?_
    simp +contextual (maxSteps := 1000000) only [go_sem, reduceCtorEq, ↓reduceIte, Nat.reduceAdd, Nat.reduceEqDiff, Nat.reduceLeDiff, Nat.reduceMul, Nat.reduceBEq, Int.reduceBEq, Int.reduceBNe, Int.reduceLT, Int.reduceLE, Int.reduceGT, Int.reduceGE, Int.reduceToNat]
    rw [hi2] at c3'
    refine ⟨?_, DCall.new (c3' _) ?_⟩
    · simp [AV.closedL, AV.closed]
    simp +contextual (maxSteps := 1000000) only [go_sem, reduceCtorEq, ↓reduceIte, Nat.reduceAdd, Nat.reduceEqDiff, Nat.reduceLeDiff, Nat.reduceMul, Nat.reduceBEq, Int.reduceBEq, Int.reduceBNe, Int.reduceLT, Int.reduceLE, Int.reduceGT, Int.reduceGE, Int.reduceToNat]
    refine DCall.new c4 ?_
    simp +contextual (maxSteps := 1000000) only [go_sem, reduceCtorEq, ↓reduceIte, Nat.reduceAdd, Nat.reduceEqDiff, Nat.reduceLeDiff, Nat.reduceMul, Nat.reduceBEq, Int.reduceBEq, Int.reduceBNe, Int.reduceLT, Int.reduceLE, Int.reduceGT, Int.reduceGE, Int.reduceToNat]
    rw [← hQ, hz, hA]
    exact ⟨trivial, .inl ⟨_, rfl, RepLe.refl _⟩⟩
  | false =>
    simp +contextual (maxSteps := 1000000) only [go_sem, reduceCtorEq, ↓reduceIte, Nat.reduceAdd, Nat.reduceEqDiff, Nat.reduceLeDiff, Nat.reduceMul, Nat.reduceBEq, Int.reduceBEq, Int.reduceBNe, Int.reduceLT, Int.reduceLE, Int.reduceGT, Int.reduceGE, Int.reduceToNat]
    cases hB : (m.cursor || decide ((e.final.toNat : Int) ≥ 80)) with
    | true =>
      simp +contextual (maxSteps := 1000000) only [hB, go_sem, reduceCtorEq, ↓reduceIte, Nat.reduceAdd, Nat.reduceEqDiff, Nat.reduceLeDiff, Nat.reduceMul, Nat.reduceBEq, Int.reduceBEq, Int.reduceBNe, Int.reduceLT, Int.reduceLE, Int.reduceGT, Int.reduceGE, Int.reduceToNat]
      (refine CallP.pure (c5) (fun _ => rfl) ?_; simp +contextual (maxSteps := 1000000) only [go_sem, reduceCtorEq, ↓reduceIte, Nat.reduceAdd, Nat.reduceEqDiff, Nat.reduceLeDiff, Nat.reduceMul, Nat.reduceBEq, Int.reduceBEq, Int.reduceBNe, Int.reduceLT, Int.reduceLE, Int.reduceGT, Int.reduceGE, Int.reduceToNat])
      rw [← hQ, hz, hA, hB]
      exact ⟨trivial, .inl ⟨_, rfl, RepLe.refl _⟩⟩
    | false =>
      simp +contextual (maxSteps := 1000000) only [hB, go_sem, reduceCtorEq, ↓reduceIte, Nat.reduceAdd, Nat.reduceEqDiff, Nat.reduceLeDiff, Nat.reduceMul, Nat.reduceBEq, Int.reduceBEq, Int.reduceBNe, Int.reduceLT, Int.reduceLE, Int.reduceGT, Int.reduceGE, Int.reduceToNat]
      (refine CallP.pure (c6) (fun _ => rfl) ?_; simp +contextual (maxSteps := 1000000) only [go_sem, reduceCtorEq, ↓reduceIte, Nat.reduceAdd, Nat.reduceEqDiff, Nat.reduceLeDiff, Nat.reduceMul, Nat.reduceBEq, Int.reduceBEq, Int.reduceBNe, Int.reduceLT, Int.reduceLE, Int.reduceGT, Int.reduceGE, Int.reduceToNat])
      (refine CallP.pure (c7) (fun _ => rfl) ?_; simp +contextual (maxSteps := 1000000) only [go_sem, reduceCtorEq, ↓reduceIte, Nat.reduceAdd, Nat.reduceEqDiff, Nat.reduceLeDiff, Nat.reduceMul, Nat.reduceBEq, Int.reduceBEq, Int.reduceBNe, Int.reduceLT, Int.reduceLE, Int.reduceGT, Int.reduceGE, Int.reduceToNat])
      rw [← hQ, hz, hA, hB]
      exact ⟨trivial, .inl ⟨_, rfl, RepLe.refl _⟩⟩
set_option maxHeartbeats 4000000 in
theorem fs_numberL {Gl : Gh → Prop} (hst : Stays Gl) {m : Md} {k : Ky} {e : Ent} (h1 : k.mods ≤ 255) : FS Tryz.prog Gl 64 [.agg (mdAV m), .agg (kyAV k), .agg (entAV e)] [] [] (.sl none 1 (bytesAV (numberL k e))) [] [] := by
  refine FS.ofW hm hst is_legacynumber rfl (by simp) fun γ hγ hfr => ?_
  have hky : kyAV k = [.int .i64 k.code, .int .i64 k.mods, .int .i64 k.type, .int .i64 k.shifted, .int .i64 k.base, .str k.text] := rfl
  have c1 := fs_Old (Gl := Gl) hst (m := k.mods) (by omega)
  have c2 := fs_Param (Gl := Gl) hst (m := oldK k.mods)
  have c3 := fun (t : Option Nm) => fs_NumV (Gl := Gl) hst (pr := 0) (fi := 126) (nums := [e.num, paramK (oldK k.mods)]) (tn := t) (by simp)
  have c4 := fs_bytesN (Gl := Gl) hst (k := 1) (fi := 126) (nums := [e.num, paramK (oldK k.mods)]) (by simp) (by omega) (by omega)
  have c5 := fun (t : Option Nm) => fs_NumV (Gl := Gl) hst (pr := 0) (fi := 126) (nums := [e.num]) (tn := t) (by simp)
  have c6 := fs_bytesN (Gl := Gl) hst (k := 1) (fi := 126) (nums := [e.num]) (by simp) (by omega) (by omega)
  have hz : numberL k e = putX (numSq 1 0 126 (if (oldK k.mods != 0) = true then [e.num, paramK (oldK k.mods)] else [e.num])) := rfl
  have hi2 : intsAV [e.num, paramK (oldK k.mods)] = [[.int .i64 e.num], [.int .i64 (paramK (oldK k.mods))]] := rfl
  have hi1 : intsAV [e.num] = [[.int .i64 e.num]] := rfl
  simp only [mdAV, hky, entAV]
  (generalize hQ : (fun (ex : Ex) (_ _ : Nat) (s : St) => _) = Q; unfold ir_legacynumber)
  simp +contextual (maxSteps := 1000000) only [go_sem, reduceCtorEq, ↓reduceIte, Nat.reduceAdd, Nat.reduceEqDiff, Nat.reduceLeDiff, Nat.reduceMul, Nat.reduceBEq, Int.reduceBEq, Int.reduceBNe, Int.reduceLT, Int.reduceLE, Int.reduceGT, Int.reduceGE, Int.reduceToNat]
  (refine CallP.pure (c1) (fun _ => rfl) ?_; simp +contextual (maxSteps := 1000000) only [go_sem, reduceCtorEq, ↓reduceIte, Nat.reduceAdd, Nat.reduceEqDiff, Nat.reduceLeDiff, Nat.reduceMul, Nat.reduceBEq, Int.reduceBEq, Int.reduceBNe, Int.reduceLT, Int.reduceLE, Int.reduceGT, Int.reduceGE, Int.reduceToNat])
  cases hA : (oldK k.mods != 0) with
  | true =>
    simp +contextual (maxSteps := 1000000) only [go_sem, reduceCtorEq, ↓reduceIte, Nat.reduceAdd, Nat.reduceEqDiff, Nat.reduceLeDiff, Nat.reduceMul, Nat.reduceBEq, Int.reduceBEq, Int.reduceBNe, Int.reduceLT, Int.reduceLE, Int.reduceGT, Int.reduceGE, Int.reduceToNat]
    (refine CallP.pure (c2) (fun _ => rfl) ?_; simp +contextual (maxSteps := 1000000) only [go_sem, reduceCtorEq, ↓reduceIte, Nat.reduceAdd, Nat.reduceEqDiff, Nat.reduceLeDiff, Nat.reduceMul, Nat.reduceBEq, Int.reduceBEq, Int.reduceBNe, Int.reduceLT, Int.reduceLE, Int.reduceGT, Int.reduceGE, Int.reduceToNat])
    rw [hi2] at c3
    refine ⟨.inl trivial, ?_⟩
    (refine CallP.pure (c3 _) (fun _ => rfl) ?_; simp +contextual (maxSteps := 1000000) only [go_sem, reduceCtorEq, ↓reduceIte, Nat.reduceAdd, Nat.reduceEqDiff, Nat.reduceLeDiff, Nat.reduceMul, Nat.reduceBEq, Int.reduceBEq, Int.reduceBNe, Int.reduceLT, Int.reduceLE, Int.reduceGT, Int.reduceGE, Int.reduceToNat])
    (refine CallP.pure (c4) (fun _ => rfl) ?_; simp +contextual (maxSteps := 1000000) only [go_sem, reduceCtorEq, ↓reduceIte, Nat.reduceAdd, Nat.reduceEqDiff, Nat.reduceLeDiff, Nat.reduceMul, Nat.reduceBEq, Int.reduceBEq, Int.reduceBNe, Int.reduceLT, Int.reduceLE, Int.reduceGT, Int.reduceGE, Int.reduceToNat])
    rw [← hQ, hz, hA]
    exact ⟨trivial, .inl ⟨_, rfl, RepLe.refl _⟩⟩
  | false =>
    simp +contextual (maxSteps := 1000000) only [go_sem, reduceCtorEq, ↓reduceIte, Nat.reduceAdd, Nat.reduceEqDiff, Nat.reduceLeDiff, Nat.reduceMul, Nat.reduceBEq, Int.reduceBEq, Int.reduceBNe, Int.reduceLT, Int.reduceLE, Int.reduceGT, Int.reduceGE, Int.reduceToNat]
    rw [hi1] at c5
    (refine CallP.pure (c5 _) (fun _ => rfl) ?_; simp +contextual (maxSteps := 1000000) only [go_sem, reduceCtorEq, ↓reduceIte, Nat.reduceAdd, Nat.reduceEqDiff, Nat.reduceLeDiff, Nat.reduceMul, Nat.reduceBEq, Int.reduceBEq, Int.reduceBNe, Int.reduceLT, Int.reduceLE, Int.reduceGT, Int.reduceGE, Int.reduceToNat])
    (refine CallP.pure (c6) (fun _ => rfl) ?_; simp +contextual (maxSteps := 1000000) only [go_sem, reduceCtorEq, ↓reduceIte, Nat.reduceAdd, Nat.reduceEqDiff, Nat.reduceLeDiff, Nat.reduceMul, Nat.reduceBEq, Int.reduceBEq, Int.reduceBNe, Int.reduceLT, Int.reduceLE, Int.reduceGT, Int.reduceGE, Int.reduceToNat])
    rw [← hQ, hz, hA]
    exact ⟨trivial, .inl ⟨_, rfl, RepLe.refl _⟩⟩
set_option maxHeartbeats 4000000 in
theorem fs_padL {Gl : Gh → Prop} (hst : Stays Gl) {m : Md} {k : Ky} {e : Ent} (h0 : 0 ≤ k.mods) (h1 : k.mods ≤ 255) (ht : k.text.length ≤ 1000000000000) (hf : e.final.toNat < 128) : FS Tryz.prog Gl 65 [.agg (mdAV m), .agg (kyAV k), .agg (entAV e)] [] [] (.sl none 1 (bytesAV (padL m k e))) [] [] := by
  refine FS.ofW hm hst is_legacypad rfl (by simp) fun γ hγ hfr => ?_
  have hky : kyAV k = [.int .i64 k.code, .int .i64 k.mods, .int .i64 k.type, .int .i64 k.shifted, .int .i64 k.base, .str k.text] := rfl
  have c1 := fs_Old (Gl := Gl) hst (m := k.mods) (by omega)
  have c2 := fs_bytes0 (Gl := Gl) hst (k := 2) (fi := e.final.toNat) (by omega) (by omega)
  have c3 := fs_plainL (Gl := Gl) hst (m := m) (k := { k with code := e.char, shifted := 0 }) (e := e) h0 h1
  have c4 := fs_textL (Gl := Gl) hst (m := m) (k := { k with code := e.char, shifted := 0 }) (e := e) h0 h1 ht
  have hz : padL m k e = if (m.keypad && (oldK k.mods == 0)) = true then putX (numSq 2 0 e.final.toNat []) else if (e.char == 13) = true then plainL m { k with code := e.char, shifted := 0 } else textL { k with code := e.char, shifted := 0 } := rfl
  rw [mdAV, kyAV, entAV] at c3 c4
  simp only [mdAV, hky, entAV]
  (generalize hQ : (fun (ex : Ex) (_ _ : Nat) (s : St) => _) = Q; unfold ir_legacypad)
  simp +contextual (maxSteps := 1000000) only [go_sem, reduceCtorEq, ↓reduceIte, Nat.reduceAdd, Nat.reduceEqDiff, Nat.reduceLeDiff, Nat.reduceMul, Nat.reduceBEq, Int.reduceBEq, Int.reduceBNe, Int.reduceLT, Int.reduceLE, Int.reduceGT, Int.reduceGE, Int.reduceToNat]
  (refine kGc_call (c1) (fun _ => rfl) (fun hgc => ?_) ?_; (focus (first | (rw [Bool.not_eq_true'] at hgc; simp only [List.map_cons, List.map_nil, List.nil_append, List.append_nil, List.cons_append, Xev_t, Xev_c, upd_app, lf_cons, lf_nil, Nat.reduceEqDiff, ↓reduceIte, hgc, Bool.false_eq_true, Bool.true_eq_false, reduceCtorEq]; done) | (simp only [List.map_cons, List.map_nil, List.nil_append, List.append_nil, List.cons_append, Xev_t, Xev_c, upd_app, lf_cons, lf_nil, Nat.reduceEqDiff, ↓reduceIte, hgc, Bool.false_eq_true, Bool.true_eq_false, reduceCtorEq]; done) | (revert hgc; simp +contextual [Xev_t, Xev_c, upd_app, lf_cons, lf_nil]; done) | simp [Xev_t, Xev_c, upd_app, lf_cons, lf_nil])); simp +contextual (maxSteps := 1000000) only [go_sem, reduceCtorEq, ↓reduceIte, Nat.reduceAdd, Nat.reduceEqDiff, Nat.reduceLeDiff, Nat.reduceMul, Nat.reduceBEq, Int.reduceBEq, Int.reduceBNe, Int.reduceLT, Int.reduceLE, Int.reduceGT, Int.reduceGE, Int.reduceToNat])
  cases hA : (m.keypad && (oldK k.mods == 0)) with
  | true =>
    simp +contextual (maxSteps := 1000000) only [hA, go_sem, reduceCtorEq, ↓reduceIte, Nat.reduceAdd, Nat.reduceEqDiff, Nat.reduceLeDiff, Nat.reduceMul, Nat.reduceBEq, Int.reduceBEq, Int.reduceBNe, Int.reduceLT, Int.reduceLE, Int.reduceGT, Int.reduceGE, Int.reduceToNat]
    (refine CallP.pure (c2) (fun _ => rfl) ?_; simp +contextual (maxSteps := 1000000) only [go_sem, reduceCtorEq, ↓reduceIte, Nat.reduceAdd, Nat.reduceEqDiff, Nat.reduceLeDiff, Nat.reduceMul, Nat.reduceBEq, Int.reduceBEq, Int.reduceBNe, Int.reduceLT, Int.reduceLE, Int.reduceGT, Int.reduceGE, Int.reduceToNat])
    rw [← hQ, hz, hA]
    exact ⟨trivial, .inl ⟨_, rfl, RepLe.refl _⟩⟩
  | false =>
    simp +contextual (maxSteps := 1000000) only [hA, go_sem, reduceCtorEq, ↓reduceIte, Nat.reduceAdd, Nat.reduceEqDiff, Nat.reduceLeDiff, Nat.reduceMul, Nat.reduceBEq, Int.reduceBEq, Int.reduceBNe, Int.reduceLT, Int.reduceLE, Int.reduceGT, Int.reduceGE, Int.reduceToNat]
    cases hB : (e.char == 13) with
    | true =>
      simp +contextual (maxSteps := 1000000) only [hB, go_sem, reduceCtorEq, ↓reduceIte, Nat.reduceAdd, Nat.reduceEqDiff, Nat.reduceLeDiff, Nat.reduceMul, Nat.reduceBEq, Int.reduceBEq, Int.reduceBNe, Int.reduceLT, Int.reduceLE, Int.reduceGT, Int.reduceGE, Int.reduceToNat]
      (refine CallP.pure (c3) (fun _ => rfl) ?_; simp +contextual (maxSteps := 1000000) only [go_sem, reduceCtorEq, ↓reduceIte, Nat.reduceAdd, Nat.reduceEqDiff, Nat.reduceLeDiff, Nat.reduceMul, Nat.reduceBEq, Int.reduceBEq, Int.reduceBNe, Int.reduceLT, Int.reduceLE, Int.reduceGT, Int.reduceGE, Int.reduceToNat])
      rw [← hQ, hz, hA, hB]
      exact ⟨trivial, .inl ⟨_, rfl, RepLe.refl _⟩⟩
    | false =>
      simp +contextual (maxSteps := 1000000) only [hB, go_sem, reduceCtorEq, ↓reduceIte, Nat.reduceAdd, Nat.reduceEqDiff, Nat.reduceLeDiff, Nat.reduceMul, Nat.reduceBEq, Int.reduceBEq, Int.reduceBNe, Int.reduceLT, Int.reduceLE, Int.reduceGT, Int.reduceGE, Int.reduceToNat]
      (refine CallP.pure (c4) (fun _ => rfl) ?_; simp +contextual (maxSteps := 1000000) only [go_sem, reduceCtorEq, ↓reduceIte, Nat.reduceAdd, Nat.reduceEqDiff, Nat.reduceLeDiff, Nat.reduceMul, Nat.reduceBEq, Int.reduceBEq, Int.reduceBNe, Int.reduceLT, Int.reduceLE, Int.reduceGT, Int.reduceGE, Int.reduceToNat])
      rw [← hQ, hz, hA, hB]
      exact ⟨trivial, .inl ⟨_, rfl, RepLe.refl _⟩⟩
theorem kind_cases (c : Int) : kindK c = 0 ∨ kindK c = 1 ∨ kindK c = 2 ∨ kindK c = 3 ∨ kindK c = 4 ∨ kindK c = 5 ∨ kindK c = 6 ∨ kindK c = 7 := by
  unfold kindK lookR
  repeat' split
  · simp
  · simp
  · have : (padR c).kind = 5 := by unfold padR; split <;> rfl
    rw [this]; simp
  · simp only
    unfold restR
    repeat' split
    all_goals simp
theorem final_lt (c : Int) : (lookR c).final.toNat < 128 := by
  unfold lookR
  repeat' split
  · exact letR_lt c
  · exact (by decide : (0 : UInt8).toNat < 128)
  · have h : 57399 ≤ c ∧ c ≤ 57416 := by assumption
    have key : ∀ k : Fin 18, (padR ((57399 + k.val : Nat) : Int)).final.toNat < 128 := by decide +kernel
    have := key ⟨(c - 57399).toNat, by omega⟩
    rwa [show ((57399 + (c - 57399).toNat : Nat) : Int) = c by omega] at this
  · exact (by decide : (0 : UInt8).toNat < 128)
def formL (m : Md) (k : Ky) : List UInt8 :=
  if kindK k.code = 1 then textL k else if kindK k.code = 2 then plainL m k else if kindK k.code = 3 then letterL m k (lookR k.code)
  else if kindK k.code = 4 then numberL k (lookR k.code) else if kindK k.code = 5 then padL m k (lookR k.code) else []
def legK (m : Md) (k : Ky) : List UInt8 := if (mayK k && (k.type != 3)) = true then formL m k else []
set_option maxHeartbeats 8000000 in
theorem fs_legKey {Gl : Gh → Prop} (hst : Stays Gl) {m : Md} {k : Ky} (ht : k.text.length ≤ 1000000000000) : FS Tryz.prog Gl 30 [.agg (mdAV m), .agg (kyAV k)] [] [] (.sl none 1 (bytesAV (legK m k))) [] [] := by
  refine FS.ofW hm hst is_legacyKey rfl (by simp) fun γ hγ hfr => ?_
  have hky : kyAV k = [.int .i64 k.code, .int .i64 k.mods, .int .i64 k.type, .int .i64 k.shifted, .int .i64 k.base, .str k.text] := rfl
  have hmd : mdAV m = [.bool m.cursor, .bool m.keypad, .bool m.back, .bool m.focus, .bool m.paste, .bool m.lock, .bool m.line, .int .i64 m.mouse, .int .i64 m.coding, .int .i64 m.other] := rfl
  have c1 := fs_Look (Gl := Gl) hst (c := k.code)
  rw [ent_eq] at c1
  have c2 := fs_MayK (Gl := Gl) hst ht
  rw [hky] at c2
  have hz : legK m k = if (mayK k && (k.type != 3)) = true then formL m k else [] := rfl
  have hf : formL m k = if kindK k.code = 1 then textL k else if kindK k.code = 2 then plainL m k else if kindK k.code = 3 then letterL m k (lookR k.code)
    else if kindK k.code = 4 then numberL k (lookR k.code) else if kindK k.code = 5 then padL m k (lookR k.code) else [] := rfl
  have hfin := final_lt k.code
  have hkd : (lookR k.code).kind = kindK k.code := rfl
  have hent : entAV (lookR k.code) = [.int .i64 (kindK k.code), .int .u8 ((lookR k.code).final.toNat : Int), .int .i64 (lookR k.code).num, .int .i64 (lookR k.code).char, .bool (lookR k.code).keys] := rfl
  have d1 := fun (M : MayK k) => fs_textL (Gl := Gl) hst (m := m) (k := k) (e := lookR k.code) M.m0 M.m1 ht
  have d2 := fun (M : MayK k) => fs_plainL (Gl := Gl) hst (m := m) (k := k) (e := lookR k.code) M.m0 M.m1
  have d3 := fun (M : MayK k) => fs_letterL (Gl := Gl) hst (m := m) (k := k) (e := lookR k.code) M.m1 hfin
  have d4 := fun (M : MayK k) => fs_numberL (Gl := Gl) hst (m := m) (k := k) (e := lookR k.code) M.m1
  have d5 := fun (M : MayK k) => fs_padL (Gl := Gl) hst (m := m) (k := k) (e := lookR k.code) M.m0 M.m1 ht hfin
  rw [hkd] at c1
  simp only [hmd, hky, hent] at d1 d2 d3 d4 d5
  simp only [hmd, hky]
  (generalize hQ : (fun (ex : Ex) (_ _ : Nat) (s : St) => _) = Q; unfold ir_legacyKey)
  simp +contextual (maxSteps := 1000000) only [go_sem, reduceCtorEq, ↓reduceIte, Nat.reduceAdd, Nat.reduceEqDiff, Nat.reduceLeDiff, Nat.reduceMul, Nat.reduceBEq, Int.reduceBEq, Int.reduceBNe, Int.reduceLT, Int.reduceLE, Int.reduceGT, Int.reduceGE, Int.reduceToNat]
  unfold ir_legacyKey_t1
  simp +contextual (maxSteps := 1000000) only [fe_nil, fe_int, isKey_int, go_sem, reduceCtorEq, ↓reduceIte, Nat.reduceAdd, Nat.reduceEqDiff, Nat.reduceLeDiff, Nat.reduceMul, Nat.reduceBEq, Int.reduceBEq, Int.reduceBNe, Int.reduceLT, Int.reduceLE, Int.reduceGT, Int.reduceGE, Int.reduceToNat]
  unfold ir_legacyKey_t2
  simp +contextual (maxSteps := 1000000) only [go_sem, reduceCtorEq, ↓reduceIte, Nat.reduceAdd, Nat.reduceEqDiff, Nat.reduceLeDiff, Nat.reduceMul, Nat.reduceBEq, Int.reduceBEq, Int.reduceBNe, Int.reduceLT, Int.reduceLE, Int.reduceGT, Int.reduceGE, Int.reduceToNat]
  (refine CallP.pure (c1) (fun _ => rfl) ?_; simp +contextual (maxSteps := 1000000) only [go_sem, reduceCtorEq, ↓reduceIte, Nat.reduceAdd, Nat.reduceEqDiff, Nat.reduceLeDiff, Nat.reduceMul, Nat.reduceBEq, Int.reduceBEq, Int.reduceBNe, Int.reduceLT, Int.reduceLE, Int.reduceGT, Int.reduceGE, Int.reduceToNat])
  unfold ir_legacyKey_t3
  have low : ¬ (1 ≤ kindK k.code ∧ kindK k.code ≤ 5) → legK m k = [] := fun h => by
    have : formL m k = [] := by rw [hf, if_neg (by omega), if_neg (by omega), if_neg (by omega), if_neg (by omega), if_neg (by omega)]
    rw [hz, this]
    simp
  rcases kind_cases k.code with hk | hk | hk | hk | hk | hk | hk | hk
  · simp +contextual (maxSteps := 1000000) only [hk, fe_nil, fe_int, isKey_int, go_sem, reduceCtorEq, ↓reduceIte, Nat.reduceAdd, Nat.reduceEqDiff, Nat.reduceLeDiff, Nat.reduceMul, Nat.reduceBEq, Int.reduceBEq, Int.reduceBNe, Int.reduceLT, Int.reduceLE, Int.reduceGT, Int.reduceGE, Int.reduceToNat]
    unfold ir_legacyKey_t4
    simp +contextual (maxSteps := 1000000) only [go_sem, reduceCtorEq, ↓reduceIte, Nat.reduceAdd, Nat.reduceEqDiff, Nat.reduceLeDiff, Nat.reduceMul, Nat.reduceBEq, Int.reduceBEq, Int.reduceBNe, Int.reduceLT, Int.reduceLE, Int.reduceGT, Int.reduceGE, Int.reduceToNat]
    rw [← hQ, low (by omega)]
    exact ⟨trivial, .inl ⟨_, rfl, RepLe.nils 1⟩⟩
  · have hfm : formL m k = textL k := by rw [hf]; simp only [hk]; rfl
    have nf : (mayK k && (k.type != 3)) = false → legK m k = [] := fun h => by rw [hz, h]; rfl
    simp +contextual (maxSteps := 1000000) only [hk, fe_nil, fe_int, isKey_int, go_sem, reduceCtorEq, ↓reduceIte, Nat.reduceAdd, Nat.reduceEqDiff, Nat.reduceLeDiff, Nat.reduceMul, Nat.reduceBEq, Int.reduceBEq, Int.reduceBNe, Int.reduceLT, Int.reduceLE, Int.reduceGT, Int.reduceGE, Int.reduceToNat]
    unfold ir_legacyKey_t4
    simp +contextual (maxSteps := 1000000) only [go_sem, reduceCtorEq, ↓reduceIte, Nat.reduceAdd, Nat.reduceEqDiff, Nat.reduceLeDiff, Nat.reduceMul, Nat.reduceBEq, Int.reduceBEq, Int.reduceBNe, Int.reduceLT, Int.reduceLE, Int.reduceGT, Int.reduceGE, Int.reduceToNat]
    (refine CallP.pure (c2) (fun _ => rfl) ?_; simp +contextual (maxSteps := 1000000) only [go_sem, reduceCtorEq, ↓reduceIte, Nat.reduceAdd, Nat.reduceEqDiff, Nat.reduceLeDiff, Nat.reduceMul, Nat.reduceBEq, Int.reduceBEq, Int.reduceBNe, Int.reduceLT, Int.reduceLE, Int.reduceGT, Int.reduceGE, Int.reduceToNat])
    cases hmk : mayK k with
    | false =>
      simp +contextual (maxSteps := 1000000) only [hmk, go_sem, reduceCtorEq, ↓reduceIte, Nat.reduceAdd, Nat.reduceEqDiff, Nat.reduceLeDiff, Nat.reduceMul, Nat.reduceBEq, Int.reduceBEq, Int.reduceBNe, Int.reduceLT, Int.reduceLE, Int.reduceGT, Int.reduceGE, Int.reduceToNat]
      rw [← hQ, nf (by rw [hmk]; rfl)]
      exact ⟨trivial, .inl ⟨_, rfl, RepLe.nils 1⟩⟩
    | true =>
      have M := mayK_iff.1 hmk
      cases ht3 : (k.type == 3) with
      | true =>
        simp +contextual (maxSteps := 1000000) only [hmk, ht3, go_sem, reduceCtorEq, ↓reduceIte, Nat.reduceAdd, Nat.reduceEqDiff, Nat.reduceLeDiff, Nat.reduceMul, Nat.reduceBEq, Int.reduceBEq, Int.reduceBNe, Int.reduceLT, Int.reduceLE, Int.reduceGT, Int.reduceGE, Int.reduceToNat]
        rw [← hQ, nf (by rw [hmk, bne, ht3]; rfl)]
        exact ⟨trivial, .inl ⟨_, rfl, RepLe.nils 1⟩⟩
      | false =>
        have c3 := d1 M
        rw [hk] at c3
        have hlk : legK m k = textL k := by rw [hz, hmk, bne, ht3, ← hfm]; rfl
        simp +contextual (maxSteps := 1000000) only [hmk, ht3, go_sem, reduceCtorEq, ↓reduceIte, Nat.reduceAdd, Nat.reduceEqDiff, Nat.reduceLeDiff, Nat.reduceMul, Nat.reduceBEq, Int.reduceBEq, Int.reduceBNe, Int.reduceLT, Int.reduceLE, Int.reduceGT, Int.reduceGE, Int.reduceToNat]
        unfold ir_legacyKey_t5
        simp +contextual (maxSteps := 1000000) only [go_sem, reduceCtorEq, ↓reduceIte, Nat.reduceAdd, Nat.reduceEqDiff, Nat.reduceLeDiff, Nat.reduceMul, Nat.reduceBEq, Int.reduceBEq, Int.reduceBNe, Int.reduceLT, Int.reduceLE, Int.reduceGT, Int.reduceGE, Int.reduceToNat]
        (refine CallP.pure (c3) (fun _ => rfl) ?_; simp +contextual (maxSteps := 1000000) only [go_sem, reduceCtorEq, ↓reduceIte, Nat.reduceAdd, Nat.reduceEqDiff, Nat.reduceLeDiff, Nat.reduceMul, Nat.reduceBEq, Int.reduceBEq, Int.reduceBNe, Int.reduceLT, Int.reduceLE, Int.reduceGT, Int.reduceGE, Int.reduceToNat])
        rw [← hQ, hlk]
        exact ⟨trivial, .inl ⟨_, rfl, RepLe.refl _⟩⟩
  · have hfm : formL m k = plainL m k := by rw [hf]; simp only [hk]; rfl
    have nf : (mayK k && (k.type != 3)) = false → legK m k = [] := fun h => by rw [hz, h]; rfl
    simp +contextual (maxSteps := 1000000) only [hk, fe_nil, fe_int, isKey_int, go_sem, reduceCtorEq, ↓reduceIte, Nat.reduceAdd, Nat.reduceEqDiff, Nat.reduceLeDiff, Nat.reduceMul, Nat.reduceBEq, Int.reduceBEq, Int.reduceBNe, Int.reduceLT, Int.reduceLE, Int.reduceGT, Int.reduceGE, Int.reduceToNat]
    unfold ir_legacyKey_t4
    simp +contextual (maxSteps := 1000000) only [go_sem, reduceCtorEq, ↓reduceIte, Nat.reduceAdd, Nat.reduceEqDiff, Nat.reduceLeDiff, Nat.reduceMul, Nat.reduceBEq, Int.reduceBEq, Int.reduceBNe, Int.reduceLT, Int.reduceLE, Int.reduceGT, Int.reduceGE, Int.reduceToNat]
    (refine CallP.pure (c2) (fun _ => rfl) ?_; simp +contextual (maxSteps := 1000000) only [go_sem, reduceCtorEq, ↓reduceIte, Nat.reduceAdd, Nat.reduceEqDiff, Nat.reduceLeDiff, Nat.reduceMul, Nat.reduceBEq, Int.reduceBEq, Int.reduceBNe, Int.reduceLT, Int.reduceLE, Int.reduceGT, Int.reduceGE, Int.reduceToNat])
    cases hmk : mayK k with
    | false =>
      simp +contextual (maxSteps := 1000000) only [hmk, go_sem, reduceCtorEq, ↓reduceIte, Nat.reduceAdd, Nat.reduceEqDiff, Nat.reduceLeDiff, Nat.reduceMul, Nat.reduceBEq, Int.reduceBEq, Int.reduceBNe, Int.reduceLT, Int.reduceLE, Int.reduceGT, Int.reduceGE, Int.reduceToNat]
      rw [← hQ, nf (by rw [hmk]; rfl)]
      exact ⟨trivial, .inl ⟨_, rfl, RepLe.nils 1⟩⟩
    | true =>
      have M := mayK_iff.1 hmk
      cases ht3 : (k.type == 3) with
      | true =>
        simp +contextual (maxSteps := 1000000) only [hmk, ht3, go_sem, reduceCtorEq, ↓reduceIte, Nat.reduceAdd, Nat.reduceEqDiff, Nat.reduceLeDiff, Nat.reduceMul, Nat.reduceBEq, Int.reduceBEq, Int.reduceBNe, Int.reduceLT, Int.reduceLE, Int.reduceGT, Int.reduceGE, Int.reduceToNat]
        rw [← hQ, nf (by rw [hmk, bne, ht3]; rfl)]
        exact ⟨trivial, .inl ⟨_, rfl, RepLe.nils 1⟩⟩
      | false =>
        have c3 := d2 M
        rw [hk] at c3
        have hlk : legK m k = plainL m k := by rw [hz, hmk, bne, ht3, ← hfm]; rfl
        simp +contextual (maxSteps := 1000000) only [hmk, ht3, go_sem, reduceCtorEq, ↓reduceIte, Nat.reduceAdd, Nat.reduceEqDiff, Nat.reduceLeDiff, Nat.reduceMul, Nat.reduceBEq, Int.reduceBEq, Int.reduceBNe, Int.reduceLT, Int.reduceLE, Int.reduceGT, Int.reduceGE, Int.reduceToNat]
        unfold ir_legacyKey_t5
        simp +contextual (maxSteps := 1000000) only [go_sem, reduceCtorEq, ↓reduceIte, Nat.reduceAdd, Nat.reduceEqDiff, Nat.reduceLeDiff, Nat.reduceMul, Nat.reduceBEq, Int.reduceBEq, Int.reduceBNe, Int.reduceLT, Int.reduceLE, Int.reduceGT, Int.reduceGE, Int.reduceToNat]
        (refine CallP.pure (c3) (fun _ => rfl) ?_; simp +contextual (maxSteps := 1000000) only [go_sem, reduceCtorEq, ↓reduceIte, Nat.reduceAdd, Nat.reduceEqDiff, Nat.reduceLeDiff, Nat.reduceMul, Nat.reduceBEq, Int.reduceBEq, Int.reduceBNe, Int.reduceLT, Int.reduceLE, Int.reduceGT, Int.reduceGE, Int.reduceToNat])
        rw [← hQ, hlk]
        exact ⟨trivial, .inl ⟨_, rfl, RepLe.refl _⟩⟩
  · have hfm : formL m k = letterL m k (lookR k.code) := by rw [hf]; simp only [hk]; rfl
    have nf : (mayK k && (k.type != 3)) = false → legK m k = [] := fun h => by rw [hz, h]; rfl
    simp +contextual (maxSteps := 1000000) only [hk, fe_nil, fe_int, isKey_int, go_sem, reduceCtorEq, ↓reduceIte, Nat.reduceAdd, Nat.reduceEqDiff, Nat.reduceLeDiff, Nat.reduceMul, Nat.reduceBEq, Int.reduceBEq, Int.reduceBNe, Int.reduceLT, Int.reduceLE, Int.reduceGT, Int.reduceGE, Int.reduceToNat]
    unfold ir_legacyKey_t4
    simp +contextual (maxSteps := 1000000) only [go_sem, reduceCtorEq, ↓reduceIte, Nat.reduceAdd, Nat.reduceEqDiff, Nat.reduceLeDiff, Nat.reduceMul, Nat.reduceBEq, Int.reduceBEq, Int.reduceBNe, Int.reduceLT, Int.reduceLE, Int.reduceGT, Int.reduceGE, Int.reduceToNat]
    (refine CallP.pure (c2) (fun _ => rfl) ?_; simp +contextual (maxSteps := 1000000) only [go_sem, reduceCtorEq, ↓reduceIte, Nat.reduceAdd, Nat.reduceEqDiff, Nat.reduceLeDiff, Nat.reduceMul, Nat.reduceBEq, Int.reduceBEq, Int.reduceBNe, Int.reduceLT, Int.reduceLE, Int.reduceGT, Int.reduceGE, Int.reduceToNat])
    cases hmk : mayK k with
    | false =>
      simp +contextual (maxSteps := 1000000) only [hmk, go_sem, reduceCtorEq, ↓reduceIte, Nat.reduceAdd, Nat.reduceEqDiff, Nat.reduceLeDiff, Nat.reduceMul, Nat.reduceBEq, Int.reduceBEq, Int.reduceBNe, Int.reduceLT, Int.reduceLE, Int.reduceGT, Int.reduceGE, Int.reduceToNat]
      rw [← hQ, nf (by rw [hmk]; rfl)]
      exact ⟨trivial, .inl ⟨_, rfl, RepLe.nils 1⟩⟩
    | true =>
      have M := mayK_iff.1 hmk
      cases ht3 : (k.type == 3) with
      | true =>
        simp +contextual (maxSteps := 1000000) only [hmk, ht3, go_sem, reduceCtorEq, ↓reduceIte, Nat.reduceAdd, Nat.reduceEqDiff, Nat.reduceLeDiff, Nat.reduceMul, Nat.reduceBEq, Int.reduceBEq, Int.reduceBNe, Int.reduceLT, Int.reduceLE, Int.reduceGT, Int.reduceGE, Int.reduceToNat]
        rw [← hQ, nf (by rw [hmk, bne, ht3]; rfl)]
        exact ⟨trivial, .inl ⟨_, rfl, RepLe.nils 1⟩⟩
      | false =>
        have c3 := d3 M
        rw [hk] at c3
        have hlk : legK m k = letterL m k (lookR k.code) := by rw [hz, hmk, bne, ht3, ← hfm]; rfl
        simp +contextual (maxSteps := 1000000) only [hmk, ht3, go_sem, reduceCtorEq, ↓reduceIte, Nat.reduceAdd, Nat.reduceEqDiff, Nat.reduceLeDiff, Nat.reduceMul, Nat.reduceBEq, Int.reduceBEq, Int.reduceBNe, Int.reduceLT, Int.reduceLE, Int.reduceGT, Int.reduceGE, Int.reduceToNat]
        unfold ir_legacyKey_t5
        simp +contextual (maxSteps := 1000000) only [go_sem, reduceCtorEq, ↓reduceIte, Nat.reduceAdd, Nat.reduceEqDiff, Nat.reduceLeDiff, Nat.reduceMul, Nat.reduceBEq, Int.reduceBEq, Int.reduceBNe, Int.reduceLT, Int.reduceLE, Int.reduceGT, Int.reduceGE, Int.reduceToNat]
        (refine CallP.pure (c3) (fun _ => rfl) ?_; simp +contextual (maxSteps := 1000000) only [go_sem, reduceCtorEq, ↓reduceIte, Nat.reduceAdd, Nat.reduceEqDiff, Nat.reduceLeDiff, Nat.reduceMul, Nat.reduceBEq, Int.reduceBEq, Int.reduceBNe, Int.reduceLT, Int.reduceLE, Int.reduceGT, Int.reduceGE, Int.reduceToNat])
        rw [← hQ, hlk]
        exact ⟨trivial, .inl ⟨_, rfl, RepLe.refl _⟩⟩
  · have hfm : formL m k = numberL k (lookR k.code) := by rw [hf]; simp only [hk]; rfl
    have nf : (mayK k && (k.type != 3)) = false → legK m k = [] := fun h => by rw [hz, h]; rfl
    simp +contextual (maxSteps := 1000000) only [hk, fe_nil, fe_int, isKey_int, go_sem, reduceCtorEq, ↓reduceIte, Nat.reduceAdd, Nat.reduceEqDiff, Nat.reduceLeDiff, Nat.reduceMul, Nat.reduceBEq, Int.reduceBEq, Int.reduceBNe, Int.reduceLT, Int.reduceLE, Int.reduceGT, Int.reduceGE, Int.reduceToNat]
    unfold ir_legacyKey_t4
    simp +contextual (maxSteps := 1000000) only [go_sem, reduceCtorEq, ↓reduceIte, Nat.reduceAdd, Nat.reduceEqDiff, Nat.reduceLeDiff, Nat.reduceMul, Nat.reduceBEq, Int.reduceBEq, Int.reduceBNe, Int.reduceLT, Int.reduceLE, Int.reduceGT, Int.reduceGE, Int.reduceToNat]
    (refine CallP.pure (c2) (fun _ => rfl) ?_; simp +contextual (maxSteps := 1000000) only [go_sem, reduceCtorEq, ↓reduceIte, Nat.reduceAdd, Nat.reduceEqDiff, Nat.reduceLeDiff, Nat.reduceMul, Nat.reduceBEq, Int.reduceBEq, Int.reduceBNe, Int.reduceLT, Int.reduceLE, Int.reduceGT, Int.reduceGE, Int.reduceToNat])
    cases hmk : mayK k with
    | false =>
      simp +contextual (maxSteps := 1000000) only [hmk, go_sem, reduceCtorEq, ↓reduceIte, Nat.reduceAdd, Nat.reduceEqDiff, Nat.reduceLeDiff, Nat.reduceMul, Nat.reduceBEq, Int.reduceBEq, Int.reduceBNe, Int.reduceLT, Int.reduceLE, Int.reduceGT, Int.reduceGE, Int.reduceToNat]
      rw [← hQ, nf (by rw [hmk]; rfl)]
      exact ⟨trivial, .inl ⟨_, rfl, RepLe.nils 1⟩⟩
    | true =>
      have M := mayK_iff.1 hmk
      cases ht3 : (k.type == 3) with
      | true =>
        simp +contextual (maxSteps := 1000000) only [hmk, ht3, go_sem, reduceCtorEq, ↓reduceIte, Nat.reduceAdd, Nat.reduceEqDiff, Nat.reduceLeDiff, Nat.reduceMul, Nat.reduceBEq, Int.reduceBEq, Int.reduceBNe, Int.reduceLT, Int.reduceLE, Int.reduceGT, Int.reduceGE, Int.reduceToNat]
        rw [← hQ, nf (by rw [hmk, bne, ht3]; rfl)]
        exact ⟨trivial, .inl ⟨_, rfl, RepLe.nils 1⟩⟩
      | false =>
        have c3 := d4 M
        rw [hk] at c3
        have hlk : legK m k = numberL k (lookR k.code) := by rw [hz, hmk, bne, ht3, ← hfm]; rfl
        simp +contextual (maxSteps := 1000000) only [hmk, ht3, go_sem, reduceCtorEq, ↓reduceIte, Nat.reduceAdd, Nat.reduceEqDiff, Nat.reduceLeDiff, Nat.reduceMul, Nat.reduceBEq, Int.reduceBEq, Int.reduceBNe, Int.reduceLT, Int.reduceLE, Int.reduceGT, Int.reduceGE, Int.reduceToNat]
        unfold ir_legacyKey_t5
        simp +contextual (maxSteps := 1000000) only [go_sem, reduceCtorEq, ↓reduceIte, Nat.reduceAdd, Nat.reduceEqDiff, Nat.reduceLeDiff, Nat.reduceMul, Nat.reduceBEq, Int.reduceBEq, Int.reduceBNe, Int.reduceLT, Int.reduceLE, Int.reduceGT, Int.reduceGE, Int.reduceToNat]
        (refine CallP.pure (c3) (fun _ => rfl) ?_; simp +contextual (maxSteps := 1000000) only [go_sem, reduceCtorEq, ↓reduceIte, Nat.reduceAdd, Nat.reduceEqDiff, Nat.reduceLeDiff, Nat.reduceMul, Nat.reduceBEq, Int.reduceBEq, Int.reduceBNe, Int.reduceLT, Int.reduceLE, Int.reduceGT, Int.reduceGE, Int.reduceToNat])
        rw [← hQ, hlk]
        exact ⟨trivial, .inl ⟨_, rfl, RepLe.refl _⟩⟩
  · have hfm : formL m k = padL m k (lookR k.code) := by rw [hf]; simp only [hk]; rfl
    have nf : (mayK k && (k.type != 3)) = false → legK m k = [] := fun h => by rw [hz, h]; rfl
    simp +contextual (maxSteps := 1000000) only [hk, fe_nil, fe_int, isKey_int, go_sem, reduceCtorEq, ↓reduceIte, Nat.reduceAdd, Nat.reduceEqDiff, Nat.reduceLeDiff, Nat.reduceMul, Nat.reduceBEq, Int.reduceBEq, Int.reduceBNe, Int.reduceLT, Int.reduceLE, Int.reduceGT, Int.reduceGE, Int.reduceToNat]
    unfold ir_legacyKey_t4
    simp +contextual (maxSteps := 1000000) only [go_sem, reduceCtorEq, ↓reduceIte, Nat.reduceAdd, Nat.reduceEqDiff, Nat.reduceLeDiff, Nat.reduceMul, Nat.reduceBEq, Int.reduceBEq, Int.reduceBNe, Int.reduceLT, Int.reduceLE, Int.reduceGT, Int.reduceGE, Int.reduceToNat]
    (refine CallP.pure (c2) (fun _ => rfl) ?_; simp +contextual (maxSteps := 1000000) only [go_sem, reduceCtorEq, ↓reduceIte, Nat.reduceAdd, Nat.reduceEqDiff, Nat.reduceLeDiff, Nat.reduceMul, Nat.reduceBEq, Int.reduceBEq, Int.reduceBNe, Int.reduceLT, Int.reduceLE, Int.reduceGT, Int.reduceGE, Int.reduceToNat])
    cases hmk : mayK k with
    | false =>
      simp +contextual (maxSteps := 1000000) only [hmk, go_sem, reduceCtorEq, ↓reduceIte, Nat.reduceAdd, Nat.reduceEqDiff, Nat.reduceLeDiff, Nat.reduceMul, Nat.reduceBEq, Int.reduceBEq, Int.reduceBNe, Int.reduceLT, Int.reduceLE, Int.reduceGT, Int.reduceGE, Int.reduceToNat]
      rw [← hQ, nf (by rw [hmk]; rfl)]
      exact ⟨trivial, .inl ⟨_, rfl, RepLe.nils 1⟩⟩
    | true =>
      have M := mayK_iff.1 hmk
      cases ht3 : (k.type == 3) with
      | true =>
        simp +contextual (maxSteps := 1000000) only [hmk, ht3, go_sem, reduceCtorEq, ↓reduceIte, Nat.reduceAdd, Nat.reduceEqDiff, Nat.reduceLeDiff, Nat.reduceMul, Nat.reduceBEq, Int.reduceBEq, Int.reduceBNe, Int.reduceLT, Int.reduceLE, Int.reduceGT, Int.reduceGE, Int.reduceToNat]
        rw [← hQ, nf (by rw [hmk, bne, ht3]; rfl)]
        exact ⟨trivial, .inl ⟨_, rfl, RepLe.nils 1⟩⟩
      | false =>
        have c3 := d5 M
        rw [hk] at c3
        have hlk : legK m k = padL m k (lookR k.code) := by rw [hz, hmk, bne, ht3, ← hfm]; rfl
        simp +contextual (maxSteps := 1000000) only [hmk, ht3, go_sem, reduceCtorEq, ↓reduceIte, Nat.reduceAdd, Nat.reduceEqDiff, Nat.reduceLeDiff, Nat.reduceMul, Nat.reduceBEq, Int.reduceBEq, Int.reduceBNe, Int.reduceLT, Int.reduceLE, Int.reduceGT, Int.reduceGE, Int.reduceToNat]
        unfold ir_legacyKey_t5
        simp +contextual (maxSteps := 1000000) only [go_sem, reduceCtorEq, ↓reduceIte, Nat.reduceAdd, Nat.reduceEqDiff, Nat.reduceLeDiff, Nat.reduceMul, Nat.reduceBEq, Int.reduceBEq, Int.reduceBNe, Int.reduceLT, Int.reduceLE, Int.reduceGT, Int.reduceGE, Int.reduceToNat]
        (refine CallP.pure (c3) (fun _ => rfl) ?_; simp +contextual (maxSteps := 1000000) only [go_sem, reduceCtorEq, ↓reduceIte, Nat.reduceAdd, Nat.reduceEqDiff, Nat.reduceLeDiff, Nat.reduceMul, Nat.reduceBEq, Int.reduceBEq, Int.reduceBNe, Int.reduceLT, Int.reduceLE, Int.reduceGT, Int.reduceGE, Int.reduceToNat])
        rw [← hQ, hlk]
        exact ⟨trivial, .inl ⟨_, rfl, RepLe.refl _⟩⟩
  · simp +contextual (maxSteps := 1000000) only [hk, fe_nil, fe_int, isKey_int, go_sem, reduceCtorEq, ↓reduceIte, Nat.reduceAdd, Nat.reduceEqDiff, Nat.reduceLeDiff, Nat.reduceMul, Nat.reduceBEq, Int.reduceBEq, Int.reduceBNe, Int.reduceLT, Int.reduceLE, Int.reduceGT, Int.reduceGE, Int.reduceToNat]
    unfold ir_legacyKey_t4
    simp +contextual (maxSteps := 1000000) only [go_sem, reduceCtorEq, ↓reduceIte, Nat.reduceAdd, Nat.reduceEqDiff, Nat.reduceLeDiff, Nat.reduceMul, Nat.reduceBEq, Int.reduceBEq, Int.reduceBNe, Int.reduceLT, Int.reduceLE, Int.reduceGT, Int.reduceGE, Int.reduceToNat]
    rw [← hQ, low (by omega)]
    exact ⟨trivial, .inl ⟨_, rfl, RepLe.nils 1⟩⟩
  · simp +contextual (maxSteps := 1000000) only [hk, fe_nil, fe_int, isKey_int, go_sem, reduceCtorEq, ↓reduceIte, Nat.reduceAdd, Nat.reduceEqDiff, Nat.reduceLeDiff, Nat.reduceMul, Nat.reduceBEq, Int.reduceBEq, Int.reduceBNe, Int.reduceLT, Int.reduceLE, Int.reduceGT, Int.reduceGE, Int.reduceToNat]
    unfold ir_legacyKey_t4
    simp +contextual (maxSteps := 1000000) only [go_sem, reduceCtorEq, ↓reduceIte, Nat.reduceAdd, Nat.reduceEqDiff, Nat.reduceLeDiff, Nat.reduceMul, Nat.reduceBEq, Int.reduceBEq, Int.reduceBNe, Int.reduceLT, Int.reduceLE, Int.reduceGT, Int.reduceGE, Int.reduceToNat]
    rw [← hQ, low (by omega)]
    exact ⟨trivial, .inl ⟨_, rfl, RepLe.nils 1⟩⟩
theorem shownL_len (k : Ky) : (shownL k).length ≤ k.text.length + 4 := by
  have := putU_len (shownK k)
  unfold shownL
  repeat' split
  · omega
  · simp
  · omega
theorem plainB_len (m : Md) (k : Ky) : (plainB m k).length ≤ 3 := by
  have : (putX (numSq 1 0 90 [])).length = 3 := by decide +kernel
  unfold plainB
  repeat' split
  all_goals first | omega | simp
end Go.Proofs.YtbepihadhmfklaaGreatDoor

namespace Go.Proofs.YtbepihadhmfklaaGreatDoor
open Go Go.Ab

structure MayF (s : Sq) : Prop where
  pr : s.pr = 0 ∨ 60 ≤ s.pr ∧ s.pr ≤ 63
  il : s.it.length ≤ 2
  it : ∀ c ∈ s.it, 32 ≤ c.toNat ∧ c.toNat < 48
  ps : parsOk s.ps = true
  dl : s.da.length ≤ 4096
  da : ∀ c ∈ s.da, 32 ≤ c.toNat ∧ c.toNat < 127
  sh : shapedP s = true
def zeroSq : Sq := ⟨0, 0, [], [], 0, []⟩
end Go.Proofs.YtbepihadhmfklaaGreatDoor

namespace Go.Proofs.YtbepihadhmfklaaGreatDoor
open Go Go.Ab
/- (*clavier/wire.cursor).run -/
end Go.Proofs.YtbepihadhmfklaaGreatDoor

namespace Go.Proofs.YtbepihadhmfklaaGreatDoor
open Go Go.Ab
end Go.Proofs.YtbepihadhmfklaaGreatDoor

namespace Go.Proofs.YtbepihadhmfklaaGreatDoor
open Go Go.Ab
/- (*clavier/wire.reader).params -/
end Go.Proofs.YtbepihadhmfklaaGreatDoor

namespace Go.Proofs.YtbepihadhmfklaaGreatDoor
open Go Go.Ab
end Go.Proofs.YtbepihadhmfklaaGreatDoor

namespace Go.Proofs.YtbepihadhmfklaaGreatDoor
open Go Go.Ab
theorem RepLe.tupL {xs ys : List AV} (h : LeL xs ys) : RepLe (.tup xs) (.tup ys) := fun g v ⟨vs, e, k⟩ => ⟨vs, e, h.rep k⟩
theorem zero_le : RepLe (.tup [.agg [.int .i64 0, .int .u8 0, .nils, .str [], .int .u8 0, .str []], .int .i64 0, .int .i64 2]) (.tup [.agg zeroSq.c, .int .i64 0, .int .i64 2]) :=
  RepLe.tupL ⟨RepLe.agg ⟨.refl _, .refl _, .nils 1, .refl _, .refl _, .refl _, trivial⟩, .refl _, .refl _, trivial⟩
end Go.Proofs.YtbepihadhmfklaaGreatDoor

namespace Go.Proofs.YtbepihadhmfklaaGreatDoor
open Go Go.Ab
theorem putX_may {s : Sq} (h : mayP s = 0) : putX s = putB s := by unfold putX; rw [h]; rfl
end Go.Proofs.YtbepihadhmfklaaGreatDoor

namespace Go.Proofs.YtbepihadhmfklaaGreatDoor
open Go Go.Ab

def charK (k : Ky) : Int := if kindK k.code = 1 then shownK k else k.code
def allO (k : Ky) : Bool := (oldK k.mods != 0) && ((kindK k.code == 2) || (oldK k.mods != 1))
def fewO (k : Ky) : Bool := allO k && hasK k.mods 4 && (if kindK k.code = 2 then (k.code == 9) || (k.code == 13) else hasK k.mods 1 || !(foldK (shownK k)).isSome)
def lvO (o : Int) (k : Ky) : Bool := if o = 1 then fewO k else if o = 2 then allO k else false
def isO (o : Int) (k : Ky) : Bool := ((kindK k.code == 1) || (kindK k.code == 2)) && mayK k && (k.type != 3) && lvO o k
def othSq (k : Ky) : Sq := numSq 1 0 126 [27, 1 + oldK k.mods, charK k]
def othK (o : Int) (k : Ky) : List UInt8 := if isO o k = true then putB (othSq k) else []
theorem old_lt (m : Int) : 0 ≤ oldK m ∧ oldK m < 8 := by unfold oldK; omega
theorem isO_iff {o : Int} {k : Ky} : isO o k = true ↔ (kindK k.code = 1 ∨ kindK k.code = 2) ∧ MayK k ∧ k.type ≠ 3 ∧ lvO o k = true := by
  unfold isO
  simp only [Bool.and_eq_true, Bool.or_eq_true, beq_iff_eq, bne_iff_ne, mayK_iff, and_assoc]
theorem char_range {k : Ky} (M : MayK k) : 0 ≤ charK k ∧ charK k ≤ 1114111 := by
  unfold charK
  split
  · rename_i h
    obtain ⟨n, h1, h2, _⟩ := isCP_spec (shown_cp h M.sh).1
    omega
  · exact kind_range M.kind
theorem may3 {a b c : Int} (ha : 0 ≤ a ∧ a ≤ 1114111) (hb : 0 ≤ b ∧ b ≤ 1114111) (hc : 0 ≤ c ∧ c ≤ 1114111) : mayP (numSq 1 0 126 [a, b, c]) = 0 := by
  have hp : parsOk (([a, b, c] : List Int).map fun n => [n]) = true := by
    simp only [parsOk, List.map_cons, List.map_nil, List.any_cons, List.any_nil, parBad, List.length_cons, List.length_nil]
    have q : ∀ {x : Int}, 0 ≤ x ∧ x ≤ 1114111 → (decide (x < -1) || decide (x > 1114111)) = false := fun h => by
      rw [decide_eq_false (by omega), decide_eq_false (by omega)]; rfl
    rw [q ha, q hb, q hc]
    simp
  unfold mayP numSq
  rw [hp]
  simp [within, shapedP]
theorem oth_may {k : Ky} (M : MayK k) : mayP (othSq k) = 0 := by
  have := old_lt k.mods
  exact may3 (by omega) (by omega) (char_range M)
end Go.Proofs.YtbepihadhmfklaaGreatDoor

namespace Go.Proofs.YtbepihadhmfklaaGreatDoor
open Go Go.Ab
def ir_clavierref08Flags : ICode :=
 (.seq
 (.reg [⟨some 2, none, .mov (.c (.int .i64 0))⟩] (some [0]))
 (.seq
 (.reg [⟨some 3, none, .mov (.t 0)⟩,
 ⟨some 4, none, .mm false (.t 3) (.c (.int .i64 0))⟩,
 ⟨some 5, none, .bin .rem .none (.t 4) (.c (.int .i64 32))⟩,
 ⟨some 2, none, .mov (.t 5)⟩] (some [2]))
 .ret))
theorem is_clavierref08Flags : IrOf Tryz.prog 18 6 ir_clavierref08Flags [.t 2] := ⟨_, Tryz.func18, rfl, by kernel_rfl, by kernel_rfl, by kernel_rfl⟩

def ir_clavierref13flag : ICode :=
 (.seq
 (.reg [⟨some 4, none, .mov (.c (.bool false))⟩] (some [0, 1]))
 (.seq
 (.reg [⟨some 5, none, .mov (.t 0)⟩,
 ⟨some 6, none, .call (.c (.fn (.func 18) [] [])) [(.t 5)]⟩,
 ⟨some 7, none, .mov (.t 1)⟩,
 ⟨some 8, none, .bin .quo .none (.t 6) (.t 7)⟩,
 ⟨some 9, none, .bin .rem .none (.t 8) (.c (.int .i64 2))⟩,
 ⟨some 10, none, .bin .eql .none (.t 9) (.c (.int .i64 1))⟩,
 ⟨some 4, none, .mov (.t 10)⟩] (some [4]))
 .ret))
theorem is_clavierref13flag : IrOf Tryz.prog 67 11 ir_clavierref13flag [.t 4] := ⟨_, Tryz.func67, rfl, by kernel_rfl, by kernel_rfl, by kernel_rfl⟩

def ir_clavierref13keyed : ICode :=
 (.seq
 (.reg [⟨some 2, none, .mov (.c (.bool false))⟩] (some [0]))
 (.seq
 (.reg [⟨some 3, none, .mov (.t 0)⟩,
 ⟨some 4, none, .bin .eql .none (.t 3) (.c (.int .i64 9))⟩,
 ⟨some 5, none, .mov (.t 4)⟩,
 ⟨some 6, some (5, false), .mov (.t 0)⟩,
 ⟨some 7, some (5, false), .bin .eql .none (.t 6) (.c (.int .i64 13))⟩,
 ⟨some 8, none, .pick (.t 5) (.c (.bool true)) (.t 7)⟩,
 ⟨some 9, none, .mov (.t 8)⟩,
 ⟨some 10, some (9, false), .mov (.t 0)⟩,
 ⟨some 11, some (9, false), .bin .eql .none (.t 10) (.c (.int .i64 127))⟩,
 ⟨some 12, none, .pick (.t 9) (.c (.bool true)) (.t 11)⟩,
 ⟨some 2, none, .mov (.t 12)⟩] (some [2]))
 .ret))
theorem is_clavierref13keyed : IrOf Tryz.prog 69 13 ir_clavierref13keyed [.t 2] := ⟨_, Tryz.func69, rfl, by kernel_rfl, by kernel_rfl, by kernel_rfl⟩

def ir_clavierref13astext : ICode :=
 (.seq
 (.reg [⟨some 1, none, .box 25 (.t 0)⟩,
 ⟨some 2, none, .mov (.c (.bool false))⟩] (some [1]))
 (.seq
 (.reg [⟨some 4, none, .fa 1 (.t 1)⟩,
 ⟨some 5, none, .ld none (.t 4)⟩,
 ⟨some 6, none, .fa 1 (.t 1)⟩,
 ⟨some 7, none, .ld none (.t 6)⟩,
 ⟨some 8, none, .bin .quo .none (.t 7) (.c (.int .i64 64))⟩,
 ⟨some 9, none, .bin .mul .none (.t 8) (.c (.int .i64 64))⟩,
 ⟨some 10, none, .bin .sub .none (.t 5) (.t 9)⟩,
 ⟨some 3, none, .mov (.t 10)⟩] (some [1, 3]))
 (.seq
 (.seq
 (.reg [⟨some 11, none, .fa 0 (.t 1)⟩,
 ⟨some 12, none, .ld none (.t 11)⟩,
 ⟨some 13, none, .call (.c (.fn (.func 33) [] [])) [(.t 12)]⟩,
 ⟨some 14, none, .fld 0 none (.t 13)⟩,
 ⟨some 15, none, .bin .eql .none (.t 14) (.c (.int .i64 1))⟩] (some [1, 3, 15]))
 (.cond (.t 15)
 (.seq
 (.reg [⟨some 16, none, .mov (.t 3)⟩,
 ⟨some 17, none, .bin .leq .none (.t 16) (.c (.int .i64 1))⟩,
 ⟨some 2, none, .mov (.t 17)⟩] (some [2]))
 .ret)
 .skip))
 (.seq
 (.reg [⟨some 18, none, .fa 0 (.t 1)⟩,
 ⟨some 19, none, .ld none (.t 18)⟩,
 ⟨some 20, none, .call (.c (.fn (.func 69) [] [])) [(.t 19)]⟩,
 ⟨some 21, none, .mov (.t 20)⟩,
 ⟨some 22, some (21, true), .mov (.t 3)⟩,
 ⟨some 23, some (21, true), .bin .eql .none (.t 22) (.c (.int .i64 0))⟩,
 ⟨some 24, none, .pick (.t 21) (.t 23) (.c (.bool false))⟩,
 ⟨some 2, none, .mov (.t 24)⟩] (some [2]))
 .ret))))
theorem is_clavierref13astext : IrOf Tryz.prog 68 25 ir_clavierref13astext [.t 2] := ⟨_, Tryz.func68, rfl, by kernel_rfl, by kernel_rfl, by kernel_rfl⟩

def ir_clavierref13sent : ICode :=
 (.seq
 (.reg [⟨some 3, none, .box 25 (.t 1)⟩,
 ⟨some 4, none, .mov (.c (.bool false))⟩] (some [0, 3]))
 (.seq
 (.seq
 (.reg [⟨some 7, none, .ld (some 6) (.t 3)⟩,
 ⟨some 8, none, .call (.c (.fn (.func 17) [] [])) [(.t 7)]⟩,
 ⟨some 9, none, .un .not (.t 8)⟩] (some [0, 3, 9]))
 (.cond (.t 9)
 (.seq
 (.reg [⟨some 4, none, .mov (.c (.bool false))⟩] (some [4]))
 .ret)
 .skip))
 (.seq
 (.reg [⟨some 10, none, .fa 0 (.t 3)⟩,
 ⟨some 11, none, .ld none (.t 10)⟩,
 ⟨some 12, none, .call (.c (.fn (.func 33) [] [])) [(.t 11)]⟩,
 ⟨some 13, none, .fld 0 none (.t 12)⟩,
 ⟨some 5, none, .mov (.t 13)⟩] (some [0, 3, 5]))
 (.seq
 (.reg [⟨some 14, none, .mov (.t 0)⟩,
 ⟨some 15, none, .call (.c (.fn (.func 67) [] [])) [(.t 14), (.c (.int .i64 8))]⟩,
 ⟨some 6, none, .mov (.t 15)⟩] (some [0, 3, 5, 6]))
 (.seq
 (.seq
 (.reg [⟨some 16, none, .fa 2 (.t 3)⟩,
 ⟨some 17, none, .ld none (.t 16)⟩,
 ⟨some 18, none, .bin .eql .none (.t 17) (.c (.int .i64 3))⟩,
 ⟨some 19, none, .mov (.t 18)⟩,
 ⟨some 20, some (19, true), .mov (.t 0)⟩,
 ⟨some 21, some (19, true), .call (.c (.fn (.func 67) [] [])) [(.t 20), (.c (.int .i64 2))]⟩,
 ⟨some 22, some (19, true), .un .not (.t 21)⟩,
 ⟨some 23, some (19, true), .mov (.t 22)⟩,
 ⟨some 24, some (23, false), .mov (.t 6)⟩,
 ⟨some 25, some (23, false), .un .not (.t 24)⟩,
 ⟨some 26, some (23, false), .mov (.t 25)⟩,
 ⟨some 27, some (26, true), .mov (.t 5)⟩,
 ⟨some 28, some (26, true), .bin .eql .none (.t 27) (.c (.int .i64 1))⟩,
 ⟨some 29, some (26, true), .mov (.t 28)⟩,
 ⟨some 30, some (29, false), .fa 0 (.t 3)⟩,
 ⟨some 31, some (29, false), .ld none (.t 30)⟩,
 ⟨some 32, some (29, false), .call (.c (.fn (.func 69) [] [])) [(.t 31)]⟩,
 ⟨some 33, some (26, true), .pick (.t 29) (.c (.bool true)) (.t 32)⟩,
 ⟨some 34, some (23, false), .pick (.t 26) (.t 33) (.c (.bool false))⟩,
 ⟨some 35, some (19, true), .pick (.t 23) (.c (.bool true)) (.t 34)⟩,
 ⟨some 36, none, .pick (.t 19) (.t 35) (.c (.bool false))⟩] (some [5, 6, 36]))
 (.cond (.t 36)
 (.seq
 (.reg [⟨some 4, none, .mov (.c (.bool false))⟩] (some [4]))
 .ret)
 .skip))
 (.seq
 (.reg [⟨some 37, none, .mov (.t 5)⟩,
 ⟨some 38, none, .bin .neq .none (.t 37) (.c (.int .i64 7))⟩,
 ⟨some 39, none, .mov (.t 38)⟩,
 ⟨some 40, some (39, false), .mov (.t 6)⟩,
 ⟨some 41, none, .pick (.t 39) (.c (.bool true)) (.t 40)⟩,
 ⟨some 4, none, .mov (.t 41)⟩] (some [4]))
 .ret))))))
theorem is_clavierref13sent : IrOf Tryz.prog 66 42 ir_clavierref13sent [.t 4] := ⟨_, Tryz.func66, rfl, by kernel_rfl, by kernel_rfl, by kernel_rfl⟩

def ir_clavierref13first : ICode :=
 (.seq
 (.reg [⟨some 3, none, .box 25 (.t 1)⟩,
 ⟨some 4, none, .mov (.c .nils)⟩] (some [0, 3]))
 (.seq
 (.reg [⟨some 11, none, .fa 0 (.t 3)⟩,
 ⟨some 12, none, .ld none (.t 11)⟩,
 ⟨some 13, none, .call (.c (.fn (.func 114) [] [])) [(.t 12)]⟩,
 ⟨some 10, none, .mov (.t 13)⟩,
 ⟨some 14, none, .ext (.t 10) 0⟩,
 ⟨some 15, none, .ext (.t 10) 1⟩,
 ⟨some 5, none, .mov (.t 14)⟩,
 ⟨some 6, none, .mov (.t 15)⟩] (some [0, 3, 5, 6]))
 (.seq
 (.reg [⟨some 16, none, .mov (.t 5)⟩,
 ⟨some 17, none, .row 3 1 [(.t 16)]⟩,
 ⟨some 7, none, .mov (.t 17)⟩] (some [0, 3, 6, 7]))
 (.seq
 (.seq
 (.reg [⟨some 18, none, .mov (.t 0)⟩,
 ⟨some 19, none, .call (.c (.fn (.func 67) [] [])) [(.t 18), (.c (.int .i64 4))]⟩,
 ⟨some 20, none, .un .not (.t 19)⟩,
 ⟨some 21, none, .mov (.t 20)⟩,
 ⟨some 22, some (21, false), .mov (.t 6)⟩,
 ⟨some 23, some (21, false), .bin .neq .none (.t 22) (.c (.int .u8 117))⟩,
 ⟨some 24, none, .pick (.t 21) (.c (.bool true)) (.t 23)⟩] (some [3, 7, 24]))
 (.cond (.t 24)
 (.seq
 (.reg [⟨some 25, none, .mov (.t 7)⟩,
 ⟨some 4, none, .mov (.t 25)⟩] (some [4]))
 .ret)
 .skip))
 (.seq
 (.reg [⟨some 26, none, .fa 3 (.t 3)⟩,
 ⟨some 27, none, .ld none (.t 26)⟩,
 ⟨some 28, none, .bin .neq .none (.t 27) (.c (.int .i64 0))⟩,
 ⟨some 29, none, .mov (.t 28)⟩,
 ⟨some 30, some (29, true), .fa 1 (.t 3)⟩,
 ⟨some 31, some (29, true), .ld none (.t 30)⟩,
 ⟨some 32, some (29, true), .call (.c (.fn (.func 49) [] [])) [(.t 31), (.c (.int .i64 1))]⟩,
 ⟨some 33, none, .pick (.t 29) (.t 32) (.c (.bool false))⟩,
 ⟨some 8, none, .mov (.t 33)⟩] (some [3, 7, 8]))
 (.seq
 (.reg [⟨some 34, none, .fa 4 (.t 3)⟩,
 ⟨some 35, none, .ld none (.t 34)⟩,
 ⟨some 36, none, .bin .neq .none (.t 35) (.c (.int .i64 0))⟩,
 ⟨some 37, none, .mov (.t 36)⟩,
 ⟨some 38, some (37, true), .fa 4 (.t 3)⟩,
 ⟨some 39, some (37, true), .ld none (.t 38)⟩,
 ⟨some 40, some (37, true), .fa 0 (.t 3)⟩,
 ⟨some 41, some (37, true), .ld none (.t 40)⟩,
 ⟨some 42, some (37, true), .bin .neq .none (.t 39) (.t 41)⟩,
 ⟨some 43, none, .pick (.t 37) (.t 42) (.c (.bool false))⟩,
 ⟨some 9, none, .mov (.t 43)⟩] (some [3, 7, 8, 9]))
 (.seq
 (.seq
 (.reg [⟨some 44, none, .mov (.t 8)⟩] (some [3, 7, 8, 9, 44]))
 (.cond (.t 44)
 (.reg [⟨some 45, none, .mov (.t 7)⟩,
 ⟨some 46, none, .fa 3 (.t 3)⟩,
 ⟨some 47, none, .ld none (.t 46)⟩,
 ⟨some 48, none, .row 3 1 [(.t 47)]⟩,
 ⟨some 49, none, .app 3 1 8 (.t 45) (.t 48)⟩,
 ⟨some 7, none, .mov (.t 49)⟩] (some [3, 7, 8, 9]))
 .skip))
 (.seq
 (.seq
 (.reg [⟨some 50, none, .mov (.t 9)⟩,
 ⟨some 51, none, .mov (.t 50)⟩,
 ⟨some 52, some (51, true), .mov (.t 8)⟩,
 ⟨some 53, some (51, true), .un .not (.t 52)⟩,
 ⟨some 54, none, .pick (.t 51) (.t 53) (.c (.bool false))⟩] (some [3, 7, 9, 54]))
 (.cond (.t 54)
 (.reg [⟨some 55, none, .mov (.t 7)⟩,
 ⟨some 56, none, .row 3 1 [(.c (.int .i64 (-1)))]⟩,
 ⟨some 57, none, .app 3 1 8 (.t 55) (.t 56)⟩,
 ⟨some 7, none, .mov (.t 57)⟩] (some [3, 7, 9]))
 .skip))
 (.seq
 (.seq
 (.reg [⟨some 58, none, .mov (.t 9)⟩] (some [3, 7, 58]))
 (.cond (.t 58)
 (.reg [⟨some 59, none, .mov (.t 7)⟩,
 ⟨some 60, none, .fa 4 (.t 3)⟩,
 ⟨some 61, none, .ld none (.t 60)⟩,
 ⟨some 62, none, .row 3 1 [(.t 61)]⟩,
 ⟨some 63, none, .app 3 1 8 (.t 59) (.t 62)⟩,
 ⟨some 7, none, .mov (.t 63)⟩] (some [7]))
 .skip))
 (.seq
 (.reg [⟨some 64, none, .mov (.t 7)⟩,
 ⟨some 4, none, .mov (.t 64)⟩] (some [4]))
 .ret))))))))))
theorem is_clavierref13first : IrOf Tryz.prog 115 65 ir_clavierref13first [.t 4] := ⟨_, Tryz.func115, rfl, by kernel_rfl, by kernel_rfl, by kernel_rfl⟩

def ir_clavierref13second : ICode :=
 (.seq
 (.reg [⟨some 3, none, .box 25 (.t 1)⟩,
 ⟨some 4, none, .mov (.c .nils)⟩] (some [0, 3]))
 (.seq
 (.seq
 (.reg [⟨some 5, none, .mov (.t 0)⟩,
 ⟨some 6, none, .call (.c (.fn (.func 67) [] [])) [(.t 5), (.c (.int .i64 2))]⟩,
 ⟨some 7, none, .mov (.t 6)⟩,
 ⟨some 8, some (7, true), .fa 2 (.t 3)⟩,
 ⟨some 9, some (7, true), .ld none (.t 8)⟩,
 ⟨some 10, some (7, true), .bin .neq .none (.t 9) (.c (.int .i64 1))⟩,
 ⟨some 11, none, .pick (.t 7) (.t 10) (.c (.bool false))⟩] (some [3, 11]))
 (.cond (.t 11)
 (.seq
 (.reg [⟨some 12, none, .fa 1 (.t 3)⟩,
 ⟨some 13, none, .ld none (.t 12)⟩,
 ⟨some 14, none, .bin .add .none (.c (.int .i64 1)) (.t 13)⟩,
 ⟨some 15, none, .fa 2 (.t 3)⟩,
 ⟨some 16, none, .ld none (.t 15)⟩,
 ⟨some 17, none, .row 3 1 [(.t 14), (.t 16)]⟩,
 ⟨some 4, none, .mov (.t 17)⟩] (some [4]))
 .ret)
 .skip))
 (.seq
 (.seq
 (.reg [⟨some 18, none, .fa 1 (.t 3)⟩,
 ⟨some 19, none, .ld none (.t 18)⟩,
 ⟨some 20, none, .bin .neq .none (.t 19) (.c (.int .i64 0))⟩] (some [3, 20]))
 (.cond (.t 20)
 (.seq
 (.reg [⟨some 21, none, .fa 1 (.t 3)⟩,
 ⟨some 22, none, .ld none (.t 21)⟩,
 ⟨some 23, none, .bin .add .none (.c (.int .i64 1)) (.t 22)⟩,
 ⟨some 24, none, .row 3 1 [(.t 23)]⟩,
 ⟨some 4, none, .mov (.t 24)⟩] (some [4]))
 .ret)
 .skip))
 (.seq
 (.reg [⟨some 25, none, .row 3 1 [(.c (.int .i64 (-1)))]⟩,
 ⟨some 4, none, .mov (.t 25)⟩] (some [4]))
 .ret))))
theorem is_clavierref13second : IrOf Tryz.prog 116 26 ir_clavierref13second [.t 4] := ⟨_, Tryz.func116, rfl, by kernel_rfl, by kernel_rfl, by kernel_rfl⟩

def ir_clavierref13Seq : ICode :=
 (.seq
 (.reg [⟨some 3, none, .box 25 (.t 1)⟩,
 ⟨some 4, none, .box 47 (.c (.agg [(.int .i64 0), (.int .u8 0), .nils, (.str []), (.int .u8 0), (.str [])]))⟩] (some [0, 3, 4]))
 (.seq
 (.reg [⟨some 13, none, .fa 0 (.t 3)⟩,
 ⟨some 14, none, .ld none (.t 13)⟩,
 ⟨some 15, none, .call (.c (.fn (.func 114) [] [])) [(.t 14)]⟩,
 ⟨some 12, none, .mov (.t 15)⟩,
 ⟨some 16, none, .ext (.t 12) 0⟩,
 ⟨some 17, none, .ext (.t 12) 1⟩,
 ⟨some 5, none, .mov (.t 16)⟩,
 ⟨some 6, none, .mov (.t 17)⟩] (some [0, 3, 4, 6]))
 (.seq
 (.reg [⟨some 18, none, .mov (.t 0)⟩,
 ⟨some 19, none, .ld (some 6) (.t 3)⟩,
 ⟨some 20, none, .call (.c (.fn (.func 115) [] [])) [(.t 18), (.t 19)]⟩,
 ⟨some 7, none, .mov (.t 20)⟩] (some [0, 3, 4, 6, 7]))
 (.seq
 (.reg [⟨some 21, none, .mov (.t 0)⟩,
 ⟨some 22, none, .ld (some 6) (.t 3)⟩,
 ⟨some 23, none, .call (.c (.fn (.func 116) [] [])) [(.t 21), (.t 22)]⟩,
 ⟨some 8, none, .mov (.t 23)⟩] (some [0, 3, 4, 6, 7, 8]))
 (.seq
 (.reg [⟨some 24, none, .mov (.t 6)⟩,
 ⟨some 25, none, .bld [(.int .i64 0), (.int .u8 0), .nils, (.str []), (.int .u8 0), (.str [])] [(0, 1, (.c (.int .i64 1))), (4, 1, (.t 24))]⟩,
 ⟨some 9, none, .box 47 (.c (.agg [(.int .i64 0), (.int .u8 0), .nils, (.str []), (.int .u8 0), (.str [])]))⟩,
 ⟨none, none, .st 6 (.t 9) (.t 25)⟩] (some [0, 3, 4, 7, 8, 9]))
 (.seq
 (.seq
 (.reg [⟨some 26, none, .mov (.t 0)⟩,
 ⟨some 27, none, .call (.c (.fn (.func 67) [] [])) [(.t 26), (.c (.int .i64 16))]⟩,
 ⟨some 28, none, .mov (.t 27)⟩,
 ⟨some 29, some (28, true), .fa 2 (.t 3)⟩,
 ⟨some 30, some (28, true), .ld none (.t 29)⟩,
 ⟨some 31, some (28, true), .bin .neq .none (.t 30) (.c (.int .i64 3))⟩,
 ⟨some 32, none, .pick (.t 28) (.t 31) (.c (.bool false))⟩,
 ⟨some 33, none, .mov (.t 32)⟩,
 ⟨some 34, some (33, true), .fa 5 (.t 3)⟩,
 ⟨some 35, some (33, true), .ld none (.t 34)⟩,
 ⟨some 36, some (33, true), .bin .neq .none (.t 35) (.c (.str []))⟩,
 ⟨some 37, none, .pick (.t 33) (.t 36) (.c (.bool false))⟩] (some [3, 4, 7, 8, 9, 37]))
 (.cond (.t 37)
 (.seq
 (.reg [⟨some 39, none, .fa 5 (.t 3)⟩,
 ⟨some 40, none, .ld none (.t 39)⟩,
 ⟨some 41, none, .s2b 5 (.t 40)⟩,
 ⟨some 42, none, .call (.c (.fn (.func 81) [] [])) [(.t 41)]⟩,
 ⟨some 38, none, .mov (.t 42)⟩,
 ⟨some 43, none, .ext (.t 38) 0⟩,
 ⟨some 44, none, .ext (.t 38) 1⟩,
 ⟨some 10, none, .mov (.t 43)⟩,
 ⟨some 11, none, .mov (.t 44)⟩] (some [4, 7, 8, 9, 10]))
 (.seq
 (.reg [⟨some 45, none, .mov (.t 7)⟩,
 ⟨some 46, none, .mov (.t 8)⟩,
 ⟨some 47, none, .mov (.t 10)⟩,
 ⟨some 48, none, .row 64 1 [(.t 45), (.t 46), (.t 47)]⟩,
 ⟨some 49, none, .fa 2 (.t 9)⟩,
 ⟨none, none, .st 1 (.t 49) (.t 48)⟩] (some [4, 9]))
 (.seq
 (.reg [⟨some 50, none, .ld (some 6) (.t 9)⟩,
 ⟨none, none, .st 6 (.t 4) (.t 50)⟩] (some [4]))
 .ret)))
 .skip))
 (.seq
 (.seq
 (.reg [⟨some 51, none, .mov (.t 8)⟩,
 ⟨some 52, none, .ia 1 (.t 51) (.c (.int .i64 0))⟩,
 ⟨some 53, none, .ld none (.t 52)⟩,
 ⟨some 54, none, .bin .neq .none (.t 53) (.c (.int .i64 (-1)))⟩] (some [4, 7, 8, 9, 54]))
 (.cond (.t 54)
 (.seq
 (.reg [⟨some 55, none, .mov (.t 7)⟩,
 ⟨some 56, none, .mov (.t 8)⟩,
 ⟨some 57, none, .row 64 1 [(.t 55), (.t 56)]⟩,
 ⟨some 58, none, .fa 2 (.t 9)⟩,
 ⟨none, none, .st 1 (.t 58) (.t 57)⟩] (some [4, 9]))
 (.seq
 (.reg [⟨some 59, none, .ld (some 6) (.t 9)⟩,
 ⟨none, none, .st 6 (.t 4) (.t 59)⟩] (some [4]))
 .ret))
 .skip))
 (.seq
 (.seq
 (.reg [⟨some 60, none, .mov (.t 7)⟩,
 ⟨some 61, none, .len (.t 60)⟩,
 ⟨some 62, none, .bin .gtr .none (.t 61) (.c (.int .i64 1))⟩,
 ⟨some 63, none, .mov (.t 62)⟩,
 ⟨some 64, some (63, false), .mov (.t 7)⟩,
 ⟨some 65, some (63, false), .ia 1 (.t 64) (.c (.int .i64 0))⟩,
 ⟨some 66, some (63, false), .ld none (.t 65)⟩,
 ⟨some 67, some (63, false), .bin .neq .none (.t 66) (.c (.int .i64 1))⟩,
 ⟨some 68, none, .pick (.t 63) (.c (.bool true)) (.t 67)⟩] (some [4, 7, 9, 68]))
 (.cond (.t 68)
 (.reg [⟨some 69, none, .mov (.t 7)⟩,
 ⟨some 70, none, .row 64 1 [(.t 69)]⟩,
 ⟨some 71, none, .fa 2 (.t 9)⟩,
 ⟨none, none, .st 1 (.t 71) (.t 70)⟩] (some [4, 9]))
 .skip))
 (.seq
 (.reg [⟨some 72, none, .ld (some 6) (.t 9)⟩,
 ⟨none, none, .st 6 (.t 4) (.t 72)⟩] (some [4]))
 .ret)))))))))
theorem is_clavierref13Seq : IrOf Tryz.prog 71 73 ir_clavierref13Seq [.cell 4 (some 6)] := ⟨_, Tryz.func71, rfl, by kernel_rfl, by kernel_rfl, by kernel_rfl⟩

def ir_clavierref13Key : ICode :=
 (.seq
 (.reg [⟨some 3, none, .box 25 (.t 1)⟩,
 ⟨some 4, none, .mov (.c .nils)⟩] (some [0, 3]))
 (.seq
 (.seq
 (.reg [⟨some 7, none, .mov (.t 0)⟩,
 ⟨some 8, none, .ld (some 6) (.t 3)⟩,
 ⟨some 9, none, .call (.c (.fn (.func 66) [] [])) [(.t 7), (.t 8)]⟩,
 ⟨some 10, none, .un .not (.t 9)⟩] (some [0, 3, 10]))
 (.cond (.t 10)
 (.seq
 (.reg [⟨some 4, none, .mov (.c .nils)⟩] (some [4]))
 .ret)
 .skip))
 (.seq
 (.seq
 (.reg [⟨some 11, none, .mov (.t 0)⟩,
 ⟨some 12, none, .call (.c (.fn (.func 67) [] [])) [(.t 11), (.c (.int .i64 8))]⟩,
 ⟨some 13, none, .un .not (.t 12)⟩,
 ⟨some 14, none, .mov (.t 13)⟩,
 ⟨some 15, some (14, true), .fa 2 (.t 3)⟩,
 ⟨some 16, some (14, true), .ld none (.t 15)⟩,
 ⟨some 17, some (14, true), .bin .neq .none (.t 16) (.c (.int .i64 3))⟩,
 ⟨some 18, none, .pick (.t 14) (.t 17) (.c (.bool false))⟩,
 ⟨some 19, none, .mov (.t 18)⟩,
 ⟨some 20, some (19, true), .ld (some 6) (.t 3)⟩,
 ⟨some 21, some (19, true), .call (.c (.fn (.func 68) [] [])) [(.t 20)]⟩,
 ⟨some 22, none, .pick (.t 19) (.t 21) (.c (.bool false))⟩] (some [0, 3, 22]))
 (.cond (.t 22)
 (.seq
 (.seq
 (.reg [⟨some 23, none, .fa 0 (.t 3)⟩,
 ⟨some 24, none, .ld none (.t 23)⟩,
 ⟨some 25, none, .call (.c (.fn (.func 69) [] [])) [(.t 24)]⟩] (some [3, 25]))
 (.cond (.t 25)
 (.seq
 (.reg [⟨some 26, none, .fa 0 (.t 3)⟩,
 ⟨some 27, none, .ld none (.t 26)⟩,
 ⟨some 28, none, .cvi .u8 (.t 27)⟩,
 ⟨some 29, none, .row 5 1 [(.t 28)]⟩,
 ⟨some 4, none, .mov (.t 29)⟩] (some [4]))
 .ret)
 .skip))
 (.seq
 (.seq
 (.reg [⟨some 30, none, .fa 5 (.t 3)⟩,
 ⟨some 31, none, .ld none (.t 30)⟩,
 ⟨some 32, none, .bin .neq .none (.t 31) (.c (.str []))⟩] (some [3, 32]))
 (.cond (.t 32)
 (.seq
 (.reg [⟨some 33, none, .fa 5 (.t 3)⟩,
 ⟨some 34, none, .ld none (.t 33)⟩,
 ⟨some 35, none, .s2b 5 (.t 34)⟩,
 ⟨some 4, none, .mov (.t 35)⟩] (some [4]))
 .ret)
 .skip))
 (.seq
 (.reg [⟨some 36, none, .ld (some 6) (.t 3)⟩,
 ⟨some 37, none, .call (.c (.fn (.func 23) [] [])) [(.t 36)]⟩,
 ⟨some 38, none, .call (.c (.fn (.func 70) [] [])) [(.t 37)]⟩,
 ⟨some 4, none, .mov (.t 38)⟩] (some [4]))
 .ret)))
 .skip))
 (.seq
 (.reg [⟨some 40, none, .mov (.t 0)⟩,
 ⟨some 41, none, .ld (some 6) (.t 3)⟩,
 ⟨some 42, none, .call (.c (.fn (.func 71) [] [])) [(.t 40), (.t 41)]⟩,
 ⟨some 43, none, .call (.c (.fn (.func 46) [] [])) [(.t 42)]⟩,
 ⟨some 39, none, .mov (.t 43)⟩,
 ⟨some 44, none, .ext (.t 39) 0⟩,
 ⟨some 45, none, .ext (.t 39) 1⟩,
 ⟨some 5, none, .mov (.t 44)⟩,
 ⟨some 6, none, .mov (.t 45)⟩] (some [5]))
 (.seq
 (.reg [⟨some 46, none, .mov (.t 5)⟩,
 ⟨some 4, none, .mov (.t 46)⟩] (some [4]))
 .ret)))))
theorem is_clavierref13Key : IrOf Tryz.prog 31 47 ir_clavierref13Key [.t 4] := ⟨_, Tryz.func31, rfl, by kernel_rfl, by kernel_rfl, by kernel_rfl⟩

def flagsK (n : Int) : Int := max n 0 % 32
theorem fs_rFlags {Gl : Gh → Prop} (hst : Stays Gl) {n : Int} (hn : n ≤ 9223372036854775807) : FS Tryz.prog Gl 18 [.int .i64 n] [] [] (.int .i64 (flagsK n)) [] [] := by
  refine FS.of hm hst is_clavierref08Flags (by simp) fun γ hγ hfr => ?_
  have h : IntKind.i64.wrap ((max n 0).tmod 32) = flagsK n := by
    rw [Int.tmod_eq_emod_of_nonneg (by omega), IntKind.wrap_i64]
    unfold flagsK
    omega
  have h' : (max n 0).tmod 32 = flagsK n := by
    rw [Int.tmod_eq_emod_of_nonneg (by omega)]; rfl
  (generalize hQ : (fun (ex : Ex) (_ _ : Nat) (s : St) => _) = Q; unfold ir_clavierref08Flags)
  simp +contextual (maxSteps := 1000000) only [maxE, go_sem, reduceCtorEq, ↓reduceIte, Nat.reduceAdd, Nat.reduceEqDiff, Nat.reduceLeDiff, Nat.reduceMul, Nat.reduceBEq, Int.reduceBEq, Int.reduceBNe, Int.reduceLT, Int.reduceLE, Int.reduceGT, Int.reduceGE, Int.reduceToNat]
  first
  | (refine ⟨by omega, ?_⟩; rw [← hQ]; refine ⟨trivial, Ret.flat (show some (AV.int _ _) = some (AV.int _ _) from congrArg (fun z => some (AV.int _ z)) ?_) rfl⟩; first | exact h | exact h')
  | (rw [← hQ]; refine ⟨trivial, Ret.flat (show some (AV.int _ _) = some (AV.int _ _) from congrArg (fun z => some (AV.int _ z)) ?_) rfl⟩; first | exact h | exact h')
theorem flag_eq {fl one : Int} (h1 : one = 1 ∨ one = 2 ∨ one = 4 ∨ one = 8 ∨ one = 16) : ((IntKind.i64.wrap ((flagsK fl).tdiv one)).tmod 2 == 1) = hasK fl one := by
  have a : 0 ≤ flagsK fl ∧ flagsK fl < 32 := by unfold flagsK; omega
  have b : IntKind.i64.wrap ((flagsK fl).tdiv one) = flagsK fl / one := by
    rw [Int.tdiv_eq_ediv_of_nonneg a.1, IntKind.wrap_i64]
    rcases h1 with rfl | rfl | rfl | rfl | rfl <;> omega
  have c : 0 ≤ flagsK fl / one := by rcases h1 with rfl | rfl | rfl | rfl | rfl <;> omega
  rw [b, Int.tmod_eq_emod_of_nonneg c]
  unfold hasK flagsK
  rw [Bool.eq_iff_iff, beq_iff_eq, decide_eq_true_eq]
  rcases h1 with rfl | rfl | rfl | rfl | rfl <;> omega
theorem fs_rFlag {Gl : Gh → Prop} (hst : Stays Gl) {fl one : Int} (hn : fl ≤ 9223372036854775807) (h1 : one = 1 ∨ one = 2 ∨ one = 4 ∨ one = 8 ∨ one = 16) : FS Tryz.prog Gl 67 [.int .i64 fl, .int .i64 one] [] [] (.bool (hasK fl one)) [] [] := by
  refine FS.of hm hst is_clavierref13flag (by simp) fun γ hγ hfr => ?_
  have h := flag_eq (fl := fl) h1
  have c1 := fs_rFlags (Gl := Gl) hst hn
  (generalize hQ : (fun (ex : Ex) (_ _ : Nat) (s : St) => _) = Q; unfold ir_clavierref13flag)
  simp +contextual (maxSteps := 1000000) only [go_sem, reduceCtorEq, ↓reduceIte, Nat.reduceAdd, Nat.reduceEqDiff, Nat.reduceLeDiff, Nat.reduceMul, Nat.reduceBEq, Int.reduceBEq, Int.reduceBNe, Int.reduceLT, Int.reduceLE, Int.reduceGT, Int.reduceGE, Int.reduceToNat]
  (refine CallP.pure (c1) (fun _ => rfl) ?_; simp +contextual (maxSteps := 1000000) only [h, go_sem, reduceCtorEq, ↓reduceIte, Nat.reduceAdd, Nat.reduceEqDiff, Nat.reduceLeDiff, Nat.reduceMul, Nat.reduceBEq, Int.reduceBEq, Int.reduceBNe, Int.reduceLT, Int.reduceLE, Int.reduceGT, Int.reduceGE, Int.reduceToNat])
  refine ⟨by omega, by omega, ?_⟩
  rw [← hQ]
  exact ⟨trivial, Ret.flat rfl rfl⟩
theorem fs_rKeyed {Gl : Gh → Prop} (hst : Stays Gl) {c : Int} : FS Tryz.prog Gl 69 [.int .i64 c] [] [] (.bool (typedK c)) [] [] := by
  refine FS.of hm hst is_clavierref13keyed (by simp) fun γ hγ hfr => ?_
  (generalize hQ : (fun (ex : Ex) (_ _ : Nat) (s : St) => _) = Q; unfold ir_clavierref13keyed)
  simp +contextual (maxSteps := 1000000) only [go_sem, reduceCtorEq, ↓reduceIte, Nat.reduceAdd, Nat.reduceEqDiff, Nat.reduceLeDiff, Nat.reduceMul, Nat.reduceBEq, Int.reduceBEq, Int.reduceBNe, Int.reduceLT, Int.reduceLE, Int.reduceGT, Int.reduceGE, Int.reduceToNat]
  rw [← hQ]
  refine ⟨trivial, Ret.flat (show some (AV.bool _) = some (AV.bool _) from congrArg (fun z => some (AV.bool z)) ?_) rfl⟩
  unfold typedK
  rw [Bool.eq_iff_iff]; simp [or_assoc]
def astextK (k : Ky) : Bool := if kindK k.code = 1 then onlyK k.mods 1 else typedK k.code && onlyK k.mods 0
theorem fs_rAstext {Gl : Gh → Prop} (hst : Stays Gl) {k : Ky} (h0 : 0 ≤ k.mods) (h1 : k.mods ≤ 255) : FS Tryz.prog Gl 68 [.agg (kyAV k)] [] [] (.bool (astextK k)) [] [] := by
  refine FS.of hm hst is_clavierref13astext (by simp) fun γ hγ hfr => ?_
  have c1 := fs_rLook (Gl := Gl) hst (c := k.code)
  rw [ent_eq] at c1
  have c2 := fs_rKeyed (Gl := Gl) hst (c := k.code)
  have hky : kyAV k = [.int .i64 k.code, .int .i64 k.mods, .int .i64 k.type, .int .i64 k.shifted, .int .i64 k.base, .str k.text] := rfl
  have hp : IntKind.i64.wrap (k.mods - IntKind.i64.wrap (IntKind.i64.wrap (k.mods.tdiv 64) * 64)) = k.mods % 64 := by
    rw [Int.tdiv_eq_ediv_of_nonneg h0, IntKind.wrap_i64, IntKind.wrap_i64, IntKind.wrap_i64]; omega
  have o1 : decide (k.mods % 64 ≤ 1) = onlyK k.mods 1 := rfl
  have o0 : (k.mods % 64 == 0) = onlyK k.mods 0 := by
    unfold onlyK
    rw [Bool.eq_iff_iff, beq_iff_eq, decide_eq_true_eq]; omega
  (generalize hQ : (fun (ex : Ex) (_ _ : Nat) (s : St) => _) = Q; unfold ir_clavierref13astext)
  simp +contextual (maxSteps := 1000000) only [hky, hp, go_sem, reduceCtorEq, ↓reduceIte, Nat.reduceAdd, Nat.reduceEqDiff, Nat.reduceLeDiff, Nat.reduceMul, Nat.reduceBEq, Int.reduceBEq, Int.reduceBNe, Int.reduceLT, Int.reduceLE, Int.reduceGT, Int.reduceGE, Int.reduceToNat]
  refine ⟨by omega, ?_⟩
  (refine CallP.pure (c1) (fun _ => rfl) ?_; simp +contextual (maxSteps := 1000000) only [hp, o1, go_sem, reduceCtorEq, ↓reduceIte, Nat.reduceAdd, Nat.reduceEqDiff, Nat.reduceLeDiff, Nat.reduceMul, Nat.reduceBEq, Int.reduceBEq, Int.reduceBNe, Int.reduceLT, Int.reduceLE, Int.reduceGT, Int.reduceGE, Int.reduceToNat])
  by_cases hk : kindK k.code = 1
  · have q1 : ((lookR k.code).kind == 1) = true := by rw [show (lookR k.code).kind = 1 from hk]; rfl
    simp +contextual (maxSteps := 1000000) only [q1, o1, go_sem, reduceCtorEq, ↓reduceIte, Nat.reduceAdd, Nat.reduceEqDiff, Nat.reduceLeDiff, Nat.reduceMul, Nat.reduceBEq, Int.reduceBEq, Int.reduceBNe, Int.reduceLT, Int.reduceLE, Int.reduceGT, Int.reduceGE, Int.reduceToNat]
    rw [← hQ]
    refine ⟨trivial, Ret.flat (show some (AV.bool _) = some (AV.bool _) from congrArg (fun z => some (AV.bool z)) ?_) rfl⟩
    rw [astextK, if_pos hk]
  · have q1 : ((lookR k.code).kind == 1) = false := by rw [beq_eq_false_iff_ne]; exact hk
    simp +contextual (maxSteps := 1000000) only [q1, go_sem, reduceCtorEq, ↓reduceIte, Nat.reduceAdd, Nat.reduceEqDiff, Nat.reduceLeDiff, Nat.reduceMul, Nat.reduceBEq, Int.reduceBEq, Int.reduceBNe, Int.reduceLT, Int.reduceLE, Int.reduceGT, Int.reduceGE, Int.reduceToNat]
    (refine CallP.pure (c2) (fun _ => rfl) ?_; simp +contextual (maxSteps := 1000000) only [o0, go_sem, reduceCtorEq, ↓reduceIte, Nat.reduceAdd, Nat.reduceEqDiff, Nat.reduceLeDiff, Nat.reduceMul, Nat.reduceBEq, Int.reduceBEq, Int.reduceBNe, Int.reduceLT, Int.reduceLE, Int.reduceGT, Int.reduceGE, Int.reduceToNat])
    rw [← hQ]
    refine ⟨trivial, Ret.flat (show some (AV.bool _) = some (AV.bool _) from congrArg (fun z => some (AV.bool z)) ?_) rfl⟩
    rw [astextK, if_neg hk]
theorem fs_rSent {Gl : Gh → Prop} (hst : Stays Gl) {k : Ky} {fl : Int} (hfl : fl ≤ 9223372036854775807) (ht : k.text.length ≤ 1000000000000) : FS Tryz.prog Gl 66 [.int .i64 fl, .agg (kyAV k)] [] [] (.bool (mayK k && sentK fl k)) [] [] := by
  refine FS.of hm hst is_clavierref13sent (by simp) fun γ hγ hfr => ?_
  have c1 := fs_rMayK (Gl := Gl) hst ht
  have c2 := fs_rLook (Gl := Gl) hst (c := k.code)
  rw [ent_eq] at c2
  have c3 := fs_rFlag (Gl := Gl) hst hfl (one := 8) (by omega)
  have c4 := fs_rFlag (Gl := Gl) hst hfl (one := 2) (by omega)
  have c5 := fs_rKeyed (Gl := Gl) hst (c := k.code)
  have hky : kyAV k = [.int .i64 k.code, .int .i64 k.mods, .int .i64 k.type, .int .i64 k.shifted, .int .i64 k.base, .str k.text] := rfl
  rw [hky] at c1
  (generalize hQ : (fun (ex : Ex) (_ _ : Nat) (s : St) => _) = Q; unfold ir_clavierref13sent)
  simp +contextual (maxSteps := 1000000) only [hky, go_sem, reduceCtorEq, ↓reduceIte, Nat.reduceAdd, Nat.reduceEqDiff, Nat.reduceLeDiff, Nat.reduceMul, Nat.reduceBEq, Int.reduceBEq, Int.reduceBNe, Int.reduceLT, Int.reduceLE, Int.reduceGT, Int.reduceGE, Int.reduceToNat]
  (refine CallP.pure (c1) (fun _ => rfl) ?_; simp +contextual (maxSteps := 1000000) only [go_sem, reduceCtorEq, ↓reduceIte, Nat.reduceAdd, Nat.reduceEqDiff, Nat.reduceLeDiff, Nat.reduceMul, Nat.reduceBEq, Int.reduceBEq, Int.reduceBNe, Int.reduceLT, Int.reduceLE, Int.reduceGT, Int.reduceGE, Int.reduceToNat])
  cases hmk : mayK k with
  | false =>
    simp +contextual (maxSteps := 1000000) only [go_sem, reduceCtorEq, ↓reduceIte, Nat.reduceAdd, Nat.reduceEqDiff, Nat.reduceLeDiff, Nat.reduceMul, Nat.reduceBEq, Int.reduceBEq, Int.reduceBNe, Int.reduceLT, Int.reduceLE, Int.reduceGT, Int.reduceGE, Int.reduceToNat]
    rw [← hQ, hmk]
    exact ⟨trivial, Ret.flat rfl rfl⟩
  | true =>
    have hs : sentK fl k = (!(k.type == 3 && (!hasK fl 2 || !hasK fl 8 && ((lookR k.code).kind == 1 || typedK k.code))) && ((lookR k.code).kind != 7 || hasK fl 8)) := by
      unfold sentK kindK
      rw [dneq]; rfl
    simp +contextual (maxSteps := 1000000) only [go_sem, reduceCtorEq, ↓reduceIte, Nat.reduceAdd, Nat.reduceEqDiff, Nat.reduceLeDiff, Nat.reduceMul, Nat.reduceBEq, Int.reduceBEq, Int.reduceBNe, Int.reduceLT, Int.reduceLE, Int.reduceGT, Int.reduceGE, Int.reduceToNat]
    (refine CallP.pure (c2) (fun _ => rfl) ?_; simp +contextual (maxSteps := 1000000) only [go_sem, reduceCtorEq, ↓reduceIte, Nat.reduceAdd, Nat.reduceEqDiff, Nat.reduceLeDiff, Nat.reduceMul, Nat.reduceBEq, Int.reduceBEq, Int.reduceBNe, Int.reduceLT, Int.reduceLE, Int.reduceGT, Int.reduceGE, Int.reduceToNat])
    (refine CallP.pure (c3) (fun _ => rfl) ?_; simp +contextual (maxSteps := 1000000) only [go_sem, reduceCtorEq, ↓reduceIte, Nat.reduceAdd, Nat.reduceEqDiff, Nat.reduceLeDiff, Nat.reduceMul, Nat.reduceBEq, Int.reduceBEq, Int.reduceBNe, Int.reduceLT, Int.reduceLE, Int.reduceGT, Int.reduceGE, Int.reduceToNat])
    (refine kGc_call (c4) (fun _ => rfl) (fun hgc => ?_) ?_; (focus (first | (rw [Bool.not_eq_true'] at hgc; simp only [List.map_cons, List.map_nil, List.nil_append, List.append_nil, List.cons_append, Xev_t, Xev_c, upd_app, lf_cons, lf_nil, Nat.reduceEqDiff, ↓reduceIte, hgc, Bool.false_eq_true, Bool.true_eq_false, reduceCtorEq]; done) | (simp only [List.map_cons, List.map_nil, List.nil_append, List.append_nil, List.cons_append, Xev_t, Xev_c, upd_app, lf_cons, lf_nil, Nat.reduceEqDiff, ↓reduceIte, hgc, Bool.false_eq_true, Bool.true_eq_false, reduceCtorEq]; done) | (revert hgc; simp +contextual [Xev_t, Xev_c, upd_app, lf_cons, lf_nil]; done) | simp [Xev_t, Xev_c, upd_app, lf_cons, lf_nil])); simp +contextual (maxSteps := 1000000) only [go_sem, reduceCtorEq, ↓reduceIte, Nat.reduceAdd, Nat.reduceEqDiff, Nat.reduceLeDiff, Nat.reduceMul, Nat.reduceBEq, Int.reduceBEq, Int.reduceBNe, Int.reduceLT, Int.reduceLE, Int.reduceGT, Int.reduceGE, Int.reduceToNat])
    (refine kGc_call (c5) (fun _ => rfl) (fun hgc => ?_) ?_; (focus (first | (rw [Bool.not_eq_true'] at hgc; simp only [List.map_cons, List.map_nil, List.nil_append, List.append_nil, List.cons_append, Xev_t, Xev_c, upd_app, lf_cons, lf_nil, Nat.reduceEqDiff, ↓reduceIte, hgc, Bool.false_eq_true, Bool.true_eq_false, reduceCtorEq]; done) | (simp only [List.map_cons, List.map_nil, List.nil_append, List.append_nil, List.cons_append, Xev_t, Xev_c, upd_app, lf_cons, lf_nil, Nat.reduceEqDiff, ↓reduceIte, hgc, Bool.false_eq_true, Bool.true_eq_false, reduceCtorEq]; done) | (revert hgc; simp +contextual [Xev_t, Xev_c, upd_app, lf_cons, lf_nil]; done) | simp [Xev_t, Xev_c, upd_app, lf_cons, lf_nil])); simp +contextual (maxSteps := 1000000) only [go_sem, reduceCtorEq, ↓reduceIte, Nat.reduceAdd, Nat.reduceEqDiff, Nat.reduceLeDiff, Nat.reduceMul, Nat.reduceBEq, Int.reduceBEq, Int.reduceBNe, Int.reduceLT, Int.reduceLE, Int.reduceGT, Int.reduceGE, Int.reduceToNat])
    cases hA : (k.type == 3 && (!hasK fl 2 || !hasK fl 8 && ((lookR k.code).kind == 1 || typedK k.code))) with
    | true =>
      simp +contextual (maxSteps := 1000000) only [go_sem, reduceCtorEq, ↓reduceIte, Nat.reduceAdd, Nat.reduceEqDiff, Nat.reduceLeDiff, Nat.reduceMul, Nat.reduceBEq, Int.reduceBEq, Int.reduceBNe, Int.reduceLT, Int.reduceLE, Int.reduceGT, Int.reduceGE, Int.reduceToNat]
      rw [← hQ, hmk, Bool.true_and, hs, hA]
      exact ⟨trivial, Ret.flat rfl rfl⟩
    | false =>
      simp +contextual (maxSteps := 1000000) only [go_sem, reduceCtorEq, ↓reduceIte, Nat.reduceAdd, Nat.reduceEqDiff, Nat.reduceLeDiff, Nat.reduceMul, Nat.reduceBEq, Int.reduceBEq, Int.reduceBNe, Int.reduceLT, Int.reduceLE, Int.reduceGT, Int.reduceGE, Int.reduceToNat]
      rw [← hQ, hmk, Bool.true_and, hs, hA]
      exact ⟨trivial, Ret.flat rfl rfl⟩
set_option maxHeartbeats 2000000 in
theorem fs_rFirst {Gl : Gh → Prop} (hst : Stays Gl) {k : Ky} {fl : Int} (hfl : fl ≤ 9223372036854775807) (h1 : k.mods ≤ 255) : FS Tryz.prog Gl 115 [.int .i64 fl, .agg (kyAV k)] [] [] (intsV (firstK fl k (formK k.code).1 (formK k.code).2.toNat)) [] [] := by
  refine FS.ofW hm hst is_clavierref13first rfl (by simp) fun γ hγ hfr => ?_
  have c1 := fs_rForm (Gl := Gl) hst (c := k.code)
  have c2 := fs_rFlag (Gl := Gl) hst hfl (one := 4) (by omega)
  have c3 := fs_Has (Gl := Gl) hst (m := k.mods) (one := 1) (by omega) (by omega)
  have hky : kyAV k = [.int .i64 k.code, .int .i64 k.mods, .int .i64 k.type, .int .i64 k.shifted, .int .i64 k.base, .str k.text] := rfl
  generalize (formK k.code).1 = n at *
  generalize ((formK k.code).2.toNat : Int) = f at *
  (generalize hQ : (fun (ex : Ex) (_ _ : Nat) (s : St) => _) = Q; unfold ir_clavierref13first)
  simp +contextual (maxSteps := 1000000) only [hky, go_sem, reduceCtorEq, ↓reduceIte, Nat.reduceAdd, Nat.reduceEqDiff, Nat.reduceLeDiff, Nat.reduceMul, Nat.reduceBEq, Int.reduceBEq, Int.reduceBNe, Int.reduceLT, Int.reduceLE, Int.reduceGT, Int.reduceGE, Int.reduceToNat]
  (refine CallP.pure (c1) (fun _ => rfl) ?_; simp +contextual (maxSteps := 1000000) only [go_sem, reduceCtorEq, ↓reduceIte, Nat.reduceAdd, Nat.reduceEqDiff, Nat.reduceLeDiff, Nat.reduceMul, Nat.reduceBEq, Int.reduceBEq, Int.reduceBNe, Int.reduceLT, Int.reduceLE, Int.reduceGT, Int.reduceGE, Int.reduceToNat])
  (refine CallP.pure (c2) (fun _ => rfl) ?_; simp +contextual (maxSteps := 1000000) only [go_sem, reduceCtorEq, ↓reduceIte, Nat.reduceAdd, Nat.reduceEqDiff, Nat.reduceLeDiff, Nat.reduceMul, Nat.reduceBEq, Int.reduceBEq, Int.reduceBNe, Int.reduceLT, Int.reduceLE, Int.reduceGT, Int.reduceGE, Int.reduceToNat])
  cases hA : (!hasK fl 4 || (f != 117)) with
  | true =>
    simp +contextual (maxSteps := 1000000) only [go_sem, reduceCtorEq, ↓reduceIte, Nat.reduceAdd, Nat.reduceEqDiff, Nat.reduceLeDiff, Nat.reduceMul, Nat.reduceBEq, Int.reduceBEq, Int.reduceBNe, Int.reduceLT, Int.reduceLE, Int.reduceGT, Int.reduceGE, Int.reduceToNat]
    have hz : firstK fl k n f = [n] := by rw [firstK, if_pos hA]
    rw [← hQ, hz]
    exact ⟨trivial, .inl ⟨_, rfl, RepLe.anon' rfl⟩⟩
  | false =>
    simp +contextual (maxSteps := 1000000) only [go_sem, reduceCtorEq, ↓reduceIte, Nat.reduceAdd, Nat.reduceEqDiff, Nat.reduceLeDiff, Nat.reduceMul, Nat.reduceBEq, Int.reduceBEq, Int.reduceBNe, Int.reduceLT, Int.reduceLE, Int.reduceGT, Int.reduceGE, Int.reduceToNat]
    (refine kGc_call (c3) (fun _ => rfl) (fun hgc => ?_) ?_; (focus (first | (rw [Bool.not_eq_true'] at hgc; simp only [List.map_cons, List.map_nil, List.nil_append, List.append_nil, List.cons_append, Xev_t, Xev_c, upd_app, lf_cons, lf_nil, Nat.reduceEqDiff, ↓reduceIte, hgc, Bool.false_eq_true, Bool.true_eq_false, reduceCtorEq]; done) | (simp only [List.map_cons, List.map_nil, List.nil_append, List.append_nil, List.cons_append, Xev_t, Xev_c, upd_app, lf_cons, lf_nil, Nat.reduceEqDiff, ↓reduceIte, hgc, Bool.false_eq_true, Bool.true_eq_false, reduceCtorEq]; done) | (revert hgc; simp +contextual [Xev_t, Xev_c, upd_app, lf_cons, lf_nil]; done) | simp [Xev_t, Xev_c, upd_app, lf_cons, lf_nil])); simp +contextual (maxSteps := 1000000) only [go_sem, reduceCtorEq, ↓reduceIte, Nat.reduceAdd, Nat.reduceEqDiff, Nat.reduceLeDiff, Nat.reduceMul, Nat.reduceBEq, Int.reduceBEq, Int.reduceBNe, Int.reduceLT, Int.reduceLE, Int.reduceGT, Int.reduceGE, Int.reduceToNat])
    cases hB : ((k.shifted != 0) && hasK k.mods 1) <;> cases hC : ((k.base != 0) && (k.base != k.code))
    all_goals
      simp +contextual (maxSteps := 1000000) only [hB, hC, go_sem, reduceCtorEq, ↓reduceIte, Nat.reduceAdd, Nat.reduceEqDiff, Nat.reduceLeDiff, Nat.reduceMul, Nat.reduceBEq, Int.reduceBEq, Int.reduceBNe, Int.reduceLT, Int.reduceLE, Int.reduceGT, Int.reduceGE, Int.reduceToNat]
      repeat' (refine And.intro (by simp) ?_)
      rw [← hQ, firstK, hA, hB, hC]
      exact ⟨trivial, .inl ⟨_, rfl, RepLe.anon' rfl⟩⟩
theorem fs_rSecond {Gl : Gh → Prop} (hst : Stays Gl) {k : Ky} {fl : Int} (hfl : fl ≤ 9223372036854775807) (h0 : 0 ≤ k.mods) (h1 : k.mods ≤ 255) : FS Tryz.prog Gl 116 [.int .i64 fl, .agg (kyAV k)] [] [] (intsV (secondK fl k)) [] [] := by
  refine FS.ofW hm hst is_clavierref13second rfl (by simp) fun γ hγ hfr => ?_
  have c1 := fs_rFlag (Gl := Gl) hst hfl (one := 2) (by omega)
  have hky : kyAV k = [.int .i64 k.code, .int .i64 k.mods, .int .i64 k.type, .int .i64 k.shifted, .int .i64 k.base, .str k.text] := rfl
  have hp : IntKind.i64.wrap (1 + k.mods) = paramK k.mods := by
    rw [paramK, if_neg (by omega), IntKind.wrap_i64]; omega
  (generalize hQ : (fun (ex : Ex) (_ _ : Nat) (s : St) => _) = Q; unfold ir_clavierref13second)
  simp +contextual (maxSteps := 1000000) only [hky, go_sem, reduceCtorEq, ↓reduceIte, Nat.reduceAdd, Nat.reduceEqDiff, Nat.reduceLeDiff, Nat.reduceMul, Nat.reduceBEq, Int.reduceBEq, Int.reduceBNe, Int.reduceLT, Int.reduceLE, Int.reduceGT, Int.reduceGE, Int.reduceToNat]
  (refine CallP.pure (c1) (fun _ => rfl) ?_; simp +contextual (maxSteps := 1000000) only [go_sem, reduceCtorEq, ↓reduceIte, Nat.reduceAdd, Nat.reduceEqDiff, Nat.reduceLeDiff, Nat.reduceMul, Nat.reduceBEq, Int.reduceBEq, Int.reduceBNe, Int.reduceLT, Int.reduceLE, Int.reduceGT, Int.reduceGE, Int.reduceToNat])
  cases hA : (hasK fl 2 && (k.type != 1)) with
  | true =>
    simp +contextual (maxSteps := 1000000) only [hp, go_sem, reduceCtorEq, ↓reduceIte, Nat.reduceAdd, Nat.reduceEqDiff, Nat.reduceLeDiff, Nat.reduceMul, Nat.reduceBEq, Int.reduceBEq, Int.reduceBNe, Int.reduceLT, Int.reduceLE, Int.reduceGT, Int.reduceGE, Int.reduceToNat]
    have hz : secondK fl k = [paramK k.mods, k.type] := by rw [secondK, if_pos hA]
    rw [← hQ, hz]
    exact ⟨trivial, .inl ⟨_, rfl, RepLe.anon' rfl⟩⟩
  | false =>
    cases hB : (k.mods != 0) with
    | true =>
      simp +contextual (maxSteps := 1000000) only [hp, hB, go_sem, reduceCtorEq, ↓reduceIte, Nat.reduceAdd, Nat.reduceEqDiff, Nat.reduceLeDiff, Nat.reduceMul, Nat.reduceBEq, Int.reduceBEq, Int.reduceBNe, Int.reduceLT, Int.reduceLE, Int.reduceGT, Int.reduceGE, Int.reduceToNat]
      have hz : secondK fl k = [paramK k.mods] := by rw [secondK, hA, hB]; rfl
      rw [← hQ, hz]
      exact ⟨trivial, .inl ⟨_, rfl, RepLe.anon' rfl⟩⟩
    | false =>
      simp +contextual (maxSteps := 1000000) only [hp, hB, go_sem, reduceCtorEq, ↓reduceIte, Nat.reduceAdd, Nat.reduceEqDiff, Nat.reduceLeDiff, Nat.reduceMul, Nat.reduceBEq, Int.reduceBEq, Int.reduceBNe, Int.reduceLT, Int.reduceLE, Int.reduceGT, Int.reduceGE, Int.reduceToNat]
      have hz : secondK fl k = [-1] := by rw [secondK, hA, hB]; rfl
      rw [← hQ, hz]
      exact ⟨trivial, .inl ⟨_, rfl, RepLe.anon' rfl⟩⟩
theorem third_told {fl : Int} {k : Ky} (h : MayK k) (hA : (hasK fl 16 && (k.type != 3) && !decide (k.text = [])) = true) : thirdK fl k = (allV k.text).1 ∧ untoldK (thirdK fl k) false = false := by
  simp only [Bool.and_eq_true, Bool.not_eq_true', decide_eq_false_iff_not] at hA
  have e : thirdK fl k = (allV k.text).1 := by
    unfold thirdK
    rw [if_neg]
    simp only [Bool.or_eq_true, Bool.not_eq_true', decide_eq_true_eq, beq_iff_eq, not_or]
    have h3 := hA.1.2
    rw [bne_iff_ne] at h3
    exact ⟨⟨by rw [hA.1.1]; simp, h3⟩, hA.2⟩
  refine ⟨e, ?_⟩
  rw [e]
  obtain ⟨a, b, c⟩ := text_all h.tx hA.2
  cases hl : (allV k.text).1 with
  | nil => exact absurd hl a
  | cons x xs =>
    have := c x (by rw [hl]; simp)
    unfold untoldK
    simp
    intro _
    omega
theorem third_untold {fl : Int} {k : Ky} (hA : (hasK fl 16 && (k.type != 3) && !decide (k.text = [])) = false) : thirdK fl k = [-1] := by
  unfold thirdK
  rw [if_pos]
  have e : (k.type != 3) = !(k.type == 3) := rfl
  rw [e] at hA
  revert hA
  cases hasK fl 16 <;> cases (k.type == 3) <;> cases decide (k.text = []) <;> simp
theorem trim_first {a : List Int} (hne : a ≠ []) (h0 : a.head? ≠ some (-1)) : untoldK a true = !(decide ((a.length : Int) > 1) || (a.getD 0 0 != 1)) := by
  cases a with
  | nil => exact absurd rfl hne
  | cons x xs =>
    have hx : x ≠ -1 := fun e => h0 (by rw [e]; rfl)
    unfold untoldK
    cases xs with
    | nil =>
      have : (x == -1) = false := by rw [beq_eq_false_iff_ne]; exact hx
      have h2 : (x != 1) = !(x == 1) := rfl
      simp [this, h2]
    | cons y ys => simp; omega
theorem seq_ps (fl : Int) (k : Ky) : (keySq fl k).ps = trimK [firstK fl k (formK k.code).1 (formK k.code).2.toNat, secondK fl k, thirdK fl k] 3 := rfl
theorem first_head (fl : Int) (k : Ky) (n f : Int) : ∃ l, firstK fl k n f = n :: l := by
  unfold firstK
  repeat' (first | split | simp only)
  all_goals exact ⟨_, rfl⟩
theorem second_untold (fl : Int) {k : Ky} (h : MayK k) : ∃ x l, secondK fl k = x :: l ∧ untoldK (secondK fl k) false = (x == -1) ∧ (x = -1 ∨ 1 ≤ x) := by
  have hp : paramK k.mods = k.mods + 1 := by rw [paramK, if_neg (by have := h.m0; have := h.m1; omega)]
  have := h.m0
  unfold secondK
  rw [hp]
  split
  · exact ⟨_, _, rfl, by simp [untoldK]; omega, .inr (by omega)⟩
  · split
    · exact ⟨_, _, rfl, by simp [untoldK], .inr (by omega)⟩
    · exact ⟨_, _, rfl, by simp [untoldK], .inl rfl⟩
set_option maxHeartbeats 4000000 in
theorem fs_rSeq {Gl : Gh → Prop} (hst : Stays Gl) {k : Ky} {fl : Int} (hfl : fl ≤ 9223372036854775807) (M : MayK k) (ht : k.text.length ≤ 1000000000000) : FS Tryz.prog Gl 71 [.int .i64 fl, .agg (kyAV k)] [] [] (.agg (keySq fl k).c) [] [] := by
  refine FS.ofW hm hst is_clavierref13Seq rfl (by simp) fun γ hγ hfr => ?_
  have h0 := M.m0
  have h1 := M.m1
  have c1 := fs_rForm (Gl := Gl) hst (c := k.code)
  have c2 : FS Tryz.prog Gl 115 [.int .i64 fl, .agg (kyAV k)] [] [] (.sl none 1 (intsAV (firstK fl k (formK k.code).1 (formK k.code).2.toNat))) [] [] := fs_rFirst (Gl := Gl) hst hfl h1
  have c3 : FS Tryz.prog Gl 116 [.int .i64 fl, .agg (kyAV k)] [] [] (.sl none 1 (intsAV (secondK fl k))) [] [] := fs_rSecond (Gl := Gl) hst hfl h0 h1
  have c4 := fs_rFlag (Gl := Gl) hst hfl (one := 16) (by omega)
  have c5 : FS Tryz.prog Gl 81 [.sl none 1 (bytesAV k.text)] [] [] (.tup [.sl none 1 (intsAV (allV k.text).1), .bool (allV k.text).2]) [] [] := fs_rAllU (Gl := Gl) hst ht
  have c5' : ∀ t : Option Nm, FS Tryz.prog Gl 81 [.sl t 1 (bytesAV k.text)] [] [] (.tup [.sl none 1 (intsAV (allV k.text).1), .bool (allV k.text).2]) [] [] := fun t => fs_rAllU (Gl := Gl) hst ht
  have hky : kyAV k = [.int .i64 k.code, .int .i64 k.mods, .int .i64 k.type, .int .i64 k.shifted, .int .i64 k.base, .str k.text] := rfl
  rw [hky] at c2 c3
  have hps := seq_ps fl k
  have hc : (keySq fl k).c = [.int .i64 1, .int .u8 0, parsV (keySq fl k).ps, .str [], .int .u8 (formK k.code).2.toNat, .str []] := rfl
  rw [hps] at hc
  obtain ⟨al, hal⟩ := first_head fl k (formK k.code).1 (formK k.code).2.toNat
  have hnum := formK_num M.kind
  obtain ⟨y, bl, hbl, hb1, hb2⟩ := second_untold fl M
  have hA := third_told (fl := fl) M
  have hA' := third_untold (fl := fl) (k := k)
  rw [hc]
  generalize firstK fl k (formK k.code).1 (formK k.code).2.toNat = a at *
  generalize secondK fl k = b at *
  generalize thirdK fl k = th at *
  have hf : untoldK a true = !(decide ((a.length : Int) > 1) || (a.getD 0 0 != 1)) := trim_first (by rw [hal]; simp) (by rw [hal]; simp; omega)
  (generalize hQ : (fun (ex : Ex) (_ _ : Nat) (s : St) => _) = Q; unfold ir_clavierref13Seq)
  simp +contextual (maxSteps := 1000000) only [hky, go_sem, reduceCtorEq, ↓reduceIte, Nat.reduceAdd, Nat.reduceEqDiff, Nat.reduceLeDiff, Nat.reduceMul, Nat.reduceBEq, Int.reduceBEq, Int.reduceBNe, Int.reduceLT, Int.reduceLE, Int.reduceGT, Int.reduceGE, Int.reduceToNat]
  (refine CallP.pure (c1) (fun _ => rfl) ?_; simp +contextual (maxSteps := 1000000) only [go_sem, reduceCtorEq, ↓reduceIte, Nat.reduceAdd, Nat.reduceEqDiff, Nat.reduceLeDiff, Nat.reduceMul, Nat.reduceBEq, Int.reduceBEq, Int.reduceBNe, Int.reduceLT, Int.reduceLE, Int.reduceGT, Int.reduceGE, Int.reduceToNat])
  (refine CallP.pure (c2) (fun _ => rfl) ?_; simp +contextual (maxSteps := 1000000) only [go_sem, reduceCtorEq, ↓reduceIte, Nat.reduceAdd, Nat.reduceEqDiff, Nat.reduceLeDiff, Nat.reduceMul, Nat.reduceBEq, Int.reduceBEq, Int.reduceBNe, Int.reduceLT, Int.reduceLE, Int.reduceGT, Int.reduceGE, Int.reduceToNat])
  (refine CallP.pure (c3) (fun _ => rfl) ?_; simp +contextual (maxSteps := 1000000) only [go_sem, reduceCtorEq, ↓reduceIte, Nat.reduceAdd, Nat.reduceEqDiff, Nat.reduceLeDiff, Nat.reduceMul, Nat.reduceBEq, Int.reduceBEq, Int.reduceBNe, Int.reduceLT, Int.reduceLE, Int.reduceGT, Int.reduceGE, Int.reduceToNat])
  (refine CallP.pure (c4) (fun _ => rfl) ?_; simp +contextual (maxSteps := 1000000) only [go_sem, reduceCtorEq, ↓reduceIte, Nat.reduceAdd, Nat.reduceEqDiff, Nat.reduceLeDiff, Nat.reduceMul, Nat.reduceBEq, Int.reduceBEq, Int.reduceBNe, Int.reduceLT, Int.reduceLE, Int.reduceGT, Int.reduceGE, Int.reduceToNat])
  have res : ∀ {x : List AV} {r : AV} {F : Nat → AV} {A B C : Nm × HB} {T : Tk}, F 4 = .ptr (γ, 1, 0) 0 → A.1 ≠ (γ, 1, 0) → B = ((γ, 1, 0), .cells x) → x.length = 6 → RepLe (.agg x) r → ∃ z, resOf ⟨F, [A, B, C], T⟩ [IRes.cell 4 (some 6)] = some z ∧ RepLe z r := by
    intro x r F A B C T hF hA hB hx hr
    subst hB
    refine ⟨.agg x, ?_, hr⟩
    have hl : x.take 6 = x := List.take_of_length_le (by omega)
    simp only [resOf, getAll, IRes.get, hF, getH_cons, hA, if_false, if_true, List.drop_zero, hx, Nat.le_refl, hl]
  cases hB : (hasK fl 16 && (k.type != 3) && !decide (k.text = [])) with
  | true =>
    obtain ⟨e1, e2⟩ := hA hB
    have hz : trimK [a, b, th] 3 = [a, b, (allV k.text).1] := by
      rw [← e1]
      show (if untoldK th false = true then _ else _) = _
      rw [e2]; rfl
    simp +contextual (maxSteps := 1000000) only [go_sem, reduceCtorEq, ↓reduceIte, Nat.reduceAdd, Nat.reduceEqDiff, Nat.reduceLeDiff, Nat.reduceMul, Nat.reduceBEq, Int.reduceBEq, Int.reduceBNe, Int.reduceLT, Int.reduceLE, Int.reduceGT, Int.reduceGE, Int.reduceToNat]
    refine ⟨by simp only [maxLen]; omega, ?_⟩
    (refine CallP.pure (c5' _) (fun _ => rfl) ?_; simp +contextual (maxSteps := 1000000) only [go_sem, reduceCtorEq, ↓reduceIte, Nat.reduceAdd, Nat.reduceEqDiff, Nat.reduceLeDiff, Nat.reduceMul, Nat.reduceBEq, Int.reduceBEq, Int.reduceBNe, Int.reduceLT, Int.reduceLE, Int.reduceGT, Int.reduceGE, Int.reduceToNat])
    rw [hz] at hc
    rw [← hQ, hz]
    refine ⟨trivial, .inl (res rfl (by simp) rfl rfl (RepLe.agg ?_))⟩
    exact ⟨RepLe.refl _, RepLe.refl _, RepLe.anon' rfl, RepLe.refl _, RepLe.refl _, RepLe.refl _, trivial⟩
  | false =>
    have e1 := hA' hB
    have htr : trimK [a, b, th] 3 = if (y == -1) = true then (if (!(decide ((a.length : Int) > 1) || (a.getD 0 0 != 1))) = true then [] else [a]) else [a, b] := by
      show (if untoldK th false = true then (if untoldK b false = true then (if untoldK a true = true then [] else [a]) else [a, b]) else [a, b, th]) = _
      rw [e1, hb1, hf]; rfl
    have hi0 : (intsAV (y :: bl)).getD 0 [] = [.int .i64 y] := rfl
    have hi1 : (intsAV ((formK k.code).1 :: al)).getD 0 [] = [.int .i64 (formK k.code).1] := rfl
    subst hbl
    subst hal
    simp +contextual (maxSteps := 1000000) only [hi0, intsAV_length, go_sem, reduceCtorEq, ↓reduceIte, Nat.reduceAdd, Nat.reduceEqDiff, Nat.reduceLeDiff, Nat.reduceMul, Nat.reduceBEq, Int.reduceBEq, Int.reduceBNe, Int.reduceLT, Int.reduceLE, Int.reduceGT, Int.reduceGE, Int.reduceToNat]
    refine ⟨by (first | omega | (simp only [List.length_cons]; omega)), ?_⟩
    by_cases hy : y = -1
    · have q1 : (y != -1) = false := by simp [hy]
      have q1' : (y == -1) = true := by simp [hy]
      simp +contextual (maxSteps := 1000000) only [hi0, hi1, intsAV_length, q1, go_sem, reduceCtorEq, ↓reduceIte, Nat.reduceAdd, Nat.reduceEqDiff, Nat.reduceLeDiff, Nat.reduceMul, Nat.reduceBEq, Int.reduceBEq, Int.reduceBNe, Int.reduceLT, Int.reduceLE, Int.reduceGT, Int.reduceGE, Int.reduceToNat]
      refine ⟨fun _ => by (first | omega | (simp only [List.length_cons]; omega)), ?_⟩
      cases hC : (decide ((((formK k.code).1 :: al).length : Int) > 1) || ((formK k.code).1 != 1)) with
      | true =>
        simp +contextual (maxSteps := 1000000) only [hC, go_sem, reduceCtorEq, ↓reduceIte, Nat.reduceAdd, Nat.reduceEqDiff, Nat.reduceLeDiff, Nat.reduceMul, Nat.reduceBEq, Int.reduceBEq, Int.reduceBNe, Int.reduceLT, Int.reduceLE, Int.reduceGT, Int.reduceGE, Int.reduceToNat]
        rw [← hQ, htr, if_pos q1', if_neg (by rw [show ((formK k.code).1 :: al).getD 0 0 = (formK k.code).1 from rfl, hC]; simp)]
        exact ⟨trivial, .inl (res rfl (by simp) rfl rfl (RepLe.agg ⟨RepLe.refl _, RepLe.refl _, RepLe.anon' rfl, RepLe.refl _, RepLe.refl _, RepLe.refl _, trivial⟩))⟩
      | false =>
        simp +contextual (maxSteps := 1000000) only [hC, go_sem, reduceCtorEq, ↓reduceIte, Nat.reduceAdd, Nat.reduceEqDiff, Nat.reduceLeDiff, Nat.reduceMul, Nat.reduceBEq, Int.reduceBEq, Int.reduceBNe, Int.reduceLT, Int.reduceLE, Int.reduceGT, Int.reduceGE, Int.reduceToNat]
        rw [← hQ, htr, if_pos q1', if_pos (by rw [show ((formK k.code).1 :: al).getD 0 0 = (formK k.code).1 from rfl, hC]; simp)]
        exact ⟨trivial, .inl (res rfl (by simp) rfl rfl (RepLe.agg ⟨RepLe.refl _, RepLe.refl _, RepLe.nils 1, RepLe.refl _, RepLe.refl _, RepLe.refl _, trivial⟩))⟩
    · have q1 : (y != -1) = true := by simp [hy]
      have q1' : (y == -1) = false := by simp [hy]
      simp +contextual (maxSteps := 1000000) only [hi0, hi1, intsAV_length, q1, go_sem, reduceCtorEq, ↓reduceIte, Nat.reduceAdd, Nat.reduceEqDiff, Nat.reduceLeDiff, Nat.reduceMul, Nat.reduceBEq, Int.reduceBEq, Int.reduceBNe, Int.reduceLT, Int.reduceLE, Int.reduceGT, Int.reduceGE, Int.reduceToNat]
      rw [← hQ, htr, if_neg (by rw [q1']; simp)]
      exact ⟨trivial, .inl (res rfl (by simp) rfl rfl (RepLe.agg ⟨RepLe.refl _, RepLe.refl _, RepLe.anon' rfl, RepLe.refl _, RepLe.refl _, RepLe.refl _, trivial⟩))⟩
theorem text_eq {fl : Int} {k : Ky} (M : MayK k) : textK fl k = if (!hasK fl 8 && (k.type != 3) && astextK k) = true then (if typedK k.code = true then [UInt8.ofNat k.code.toNat] else if k.text ≠ [] then k.text else putU (shownK k)) else [] := by
  have e3 : decide (k.type = 3) = (k.type == 3) := rfl
  unfold textK astextK
  rw [e3, show (k.type != 3) = !(k.type == 3) from rfl]
  by_cases hk : kindK k.code = 1
  · have hty := typed1 hk
    have hk' : decide (kindK k.code ≠ 1) = false := decide_eq_false (fun h => h hk)
    rw [if_pos hk, hty, hk']
    cases hasK fl 8 <;> cases (k.type == 3) <;> cases onlyK k.mods 1 <;> simp
  · have hk' : decide (kindK k.code ≠ 1) = true := decide_eq_true hk
    rw [if_neg hk, hk']
    cases hasK fl 8 <;> cases (k.type == 3) <;> cases typedK k.code <;> cases onlyK k.mods 0 <;> simp
theorem text_ne {k : Ky} (M : MayK k) (h : astextK k = true) : (if typedK k.code = true then [UInt8.ofNat k.code.toNat] else if k.text ≠ [] then k.text else putU (shownK k)) ≠ [] := by
  split
  · simp
  · rename_i hty
    split
    · assumption
    · have hk : kindK k.code = 1 := by
        unfold astextK at h
        split at h
        · assumption
        · simp only [Bool.and_eq_true] at h
          exact absurd h.1 hty
      exact putU_ne.2 (shown_cp hk M.sh).1
set_option maxHeartbeats 4000000 in
theorem fs_rKey {Gl : Gh → Prop} (hst : Stays Gl) {k : Ky} {fl : Int} (hfl : fl ≤ 9223372036854775807) (ht : k.text.length ≤ 1000000000000) : FS Tryz.prog Gl 31 [.int .i64 fl, .agg (kyAV k)] [] [] (.sl none 1 (bytesAV (keyK fl k))) [] [] := by
  refine FS.ofW hm hst is_clavierref13Key rfl (by simp) fun γ hγ hfr => ?_
  have c1 := fs_rSent (Gl := Gl) hst (k := k) hfl ht
  have c2 := fs_rFlag (Gl := Gl) hst hfl (one := 8) (by omega)
  have c3 := fs_rKeyed (Gl := Gl) hst (c := k.code)
  have hky : kyAV k = [.int .i64 k.code, .int .i64 k.mods, .int .i64 k.type, .int .i64 k.shifted, .int .i64 k.base, .str k.text] := rfl
  rw [hky] at c1
  (generalize hQ : (fun (ex : Ex) (_ _ : Nat) (s : St) => _) = Q; unfold ir_clavierref13Key)
  simp +contextual (maxSteps := 1000000) only [hky, go_sem, reduceCtorEq, ↓reduceIte, Nat.reduceAdd, Nat.reduceEqDiff, Nat.reduceLeDiff, Nat.reduceMul, Nat.reduceBEq, Int.reduceBEq, Int.reduceBNe, Int.reduceLT, Int.reduceLE, Int.reduceGT, Int.reduceGE, Int.reduceToNat]
  cases hs : (mayK k && sentK fl k) with
  | false =>
    rw [hs] at c1
    (refine CallP.pure (c1) (fun _ => rfl) ?_; simp +contextual (maxSteps := 1000000) only [go_sem, reduceCtorEq, ↓reduceIte, Nat.reduceAdd, Nat.reduceEqDiff, Nat.reduceLeDiff, Nat.reduceMul, Nat.reduceBEq, Int.reduceBEq, Int.reduceBNe, Int.reduceLT, Int.reduceLE, Int.reduceGT, Int.reduceGE, Int.reduceToNat])
    have hz : keyK fl k = [] := by
      unfold keyK
      rw [if_pos]
      revert hs
      cases mayK k <;> cases sentK fl k <;> simp
    rw [← hQ, hz]
    exact ⟨trivial, .inl ⟨_, rfl, RepLe.nils 1⟩⟩
  | true =>
    rw [hs] at c1
    obtain ⟨hm1, hs1⟩ := (Bool.and_eq_true _ _).mp hs
    have M := mayK_iff.1 hm1
    have h0 := M.m0
    have h1 := M.m1
    have c4 := fs_rAstext (Gl := Gl) hst (k := k) h0 h1
    have c5 := fs_rShown (Gl := Gl) hst (k := k) (by omega)
    have c6 : FS Tryz.prog Gl 71 [.int .i64 fl, .agg (kyAV k)] [] [] (.agg [.int .i64 1, .int .u8 0, .sl none 1 (parsAV (keySq fl k).ps), .str [], .int .u8 (formK k.code).2.toNat, .str []]) [] [] := fs_rSeq (Gl := Gl) hst hfl M ht
    have hkk : keyK fl k = if textK fl k ≠ [] then textK fl k else putX (keySq fl k) := by
      unfold keyK
      rw [hm1, hs1]; rfl
    have hte := text_eq (fl := fl) M
    rw [hky] at c4 c5 c6
    have hge := formK_ge M.kind
    have c7 := fs_rPut (Gl := Gl) hst (s := keySq fl k) (by simp [keySq]) (by simp [keySq]) (by simp only [keySq]; omega) (by simp only [keySq]; omega) (key_sm M)
    have hpv : putV (keySq fl k) = .sl none 1 (bytesAV (putX (keySq fl k))) := by
      unfold putV putX
      rw [key_may M]; rfl
    rw [hpv] at c7
    have hc : (keySq fl k).c = [.int .i64 1, .int .u8 0, .sl none 1 (parsAV (keySq fl k).ps), .str [], .int .u8 (formK k.code).2.toNat, .str []] := rfl
    rw [hc] at c7
    (refine CallP.pure (c1) (fun _ => rfl) ?_; simp +contextual (maxSteps := 1000000) only [go_sem, reduceCtorEq, ↓reduceIte, Nat.reduceAdd, Nat.reduceEqDiff, Nat.reduceLeDiff, Nat.reduceMul, Nat.reduceBEq, Int.reduceBEq, Int.reduceBNe, Int.reduceLT, Int.reduceLE, Int.reduceGT, Int.reduceGE, Int.reduceToNat])
    (refine CallP.pure (c2) (fun _ => rfl) ?_; simp +contextual (maxSteps := 1000000) only [go_sem, reduceCtorEq, ↓reduceIte, Nat.reduceAdd, Nat.reduceEqDiff, Nat.reduceLeDiff, Nat.reduceMul, Nat.reduceBEq, Int.reduceBEq, Int.reduceBNe, Int.reduceLT, Int.reduceLE, Int.reduceGT, Int.reduceGE, Int.reduceToNat])
    (refine kGc_call (c4) (fun _ => rfl) (fun hgc => ?_) ?_; (focus (first | (rw [Bool.not_eq_true'] at hgc; simp only [List.map_cons, List.map_nil, List.nil_append, List.append_nil, List.cons_append, Xev_t, Xev_c, upd_app, lf_cons, lf_nil, Nat.reduceEqDiff, ↓reduceIte, hgc, Bool.false_eq_true, Bool.true_eq_false, reduceCtorEq]; done) | (simp only [List.map_cons, List.map_nil, List.nil_append, List.append_nil, List.cons_append, Xev_t, Xev_c, upd_app, lf_cons, lf_nil, Nat.reduceEqDiff, ↓reduceIte, hgc, Bool.false_eq_true, Bool.true_eq_false, reduceCtorEq]; done) | (revert hgc; simp +contextual [Xev_t, Xev_c, upd_app, lf_cons, lf_nil]; done) | simp [Xev_t, Xev_c, upd_app, lf_cons, lf_nil])); simp +contextual (maxSteps := 1000000) only [go_sem, reduceCtorEq, ↓reduceIte, Nat.reduceAdd, Nat.reduceEqDiff, Nat.reduceLeDiff, Nat.reduceMul, Nat.reduceBEq, Int.reduceBEq, Int.reduceBNe, Int.reduceLT, Int.reduceLE, Int.reduceGT, Int.reduceGE, Int.reduceToNat])
    cases hA : (!hasK fl 8 && (k.type != 3) && astextK k) with
    | false =>
      have hz : keyK fl k = putX (keySq fl k) := by rw [hkk, hte, hA]; simp
      simp +contextual (maxSteps := 1000000) only [hA, go_sem, reduceCtorEq, ↓reduceIte, Nat.reduceAdd, Nat.reduceEqDiff, Nat.reduceLeDiff, Nat.reduceMul, Nat.reduceBEq, Int.reduceBEq, Int.reduceBNe, Int.reduceLT, Int.reduceLE, Int.reduceGT, Int.reduceGE, Int.reduceToNat]
      (refine CallP.pure (c6) (fun _ => rfl) ?_; simp +contextual (maxSteps := 1000000) only [go_sem, reduceCtorEq, ↓reduceIte, Nat.reduceAdd, Nat.reduceEqDiff, Nat.reduceLeDiff, Nat.reduceMul, Nat.reduceBEq, Int.reduceBEq, Int.reduceBNe, Int.reduceLT, Int.reduceLE, Int.reduceGT, Int.reduceGE, Int.reduceToNat])
      (refine CallP.pure (c7) (fun _ => rfl) ?_; simp +contextual (maxSteps := 1000000) only [go_sem, reduceCtorEq, ↓reduceIte, Nat.reduceAdd, Nat.reduceEqDiff, Nat.reduceLeDiff, Nat.reduceMul, Nat.reduceBEq, Int.reduceBEq, Int.reduceBNe, Int.reduceLT, Int.reduceLE, Int.reduceGT, Int.reduceGE, Int.reduceToNat])
      rw [← hQ, hz]
      exact ⟨trivial, .inl ⟨_, rfl, RepLe.refl _⟩⟩
    | true =>
      have hz : keyK fl k = (if typedK k.code = true then [UInt8.ofNat k.code.toNat] else if k.text ≠ [] then k.text else putU (shownK k)) := by
        have hne := text_ne M ((Bool.and_eq_true _ _).mp hA).2
        rw [hkk, hte, if_pos hA, if_pos hne]
      simp +contextual (maxSteps := 1000000) only [hA, go_sem, reduceCtorEq, ↓reduceIte, Nat.reduceAdd, Nat.reduceEqDiff, Nat.reduceLeDiff, Nat.reduceMul, Nat.reduceBEq, Int.reduceBEq, Int.reduceBNe, Int.reduceLT, Int.reduceLE, Int.reduceGT, Int.reduceGE, Int.reduceToNat]
      (refine CallP.pure (c3) (fun _ => rfl) ?_; simp +contextual (maxSteps := 1000000) only [go_sem, reduceCtorEq, ↓reduceIte, Nat.reduceAdd, Nat.reduceEqDiff, Nat.reduceLeDiff, Nat.reduceMul, Nat.reduceBEq, Int.reduceBEq, Int.reduceBNe, Int.reduceLT, Int.reduceLE, Int.reduceGT, Int.reduceGE, Int.reduceToNat])
      cases hty : typedK k.code with
      | true =>
        simp +contextual (maxSteps := 1000000) only [hty, go_sem, reduceCtorEq, ↓reduceIte, Nat.reduceAdd, Nat.reduceEqDiff, Nat.reduceLeDiff, Nat.reduceMul, Nat.reduceBEq, Int.reduceBEq, Int.reduceBNe, Int.reduceLT, Int.reduceLE, Int.reduceGT, Int.reduceGE, Int.reduceToNat]
        rw [if_pos hty] at hz
        rw [← hQ, hz]
        refine ⟨trivial, .inl ⟨_, rfl, RepLe.anon' ?_⟩⟩
        have hcc : k.code = 9 ∨ k.code = 13 ∨ k.code = 127 := by
          simp only [typedK, Bool.or_eq_true, decide_eq_true_eq] at hty; omega
        rcases hcc with h | h | h <;> rw [h] <;> rfl
      | false =>
        rw [if_neg (by rw [hty]; simp)] at hz
        by_cases hx : k.text = []
        · have hq : decide (k.text = []) = true := by simp [hx]
          rw [if_neg (fun h => h hx)] at hz
          simp +contextual (maxSteps := 1000000) only [hq, go_sem, reduceCtorEq, ↓reduceIte, Nat.reduceAdd, Nat.reduceEqDiff, Nat.reduceLeDiff, Nat.reduceMul, Nat.reduceBEq, Int.reduceBEq, Int.reduceBNe, Int.reduceLT, Int.reduceLE, Int.reduceGT, Int.reduceGE, Int.reduceToNat]
          (refine CallP.pure (c5) (fun _ => rfl) ?_; simp +contextual (maxSteps := 1000000) only [go_sem, reduceCtorEq, ↓reduceIte, Nat.reduceAdd, Nat.reduceEqDiff, Nat.reduceLeDiff, Nat.reduceMul, Nat.reduceBEq, Int.reduceBEq, Int.reduceBNe, Int.reduceLT, Int.reduceLE, Int.reduceGT, Int.reduceGE, Int.reduceToNat])
          (refine CallP.pure (fs_rPutU hst) (fun _ => rfl) ?_; simp +contextual (maxSteps := 1000000) only [go_sem, reduceCtorEq, ↓reduceIte, Nat.reduceAdd, Nat.reduceEqDiff, Nat.reduceLeDiff, Nat.reduceMul, Nat.reduceBEq, Int.reduceBEq, Int.reduceBNe, Int.reduceLT, Int.reduceLE, Int.reduceGT, Int.reduceGE, Int.reduceToNat])
          rw [← hQ, hz]
          exact ⟨trivial, .inl ⟨_, rfl, RepLe.refl _⟩⟩
        · have hq : decide (k.text = []) = false := by simp [hx]
          rw [if_pos hx] at hz
          simp +contextual (maxSteps := 1000000) only [hq, go_sem, reduceCtorEq, ↓reduceIte, Nat.reduceAdd, Nat.reduceEqDiff, Nat.reduceLeDiff, Nat.reduceMul, Nat.reduceBEq, Int.reduceBEq, Int.reduceBNe, Int.reduceLT, Int.reduceLE, Int.reduceGT, Int.reduceGE, Int.reduceToNat]
          refine ⟨by simp only [maxLen]; omega, ?_⟩
          rw [← hQ, hz]
          exact ⟨trivial, .inl ⟨_, rfl, RepLe.refl _⟩⟩
end Go.Proofs.YtbepihadhmfklaaGreatDoor

namespace Go.Proofs.YtbepihadhmfklaaGreatDoor
open Go Go.Ab

def clearsK (fl : Int) : Bool := hasK fl 1 || hasK fl 8
def boardK (m : Md) (fl : Int) (k : Ky) : List UInt8 := if m.lock = true then [] else if clearsK fl = true then keyK fl k else if isO m.other k = true then putB (othSq k) else legK m k
end Go.Proofs.YtbepihadhmfklaaGreatDoor

namespace Go.Proofs.YtbepihadhmfklaaGreatDoor
open Go Go.Ab
def ir_otherplain : ICode :=
 (.seq
 (.reg [⟨some 1, none, .box 25 (.t 0)⟩,
 ⟨some 2, none, .mov (.c (.bool false))⟩] (some [1]))
 (.seq
 (.reg [⟨some 3, none, .fa 0 (.t 1)⟩,
 ⟨some 4, none, .ld none (.t 3)⟩,
 ⟨some 5, none, .call (.c (.fn (.func 24) [] [])) [(.t 4)]⟩,
 ⟨some 6, none, .fld 0 none (.t 5)⟩,
 ⟨some 7, none, .bin .eql .none (.t 6) (.c (.int .i64 2))⟩,
 ⟨some 2, none, .mov (.t 7)⟩] (some [2]))
 .ret))
theorem is_otherplain : IrOf Tryz.prog 82 8 ir_otherplain [.t 2] := ⟨_, Tryz.func82, rfl, by kernel_rfl, by kernel_rfl, by kernel_rfl⟩

def ir_otherchar : ICode :=
 (.seq
 (.reg [⟨some 1, none, .box 25 (.t 0)⟩,
 ⟨some 2, none, .mov (.c (.int .i64 0))⟩,
 ⟨some 3, none, .mov (.c (.bool false))⟩] (some [1]))
 (.seq
 (.seq
 (.reg [⟨some 4, none, .fa 0 (.t 1)⟩,
 ⟨some 5, none, .ld none (.t 4)⟩,
 ⟨some 6, none, .call (.c (.fn (.func 24) [] [])) [(.t 5)]⟩,
 ⟨some 7, none, .fld 0 none (.t 6)⟩] (some [1, 7]))
 (.blk 0
 (.seq
 (.reg [⟨some 9, none, .bin .eql .none (.t 7) (.c (.int .i64 1))⟩,
 ⟨some 8, none, .mov (.t 9)⟩] (some [1, 7, 8]))
 (.cond (.t 8)
 (.seq
 (.reg [⟨some 10, none, .ld (some 6) (.t 1)⟩,
 ⟨some 11, none, .call (.c (.fn (.func 84) [] [])) [(.t 10)]⟩,
 ⟨some 2, none, .mov (.t 11)⟩,
 ⟨some 3, none, .mov (.c (.bool true))⟩] (some [2, 3]))
 .ret)
 (.seq
 (.reg [⟨some 13, none, .bin .eql .none (.t 7) (.c (.int .i64 2))⟩,
 ⟨some 12, none, .mov (.t 13)⟩] (some [1, 12]))
 (.cond (.t 12)
 (.seq
 (.reg [⟨some 14, none, .fa 0 (.t 1)⟩,
 ⟨some 15, none, .ld none (.t 14)⟩,
 ⟨some 2, none, .mov (.t 15)⟩,
 ⟨some 3, none, .mov (.c (.bool true))⟩] (some [2, 3]))
 .ret)
 .skip))))))
 (.seq
 (.reg [⟨some 2, none, .mov (.c (.int .i64 0))⟩,
 ⟨some 3, none, .mov (.c (.bool false))⟩] (some [2, 3]))
 .ret)))
theorem is_otherchar : IrOf Tryz.prog 38 16 ir_otherchar [.t 2, .t 3] := ⟨_, Tryz.func38, rfl, by kernel_rfl, by kernel_rfl, by kernel_rfl⟩

def ir_otherall : ICode :=
 (.seq
 (.reg [⟨some 1, none, .box 25 (.t 0)⟩,
 ⟨some 2, none, .mov (.c (.bool false))⟩] (some [1]))
 (.seq
 (.reg [⟨some 4, none, .fa 1 (.t 1)⟩,
 ⟨some 5, none, .ld none (.t 4)⟩,
 ⟨some 6, none, .call (.c (.fn (.func 43) [] [])) [(.t 5)]⟩,
 ⟨some 3, none, .mov (.t 6)⟩] (some [1, 3]))
 (.seq
 (.reg [⟨some 7, none, .mov (.t 3)⟩,
 ⟨some 8, none, .bin .neq .none (.t 7) (.c (.int .i64 0))⟩,
 ⟨some 9, none, .mov (.t 8)⟩,
 ⟨some 10, some (9, true), .ld (some 6) (.t 1)⟩,
 ⟨some 11, some (9, true), .call (.c (.fn (.func 82) [] [])) [(.t 10)]⟩,
 ⟨some 12, some (9, true), .mov (.t 11)⟩,
 ⟨some 13, some (12, false), .mov (.t 3)⟩,
 ⟨some 14, some (12, false), .bin .neq .none (.t 13) (.c (.int .i64 1))⟩,
 ⟨some 15, some (9, true), .pick (.t 12) (.c (.bool true)) (.t 14)⟩,
 ⟨some 16, none, .pick (.t 9) (.t 15) (.c (.bool false))⟩,
 ⟨some 2, none, .mov (.t 16)⟩] (some [2]))
 .ret)))
theorem is_otherall : IrOf Tryz.prog 37 17 ir_otherall [.t 2] := ⟨_, Tryz.func37, rfl, by kernel_rfl, by kernel_rfl, by kernel_rfl⟩

def ir_otherfew : ICode :=
 (.seq
 (.reg [⟨some 1, none, .box 25 (.t 0)⟩,
 ⟨some 2, none, .mov (.c (.bool false))⟩] (some [1]))
 (.seq
 (.seq
 (.reg [⟨some 5, none, .ld (some 6) (.t 1)⟩,
 ⟨some 6, none, .call (.c (.fn (.func 37) [] [])) [(.t 5)]⟩,
 ⟨some 7, none, .un .not (.t 6)⟩,
 ⟨some 8, none, .mov (.t 7)⟩,
 ⟨some 9, some (8, false), .fa 1 (.t 1)⟩,
 ⟨some 10, some (8, false), .ld none (.t 9)⟩,
 ⟨some 11, some (8, false), .bin .and .none (.t 10) (.c (.int .i64 4))⟩,
 ⟨some 12, some (8, false), .bin .eql .none (.t 11) (.c (.int .i64 0))⟩,
 ⟨some 13, none, .pick (.t 8) (.c (.bool true)) (.t 12)⟩] (some [1, 13]))
 (.cond (.t 13)
 (.seq
 (.reg [⟨some 2, none, .mov (.c (.bool false))⟩] (some [2]))
 .ret)
 .skip))
 (.seq
 (.seq
 (.reg [⟨some 14, none, .ld (some 6) (.t 1)⟩,
 ⟨some 15, none, .call (.c (.fn (.func 82) [] [])) [(.t 14)]⟩] (some [1, 15]))
 (.cond (.t 15)
 (.seq
 (.reg [⟨some 16, none, .fa 0 (.t 1)⟩,
 ⟨some 17, none, .ld none (.t 16)⟩,
 ⟨some 18, none, .bin .eql .none (.t 17) (.c (.int .i64 9))⟩,
 ⟨some 19, none, .mov (.t 18)⟩,
 ⟨some 20, some (19, false), .fa 0 (.t 1)⟩,
 ⟨some 21, some (19, false), .ld none (.t 20)⟩,
 ⟨some 22, some (19, false), .bin .eql .none (.t 21) (.c (.int .i64 13))⟩,
 ⟨some 23, none, .pick (.t 19) (.c (.bool true)) (.t 22)⟩,
 ⟨some 2, none, .mov (.t 23)⟩] (some [2]))
 .ret)
 .skip))
 (.seq
 (.reg [⟨some 25, none, .ld (some 6) (.t 1)⟩,
 ⟨some 26, none, .call (.c (.fn (.func 84) [] [])) [(.t 25)]⟩,
 ⟨some 27, none, .call (.c (.fn (.func 83) [] [])) [(.t 26)]⟩,
 ⟨some 24, none, .mov (.t 27)⟩,
 ⟨some 28, none, .ext (.t 24) 0⟩,
 ⟨some 29, none, .ext (.t 24) 1⟩,
 ⟨some 3, none, .mov (.t 28)⟩,
 ⟨some 4, none, .mov (.t 29)⟩] (some [1, 4]))
 (.seq
 (.reg [⟨some 30, none, .fa 1 (.t 1)⟩,
 ⟨some 31, none, .ld none (.t 30)⟩,
 ⟨some 32, none, .bin .and .none (.t 31) (.c (.int .i64 1))⟩,
 ⟨some 33, none, .bin .neq .none (.t 32) (.c (.int .i64 0))⟩,
 ⟨some 34, none, .mov (.t 33)⟩,
 ⟨some 35, some (34, false), .mov (.t 4)⟩,
 ⟨some 36, some (34, false), .un .not (.t 35)⟩,
 ⟨some 37, none, .pick (.t 34) (.c (.bool true)) (.t 36)⟩,
 ⟨some 2, none, .mov (.t 37)⟩] (some [2]))
 .ret)))))
theorem is_otherfew : IrOf Tryz.prog 36 38 ir_otherfew [.t 2] := ⟨_, Tryz.func36, rfl, by kernel_rfl, by kernel_rfl, by kernel_rfl⟩

def ir_otherKey : ICode :=
 (.seq
 (.reg [⟨some 2, none, .box 23 (.t 0)⟩,
 ⟨some 3, none, .box 25 (.t 1)⟩,
 ⟨some 4, none, .mov (.c .nils)⟩,
 ⟨some 5, none, .mov (.c (.bool false))⟩] (some [2, 3]))
 (.seq
 (.reg [⟨some 12, none, .bld [.nilf, .nilf] [(0, 1, (.c (.fn (.func 36) [] []))), (1, 1, (.c (.fn (.func 37) [] [])))]⟩,
 ⟨some 6, none, .box 58 (.c (.agg [.nilf, .nilf]))⟩,
 ⟨none, none, .st 2 (.t 6) (.t 12)⟩] (some [2, 3, 6]))
 (.seq
 (.reg [⟨some 14, none, .ld (some 6) (.t 3)⟩,
 ⟨some 15, none, .call (.c (.fn (.func 38) [] [])) [(.t 14)]⟩,
 ⟨some 13, none, .mov (.t 15)⟩,
 ⟨some 16, none, .ext (.t 13) 0⟩,
 ⟨some 17, none, .ext (.t 13) 1⟩,
 ⟨some 7, none, .mov (.t 16)⟩,
 ⟨some 8, none, .mov (.t 17)⟩] (some [2, 3, 6, 7, 8]))
 (.seq
 (.seq
 (.reg [⟨some 18, none, .mov (.t 8)⟩,
 ⟨some 19, none, .un .not (.t 18)⟩,
 ⟨some 20, none, .mov (.t 19)⟩,
 ⟨some 21, some (20, false), .fa 9 (.t 2)⟩,
 ⟨some 22, some (20, false), .ld none (.t 21)⟩,
 ⟨some 23, some (20, false), .bin .lss .none (.t 22) (.c (.int .i64 1))⟩,
 ⟨some 24, none, .pick (.t 20) (.c (.bool true)) (.t 23)⟩,
 ⟨some 25, none, .mov (.t 24)⟩,
 ⟨some 26, some (25, false), .fa 9 (.t 2)⟩,
 ⟨some 27, some (25, false), .ld none (.t 26)⟩,
 ⟨some 28, some (25, false), .bin .gtr .none (.t 27) (.c (.int .i64 2))⟩,
 ⟨some 29, none, .pick (.t 25) (.c (.bool true)) (.t 28)⟩,
 ⟨some 30, none, .mov (.t 29)⟩,
 ⟨some 31, some (30, false), .ld (some 6) (.t 3)⟩,
 ⟨some 32, some (30, false), .call (.c (.fn (.func 39) [] [])) [(.t 31)]⟩,
 ⟨some 33, some (30, false), .un .not (.t 32)⟩,
 ⟨some 34, none, .pick (.t 30) (.c (.bool true)) (.t 33)⟩,
 ⟨some 35, none, .mov (.t 34)⟩,
 ⟨some 36, some (35, false), .fa 2 (.t 3)⟩,
 ⟨some 37, some (35, false), .ld none (.t 36)⟩,
 ⟨some 38, some (35, false), .bin .eql .none (.t 37) (.c (.int .i64 3))⟩,
 ⟨some 39, none, .pick (.t 35) (.c (.bool true)) (.t 38)⟩] (some [2, 3, 6, 7, 39]))
 (.cond (.t 39)
 (.seq
 (.reg [⟨some 4, none, .mov (.c .nils)⟩,
 ⟨some 5, none, .mov (.c (.bool false))⟩] (some [4, 5]))
 .ret)
 .skip))
 (.seq
 (.seq
 (.reg [⟨some 40, none, .fa 9 (.t 2)⟩,
 ⟨some 41, none, .ld none (.t 40)⟩,
 ⟨some 42, none, .bin .sub .none (.t 41) (.c (.int .i64 1))⟩,
 ⟨some 43, none, .iar 2 1 (.t 6) (.t 42)⟩,
 ⟨some 44, none, .ld none (.t 43)⟩,
 ⟨some 9, none, .mov (.t 44)⟩] (some [3, 7, 9]))
 (.seq
 (.reg [⟨some 45, none, .mov (.t 9)⟩,
 ⟨some 46, none, .ld (some 6) (.t 3)⟩,
 ⟨some 47, none, .call (.t 45) [(.t 46)]⟩,
 ⟨some 48, none, .un .not (.t 47)⟩] (some [3, 7, 48]))
 (.cond (.t 48)
 (.seq
 (.reg [⟨some 4, none, .mov (.c .nils)⟩,
 ⟨some 5, none, .mov (.c (.bool false))⟩] (some [4, 5]))
 .ret)
 .skip)))
 (.seq
 (.reg [⟨some 50, none, .fa 1 (.t 3)⟩,
 ⟨some 51, none, .ld none (.t 50)⟩,
 ⟨some 52, none, .call (.c (.fn (.func 43) [] [])) [(.t 51)]⟩,
 ⟨some 53, none, .call (.c (.fn (.func 42) [] [])) [(.t 52)]⟩,
 ⟨some 54, none, .mov (.t 7)⟩,
 ⟨some 55, none, .row 3 1 [(.c (.int .i64 27)), (.t 53), (.t 54)]⟩,
 ⟨some 56, none, .call (.c (.fn (.func 41) [] [])) [(.c (.int .u8 0)), (.c (.int .u8 126)), (.t 55)]⟩,
 ⟨some 57, none, .call (.c (.fn (.func 40) [] [])) [(.t 56)]⟩,
 ⟨some 49, none, .mov (.t 57)⟩,
 ⟨some 58, none, .ext (.t 49) 0⟩,
 ⟨some 59, none, .ext (.t 49) 1⟩,
 ⟨some 10, none, .mov (.t 58)⟩,
 ⟨some 11, none, .mov (.t 59)⟩] (some [10, 11]))
 (.seq
 (.reg [⟨some 60, none, .mov (.t 10)⟩,
 ⟨some 61, none, .mov (.t 11)⟩,
 ⟨some 62, none, .bin .eql .none (.t 61) (.c (.int .i64 0))⟩,
 ⟨some 4, none, .mov (.t 60)⟩,
 ⟨some 5, none, .mov (.t 62)⟩] (some [4, 5]))
 .ret)))))))
theorem is_otherKey : IrOf Tryz.prog 20 63 ir_otherKey [.t 4, .t 5] := ⟨_, Tryz.func20, rfl, by kernel_rfl, by kernel_rfl, by kernel_rfl⟩

theorem fs_oPlain {Gl : Gh → Prop} (hst : Stays Gl) {k : Ky} : FS Tryz.prog Gl 82 [.agg (kyAV k)] [] [] (.bool (kindK k.code == 2)) [] [] := by
  refine FS.of hm hst is_otherplain (by simp) fun γ hγ hfr => ?_
  have hky : kyAV k = [.int .i64 k.code, .int .i64 k.mods, .int .i64 k.type, .int .i64 k.shifted, .int .i64 k.base, .str k.text] := rfl
  have c1 := fs_Look (Gl := Gl) hst (c := k.code)
  have hkd : (lookR k.code).kind = kindK k.code := rfl
  rw [ent_eq, hkd] at c1
  simp only [hky]
  (generalize hQ : (fun (ex : Ex) (_ _ : Nat) (s : St) => _) = Q; unfold ir_otherplain)
  simp +contextual (maxSteps := 1000000) only [go_sem, reduceCtorEq, ↓reduceIte, Nat.reduceAdd, Nat.reduceEqDiff]
  (refine CallP.pure (c1) (fun _ => rfl) ?_; simp +contextual (maxSteps := 1000000) only [go_sem, reduceCtorEq, ↓reduceIte, Nat.reduceAdd, Nat.reduceEqDiff])
  rw [← hQ]
  exact ⟨trivial, Ret.flat rfl rfl⟩
theorem fs_oChar {Gl : Gh → Prop} (hst : Stays Gl) {k : Ky} (hmm : k.mods ≤ 9223372036854775807) : FS Tryz.prog Gl 38 [.agg (kyAV k)] [] [] (.tup [.int .i64 (if kindK k.code = 1 ∨ kindK k.code = 2 then charK k else 0), .bool ((kindK k.code == 1) || (kindK k.code == 2))]) [] [] := by
  refine FS.of hm hst is_otherchar (by simp) fun γ hγ hfr => ?_
  have hky : kyAV k = [.int .i64 k.code, .int .i64 k.mods, .int .i64 k.type, .int .i64 k.shifted, .int .i64 k.base, .str k.text] := rfl
  have c1 := fs_Look (Gl := Gl) hst (c := k.code)
  have hkd : (lookR k.code).kind = kindK k.code := rfl
  rw [ent_eq, hkd] at c1
  have c2 := fs_Shown (Gl := Gl) hst (k := k) hmm
  rw [hky] at c2
  simp only [hky]
  (generalize hQ : (fun (ex : Ex) (_ _ : Nat) (s : St) => _) = Q; unfold ir_otherchar)
  simp +contextual (maxSteps := 1000000) only [go_sem, reduceCtorEq, ↓reduceIte, Nat.reduceAdd, Nat.reduceEqDiff]
  (refine CallP.pure (c1) (fun _ => rfl) ?_; simp +contextual (maxSteps := 1000000) only [go_sem, reduceCtorEq, ↓reduceIte, Nat.reduceAdd, Nat.reduceEqDiff])
  by_cases h1 : kindK k.code = 1
  · have q1 : (kindK k.code == 1) = true := beq_iff_eq.2 h1
    have hc : charK k = shownK k := if_pos h1
    simp +contextual (maxSteps := 1000000) only [q1, go_sem, reduceCtorEq, ↓reduceIte, Nat.reduceAdd, Nat.reduceEqDiff]
    (refine CallP.pure (c2) (fun _ => rfl) ?_; simp +contextual (maxSteps := 1000000) only [go_sem, reduceCtorEq, ↓reduceIte, Nat.reduceAdd, Nat.reduceEqDiff])
    rw [← hQ, if_pos (.inl h1), hc, q1]
    exact ⟨trivial, Ret.flatT rfl rfl⟩
  · have q1 : (kindK k.code == 1) = false := beq_eq_false_iff_ne.2 h1
    by_cases h2 : kindK k.code = 2
    · have q2 : (kindK k.code == 2) = true := beq_iff_eq.2 h2
      have hc : charK k = k.code := if_neg h1
      simp +contextual (maxSteps := 1000000) only [q1, q2, go_sem, reduceCtorEq, ↓reduceIte, Nat.reduceAdd, Nat.reduceEqDiff]
      rw [← hQ, if_pos (.inr h2), hc, q1, q2]
      exact ⟨trivial, Ret.flatT rfl rfl⟩
    · have q2 : (kindK k.code == 2) = false := beq_eq_false_iff_ne.2 h2
      simp +contextual (maxSteps := 1000000) only [q1, q2, go_sem, reduceCtorEq, ↓reduceIte, Nat.reduceAdd, Nat.reduceEqDiff]
      rw [← hQ, if_neg (by omega), q1, q2]
      exact ⟨trivial, Ret.flatT rfl rfl⟩
theorem fs_oAll {Gl : Gh → Prop} (hst : Stays Gl) {k : Ky} (h1 : k.mods ≤ 9223372036854775807) : FS Tryz.prog Gl 37 [.agg (kyAV k)] [] [] (.bool (allO k)) [] [] := by
  refine FS.of hm hst is_otherall (by simp) fun γ hγ hfr => ?_
  have hky : kyAV k = [.int .i64 k.code, .int .i64 k.mods, .int .i64 k.type, .int .i64 k.shifted, .int .i64 k.base, .str k.text] := rfl
  have c1 := fs_Old (Gl := Gl) hst (m := k.mods) h1
  have c2 := fs_oPlain (Gl := Gl) hst (k := k)
  have hz : allO k = ((oldK k.mods != 0) && ((kindK k.code == 2) || (oldK k.mods != 1))) := rfl
  rw [hky] at c2
  simp only [hky]
  (generalize hQ : (fun (ex : Ex) (_ _ : Nat) (s : St) => _) = Q; unfold ir_otherall)
  simp +contextual (maxSteps := 1000000) only [go_sem, reduceCtorEq, ↓reduceIte, Nat.reduceAdd, Nat.reduceEqDiff]
  (refine CallP.pure (c1) (fun _ => rfl) ?_; simp +contextual (maxSteps := 1000000) only [go_sem, reduceCtorEq, ↓reduceIte, Nat.reduceAdd, Nat.reduceEqDiff])
  (refine kGc_call (c2) (fun _ => rfl) (fun hgc => ?_) ?_; (focus (first | (rw [Bool.not_eq_true'] at hgc; simp only [List.map_cons, List.map_nil, List.nil_append, List.append_nil, List.cons_append, Xev_t, Xev_c, upd_app, lf_cons, lf_nil, Nat.reduceEqDiff, ↓reduceIte, hgc, Bool.false_eq_true, Bool.true_eq_false, reduceCtorEq]; done) | (simp only [List.map_cons, List.map_nil, List.nil_append, List.append_nil, List.cons_append, Xev_t, Xev_c, upd_app, lf_cons, lf_nil, Nat.reduceEqDiff, ↓reduceIte, hgc, Bool.false_eq_true, Bool.true_eq_false, reduceCtorEq]; done) | (revert hgc; simp +contextual [Xev_t, Xev_c, upd_app, lf_cons, lf_nil]; done) | simp [Xev_t, Xev_c, upd_app, lf_cons, lf_nil])); simp +contextual (maxSteps := 1000000) only [go_sem, reduceCtorEq, ↓reduceIte, Nat.reduceAdd, Nat.reduceEqDiff])
  rw [← hQ, hz]
  exact ⟨trivial, Ret.flat rfl rfl⟩
theorem fs_oFew {Gl : Gh → Prop} (hst : Stays Gl) {k : Ky} (h0 : 0 ≤ k.mods) (h1 : k.mods ≤ 255) : FS Tryz.prog Gl 36 [.agg (kyAV k)] [] [] (.bool (fewO k)) [] [] := by
  refine FS.of hm hst is_otherfew (by simp) fun γ hγ hfr => ?_
  have hky : kyAV k = [.int .i64 k.code, .int .i64 k.mods, .int .i64 k.type, .int .i64 k.shifted, .int .i64 k.base, .str k.text] := rfl
  have c1 := fs_oAll (Gl := Gl) hst (k := k) (by omega)
  have c2 := fs_oPlain (Gl := Gl) hst (k := k)
  have c3 := fs_Shown (Gl := Gl) hst (k := k) (by omega)
  have c4 : FS Tryz.prog Gl 83 [.int .i64 (shownK k)] [] [] (.tup [.int .i64 ((foldK (shownK k)).getD 0), .bool (foldK (shownK k)).isSome]) [] [] := fs_Fold (Gl := Gl) hst
  have q4 : (bits .and .i64 k.mods 4 != 0) = hasK k.mods 4 := hasB h0 h1 2 (by omega)
  have q4' : (bits .and .i64 k.mods 4 == 0) = !hasK k.mods 4 := by rw [← q4, bne, Bool.not_not]
  have q1 : (bits .and .i64 k.mods 1 != 0) = hasK k.mods 1 := hasB h0 h1 0 (by omega)
  have hz : fewO k = (allO k && hasK k.mods 4 && (if kindK k.code = 2 then (k.code == 9) || (k.code == 13) else hasK k.mods 1 || !(foldK (shownK k)).isSome)) := rfl
  rw [hky] at c1 c2 c3
  simp only [hky]
  (generalize hQ : (fun (ex : Ex) (_ _ : Nat) (s : St) => _) = Q; unfold ir_otherfew)
  simp +contextual (maxSteps := 1000000) only [go_sem, reduceCtorEq, ↓reduceIte, Nat.reduceAdd, Nat.reduceEqDiff]
  (refine CallP.pure (c1) (fun _ => rfl) ?_; simp +contextual (maxSteps := 1000000) only [q4', go_sem, reduceCtorEq, ↓reduceIte, Nat.reduceAdd, Nat.reduceEqDiff])
  cases hA : allO k with
  | false =>
    simp +contextual (maxSteps := 1000000) only [hA, go_sem, reduceCtorEq, ↓reduceIte, Nat.reduceAdd, Nat.reduceEqDiff]
    rw [← hQ, hz, hA]
    exact ⟨trivial, Ret.flat rfl rfl⟩
  | true =>
    cases hB : hasK k.mods 4 with
    | false =>
      simp +contextual (maxSteps := 1000000) only [hA, hB, go_sem, reduceCtorEq, ↓reduceIte, Nat.reduceAdd, Nat.reduceEqDiff]
      rw [← hQ, hz, hA, hB]
      exact ⟨trivial, Ret.flat rfl rfl⟩
    | true =>
      simp +contextual (maxSteps := 1000000) only [hA, hB, go_sem, reduceCtorEq, ↓reduceIte, Nat.reduceAdd, Nat.reduceEqDiff]
      (refine CallP.pure (c2) (fun _ => rfl) ?_; simp +contextual (maxSteps := 1000000) only [go_sem, reduceCtorEq, ↓reduceIte, Nat.reduceAdd, Nat.reduceEqDiff])
      by_cases h2 : kindK k.code = 2
      · have q2 : (kindK k.code == 2) = true := beq_iff_eq.2 h2
        simp +contextual (maxSteps := 1000000) only [q2, go_sem, reduceCtorEq, ↓reduceIte, Nat.reduceAdd, Nat.reduceEqDiff]
        rw [← hQ, hz, hA, hB, if_pos h2]
        exact ⟨trivial, Ret.flat rfl rfl⟩
      · have q2 : (kindK k.code == 2) = false := beq_eq_false_iff_ne.2 h2
        simp +contextual (maxSteps := 1000000) only [q2, go_sem, reduceCtorEq, ↓reduceIte, Nat.reduceAdd, Nat.reduceEqDiff]
        (refine CallP.pure (c3) (fun _ => rfl) ?_; simp +contextual (maxSteps := 1000000) only [go_sem, reduceCtorEq, ↓reduceIte, Nat.reduceAdd, Nat.reduceEqDiff])
        (refine CallP.pure (c4) (fun _ => rfl) ?_; simp +contextual (maxSteps := 1000000) only [q1, go_sem, reduceCtorEq, ↓reduceIte, Nat.reduceAdd, Nat.reduceEqDiff])
        rw [← hQ, hz, hA, hB, if_neg h2]
        exact ⟨trivial, Ret.flat rfl rfl⟩
theorem isO_prog (o : Int) (k : Ky) : isO o k = (!((((!((kindK k.code == 1) || (kindK k.code == 2)) || decide (o < 1)) || decide (o > 2)) || !mayK k) || (k.type == 3)) && lvO o k) := by
  have hl : (o < 1 ∨ o > 2) → lvO o k = false := fun h => by unfold lvO; rw [if_neg (by omega), if_neg (by omega)]
  unfold isO
  by_cases h1 : o < 1
  · rw [hl (.inl h1)]; simp
  · by_cases h2 : o > 2
    · rw [hl (.inr h2)]; simp
    · rw [decide_eq_false h1, decide_eq_false h2]
      simp only [bne]
      cases (kindK k.code == 1) <;> cases (kindK k.code == 2) <;> cases mayK k <;> cases (k.type == 3) <;> rfl
set_option maxHeartbeats 4000000 in
theorem fs_oKey {Gl : Gh → Prop} (hst : Stays Gl) {m : Md} {k : Ky} (hmm : k.mods ≤ 9223372036854775807) (ht : k.text.length ≤ 1000000000000) : FS Tryz.prog Gl 20 [.agg (mdAV m), .agg (kyAV k)] [] [] (.tup [.sl none 1 (bytesAV (othK m.other k)), .bool (isO m.other k)]) [] [] := by
  refine FS.ofW hm hst is_otherKey rfl (by simp) fun γ hγ hfr => ?_
  have hky : kyAV k = [.int .i64 k.code, .int .i64 k.mods, .int .i64 k.type, .int .i64 k.shifted, .int .i64 k.base, .str k.text] := rfl
  have hmd : mdAV m = [.bool m.cursor, .bool m.keypad, .bool m.back, .bool m.focus, .bool m.paste, .bool m.lock, .bool m.line, .int .i64 m.mouse, .int .i64 m.coding, .int .i64 m.other] := rfl
  have c1 := fs_oChar (Gl := Gl) hst (k := k) hmm
  have c2 := fs_MayK (Gl := Gl) hst ht
  have c3 := fs_oAll (Gl := Gl) hst (k := k) hmm
  have c4 := fun (M : MayK k) => fs_oFew (Gl := Gl) hst (k := k) M.m0 M.m1
  have c5 := fs_Old (Gl := Gl) hst (m := k.mods) hmm
  have c6 := fs_Param (Gl := Gl) hst (m := oldK k.mods)
  have hold := old_lt k.mods
  rw [show paramK (oldK k.mods) = 1 + oldK k.mods by unfold paramK; split <;> omega] at c6
  have c7 := fun t : Option Nm => fs_NumV (Gl := Gl) hst (pr := 0) (fi := 126) (nums := [27, 1 + oldK k.mods, charK k]) (tn := t) (by simp)
  have hi3 : intsAV [27, 1 + oldK k.mods, charK k] = [[.int .i64 27], [.int .i64 (1 + oldK k.mods)], [.int .i64 (charK k)]] := rfl
  rw [hi3] at c7
  have c8 : MayK k → FS Tryz.prog Gl 40 [.agg [.int .i64 1, .int .u8 0, .sl none 1 (parsAV (([27, 1 + oldK k.mods, charK k] : List Int).map fun n => [n])), .str [], .int .u8 126, .str []]] [] [] (.tup [.sl none 1 (bytesAV (putB (othSq k))), .int .i64 0]) [] [] := fun M => by
    have h := oth_may M
    have := fs_wPut (Gl := Gl) hst (s := othSq k) (by simp [othSq, numSq]) (by simp [othSq, numSq]) (by simp [othSq, numSq]) (by simp [othSq, numSq]) (sm_num (by simp))
    rw [show putV (othSq k) = .sl none 1 (bytesAV (putB (othSq k))) by unfold putV; rw [h]; rfl, h] at this
    exact this
  have hz := isO_prog m.other k
  have hw : othK m.other k = if isO m.other k = true then putB (othSq k) else [] := rfl
  rw [hky] at c1 c2 c3 c4
  simp only [hky, hmd]
  (generalize hQ : (fun (ex : Ex) (_ _ : Nat) (s : St) => _) = Q; unfold ir_otherKey)
  have no : ∀ {γ' c' : Nat} {st : St}, isO m.other k = false → st.F 4 = .nils → st.F 5 = .bool false → Q .ret γ' c' st := by
    intro γ' c' st h h4 h5
    rw [← hQ, hw, h]
    exact ⟨trivial, .inl ⟨.tup [.nils, .bool false], by simp only [resOf, getAll, IRes.get, h4, h5], RepLe.tupL ⟨.nils 1, .refl _, trivial⟩⟩⟩
  simp +contextual (maxSteps := 1000000) only [go_sem, reduceCtorEq, ↓reduceIte, Nat.reduceAdd, Nat.reduceEqDiff, Nat.reduceLeDiff, Nat.reduceMul, Nat.reduceBEq, Int.reduceBEq, Int.reduceBNe, Int.reduceLT, Int.reduceLE, Int.reduceGT, Int.reduceGE, Int.reduceToNat]
  (refine CallP.pure (c1) (fun _ => rfl) ?_; simp +contextual (maxSteps := 1000000) only [go_sem, reduceCtorEq, ↓reduceIte, Nat.reduceAdd, Nat.reduceEqDiff, Nat.reduceLeDiff, Nat.reduceMul, Nat.reduceBEq, Int.reduceBEq, Int.reduceBNe, Int.reduceLT, Int.reduceLE, Int.reduceGT, Int.reduceGE, Int.reduceToNat])
  (refine kGc_call (c2) (fun _ => rfl) (fun hgc => ?_) ?_; (focus (first | (rw [Bool.not_eq_true'] at hgc; simp only [List.map_cons, List.map_nil, List.nil_append, List.append_nil, List.cons_append, Xev_t, Xev_c, upd_app, lf_cons, lf_nil, Nat.reduceEqDiff, ↓reduceIte, hgc, Bool.false_eq_true, Bool.true_eq_false, reduceCtorEq]; done) | (simp only [List.map_cons, List.map_nil, List.nil_append, List.append_nil, List.cons_append, Xev_t, Xev_c, upd_app, lf_cons, lf_nil, Nat.reduceEqDiff, ↓reduceIte, hgc, Bool.false_eq_true, Bool.true_eq_false, reduceCtorEq]; done) | (revert hgc; simp +contextual [Xev_t, Xev_c, upd_app, lf_cons, lf_nil]; done) | simp [Xev_t, Xev_c, upd_app, lf_cons, lf_nil])); simp +contextual (maxSteps := 1000000) only [go_sem, reduceCtorEq, ↓reduceIte, Nat.reduceAdd, Nat.reduceEqDiff, Nat.reduceLeDiff, Nat.reduceMul, Nat.reduceBEq, Int.reduceBEq, Int.reduceBNe, Int.reduceLT, Int.reduceLE, Int.reduceGT, Int.reduceGE, Int.reduceToNat])
  cases hB : ((((!((kindK k.code == 1) || (kindK k.code == 2)) || decide (m.other < 1)) || decide (m.other > 2)) || !mayK k) || (k.type == 3)) with
  | true =>
    simp +contextual (maxSteps := 1000000) only [hB, go_sem, reduceCtorEq, ↓reduceIte, Nat.reduceAdd, Nat.reduceEqDiff, Nat.reduceLeDiff, Nat.reduceMul, Nat.reduceBEq, Int.reduceBEq, Int.reduceBNe, Int.reduceLT, Int.reduceLE, Int.reduceGT, Int.reduceGE, Int.reduceToNat]
    exact no (by rw [hz, hB]; rfl) rfl rfl
  | false =>
    have hB' := hB
    simp only [Bool.or_eq_false_iff, Bool.not_eq_false', decide_eq_false_iff_not, beq_eq_false_iff_ne, Bool.or_eq_true, beq_iff_eq] at hB'
    obtain ⟨⟨⟨⟨hk, ho1⟩, ho2⟩, hmk⟩, ht3⟩ := hB'
    have M := mayK_iff.1 hmk
    have c4 := c4 M
    have c8 := c8 M
    have hz' : isO m.other k = lvO m.other k := by rw [hz, hB]; rfl
    have yes : ∀ {γ' c' : Nat} {st : St}, isO m.other k = true → st.F 4 = .sl none 1 (bytesAV (putB (othSq k))) → st.F 5 = .bool true → Q .ret γ' c' st := by
      intro γ' c' st h h4 h5
      rw [← hQ, hw, h]
      exact ⟨trivial, .inl ⟨.tup [.sl none 1 (bytesAV (putB (othSq k))), .bool true], by simp only [resOf, getAll, IRes.get, h4, h5], RepLe.refl _⟩⟩
    have hch : (if kindK k.code = 1 ∨ kindK k.code = 2 then charK k else 0) = charK k := if_pos hk
    rcases (show m.other = 1 ∨ m.other = 2 by omega) with e | e
    · have hl : lvO m.other k = fewO k := by rw [e]; rfl
      have hwr : IntKind.i64.wrap (m.other - 1) = 0 := by rw [e]; rfl
      cases hC : fewO k with
      | false =>
        rw [hC] at c4
        simp +contextual (maxSteps := 1000000) only [hB, hwr, hch, go_sem, reduceCtorEq, ↓reduceIte, Nat.reduceAdd, Nat.reduceEqDiff, Nat.reduceLeDiff, Nat.reduceMul, Nat.reduceBEq, Int.reduceBEq, Int.reduceBNe, Int.reduceLT, Int.reduceLE, Int.reduceGT, Int.reduceGE, Int.reduceToNat]
        (refine CallP.pure (c4) (fun _ => rfl) ?_; simp +contextual (maxSteps := 1000000) only [go_sem, reduceCtorEq, ↓reduceIte, Nat.reduceAdd, Nat.reduceEqDiff, Nat.reduceLeDiff, Nat.reduceMul, Nat.reduceBEq, Int.reduceBEq, Int.reduceBNe, Int.reduceLT, Int.reduceLE, Int.reduceGT, Int.reduceGE, Int.reduceToNat])
        exact no (by rw [hz', hl, hC]) rfl rfl
      | true =>
        rw [hC] at c4
        simp +contextual (maxSteps := 1000000) only [hB, hwr, hch, go_sem, reduceCtorEq, ↓reduceIte, Nat.reduceAdd, Nat.reduceEqDiff, Nat.reduceLeDiff, Nat.reduceMul, Nat.reduceBEq, Int.reduceBEq, Int.reduceBNe, Int.reduceLT, Int.reduceLE, Int.reduceGT, Int.reduceGE, Int.reduceToNat]
        (refine CallP.pure (c4) (fun _ => rfl) ?_; simp +contextual (maxSteps := 1000000) only [go_sem, reduceCtorEq, ↓reduceIte, Nat.reduceAdd, Nat.reduceEqDiff, Nat.reduceLeDiff, Nat.reduceMul, Nat.reduceBEq, Int.reduceBEq, Int.reduceBNe, Int.reduceLT, Int.reduceLE, Int.reduceGT, Int.reduceGE, Int.reduceToNat])
        (refine CallP.pure (c5) (fun _ => rfl) ?_; simp +contextual (maxSteps := 1000000) only [go_sem, reduceCtorEq, ↓reduceIte, Nat.reduceAdd, Nat.reduceEqDiff, Nat.reduceLeDiff, Nat.reduceMul, Nat.reduceBEq, Int.reduceBEq, Int.reduceBNe, Int.reduceLT, Int.reduceLE, Int.reduceGT, Int.reduceGE, Int.reduceToNat])
        (refine CallP.pure (c6) (fun _ => rfl) ?_; simp +contextual (maxSteps := 1000000) only [go_sem, reduceCtorEq, ↓reduceIte, Nat.reduceAdd, Nat.reduceEqDiff, Nat.reduceLeDiff, Nat.reduceMul, Nat.reduceBEq, Int.reduceBEq, Int.reduceBNe, Int.reduceLT, Int.reduceLE, Int.reduceGT, Int.reduceGE, Int.reduceToNat])
        (refine CallP.pure (c7 _) (fun _ => rfl) ?_; simp +contextual (maxSteps := 1000000) only [go_sem, reduceCtorEq, ↓reduceIte, Nat.reduceAdd, Nat.reduceEqDiff, Nat.reduceLeDiff, Nat.reduceMul, Nat.reduceBEq, Int.reduceBEq, Int.reduceBNe, Int.reduceLT, Int.reduceLE, Int.reduceGT, Int.reduceGE, Int.reduceToNat])
        (refine CallP.pure (c8) (fun _ => rfl) ?_; simp +contextual (maxSteps := 1000000) only [go_sem, reduceCtorEq, ↓reduceIte, Nat.reduceAdd, Nat.reduceEqDiff, Nat.reduceLeDiff, Nat.reduceMul, Nat.reduceBEq, Int.reduceBEq, Int.reduceBNe, Int.reduceLT, Int.reduceLE, Int.reduceGT, Int.reduceGE, Int.reduceToNat])
        exact yes (by rw [hz', hl, hC]) rfl rfl
    · have hl : lvO m.other k = allO k := by rw [e]; rfl
      have hwr : IntKind.i64.wrap (m.other - 1) = 1 := by rw [e]; rfl
      cases hC : allO k with
      | false =>
        rw [hC] at c3
        simp +contextual (maxSteps := 1000000) only [hB, hwr, hch, go_sem, reduceCtorEq, ↓reduceIte, Nat.reduceAdd, Nat.reduceEqDiff, Nat.reduceLeDiff, Nat.reduceMul, Nat.reduceBEq, Int.reduceBEq, Int.reduceBNe, Int.reduceLT, Int.reduceLE, Int.reduceGT, Int.reduceGE, Int.reduceToNat]
        (refine CallP.pure (c3) (fun _ => rfl) ?_; simp +contextual (maxSteps := 1000000) only [go_sem, reduceCtorEq, ↓reduceIte, Nat.reduceAdd, Nat.reduceEqDiff, Nat.reduceLeDiff, Nat.reduceMul, Nat.reduceBEq, Int.reduceBEq, Int.reduceBNe, Int.reduceLT, Int.reduceLE, Int.reduceGT, Int.reduceGE, Int.reduceToNat])
        exact no (by rw [hz', hl, hC]) rfl rfl
      | true =>
        rw [hC] at c3
        simp +contextual (maxSteps := 1000000) only [hB, hwr, hch, go_sem, reduceCtorEq, ↓reduceIte, Nat.reduceAdd, Nat.reduceEqDiff, Nat.reduceLeDiff, Nat.reduceMul, Nat.reduceBEq, Int.reduceBEq, Int.reduceBNe, Int.reduceLT, Int.reduceLE, Int.reduceGT, Int.reduceGE, Int.reduceToNat]
        (refine CallP.pure (c3) (fun _ => rfl) ?_; simp +contextual (maxSteps := 1000000) only [go_sem, reduceCtorEq, ↓reduceIte, Nat.reduceAdd, Nat.reduceEqDiff, Nat.reduceLeDiff, Nat.reduceMul, Nat.reduceBEq, Int.reduceBEq, Int.reduceBNe, Int.reduceLT, Int.reduceLE, Int.reduceGT, Int.reduceGE, Int.reduceToNat])
        (refine CallP.pure (c5) (fun _ => rfl) ?_; simp +contextual (maxSteps := 1000000) only [go_sem, reduceCtorEq, ↓reduceIte, Nat.reduceAdd, Nat.reduceEqDiff, Nat.reduceLeDiff, Nat.reduceMul, Nat.reduceBEq, Int.reduceBEq, Int.reduceBNe, Int.reduceLT, Int.reduceLE, Int.reduceGT, Int.reduceGE, Int.reduceToNat])
        (refine CallP.pure (c6) (fun _ => rfl) ?_; simp +contextual (maxSteps := 1000000) only [go_sem, reduceCtorEq, ↓reduceIte, Nat.reduceAdd, Nat.reduceEqDiff, Nat.reduceLeDiff, Nat.reduceMul, Nat.reduceBEq, Int.reduceBEq, Int.reduceBNe, Int.reduceLT, Int.reduceLE, Int.reduceGT, Int.reduceGE, Int.reduceToNat])
        (refine CallP.pure (c7 _) (fun _ => rfl) ?_; simp +contextual (maxSteps := 1000000) only [go_sem, reduceCtorEq, ↓reduceIte, Nat.reduceAdd, Nat.reduceEqDiff, Nat.reduceLeDiff, Nat.reduceMul, Nat.reduceBEq, Int.reduceBEq, Int.reduceBNe, Int.reduceLT, Int.reduceLE, Int.reduceGT, Int.reduceGE, Int.reduceToNat])
        (refine CallP.pure (c8) (fun _ => rfl) ?_; simp +contextual (maxSteps := 1000000) only [go_sem, reduceCtorEq, ↓reduceIte, Nat.reduceAdd, Nat.reduceEqDiff, Nat.reduceLeDiff, Nat.reduceMul, Nat.reduceBEq, Int.reduceBEq, Int.reduceBNe, Int.reduceLT, Int.reduceLE, Int.reduceGT, Int.reduceGE, Int.reduceToNat])
        exact yes (by rw [hz', hl, hC]) rfl rfl
end Go.Proofs.YtbepihadhmfklaaGreatDoor

namespace Go.Proofs.YtbepihadhmfklaaGreatDoor
open Go Go.Ab
def ir_boardClears : ICode :=
 (.seq
 (.reg [⟨some 2, none, .mov (.c (.bool false))⟩] (some [0]))
 (.seq
 (.reg [⟨some 3, none, .mov (.t 0)⟩,
 ⟨some 4, none, .mm false (.t 3) (.c (.int .i64 0))⟩,
 ⟨some 5, none, .bin .and .none (.t 4) (.c (.int .i64 9))⟩,
 ⟨some 6, none, .bin .neq .none (.t 5) (.c (.int .i64 0))⟩,
 ⟨some 2, none, .mov (.t 6)⟩] (some [2]))
 .ret))
theorem is_boardClears : IrOf Tryz.prog 15 7 ir_boardClears [.t 2] := ⟨_, Tryz.func15, rfl, by kernel_rfl, by kernel_rfl, by kernel_rfl⟩

def ir_boardKey1 : ICode :=
 (.seq
 (.reg [⟨some 2, none, .mov (.c .nils)⟩] (some [0, 1]))
 (.seq
 (.reg [⟨some 3, none, .ld none (.t 0)⟩,
 ⟨some 4, none, .ld (some 6) (.t 1)⟩,
 ⟨some 5, none, .call (.c (.fn (.func 28) [] [])) [(.t 3), (.t 4)]⟩,
 ⟨some 2, none, .mov (.t 5)⟩] (some [2]))
 .ret))
theorem is_boardKey1 : IrOf Tryz.prog 27 6 ir_boardKey1 [.t 2] := ⟨_, Tryz.func27, rfl, by kernel_rfl, by kernel_rfl, by kernel_rfl⟩

def ir_boardKey2 : ICode :=
 (.seq
 (.reg [⟨some 2, none, .mov (.c .nils)⟩] (some [0, 1]))
 (.seq
 (.seq
 (.reg [⟨some 6, none, .ld (some 10) (.t 0)⟩,
 ⟨some 7, none, .ld (some 6) (.t 1)⟩,
 ⟨some 8, none, .call (.c (.fn (.func 20) [] [])) [(.t 6), (.t 7)]⟩,
 ⟨some 5, none, .mov (.t 8)⟩,
 ⟨some 9, none, .ext (.t 5) 0⟩,
 ⟨some 10, none, .ext (.t 5) 1⟩,
 ⟨some 3, none, .mov (.t 9)⟩,
 ⟨some 4, none, .mov (.t 10)⟩] (some [0, 1, 3, 4]))
 (.seq
 (.reg [⟨some 11, none, .mov (.t 4)⟩] (some [0, 1, 3, 11]))
 (.cond (.t 11)
 (.seq
 (.reg [⟨some 12, none, .mov (.t 3)⟩,
 ⟨some 2, none, .mov (.t 12)⟩] (some [2]))
 .ret)
 .skip)))
 (.seq
 (.reg [⟨some 13, none, .ld (some 10) (.t 0)⟩,
 ⟨some 14, none, .ld (some 6) (.t 1)⟩,
 ⟨some 15, none, .call (.c (.fn (.func 30) [] [])) [(.t 13), (.t 14)]⟩,
 ⟨some 2, none, .mov (.t 15)⟩] (some [2]))
 .ret)))
theorem is_boardKey2 : IrOf Tryz.prog 29 16 ir_boardKey2 [.t 2] := ⟨_, Tryz.func29, rfl, by kernel_rfl, by kernel_rfl, by kernel_rfl⟩

def ir_boardKey : ICode :=
 (.seq
 (.reg [⟨some 3, none, .box 23 (.t 0)⟩,
 ⟨some 4, none, .box 3 (.t 1)⟩,
 ⟨some 5, none, .box 25 (.t 2)⟩,
 ⟨some 6, none, .mov (.c .nils)⟩] (some [3, 4, 5]))
 (.seq
 (.seq
 (.reg [⟨some 8, none, .fa 5 (.t 3)⟩,
 ⟨some 9, none, .ld none (.t 8)⟩] (some [3, 4, 5, 9]))
 (.cond (.t 9)
 (.seq
 (.reg [⟨some 6, none, .mov (.c .nils)⟩] (some [6]))
 .ret)
 .skip))
 (.seq
 (.reg [⟨some 10, none, .mkm⟩,
 ⟨some 11, none, .mkf (.func 27) [] [(.t 4), (.t 5)]⟩,
 ⟨none, none, .ins .bool (.t 10) (.c (.bool true)) (.t 11)⟩,
 ⟨some 12, none, .mkf (.func 29) [] [(.t 3), (.t 5)]⟩,
 ⟨none, none, .ins .bool (.t 10) (.c (.bool false)) (.t 12)⟩,
 ⟨some 13, none, .mov (.t 10)⟩,
 ⟨some 7, none, .mov (.t 13)⟩] (some [4, 7]))
 (.seq
 (.reg [⟨some 14, none, .mov (.t 7)⟩,
 ⟨some 15, none, .ld none (.t 4)⟩,
 ⟨some 16, none, .call (.c (.fn (.func 15) [] [])) [(.t 15)]⟩,
 ⟨some 17, none, .lkp .bool .nilf false (.t 14) (.t 16)⟩,
 ⟨some 18, none, .call (.t 17) []⟩,
 ⟨some 6, none, .mov (.t 18)⟩] (some [6]))
 .ret))))
theorem is_boardKey : IrOf Tryz.prog 13 19 ir_boardKey [.t 6] := ⟨_, Tryz.func13, rfl, by kernel_rfl, by kernel_rfl, by kernel_rfl⟩

theorem fe_bool {a b : Bool} {v : AV} {es : List (AV × AV)} : findE .bool (.bool a) ((.bool b, v) :: es) = if (a == b) = true then some (some v) else findE .bool (.bool a) es := by
  simp only [findE, keyEq, if_true]
  cases (a == b) <;> rfl
theorem isKey_bool {a : Bool} : (isKey .bool (.bool a) = true) = True := by simp [isKey]
theorem CallP.peek {P : Program} {Gl : Gh → Prop} {k : FuncId} {args : List AV} {H H0 : Hp} {T : Tk} {f : Nat → Nm} {K : AV → Hp → Tk → Prop} {r : AV} (h : FS P Gl k args H0 [] r H0 []) (hr : ∀ f, Ab.rn f r = r) (hH : ∀ p ∈ H0, p ∈ H) (hK : ∀ H', K r H' T) : CallP P Gl k args H T f K := by
  refine ⟨H0, [], _, h, hH, by simp, ?_⟩
  rintro r' H1 T1 ⟨rfl, rfl, rfl⟩
  refine ⟨_, T, fun p hp => hp, fun s hs => .inr ⟨hs, by simp⟩, ?_⟩
  rw [hr]
  exact hK _
theorem and9 {m : Int} (hm : m ≤ 9223372036854775807) : (bits .and .i64 (max m 0) 9 != 0) = clearsK m := by
  obtain ⟨n, hn⟩ := Int.eq_ofNat_of_zero_le (show 0 ≤ max m 0 by omega)
  unfold clearsK hasK
  have h : n &&& 9 = n % 2 + n / 8 % 2 * 8 := by
    have e : n &&& 9 = (n % 16) &&& 9 := by rw [show (16 : Nat) = 2 ^ 4 from rfl, ← Nat.and_two_pow_sub_one_eq_mod, Nat.and_assoc]; rfl
    have key : ∀ i : Fin 16, i.val &&& 9 = i.val % 2 + i.val / 8 % 2 * 8 := by decide
    have := key ⟨n % 16, Nat.mod_lt _ (by omega)⟩
    simp only at this
    rw [e, this]
    omega
  rw [hn, show (9 : Int) = ((9 : Nat) : Int) from rfl, and_i64 (by omega) (by omega), h, Bool.eq_iff_iff]
  simp only [bne_iff_ne, Bool.or_eq_true, decide_eq_true_eq]
  omega
theorem fs_bClears {Gl : Gh → Prop} (hst : Stays Gl) {fl : Int} (h : fl ≤ 9223372036854775807) : FS Tryz.prog Gl 15 [.int .i64 fl] [] [] (.bool (clearsK fl)) [] [] := by
  refine FS.of hm hst is_boardClears (by simp) fun γ hγ hfr => ?_
  have hq := and9 h
  (generalize hQ : (fun (ex : Ex) (_ _ : Nat) (s : St) => _) = Q; unfold ir_boardClears)
  simp +contextual (maxSteps := 1000000) only [maxE, hq, go_sem, reduceCtorEq, ↓reduceIte, Nat.reduceAdd, Nat.reduceEqDiff]
  rw [← hQ]
  exact ⟨trivial, Ret.flat rfl rfl⟩
theorem rdAB {a b : Nm} {xs ys : List AV} (ha : 1 ≤ a.1) (hb : 1 ≤ b.1) (hx : ∀ f, rnL f xs = xs) (hy : ∀ f, rnL f ys = ys) (ox : AV.okInL 0 [a, b] [] xs) (oy : AV.okInL 0 [a, b] [] ys) : Rd [(a, .cells xs), (b, .cells ys)] := by
  have h : ¬(a.1 = 0 ∧ a.2.1 = 0) := fun h => by omega
  have h2 : ¬(b.1 = 0 ∧ b.2.1 = 0) := fun h => by omega
  refine ⟨fun f => ?_, fun p hp => ?_⟩
  · simp [rnH, rnN, rnHB, hx, hy, h, h2]
  · simp only [List.mem_cons, List.not_mem_nil, or_false] at hp
    rcases hp with rfl | rfl
    · exact ⟨by simp [nmOK, h], ox⟩
    · exact ⟨by simp [nmOK, h2], oy⟩
theorem fs_bKey1 {Gl : Gh → Prop} (hst : Stays Gl) {k : Ky} {fl : Int} {a b : Nm} (ha : 1 ≤ a.1) (hb : 1 ≤ b.1) (hab : a ≠ b) (hfl : fl ≤ 9223372036854775807) (ht : k.text.length ≤ 1000000000000) : FS Tryz.prog Gl 27 [.ptr a 0, .ptr b 0] [(a, .cells [.int .i64 fl]), (b, .cells (kyAV k))] [] (.sl none 1 (bytesAV (keyK fl k))) [(a, .cells [.int .i64 fl]), (b, .cells (kyAV k))] [] := by
  refine FS.of hm hst is_boardKey1 (by simp) fun γ hγ hfr => ?_
  have hky : kyAV k = [.int .i64 k.code, .int .i64 k.mods, .int .i64 k.type, .int .i64 k.shifted, .int .i64 k.base, .str k.text] := rfl
  have c1 := fs_Key (Gl := Gl) hst (k := k) hfl ht
  have hne : (a = b) = False := eq_false hab
  have hne' : (b = a) = False := eq_false fun e => hab e.symm
  have hrd : Rd [(a, .cells [.int .i64 fl]), (b, .cells (kyAV k))] := rdAB ha hb (fun _ => rfl) (fun _ => rfl) ⟨trivial, trivial⟩ ⟨trivial, trivial, trivial, trivial, trivial, trivial, trivial⟩
  rw [hky] at c1
  (generalize hQ : (fun (ex : Ex) (_ _ : Nat) (s : St) => _) = Q; unfold ir_boardKey1)
  simp +contextual (maxSteps := 1000000) only [hky, hne, hne', go_sem, reduceCtorEq, ↓reduceIte, Nat.reduceAdd, Nat.reduceEqDiff]
  (refine CallP.pure (c1) (fun _ => rfl) ?_; simp +contextual (maxSteps := 1000000) only [go_sem, reduceCtorEq, ↓reduceIte, Nat.reduceAdd, Nat.reduceEqDiff])
  rw [← hQ]
  exact ⟨trivial, Ret.reads hrd rfl rfl (by simp [hky])⟩
theorem fs_bKey2 {Gl : Gh → Prop} (hst : Stays Gl) {m : Md} {k : Ky} {a b : Nm} (ha : 1 ≤ a.1) (hb : 1 ≤ b.1) (hab : a ≠ b) (hmm : k.mods ≤ 9223372036854775807) (ht : k.text.length ≤ 1000000000000) : FS Tryz.prog Gl 29 [.ptr a 0, .ptr b 0] [(a, .cells (mdAV m)), (b, .cells (kyAV k))] [] (.sl none 1 (bytesAV (if isO m.other k = true then putB (othSq k) else legK m k))) [(a, .cells (mdAV m)), (b, .cells (kyAV k))] [] := by
  refine FS.of hm hst is_boardKey2 (by simp) fun γ hγ hfr => ?_
  have hky : kyAV k = [.int .i64 k.code, .int .i64 k.mods, .int .i64 k.type, .int .i64 k.shifted, .int .i64 k.base, .str k.text] := rfl
  have hmd : mdAV m = [.bool m.cursor, .bool m.keypad, .bool m.back, .bool m.focus, .bool m.paste, .bool m.lock, .bool m.line, .int .i64 m.mouse, .int .i64 m.coding, .int .i64 m.other] := rfl
  have c1 := fs_oKey (Gl := Gl) hst (m := m) (k := k) hmm ht
  have c2 := fs_legKey (Gl := Gl) hst (m := m) (k := k) ht
  have hne : (a = b) = False := eq_false hab
  have hne' : (b = a) = False := eq_false fun e => hab e.symm
  have hrd : Rd [(a, .cells (mdAV m)), (b, .cells (kyAV k))] := rdAB ha hb (fun _ => rfl) (fun _ => rfl) ⟨trivial, trivial, trivial, trivial, trivial, trivial, trivial, trivial, trivial, trivial, trivial⟩ ⟨trivial, trivial, trivial, trivial, trivial, trivial, trivial⟩
  have hw : othK m.other k = if isO m.other k = true then putB (othSq k) else [] := rfl
  rw [hky, hmd] at c1 c2
  (generalize hQ : (fun (ex : Ex) (_ _ : Nat) (s : St) => _) = Q; unfold ir_boardKey2)
  simp +contextual (maxSteps := 1000000) only [hky, hmd, hne, hne', go_sem, reduceCtorEq, ↓reduceIte, Nat.reduceAdd, Nat.reduceEqDiff]
  (refine CallP.pure (c1) (fun _ => rfl) ?_; simp +contextual (maxSteps := 1000000) only [go_sem, reduceCtorEq, ↓reduceIte, Nat.reduceAdd, Nat.reduceEqDiff])
  cases hO : isO m.other k with
  | true =>
    rw [hO, if_pos rfl] at hw
    simp +contextual (maxSteps := 1000000) only [hO, go_sem, reduceCtorEq, ↓reduceIte, Nat.reduceAdd, Nat.reduceEqDiff]
    rw [← hQ, hw, hO, if_pos rfl]
    exact ⟨trivial, Ret.reads hrd rfl rfl (by simp [hky, hmd])⟩
  | false =>
    simp +contextual (maxSteps := 1000000) only [hO, hne, hne', go_sem, reduceCtorEq, ↓reduceIte, Nat.reduceAdd, Nat.reduceEqDiff]
    (refine CallP.pure (c2) (fun _ => rfl) ?_; simp +contextual (maxSteps := 1000000) only [go_sem, reduceCtorEq, ↓reduceIte, Nat.reduceAdd, Nat.reduceEqDiff])
    rw [← hQ, hO, if_neg (by simp)]
    exact ⟨trivial, Ret.reads hrd rfl rfl (by simp [hky, hmd])⟩
set_option maxHeartbeats 4000000 in
theorem fs_bKey {Gl : Gh → Prop} (hst : Stays Gl) {m : Md} {k : Ky} {fl : Int} (hfl : fl ≤ 9223372036854775807) (hmm : k.mods ≤ 9223372036854775807) (ht : k.text.length ≤ 1000000000000) : FS Tryz.prog Gl 13 [.agg (mdAV m), .int .i64 fl, .agg (kyAV k)] [] [] (.sl none 1 (bytesAV (boardK m fl k))) [] [] := by
  refine FS.ofW hm hst is_boardKey rfl (by simp) fun γ hγ hfr => ?_
  have hky : kyAV k = [.int .i64 k.code, .int .i64 k.mods, .int .i64 k.type, .int .i64 k.shifted, .int .i64 k.base, .str k.text] := rfl
  have hmd : mdAV m = [.bool m.cursor, .bool m.keypad, .bool m.back, .bool m.focus, .bool m.paste, .bool m.lock, .bool m.line, .int .i64 m.mouse, .int .i64 m.coding, .int .i64 m.other] := rfl
  have hz : boardK m fl k = if m.lock = true then [] else if clearsK fl = true then keyK fl k else if isO m.other k = true then putB (othSq k) else legK m k := rfl
  have c1 := fs_bClears (Gl := Gl) hst hfl
  have c2 := fs_bKey1 (Gl := Gl) hst (k := k) (fl := fl) (a := (γ, 1, 0)) (b := (γ, 2, 0)) hγ hγ (by simp) hfl ht
  have c3 := fs_bKey2 (Gl := Gl) hst (m := m) (k := k) (a := (γ, 0, 0)) (b := (γ, 2, 0)) hγ hγ (by simp) hmm ht
  rw [hky] at c2 c3
  rw [hmd] at c3
  simp only [hky, hmd]
  (generalize hQ : (fun (ex : Ex) (_ _ : Nat) (s : St) => _) = Q; unfold ir_boardKey)
  simp +contextual (maxSteps := 1000000) only [go_sem, reduceCtorEq, ↓reduceIte, Nat.reduceAdd, Nat.reduceEqDiff]
  cases hl : m.lock with
  | true =>
    simp +contextual (maxSteps := 1000000) only [hl, go_sem, reduceCtorEq, ↓reduceIte, Nat.reduceAdd, Nat.reduceEqDiff]
    rw [← hQ, hz, hl]
    exact ⟨trivial, .inl ⟨_, rfl, RepLe.nils 1⟩⟩
  | false =>
    rw [hl] at c3
    cases hC : clearsK fl with
    | true =>
      rw [hC] at c1
      simp +contextual (maxSteps := 1000000) only [hl, fe_nil, fe_bool, isKey_bool, go_sem, reduceCtorEq, ↓reduceIte, Nat.reduceAdd, Nat.reduceEqDiff]
      (refine CallP.pure (c1) (fun _ => rfl) ?_; simp +contextual (maxSteps := 1000000) only [fe_nil, fe_bool, isKey_bool, go_sem, reduceCtorEq, ↓reduceIte, Nat.reduceAdd, Nat.reduceEqDiff])
      refine CallP.peek c2 (fun _ => rfl) (by simp) fun H' => ?_
      simp +contextual (maxSteps := 1000000) only [go_sem, reduceCtorEq, ↓reduceIte, Nat.reduceAdd, Nat.reduceEqDiff]
      rw [← hQ, hz, hl, hC]
      exact ⟨trivial, .inl ⟨_, rfl, RepLe.refl _⟩⟩
    | false =>
      rw [hC] at c1
      simp +contextual (maxSteps := 1000000) only [hl, fe_nil, fe_bool, isKey_bool, go_sem, reduceCtorEq, ↓reduceIte, Nat.reduceAdd, Nat.reduceEqDiff]
      (refine CallP.pure (c1) (fun _ => rfl) ?_; simp +contextual (maxSteps := 1000000) only [fe_nil, fe_bool, isKey_bool, go_sem, reduceCtorEq, ↓reduceIte, Nat.reduceAdd, Nat.reduceEqDiff])
      refine CallP.peek c3 (fun _ => rfl) (by simp) fun H' => ?_
      simp +contextual (maxSteps := 1000000) only [go_sem, reduceCtorEq, ↓reduceIte, Nat.reduceAdd, Nat.reduceEqDiff]
      rw [← hQ, hz, hl, hC]
      exact ⟨trivial, .inl ⟨_, rfl, RepLe.refl _⟩⟩
end Go.Proofs.YtbepihadhmfklaaGreatDoor

namespace Go.Proofs.YtbepihadhmfklaaGreatDoor
open Go Go.Ab
def ir_clavierlaw14awake : ICode :=
 (.seq
 (.reg [⟨some 0, none, .mov (.c (.bool false))⟩] (some []))
 (.seq
 (.reg [⟨some 2, none, .bld [(.int .i64 0), (.int .i64 0), (.int .i64 0), (.int .i64 0), (.int .i64 0), (.str [])] [(0, 1, (.c (.int .i64 99))), (1, 1, (.c (.int .i64 4))), (2, 1, (.c (.int .i64 1)))]⟩,
 ⟨some 1, none, .box 25 (.c (.agg [(.int .i64 0), (.int .i64 0), (.int .i64 0), (.int .i64 0), (.int .i64 0), (.str [])]))⟩,
 ⟨none, none, .st 6 (.t 1) (.t 2)⟩] (some [1]))
 (.seq
 (.reg [⟨some 3, none, .bld [(.bool false), (.bool false), (.bool false), (.bool false), (.bool false), (.bool false), (.bool false), (.int .i64 0), (.int .i64 0), (.int .i64 0)] []⟩,
 ⟨some 4, none, .ld (some 6) (.t 1)⟩,
 ⟨some 5, none, .call (.c (.fn (.func 13) [] [])) [(.t 3), (.c (.int .i64 0)), (.t 4)]⟩,
 ⟨some 6, none, .b2s (.t 5)⟩,
 ⟨some 7, none, .bin .eql .none (.t 6) (.c (.str [3]))⟩,
 ⟨some 8, none, .mov (.t 7)⟩,
 ⟨some 9, some (8, true), .bld [(.bool false), (.bool false), (.bool false), (.bool false), (.bool false), (.bool false), (.bool false), (.int .i64 0), (.int .i64 0), (.int .i64 0)] [(9, 1, (.c (.int .i64 2)))]⟩,
 ⟨some 10, some (8, true), .ld (some 6) (.t 1)⟩,
 ⟨some 11, some (8, true), .call (.c (.fn (.func 13) [] [])) [(.t 9), (.c (.int .i64 0)), (.t 10)]⟩,
 ⟨some 12, some (8, true), .b2s (.t 11)⟩,
 ⟨some 13, some (8, true), .bin .eql .none (.t 12) (.c (.str [27, 91, 50, 55, 59, 53, 59, 57, 57, 126]))⟩,
 ⟨some 14, none, .pick (.t 8) (.t 13) (.c (.bool false))⟩,
 ⟨some 15, none, .mov (.t 14)⟩,
 ⟨some 16, some (15, true), .bld [(.bool false), (.bool false), (.bool false), (.bool false), (.bool false), (.bool false), (.bool false), (.int .i64 0), (.int .i64 0), (.int .i64 0)] [(9, 1, (.c (.int .i64 2)))]⟩,
 ⟨some 17, some (15, true), .ld (some 6) (.t 1)⟩,
 ⟨some 18, some (15, true), .call (.c (.fn (.func 13) [] [])) [(.t 16), (.c (.int .i64 1)), (.t 17)]⟩,
 ⟨some 19, some (15, true), .b2s (.t 18)⟩,
 ⟨some 20, some (15, true), .bin .eql .none (.t 19) (.c (.str [27, 91, 57, 57, 59, 53, 117]))⟩,
 ⟨some 21, none, .pick (.t 15) (.t 20) (.c (.bool false))⟩,
 ⟨some 22, none, .mov (.t 21)⟩,
 ⟨some 23, some (22, true), .bld [(.bool false), (.bool false), (.bool false), (.bool false), (.bool false), (.bool false), (.bool false), (.int .i64 0), (.int .i64 0), (.int .i64 0)] [(5, 1, (.c (.bool true)))]⟩,
 ⟨some 24, some (22, true), .ld (some 6) (.t 1)⟩,
 ⟨some 25, some (22, true), .call (.c (.fn (.func 13) [] [])) [(.t 23), (.c (.int .i64 1)), (.t 24)]⟩,
 ⟨some 26, some (22, true), .len (.t 25)⟩,
 ⟨some 27, some (22, true), .bin .eql .none (.t 26) (.c (.int .i64 0))⟩,
 ⟨some 28, none, .pick (.t 22) (.t 27) (.c (.bool false))⟩,
 ⟨some 29, none, .mov (.t 28)⟩,
 ⟨some 30, some (29, true), .call (.c (.fn (.func 15) [] [])) [(.c (.int .i64 9))]⟩,
 ⟨some 31, none, .pick (.t 29) (.t 30) (.c (.bool false))⟩,
 ⟨some 32, none, .mov (.t 31)⟩,
 ⟨some 33, some (32, true), .call (.c (.fn (.func 15) [] [])) [(.c (.int .i64 6))]⟩,
 ⟨some 34, some (32, true), .un .not (.t 33)⟩,
 ⟨some 35, none, .pick (.t 32) (.t 34) (.c (.bool false))⟩,
 ⟨some 0, none, .mov (.t 35)⟩] (some [0]))
 .ret)))
theorem is_clavierlaw14awake : IrOf Tryz.prog 12 36 ir_clavierlaw14awake [.t 0] := ⟨_, Tryz.func12, rfl, by kernel_rfl, by kernel_rfl, by kernel_rfl⟩

def MdB : Md := ⟨false, false, false, false, false, false, false, 0, 0, 0⟩
theorem brd_a : boardK MdB 0 ⟨99, 4, 1, 0, 0, []⟩ = [3] := by decide +kernel
theorem brd_b : boardK { MdB with other := 2 } 0 ⟨99, 4, 1, 0, 0, []⟩ = [27, 91, 50, 55, 59, 53, 59, 57, 57, 126] := by decide +kernel
theorem brd_c : boardK { MdB with other := 2 } 1 ⟨99, 4, 1, 0, 0, []⟩ = [27, 91, 57, 57, 59, 53, 117] := by decide +kernel
theorem brd_d : boardK { MdB with lock := true } 1 ⟨99, 4, 1, 0, 0, []⟩ = [] := by decide +kernel
theorem fs_awake14 {Gl : Gh → Prop} (hst : Stays Gl) : FS Tryz.prog Gl 12 [] [] [] (.bool true) [] [] := by
  refine FS.of hm hst is_clavierlaw14awake (by simp) fun γ hγ hfr => ?_
  have c1 := fs_bKey (Gl := Gl) hst (m := MdB) (fl := 0) (k := ⟨99, 4, 1, 0, 0, []⟩) (by simp) (by simp) (by simp)
  have c2 := fs_bKey (Gl := Gl) hst (m := { MdB with other := 2 }) (fl := 0) (k := ⟨99, 4, 1, 0, 0, []⟩) (by simp) (by simp) (by simp)
  have c3 := fs_bKey (Gl := Gl) hst (m := { MdB with other := 2 }) (fl := 1) (k := ⟨99, 4, 1, 0, 0, []⟩) (by simp) (by simp) (by simp)
  have c4 := fs_bKey (Gl := Gl) hst (m := { MdB with lock := true }) (fl := 1) (k := ⟨99, 4, 1, 0, 0, []⟩) (by simp) (by simp) (by simp)
  have c5 := fs_bClears (Gl := Gl) hst (fl := 9) (by simp)
  have c6 := fs_bClears (Gl := Gl) hst (fl := 6) (by simp)
  rw [show clearsK 9 = true by decide] at c5
  rw [show clearsK 6 = false by decide] at c6
  rw [brd_a] at c1
  rw [brd_b] at c2
  rw [brd_c] at c3
  rw [brd_d] at c4
  simp only [kyAV, mdAV, MdB] at c1 c2 c3 c4
  (generalize hQ : (fun (ex : Ex) (_ _ : Nat) (s : St) => _) = Q; unfold ir_clavierlaw14awake)
  simp +contextual (maxSteps := 1000000) only [go_sem, reduceCtorEq, ↓reduceIte, Nat.reduceAdd, Nat.reduceEqDiff, Nat.reduceLeDiff, Nat.reduceMul, Nat.reduceBEq, Int.reduceBEq, Int.reduceBNe, Int.reduceLT, Int.reduceLE, Int.reduceGT, Int.reduceGE, Int.reduceToNat]
  (refine CallP.pure (c1) (fun _ => rfl) ?_; simp +contextual (maxSteps := 1000000) only [bb_un, bb_is, go_sem, reduceCtorEq, ↓reduceIte, Nat.reduceAdd, Nat.reduceEqDiff, Nat.reduceLeDiff, Nat.reduceMul, Nat.reduceBEq, Int.reduceBEq, Int.reduceBNe, Int.reduceLT, Int.reduceLE, Int.reduceGT, Int.reduceGE, Int.reduceToNat])
  (refine CallP.pure (c2) (fun _ => rfl) ?_; simp +contextual (maxSteps := 1000000) only [bb_un, bb_is, go_sem, reduceCtorEq, ↓reduceIte, Nat.reduceAdd, Nat.reduceEqDiff, Nat.reduceLeDiff, Nat.reduceMul, Nat.reduceBEq, Int.reduceBEq, Int.reduceBNe, Int.reduceLT, Int.reduceLE, Int.reduceGT, Int.reduceGE, Int.reduceToNat])
  (refine CallP.pure (c3) (fun _ => rfl) ?_; simp +contextual (maxSteps := 1000000) only [bb_un, bb_is, go_sem, reduceCtorEq, ↓reduceIte, Nat.reduceAdd, Nat.reduceEqDiff, Nat.reduceLeDiff, Nat.reduceMul, Nat.reduceBEq, Int.reduceBEq, Int.reduceBNe, Int.reduceLT, Int.reduceLE, Int.reduceGT, Int.reduceGE, Int.reduceToNat])
  (refine CallP.pure (c4) (fun _ => rfl) ?_; simp +contextual (maxSteps := 1000000) only [bb_un, bb_is, bytesAV_length', go_sem, reduceCtorEq, ↓reduceIte, Nat.reduceAdd, Nat.reduceEqDiff, Nat.reduceLeDiff, Nat.reduceMul, Nat.reduceBEq, Int.reduceBEq, Int.reduceBNe, Int.reduceLT, Int.reduceLE, Int.reduceGT, Int.reduceGE, Int.reduceToNat])
  (refine CallP.pure (c5) (fun _ => rfl) ?_; simp +contextual (maxSteps := 1000000) only [go_sem, reduceCtorEq, ↓reduceIte, Nat.reduceAdd, Nat.reduceEqDiff, Nat.reduceLeDiff, Nat.reduceMul, Nat.reduceBEq, Int.reduceBEq, Int.reduceBNe, Int.reduceLT, Int.reduceLE, Int.reduceGT, Int.reduceGE, Int.reduceToNat])
  (refine CallP.pure (c6) (fun _ => rfl) ?_; simp +contextual (maxSteps := 1000000) only [go_sem, reduceCtorEq, ↓reduceIte, Nat.reduceAdd, Nat.reduceEqDiff, Nat.reduceLeDiff, Nat.reduceMul, Nat.reduceBEq, Int.reduceBEq, Int.reduceBNe, Int.reduceLT, Int.reduceLE, Int.reduceGT, Int.reduceGE, Int.reduceToNat])
  rw [← hQ]
  exact ⟨trivial, Ret.flat rfl rfl⟩
end Go.Proofs.YtbepihadhmfklaaGreatDoor

