/- Whether a sequence may be (layer 3 of the program): its shape, and all. -/
import Derived.Test.YtgdgfefojfgpaaaDoorA10
set_option linter.unusedVariables false
set_option linter.unusedSimpArgs false
set_option maxRecDepth 100000
namespace Go.Proofs.YtgdgfefojfgpaaaDoor
open Go Go.Ab
/-- strings.ContainsRune -/
def ir_stringsContainsRune : ICode :=
 (.seq
  (.reg [⟨some 4, none, .mov (.c (.bool false))⟩] (some [0, 1]))
  (.seq
   (.reg [⟨some 5, none, .mov (.t 0)⟩,
     ⟨some 6, none, .mov (.t 1)⟩,
     ⟨some 7, none, .call (.c (.fn (.func 34) [] [])) [(.t 5), (.t 6)]⟩,
     ⟨some 8, none, .bin .geq .none (.t 7) (.c (.int .i64 0))⟩,
     ⟨some 4, none, .mov (.t 8)⟩] (some [4]))
   .ret))
theorem is_stringsContainsRune : IrOf Tryd.prog 29 9 ir_stringsContainsRune [.t 4] := ⟨_, Tryd.func29, rfl, by kernel_rfl, by kernel_rfl, by kernel_rfl⟩

/-- clavier/wire.shaped -/
def ir_wireshaped : ICode :=
 (.seq
  (.reg [⟨some 1, none, .box 32 (.t 0)⟩,
    ⟨some 2, none, .mov (.c (.bool false))⟩] (some [1]))
  (.seq
   (.reg [⟨some 5, none, .fa 1 (.t 1)⟩,
     ⟨some 6, none, .ld none (.t 5)⟩,
     ⟨some 7, none, .bin .eql .none (.t 6) (.c (.int .u8 0))⟩,
     ⟨some 8, none, .mov (.t 7)⟩,
     ⟨some 9, some (8, true), .fa 2 (.t 1)⟩,
     ⟨some 10, some (8, true), .ld none (.t 9)⟩,
     ⟨some 11, some (8, true), .len (.t 10)⟩,
     ⟨some 12, some (8, true), .bin .eql .none (.t 11) (.c (.int .i64 0))⟩,
     ⟨some 13, none, .pick (.t 8) (.t 12) (.c (.bool false))⟩,
     ⟨some 3, none, .mov (.t 13)⟩] (some [1, 3]))
   (.seq
    (.seq
     (.reg [⟨some 14, none, .fa 0 (.t 1)⟩,
       ⟨some 15, none, .ld none (.t 14)⟩] (some [1, 3, 15]))
     (.blk 0
      (.seq
       (.reg [⟨some 17, none, .bin .eql .none (.t 15) (.c (.int .i64 1))⟩,
         ⟨some 16, none, .mov (.t 17)⟩] (some [1, 3, 15, 16]))
       (.cond (.t 16)
        (.seq
         (.reg [⟨some 18, none, .fa 5 (.t 1)⟩,
           ⟨some 19, none, .ld none (.t 18)⟩,
           ⟨some 20, none, .bin .eql .none (.t 19) (.c (.str []))⟩,
           ⟨some 21, none, .mov (.t 20)⟩,
           ⟨some 22, some (21, true), .fa 4 (.t 1)⟩,
           ⟨some 23, some (21, true), .ld none (.t 22)⟩,
           ⟨some 24, some (21, true), .bin .geq .none (.t 23) (.c (.int .u8 64))⟩,
           ⟨some 25, none, .pick (.t 21) (.t 24) (.c (.bool false))⟩,
           ⟨some 26, none, .mov (.t 25)⟩,
           ⟨some 27, some (26, true), .fa 4 (.t 1)⟩,
           ⟨some 28, some (26, true), .ld none (.t 27)⟩,
           ⟨some 29, some (26, true), .bin .leq .none (.t 28) (.c (.int .u8 126))⟩,
           ⟨some 30, none, .pick (.t 26) (.t 29) (.c (.bool false))⟩,
           ⟨some 2, none, .mov (.t 30)⟩] (some [2]))
         .ret)
        (.seq
         (.reg [⟨some 32, none, .bin .eql .none (.t 15) (.c (.int .i64 3))⟩,
           ⟨some 31, none, .mov (.t 32)⟩] (some [1, 3, 15, 31]))
         (.cond (.t 31)
          (.seq
           (.reg [⟨some 33, none, .fa 4 (.t 1)⟩,
             ⟨some 34, none, .ld none (.t 33)⟩,
             ⟨some 35, none, .bin .geq .none (.t 34) (.c (.int .u8 64))⟩,
             ⟨some 36, none, .mov (.t 35)⟩,
             ⟨some 37, some (36, true), .fa 4 (.t 1)⟩,
             ⟨some 38, some (36, true), .ld none (.t 37)⟩,
             ⟨some 39, some (36, true), .bin .leq .none (.t 38) (.c (.int .u8 126))⟩,
             ⟨some 40, none, .pick (.t 36) (.t 39) (.c (.bool false))⟩,
             ⟨some 2, none, .mov (.t 40)⟩] (some [2]))
           .ret)
          (.seq
           (.reg [⟨some 42, none, .bin .eql .none (.t 15) (.c (.int .i64 2))⟩,
             ⟨some 41, none, .mov (.t 42)⟩] (some [1, 3, 15, 41]))
           (.cond (.t 41)
            (.seq
             (.reg [⟨some 43, none, .mov (.t 3)⟩,
               ⟨some 44, none, .mov (.t 43)⟩,
               ⟨some 45, some (44, true), .fa 3 (.t 1)⟩,
               ⟨some 46, some (44, true), .ld none (.t 45)⟩,
               ⟨some 47, some (44, true), .bin .eql .none (.t 46) (.c (.str []))⟩,
               ⟨some 48, none, .pick (.t 44) (.t 47) (.c (.bool false))⟩,
               ⟨some 49, none, .mov (.t 48)⟩,
               ⟨some 50, some (49, true), .fa 5 (.t 1)⟩,
               ⟨some 51, some (49, true), .ld none (.t 50)⟩,
               ⟨some 52, some (49, true), .bin .eql .none (.t 51) (.c (.str []))⟩,
               ⟨some 53, none, .pick (.t 49) (.t 52) (.c (.bool false))⟩,
               ⟨some 54, none, .mov (.t 53)⟩,
               ⟨some 55, some (54, true), .fa 4 (.t 1)⟩,
               ⟨some 56, some (54, true), .ld none (.t 55)⟩,
               ⟨some 57, some (54, true), .bin .geq .none (.t 56) (.c (.int .u8 64))⟩,
               ⟨some 58, none, .pick (.t 54) (.t 57) (.c (.bool false))⟩,
               ⟨some 59, none, .mov (.t 58)⟩,
               ⟨some 60, some (59, true), .fa 4 (.t 1)⟩,
               ⟨some 61, some (59, true), .ld none (.t 60)⟩,
               ⟨some 62, some (59, true), .bin .leq .none (.t 61) (.c (.int .u8 126))⟩,
               ⟨some 63, none, .pick (.t 59) (.t 62) (.c (.bool false))⟩,
               ⟨some 2, none, .mov (.t 63)⟩] (some [2]))
             .ret)
            (.seq
             (.reg [⟨some 65, none, .bin .eql .none (.t 15) (.c (.int .i64 4))⟩,
               ⟨some 64, none, .mov (.t 65)⟩] (some [1, 3, 15, 64]))
             (.cond (.t 64)
              (.seq
               (.reg [⟨some 66, none, .mov (.t 3)⟩,
                 ⟨some 67, none, .mov (.t 66)⟩,
                 ⟨some 68, some (67, true), .fa 3 (.t 1)⟩,
                 ⟨some 69, some (67, true), .ld none (.t 68)⟩,
                 ⟨some 70, some (67, true), .bin .eql .none (.t 69) (.c (.str []))⟩,
                 ⟨some 71, none, .pick (.t 67) (.t 70) (.c (.bool false))⟩,
                 ⟨some 72, none, .mov (.t 71)⟩,
                 ⟨some 73, some (72, true), .fa 4 (.t 1)⟩,
                 ⟨some 74, some (72, true), .ld none (.t 73)⟩,
                 ⟨some 75, some (72, true), .bin .eql .none (.t 74) (.c (.int .u8 0))⟩,
                 ⟨some 76, none, .pick (.t 72) (.t 75) (.c (.bool false))⟩,
                 ⟨some 2, none, .mov (.t 76)⟩] (some [2]))
               .ret)
              (.seq
               (.reg [⟨some 78, none, .bin .eql .none (.t 15) (.c (.int .i64 5))⟩,
                 ⟨some 77, none, .mov (.t 78)⟩] (some [1, 3, 77]))
               (.cond (.t 77)
                (.seq
                 (.reg [⟨some 79, none, .fa 3 (.t 1)⟩,
                   ⟨some 80, none, .ld none (.t 79)⟩,
                   ⟨some 81, none, .bin .neq .none (.t 80) (.c (.str []))⟩,
                   ⟨some 82, none, .mov (.t 81)⟩,
                   ⟨some 83, some (82, false), .fa 4 (.t 1)⟩,
                   ⟨some 84, some (82, false), .ld none (.t 83)⟩,
                   ⟨some 85, some (82, false), .cvi .i32 (.t 84)⟩,
                   ⟨some 86, some (82, false), .call (.c (.fn (.func 29) [] [])) [(.c (.str [79, 80, 88, 91, 93, 92, 94, 95])), (.t 85)]⟩,
                   ⟨some 87, some (82, false), .un .not (.t 86)⟩,
                   ⟨some 88, none, .pick (.t 82) (.c (.bool true)) (.t 87)⟩,
                   ⟨some 4, none, .mov (.t 88)⟩] (some [1, 3, 4]))
                 (.seq
                  (.reg [⟨some 89, none, .mov (.t 3)⟩,
                    ⟨some 90, none, .mov (.t 89)⟩,
                    ⟨some 91, some (90, true), .fa 5 (.t 1)⟩,
                    ⟨some 92, some (90, true), .ld none (.t 91)⟩,
                    ⟨some 93, some (90, true), .bin .eql .none (.t 92) (.c (.str []))⟩,
                    ⟨some 94, none, .pick (.t 90) (.t 93) (.c (.bool false))⟩,
                    ⟨some 95, none, .mov (.t 94)⟩,
                    ⟨some 96, some (95, true), .mov (.t 4)⟩,
                    ⟨some 97, none, .pick (.t 95) (.t 96) (.c (.bool false))⟩,
                    ⟨some 98, none, .mov (.t 97)⟩,
                    ⟨some 99, some (98, true), .fa 4 (.t 1)⟩,
                    ⟨some 100, some (98, true), .ld none (.t 99)⟩,
                    ⟨some 101, some (98, true), .bin .geq .none (.t 100) (.c (.int .u8 48))⟩,
                    ⟨some 102, none, .pick (.t 98) (.t 101) (.c (.bool false))⟩,
                    ⟨some 103, none, .mov (.t 102)⟩,
                    ⟨some 104, some (103, true), .fa 4 (.t 1)⟩,
                    ⟨some 105, some (103, true), .ld none (.t 104)⟩,
                    ⟨some 106, some (103, true), .bin .leq .none (.t 105) (.c (.int .u8 126))⟩,
                    ⟨some 107, none, .pick (.t 103) (.t 106) (.c (.bool false))⟩,
                    ⟨some 2, none, .mov (.t 107)⟩] (some [2]))
                  .ret))
                .skip))))))))))))
    (.seq
     (.reg [⟨some 2, none, .mov (.c (.bool false))⟩] (some [2]))
     .ret))))
theorem is_wireshaped : IrOf Tryd.prog 42 108 ir_wireshaped [.t 2] := ⟨_, Tryd.func42, rfl, by kernel_rfl, by kernel_rfl, by kernel_rfl⟩


theorem indexByte_mem : ∀ (l : List UInt8) (c : UInt8), decide (0 ≤ Lib.indexByte l c) = l.contains c
  | [], c => rfl
  | d :: l, c => by
    have ih := indexByte_mem l c
    have hg := Lib.indexByte_ge l c
    rw [List.contains_cons]
    have hu : Lib.indexByte (d :: l) c = if d == c then 0 else if Lib.indexByte l c == -1 then -1 else Lib.indexByte l c + 1 := rfl
    rw [hu]
    by_cases h : d = c
    · subst h; simp
    · have hb : (d == c) = false := by simpa using h
      have hb2 : (c == d) = false := by simpa using Ne.symm h
      rw [hb2, Bool.false_or, ← ih, decide_eq_decide]
      simp only [hb, Bool.false_eq_true, if_false]
      by_cases h1 : Lib.indexByte l c = -1
      · simp [h1]
      · have : (Lib.indexByte l c == -1) = false := by simpa using h1
        simp only [this, Bool.false_eq_true, if_false]
        omega
theorem fs_ContainsRune {Gl : Gh → Prop} {s : List UInt8} {r : Int} (h0 : 0 ≤ r) (h1 : r < 128) : FS Tryd.prog Gl 29 [.str s, .int .i32 r] [] [] (.bool (s.contains r.toNat.toUInt8)) [] [] := by
  refine FS.of_calls is_stringsContainsRune.enters (fun _ => rfl) fun g w vs hinv hgl hargs => ?_
  obtain ⟨v1, r1, rfl, h1', v2, r2, rfl, h2', h3'⟩ := hargs
  cases h1'; cases h2'; cases h3'
  refine ⟨_, rfl, (Tryd.strings_ContainsRune_ascii ⟨s.toArray⟩ r w h0 h1).mono ?_⟩
  rintro e w' ⟨rfl, rfl⟩
  exact ⟨by rw [indexByte_mem], rfl⟩

/-- What a kind has. -/
def shapedP (s : Sq) : Bool :=
  if s.k = 1 then decide (s.da = []) && decide (s.fi ≥ 64) && decide (s.fi ≤ 126)
  else if s.k = 3 then decide (s.fi ≥ 64) && decide (s.fi ≤ 126)
  else if s.k = 2 then s.pr == 0 && (s.ps.length : Int) == 0 && decide (s.it = []) && decide (s.da = []) && decide (s.fi ≥ 64) && decide (s.fi ≤ 126)
  else if s.k = 4 then s.pr == 0 && (s.ps.length : Int) == 0 && decide (s.it = []) && s.fi == 0
  else if s.k = 5 then s.pr == 0 && (s.ps.length : Int) == 0 && decide (s.da = []) && (!decide (s.it = []) || !([79, 80, 88, 91, 93, 92, 94, 95] : List UInt8).contains s.fi.toNat.toUInt8) && decide (s.fi ≥ 48) && decide (s.fi ≤ 126)
  else false

theorem fs_shaped {Gl : Gh → Prop} (hst : Stays Gl) {s : Sq} (hf0 : 0 ≤ s.fi) (hf1 : s.fi < 128) : FS Tryd.prog Gl 42 [.agg s.c] [] [] (.bool (shapedP s)) [] [] := by
  refine FS.of hm hst is_wireshaped (by simp) fun γ hγ hfr => ?_
  obtain ⟨k, pr, ps, it, fi, da⟩ := s
  simp only [Sq.c] at hf0 hf1 ⊢
  have hw : IntKind.i32.wrap fi = fi := by rw [IntKind.wrap_i32]; omega
  simp only [shapedP]
  generalize hp0 : (pr == 0) = p0
  generalize hps : ((ps.length : Int) == 0) = ps0
  generalize hda : decide (da = []) = da0
  generalize hit : decide (it = []) = it0
  generalize h64 : decide (fi ≥ 64) = f64
  generalize h126 : decide (fi ≤ 126) = f126
  generalize h48 : decide (fi ≥ 48) = f48
  generalize hfz : (fi == 0) = fz
  generalize hcr : ([79, 80, 88, 91, 93, 92, 94, 95] : List UInt8).contains fi.toNat.toUInt8 = cr
  have hcall : FS Tryd.prog Gl 29 [.str [79, 80, 88, 91, 93, 92, 94, 95], .int .i32 fi] [] [] (.bool cr) [] [] := hcr ▸ fs_ContainsRune hf0 hf1
  have x1 : (k == 1) = decide (k = 1) := by rw [Bool.eq_iff_iff]; simp
  have x3 : (k == 3) = decide (k = 3) := by rw [Bool.eq_iff_iff]; simp
  have x2 : (k == 2) = decide (k = 2) := by rw [Bool.eq_iff_iff]; simp
  have x4 : (k == 4) = decide (k = 4) := by rw [Bool.eq_iff_iff]; simp
  have x5 : (k == 5) = decide (k = 5) := by rw [Bool.eq_iff_iff]; simp
  by_cases h1 : k = 1
  · simp only [if_pos h1]
    (generalize hQ : (fun (ex : Ex) (_ _ : Nat) (s : St) => _) = Q; unfold ir_wireshaped)
    simp +contextual (maxSteps := 1000000) only [parsV, parsAV_length, hp0, hps, hda, hit, h64, h126, h48, hfz, hw, x1, h1, if_true, if_false, go_sem, reduceCtorEq, ↓reduceIte, Nat.reduceAdd, Nat.reduceEqDiff, Nat.reduceLeDiff, Nat.reduceMul, Nat.reduceBEq, Int.reduceBEq, Int.reduceBNe, Int.reduceLT, Int.reduceLE, Int.reduceGT, Int.reduceGE, Int.reduceToNat, Int.natCast_one, Int.natCast_zero, Int.cast_ofNat_Int]
    rw [← hQ]; exact ⟨trivial, Ret.flat rfl rfl⟩
  by_cases h3 : k = 3
  · simp only [if_neg h1, if_pos h3]
    (generalize hQ : (fun (ex : Ex) (_ _ : Nat) (s : St) => _) = Q; unfold ir_wireshaped)
    simp +contextual (maxSteps := 1000000) only [parsV, parsAV_length, hp0, hps, hda, hit, h64, h126, h48, hfz, hw, x1, h1, x3, h3, if_true, if_false, go_sem, reduceCtorEq, ↓reduceIte, Nat.reduceAdd, Nat.reduceEqDiff, Nat.reduceLeDiff, Nat.reduceMul, Nat.reduceBEq, Int.reduceBEq, Int.reduceBNe, Int.reduceLT, Int.reduceLE, Int.reduceGT, Int.reduceGE, Int.reduceToNat, Int.natCast_one, Int.natCast_zero, Int.cast_ofNat_Int]
    rw [← hQ]; exact ⟨trivial, Ret.flat rfl rfl⟩
  by_cases h2 : k = 2
  · simp only [if_neg h1, if_neg h3, if_pos h2]
    (generalize hQ : (fun (ex : Ex) (_ _ : Nat) (s : St) => _) = Q; unfold ir_wireshaped)
    simp +contextual (maxSteps := 1000000) only [parsV, parsAV_length, hp0, hps, hda, hit, h64, h126, h48, hfz, hw, x1, h1, x3, h3, x2, h2, if_true, if_false, go_sem, reduceCtorEq, ↓reduceIte, Nat.reduceAdd, Nat.reduceEqDiff, Nat.reduceLeDiff, Nat.reduceMul, Nat.reduceBEq, Int.reduceBEq, Int.reduceBNe, Int.reduceLT, Int.reduceLE, Int.reduceGT, Int.reduceGE, Int.reduceToNat, Int.natCast_one, Int.natCast_zero, Int.cast_ofNat_Int]
    rw [← hQ]; exact ⟨trivial, Ret.flat rfl rfl⟩
  by_cases h4 : k = 4
  · simp only [if_neg h1, if_neg h3, if_neg h2, if_pos h4]
    (generalize hQ : (fun (ex : Ex) (_ _ : Nat) (s : St) => _) = Q; unfold ir_wireshaped)
    simp +contextual (maxSteps := 1000000) only [parsV, parsAV_length, hp0, hps, hda, hit, h64, h126, h48, hfz, hw, x1, h1, x3, h3, x2, h2, x4, h4, if_true, if_false, go_sem, reduceCtorEq, ↓reduceIte, Nat.reduceAdd, Nat.reduceEqDiff, Nat.reduceLeDiff, Nat.reduceMul, Nat.reduceBEq, Int.reduceBEq, Int.reduceBNe, Int.reduceLT, Int.reduceLE, Int.reduceGT, Int.reduceGE, Int.reduceToNat, Int.natCast_one, Int.natCast_zero, Int.cast_ofNat_Int]
    rw [← hQ]; exact ⟨trivial, Ret.flat rfl rfl⟩
  by_cases h5 : k = 5
  · simp only [if_neg h1, if_neg h3, if_neg h2, if_neg h4, if_pos h5]
    (generalize hQ : (fun (ex : Ex) (_ _ : Nat) (s : St) => _) = Q; unfold ir_wireshaped)
    simp +contextual (maxSteps := 1000000) only [parsV, parsAV_length, hp0, hps, hda, hit, h64, h126, h48, hfz, hw, x1, h1, x3, h3, x2, h2, x4, h4, x5, h5, if_true, if_false, go_sem, reduceCtorEq, ↓reduceIte, Nat.reduceAdd, Nat.reduceEqDiff, Nat.reduceLeDiff, Nat.reduceMul, Nat.reduceBEq, Int.reduceBEq, Int.reduceBNe, Int.reduceLT, Int.reduceLE, Int.reduceGT, Int.reduceGE, Int.reduceToNat, Int.natCast_one, Int.natCast_zero, Int.cast_ofNat_Int]
    refine kGc_call hcall (fun _ => rfl) (fun hg => ?_) ?_
    · revert hg
      simp +contextual [Xev_t, Xev_c, upd_app, lf_cons, lf_nil]
    · simp +contextual (maxSteps := 1000000) only [parsV, parsAV_length, hp0, hps, hda, hit, h64, h126, h48, hfz, go_sem, reduceCtorEq, ↓reduceIte, Nat.reduceAdd, Nat.reduceEqDiff, Nat.reduceLeDiff, Nat.reduceMul, Nat.reduceBEq, Int.reduceBEq, Int.reduceBNe, Int.reduceLT, Int.reduceLE, Int.reduceGT, Int.reduceGE, Int.reduceToNat, Int.natCast_one, Int.natCast_zero, Int.cast_ofNat_Int]
      rw [← hQ]; exact ⟨trivial, Ret.flat rfl rfl⟩
  have e1 : decide (k = 1) = false := decide_eq_false h1
  have e2 : decide (k = 2) = false := decide_eq_false h2
  have e3 : decide (k = 3) = false := decide_eq_false h3
  have e4 : decide (k = 4) = false := decide_eq_false h4
  have e5 : decide (k = 5) = false := decide_eq_false h5
  simp only [if_neg h1, if_neg h3, if_neg h2, if_neg h4, if_neg h5]
  (generalize hQ : (fun (ex : Ex) (_ _ : Nat) (s : St) => _) = Q; unfold ir_wireshaped)
  simp +contextual (maxSteps := 1000000) only [parsV, parsAV_length, hp0, hps, x1, x2, x3, x4, x5, e1, e2, e3, e4, e5, go_sem, reduceCtorEq, ↓reduceIte, Nat.reduceAdd, Nat.reduceEqDiff, Nat.reduceLeDiff, Nat.reduceMul, Nat.reduceBEq, Int.reduceBEq, Int.reduceBNe, Int.reduceLT, Int.reduceLE, Int.reduceGT, Int.reduceGE, Int.reduceToNat, Int.natCast_one, Int.natCast_zero, Int.cast_ofNat_Int]
  rw [← hQ]; exact ⟨trivial, Ret.flat rfl rfl⟩
end Go.Proofs.YtgdgfefojfgpaaaDoor
