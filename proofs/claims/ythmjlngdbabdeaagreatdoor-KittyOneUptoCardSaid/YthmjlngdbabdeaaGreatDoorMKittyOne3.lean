/- Part 3 of 4 of a proof: the given statement KittyOne, whatever the input that its row lets in. Conditions: those of the given row and card alone. -/
import Derived.Test.YthmjlngdbabdeaaGreatDoorMKittyOne2
/- Whether a sequence may be (layer 3 of the program): all. -/
set_option linter.unusedVariables false
set_option linter.unusedSimpArgs false
set_option maxRecDepth 100000
namespace Go.Proofs.YthmjlngdbabdeaaGreatDoor
open Go Go.Ab
/-- clavier/wire.May -/
def ir_wireMay : ICode :=
 (.seq
  (.reg [⟨some 1, none, .box 35 (.t 0)⟩,
    ⟨some 2, none, .mov (.c (.int .i64 0))⟩] (some [1]))
  (.seq
   (.reg [⟨some 5, none, .fa 1 (.t 1)⟩,
     ⟨some 6, none, .ld none (.t 5)⟩,
     ⟨some 7, none, .bin .eql .none (.t 6) (.c (.int .u8 0))⟩,
     ⟨some 8, none, .mov (.t 7)⟩,
     ⟨some 9, some (8, false), .fa 1 (.t 1)⟩,
     ⟨some 10, some (8, false), .ld none (.t 9)⟩,
     ⟨some 11, some (8, false), .bin .geq .none (.t 10) (.c (.int .u8 60))⟩,
     ⟨some 12, some (8, false), .mov (.t 11)⟩,
     ⟨some 13, some (12, true), .fa 1 (.t 1)⟩,
     ⟨some 14, some (12, true), .ld none (.t 13)⟩,
     ⟨some 15, some (12, true), .bin .leq .none (.t 14) (.c (.int .u8 63))⟩,
     ⟨some 16, some (8, false), .pick (.t 12) (.t 15) (.c (.bool false))⟩,
     ⟨some 17, none, .pick (.t 8) (.c (.bool true)) (.t 16)⟩,
     ⟨some 3, none, .mov (.t 17)⟩] (some [1, 3]))
   (.seq
    (.reg [⟨some 18, none, .fa 3 (.t 1)⟩,
      ⟨some 19, none, .ld none (.t 18)⟩,
      ⟨some 20, none, .lns (.t 19)⟩,
      ⟨some 21, none, .bin .leq .none (.t 20) (.c (.int .i64 2))⟩,
      ⟨some 22, none, .mov (.t 21)⟩,
      ⟨some 23, some (22, true), .fa 3 (.t 1)⟩,
      ⟨some 24, some (22, true), .ld none (.t 23)⟩,
      ⟨some 25, some (22, true), .call (.c (.fn (.func 95) [] [])) [(.t 24), (.c (.int .u8 32)), (.c (.int .u8 47))]⟩,
      ⟨some 26, none, .pick (.t 22) (.t 25) (.c (.bool false))⟩,
      ⟨some 4, none, .mov (.t 26)⟩] (some [1, 3, 4]))
    (.seq
     (.blk 0
      (.seq
       (.reg [⟨some 28, none, .fa 5 (.t 1)⟩,
         ⟨some 29, none, .ld none (.t 28)⟩,
         ⟨some 30, none, .lns (.t 29)⟩,
         ⟨some 31, none, .bin .gtr .none (.t 30) (.c (.int .i64 4096))⟩,
         ⟨some 27, none, .mov (.t 31)⟩] (some [1, 3, 4, 27]))
       (.cond (.t 27)
        (.seq
         (.reg [⟨some 2, none, .mov (.c (.int .i64 4))⟩] (some [2]))
         .ret)
        (.seq
         (.reg [⟨some 33, none, .mov (.t 3)⟩,
           ⟨some 34, none, .un .not (.t 33)⟩,
           ⟨some 35, none, .mov (.t 34)⟩,
           ⟨some 36, some (35, false), .mov (.t 4)⟩,
           ⟨some 37, some (35, false), .un .not (.t 36)⟩,
           ⟨some 38, none, .pick (.t 35) (.c (.bool true)) (.t 37)⟩,
           ⟨some 39, none, .mov (.t 38)⟩,
           ⟨some 40, some (39, false), .fa 2 (.t 1)⟩,
           ⟨some 41, some (39, false), .ld none (.t 40)⟩,
           ⟨some 42, some (39, false), .call (.c (.fn (.func 96) [] [])) [(.t 41)]⟩,
           ⟨some 43, some (39, false), .un .not (.t 42)⟩,
           ⟨some 44, none, .pick (.t 39) (.c (.bool true)) (.t 43)⟩,
           ⟨some 45, none, .mov (.t 44)⟩,
           ⟨some 46, some (45, false), .fa 5 (.t 1)⟩,
           ⟨some 47, some (45, false), .ld none (.t 46)⟩,
           ⟨some 48, some (45, false), .call (.c (.fn (.func 95) [] [])) [(.t 47), (.c (.int .u8 32)), (.c (.int .u8 126))]⟩,
           ⟨some 49, some (45, false), .un .not (.t 48)⟩,
           ⟨some 50, none, .pick (.t 45) (.c (.bool true)) (.t 49)⟩,
           ⟨some 51, none, .mov (.t 50)⟩,
           ⟨some 52, some (51, false), .ld (some 6) (.t 1)⟩,
           ⟨some 53, some (51, false), .call (.c (.fn (.func 97) [] [])) [(.t 52)]⟩,
           ⟨some 54, some (51, false), .un .not (.t 53)⟩,
           ⟨some 55, none, .pick (.t 51) (.c (.bool true)) (.t 54)⟩,
           ⟨some 32, none, .mov (.t 55)⟩] (some [32]))
         (.cond (.t 32)
          (.seq
           (.reg [⟨some 2, none, .mov (.c (.int .i64 1))⟩] (some [2]))
           .ret)
          .skip)))))
     (.seq
      (.reg [⟨some 2, none, .mov (.c (.int .i64 0))⟩] (some [2]))
      .ret)))))
theorem is_wireMay : IrOf Tryz.prog 64 56 ir_wireMay [.t 2] := ⟨_, Tryz.func64, rfl, by kernel_rfl, by kernel_rfl, by kernel_rfl⟩


def within (x y : Int) (s : List UInt8) : Bool := s.all fun c => decide (x ≤ c.toNat) && decide ((c.toNat : Int) ≤ y)
/-- Whether a sequence may be: 0; 4: too long; 1: not. -/
def mayP (s : Sq) : Int :=
  if decide ((s.da.length : Int) > 4096) = true then 4
  else if (!(s.pr == 0 || (decide (s.pr ≥ 60) && decide (s.pr ≤ 63))) || !(decide ((s.it.length : Int) ≤ 2) && within 32 47 s.it) || !parsOk s.ps || !within 32 126 s.da || !shapedP s) = true then 1 else 0

set_option maxHeartbeats 2000000 in
theorem fs_May {Gl : Gh → Prop} (hst : Stays Gl) {s : Sq} (hf0 : 0 ≤ s.fi) (hf1 : s.fi < 128) (h1 : s.ps.length < 9223372036854775808) (h2 : ∀ p ∈ s.ps, p.length < 9223372036854775808) (h3 : s.it.length < 9223372036854775808) (h4 : s.da.length < 9223372036854775808) :
    FS Tryz.prog Gl 64 [.agg s.c] [] [] (.int .i64 (mayP s)) [] [] := by
  have c1 := fs_between hst h3 (x := 32) (y := 47) (by omega) (by omega)
  have c2 := fs_listed hst h1 h2
  have c3 := fs_between hst h4 (x := 32) (y := 126) (by omega) (by omega)
  have c4 := fs_shaped hst hf0 hf1
  refine FS.of hm hst is_wireMay (by simp) fun γ hγ hfr => ?_
  have hsp : mayP s = if decide ((s.da.length : Int) > 4096) = true then 4 else if (!(s.pr == 0 || (decide (s.pr ≥ 60) && decide (s.pr ≤ 63))) || !(decide ((s.it.length : Int) ≤ 2) && within 32 47 s.it) || !parsOk s.ps || !within 32 126 s.da || !shapedP s) = true then 1 else 0 := rfl
  rw [hsp]
  change FS _ _ _ _ _ _ (.bool (within 32 47 s.it)) _ _ at c1
  change FS _ _ _ _ _ _ (.bool (within 32 126 s.da)) _ _ at c3
  obtain ⟨k, pr, ps, it, fi, da⟩ := s
  simp only at c1 c2 c3 c4 ⊢
  generalize hp0 : (pr == 0) = p0
  generalize hp1 : decide (pr ≥ 60) = p1
  generalize hp2 : decide (pr ≤ 63) = p2
  generalize hit : decide ((it.length : Int) ≤ 2) = it2
  generalize hda : decide ((da.length : Int) > 4096) = da4
  generalize within 32 47 it = w1 at c1
  generalize within 32 126 da = w2 at c3
  generalize parsOk ps = pk at c2
  generalize shapedP _ = sh at c4
  simp only [Sq.c] at c4 ⊢
  have cl : AV.closedL [AV.int .i64 k, .int .u8 pr, parsV ps, .str it, .int .u8 fi, .str da] = true := rfl
  (generalize hQ : (fun (ex : Ex) (_ _ : Nat) (s : St) => _) = Q; unfold ir_wireMay)
  simp +contextual (maxSteps := 1000000) only [hp0, hp1, hp2, hit, hda, go_sem, reduceCtorEq, ↓reduceIte, Nat.reduceAdd, Nat.reduceEqDiff, Nat.reduceLeDiff, Nat.reduceMul, Nat.reduceBEq, Int.reduceBEq, Int.reduceBNe, Int.reduceLT, Int.reduceLE, Int.reduceGT, Int.reduceGE, Int.reduceToNat, Int.natCast_one, Int.natCast_zero, Int.cast_ofNat_Int]
  generalize (p0 || p1 && p2) = b0 at hQ ⊢
  (refine kGc_call (c1) (fun _ => rfl) (fun hgc => ?_) ?_; (focus (first | (rw [Bool.not_eq_true'] at hgc; simp only [List.map_cons, List.map_nil, List.nil_append, List.append_nil, List.cons_append, Xev_t, Xev_c, upd_app, lf_cons, lf_nil, Nat.reduceEqDiff, ↓reduceIte, hgc, Bool.false_eq_true, Bool.true_eq_false, reduceCtorEq]; done) | (simp only [List.map_cons, List.map_nil, List.nil_append, List.append_nil, List.cons_append, Xev_t, Xev_c, upd_app, lf_cons, lf_nil, Nat.reduceEqDiff, ↓reduceIte, hgc, Bool.false_eq_true, Bool.true_eq_false, reduceCtorEq]; done) | (revert hgc; simp +contextual [Xev_t, Xev_c, upd_app, lf_cons, lf_nil]; done) | simp [Xev_t, Xev_c, upd_app, lf_cons, lf_nil])); simp +contextual (maxSteps := 1000000) only [hp0, hp1, hp2, hit, hda, go_sem, reduceCtorEq, ↓reduceIte, Nat.reduceAdd, Nat.reduceEqDiff, Nat.reduceLeDiff, Nat.reduceMul, Nat.reduceBEq, Int.reduceBEq, Int.reduceBNe, Int.reduceLT, Int.reduceLE, Int.reduceGT, Int.reduceGE, Int.reduceToNat, Int.natCast_one, Int.natCast_zero, Int.cast_ofNat_Int])
  generalize (it2 && w1) = b1 at hQ ⊢
  cases da4
  · simp +contextual (maxSteps := 1000000) only [go_sem, reduceCtorEq, ↓reduceIte, Nat.reduceAdd, Nat.reduceEqDiff, Nat.reduceLeDiff, Nat.reduceMul, Nat.reduceBEq, Int.reduceBEq, Int.reduceBNe, Int.reduceLT, Int.reduceLE, Int.reduceGT, Int.reduceGE, Int.reduceToNat, Int.natCast_one, Int.natCast_zero, Int.cast_ofNat_Int]
    (refine kGc_call (c2) (fun _ => rfl) (fun hgc => ?_) ?_; (focus (first | (rw [Bool.not_eq_true'] at hgc; simp only [List.map_cons, List.map_nil, List.nil_append, List.append_nil, List.cons_append, Xev_t, Xev_c, upd_app, lf_cons, lf_nil, Nat.reduceEqDiff, ↓reduceIte, hgc, Bool.false_eq_true, Bool.true_eq_false, reduceCtorEq]; done) | (simp only [List.map_cons, List.map_nil, List.nil_append, List.append_nil, List.cons_append, Xev_t, Xev_c, upd_app, lf_cons, lf_nil, Nat.reduceEqDiff, ↓reduceIte, hgc, Bool.false_eq_true, Bool.true_eq_false, reduceCtorEq]; done) | (revert hgc; simp +contextual [Xev_t, Xev_c, upd_app, lf_cons, lf_nil]; done) | simp [Xev_t, Xev_c, upd_app, lf_cons, lf_nil])); simp +contextual (maxSteps := 1000000) only [hp0, go_sem, reduceCtorEq, ↓reduceIte, Nat.reduceAdd, Nat.reduceEqDiff, Nat.reduceLeDiff, Nat.reduceMul, Nat.reduceBEq, Int.reduceBEq, Int.reduceBNe, Int.reduceLT, Int.reduceLE, Int.reduceGT, Int.reduceGE, Int.reduceToNat, Int.natCast_one, Int.natCast_zero, Int.cast_ofNat_Int])
    (refine kGc_call (c3) (fun _ => rfl) (fun hgc => ?_) ?_; (focus (first | (rw [Bool.not_eq_true'] at hgc; simp only [List.map_cons, List.map_nil, List.nil_append, List.append_nil, List.cons_append, Xev_t, Xev_c, upd_app, lf_cons, lf_nil, Nat.reduceEqDiff, ↓reduceIte, hgc, Bool.false_eq_true, Bool.true_eq_false, reduceCtorEq]; done) | (simp only [List.map_cons, List.map_nil, List.nil_append, List.append_nil, List.cons_append, Xev_t, Xev_c, upd_app, lf_cons, lf_nil, Nat.reduceEqDiff, ↓reduceIte, hgc, Bool.false_eq_true, Bool.true_eq_false, reduceCtorEq]; done) | (revert hgc; simp +contextual [Xev_t, Xev_c, upd_app, lf_cons, lf_nil]; done) | simp [Xev_t, Xev_c, upd_app, lf_cons, lf_nil])); simp +contextual (maxSteps := 1000000) only [hp0, go_sem, reduceCtorEq, ↓reduceIte, Nat.reduceAdd, Nat.reduceEqDiff, Nat.reduceLeDiff, Nat.reduceMul, Nat.reduceBEq, Int.reduceBEq, Int.reduceBNe, Int.reduceLT, Int.reduceLE, Int.reduceGT, Int.reduceGE, Int.reduceToNat, Int.natCast_one, Int.natCast_zero, Int.cast_ofNat_Int])
    (refine kGc_call (c4) (fun _ => rfl) (fun hgc => ?_) ?_; (focus (first | (rw [Bool.not_eq_true'] at hgc; simp only [List.map_cons, List.map_nil, List.nil_append, List.append_nil, List.cons_append, Xev_t, Xev_c, upd_app, lf_cons, lf_nil, Nat.reduceEqDiff, ↓reduceIte, hgc, Bool.false_eq_true, Bool.true_eq_false, reduceCtorEq]; done) | (simp only [List.map_cons, List.map_nil, List.nil_append, List.append_nil, List.cons_append, Xev_t, Xev_c, upd_app, lf_cons, lf_nil, Nat.reduceEqDiff, ↓reduceIte, hgc, Bool.false_eq_true, Bool.true_eq_false, reduceCtorEq]; done) | (revert hgc; simp +contextual [Xev_t, Xev_c, upd_app, lf_cons, lf_nil]; done) | simp [Xev_t, Xev_c, upd_app, lf_cons, lf_nil])); simp +contextual (maxSteps := 1000000) only [hp0, go_sem, reduceCtorEq, ↓reduceIte, Nat.reduceAdd, Nat.reduceEqDiff, Nat.reduceLeDiff, Nat.reduceMul, Nat.reduceBEq, Int.reduceBEq, Int.reduceBNe, Int.reduceLT, Int.reduceLE, Int.reduceGT, Int.reduceGE, Int.reduceToNat, Int.natCast_one, Int.natCast_zero, Int.cast_ofNat_Int])
    cases hb : (!b0 || !b1 || !pk || !w2 || !sh) <;> rw [hb] at hQ <;> simp +contextual (maxSteps := 1000000) only [hb, go_sem, reduceCtorEq, ↓reduceIte, Nat.reduceAdd, Nat.reduceEqDiff, Nat.reduceLeDiff, Nat.reduceMul, Nat.reduceBEq, Int.reduceBEq, Int.reduceBNe, Int.reduceLT, Int.reduceLE, Int.reduceGT, Int.reduceGE, Int.reduceToNat, Int.natCast_one, Int.natCast_zero, Int.cast_ofNat_Int] <;> rw [← hQ] <;> exact ⟨trivial, Ret.flat rfl rfl⟩
  · simp +contextual (maxSteps := 1000000) only [go_sem, reduceCtorEq, ↓reduceIte, Nat.reduceAdd, Nat.reduceEqDiff, Nat.reduceLeDiff, Nat.reduceMul, Nat.reduceBEq, Int.reduceBEq, Int.reduceBNe, Int.reduceLT, Int.reduceLE, Int.reduceGT, Int.reduceGE, Int.reduceToNat, Int.natCast_one, Int.natCast_zero, Int.cast_ofNat_Int]
    rw [← hQ]; exact ⟨trivial, Ret.flat rfl rfl⟩
end Go.Proofs.YthmjlngdbabdeaaGreatDoor

/- The reference's layer 3: whether a sequence may be, walked. -/
set_option linter.unusedVariables false
set_option linter.unusedSimpArgs false
set_option maxRecDepth 100000
namespace Go.Proofs.YthmjlngdbabdeaaGreatDoor
open Go Go.Ab
/- clavier/clavierref03.params -/
def ir_clavierref03params_l0 : ICode :=
 (.seq
               (.seq
                (.reg [⟨some 48, none, .mov (.t 4)⟩,
                  ⟨some 49, none, .mov (.t 0)⟩,
                  ⟨some 50, none, .mov (.t 3)⟩,
                  ⟨some 51, none, .ia 1 (.t 49) (.t 50)⟩,
                  ⟨some 52, none, .ld none (.t 51)⟩,
                  ⟨some 53, none, .len (.t 52)⟩,
                  ⟨some 54, none, .bin .lss .none (.t 48) (.t 53)⟩] (some [0, 3, 4, 54]))
                (.cond (.t 54)
                 .skip
                 (.exit 2)))
               (.seq
                (.blk 3
                 (.seq
                  (.reg [⟨some 57, none, .mov (.t 0)⟩,
                    ⟨some 58, none, .mov (.t 3)⟩,
                    ⟨some 59, none, .ia 1 (.t 57) (.t 58)⟩,
                    ⟨some 60, none, .ld none (.t 59)⟩,
                    ⟨some 61, none, .mov (.t 4)⟩,
                    ⟨some 62, none, .ia 1 (.t 60) (.t 61)⟩,
                    ⟨some 63, none, .ld none (.t 62)⟩,
                    ⟨some 64, none, .bin .lss .none (.t 63) (.c (.int .i64 (-1)))⟩,
                    ⟨some 65, none, .mov (.t 64)⟩,
                    ⟨some 66, some (65, false), .mov (.t 0)⟩,
                    ⟨some 67, some (65, false), .mov (.t 3)⟩,
                    ⟨some 68, some (65, false), .ia 1 (.t 66) (.t 67)⟩,
                    ⟨some 69, some (65, false), .ld none (.t 68)⟩,
                    ⟨some 70, some (65, false), .mov (.t 4)⟩,
                    ⟨some 71, some (65, false), .ia 1 (.t 69) (.t 70)⟩,
                    ⟨some 72, some (65, false), .ld none (.t 71)⟩,
                    ⟨some 73, some (65, false), .bin .gtr .none (.t 72) (.c (.int .i64 1114111))⟩,
                    ⟨some 74, none, .pick (.t 65) (.c (.bool true)) (.t 73)⟩] (some [0, 3, 4, 74]))
                  (.cond (.t 74)
                   (.seq
                    (.reg [⟨some 2, none, .mov (.c (.bool false))⟩] (some [2]))
                    .ret)
                   .skip)))
                (.reg [⟨some 55, none, .mov (.t 4)⟩,
                  ⟨some 56, none, .bin .add .none (.t 55) (.c (.int .i64 1))⟩,
                  ⟨some 4, none, .mov (.t 56)⟩] (some [0, 3, 4]))))
def ir_clavierref03params_l1 : ICode :=
 (.seq
        (.seq
         (.reg [⟨some 28, none, .mov (.t 3)⟩,
           ⟨some 29, none, .mov (.t 0)⟩,
           ⟨some 30, none, .len (.t 29)⟩,
           ⟨some 31, none, .bin .lss .none (.t 28) (.t 30)⟩] (some [0, 3, 31]))
         (.cond (.t 31)
          .skip
          (.exit 0)))
        (.seq
         (.blk 1
          (.seq
           (.seq
            (.reg [⟨some 34, none, .mov (.t 0)⟩,
              ⟨some 35, none, .mov (.t 3)⟩,
              ⟨some 36, none, .ia 1 (.t 34) (.t 35)⟩,
              ⟨some 37, none, .ld none (.t 36)⟩,
              ⟨some 38, none, .len (.t 37)⟩,
              ⟨some 39, none, .bin .lss .none (.t 38) (.c (.int .i64 1))⟩,
              ⟨some 40, none, .mov (.t 39)⟩,
              ⟨some 41, some (40, false), .mov (.t 0)⟩,
              ⟨some 42, some (40, false), .mov (.t 3)⟩,
              ⟨some 43, some (40, false), .ia 1 (.t 41) (.t 42)⟩,
              ⟨some 44, some (40, false), .ld none (.t 43)⟩,
              ⟨some 45, some (40, false), .len (.t 44)⟩,
              ⟨some 46, some (40, false), .bin .gtr .none (.t 45) (.c (.int .i64 8))⟩,
              ⟨some 47, none, .pick (.t 40) (.c (.bool true)) (.t 46)⟩] (some [0, 3, 47]))
            (.cond (.t 47)
             (.seq
              (.reg [⟨some 2, none, .mov (.c (.bool false))⟩] (some [2]))
              .ret)
             .skip))
           (.seq
            (.reg [⟨some 4, none, .mov (.c (.int .i64 0))⟩] (some [0, 3, 4]))
            (.blk 2
             (.loop
              ir_clavierref03params_l0)))))
         (.reg [⟨some 32, none, .mov (.t 3)⟩,
           ⟨some 33, none, .bin .add .none (.t 32) (.c (.int .i64 1))⟩,
           ⟨some 3, none, .mov (.t 33)⟩] (some [0, 3]))))
def ir_clavierref03params_t3 : ICode :=
 (.seq
  (.reg [⟨some 2, none, .mov (.c (.bool true))⟩] (some [2]))
  .ret)
def ir_clavierref03params_t2 : ICode :=
 (.seq
  (.seq
     (.reg [⟨some 3, none, .mov (.c (.int .i64 0))⟩] (some [0, 3]))
     (.blk 0
      (.loop
       ir_clavierref03params_l1)))
  ir_clavierref03params_t3)
def ir_clavierref03params_t1 : ICode :=
 (.seq
  (.seq
    (.reg [⟨some 5, none, .mov (.t 0)⟩,
      ⟨some 6, none, .len (.t 5)⟩,
      ⟨some 7, none, .bin .gtr .none (.t 6) (.c (.int .i64 16))⟩,
      ⟨some 8, none, .mov (.t 7)⟩,
      ⟨some 9, some (8, false), .mov (.t 0)⟩,
      ⟨some 10, some (8, false), .len (.t 9)⟩,
      ⟨some 11, some (8, false), .bin .eql .none (.t 10) (.c (.int .i64 1))⟩,
      ⟨some 12, some (8, false), .mov (.t 11)⟩,
      ⟨some 13, some (12, true), .mov (.t 0)⟩,
      ⟨some 14, some (12, true), .ia 1 (.t 13) (.c (.int .i64 0))⟩,
      ⟨some 15, some (12, true), .ld none (.t 14)⟩,
      ⟨some 16, some (12, true), .len (.t 15)⟩,
      ⟨some 17, some (12, true), .bin .eql .none (.t 16) (.c (.int .i64 1))⟩,
      ⟨some 18, some (8, false), .pick (.t 12) (.t 17) (.c (.bool false))⟩,
      ⟨some 19, some (8, false), .mov (.t 18)⟩,
      ⟨some 20, some (19, true), .mov (.t 0)⟩,
      ⟨some 21, some (19, true), .ia 1 (.t 20) (.c (.int .i64 0))⟩,
      ⟨some 22, some (19, true), .ld none (.t 21)⟩,
      ⟨some 23, some (19, true), .ia 1 (.t 22) (.c (.int .i64 0))⟩,
      ⟨some 24, some (19, true), .ld none (.t 23)⟩,
      ⟨some 25, some (19, true), .bin .eql .none (.t 24) (.c (.int .i64 (-1)))⟩,
      ⟨some 26, some (8, false), .pick (.t 19) (.t 25) (.c (.bool false))⟩,
      ⟨some 27, none, .pick (.t 8) (.c (.bool true)) (.t 26)⟩] (some [0, 27]))
    (.cond (.t 27)
     (.seq
      (.reg [⟨some 2, none, .mov (.c (.bool false))⟩] (some [2]))
      .ret)
     .skip))
  ir_clavierref03params_t2)
def ir_clavierref03params : ICode :=
 (.seq
  (.reg [⟨some 2, none, .mov (.c (.bool false))⟩] (some [0]))
  ir_clavierref03params_t1)
theorem is_clavierref03params : IrOf Tryz.prog 100 75 ir_clavierref03params [.t 2] := ⟨_, Tryz.func100, rfl, by kernel_rfl, by kernel_rfl, by kernel_rfl⟩


def subBad (n : Int) : Bool := decide (n < -1) || decide (n > 1114111)
theorem parBad_eq (p : List Int) : parBad p = (p.any subBad || (decide (p.length < 1) || decide (p.length > 8))) := rfl
set_option maxHeartbeats 1000000 in
theorem fs_rParams {Gl : Gh → Prop} (hst : Stays Gl) {l : List (List Int)} (ha : l.length < 9223372036854775808) (hb : ∀ p ∈ l, p.length < 9223372036854775808) : FS Tryz.prog Gl 100 [parsV l] [] [] (.bool (parsOk l)) [] [] := by
  refine FS.of hm hst is_clavierref03params (by simp) fun γ hγ hfr => ?_
  (generalize hQ : (fun (ex : Ex) (_ _ : Nat) (s : St) => _) = Q; unfold ir_clavierref03params)
  simp only [parsV]
  simp +contextual (maxSteps := 1000000) only [go_sem, reduceCtorEq, ↓reduceIte, Nat.reduceAdd, Nat.reduceEqDiff, Nat.reduceLeDiff, Nat.reduceMul, Nat.reduceBEq, Int.reduceBEq, Int.reduceBNe, Int.reduceLT, Int.reduceLE, Int.reduceGT, Int.reduceGE, Int.reduceToNat, Int.natCast_one, Int.natCast_zero, Int.cast_ofNat_Int]
  unfold ir_clavierref03params_t1
  have i1 : decide ((l.length : Int) > 16) = decide (l.length > 16) := by rw [decide_eq_decide]; omega
  have i2 : ((l.length : Int) == 1) = decide (l.length = 1) := by rw [Bool.eq_iff_iff]; simp; omega
  have loop : ∀ F c, lfOK [] F [(0, .sl none 1 (parsAV l)), (3, .int .i64 0)] → decide (l.length > 16) = false → decide (l = [[-1]]) = false → kLoop Tryz.prog Gl ir_clavierref03params_l1 γ c ⟨F, [], fun x => x ∈ []⟩ (kBlk 0 (kSeq Tryz.prog Gl ir_clavierref03params_t3 Q)) := by
    intro F c hF e1 e2
    refine kLoop_ix (fun i : Nat => ⟨lf [(0, .sl none 1 (parsAV l)), (3, .int .i64 i)], [], fun x => x ∈ []⟩) (fun i => i ≤ l.length ∧ l.any parBad = (l.drop i).any parBad) (fun i => l.length - i) 0 0 (Wk.same hF) (by simp) ?_
    rintro γ' i hf ⟨hi, hinv⟩
    generalize hQ' : kIt _ _ _ _ _ = Q'
    unfold ir_clavierref03params_l1
    by_cases hlt : i < l.length
    · have hd : decide ((i : Int) < (l.length : Int)) = true := by simp; omega
      have hg1 : (parsAV l).getD i [] = [intsV l[i]] := parsAV_get hlt
      have hdrop : l.drop i = l[i] :: l.drop (i + 1) := List.drop_eq_getElem_cons hlt
      have hpl := hb _ (List.getElem_mem hlt)
      have hw : IntKind.i64.wrap ((i : Int) + 1) = ((i + 1 : Nat) : Int) := by rw [IntKind.wrap_i64]; omega
      rw [hdrop, List.any_cons] at hinv
      generalize l[i] = p at hg1 hinv hpl
      have i3 : decide ((p.length : Int) < 1) = decide (p.length < 1) := by rw [decide_eq_decide]; omega
      have i4 : decide ((p.length : Int) > 8) = decide (p.length > 8) := by rw [decide_eq_decide]; omega
      simp +contextual (maxSteps := 1000000) only [hd, hg1, parsAV_length, Int.toNat_natCast, intsV, intsAV_length, i3, i4, go_sem, reduceCtorEq, ↓reduceIte, Nat.reduceAdd, Nat.reduceEqDiff, Nat.reduceLeDiff, Nat.reduceMul, Nat.reduceBEq, Int.reduceBEq, Int.reduceBNe, Int.reduceLT, Int.reduceLE, Int.reduceGT, Int.reduceGE, Int.reduceToNat, Int.natCast_one, Int.natCast_zero, Int.cast_ofNat_Int]
      refine ⟨by omega, by omega, ?_⟩
      refine kCond_split (fun h => ?_) (fun h => ?_)
      · simp +contextual (maxSteps := 1000000) only [go_sem, reduceCtorEq, ↓reduceIte, Nat.reduceAdd, Nat.reduceEqDiff, Nat.reduceLeDiff, Nat.reduceMul, Nat.reduceBEq, Int.reduceBEq, Int.reduceBNe, Int.reduceLT, Int.reduceLE, Int.reduceGT, Int.reduceGE, Int.reduceToNat, Int.natCast_one, Int.natCast_zero, Int.cast_ofNat_Int]
        rw [← hQ']
        simp only [w_kIt_r, w_kBlk_r, w_kSeq_r]
        rw [← hQ]
        refine ⟨trivial, Ret.flat ?_ rfl⟩
        have e : parBad p = true := by rw [parBad_eq, h, Bool.or_true]
        have : parsOk l = false := by simp only [parsOk, hinv, e, Bool.true_or, Bool.not_true, Bool.and_false]
        rw [this]; rfl
      · have h' : p.any subBad = parBad p := by
          rw [parBad_eq]
          rw [h, Bool.or_false]
        simp +contextual (maxSteps := 1000000) only [go_sem, reduceCtorEq, ↓reduceIte, Nat.reduceAdd, Nat.reduceEqDiff, Nat.reduceLeDiff, Nat.reduceMul, Nat.reduceBEq, Int.reduceBEq, Int.reduceBNe, Int.reduceLT, Int.reduceLE, Int.reduceGT, Int.reduceGE, Int.reduceToNat, Int.natCast_one, Int.natCast_zero, Int.cast_ofNat_Int]
        refine kLoop_ix (fun k : Nat => ⟨lf [(0, .sl none 1 (parsAV l)), (3, .int .i64 i), (4, .int .i64 k)], [], fun x => x ∈ []⟩) (fun k => k ≤ p.length ∧ p.any subBad = (p.drop k).any subBad) (fun k => p.length - k) 0 0 (Wk.same ?_) (by simp) ?_
        · (simp only [lfOK, upd, initF]; repeat' first | exact AVle.refl _ _ | exact trivial | refine And.intro ?_ ?_ | exact AVle.int (by simp only [IntKind.wrap_i64]; omega))
        rintro γ2 k hf2 ⟨hk, hinv2⟩
        generalize hQ2 : kIt _ _ _ _ _ = Q2
        unfold ir_clavierref03params_l0
        by_cases hlt2 : k < p.length
        · have hd2 : decide ((k : Int) < (p.length : Int)) = true := by simp; omega
          have hg2 : (intsAV p).getD k [] = [.int .i64 p[k]] := intsAV_get hlt2
          have hdrop2 : p.drop k = p[k] :: p.drop (k + 1) := List.drop_eq_getElem_cons hlt2
          have hw2 : IntKind.i64.wrap ((k : Int) + 1) = ((k + 1 : Nat) : Int) := by rw [IntKind.wrap_i64]; omega
          rw [hdrop2, List.any_cons] at hinv2
          generalize p[k] = x at hg2 hinv2
          simp +contextual (maxSteps := 1000000) only [hd2, hg1, hg2, parsAV_length, Int.toNat_natCast, intsV, intsAV_length, go_sem, reduceCtorEq, ↓reduceIte, Nat.reduceAdd, Nat.reduceEqDiff, Nat.reduceLeDiff, Nat.reduceMul, Nat.reduceBEq, Int.reduceBEq, Int.reduceBNe, Int.reduceLT, Int.reduceLE, Int.reduceGT, Int.reduceGE, Int.reduceToNat, Int.natCast_one, Int.natCast_zero, Int.cast_ofNat_Int]
          refine ⟨by omega, by omega, by omega, fun _ => by omega, fun _ => by omega, ?_⟩
          refine kCond_split (fun h2 => ?_) (fun h2 => ?_)
          · simp +contextual (maxSteps := 1000000) only [go_sem, reduceCtorEq, ↓reduceIte, Nat.reduceAdd, Nat.reduceEqDiff, Nat.reduceLeDiff, Nat.reduceMul, Nat.reduceBEq, Int.reduceBEq, Int.reduceBNe, Int.reduceLT, Int.reduceLE, Int.reduceGT, Int.reduceGE, Int.reduceToNat, Int.natCast_one, Int.natCast_zero, Int.cast_ofNat_Int]
            rw [← hQ2]
            simp only [w_kIt_r, w_kBlk_r, w_kSeq_r]
            rw [← hQ']
            simp only [w_kIt_r, w_kBlk_r, w_kSeq_r]
            rw [← hQ]
            refine ⟨trivial, Ret.flat ?_ rfl⟩
            have e : parBad p = true := by rw [← h', hinv2, subBad, h2, Bool.true_or]
            have : parsOk l = false := by simp only [parsOk, hinv, e, Bool.true_or, Bool.not_true, Bool.and_false]
            rw [this]; rfl
          · simp +contextual (maxSteps := 1000000) only [hw2, go_sem, reduceCtorEq, ↓reduceIte, Nat.reduceAdd, Nat.reduceEqDiff, Nat.reduceLeDiff, Nat.reduceMul, Nat.reduceBEq, Int.reduceBEq, Int.reduceBNe, Int.reduceLT, Int.reduceLE, Int.reduceGT, Int.reduceGE, Int.reduceToNat, Int.natCast_one, Int.natCast_zero, Int.cast_ofNat_Int]
            rw [← hQ2]
            simp only [w_kIt_n]
            refine ⟨0, k + 1, Wk.same ?_, ⟨by omega, ?_⟩, by omega⟩
            · repeat' first | exact AVle.refl _ _ | exact trivial | refine And.intro ?_ ?_ | exact AVle.int (by simp only [IntKind.wrap_i64]; omega)
            · rw [hinv2, subBad, h2, Bool.false_or]
        · have hd2 : decide ((k : Int) < (p.length : Int)) = false := by simp; omega
          simp +contextual (maxSteps := 1000000) only [hd2, hg1, parsAV_length, Int.toNat_natCast, intsV, intsAV_length, go_sem, reduceCtorEq, ↓reduceIte, Nat.reduceAdd, Nat.reduceEqDiff, Nat.reduceLeDiff, Nat.reduceMul, Nat.reduceBEq, Int.reduceBEq, Int.reduceBNe, Int.reduceLT, Int.reduceLE, Int.reduceGT, Int.reduceGE, Int.reduceToNat, Int.natCast_one, Int.natCast_zero, Int.cast_ofNat_Int]
          refine ⟨by omega, ?_⟩
          rw [← hQ2]
          simp only [w_kIt_e, w_kBlk_e, ↓reduceIte]
          simp +contextual (maxSteps := 1000000) only [hw, go_sem, reduceCtorEq, ↓reduceIte, Nat.reduceAdd, Nat.reduceEqDiff, Nat.reduceLeDiff, Nat.reduceMul, Nat.reduceBEq, Int.reduceBEq, Int.reduceBNe, Int.reduceLT, Int.reduceLE, Int.reduceGT, Int.reduceGE, Int.reduceToNat, Int.natCast_one, Int.natCast_zero, Int.cast_ofNat_Int]
          rw [← hQ']
          simp only [w_kIt_n]
          refine ⟨0, i + 1, Wk.same ?_, ⟨by omega, ?_⟩, by omega⟩
          · repeat' first | exact AVle.refl _ _ | exact trivial | refine And.intro ?_ ?_ | exact AVle.int (by simp only [IntKind.wrap_i64]; omega)
          · rw [List.drop_of_length_le (by omega), List.any_nil] at hinv2
            rw [hinv, ← h', hinv2, Bool.false_or]
    · have hd : decide ((i : Int) < (l.length : Int)) = false := by simp; omega
      simp +contextual (maxSteps := 1000000) only [hd, parsAV_length, go_sem, reduceCtorEq, ↓reduceIte, Nat.reduceAdd, Nat.reduceEqDiff, Nat.reduceLeDiff, Nat.reduceMul, Nat.reduceBEq, Int.reduceBEq, Int.reduceBNe, Int.reduceLT, Int.reduceLE, Int.reduceGT, Int.reduceGE, Int.reduceToNat, Int.natCast_one, Int.natCast_zero, Int.cast_ofNat_Int]
      rw [← hQ']
      simp only [w_kIt_e, w_kBlk_e, ↓reduceIte]
      simp +contextual (maxSteps := 1000000) only [go_sem, reduceCtorEq, ↓reduceIte, Nat.reduceAdd, Nat.reduceEqDiff, Nat.reduceLeDiff, Nat.reduceMul, Nat.reduceBEq, Int.reduceBEq, Int.reduceBNe, Int.reduceLT, Int.reduceLE, Int.reduceGT, Int.reduceGE, Int.reduceToNat, Int.natCast_one, Int.natCast_zero, Int.cast_ofNat_Int]
      unfold ir_clavierref03params_t3
      simp +contextual (maxSteps := 1000000) only [go_sem, reduceCtorEq, ↓reduceIte, Nat.reduceAdd, Nat.reduceEqDiff, Nat.reduceLeDiff, Nat.reduceMul, Nat.reduceBEq, Int.reduceBEq, Int.reduceBNe, Int.reduceLT, Int.reduceLE, Int.reduceGT, Int.reduceGE, Int.reduceToNat, Int.natCast_one, Int.natCast_zero, Int.cast_ofNat_Int]
      rw [← hQ]
      refine ⟨trivial, Ret.flat ?_ rfl⟩
      have : parsOk l = true := by
        rw [List.drop_of_length_le (by omega)] at hinv
        simp only [parsOk, hinv, e1, e2, Bool.or_false, Bool.not_false, List.any_nil, Bool.and_self]
      rw [this]; rfl
  have i5 : ∀ n : Nat, (((n + 1 + 1 : Nat) : Int) == 1) = false := fun n => by simp; omega
  have go : ∀ F c, F 0 = .sl none 1 (parsAV l) → decide (l.length > 16) = false → decide (l = [[-1]]) = false → aw Tryz.prog Gl ir_clavierref03params_t2 γ c ⟨F, [], fun x => x ∈ []⟩ Q := fun F c h0 e1 e2 => by
    unfold ir_clavierref03params_t2
    simp +contextual (maxSteps := 1000000) only [h0, go_sem, reduceCtorEq, ↓reduceIte, Nat.reduceAdd, Nat.reduceEqDiff, Nat.reduceLeDiff, Nat.reduceMul, Nat.reduceBEq, Int.reduceBEq, Int.reduceBNe, Int.reduceLT, Int.reduceLE, Int.reduceGT, Int.reduceGE, Int.reduceToNat, Int.natCast_one, Int.natCast_zero, Int.cast_ofNat_Int]
    refine loop _ _ ?_ e1 e2
    (simp only [lfOK, upd, initF]; repeat' first | exact AVle.refl _ _ | exact trivial | refine And.intro ?_ ?_ | exact AVle.int (by simp only [IntKind.wrap_i64]; omega))
  clear loop
  have no : parsOk l = false → ∀ γ c F, F 2 = .bool false → Q .ret γ c ⟨F, [], fun x => x ∈ []⟩ := fun h γ c F h2 => by
    rw [← hQ, h]
    exact ⟨trivial, Ret.flat (by simp only [resOf, getAll, IRes.get, h2]) rfl⟩
  match l, go, no with
  | [], go, no =>
    simp +contextual (maxSteps := 1000000) only [parsAV, List.map_nil, go_sem, reduceCtorEq, ↓reduceIte, Nat.reduceAdd, Nat.reduceEqDiff, Nat.reduceLeDiff, Nat.reduceMul, Nat.reduceBEq, Int.reduceBEq, Int.reduceBNe, Int.reduceLT, Int.reduceLE, Int.reduceGT, Int.reduceGE, Int.reduceToNat, Int.natCast_one, Int.natCast_zero, Int.cast_ofNat_Int]
    exact go _ _ rfl rfl rfl
  | [[]], go, no =>
    simp +contextual (maxSteps := 1000000) only [parsAV, intsV, intsAV, List.map_nil, List.map_cons, Int.zero_add, go_sem, reduceCtorEq, ↓reduceIte, Nat.reduceAdd, Nat.reduceEqDiff, Nat.reduceLeDiff, Nat.reduceMul, Nat.reduceBEq, Int.reduceBEq, Int.reduceBNe, Int.reduceLT, Int.reduceLE, Int.reduceGT, Int.reduceGE, Int.reduceToNat, Int.natCast_one, Int.natCast_zero, Int.cast_ofNat_Int]
    exact go _ _ rfl rfl rfl
  | [[n]], go, no =>
    simp +contextual (maxSteps := 1000000) only [parsAV, intsV, intsAV, List.map_nil, List.map_cons, Int.zero_add, go_sem, reduceCtorEq, ↓reduceIte, Nat.reduceAdd, Nat.reduceEqDiff, Nat.reduceLeDiff, Nat.reduceMul, Nat.reduceBEq, Int.reduceBEq, Int.reduceBNe, Int.reduceLT, Int.reduceLE, Int.reduceGT, Int.reduceGE, Int.reduceToNat, Int.natCast_one, Int.natCast_zero, Int.cast_ofNat_Int]
    refine kCond_split (fun h => ?_) (fun h => ?_)
    · simp +contextual (maxSteps := 1000000) only [go_sem, reduceCtorEq, ↓reduceIte, Nat.reduceAdd, Nat.reduceEqDiff, Nat.reduceLeDiff, Nat.reduceMul, Nat.reduceBEq, Int.reduceBEq, Int.reduceBNe, Int.reduceLT, Int.reduceLE, Int.reduceGT, Int.reduceGE, Int.reduceToNat, Int.natCast_one, Int.natCast_zero, Int.cast_ofNat_Int]
      refine no ?_ _ _ _ rfl
      have : n = -1 := by simpa using h
      subst this; rfl
    · simp +contextual (maxSteps := 1000000) only [go_sem, reduceCtorEq, ↓reduceIte, Nat.reduceAdd, Nat.reduceEqDiff, Nat.reduceLeDiff, Nat.reduceMul, Nat.reduceBEq, Int.reduceBEq, Int.reduceBNe, Int.reduceLT, Int.reduceLE, Int.reduceGT, Int.reduceGE, Int.reduceToNat, Int.natCast_one, Int.natCast_zero, Int.cast_ofNat_Int]
      have h2 : decide ([[n]] = [[-1]]) = false := by simpa using h
      exact go _ _ rfl rfl h2
  | [n :: m :: p], go, no =>
    simp +contextual (maxSteps := 1000000) only [parsAV, intsV, intsAV, List.map_nil, List.map_cons, Int.zero_add, i5, Bool.false_and, Bool.and_false, go_sem, reduceCtorEq, ↓reduceIte, Nat.reduceAdd, Nat.reduceEqDiff, Nat.reduceLeDiff, Nat.reduceMul, Nat.reduceBEq, Int.reduceBEq, Int.reduceBNe, Int.reduceLT, Int.reduceLE, Int.reduceGT, Int.reduceGE, Int.reduceToNat, Int.natCast_one, Int.natCast_zero, Int.cast_ofNat_Int]
    exact go _ _ rfl rfl (by simp)
  | p :: q :: l, go, no =>
    have i6 : decide (((l.length + 1 + 1 : Nat) : Int) > 16) = decide ((p :: q :: l).length > 16) := by rw [decide_eq_decide, List.length_cons, List.length_cons]; omega
    simp +contextual (maxSteps := 1000000) only [parsAV, intsV, intsAV, List.map_nil, List.map_cons, List.length_map, Int.zero_add, i5, i6, Bool.false_and, Bool.and_false, go_sem, reduceCtorEq, ↓reduceIte, Nat.reduceAdd, Nat.reduceEqDiff, Nat.reduceLeDiff, Nat.reduceMul, Nat.reduceBEq, Int.reduceBEq, Int.reduceBNe, Int.reduceLT, Int.reduceLE, Int.reduceGT, Int.reduceGE, Int.reduceToNat, Int.natCast_one, Int.natCast_zero, Int.cast_ofNat_Int]
    refine kCond_split (fun h => ?_) (fun h => ?_)
    · simp +contextual (maxSteps := 1000000) only [go_sem, reduceCtorEq, ↓reduceIte, Nat.reduceAdd, Nat.reduceEqDiff, Nat.reduceLeDiff, Nat.reduceMul, Nat.reduceBEq, Int.reduceBEq, Int.reduceBNe, Int.reduceLT, Int.reduceLE, Int.reduceGT, Int.reduceGE, Int.reduceToNat, Int.natCast_one, Int.natCast_zero, Int.cast_ofNat_Int]
      refine no ?_ _ _ _ rfl
      simp only [parsOk, List.length_cons, h, Bool.true_or, Bool.not_true, Bool.false_and]
    · simp +contextual (maxSteps := 1000000) only [go_sem, reduceCtorEq, ↓reduceIte, Nat.reduceAdd, Nat.reduceEqDiff, Nat.reduceLeDiff, Nat.reduceMul, Nat.reduceBEq, Int.reduceBEq, Int.reduceBNe, Int.reduceLT, Int.reduceLE, Int.reduceGT, Int.reduceGE, Int.reduceToNat, Int.natCast_one, Int.natCast_zero, Int.cast_ofNat_Int]
      exact go _ _ rfl h (by simp)
end Go.Proofs.YthmjlngdbabdeaaGreatDoor

/- The reference's layer 3: whether a sequence may be, walked. -/
set_option linter.unusedVariables false
set_option linter.unusedSimpArgs false
set_option maxRecDepth 100000
namespace Go.Proofs.YthmjlngdbabdeaaGreatDoor
open Go Go.Ab
/-- clavier/clavierref03.last -/
def ir_clavierref03last : ICode :=
 (.seq
  (.reg [⟨some 1, none, .box 35 (.t 0)⟩,
    ⟨some 2, none, .mov (.c (.bool false))⟩] (some [1]))
  (.seq
   (.seq
    (.reg [⟨some 4, none, .fa 0 (.t 1)⟩,
      ⟨some 5, none, .ld none (.t 4)⟩] (some [1, 5]))
    (.blk 0
     (.seq
      (.seq
       (.reg [⟨some 7, none, .bin .eql .none (.t 5) (.c (.int .i64 1))⟩,
         ⟨some 6, none, .mov (.t 7)⟩] (some [1, 5, 6]))
       (.cond (.t 6)
        .skip
        (.seq
         (.reg [⟨some 8, none, .bin .eql .none (.t 5) (.c (.int .i64 2))⟩,
           ⟨some 6, none, .mov (.t 8)⟩] (some [1, 5, 6]))
         (.cond (.t 6)
          .skip
          (.reg [⟨some 9, none, .bin .eql .none (.t 5) (.c (.int .i64 3))⟩,
            ⟨some 6, none, .mov (.t 9)⟩] (some [1, 5, 6]))))))
      (.cond (.t 6)
       (.seq
        (.reg [⟨some 10, none, .fa 4 (.t 1)⟩,
          ⟨some 11, none, .ld none (.t 10)⟩,
          ⟨some 12, none, .bin .geq .none (.t 11) (.c (.int .u8 64))⟩,
          ⟨some 13, none, .mov (.t 12)⟩,
          ⟨some 14, some (13, true), .fa 4 (.t 1)⟩,
          ⟨some 15, some (13, true), .ld none (.t 14)⟩,
          ⟨some 16, some (13, true), .bin .leq .none (.t 15) (.c (.int .u8 126))⟩,
          ⟨some 17, none, .pick (.t 13) (.t 16) (.c (.bool false))⟩,
          ⟨some 2, none, .mov (.t 17)⟩] (some [2]))
        .ret)
       (.seq
        (.reg [⟨some 19, none, .bin .eql .none (.t 5) (.c (.int .i64 5))⟩,
          ⟨some 18, none, .mov (.t 19)⟩] (some [1, 18]))
        (.cond (.t 18)
         (.seq
          (.seq
           (.reg [⟨some 20, none, .fa 4 (.t 1)⟩,
             ⟨some 21, none, .ld none (.t 20)⟩,
             ⟨some 22, none, .bin .lss .none (.t 21) (.c (.int .u8 48))⟩,
             ⟨some 23, none, .mov (.t 22)⟩,
             ⟨some 24, some (23, false), .fa 4 (.t 1)⟩,
             ⟨some 25, some (23, false), .ld none (.t 24)⟩,
             ⟨some 26, some (23, false), .bin .gtr .none (.t 25) (.c (.int .u8 126))⟩,
             ⟨some 27, none, .pick (.t 23) (.c (.bool true)) (.t 26)⟩] (some [1, 27]))
           (.cond (.t 27)
            (.seq
             (.reg [⟨some 2, none, .mov (.c (.bool false))⟩] (some [2]))
             .ret)
            .skip))
          (.seq
           (.reg [⟨some 28, none, .fa 4 (.t 1)⟩,
             ⟨some 29, none, .ld none (.t 28)⟩,
             ⟨some 3, none, .mov (.t 29)⟩] (some [1, 3]))
           (.seq
            (.reg [⟨some 30, none, .fa 3 (.t 1)⟩,
              ⟨some 31, none, .ld none (.t 30)⟩,
              ⟨some 32, none, .lns (.t 31)⟩,
              ⟨some 33, none, .bin .gtr .none (.t 32) (.c (.int .i64 0))⟩,
              ⟨some 34, none, .mov (.t 33)⟩,
              ⟨some 35, some (34, false), .mov (.t 3)⟩,
              ⟨some 36, some (34, false), .bin .neq .none (.t 35) (.c (.int .u8 79))⟩,
              ⟨some 37, some (34, false), .mov (.t 36)⟩,
              ⟨some 38, some (37, true), .mov (.t 3)⟩,
              ⟨some 39, some (37, true), .bin .neq .none (.t 38) (.c (.int .u8 80))⟩,
              ⟨some 40, some (34, false), .pick (.t 37) (.t 39) (.c (.bool false))⟩,
              ⟨some 41, some (34, false), .mov (.t 40)⟩,
              ⟨some 42, some (41, true), .mov (.t 3)⟩,
              ⟨some 43, some (41, true), .bin .neq .none (.t 42) (.c (.int .u8 88))⟩,
              ⟨some 44, some (34, false), .pick (.t 41) (.t 43) (.c (.bool false))⟩,
              ⟨some 45, some (34, false), .mov (.t 44)⟩,
              ⟨some 46, some (45, true), .mov (.t 3)⟩,
              ⟨some 47, some (45, true), .bin .neq .none (.t 46) (.c (.int .u8 91))⟩,
              ⟨some 48, some (34, false), .pick (.t 45) (.t 47) (.c (.bool false))⟩,
              ⟨some 49, some (34, false), .mov (.t 48)⟩,
              ⟨some 50, some (49, true), .mov (.t 3)⟩,
              ⟨some 51, some (49, true), .bin .neq .none (.t 50) (.c (.int .u8 93))⟩,
              ⟨some 52, some (34, false), .pick (.t 49) (.t 51) (.c (.bool false))⟩,
              ⟨some 53, some (34, false), .mov (.t 52)⟩,
              ⟨some 54, some (53, true), .mov (.t 3)⟩,
              ⟨some 55, some (53, true), .bin .neq .none (.t 54) (.c (.int .u8 92))⟩,
              ⟨some 56, some (34, false), .pick (.t 53) (.t 55) (.c (.bool false))⟩,
              ⟨some 57, some (34, false), .mov (.t 56)⟩,
              ⟨some 58, some (57, true), .mov (.t 3)⟩,
              ⟨some 59, some (57, true), .bin .neq .none (.t 58) (.c (.int .u8 94))⟩,
              ⟨some 60, some (34, false), .pick (.t 57) (.t 59) (.c (.bool false))⟩,
              ⟨some 61, some (34, false), .mov (.t 60)⟩,
              ⟨some 62, some (61, true), .mov (.t 3)⟩,
              ⟨some 63, some (61, true), .bin .neq .none (.t 62) (.c (.int .u8 95))⟩,
              ⟨some 64, some (34, false), .pick (.t 61) (.t 63) (.c (.bool false))⟩,
              ⟨some 65, none, .pick (.t 34) (.c (.bool true)) (.t 64)⟩,
              ⟨some 2, none, .mov (.t 65)⟩] (some [2]))
            .ret)))
         .skip))))))
   (.seq
    (.reg [⟨some 66, none, .fa 0 (.t 1)⟩,
      ⟨some 67, none, .ld none (.t 66)⟩,
      ⟨some 68, none, .bin .eql .none (.t 67) (.c (.int .i64 4))⟩,
      ⟨some 69, none, .mov (.t 68)⟩,
      ⟨some 70, some (69, true), .fa 4 (.t 1)⟩,
      ⟨some 71, some (69, true), .ld none (.t 70)⟩,
      ⟨some 72, some (69, true), .bin .eql .none (.t 71) (.c (.int .u8 0))⟩,
      ⟨some 73, none, .pick (.t 69) (.t 72) (.c (.bool false))⟩,
      ⟨some 2, none, .mov (.t 73)⟩] (some [2]))
    .ret)))
theorem is_clavierref03last : IrOf Tryz.prog 102 74 ir_clavierref03last [.t 2] := ⟨_, Tryz.func102, rfl, by kernel_rfl, by kernel_rfl, by kernel_rfl⟩

/-- clavier/clavierref03.bare -/
def ir_clavierref03bare : ICode :=
 (.seq
  (.reg [⟨some 1, none, .box 35 (.t 0)⟩,
    ⟨some 2, none, .mov (.c (.bool false))⟩] (some [1]))
  (.seq
   (.reg [⟨some 4, none, .fa 0 (.t 1)⟩,
     ⟨some 5, none, .ld none (.t 4)⟩,
     ⟨some 6, none, .bin .eql .none (.t 5) (.c (.int .i64 2))⟩,
     ⟨some 7, none, .mov (.t 6)⟩,
     ⟨some 8, some (7, false), .fa 0 (.t 1)⟩,
     ⟨some 9, some (7, false), .ld none (.t 8)⟩,
     ⟨some 10, some (7, false), .bin .eql .none (.t 9) (.c (.int .i64 4))⟩,
     ⟨some 11, none, .pick (.t 7) (.c (.bool true)) (.t 10)⟩,
     ⟨some 12, none, .mov (.t 11)⟩,
     ⟨some 13, some (12, false), .fa 0 (.t 1)⟩,
     ⟨some 14, some (12, false), .ld none (.t 13)⟩,
     ⟨some 15, some (12, false), .bin .eql .none (.t 14) (.c (.int .i64 5))⟩,
     ⟨some 16, none, .pick (.t 12) (.c (.bool true)) (.t 15)⟩,
     ⟨some 3, none, .mov (.t 16)⟩] (some [1, 3]))
   (.seq
    (.seq
     (.reg [⟨some 17, none, .mov (.t 3)⟩,
       ⟨some 18, none, .mov (.t 17)⟩,
       ⟨some 19, some (18, true), .fa 1 (.t 1)⟩,
       ⟨some 20, some (18, true), .ld none (.t 19)⟩,
       ⟨some 21, some (18, true), .bin .neq .none (.t 20) (.c (.int .u8 0))⟩,
       ⟨some 22, some (18, true), .mov (.t 21)⟩,
       ⟨some 23, some (22, false), .fa 2 (.t 1)⟩,
       ⟨some 24, some (22, false), .ld none (.t 23)⟩,
       ⟨some 25, some (22, false), .len (.t 24)⟩,
       ⟨some 26, some (22, false), .bin .gtr .none (.t 25) (.c (.int .i64 0))⟩,
       ⟨some 27, some (18, true), .pick (.t 22) (.c (.bool true)) (.t 26)⟩,
       ⟨some 28, none, .pick (.t 18) (.t 27) (.c (.bool false))⟩] (some [1, 28]))
     (.cond (.t 28)
      (.seq
       (.reg [⟨some 2, none, .mov (.c (.bool false))⟩] (some [2]))
       .ret)
      .skip))
    (.seq
     (.seq
      (.reg [⟨some 29, none, .fa 0 (.t 1)⟩,
        ⟨some 30, none, .ld none (.t 29)⟩,
        ⟨some 31, none, .bin .eql .none (.t 30) (.c (.int .i64 2))⟩,
        ⟨some 32, none, .mov (.t 31)⟩,
        ⟨some 33, some (32, false), .fa 0 (.t 1)⟩,
        ⟨some 34, some (32, false), .ld none (.t 33)⟩,
        ⟨some 35, some (32, false), .bin .eql .none (.t 34) (.c (.int .i64 4))⟩,
        ⟨some 36, none, .pick (.t 32) (.c (.bool true)) (.t 35)⟩,
        ⟨some 37, none, .mov (.t 36)⟩,
        ⟨some 38, some (37, true), .fa 3 (.t 1)⟩,
        ⟨some 39, some (37, true), .ld none (.t 38)⟩,
        ⟨some 40, some (37, true), .bin .neq .none (.t 39) (.c (.str []))⟩,
        ⟨some 41, none, .pick (.t 37) (.t 40) (.c (.bool false))⟩] (some [1, 41]))
      (.cond (.t 41)
       (.seq
        (.reg [⟨some 2, none, .mov (.c (.bool false))⟩] (some [2]))
        .ret)
       .skip))
     (.seq
      (.reg [⟨some 42, none, .fa 5 (.t 1)⟩,
        ⟨some 43, none, .ld none (.t 42)⟩,
        ⟨some 44, none, .bin .eql .none (.t 43) (.c (.str []))⟩,
        ⟨some 45, none, .mov (.t 44)⟩,
        ⟨some 46, some (45, false), .fa 0 (.t 1)⟩,
        ⟨some 47, some (45, false), .ld none (.t 46)⟩,
        ⟨some 48, some (45, false), .bin .eql .none (.t 47) (.c (.int .i64 3))⟩,
        ⟨some 49, none, .pick (.t 45) (.c (.bool true)) (.t 48)⟩,
        ⟨some 50, none, .mov (.t 49)⟩,
        ⟨some 51, some (50, false), .fa 0 (.t 1)⟩,
        ⟨some 52, some (50, false), .ld none (.t 51)⟩,
        ⟨some 53, some (50, false), .bin .eql .none (.t 52) (.c (.int .i64 4))⟩,
        ⟨some 54, none, .pick (.t 50) (.c (.bool true)) (.t 53)⟩,
        ⟨some 2, none, .mov (.t 54)⟩] (some [2]))
      .ret)))))
theorem is_clavierref03bare : IrOf Tryz.prog 103 55 ir_clavierref03bare [.t 2] := ⟨_, Tryz.func103, rfl, by kernel_rfl, by kernel_rfl, by kernel_rfl⟩

/-- clavier/clavierref03.May -/
def ir_clavierref03May : ICode :=
 (.seq
  (.reg [⟨some 1, none, .box 35 (.t 0)⟩,
    ⟨some 2, none, .mov (.c (.int .i64 0))⟩] (some [1]))
  (.seq
   (.seq
    (.reg [⟨some 3, none, .fa 5 (.t 1)⟩,
      ⟨some 4, none, .ld none (.t 3)⟩,
      ⟨some 5, none, .lns (.t 4)⟩,
      ⟨some 6, none, .bin .gtr .none (.t 5) (.c (.int .i64 4096))⟩] (some [1, 6]))
    (.cond (.t 6)
     (.seq
      (.reg [⟨some 2, none, .mov (.c (.int .i64 4))⟩] (some [2]))
      .ret)
     .skip))
   (.seq
    (.seq
     (.reg [⟨some 7, none, .fa 1 (.t 1)⟩,
       ⟨some 8, none, .ld none (.t 7)⟩,
       ⟨some 9, none, .bin .neq .none (.t 8) (.c (.int .u8 0))⟩,
       ⟨some 10, none, .mov (.t 9)⟩,
       ⟨some 11, some (10, true), .fa 1 (.t 1)⟩,
       ⟨some 12, some (10, true), .ld none (.t 11)⟩,
       ⟨some 13, some (10, true), .bin .lss .none (.t 12) (.c (.int .u8 60))⟩,
       ⟨some 14, some (10, true), .mov (.t 13)⟩,
       ⟨some 15, some (14, false), .fa 1 (.t 1)⟩,
       ⟨some 16, some (14, false), .ld none (.t 15)⟩,
       ⟨some 17, some (14, false), .bin .gtr .none (.t 16) (.c (.int .u8 63))⟩,
       ⟨some 18, some (10, true), .pick (.t 14) (.c (.bool true)) (.t 17)⟩,
       ⟨some 19, none, .pick (.t 10) (.t 18) (.c (.bool false))⟩,
       ⟨some 20, none, .mov (.t 19)⟩,
       ⟨some 21, some (20, false), .fa 2 (.t 1)⟩,
       ⟨some 22, some (20, false), .ld none (.t 21)⟩,
       ⟨some 23, some (20, false), .call (.c (.fn (.func 100) [] [])) [(.t 22)]⟩,
       ⟨some 24, some (20, false), .un .not (.t 23)⟩,
       ⟨some 25, none, .pick (.t 20) (.c (.bool true)) (.t 24)⟩,
       ⟨some 26, none, .mov (.t 25)⟩,
       ⟨some 27, some (26, false), .fa 3 (.t 1)⟩,
       ⟨some 28, some (26, false), .ld none (.t 27)⟩,
       ⟨some 29, some (26, false), .lns (.t 28)⟩,
       ⟨some 30, some (26, false), .bin .gtr .none (.t 29) (.c (.int .i64 2))⟩,
       ⟨some 31, none, .pick (.t 26) (.c (.bool true)) (.t 30)⟩,
       ⟨some 32, none, .mov (.t 31)⟩,
       ⟨some 33, some (32, false), .fa 3 (.t 1)⟩,
       ⟨some 34, some (32, false), .ld none (.t 33)⟩,
       ⟨some 35, some (32, false), .call (.c (.fn (.func 101) [] [])) [(.t 34), (.c (.int .u8 32)), (.c (.int .u8 47))]⟩,
       ⟨some 36, some (32, false), .un .not (.t 35)⟩,
       ⟨some 37, none, .pick (.t 32) (.c (.bool true)) (.t 36)⟩,
       ⟨some 38, none, .mov (.t 37)⟩,
       ⟨some 39, some (38, false), .fa 5 (.t 1)⟩,
       ⟨some 40, some (38, false), .ld none (.t 39)⟩,
       ⟨some 41, some (38, false), .call (.c (.fn (.func 101) [] [])) [(.t 40), (.c (.int .u8 32)), (.c (.int .u8 126))]⟩,
       ⟨some 42, some (38, false), .un .not (.t 41)⟩,
       ⟨some 43, none, .pick (.t 38) (.c (.bool true)) (.t 42)⟩,
       ⟨some 44, none, .mov (.t 43)⟩,
       ⟨some 45, some (44, false), .ld (some 6) (.t 1)⟩,
       ⟨some 46, some (44, false), .call (.c (.fn (.func 102) [] [])) [(.t 45)]⟩,
       ⟨some 47, some (44, false), .un .not (.t 46)⟩,
       ⟨some 48, none, .pick (.t 44) (.c (.bool true)) (.t 47)⟩,
       ⟨some 49, none, .mov (.t 48)⟩,
       ⟨some 50, some (49, false), .ld (some 6) (.t 1)⟩,
       ⟨some 51, some (49, false), .call (.c (.fn (.func 103) [] [])) [(.t 50)]⟩,
       ⟨some 52, some (49, false), .un .not (.t 51)⟩,
       ⟨some 53, none, .pick (.t 49) (.c (.bool true)) (.t 52)⟩] (some [53]))
     (.cond (.t 53)
      (.seq
       (.reg [⟨some 2, none, .mov (.c (.int .i64 1))⟩] (some [2]))
       .ret)
      .skip))
    (.seq
     (.reg [⟨some 2, none, .mov (.c (.int .i64 0))⟩] (some [2]))
     .ret))))
theorem is_clavierref03May : IrOf Tryz.prog 72 54 ir_clavierref03May [.t 2] := ⟨_, Tryz.func72, rfl, by kernel_rfl, by kernel_rfl, by kernel_rfl⟩


def firstsB (fi : Int) : Bool := fi != 79 && fi != 80 && fi != 88 && fi != 91 && fi != 93 && fi != 92 && fi != 94 && fi != 95
def lastP (s : Sq) : Bool :=
  if (s.k == 1) = true then decide (s.fi ≥ 64) && decide (s.fi ≤ 126)
  else if (s.k == 2) = true then decide (s.fi ≥ 64) && decide (s.fi ≤ 126)
  else if (s.k == 3) = true then decide (s.fi ≥ 64) && decide (s.fi ≤ 126)
  else if (s.k == 5) = true then
    if (decide (s.fi < 48) || decide (s.fi > 126)) = true then false
    else decide ((s.it.length : Int) > 0) || firstsB s.fi
  else s.k == 4 && s.fi == 0
theorem fs_rLast {Gl : Gh → Prop} (hst : Stays Gl) {s : Sq} : FS Tryz.prog Gl 102 [.agg s.c] [] [] (.bool (lastP s)) [] [] := by
  refine FS.of hm hst is_clavierref03last (by simp) fun γ hγ hfr => ?_
  obtain ⟨k, pr, ps, it, fi, da⟩ := s
  simp only [Sq.c, lastP]
  simp only [Sq.c] at hfr
  (generalize hQ : (fun (ex : Ex) (_ _ : Nat) (s : St) => _) = Q; unfold ir_clavierref03last)
  (simp +contextual (maxSteps := 1000000) only [go_sem, reduceCtorEq, ↓reduceIte, Nat.reduceAdd, Nat.reduceEqDiff, Nat.reduceLeDiff, Nat.reduceMul, Nat.reduceBEq, Int.reduceBEq, Int.reduceBNe, Int.reduceLT, Int.reduceLE, Int.reduceGT, Int.reduceGE, Int.reduceToNat, Int.natCast_one, Int.natCast_zero, Int.cast_ofNat_Int]; repeat' first | ((first | refine kCond_split (fun hg => ?_) (fun hg => ?_) | refine kGc_split (fun hg => ?_) (fun hg => ?_) | refine kPreG_split (fun hg => ?_) (fun hg => ?_)) <;> (try rw [hg]) <;> simp +contextual (maxSteps := 1000000) only [go_sem, reduceCtorEq, ↓reduceIte, Nat.reduceAdd, Nat.reduceEqDiff, Nat.reduceLeDiff, Nat.reduceMul, Nat.reduceBEq, Int.reduceBEq, Int.reduceBNe, Int.reduceLT, Int.reduceLE, Int.reduceGT, Int.reduceGE, Int.reduceToNat, Int.natCast_one, Int.natCast_zero, Int.cast_ofNat_Int]) | refine And.intro (by omega) ?_)
  all_goals (rw [← hQ]; clear hQ hfr; refine ⟨trivial, Ret.flat ?_ rfl⟩; first | (simp only [resOf, getAll, IRes.get, lf_cons, lf_nil, ↓reduceIte, Bool.false_eq_true, Option.some.injEq, AV.bool.injEq, AV.int.injEq, AV.tup.injEq, List.cons.injEq, true_and, and_true, firstsB, *]; done) | (simp [resOf, getAll, IRes.get, lf_cons, lf_nil, ↓reduceIte, Bool.false_eq_true, Option.some.injEq, AV.bool.injEq, AV.int.injEq, AV.tup.injEq, List.cons.injEq, true_and, and_true, firstsB, *]; done) | (simp_all [resOf, getAll, IRes.get, lf_cons, lf_nil, ↓reduceIte, Bool.false_eq_true, Option.some.injEq, AV.bool.injEq, AV.int.injEq, AV.tup.injEq, List.cons.injEq, true_and, and_true, firstsB]; done) | (simp_all [resOf, getAll, IRes.get, lf_cons, lf_nil, ↓reduceIte, Bool.false_eq_true, Option.some.injEq, AV.bool.injEq, AV.int.injEq, AV.tup.injEq, List.cons.injEq, true_and, and_true, firstsB]; omega))

def bareP (s : Sq) : Bool :=
  if ((s.k == 2 || s.k == 4 || s.k == 5) && (s.pr != 0 || decide ((s.ps.length : Int) > 0))) = true then false
  else if ((s.k == 2 || s.k == 4) && !decide (s.it = [])) = true then false
  else decide (s.da = []) || s.k == 3 || s.k == 4
theorem fs_rBare {Gl : Gh → Prop} (hst : Stays Gl) {s : Sq} : FS Tryz.prog Gl 103 [.agg s.c] [] [] (.bool (bareP s)) [] [] := by
  refine FS.of hm hst is_clavierref03bare (by simp) fun γ hγ hfr => ?_
  obtain ⟨k, pr, ps, it, fi, da⟩ := s
  simp only [Sq.c, bareP, parsV]
  simp only [Sq.c, parsV] at hfr
  (generalize hQ : (fun (ex : Ex) (_ _ : Nat) (s : St) => _) = Q; unfold ir_clavierref03bare)
  (simp +contextual (maxSteps := 1000000) only [parsAV_length, go_sem, reduceCtorEq, ↓reduceIte, Nat.reduceAdd, Nat.reduceEqDiff, Nat.reduceLeDiff, Nat.reduceMul, Nat.reduceBEq, Int.reduceBEq, Int.reduceBNe, Int.reduceLT, Int.reduceLE, Int.reduceGT, Int.reduceGE, Int.reduceToNat, Int.natCast_one, Int.natCast_zero, Int.cast_ofNat_Int]; repeat' first | ((first | refine kCond_split (fun hg => ?_) (fun hg => ?_) | refine kGc_split (fun hg => ?_) (fun hg => ?_) | refine kPreG_split (fun hg => ?_) (fun hg => ?_)) <;> (try rw [hg]) <;> simp +contextual (maxSteps := 1000000) only [parsAV_length, go_sem, reduceCtorEq, ↓reduceIte, Nat.reduceAdd, Nat.reduceEqDiff, Nat.reduceLeDiff, Nat.reduceMul, Nat.reduceBEq, Int.reduceBEq, Int.reduceBNe, Int.reduceLT, Int.reduceLE, Int.reduceGT, Int.reduceGE, Int.reduceToNat, Int.natCast_one, Int.natCast_zero, Int.cast_ofNat_Int]) | refine And.intro (by omega) ?_)
  all_goals (rw [← hQ]; clear hQ hfr; refine ⟨trivial, Ret.flat ?_ rfl⟩; first | (simp only [resOf, getAll, IRes.get, lf_cons, lf_nil, ↓reduceIte, Bool.false_eq_true, Option.some.injEq, AV.bool.injEq, AV.int.injEq, AV.tup.injEq, List.cons.injEq, true_and, and_true, *]; done) | (simp [resOf, getAll, IRes.get, lf_cons, lf_nil, ↓reduceIte, Bool.false_eq_true, Option.some.injEq, AV.bool.injEq, AV.int.injEq, AV.tup.injEq, List.cons.injEq, true_and, and_true, *]; done) | (simp_all [resOf, getAll, IRes.get, lf_cons, lf_nil, ↓reduceIte, Bool.false_eq_true, Option.some.injEq, AV.bool.injEq, AV.int.injEq, AV.tup.injEq, List.cons.injEq, true_and, and_true]; done) | (simp_all [resOf, getAll, IRes.get, lf_cons, lf_nil, ↓reduceIte, Bool.false_eq_true, Option.some.injEq, AV.bool.injEq, AV.int.injEq, AV.tup.injEq, List.cons.injEq, true_and, and_true]; omega))
theorem firsts_eq {fi : Int} (h0 : 0 ≤ fi) (h1 : fi < 256) : firstsB fi = !([79, 80, 88, 91, 93, 92, 94, 95] : List UInt8).contains fi.toNat.toUInt8 := by
  obtain ⟨c, rfl⟩ : ∃ c : UInt8, fi = (c.toNat : Int) := ⟨UInt8.ofNat fi.toNat, by rw [UInt8.toNat_ofNat', Nat.mod_eq_of_lt (by omega)]; omega⟩
  have e : ((c.toNat : Int).toNat.toUInt8) = c := by simp
  rw [e, Bool.eq_iff_iff]
  simp only [firstsB, List.contains_cons, List.contains_nil, Bool.or_false, Bool.not_eq_true', Bool.or_eq_false_iff, beq_eq_false_iff_ne, ne_eq, ← UInt8.toNat_inj, Bool.and_eq_true, bne_iff_ne, UInt8.reduceToNat]
  omega
theorem may_eq {s : Sq} (h0 : 0 ≤ s.fi) (h1 : s.fi < 256) : (lastP s && bareP s) = shapedP s := by
  obtain ⟨k, pr, ps, it, fi, da⟩ := s
  simp only at h0 h1
  have e := firsts_eq h0 h1
  simp only [lastP, bareP, shapedP, e]
  generalize ([79, 80, 88, 91, 93, 92, 94, 95] : List UInt8).contains fi.toNat.toUInt8 = z
  clear e
  rw [Bool.eq_iff_iff]
  by_cases k1 : k = 1
  · subst k1; simp; grind
  by_cases k2 : k = 2
  · subst k2; simp; grind
  by_cases k3 : k = 3
  · subst k3; simp
  by_cases k4 : k = 4
  · subst k4; simp; grind
  by_cases k5 : k = 5
  · subst k5; simp [List.length_pos_iff]; grind
  · simp [k1, k2, k3, k4, k5]

theorem bool7 : ∀ z1 z2 z3 z4 z5 z6 z7 : Bool, ((!!z1 || !(!z2 && z4) || !z3 || !z5) || !(z6 && z7)) = ((((z1 || !z3 || z2 || !z4) || !z5) || !z6) || !z7) := by decide
theorem fs_rMay {Gl : Gh → Prop} (hst : Stays Gl) {s : Sq} (hf0 : 0 ≤ s.fi) (hf1 : s.fi < 256) (h1 : s.ps.length < 9223372036854775808) (h2 : ∀ p ∈ s.ps, p.length < 9223372036854775808) (h3 : s.it.length < 9223372036854775808) (h4 : s.da.length < 9223372036854775808) :
    FS Tryz.prog Gl 72 [.agg s.c] [] [] (.int .i64 (mayP s)) [] [] := by
  have c1 := fs_rParams hst h1 h2
  have c2 := fs_within hst (x := 32) (y := 47) h3
  have c3 := fs_within hst (x := 32) (y := 126) h4
  have c4 := fs_rLast hst (s := s)
  have c5 := fs_rBare hst (s := s)
  have e := may_eq hf0 hf1
  refine FS.of hm hst is_clavierref03May (by simp) fun γ hγ hfr => ?_
  obtain ⟨k, pr, ps, it, fi, da⟩ := s
  simp only [Sq.c] at *
  (generalize hQ : (fun (ex : Ex) (_ _ : Nat) (s : St) => _) = Q; unfold ir_clavierref03May)
  simp +contextual (maxSteps := 1000000) only [go_sem, reduceCtorEq, ↓reduceIte, Nat.reduceAdd, Nat.reduceEqDiff, Nat.reduceLeDiff, Nat.reduceMul, Nat.reduceBEq, Int.reduceBEq, Int.reduceBNe, Int.reduceLT, Int.reduceLE, Int.reduceGT, Int.reduceGE, Int.reduceToNat, Int.natCast_one, Int.natCast_zero, Int.cast_ofNat_Int]
  refine kCond_split (fun h => ?_) (fun h => ?_)
  · simp +contextual (maxSteps := 1000000) only [go_sem, reduceCtorEq, ↓reduceIte, Nat.reduceAdd, Nat.reduceEqDiff, Nat.reduceLeDiff, Nat.reduceMul, Nat.reduceBEq, Int.reduceBEq, Int.reduceBNe, Int.reduceLT, Int.reduceLE, Int.reduceGT, Int.reduceGE, Int.reduceToNat, Int.natCast_one, Int.natCast_zero, Int.cast_ofNat_Int]
    rw [← hQ]
    refine ⟨trivial, Ret.flat ?_ rfl⟩
    rw [mayP, if_pos h]; rfl
  · simp +contextual (maxSteps := 1000000) only [go_sem, reduceCtorEq, ↓reduceIte, Nat.reduceAdd, Nat.reduceEqDiff, Nat.reduceLeDiff, Nat.reduceMul, Nat.reduceBEq, Int.reduceBEq, Int.reduceBNe, Int.reduceLT, Int.reduceLE, Int.reduceGT, Int.reduceGE, Int.reduceToNat, Int.natCast_one, Int.natCast_zero, Int.cast_ofNat_Int]
    (refine kGc_call (c1) (fun _ => rfl) (fun hgc => ?_) ?_; (focus (first | (rw [Bool.not_eq_true'] at hgc; simp only [List.map_cons, List.map_nil, List.nil_append, List.append_nil, List.cons_append, Xev_t, Xev_c, upd_app, lf_cons, lf_nil, Nat.reduceEqDiff, ↓reduceIte, hgc, Bool.false_eq_true, Bool.true_eq_false, reduceCtorEq]; done) | (simp only [List.map_cons, List.map_nil, List.nil_append, List.append_nil, List.cons_append, Xev_t, Xev_c, upd_app, lf_cons, lf_nil, Nat.reduceEqDiff, ↓reduceIte, hgc, Bool.false_eq_true, Bool.true_eq_false, reduceCtorEq]; done) | (revert hgc; simp +contextual [Xev_t, Xev_c, upd_app, lf_cons, lf_nil]; done) | simp [Xev_t, Xev_c, upd_app, lf_cons, lf_nil])); simp +contextual (maxSteps := 1000000) only [go_sem, reduceCtorEq, ↓reduceIte, Nat.reduceAdd, Nat.reduceEqDiff, Nat.reduceLeDiff, Nat.reduceMul, Nat.reduceBEq, Int.reduceBEq, Int.reduceBNe, Int.reduceLT, Int.reduceLE, Int.reduceGT, Int.reduceGE, Int.reduceToNat, Int.natCast_one, Int.natCast_zero, Int.cast_ofNat_Int])

    (refine kGc_call (c2) (fun _ => rfl) (fun hgc => ?_) ?_; (focus (first | (rw [Bool.not_eq_true'] at hgc; simp only [List.map_cons, List.map_nil, List.nil_append, List.append_nil, List.cons_append, Xev_t, Xev_c, upd_app, lf_cons, lf_nil, Nat.reduceEqDiff, ↓reduceIte, hgc, Bool.false_eq_true, Bool.true_eq_false, reduceCtorEq]; done) | (simp only [List.map_cons, List.map_nil, List.nil_append, List.append_nil, List.cons_append, Xev_t, Xev_c, upd_app, lf_cons, lf_nil, Nat.reduceEqDiff, ↓reduceIte, hgc, Bool.false_eq_true, Bool.true_eq_false, reduceCtorEq]; done) | (revert hgc; simp +contextual [Xev_t, Xev_c, upd_app, lf_cons, lf_nil]; done) | simp [Xev_t, Xev_c, upd_app, lf_cons, lf_nil])); simp +contextual (maxSteps := 1000000) only [go_sem, reduceCtorEq, ↓reduceIte, Nat.reduceAdd, Nat.reduceEqDiff, Nat.reduceLeDiff, Nat.reduceMul, Nat.reduceBEq, Int.reduceBEq, Int.reduceBNe, Int.reduceLT, Int.reduceLE, Int.reduceGT, Int.reduceGE, Int.reduceToNat, Int.natCast_one, Int.natCast_zero, Int.cast_ofNat_Int])
    (refine kGc_call (c3) (fun _ => rfl) (fun hgc => ?_) ?_; (focus (first | (rw [Bool.not_eq_true'] at hgc; simp only [List.map_cons, List.map_nil, List.nil_append, List.append_nil, List.cons_append, Xev_t, Xev_c, upd_app, lf_cons, lf_nil, Nat.reduceEqDiff, ↓reduceIte, hgc, Bool.false_eq_true, Bool.true_eq_false, reduceCtorEq]; done) | (simp only [List.map_cons, List.map_nil, List.nil_append, List.append_nil, List.cons_append, Xev_t, Xev_c, upd_app, lf_cons, lf_nil, Nat.reduceEqDiff, ↓reduceIte, hgc, Bool.false_eq_true, Bool.true_eq_false, reduceCtorEq]; done) | (revert hgc; simp +contextual [Xev_t, Xev_c, upd_app, lf_cons, lf_nil]; done) | simp [Xev_t, Xev_c, upd_app, lf_cons, lf_nil])); simp +contextual (maxSteps := 1000000) only [go_sem, reduceCtorEq, ↓reduceIte, Nat.reduceAdd, Nat.reduceEqDiff, Nat.reduceLeDiff, Nat.reduceMul, Nat.reduceBEq, Int.reduceBEq, Int.reduceBNe, Int.reduceLT, Int.reduceLE, Int.reduceGT, Int.reduceGE, Int.reduceToNat, Int.natCast_one, Int.natCast_zero, Int.cast_ofNat_Int])
    (refine kGc_call (c4) (fun _ => rfl) (fun hgc => ?_) ?_; (focus (first | (rw [Bool.not_eq_true'] at hgc; simp only [List.map_cons, List.map_nil, List.nil_append, List.append_nil, List.cons_append, Xev_t, Xev_c, upd_app, lf_cons, lf_nil, Nat.reduceEqDiff, ↓reduceIte, hgc, Bool.false_eq_true, Bool.true_eq_false, reduceCtorEq]; done) | (simp only [List.map_cons, List.map_nil, List.nil_append, List.append_nil, List.cons_append, Xev_t, Xev_c, upd_app, lf_cons, lf_nil, Nat.reduceEqDiff, ↓reduceIte, hgc, Bool.false_eq_true, Bool.true_eq_false, reduceCtorEq]; done) | (revert hgc; simp +contextual [Xev_t, Xev_c, upd_app, lf_cons, lf_nil]; done) | simp [Xev_t, Xev_c, upd_app, lf_cons, lf_nil])); simp +contextual (maxSteps := 1000000) only [go_sem, reduceCtorEq, ↓reduceIte, Nat.reduceAdd, Nat.reduceEqDiff, Nat.reduceLeDiff, Nat.reduceMul, Nat.reduceBEq, Int.reduceBEq, Int.reduceBNe, Int.reduceLT, Int.reduceLE, Int.reduceGT, Int.reduceGE, Int.reduceToNat, Int.natCast_one, Int.natCast_zero, Int.cast_ofNat_Int])
    (refine kGc_call (c5) (fun _ => rfl) (fun hgc => ?_) ?_; (focus (first | (rw [Bool.not_eq_true'] at hgc; simp only [List.map_cons, List.map_nil, List.nil_append, List.append_nil, List.cons_append, Xev_t, Xev_c, upd_app, lf_cons, lf_nil, Nat.reduceEqDiff, ↓reduceIte, hgc, Bool.false_eq_true, Bool.true_eq_false, reduceCtorEq]; done) | (simp only [List.map_cons, List.map_nil, List.nil_append, List.append_nil, List.cons_append, Xev_t, Xev_c, upd_app, lf_cons, lf_nil, Nat.reduceEqDiff, ↓reduceIte, hgc, Bool.false_eq_true, Bool.true_eq_false, reduceCtorEq]; done) | (revert hgc; simp +contextual [Xev_t, Xev_c, upd_app, lf_cons, lf_nil]; done) | simp [Xev_t, Xev_c, upd_app, lf_cons, lf_nil])); simp +contextual (maxSteps := 1000000) only [go_sem, reduceCtorEq, ↓reduceIte, Nat.reduceAdd, Nat.reduceEqDiff, Nat.reduceLeDiff, Nat.reduceMul, Nat.reduceBEq, Int.reduceBEq, Int.reduceBNe, Int.reduceLT, Int.reduceLE, Int.reduceGT, Int.reduceGE, Int.reduceToNat, Int.natCast_one, Int.natCast_zero, Int.cast_ofNat_Int])
    have q1 : (pr == 0 || (decide (pr ≥ 60) && decide (pr ≤ 63))) = !(pr != 0 && (decide (pr < 60) || decide (pr > 63))) := by
      rw [Bool.eq_iff_iff]; simp <;> omega
    have q2 : decide ((it.length : Int) ≤ 2) = !decide ((it.length : Int) > 2) := by rw [Bool.eq_iff_iff]; simp
    have em : mayP ⟨k, pr, ps, it, fi, da⟩ = if (((pr != 0 && (decide (pr < 60) || decide (pr > 63)) || !parsOk ps || decide ((it.length : Int) > 2) || !it.all fun c => decide (32 ≤ (c.toNat : Int)) && decide ((c.toNat : Int) ≤ 47)) || !da.all fun c => decide (32 ≤ (c.toNat : Int)) && decide ((c.toNat : Int) ≤ 126)) || !lastP ⟨k, pr, ps, it, fi, da⟩ || !bareP ⟨k, pr, ps, it, fi, da⟩) = true then 1 else 0 := by
      simp only [mayP]
      rw [h, ← e, q1, q2]
      simp only [within, Bool.false_eq_true, if_false]
      exact congrArg (fun b : Bool => if b = true then (1 : Int) else 0) (bool7 _ _ _ _ _ _ _)
    rw [em] at hQ
    refine kCond_split (fun h' => ?_) (fun h' => ?_)
    · simp +contextual (maxSteps := 1000000) only [go_sem, reduceCtorEq, ↓reduceIte, Nat.reduceAdd, Nat.reduceEqDiff, Nat.reduceLeDiff, Nat.reduceMul, Nat.reduceBEq, Int.reduceBEq, Int.reduceBNe, Int.reduceLT, Int.reduceLE, Int.reduceGT, Int.reduceGE, Int.reduceToNat, Int.natCast_one, Int.natCast_zero, Int.cast_ofNat_Int]
      rw [← hQ]
      exact ⟨trivial, Ret.flat (by rw [if_pos h']; rfl) (by split <;> rfl)⟩
    · simp +contextual (maxSteps := 1000000) only [go_sem, reduceCtorEq, ↓reduceIte, Nat.reduceAdd, Nat.reduceEqDiff, Nat.reduceLeDiff, Nat.reduceMul, Nat.reduceBEq, Int.reduceBEq, Int.reduceBNe, Int.reduceLT, Int.reduceLE, Int.reduceGT, Int.reduceGE, Int.reduceToNat, Int.natCast_one, Int.natCast_zero, Int.cast_ofNat_Int]
      rw [← hQ]
      exact ⟨trivial, Ret.flat (by rw [if_neg (by rw [h']; exact Bool.false_ne_true)]; rfl) (by split <;> rfl)⟩
end Go.Proofs.YthmjlngdbabdeaaGreatDoor

/- The reference's layer 3: a sequence as bytes, walked. -/
set_option linter.unusedVariables false
set_option linter.unusedSimpArgs false
set_option maxRecDepth 100000
namespace Go.Proofs.YthmjlngdbabdeaaGreatDoor
open Go Go.Ab
/- clavier/clavierref03.body -/
def ir_clavierref03body_l0 : ICode :=
 (.seq
                (.seq
                 (.reg [⟨some 24, none, .mov (.t 5)⟩,
                   ⟨some 25, none, .fa 2 (.t 1)⟩,
                   ⟨some 26, none, .ld none (.t 25)⟩,
                   ⟨some 27, none, .mov (.t 4)⟩,
                   ⟨some 28, none, .ia 1 (.t 26) (.t 27)⟩,
                   ⟨some 29, none, .ld none (.t 28)⟩,
                   ⟨some 30, none, .len (.t 29)⟩,
                   ⟨some 31, none, .bin .lss .none (.t 24) (.t 30)⟩] (some [1, 3, 4, 5, 31]))
                 (.cond (.t 31)
                  .skip
                  (.exit 2)))
                (.seq
                 (.blk 3
                  (.seq
                   (.seq
                    (.reg [⟨some 34, none, .mov (.t 5)⟩,
                      ⟨some 35, none, .bin .gtr .none (.t 34) (.c (.int .i64 0))⟩] (some [1, 3, 4, 5, 35]))
                    (.cond (.t 35)
                     (.reg [⟨some 36, none, .mov (.t 3)⟩,
                       ⟨some 37, none, .bin .add .none (.t 36) (.c (.str [58]))⟩,
                       ⟨some 3, none, .mov (.t 37)⟩] (some [1, 3, 4, 5]))
                     .skip))
                   (.reg [⟨some 38, none, .mov (.t 3)⟩,
                     ⟨some 39, none, .fa 2 (.t 1)⟩,
                     ⟨some 40, none, .ld none (.t 39)⟩,
                     ⟨some 41, none, .mov (.t 4)⟩,
                     ⟨some 42, none, .ia 1 (.t 40) (.t 41)⟩,
                     ⟨some 43, none, .ld none (.t 42)⟩,
                     ⟨some 44, none, .mov (.t 5)⟩,
                     ⟨some 45, none, .ia 1 (.t 43) (.t 44)⟩,
                     ⟨some 46, none, .ld none (.t 45)⟩,
                     ⟨some 47, none, .call (.c (.fn (.func 104) [] [])) [(.t 46)]⟩,
                     ⟨some 48, none, .bin .add .none (.t 38) (.t 47)⟩,
                     ⟨some 3, none, .mov (.t 48)⟩] (some [1, 3, 4, 5]))))
                 (.reg [⟨some 32, none, .mov (.t 5)⟩,
                   ⟨some 33, none, .bin .add .none (.t 32) (.c (.int .i64 1))⟩,
                   ⟨some 5, none, .mov (.t 33)⟩] (some [1, 3, 4, 5]))))
def ir_clavierref03body_l1 : ICode :=
 (.seq
         (.seq
          (.reg [⟨some 13, none, .mov (.t 4)⟩,
            ⟨some 14, none, .fa 2 (.t 1)⟩,
            ⟨some 15, none, .ld none (.t 14)⟩,
            ⟨some 16, none, .len (.t 15)⟩,
            ⟨some 17, none, .bin .lss .none (.t 13) (.t 16)⟩] (some [1, 3, 4, 17]))
          (.cond (.t 17)
           .skip
           (.exit 0)))
         (.seq
          (.blk 1
           (.seq
            (.seq
             (.reg [⟨some 20, none, .mov (.t 4)⟩,
               ⟨some 21, none, .bin .gtr .none (.t 20) (.c (.int .i64 0))⟩] (some [1, 3, 4, 21]))
             (.cond (.t 21)
              (.reg [⟨some 22, none, .mov (.t 3)⟩,
                ⟨some 23, none, .bin .add .none (.t 22) (.c (.str [59]))⟩,
                ⟨some 3, none, .mov (.t 23)⟩] (some [1, 3, 4]))
              .skip))
            (.seq
             (.reg [⟨some 5, none, .mov (.c (.int .i64 0))⟩] (some [1, 3, 4, 5]))
             (.blk 2
              (.loop
               ir_clavierref03body_l0)))))
          (.reg [⟨some 18, none, .mov (.t 4)⟩,
            ⟨some 19, none, .bin .add .none (.t 18) (.c (.int .i64 1))⟩,
            ⟨some 4, none, .mov (.t 19)⟩] (some [1, 3, 4]))))
def ir_clavierref03body_t4 : ICode :=
 (.seq
  (.reg [⟨some 49, none, .mov (.t 3)⟩,
        ⟨some 50, none, .fa 3 (.t 1)⟩,
        ⟨some 51, none, .ld none (.t 50)⟩,
        ⟨some 52, none, .bin .add .none (.t 49) (.t 51)⟩,
        ⟨some 2, none, .mov (.t 52)⟩] (some [2]))
  .ret)
def ir_clavierref03body_t3 : ICode :=
 (.seq
  (.seq
      (.reg [⟨some 4, none, .mov (.c (.int .i64 0))⟩] (some [1, 3, 4]))
      (.blk 0
       (.loop
        ir_clavierref03body_l1)))
  ir_clavierref03body_t4)
def ir_clavierref03body_t2 : ICode :=
 (.seq
  (.seq
     (.reg [⟨some 6, none, .fa 1 (.t 1)⟩,
       ⟨some 7, none, .ld none (.t 6)⟩,
       ⟨some 8, none, .bin .neq .none (.t 7) (.c (.int .u8 0))⟩] (some [1, 3, 8]))
     (.cond (.t 8)
      (.reg [⟨some 9, none, .fa 1 (.t 1)⟩,
        ⟨some 10, none, .ld none (.t 9)⟩,
        ⟨some 11, none, .row 5 1 [(.t 10)]⟩,
        ⟨some 12, none, .b2s (.t 11)⟩,
        ⟨some 3, none, .mov (.t 12)⟩] (some [1, 3]))
      .skip))
  ir_clavierref03body_t3)
def ir_clavierref03body_t1 : ICode :=
 (.seq
  (.reg [⟨some 3, none, .mov (.c (.str []))⟩] (some [1, 3]))
  ir_clavierref03body_t2)
def ir_clavierref03body : ICode :=
 (.seq
  (.reg [⟨some 1, none, .box 35 (.t 0)⟩,
    ⟨some 2, none, .mov (.c (.str []))⟩] (some [1]))
  ir_clavierref03body_t1)
theorem is_clavierref03body : IrOf Tryz.prog 73 53 ir_clavierref03body [.t 2] := ⟨_, Tryz.func73, rfl, by kernel_rfl, by kernel_rfl, by kernel_rfl⟩


def prB (pr : Int) : List UInt8 := if (pr != 0) = true then [pr.toNat.toUInt8] else []
def bodyB (s : Sq) : List UInt8 := prB s.pr ++ parsText s.ps ++ s.it
theorem byteOf {n : Int} (h0 : 0 ≤ n) (h1 : n < 256) : ∃ c : UInt8, n = (c.toNat : Int) := ⟨UInt8.ofNat n.toNat, by rw [UInt8.toNat_ofNat', Nat.mod_eq_of_lt (by omega)]; omega⟩
theorem subText_len {p : List Int} (h : ∀ n ∈ p, n ≤ 1114111) : (subText p).length ≤ 20 * p.length := by
  induction p with
  | nil => simp [subText, jn]
  | cons n p ih =>
    have h1 : (textZ n).length ≤ 19 := by
      unfold textZ
      split
      · simp
      · exact decB_len20 (by have := h n (by simp); omega)
    cases p with
    | nil => simp [subText, jn]; omega
    | cons m p =>
      have := ih fun x hx => h x (by simp at hx ⊢; exact .inr hx)
      simp only [subText, List.map_cons] at this ⊢
      rw [jn_cons (by simp)]
      simp only [List.length_append, List.length_cons] at this ⊢; omega
theorem parsText_len {ps : List (List Int)} (h : ∀ p ∈ ps, p.length ≤ 8 ∧ ∀ n ∈ p, n ≤ 1114111) : (parsText ps).length ≤ 161 * ps.length := by
  induction ps with
  | nil => simp [parsText, jn]
  | cons n p ih =>
    have h1 := subText_len (h n (by simp)).2
    have h2 := (h n (by simp)).1
    cases p with
    | nil => simp [parsText, jn]; omega
    | cons m p =>
      have := ih fun x hx => h x (by simp at hx ⊢; exact .inr hx)
      simp only [parsText, List.map_cons] at this ⊢
      rw [jn_cons (by simp)]
      simp only [List.length_append, List.length_cons] at this ⊢; omega

/-- The text up to a parameter's part. -/
def upSub (p : List Int) (k : Nat) : List UInt8 := subText (p.take k)
def upPar (ps : List (List Int)) (i : Nat) : List UInt8 := parsText (ps.take i)
theorem upSub_succ {p : List Int} {k : Nat} (h : k < p.length) : upSub p (k + 1) = (if k = 0 then [] else upSub p k ++ [58]) ++ textZ p[k] := by
  unfold upSub subText
  rw [List.take_add_one, List.getElem?_eq_getElem h]
  by_cases hk : k = 0
  · subst hk; simp [jn]
  · have hne : (p.take k).map textZ ≠ [] := by simp; exact ⟨hk, fun e => by subst e; simp at h⟩
    rw [if_neg hk]
    simp only [Option.toList_some, List.map_append, List.map_cons, List.map_nil]
    rw [jn_snoc hne]; simp
theorem upPar_succ {ps : List (List Int)} {i : Nat} (h : i < ps.length) : upPar ps (i + 1) = (if i = 0 then [] else upPar ps i ++ [59]) ++ subText ps[i] := by
  unfold upPar parsText
  rw [List.take_add_one, List.getElem?_eq_getElem h]
  by_cases hk : i = 0
  · subst hk; simp [jn]
  · have hne : (ps.take i).map subText ≠ [] := by simp; exact ⟨hk, fun e => by subst e; simp at h⟩
    rw [if_neg hk]
    simp only [Option.toList_some, List.map_append, List.map_cons, List.map_nil]
    rw [jn_snoc hne]; simp
set_option maxHeartbeats 1000000 in
theorem fs_rBody {Gl : Gh → Prop} (hst : Stays Gl) {s : Sq} (hp0 : 0 ≤ s.pr) (hp1 : s.pr < 256) (hit : s.it.length ≤ 1000) (hn : s.ps.length ≤ 16) (hb : ∀ p ∈ s.ps, p.length ≤ 8 ∧ ∀ n ∈ p, n ≤ 1114111) : FS Tryz.prog Gl 73 [.agg s.c] [] [] (.str (bodyB s)) [] [] := by
  refine FS.of hm hst is_clavierref03body (by simp) fun γ hγ hfr => ?_
  obtain ⟨k, pr, ps, it, fi, da⟩ := s
  simp only at hp0 hp1 hit hn hb
  simp only [Sq.c, bodyB, parsV]
  simp only [Sq.c, parsV] at hfr
  obtain ⟨c, rfl⟩ := byteOf hp0 hp1
  (generalize hQ : (fun (ex : Ex) (_ _ : Nat) (s : St) => _) = Q; unfold ir_clavierref03body)
  simp +contextual (maxSteps := 1000000) only [go_sem, reduceCtorEq, ↓reduceIte, Nat.reduceAdd, Nat.reduceEqDiff, Nat.reduceLeDiff, Nat.reduceMul, Nat.reduceBEq, Int.reduceBEq, Int.reduceBNe, Int.reduceLT, Int.reduceLE, Int.reduceGT, Int.reduceGE, Int.reduceToNat, Int.natCast_one, Int.natCast_zero, Int.cast_ofNat_Int]
  unfold ir_clavierref03body_t1
  simp +contextual (maxSteps := 1000000) only [go_sem, reduceCtorEq, ↓reduceIte, Nat.reduceAdd, Nat.reduceEqDiff, Nat.reduceLeDiff, Nat.reduceMul, Nat.reduceBEq, Int.reduceBEq, Int.reduceBNe, Int.reduceLT, Int.reduceLE, Int.reduceGT, Int.reduceGE, Int.reduceToNat, Int.natCast_one, Int.natCast_zero, Int.cast_ofNat_Int]
  unfold ir_clavierref03body_t2
  simp +contextual (maxSteps := 1000000) only [go_sem, reduceCtorEq, ↓reduceIte, Nat.reduceAdd, Nat.reduceEqDiff, Nat.reduceLeDiff, Nat.reduceMul, Nat.reduceBEq, Int.reduceBEq, Int.reduceBNe, Int.reduceLT, Int.reduceLE, Int.reduceGT, Int.reduceGE, Int.reduceToNat, Int.natCast_one, Int.natCast_zero, Int.cast_ofNat_Int]
  have hps : ∀ i, (upPar ps i).length ≤ 161 * 16 := fun i => by
    have := parsText_len (ps := ps.take i) fun p hp => hb p (List.mem_of_mem_take hp)
    have h2 : (ps.take i).length ≤ 16 := by rw [List.length_take]; omega
    unfold upPar; omega
  have hprl : (prB (c.toNat : Int)).length ≤ 1 := by unfold prB; split <;> simp
  have loop : ∀ F c0 t T, t = prB (c.toNat : Int) → F 1 = .ptr (γ, 0, 0) 0 → F 3 = .str t → aw Tryz.prog Gl ir_clavierref03body_t3 γ c0 ⟨F, [((γ, 0, 0), .cells [.int .i64 k, .int .u8 (c.toNat : Int), .sl none 1 (parsAV ps), .str it, .int .u8 fi, .str da])], T⟩ Q := by
    intro F c0 t T ht f1 f3
    subst ht
    unfold ir_clavierref03body_t3
    simp +contextual (maxSteps := 1000000) only [f1, f3, go_sem, reduceCtorEq, ↓reduceIte, Nat.reduceAdd, Nat.reduceEqDiff, Nat.reduceLeDiff, Nat.reduceMul, Nat.reduceBEq, Int.reduceBEq, Int.reduceBNe, Int.reduceLT, Int.reduceLE, Int.reduceGT, Int.reduceGE, Int.reduceToNat, Int.natCast_one, Int.natCast_zero, Int.cast_ofNat_Int]
    refine kLoop_ix (fun i : Nat => ⟨lf [(1, .ptr (γ, 0, 0) 0), (3, .str (prB (c.toNat : Int) ++ upPar ps i)), (4, .int .i64 i)], [((γ, 0, 0), .cells [.int .i64 k, .int .u8 (c.toNat : Int), .sl none 1 (parsAV ps), .str it, .int .u8 fi, .str da])], fun x => x ∈ []⟩) (fun i => i ≤ ps.length) (fun i => ps.length - i) 0 0 (Wk.perm' ?_ (fun _ h => h) (fun _ h => by cases h)) (by simp) ?_
    · simp only [upPar, parsText, List.take_zero, List.map_nil, jn, List.append_nil]
      (simp only [lfOK, upd, initF]; repeat' first | exact AVle.refl _ _ | exact trivial | refine And.intro ?_ ?_ | exact AVle.int (by simp only [IntKind.wrap_i64]; omega))
    rintro γ' i hf hi
    generalize hQ' : kIt _ _ _ _ _ = Q'
    unfold ir_clavierref03body_l1
    by_cases hlt : i < ps.length
    · have hd : decide ((i : Int) < (ps.length : Int)) = true := by simp; omega
      have hg1 : (parsAV ps).getD i [] = [intsV ps[i]] := parsAV_get hlt
      have hpl := hb _ (List.getElem_mem hlt)
      have hw : IntKind.i64.wrap ((i : Int) + 1) = ((i + 1 : Nat) : Int) := by rw [IntKind.wrap_i64]; omega
      have hup := upPar_succ hlt
      have hi0 : decide ((i : Int) > 0) = !decide (i = 0) := by rw [Bool.eq_iff_iff]; simp; omega
      have hpi := hps i
      generalize ps[i] = p at hg1 hpl hup
      simp +contextual (maxSteps := 1000000) only [hd, hg1, parsAV_length, Int.toNat_natCast, hi0, go_sem, reduceCtorEq, ↓reduceIte, Nat.reduceAdd, Nat.reduceEqDiff, Nat.reduceLeDiff, Nat.reduceMul, Nat.reduceBEq, Int.reduceBEq, Int.reduceBNe, Int.reduceLT, Int.reduceLE, Int.reduceGT, Int.reduceGE, Int.reduceToNat, Int.natCast_one, Int.natCast_zero, Int.cast_ofNat_Int]
      refine kCond_join (fun _ s' => s'.F 1 = .ptr (γ, 0, 0) 0 ∧ s'.F 3 = .str (prB (c.toNat : Int) ++ if i = 0 then [] else upPar ps i ++ [59]) ∧ s'.F 4 = .int .i64 i ∧ s'.H = [((γ, 0, 0), .cells [.int .i64 k, .int .u8 (c.toNat : Int), .sl none 1 (parsAV ps), .str it, .int .u8 fi, .str da])] ∧ s'.T = fun x => x ∈ []) (fun h => ?_) (fun h => ?_) fun c1 s' hs => ?_
      · simp +contextual (maxSteps := 1000000) only [go_sem, reduceCtorEq, ↓reduceIte, Nat.reduceAdd, Nat.reduceEqDiff, Nat.reduceLeDiff, Nat.reduceMul, Nat.reduceBEq, Int.reduceBEq, Int.reduceBNe, Int.reduceLT, Int.reduceLE, Int.reduceGT, Int.reduceGE, Int.reduceToNat, Int.natCast_one, Int.natCast_zero, Int.cast_ofNat_Int]
        have h0 : i ≠ 0 := by simpa using h
        refine ⟨by simp only [List.length_append]; omega, ?_⟩
        simp only [if_neg h0, List.append_assoc]
      · simp +contextual (maxSteps := 1000000) only [go_sem, reduceCtorEq, ↓reduceIte, Nat.reduceAdd, Nat.reduceEqDiff, Nat.reduceLeDiff, Nat.reduceMul, Nat.reduceBEq, Int.reduceBEq, Int.reduceBNe, Int.reduceLT, Int.reduceLE, Int.reduceGT, Int.reduceGE, Int.reduceToNat, Int.natCast_one, Int.natCast_zero, Int.cast_ofNat_Int]
        have h0 : i = 0 := by simpa using h
        subst h0
        simp [upPar, parsText, jn]
      obtain ⟨F, H, T⟩ := s'
      simp only at hs
      obtain ⟨f1, f3, f4, rfl, rfl⟩ := hs
      simp +contextual (maxSteps := 1000000) only [f1, f3, f4, go_sem, reduceCtorEq, ↓reduceIte, Nat.reduceAdd, Nat.reduceEqDiff, Nat.reduceLeDiff, Nat.reduceMul, Nat.reduceBEq, Int.reduceBEq, Int.reduceBNe, Int.reduceLT, Int.reduceLE, Int.reduceGT, Int.reduceGE, Int.reduceToNat, Int.natCast_one, Int.natCast_zero, Int.cast_ofNat_Int]
      obtain ⟨B, hB⟩ : ∃ B, B = prB (c.toNat : Int) ++ if i = 0 then [] else upPar ps i ++ [59] := ⟨_, rfl⟩
      have hBl : B.length ≤ 5000 := by
        rw [hB]; split
        · simp; omega
        · simp; omega
      rw [← hB]
      have hsub : ∀ k, (upSub p k).length ≤ 160 := fun k => by
        have h1 := subText_len (p := p.take k) fun n hn => hpl.2 n (List.mem_of_mem_take hn)
        have h2 : (p.take k).length ≤ 8 := by rw [List.length_take]; omega
        unfold upSub; omega
      have hfin : prB (c.toNat : Int) ++ upPar ps (i + 1) = B ++ subText p := by rw [hup, hB, List.append_assoc]
      refine kLoop_ix (fun k2 : Nat => ⟨lf [(1, .ptr (γ, 0, 0) 0), (3, .str (B ++ upSub p k2)), (4, .int .i64 i), (5, .int .i64 k2)], [((γ, 0, 0), .cells [.int .i64 k, .int .u8 (c.toNat : Int), .sl none 1 (parsAV ps), .str it, .int .u8 fi, .str da])], fun x => x ∈ []⟩) (fun k2 => k2 ≤ p.length) (fun k2 => p.length - k2) 0 0 (Wk.same ?_) (by simp) ?_
      · simp only [upSub, subText, List.take_zero, List.map_nil, jn, List.append_nil]
        (simp only [lfOK, upd, initF]; repeat' first | exact AVle.refl _ _ | exact trivial | refine And.intro ?_ ?_ | exact AVle.int (by simp only [IntKind.wrap_i64]; omega))
      rintro γ2 k2 hf2 hk2
      generalize hQ2 : kIt _ _ _ _ _ = Q2
      unfold ir_clavierref03body_l0
      by_cases hlt2 : k2 < p.length
      · have hd2 : decide ((k2 : Int) < (p.length : Int)) = true := by simp; omega
        have hg2 : (intsAV p).getD k2 [] = [.int .i64 p[k2]] := intsAV_get hlt2
        have hw2 : IntKind.i64.wrap ((k2 : Int) + 1) = ((k2 + 1 : Nat) : Int) := by rw [IntKind.wrap_i64]; omega
        have hus := upSub_succ hlt2
        have hk0 : decide ((k2 : Int) > 0) = !decide (k2 = 0) := by rw [Bool.eq_iff_iff]; simp; omega
        have hx := hpl.2 _ (List.getElem_mem hlt2)
        have hsk := hsub k2
        generalize p[k2] = x at hg2 hus hx
        simp +contextual (maxSteps := 1000000) only [hd2, hg1, hg2, parsAV_length, Int.toNat_natCast, intsV, intsAV_length, hk0, go_sem, reduceCtorEq, ↓reduceIte, Nat.reduceAdd, Nat.reduceEqDiff, Nat.reduceLeDiff, Nat.reduceMul, Nat.reduceBEq, Int.reduceBEq, Int.reduceBNe, Int.reduceLT, Int.reduceLE, Int.reduceGT, Int.reduceGE, Int.reduceToNat, Int.natCast_one, Int.natCast_zero, Int.cast_ofNat_Int]
        refine ⟨by omega, ?_⟩
        refine kCond_join (fun _ s' => s'.F 1 = .ptr (γ, 0, 0) 0 ∧ s'.F 3 = .str (B ++ if k2 = 0 then [] else upSub p k2 ++ [58]) ∧ s'.F 4 = .int .i64 i ∧ s'.F 5 = .int .i64 k2 ∧ s'.H = [((γ, 0, 0), .cells [.int .i64 k, .int .u8 (c.toNat : Int), .sl none 1 (parsAV ps), .str it, .int .u8 fi, .str da])] ∧ s'.T = fun x => x ∈ []) (fun h => ?_) (fun h => ?_) fun c1 s' hs => ?_
        · simp +contextual (maxSteps := 1000000) only [go_sem, reduceCtorEq, ↓reduceIte, Nat.reduceAdd, Nat.reduceEqDiff, Nat.reduceLeDiff, Nat.reduceMul, Nat.reduceBEq, Int.reduceBEq, Int.reduceBNe, Int.reduceLT, Int.reduceLE, Int.reduceGT, Int.reduceGE, Int.reduceToNat, Int.natCast_one, Int.natCast_zero, Int.cast_ofNat_Int]
          have h0 : k2 ≠ 0 := by simpa using h
          refine ⟨by simp only [List.length_append]; omega, ?_⟩
          simp only [if_neg h0, List.append_assoc]
        · simp +contextual (maxSteps := 1000000) only [go_sem, reduceCtorEq, ↓reduceIte, Nat.reduceAdd, Nat.reduceEqDiff, Nat.reduceLeDiff, Nat.reduceMul, Nat.reduceBEq, Int.reduceBEq, Int.reduceBNe, Int.reduceLT, Int.reduceLE, Int.reduceGT, Int.reduceGE, Int.reduceToNat, Int.natCast_one, Int.natCast_zero, Int.cast_ofNat_Int]
          have h0 : k2 = 0 := by simpa using h
          subst h0
          simp [upSub, subText, jn]
        obtain ⟨F, H, T⟩ := s'
        simp only at hs
        obtain ⟨f1, f3, f4, f5, rfl, rfl⟩ := hs
        simp +contextual (maxSteps := 1000000) only [f1, f3, f4, f5, hg1, hg2, parsAV_length, Int.toNat_natCast, intsV, intsAV_length, go_sem, reduceCtorEq, ↓reduceIte, Nat.reduceAdd, Nat.reduceEqDiff, Nat.reduceLeDiff, Nat.reduceMul, Nat.reduceBEq, Int.reduceBEq, Int.reduceBNe, Int.reduceLT, Int.reduceLE, Int.reduceGT, Int.reduceGE, Int.reduceToNat, Int.natCast_one, Int.natCast_zero, Int.cast_ofNat_Int]
        refine ⟨by omega, by omega, ?_⟩
        refine CallP.pure (fs_rText hst (by omega)) (fun _ => rfl) ?_
        have hxl : (textZ x).length ≤ 19 := by
          unfold textZ; split
          · simp
          · exact decB_len20 (by omega)
        have hBk : (B ++ if k2 = 0 then [] else upSub p k2 ++ [58]).length ≤ 6000 := by
          split
          · simp; omega
          · simp; omega
        simp +contextual (maxSteps := 1000000) only [hw2, f1, f3, f4, f5, go_sem, reduceCtorEq, ↓reduceIte, Nat.reduceAdd, Nat.reduceEqDiff, Nat.reduceLeDiff, Nat.reduceMul, Nat.reduceBEq, Int.reduceBEq, Int.reduceBNe, Int.reduceLT, Int.reduceLE, Int.reduceGT, Int.reduceGE, Int.reduceToNat, Int.natCast_one, Int.natCast_zero, Int.cast_ofNat_Int]
        refine ⟨by simp only [List.length_append] at hBk ⊢; omega, ?_⟩
        rw [← hQ2]
        simp only [w_kIt_n]
        refine ⟨0, k2 + 1, Wk.same ?_, by omega, by omega⟩
        refine ⟨AVle.refl _ _, AVle.str ?_, AVle.refl _ _, AVle.refl _ _, trivial⟩
        rw [hus, List.append_assoc]
      · have hd2 : decide ((k2 : Int) < (p.length : Int)) = false := by simp; omega
        simp +contextual (maxSteps := 1000000) only [hd2, hg1, parsAV_length, Int.toNat_natCast, intsV, intsAV_length, go_sem, reduceCtorEq, ↓reduceIte, Nat.reduceAdd, Nat.reduceEqDiff, Nat.reduceLeDiff, Nat.reduceMul, Nat.reduceBEq, Int.reduceBEq, Int.reduceBNe, Int.reduceLT, Int.reduceLE, Int.reduceGT, Int.reduceGE, Int.reduceToNat, Int.natCast_one, Int.natCast_zero, Int.cast_ofNat_Int]
        refine ⟨by omega, ?_⟩
        rw [← hQ2]
        simp only [w_kIt_e, w_kBlk_e, ↓reduceIte]
        simp +contextual (maxSteps := 1000000) only [hw, go_sem, reduceCtorEq, ↓reduceIte, Nat.reduceAdd, Nat.reduceEqDiff, Nat.reduceLeDiff, Nat.reduceMul, Nat.reduceBEq, Int.reduceBEq, Int.reduceBNe, Int.reduceLT, Int.reduceLE, Int.reduceGT, Int.reduceGE, Int.reduceToNat, Int.natCast_one, Int.natCast_zero, Int.cast_ofNat_Int]
        rw [← hQ']
        simp only [w_kIt_n]
        refine ⟨0, i + 1, Wk.same ?_, by omega, by omega⟩
        refine ⟨AVle.refl _ _, AVle.str ?_, AVle.refl _ _, trivial⟩
        rw [hfin]
        unfold upSub; rw [List.take_of_length_le (by omega)]
    · have hd : decide ((i : Int) < (ps.length : Int)) = false := by simp; omega
      simp +contextual (maxSteps := 1000000) only [hd, parsAV_length, go_sem, reduceCtorEq, ↓reduceIte, Nat.reduceAdd, Nat.reduceEqDiff, Nat.reduceLeDiff, Nat.reduceMul, Nat.reduceBEq, Int.reduceBEq, Int.reduceBNe, Int.reduceLT, Int.reduceLE, Int.reduceGT, Int.reduceGE, Int.reduceToNat, Int.natCast_one, Int.natCast_zero, Int.cast_ofNat_Int]
      rw [← hQ']
      simp only [w_kIt_e, w_kBlk_e, ↓reduceIte]
      simp +contextual (maxSteps := 1000000) only [go_sem, reduceCtorEq, ↓reduceIte, Nat.reduceAdd, Nat.reduceEqDiff, Nat.reduceLeDiff, Nat.reduceMul, Nat.reduceBEq, Int.reduceBEq, Int.reduceBNe, Int.reduceLT, Int.reduceLE, Int.reduceGT, Int.reduceGE, Int.reduceToNat, Int.natCast_one, Int.natCast_zero, Int.cast_ofNat_Int]
      unfold ir_clavierref03body_t4
      simp +contextual (maxSteps := 1000000) only [go_sem, reduceCtorEq, ↓reduceIte, Nat.reduceAdd, Nat.reduceEqDiff, Nat.reduceLeDiff, Nat.reduceMul, Nat.reduceBEq, Int.reduceBEq, Int.reduceBNe, Int.reduceLT, Int.reduceLE, Int.reduceGT, Int.reduceGE, Int.reduceToNat, Int.natCast_one, Int.natCast_zero, Int.cast_ofNat_Int]
      have e : upPar ps i = parsText ps := by unfold upPar; rw [List.take_of_length_le (by omega)]
      have := hps i
      refine ⟨by simp only [List.length_append]; omega, ?_⟩
      rw [← hQ]
      refine ⟨trivial, Ret.flat ?_ rfl⟩
      rw [e]; rfl
  refine kCond_split (fun h => ?_) (fun h => ?_)
  · simp +contextual (maxSteps := 1000000) only [isByte_one, unbyte_c, go_sem, reduceCtorEq, ↓reduceIte, Nat.reduceAdd, Nat.reduceEqDiff, Nat.reduceLeDiff, Nat.reduceMul, Nat.reduceBEq, Int.reduceBEq, Int.reduceBNe, Int.reduceLT, Int.reduceLE, Int.reduceGT, Int.reduceGE, Int.reduceToNat, Int.natCast_one, Int.natCast_zero, Int.cast_ofNat_Int]
    have h' : (c.toNat : Int).toNat.toUInt8 = c := by simp
    refine loop _ _ [c] _ ?_ ?_ ?_
    · simp only [prB, h, if_true, h']
    · rfl
    · rfl
  · simp +contextual (maxSteps := 1000000) only [go_sem, reduceCtorEq, ↓reduceIte, Nat.reduceAdd, Nat.reduceEqDiff, Nat.reduceLeDiff, Nat.reduceMul, Nat.reduceBEq, Int.reduceBEq, Int.reduceBNe, Int.reduceLT, Int.reduceLE, Int.reduceGT, Int.reduceGE, Int.reduceToNat, Int.natCast_one, Int.natCast_zero, Int.cast_ofNat_Int]
    refine loop _ _ [] _ ?_ rfl rfl
    simp only [prB, h, Bool.false_eq_true, if_false]
end Go.Proofs.YthmjlngdbabdeaaGreatDoor

/- Sequences of a size that may be. -/
set_option linter.unusedVariables false
set_option linter.unusedSimpArgs false
namespace Go.Proofs.YthmjlngdbabdeaaGreatDoor
open Go Go.Ab

/-- No list of it is longer than there may be. -/
structure Sq.sm (s : Sq) : Prop where
  ps : s.ps.length < 9223372036854775808
  pp : ∀ p ∈ s.ps, p.length < 9223372036854775808
  it : s.it.length < 9223372036854775808
  da : s.da.length < 9223372036854775808
theorem parsOk_len {l : List (List Int)} (h : parsOk l = true) : l.length ≤ 16 ∧ ∀ p ∈ l, p.length ≤ 8 := by
  simp only [parsOk, Bool.and_eq_true, Bool.not_eq_true', Bool.or_eq_false_iff, decide_eq_false_iff_not] at h
  obtain ⟨⟨h1, _⟩, h2⟩ := h
  refine ⟨by omega, fun p hp => ?_⟩
  have := List.any_eq_false.1 h2 p hp
  simp only [parBad, Bool.or_eq_true, decide_eq_true_eq, not_or] at this
  omega
theorem mayP_sm {s : Sq} (h : mayP s = 0) : s.sm ∧ s.ps.length ≤ 16 ∧ (∀ p ∈ s.ps, p.length ≤ 8) ∧ s.it.length ≤ 2 ∧ s.da.length ≤ 4096 := by
  simp only [mayP] at h
  split at h
  · cases h
  · rename_i h1
    split at h
    · cases h
    · rename_i h2
      simp only [Bool.or_eq_true, Bool.not_eq_true', not_or, Bool.not_eq_false, Bool.and_eq_true, decide_eq_true_eq] at h2 h1
      obtain ⟨⟨⟨⟨_, h3⟩, h4⟩, _⟩, _⟩ := h2
      obtain ⟨k1, k2⟩ := parsOk_len h4
      have k3 : s.it.length ≤ 2 := by have := h3.1; omega
      have k4 : s.da.length ≤ 4096 := by omega
      exact ⟨⟨by omega, fun p hp => by have := k2 p hp; omega, by omega, by omega⟩, k1, k2, k3, k4⟩

end Go.Proofs.YthmjlngdbabdeaaGreatDoor

/- The reference's layer 3: Put, walked. -/
set_option linter.unusedVariables false
set_option linter.unusedSimpArgs false
set_option maxRecDepth 100000
namespace Go.Proofs.YthmjlngdbabdeaaGreatDoor
open Go Go.Ab
/-- clavier/clavierref03.Put -/
def ir_clavierref03Put : ICode :=
 (.seq
  (.reg [⟨some 1, none, .box 35 (.t 0)⟩,
    ⟨some 2, none, .mov (.c .nils)⟩,
    ⟨some 3, none, .mov (.c (.int .i64 0))⟩] (some [1]))
  (.seq
   (.reg [⟨some 6, none, .ld (some 6) (.t 1)⟩,
     ⟨some 7, none, .call (.c (.fn (.func 72) [] [])) [(.t 6)]⟩,
     ⟨some 4, none, .mov (.t 7)⟩] (some [1, 4]))
   (.seq
    (.seq
     (.reg [⟨some 8, none, .mov (.t 4)⟩,
       ⟨some 9, none, .bin .neq .none (.t 8) (.c (.int .i64 0))⟩] (some [1, 4, 9]))
     (.cond (.t 9)
      (.seq
       (.reg [⟨some 10, none, .mov (.t 4)⟩,
         ⟨some 2, none, .mov (.c .nils)⟩,
         ⟨some 3, none, .mov (.t 10)⟩] (some [2, 3]))
       .ret)
      .skip))
    (.seq
     (.reg [⟨some 11, none, .fa 4 (.t 1)⟩,
       ⟨some 12, none, .ld none (.t 11)⟩,
       ⟨some 13, none, .row 5 1 [(.t 12)]⟩,
       ⟨some 14, none, .b2s (.t 13)⟩,
       ⟨some 5, none, .mov (.t 14)⟩] (some [1, 5]))
     (.seq
      (.seq
       (.reg [⟨some 15, none, .fa 0 (.t 1)⟩,
         ⟨some 16, none, .ld none (.t 15)⟩] (some [1, 5, 16]))
       (.blk 0
        (.seq
         (.reg [⟨some 18, none, .bin .eql .none (.t 16) (.c (.int .i64 1))⟩,
           ⟨some 17, none, .mov (.t 18)⟩] (some [1, 5, 16, 17]))
         (.cond (.t 17)
          (.seq
           (.reg [⟨some 19, none, .ld (some 6) (.t 1)⟩,
             ⟨some 20, none, .call (.c (.fn (.func 73) [] [])) [(.t 19)]⟩,
             ⟨some 21, none, .bin .add .none (.c (.str [27, 91])) (.t 20)⟩,
             ⟨some 22, none, .mov (.t 5)⟩,
             ⟨some 23, none, .bin .add .none (.t 21) (.t 22)⟩,
             ⟨some 24, none, .s2b 5 (.t 23)⟩,
             ⟨some 2, none, .mov (.t 24)⟩,
             ⟨some 3, none, .mov (.c (.int .i64 0))⟩] (some [2, 3]))
           .ret)
          (.seq
           (.reg [⟨some 26, none, .bin .eql .none (.t 16) (.c (.int .i64 2))⟩,
             ⟨some 25, none, .mov (.t 26)⟩] (some [1, 5, 16, 25]))
           (.cond (.t 25)
            (.seq
             (.reg [⟨some 27, none, .mov (.t 5)⟩,
               ⟨some 28, none, .bin .add .none (.c (.str [27, 79])) (.t 27)⟩,
               ⟨some 29, none, .s2b 5 (.t 28)⟩,
               ⟨some 2, none, .mov (.t 29)⟩,
               ⟨some 3, none, .mov (.c (.int .i64 0))⟩] (some [2, 3]))
             .ret)
            (.seq
             (.reg [⟨some 31, none, .bin .eql .none (.t 16) (.c (.int .i64 3))⟩,
               ⟨some 30, none, .mov (.t 31)⟩] (some [1, 5, 16, 30]))
             (.cond (.t 30)
              (.seq
               (.drw [⟨⟨some 32, none, .ld (some 6) (.t 1)⟩, []⟩,
                 ⟨⟨some 33, none, .call (.c (.fn (.func 73) [] [])) [(.t 32)]⟩, [0]⟩,
                 ⟨⟨some 34, none, .bin .add .none (.c (.str [27, 80])) (.t 33)⟩, [1]⟩,
                 ⟨⟨some 35, none, .mov (.t 5)⟩, []⟩,
                 ⟨⟨some 36, none, .bin .add .none (.t 34) (.t 35)⟩, [2, 3]⟩,
                 ⟨⟨some 37, none, .fa 5 (.t 1)⟩, []⟩,
                 ⟨⟨some 38, none, .ld none (.t 37)⟩, [5]⟩,
                 ⟨⟨some 39, none, .bin .add .none (.t 36) (.t 38)⟩, [4, 6]⟩,
                 ⟨⟨some 40, none, .bin .add .none (.t 39) (.c (.str [27, 92]))⟩, [7]⟩,
                 ⟨⟨some 41, none, .s2b 5 (.t 40)⟩, [8]⟩]
                 [⟨some 2, none, .mov (.t 41)⟩,
                 ⟨some 3, none, .mov (.c (.int .i64 0))⟩] (some [2, 3]))
               .ret)
              (.seq
               (.reg [⟨some 43, none, .bin .eql .none (.t 16) (.c (.int .i64 4))⟩,
                 ⟨some 42, none, .mov (.t 43)⟩] (some [1, 5, 42]))
               (.cond (.t 42)
                (.seq
                 (.reg [⟨some 44, none, .fa 5 (.t 1)⟩,
                   ⟨some 45, none, .ld none (.t 44)⟩,
                   ⟨some 46, none, .bin .add .none (.c (.str [27, 93])) (.t 45)⟩,
                   ⟨some 47, none, .bin .add .none (.t 46) (.c (.str [27, 92]))⟩,
                   ⟨some 48, none, .s2b 5 (.t 47)⟩,
                   ⟨some 2, none, .mov (.t 48)⟩,
                   ⟨some 3, none, .mov (.c (.int .i64 0))⟩] (some [2, 3]))
                 .ret)
                .skip))))))))))
      (.seq
       (.reg [⟨some 49, none, .fa 3 (.t 1)⟩,
         ⟨some 50, none, .ld none (.t 49)⟩,
         ⟨some 51, none, .bin .add .none (.c (.str [27])) (.t 50)⟩,
         ⟨some 52, none, .mov (.t 5)⟩,
         ⟨some 53, none, .bin .add .none (.t 51) (.t 52)⟩,
         ⟨some 54, none, .s2b 5 (.t 53)⟩,
         ⟨some 2, none, .mov (.t 54)⟩,
         ⟨some 3, none, .mov (.c (.int .i64 0))⟩] (some [2, 3]))
       .ret))))))
theorem is_clavierref03Put : IrOf Tryz.prog 34 55 ir_clavierref03Put [.t 2, .t 3] := ⟨_, Tryz.func34, rfl, by kernel_rfl, by kernel_rfl, by kernel_rfl⟩


/-- A sequence as bytes. -/
def putB (s : Sq) : List UInt8 :=
  let f := [s.fi.toNat.toUInt8]
  if (s.k == 1) = true then [27, 91] ++ bodyB s ++ f
  else if (s.k == 2) = true then [27, 79] ++ f
  else if (s.k == 3) = true then [27, 80] ++ bodyB s ++ f ++ s.da ++ [27, 92]
  else if (s.k == 4) = true then [27, 93] ++ s.da ++ [27, 92]
  else [27] ++ s.it ++ f
def putV (s : Sq) : AV := if (mayP s != 0) = true then .nils else .sl none 1 (bytesAV (putB s))
theorem bodyB_len {s : Sq} (h : mayP s = 0) : (bodyB s).length ≤ 3000 := by
  obtain ⟨_, h1, h2, h3, h4⟩ := mayP_sm h
  have h5 : parsOk s.ps = true := by
    simp only [mayP] at h
    split at h
    · cases h
    · split at h
      · cases h
      · rename_i h2
        simp only [Bool.or_eq_true, Bool.not_eq_true', not_or, Bool.not_eq_false] at h2
        exact h2.1.1.2
  have := parsText_len (ps := s.ps) fun p hp => ⟨((parsOk_iff h5).2.2 p hp).2.1, fun n hn => (((parsOk_iff h5).2.2 p hp).2.2 n hn).2⟩
  have h6 : (prB s.pr).length ≤ 1 := by unfold prB; split <;> simp
  simp only [bodyB, List.length_append]; omega
theorem may_pars {s : Sq} (h : mayP s = 0) : parsOk s.ps = true := by
  simp only [mayP] at h
  split at h
  · cases h
  · split at h
    · cases h
    · rename_i h2
      simp only [Bool.or_eq_true, Bool.not_eq_true', not_or, Bool.not_eq_false] at h2
      exact h2.1.1.2
set_option maxHeartbeats 1000000 in
theorem fs_rPut {Gl : Gh → Prop} (hst : Stays Gl) {s : Sq} (hp0 : 0 ≤ s.pr) (hp1 : s.pr < 256) (hf0 : 0 ≤ s.fi) (hf1 : s.fi < 256) (h : s.sm) : FS Tryz.prog Gl 34 [.agg s.c] [] [] (.tup [putV s, .int .i64 (mayP s)]) [] [] := by
  have c1 := fs_rMay hst hf0 hf1 h.ps h.pp h.it h.da
  refine FS.of hm hst is_clavierref03Put (by simp) fun γ hγ hfr => ?_
  have hbody : mayP s = 0 → FS Tryz.prog Gl 73 [.agg s.c] [] [] (.str (bodyB s)) [] [] := fun hz => by
    obtain ⟨_, a1, a2, a3, a4⟩ := mayP_sm hz
    exact fs_rBody hst hp0 hp1 (by omega) a1 fun p hp => ⟨a2 p hp, fun n hn => (((parsOk_iff (may_pars hz)).2.2 p hp).2.2 n hn).2⟩
  have hbl : mayP s = 0 → (bodyB s).length ≤ 3000 := bodyB_len
  have hda : mayP s = 0 → s.da.length ≤ 4096 := fun hz => (mayP_sm hz).2.2.2.2
  have hil : mayP s = 0 → s.it.length ≤ 2 := fun hz => (mayP_sm hz).2.2.2.1
  have hput : putB s = (if (s.k == 1) = true then [27, 91] ++ bodyB s ++ [s.fi.toNat.toUInt8]
    else if (s.k == 2) = true then [27, 79] ++ [s.fi.toNat.toUInt8]
    else if (s.k == 3) = true then [27, 80] ++ bodyB s ++ [s.fi.toNat.toUInt8] ++ s.da ++ [27, 92]
    else if (s.k == 4) = true then [27, 93] ++ s.da ++ [27, 92]
    else [27] ++ s.it ++ [s.fi.toNat.toUInt8]) := rfl
  have hpv : putV s = if (mayP s != 0) = true then .nils else .sl none 1 (bytesAV (putB s)) := rfl
  obtain ⟨k, pr, ps, it, fi, da⟩ := s
  simp only at hp0 hp1 hf0 hf1 hda hil hput
  obtain ⟨c, rfl⟩ := byteOf hf0 hf1
  have hcc : (c.toNat : Int).toNat.toUInt8 = c := by simp
  rw [hcc] at hput
  generalize mayP _ = e at *
  generalize putV _ = pvv at *
  generalize putB _ = pb at *
  generalize bodyB _ = bb at *
  simp only [Sq.c] at c1 hbody hfr ⊢
  (generalize hQ : (fun (ex : Ex) (_ _ : Nat) (s : St) => _) = Q; unfold ir_clavierref03Put)
  simp +contextual (maxSteps := 1000000) only [go_sem, reduceCtorEq, ↓reduceIte, Nat.reduceAdd, Nat.reduceEqDiff, Nat.reduceLeDiff, Nat.reduceMul, Nat.reduceBEq, Int.reduceBEq, Int.reduceBNe, Int.reduceLT, Int.reduceLE, Int.reduceGT, Int.reduceGE, Int.reduceToNat, Int.natCast_one, Int.natCast_zero, Int.cast_ofNat_Int]
  refine CallP.pure c1 (fun _ => rfl) ?_
  simp +contextual (maxSteps := 1000000) only [go_sem, reduceCtorEq, ↓reduceIte, Nat.reduceAdd, Nat.reduceEqDiff, Nat.reduceLeDiff, Nat.reduceMul, Nat.reduceBEq, Int.reduceBEq, Int.reduceBNe, Int.reduceLT, Int.reduceLE, Int.reduceGT, Int.reduceGE, Int.reduceToNat, Int.natCast_one, Int.natCast_zero, Int.cast_ofNat_Int]
  refine kCond_split (fun h1 => ?_) (fun h1 => ?_)
  · simp +contextual (maxSteps := 1000000) only [go_sem, reduceCtorEq, ↓reduceIte, Nat.reduceAdd, Nat.reduceEqDiff, Nat.reduceLeDiff, Nat.reduceMul, Nat.reduceBEq, Int.reduceBEq, Int.reduceBNe, Int.reduceLT, Int.reduceLE, Int.reduceGT, Int.reduceGE, Int.reduceToNat, Int.natCast_one, Int.natCast_zero, Int.cast_ofNat_Int]
    rw [← hQ, hpv, if_pos h1]
    exact ⟨trivial, Ret.flat2⟩
  have hz : e = 0 := by simpa using h1
  have c2 := hbody hz
  have hbl := hbl hz
  have hda := hda hz
  have hil := hil hz
  rw [if_neg (by rw [h1]; exact Bool.false_ne_true)] at hpv
  clear c1 hbody h1
  simp +contextual (maxSteps := 1000000) only [isByte_one, unbyte_c, go_sem, reduceCtorEq, ↓reduceIte, Nat.reduceAdd, Nat.reduceEqDiff, Nat.reduceLeDiff, Nat.reduceMul, Nat.reduceBEq, Int.reduceBEq, Int.reduceBNe, Int.reduceLT, Int.reduceLE, Int.reduceGT, Int.reduceGE, Int.reduceToNat, Int.natCast_one, Int.natCast_zero, Int.cast_ofNat_Int]
  refine kCond_split (fun h1 => ?_) (fun h1 => ?_)
  · rw [if_pos h1] at hput
    simp +contextual (maxSteps := 1000000) only [go_sem, reduceCtorEq, ↓reduceIte, Nat.reduceAdd, Nat.reduceEqDiff, Nat.reduceLeDiff, Nat.reduceMul, Nat.reduceBEq, Int.reduceBEq, Int.reduceBNe, Int.reduceLT, Int.reduceLE, Int.reduceGT, Int.reduceGE, Int.reduceToNat, Int.natCast_one, Int.natCast_zero, Int.cast_ofNat_Int]
    refine CallP.pure c2 (fun _ => rfl) ?_
    simp +contextual (maxSteps := 1000000) only [go_sem, reduceCtorEq, ↓reduceIte, Nat.reduceAdd, Nat.reduceEqDiff, Nat.reduceLeDiff, Nat.reduceMul, Nat.reduceBEq, Int.reduceBEq, Int.reduceBNe, Int.reduceLT, Int.reduceLE, Int.reduceGT, Int.reduceGE, Int.reduceToNat, Int.natCast_one, Int.natCast_zero, Int.cast_ofNat_Int]
    refine ⟨by omega, by omega, by simp only [maxLen, List.length_append, List.length_cons, List.length_nil]; omega, ?_⟩
    rw [← hQ, hpv, hput, hz]
    exact ⟨trivial, Ret.flat2⟩
  rw [if_neg (by rw [h1]; exact Bool.false_ne_true)] at hput
  simp +contextual (maxSteps := 1000000) only [go_sem, reduceCtorEq, ↓reduceIte, Nat.reduceAdd, Nat.reduceEqDiff, Nat.reduceLeDiff, Nat.reduceMul, Nat.reduceBEq, Int.reduceBEq, Int.reduceBNe, Int.reduceLT, Int.reduceLE, Int.reduceGT, Int.reduceGE, Int.reduceToNat, Int.natCast_one, Int.natCast_zero, Int.cast_ofNat_Int]
  refine kCond_split (fun h2 => ?_) (fun h2 => ?_)
  · rw [if_pos h2] at hput
    simp +contextual (maxSteps := 1000000) only [go_sem, reduceCtorEq, ↓reduceIte, Nat.reduceAdd, Nat.reduceEqDiff, Nat.reduceLeDiff, Nat.reduceMul, Nat.reduceBEq, Int.reduceBEq, Int.reduceBNe, Int.reduceLT, Int.reduceLE, Int.reduceGT, Int.reduceGE, Int.reduceToNat, Int.natCast_one, Int.natCast_zero, Int.cast_ofNat_Int]
    refine ⟨by decide, ?_⟩
    rw [← hQ, hpv, hput, hz]
    exact ⟨trivial, Ret.flat2⟩
  rw [if_neg (by rw [h2]; exact Bool.false_ne_true)] at hput
  simp +contextual (maxSteps := 1000000) only [go_sem, reduceCtorEq, ↓reduceIte, Nat.reduceAdd, Nat.reduceEqDiff, Nat.reduceLeDiff, Nat.reduceMul, Nat.reduceBEq, Int.reduceBEq, Int.reduceBNe, Int.reduceLT, Int.reduceLE, Int.reduceGT, Int.reduceGE, Int.reduceToNat, Int.natCast_one, Int.natCast_zero, Int.cast_ofNat_Int]
  refine kCond_split (fun h3 => ?_) (fun h3 => ?_)
  · rw [if_pos h3] at hput
    simp +contextual (maxSteps := 1000000) only [go_sem, reduceCtorEq, ↓reduceIte, Nat.reduceAdd, Nat.reduceEqDiff, Nat.reduceLeDiff, Nat.reduceMul, Nat.reduceBEq, Int.reduceBEq, Int.reduceBNe, Int.reduceLT, Int.reduceLE, Int.reduceGT, Int.reduceGE, Int.reduceToNat, Int.natCast_one, Int.natCast_zero, Int.cast_ofNat_Int]
    refine DCall.new c2 ?_
    simp +contextual (maxSteps := 1000000) only [go_sem, reduceCtorEq, ↓reduceIte, Nat.reduceAdd, Nat.reduceEqDiff, Nat.reduceLeDiff, Nat.reduceMul, Nat.reduceBEq, Int.reduceBEq, Int.reduceBNe, Int.reduceLT, Int.reduceLE, Int.reduceGT, Int.reduceGE, Int.reduceToNat, Int.natCast_one, Int.natCast_zero, Int.cast_ofNat_Int]
    refine ⟨by omega, by omega, by simp only [maxLen, List.length_append, List.length_cons, List.length_nil]; omega, by simp only [maxLen, List.length_append, List.length_cons, List.length_nil]; omega, by simp only [maxLen, List.length_append, List.length_cons, List.length_nil]; omega, ?_⟩
    rw [← hQ, hpv, hput, hz]
    exact ⟨trivial, Ret.flat2⟩
  rw [if_neg (by rw [h3]; exact Bool.false_ne_true)] at hput
  simp +contextual (maxSteps := 1000000) only [go_sem, reduceCtorEq, ↓reduceIte, Nat.reduceAdd, Nat.reduceEqDiff, Nat.reduceLeDiff, Nat.reduceMul, Nat.reduceBEq, Int.reduceBEq, Int.reduceBNe, Int.reduceLT, Int.reduceLE, Int.reduceGT, Int.reduceGE, Int.reduceToNat, Int.natCast_one, Int.natCast_zero, Int.cast_ofNat_Int]
  refine kCond_split (fun h4 => ?_) (fun h4 => ?_)
  · rw [if_pos h4] at hput
    simp +contextual (maxSteps := 1000000) only [go_sem, reduceCtorEq, ↓reduceIte, Nat.reduceAdd, Nat.reduceEqDiff, Nat.reduceLeDiff, Nat.reduceMul, Nat.reduceBEq, Int.reduceBEq, Int.reduceBNe, Int.reduceLT, Int.reduceLE, Int.reduceGT, Int.reduceGE, Int.reduceToNat, Int.natCast_one, Int.natCast_zero, Int.cast_ofNat_Int]
    refine ⟨by omega, by omega, by simp only [maxLen, List.length_append, List.length_cons, List.length_nil]; omega, ?_⟩
    rw [← hQ, hpv, hput, hz]
    exact ⟨trivial, Ret.flat2⟩
  rw [if_neg (by rw [h4]; exact Bool.false_ne_true)] at hput
  simp +contextual (maxSteps := 1000000) only [go_sem, reduceCtorEq, ↓reduceIte, Nat.reduceAdd, Nat.reduceEqDiff, Nat.reduceLeDiff, Nat.reduceMul, Nat.reduceBEq, Int.reduceBEq, Int.reduceBNe, Int.reduceLT, Int.reduceLE, Int.reduceGT, Int.reduceGE, Int.reduceToNat, Int.natCast_one, Int.natCast_zero, Int.cast_ofNat_Int]
  refine ⟨by omega, by omega, by simp only [maxLen, List.length_append, List.length_cons, List.length_nil]; omega, ?_⟩
  rw [← hQ, hpv, hput, hz]
  exact ⟨trivial, Ret.flat2⟩
end Go.Proofs.YthmjlngdbabdeaaGreatDoor

/- Sequences as bytes, walked: the program's. -/
set_option linter.unusedVariables false
set_option linter.unusedSimpArgs false
set_option maxRecDepth 100000
namespace Go.Proofs.YthmjlngdbabdeaaGreatDoor
open Go Go.Ab
/- clavier/wire.one -/
def ir_wireone_l0 : ICode :=
 (.seq
        (.reg [⟨some 9, none, .bin .lss .none (.t 8) (.t 7)⟩] (some [3, 6, 7, 8, 9]))
        (.seq
         (.cond (.t 9)
          .skip
          (.exit 0))
         (.seq
          (.blk 1
           (.seq
            (.reg [⟨some 10, none, .ia 1 (.t 6) (.t 8)⟩,
              ⟨some 11, none, .ld none (.t 10)⟩,
              ⟨some 5, none, .mov (.t 11)⟩] (some [3, 5, 6, 7, 8]))
            (.reg [⟨some 12, none, .mov (.t 3)⟩,
              ⟨some 13, none, .mov (.t 5)⟩,
              ⟨some 14, none, .call (.c (.fn (.func 119) [] [])) [(.t 13)]⟩,
              ⟨some 15, none, .row 9 1 [(.t 14)]⟩,
              ⟨some 16, none, .app 9 1 16 (.t 12) (.t 15)⟩,
              ⟨some 3, none, .mov (.t 16)⟩] (some [3, 6, 7, 8]))))
          (.reg [⟨some 17, none, .bin .add .none (.t 8) (.c (.int .i64 1))⟩,
            ⟨some 8, none, .mov (.t 17)⟩] (some [3, 6, 7, 8])))))
def ir_wireone : ICode :=
 (.seq
  (.reg [⟨some 2, none, .mov (.c (.str []))⟩] (some [0]))
  (.seq
   (.reg [⟨some 3, none, .mov (.c .nils)⟩] (some [0, 3]))
   (.seq
    (.seq
     (.reg [⟨some 6, none, .mov (.t 0)⟩,
       ⟨some 7, none, .len (.t 6)⟩,
       ⟨some 8, none, .mov (.c (.int .i64 0))⟩] (some [3, 6, 7, 8]))
     (.blk 0
      (.loop
       ir_wireone_l0)))
    (.seq
     (.reg [⟨some 18, none, .mov (.t 3)⟩,
       ⟨some 19, none, .call (.c (.fn (.func 98) [] [])) [(.t 18), (.c (.str [58]))]⟩,
       ⟨some 2, none, .mov (.t 19)⟩] (some [2]))
     .ret))))
theorem is_wireone : IrOf Tryz.prog 99 20 ir_wireone [.t 2] := ⟨_, Tryz.func99, rfl, by kernel_rfl, by kernel_rfl, by kernel_rfl⟩

/- clavier/wire.body -/
def ir_wirebody_l0 : ICode :=
 (.seq
        (.reg [⟨some 11, none, .bin .lss .none (.t 10) (.t 9)⟩] (some [1, 3, 8, 9, 10, 11]))
        (.seq
         (.cond (.t 11)
          .skip
          (.exit 0))
         (.seq
          (.blk 1
           (.seq
            (.reg [⟨some 12, none, .ia 1 (.t 8) (.t 10)⟩,
              ⟨some 13, none, .ld none (.t 12)⟩,
              ⟨some 5, none, .mov (.t 13)⟩] (some [1, 3, 5, 8, 9, 10]))
            (.reg [⟨some 14, none, .mov (.t 3)⟩,
              ⟨some 15, none, .mov (.t 5)⟩,
              ⟨some 16, none, .call (.c (.fn (.func 99) [] [])) [(.t 15)]⟩,
              ⟨some 17, none, .row 9 1 [(.t 16)]⟩,
              ⟨some 18, none, .app 9 1 16 (.t 14) (.t 17)⟩,
              ⟨some 3, none, .mov (.t 18)⟩] (some [1, 3, 8, 9, 10]))))
          (.reg [⟨some 19, none, .bin .add .none (.t 10) (.c (.int .i64 1))⟩,
            ⟨some 10, none, .mov (.t 19)⟩] (some [1, 3, 8, 9, 10])))))
def ir_wirebody : ICode :=
 (.seq
  (.reg [⟨some 1, none, .box 35 (.t 0)⟩,
    ⟨some 2, none, .mov (.c (.str []))⟩] (some [1]))
  (.seq
   (.reg [⟨some 3, none, .mov (.c .nils)⟩] (some [1, 3]))
   (.seq
    (.seq
     (.reg [⟨some 7, none, .fa 2 (.t 1)⟩,
       ⟨some 8, none, .ld none (.t 7)⟩,
       ⟨some 9, none, .len (.t 8)⟩,
       ⟨some 10, none, .mov (.c (.int .i64 0))⟩] (some [1, 3, 8, 9, 10]))
     (.blk 0
      (.loop
       ir_wirebody_l0)))
    (.seq
     (.drw [⟨⟨some 20, none, .mov (.t 3)⟩, []⟩,
       ⟨⟨some 21, none, .call (.c (.fn (.func 98) [] [])) [(.t 20), (.c (.str [59]))]⟩, [0]⟩,
       ⟨⟨some 22, none, .fa 3 (.t 1)⟩, []⟩,
       ⟨⟨some 23, none, .ld none (.t 22)⟩, [2]⟩,
       ⟨⟨some 24, none, .bin .add .none (.t 21) (.t 23)⟩, [1, 3]⟩,
       ⟨⟨some 25, none, .fa 4 (.t 1)⟩, []⟩,
       ⟨⟨some 26, none, .ld none (.t 25)⟩, [5]⟩,
       ⟨⟨some 27, none, .row 5 1 [(.t 26)]⟩, [6]⟩,
       ⟨⟨some 28, none, .b2s (.t 27)⟩, [7]⟩,
       ⟨⟨some 29, none, .bin .add .none (.t 24) (.t 28)⟩, [4, 8]⟩]
       [⟨some 6, none, .mov (.t 29)⟩] (some [1, 6]))
     (.seq
      (.seq
       (.reg [⟨some 30, none, .fa 1 (.t 1)⟩,
         ⟨some 31, none, .ld none (.t 30)⟩,
         ⟨some 32, none, .bin .neq .none (.t 31) (.c (.int .u8 0))⟩] (some [1, 6, 32]))
       (.cond (.t 32)
        (.reg [⟨some 33, none, .fa 1 (.t 1)⟩,
          ⟨some 34, none, .ld none (.t 33)⟩,
          ⟨some 35, none, .row 5 1 [(.t 34)]⟩,
          ⟨some 36, none, .b2s (.t 35)⟩,
          ⟨some 37, none, .mov (.t 6)⟩,
          ⟨some 38, none, .bin .add .none (.t 36) (.t 37)⟩,
          ⟨some 6, none, .mov (.t 38)⟩] (some [6]))
        .skip))
      (.seq
       (.reg [⟨some 39, none, .mov (.t 6)⟩,
         ⟨some 2, none, .mov (.t 39)⟩] (some [2]))
       .ret))))))
theorem is_wirebody : IrOf Tryz.prog 66 40 ir_wirebody [.t 2] := ⟨_, Tryz.func66, rfl, by kernel_rfl, by kernel_rfl, by kernel_rfl⟩

/-- clavier/wire.glue -/
def ir_wireglue : ICode :=
 (.seq
  (.reg [⟨some 2, none, .mov (.c .nils)⟩] (some [0]))
  (.seq
   (.reg [⟨some 3, none, .row 5 1 [(.c (.int .u8 27))]⟩,
     ⟨some 4, none, .mov (.t 0)⟩,
     ⟨some 5, none, .call (.c (.fn (.func 98) [] [])) [(.t 4), (.c (.str []))]⟩,
     ⟨some 6, none, .aps 5 (.t 3) (.t 5)⟩,
     ⟨some 2, none, .mov (.t 6)⟩] (some [2]))
   .ret))
theorem is_wireglue : IrOf Tryz.prog 65 7 ir_wireglue [.t 2] := ⟨_, Tryz.func65, rfl, by kernel_rfl, by kernel_rfl, by kernel_rfl⟩


theorem join_jn (c : UInt8) : ∀ xs : List (List UInt8), Lib.join xs [c] = jn c xs
  | [] => rfl
  | [x] => by simp [Lib.join, List.intercalate, jn]
  | x :: y :: l => by
    have ih := join_jn c (y :: l)
    simp only [Lib.join, List.intercalate] at ih ⊢
    rw [jn, ← ih]
    simp [List.intersperse]
theorem join_flat : ∀ xs : List (List UInt8), Lib.join xs [] = xs.flatten
  | [] => rfl
  | [x] => by simp [Lib.join, List.intercalate]
  | x :: y :: l => by
    have ih := join_flat (y :: l)
    simp only [Lib.join, List.intercalate] at ih ⊢
    rw [List.flatten_cons, ← ih]
    simp [List.intersperse]
theorem strsAV_snoc (xs : List (List UInt8)) (x : List UInt8) : strsAV (xs ++ [x]) = strsAV xs ++ [[.str x]] := by simp [strsAV]
theorem strsAV_length (xs : List (List UInt8)) : (strsAV xs).length = xs.length := by simp [strsAV]
set_option maxHeartbeats 2000000 in
theorem fs_one {Gl : Gh → Prop} (hst : Stays Gl) {p : List Int} {t : Option Nm} (hl : p.length ≤ 100000) (hp : ∀ n ∈ p, n ≤ 1114111) : FS Tryz.prog Gl 99 [.sl t 1 (intsAV p)] [] [] (.str (subText p)) [] [] := by
  refine FS.of hm hst is_wireone (by simp) fun γ hγ hfr => ?_
  have hsl := subText_len hp
  (generalize hQ : (fun (ex : Ex) (_ _ : Nat) (s : St) => _) = Q; unfold ir_wireone)
  simp +contextual (maxSteps := 1000000) only [intsAV_length, go_sem, reduceCtorEq, ↓reduceIte, Nat.reduceAdd, Nat.reduceEqDiff, Nat.reduceLeDiff, Nat.reduceMul, Nat.reduceBEq, Int.reduceBEq, Int.reduceBNe, Int.reduceLT, Int.reduceLE, Int.reduceGT, Int.reduceGE, Int.reduceToNat, Int.natCast_one, Int.natCast_zero, Int.cast_ofNat_Int]
  refine kLoop_ix (fun q : Nat × Option Nm => ⟨lf [(3, sv q.2 1 (strsAV ((p.take q.1).map textZ))), (6, .sl t 1 (intsAV p)), (7, .int .i64 (p.length : Int)), (8, .int .i64 (q.1 : Int))], [], fun x => q.2 = some x⟩)
    (fun q => q.1 ≤ p.length ∧ (q.2 = none → q.1 = 0)) (fun q => p.length - q.1) 0 (0, none) ?_ ⟨by simp, by simp⟩ ?_
  · refine Wk.perm' ?_ (fun p hp => by cases hp) (fun t ht => by cases ht)
    simp only [lfOK, upd]
    repeat' first | exact AVle.refl _ _ | exact trivial | refine And.intro ?_ ?_ | exact AVle.int (by simp only [IntKind.wrap_i64]; omega)
  · rintro γ' ⟨i, tk⟩ hf ⟨hi, htk⟩
    simp only at hi htk
    generalize hQ' : kIt _ _ _ _ _ = Q'
    unfold ir_wireone_l0
    by_cases hlt : i < p.length
    · have hd : decide ((i : Int) < (p.length : Int)) = true := by simp; omega
      have hg1 : (intsAV p).getD i [] = [.int .i64 p[i]] := intsAV_get hlt
      have hpi := hp _ (List.getElem_mem hlt)
      have c1 := fs_NumText (Gl := Gl) hst (n := p[i]) (by omega)
      have htk1 : (p.take (i + 1)).map textZ = (p.take i).map textZ ++ [textZ p[i]] := by
        rw [List.take_add_one, List.getElem?_eq_getElem hlt, List.map_append]; rfl
      have hlen : (strsAV ((p.take i).map textZ)).length ≤ p.length := by rw [strsAV_length]; simp; omega
      cases tk with
      | none =>
        have h0 := htk rfl
        have ht0 : p.take i = [] := by rw [h0]; rfl
        rw [ht0, List.map_nil, List.nil_append] at htk1
        simp +contextual (maxSteps := 1000000) only [hd, hg1, Int.toNat_natCast, intsAV_length, go_sem, reduceCtorEq, ↓reduceIte, Nat.reduceAdd, Nat.reduceEqDiff, Nat.reduceLeDiff, Nat.reduceMul, Nat.reduceBEq, Int.reduceBEq, Int.reduceBNe, Int.reduceLT, Int.reduceLE, Int.reduceGT, Int.reduceGE, Int.reduceToNat, Int.natCast_one, Int.natCast_zero, Int.cast_ofNat_Int]
        refine ⟨⟨by omega, by omega⟩, ?_⟩
        (refine CallP.pure (c1) (fun _ => rfl) ?_; simp +contextual (maxSteps := 1000000) only [go_sem, reduceCtorEq, ↓reduceIte, Nat.reduceAdd, Nat.reduceEqDiff, Nat.reduceLeDiff, Nat.reduceMul, Nat.reduceBEq, Int.reduceBEq, Int.reduceBNe, Int.reduceLT, Int.reduceLE, Int.reduceGT, Int.reduceGE, Int.reduceToNat, Int.natCast_one, Int.natCast_zero, Int.cast_ofNat_Int])
        rw [← hQ']
        simp only [w_kIt_n]
        refine ⟨0, (i + 1, some (γ', 8, 0)), Wk.perm' ?_ (fun p hp => by cases hp) ?_, ⟨by simp only; omega, by simp⟩, by simp only; omega⟩
        · simp only [htk1, sv_some, strsAV, List.map_cons, List.map_nil]
          repeat' first | exact AVle.refl _ _ | exact trivial | refine And.intro ?_ ?_ | exact AVle.int (by simp only [IntKind.wrap_i64]; omega)
        · intro t ht
          cases ht
          exact .inl rfl
      | some t0 =>
        simp +contextual (maxSteps := 1000000) only [hd, hg1, Int.toNat_natCast, intsAV_length, go_sem, reduceCtorEq, ↓reduceIte, Nat.reduceAdd, Nat.reduceEqDiff, Nat.reduceLeDiff, Nat.reduceMul, Nat.reduceBEq, Int.reduceBEq, Int.reduceBNe, Int.reduceLT, Int.reduceLE, Int.reduceGT, Int.reduceGE, Int.reduceToNat, Int.natCast_one, Int.natCast_zero, Int.cast_ofNat_Int]
        refine ⟨⟨by omega, by omega⟩, ?_⟩
        (refine CallP.pure (c1) (fun _ => rfl) ?_; simp +contextual (maxSteps := 1000000) only [go_sem, reduceCtorEq, ↓reduceIte, Nat.reduceAdd, Nat.reduceEqDiff, Nat.reduceLeDiff, Nat.reduceMul, Nat.reduceBEq, Int.reduceBEq, Int.reduceBNe, Int.reduceLT, Int.reduceLE, Int.reduceGT, Int.reduceGE, Int.reduceToNat, Int.natCast_one, Int.natCast_zero, Int.cast_ofNat_Int])
        refine ⟨⟨.inr trivial, by omega⟩, ?_⟩
        rw [← hQ']
        simp only [w_kIt_n]
        refine ⟨0, (i + 1, some (γ', 8, 0)), Wk.perm' ?_ (fun p hp => by cases hp) ?_, ⟨by simp only; omega, by simp⟩, by simp only; omega⟩
        · simp only [htk1, sv_some, strsAV_snoc]
          repeat' first | exact AVle.refl _ _ | exact trivial | refine And.intro ?_ ?_ | exact AVle.int (by simp only [IntKind.wrap_i64]; omega)
        · intro t ht
          cases ht
          exact .inl rfl
    · have hii : i = p.length := by omega
      have hd : decide ((i : Int) < (p.length : Int)) = false := by simp; omega
      have hfull : (p.take i).map textZ = p.map textZ := by rw [List.take_of_length_le (by omega)]
      have hjl : (Lib.join (p.map textZ) [58]).length ≤ 140737488355328 := by
        rw [join_jn]; show (subText p).length ≤ _; omega
      have hz : Lib.join (p.map textZ) [58] = subText p := join_jn 58 _
      cases tk with
      | none =>
        have h0 : p = [] := List.length_eq_zero_iff.1 (by rw [← hii]; exact htk rfl)
        have c1 := (fs_Join (Gl := Gl) (xs := p.map textZ) (sep := [58]) (t := none) (by simp; omega) hjl).args (args := [.nils, .str [58]]) ⟨by rw [h0]; exact RepLe.nils 1, RepLe.refl _, trivial⟩
        rw [hz] at c1
        simp +contextual (maxSteps := 1000000) only [hd, go_sem, reduceCtorEq, ↓reduceIte, Nat.reduceAdd, Nat.reduceEqDiff, Nat.reduceLeDiff, Nat.reduceMul, Nat.reduceBEq, Int.reduceBEq, Int.reduceBNe, Int.reduceLT, Int.reduceLE, Int.reduceGT, Int.reduceGE, Int.reduceToNat, Int.natCast_one, Int.natCast_zero, Int.cast_ofNat_Int]
        rw [← hQ']
        simp only [w_kIt_e, w_kBlk_e, ↓reduceIte]
        simp +contextual (maxSteps := 1000000) only [go_sem, reduceCtorEq, ↓reduceIte, Nat.reduceAdd, Nat.reduceEqDiff, Nat.reduceLeDiff, Nat.reduceMul, Nat.reduceBEq, Int.reduceBEq, Int.reduceBNe, Int.reduceLT, Int.reduceLE, Int.reduceGT, Int.reduceGE, Int.reduceToNat, Int.natCast_one, Int.natCast_zero, Int.cast_ofNat_Int]
        (refine CallP.pure (c1) (fun _ => rfl) ?_; simp +contextual (maxSteps := 1000000) only [go_sem, reduceCtorEq, ↓reduceIte, Nat.reduceAdd, Nat.reduceEqDiff, Nat.reduceLeDiff, Nat.reduceMul, Nat.reduceBEq, Int.reduceBEq, Int.reduceBNe, Int.reduceLT, Int.reduceLE, Int.reduceGT, Int.reduceGE, Int.reduceToNat, Int.natCast_one, Int.natCast_zero, Int.cast_ofNat_Int])
        rw [← hQ]
        exact ⟨trivial, Ret.flat rfl rfl⟩
      | some t0 =>
        have c1 := fs_Join (Gl := Gl) (xs := p.map textZ) (sep := [58]) (t := some t0) (by simp; omega) hjl
        rw [hz] at c1
        simp +contextual (maxSteps := 1000000) only [hd, hfull, go_sem, reduceCtorEq, ↓reduceIte, Nat.reduceAdd, Nat.reduceEqDiff, Nat.reduceLeDiff, Nat.reduceMul, Nat.reduceBEq, Int.reduceBEq, Int.reduceBNe, Int.reduceLT, Int.reduceLE, Int.reduceGT, Int.reduceGE, Int.reduceToNat, Int.natCast_one, Int.natCast_zero, Int.cast_ofNat_Int]
        rw [← hQ']
        simp only [w_kIt_e, w_kBlk_e, ↓reduceIte]
        simp +contextual (maxSteps := 1000000) only [go_sem, reduceCtorEq, ↓reduceIte, Nat.reduceAdd, Nat.reduceEqDiff, Nat.reduceLeDiff, Nat.reduceMul, Nat.reduceBEq, Int.reduceBEq, Int.reduceBNe, Int.reduceLT, Int.reduceLE, Int.reduceGT, Int.reduceGE, Int.reduceToNat, Int.natCast_one, Int.natCast_zero, Int.cast_ofNat_Int]
        (refine CallP.pure (c1) (fun _ => rfl) ?_; simp +contextual (maxSteps := 1000000) only [go_sem, reduceCtorEq, ↓reduceIte, Nat.reduceAdd, Nat.reduceEqDiff, Nat.reduceLeDiff, Nat.reduceMul, Nat.reduceBEq, Int.reduceBEq, Int.reduceBNe, Int.reduceLT, Int.reduceLE, Int.reduceGT, Int.reduceGE, Int.reduceToNat, Int.natCast_one, Int.natCast_zero, Int.cast_ofNat_Int])
        rw [← hQ]
        exact ⟨trivial, Ret.flat rfl rfl⟩
theorem fs_glue {Gl : Gh → Prop} (hst : Stays Gl) {xs : List (List UInt8)} {t : Option Nm} (hN : xs.length ≤ 100) (hl : xs.flatten.length ≤ 1000000) : FS Tryz.prog Gl 65 [.sl t 1 (strsAV xs)] [] [] (.sl none 1 (bytesAV (27 :: xs.flatten))) [] [] := by
  refine FS.ofW hm hst is_wireglue rfl (by simp) fun γ hγ hfr => ?_
  have c1 := fs_Join (Gl := Gl) (xs := xs) (sep := []) (t := t) (by omega) (by rw [join_flat]; omega)
  rw [join_flat] at c1
  (generalize hQ : (fun (ex : Ex) (_ _ : Nat) (s : St) => _) = Q; unfold ir_wireglue)
  simp +contextual (maxSteps := 1000000) only [go_sem, reduceCtorEq, ↓reduceIte, Nat.reduceAdd, Nat.reduceEqDiff, Nat.reduceLeDiff, Nat.reduceMul, Nat.reduceBEq, Int.reduceBEq, Int.reduceBNe, Int.reduceLT, Int.reduceLE, Int.reduceGT, Int.reduceGE, Int.reduceToNat, Int.natCast_one, Int.natCast_zero, Int.cast_ofNat_Int]
  (refine CallP.pure (c1) (fun _ => rfl) ?_; simp +contextual (maxSteps := 1000000) only [go_sem, reduceCtorEq, ↓reduceIte, Nat.reduceAdd, Nat.reduceEqDiff, Nat.reduceLeDiff, Nat.reduceMul, Nat.reduceBEq, Int.reduceBEq, Int.reduceBNe, Int.reduceLT, Int.reduceLE, Int.reduceGT, Int.reduceGE, Int.reduceToNat, Int.natCast_one, Int.natCast_zero, Int.cast_ofNat_Int])
  refine ⟨⟨.inl trivial, by omega⟩, ?_⟩
  rw [← hQ]
  exact ⟨trivial, .inl ⟨_, rfl, RepLe.anon' rfl⟩⟩
set_option maxHeartbeats 4000000 in
theorem fs_body {Gl : Gh → Prop} (hst : Stays Gl) {k : Int} {ps : List (List Int)} {it da : List UInt8} {pr fi : UInt8} (hl : ps.length ≤ 16) (hp : ∀ p ∈ ps, p.length ≤ 8 ∧ ∀ n ∈ p, n ≤ 1114111) (hit : it.length ≤ 100000) :
    FS Tryz.prog Gl 66 [.agg (Sq.c ⟨k, pr.toNat, ps, it, fi.toNat, da⟩)] [] [] (.str (prB pr.toNat ++ (parsText ps ++ it ++ [fi]))) [] [] := by
  refine FS.of hm hst is_wirebody (by simp) fun γ hγ hfr => ?_
  have hsl := parsText_len hp
  have hsc : Sq.c ⟨k, pr.toNat, ps, it, fi.toNat, da⟩ = [.int .i64 k, .int .u8 (pr.toNat : Int), .sl none 1 (parsAV ps), .str it, .int .u8 (fi.toNat : Int), .str da] := rfl
  (generalize hQ : (fun (ex : Ex) (_ _ : Nat) (s : St) => _) = Q; unfold ir_wirebody)
  simp +contextual (maxSteps := 1000000) only [hsc, parsAV_length, go_sem, reduceCtorEq, ↓reduceIte, Nat.reduceAdd, Nat.reduceEqDiff, Nat.reduceLeDiff, Nat.reduceMul, Nat.reduceBEq, Int.reduceBEq, Int.reduceBNe, Int.reduceLT, Int.reduceLE, Int.reduceGT, Int.reduceGE, Int.reduceToNat, Int.natCast_one, Int.natCast_zero, Int.cast_ofNat_Int]
  refine kLoop_ix (fun q : Nat × Option Nm => ⟨lf [(1, .ptr (γ, 0, 0) 0), (3, sv q.2 1 (strsAV ((ps.take q.1).map subText))), (8, .sl none 1 (parsAV ps)), (9, .int .i64 (ps.length : Int)), (10, .int .i64 (q.1 : Int))], [((γ, 0, 0), .cells [.int .i64 k, .int .u8 (pr.toNat : Int), .sl none 1 (parsAV ps), .str it, .int .u8 (fi.toNat : Int), .str da])], fun x => q.2 = some x⟩)
    (fun q => q.1 ≤ ps.length ∧ (q.2 = none → q.1 = 0)) (fun q => ps.length - q.1) 0 (0, none) ?_ ⟨by simp, by simp⟩ ?_
  · refine Wk.perm' ?_ (fun p hp => hp) (fun t ht => by cases ht)
    simp only [lfOK, upd]
    repeat' first | exact AVle.refl _ _ | exact trivial | refine And.intro ?_ ?_ | exact AVle.int (by simp only [IntKind.wrap_i64]; omega)
  · rintro γ' ⟨i, tk⟩ hf ⟨hi, htk⟩
    simp only at hi htk
    generalize hQ' : kIt _ _ _ _ _ = Q'
    unfold ir_wirebody_l0
    by_cases hlt : i < ps.length
    · have hd : decide ((i : Int) < (ps.length : Int)) = true := by simp; omega
      have hg1 : (parsAV ps).getD i [] = [.sl none 1 (intsAV ps[i])] := parsAV_get hlt
      have hpi := hp _ (List.getElem_mem hlt)
      have c1 := fs_one (Gl := Gl) hst (p := ps[i]) (t := none) (by omega) hpi.2
      have htk1 : (ps.take (i + 1)).map subText = (ps.take i).map subText ++ [subText ps[i]] := by
        rw [List.take_add_one, List.getElem?_eq_getElem hlt, List.map_append]; rfl
      have hlen : (strsAV ((ps.take i).map subText)).length ≤ ps.length := by rw [strsAV_length]; simp; omega
      cases tk with
      | none =>
        have h0 := htk rfl
        have ht0 : ps.take i = [] := by rw [h0]; rfl
        rw [ht0, List.map_nil, List.nil_append] at htk1
        simp +contextual (maxSteps := 1000000) only [hd, hg1, Int.toNat_natCast, parsAV_length, go_sem, reduceCtorEq, ↓reduceIte, Nat.reduceAdd, Nat.reduceEqDiff, Nat.reduceLeDiff, Nat.reduceMul, Nat.reduceBEq, Int.reduceBEq, Int.reduceBNe, Int.reduceLT, Int.reduceLE, Int.reduceGT, Int.reduceGE, Int.reduceToNat, Int.natCast_one, Int.natCast_zero, Int.cast_ofNat_Int]
        refine ⟨⟨by omega, by omega⟩, ?_⟩
        (refine CallP.pure (c1) (fun _ => rfl) ?_; simp +contextual (maxSteps := 1000000) only [go_sem, reduceCtorEq, ↓reduceIte, Nat.reduceAdd, Nat.reduceEqDiff, Nat.reduceLeDiff, Nat.reduceMul, Nat.reduceBEq, Int.reduceBEq, Int.reduceBNe, Int.reduceLT, Int.reduceLE, Int.reduceGT, Int.reduceGE, Int.reduceToNat, Int.natCast_one, Int.natCast_zero, Int.cast_ofNat_Int])
        rw [← hQ']
        simp only [w_kIt_n]
        refine ⟨0, (i + 1, some (γ', 8, 0)), Wk.perm' ?_ (fun p hp => hp) ?_, ⟨by simp only; omega, by simp⟩, by simp only; omega⟩
        · simp only [htk1, sv_some, strsAV, List.map_cons, List.map_nil]
          repeat' first | exact AVle.refl _ _ | exact trivial | refine And.intro ?_ ?_ | exact AVle.int (by simp only [IntKind.wrap_i64]; omega)
        · intro t ht
          cases ht
          exact .inl rfl
      | some t0 =>
        simp +contextual (maxSteps := 1000000) only [hd, hg1, Int.toNat_natCast, parsAV_length, go_sem, reduceCtorEq, ↓reduceIte, Nat.reduceAdd, Nat.reduceEqDiff, Nat.reduceLeDiff, Nat.reduceMul, Nat.reduceBEq, Int.reduceBEq, Int.reduceBNe, Int.reduceLT, Int.reduceLE, Int.reduceGT, Int.reduceGE, Int.reduceToNat, Int.natCast_one, Int.natCast_zero, Int.cast_ofNat_Int]
        refine ⟨⟨by omega, by omega⟩, ?_⟩
        (refine CallP.pure (c1) (fun _ => rfl) ?_; simp +contextual (maxSteps := 1000000) only [go_sem, reduceCtorEq, ↓reduceIte, Nat.reduceAdd, Nat.reduceEqDiff, Nat.reduceLeDiff, Nat.reduceMul, Nat.reduceBEq, Int.reduceBEq, Int.reduceBNe, Int.reduceLT, Int.reduceLE, Int.reduceGT, Int.reduceGE, Int.reduceToNat, Int.natCast_one, Int.natCast_zero, Int.cast_ofNat_Int])
        refine ⟨⟨.inr trivial, by omega⟩, ?_⟩
        rw [← hQ']
        simp only [w_kIt_n]
        refine ⟨0, (i + 1, some (γ', 8, 0)), Wk.perm' ?_ (fun p hp => hp) ?_, ⟨by simp only; omega, by simp⟩, by simp only; omega⟩
        · simp only [htk1, sv_some, strsAV_snoc]
          repeat' first | exact AVle.refl _ _ | exact trivial | refine And.intro ?_ ?_ | exact AVle.int (by simp only [IntKind.wrap_i64]; omega)
        · intro t ht
          cases ht
          exact .inl rfl
    · have hii : i = ps.length := by omega
      have hd : decide ((i : Int) < (ps.length : Int)) = false := by simp; omega
      have hfull : (ps.take i).map subText = ps.map subText := by rw [List.take_of_length_le (by omega)]
      have hz : Lib.join (ps.map subText) [59] = parsText ps := join_jn 59 _
      have hjl : (Lib.join (ps.map subText) [59]).length ≤ 140737488355328 := by rw [hz]; omega
      have c1 : FS Tryz.prog Gl 98 [sv tk 1 (strsAV (ps.map subText)), .str [59]] [] [] (.str (parsText ps)) [] [] := by
        rw [← hz]
        cases tk with
        | none =>
          have h0 : ps = [] := List.length_eq_zero_iff.1 (by rw [← hii]; exact htk rfl)
          exact (fs_Join (Gl := Gl) (xs := ps.map subText) (sep := [59]) (t := none) (by simp; omega) hjl).args ⟨by rw [h0]; exact RepLe.nils 1, RepLe.refl _, trivial⟩
        | some t0 => exact fs_Join (Gl := Gl) (xs := ps.map subText) (sep := [59]) (t := some t0) (by simp; omega) hjl
      simp +contextual (maxSteps := 1000000) only [hd, hfull, go_sem, reduceCtorEq, ↓reduceIte, Nat.reduceAdd, Nat.reduceEqDiff, Nat.reduceLeDiff, Nat.reduceMul, Nat.reduceBEq, Int.reduceBEq, Int.reduceBNe, Int.reduceLT, Int.reduceLE, Int.reduceGT, Int.reduceGE, Int.reduceToNat, Int.natCast_one, Int.natCast_zero, Int.cast_ofNat_Int]
      rw [← hQ']
      simp only [w_kIt_e, w_kBlk_e, ↓reduceIte]
      simp +contextual (maxSteps := 1000000) only [go_sem, reduceCtorEq, ↓reduceIte, Nat.reduceAdd, Nat.reduceEqDiff, Nat.reduceLeDiff, Nat.reduceMul, Nat.reduceBEq, Int.reduceBEq, Int.reduceBNe, Int.reduceLT, Int.reduceLE, Int.reduceGT, Int.reduceGE, Int.reduceToNat, Int.natCast_one, Int.natCast_zero, Int.cast_ofNat_Int]
      refine DCall.new c1 ?_
      simp +contextual (maxSteps := 1000000) only [isByte_one, unbyte_c, go_sem, reduceCtorEq, ↓reduceIte, Nat.reduceAdd, Nat.reduceEqDiff, Nat.reduceLeDiff, Nat.reduceMul, Nat.reduceBEq, Int.reduceBEq, Int.reduceBNe, Int.reduceLT, Int.reduceLE, Int.reduceGT, Int.reduceGE, Int.reduceToNat, Int.natCast_one, Int.natCast_zero, Int.cast_ofNat_Int]
      refine ⟨by omega, by simp only [List.length_append]; omega, ?_⟩
      have hpr : ((pr.toNat : Int).toNat).toUInt8 = pr := by rw [Int.toNat_natCast]; exact UInt8.ofNat_toNat
      cases hq : ((pr.toNat : Int) != 0) with
      | false =>
        simp +contextual (maxSteps := 1000000) only [go_sem, reduceCtorEq, ↓reduceIte, Nat.reduceAdd, Nat.reduceEqDiff, Nat.reduceLeDiff, Nat.reduceMul, Nat.reduceBEq, Int.reduceBEq, Int.reduceBNe, Int.reduceLT, Int.reduceLE, Int.reduceGT, Int.reduceGE, Int.reduceToNat, Int.natCast_one, Int.natCast_zero, Int.cast_ofNat_Int]
        have hz1 : prB (pr.toNat : Int) = [] := by rw [prB, hq]; rfl
        rw [← hQ, hz1]
        exact ⟨trivial, Ret.flat rfl rfl⟩
      | true =>
        simp +contextual (maxSteps := 1000000) only [isByte_one, unbyte_c, go_sem, reduceCtorEq, ↓reduceIte, Nat.reduceAdd, Nat.reduceEqDiff, Nat.reduceLeDiff, Nat.reduceMul, Nat.reduceBEq, Int.reduceBEq, Int.reduceBNe, Int.reduceLT, Int.reduceLE, Int.reduceGT, Int.reduceGE, Int.reduceToNat, Int.natCast_one, Int.natCast_zero, Int.cast_ofNat_Int]
        refine ⟨by simp only [List.length_append, List.length_cons, List.length_nil]; omega, ?_⟩
        have hz1 : prB (pr.toNat : Int) = [pr] := by rw [prB, hq, hpr]; rfl
        rw [← hQ, hz1]
        exact ⟨trivial, Ret.flat rfl rfl⟩
end Go.Proofs.YthmjlngdbabdeaaGreatDoor

/- Sequences as bytes, walked: the program's Put. -/
set_option linter.unusedVariables false
set_option linter.unusedSimpArgs false
set_option maxRecDepth 100000
namespace Go.Proofs.YthmjlngdbabdeaaGreatDoor
open Go Go.Ab
/-- clavier/wire.Put -/
def ir_wirePut : ICode :=
 (.seq
  (.reg [⟨some 1, none, .box 35 (.t 0)⟩,
    ⟨some 2, none, .mov (.c .nils)⟩,
    ⟨some 3, none, .mov (.c (.int .i64 0))⟩] (some [1]))
  (.seq
   (.seq
    (.reg [⟨some 5, none, .ld (some 6) (.t 1)⟩,
      ⟨some 6, none, .call (.c (.fn (.func 64) [] [])) [(.t 5)]⟩,
      ⟨some 4, none, .mov (.t 6)⟩] (some [1, 4]))
    (.seq
     (.reg [⟨some 7, none, .mov (.t 4)⟩,
       ⟨some 8, none, .bin .neq .none (.t 7) (.c (.int .i64 0))⟩] (some [1, 4, 8]))
     (.cond (.t 8)
      (.seq
       (.reg [⟨some 9, none, .mov (.t 4)⟩,
         ⟨some 2, none, .mov (.c .nils)⟩,
         ⟨some 3, none, .mov (.t 9)⟩] (some [2, 3]))
       .ret)
      .skip)))
   (.seq
    (.seq
     (.reg [⟨some 10, none, .fa 0 (.t 1)⟩,
       ⟨some 11, none, .ld none (.t 10)⟩] (some [1, 11]))
     (.blk 0
      (.seq
       (.reg [⟨some 13, none, .bin .eql .none (.t 11) (.c (.int .i64 1))⟩,
         ⟨some 12, none, .mov (.t 13)⟩] (some [1, 11, 12]))
       (.cond (.t 12)
        (.seq
         (.reg [⟨some 14, none, .ld (some 6) (.t 1)⟩,
           ⟨some 15, none, .call (.c (.fn (.func 66) [] [])) [(.t 14)]⟩,
           ⟨some 16, none, .row 9 1 [(.c (.str [91])), (.t 15)]⟩,
           ⟨some 17, none, .call (.c (.fn (.func 65) [] [])) [(.t 16)]⟩,
           ⟨some 2, none, .mov (.t 17)⟩,
           ⟨some 3, none, .mov (.c (.int .i64 0))⟩] (some [2, 3]))
         .ret)
        (.seq
         (.reg [⟨some 19, none, .bin .eql .none (.t 11) (.c (.int .i64 2))⟩,
           ⟨some 18, none, .mov (.t 19)⟩] (some [1, 11, 18]))
         (.cond (.t 18)
          (.seq
           (.reg [⟨some 20, none, .fa 4 (.t 1)⟩,
             ⟨some 21, none, .ld none (.t 20)⟩,
             ⟨some 22, none, .row 5 1 [(.t 21)]⟩,
             ⟨some 23, none, .b2s (.t 22)⟩,
             ⟨some 24, none, .row 9 1 [(.c (.str [79])), (.t 23)]⟩,
             ⟨some 25, none, .call (.c (.fn (.func 65) [] [])) [(.t 24)]⟩,
             ⟨some 2, none, .mov (.t 25)⟩,
             ⟨some 3, none, .mov (.c (.int .i64 0))⟩] (some [2, 3]))
           .ret)
          (.seq
           (.reg [⟨some 27, none, .bin .eql .none (.t 11) (.c (.int .i64 3))⟩,
             ⟨some 26, none, .mov (.t 27)⟩] (some [1, 11, 26]))
           (.cond (.t 26)
            (.seq
             (.drw [⟨⟨some 28, none, .ld (some 6) (.t 1)⟩, []⟩,
               ⟨⟨some 29, none, .call (.c (.fn (.func 66) [] [])) [(.t 28)]⟩, [0]⟩,
               ⟨⟨some 30, none, .fa 5 (.t 1)⟩, []⟩,
               ⟨⟨some 31, none, .ld none (.t 30)⟩, [2]⟩,
               ⟨⟨some 32, none, .row 9 1 [(.c (.str [80])), (.t 29), (.t 31), (.c (.str [27, 92]))]⟩, [1, 3]⟩,
               ⟨⟨some 33, none, .call (.c (.fn (.func 65) [] [])) [(.t 32)]⟩, [4, 1]⟩]
               [⟨some 2, none, .mov (.t 33)⟩,
               ⟨some 3, none, .mov (.c (.int .i64 0))⟩] (some [2, 3]))
             .ret)
            (.seq
             (.reg [⟨some 35, none, .bin .eql .none (.t 11) (.c (.int .i64 4))⟩,
               ⟨some 34, none, .mov (.t 35)⟩] (some [1, 34]))
             (.cond (.t 34)
              (.seq
               (.reg [⟨some 36, none, .fa 5 (.t 1)⟩,
                 ⟨some 37, none, .ld none (.t 36)⟩,
                 ⟨some 38, none, .row 9 1 [(.c (.str [93])), (.t 37), (.c (.str [27, 92]))]⟩,
                 ⟨some 39, none, .call (.c (.fn (.func 65) [] [])) [(.t 38)]⟩,
                 ⟨some 2, none, .mov (.t 39)⟩,
                 ⟨some 3, none, .mov (.c (.int .i64 0))⟩] (some [2, 3]))
               .ret)
              .skip))))))))))
    (.seq
     (.reg [⟨some 40, none, .ld (some 6) (.t 1)⟩,
       ⟨some 41, none, .call (.c (.fn (.func 66) [] [])) [(.t 40)]⟩,
       ⟨some 42, none, .row 9 1 [(.t 41)]⟩,
       ⟨some 43, none, .call (.c (.fn (.func 65) [] [])) [(.t 42)]⟩,
       ⟨some 2, none, .mov (.t 43)⟩,
       ⟨some 3, none, .mov (.c (.int .i64 0))⟩] (some [2, 3]))
     .ret))))
theorem is_wirePut : IrOf Tryz.prog 23 44 ir_wirePut [.t 2, .t 3] := ⟨_, Tryz.func23, rfl, by kernel_rfl, by kernel_rfl, by kernel_rfl⟩


theorem esc_plain {s : Sq} (h : mayP s = 0) (h1 : s.k ≠ 1) (h2 : s.k ≠ 2) (h3 : s.k ≠ 3) (h4 : s.k ≠ 4) : s.pr = 0 ∧ s.ps = [] := by
  have hs : shapedP s = true := by
    simp only [mayP] at h
    split at h
    · cases h
    · split at h
      · cases h
      · rename_i h2
        simp only [Bool.or_eq_true, Bool.not_eq_true', not_or, Bool.not_eq_false] at h2
        exact h2.2
  simp only [shapedP, if_neg h1, if_neg h2, if_neg h3, if_neg h4] at hs
  split at hs
  · simp only [Bool.and_eq_true, beq_iff_eq] at hs
    obtain ⟨⟨⟨⟨⟨q1, q2⟩, _⟩, _⟩, _⟩, _⟩ := hs
    exact ⟨q1, List.length_eq_zero_iff.1 (by omega)⟩
  · cases hs
set_option maxHeartbeats 4000000 in
theorem fs_wPut {Gl : Gh → Prop} (hst : Stays Gl) {s : Sq} (hp0 : 0 ≤ s.pr) (hp1 : s.pr < 256) (hf0 : 0 ≤ s.fi) (hf1 : s.fi < 128) (h : s.sm) : FS Tryz.prog Gl 23 [.agg s.c] [] [] (.tup [putV s, .int .i64 (mayP s)]) [] [] := by
  have c1 := fs_May (Gl := Gl) hst hf0 hf1 h.ps h.pp h.it h.da
  have hfl : (AV.tup [putV s, .int .i64 (mayP s)]).flatT = true := by
    unfold putV; split <;> rfl
  refine FS.ofW hm hst is_wirePut hfl (by simp) fun γ hγ hfr => ?_
  have hpv : putV s = if (mayP s != 0) = true then .nils else .sl none 1 (bytesAV (putB s)) := rfl
  have hda : mayP s = 0 → s.da.length ≤ 4096 := fun hz => (mayP_sm hz).2.2.2.2
  have hil : mayP s = 0 → s.it.length ≤ 2 := fun hz => (mayP_sm hz).2.2.2.1
  have hpl : mayP s = 0 → s.ps.length ≤ 16 := fun hz => (mayP_sm hz).2.1
  have hpp : mayP s = 0 → ∀ p ∈ s.ps, p.length ≤ 8 ∧ ∀ n ∈ p, n ≤ 1114111 := fun hz p hp => ⟨(mayP_sm hz).2.2.1 p hp, fun n hn => (((parsOk_iff (may_pars hz)).2.2 p hp).2.2 n hn).2⟩
  obtain ⟨k, pr, ps, it, fi, da⟩ := s
  simp only at hp0 hp1 hf0 hf1 hda hil hpl hpp
  obtain ⟨pr, rfl⟩ := byteOf hp0 hp1
  obtain ⟨fi, rfl⟩ := byteOf hf0 (by omega)
  have hbb : putB ⟨k, pr.toNat, ps, it, fi.toNat, da⟩ = (if (k == 1) = true then [27, 91] ++ (prB pr.toNat ++ parsText ps ++ it) ++ [fi]
    else if (k == 2) = true then [27, 79] ++ [fi]
    else if (k == 3) = true then [27, 80] ++ (prB pr.toNat ++ parsText ps ++ it) ++ [fi] ++ da ++ [27, 92]
    else if (k == 4) = true then [27, 93] ++ da ++ [27, 92]
    else [27] ++ it ++ [fi]) := by
    have : ((fi.toNat : Int).toNat).toUInt8 = fi := by rw [Int.toNat_natCast]; exact UInt8.ofNat_toNat
    simp only [putB, bodyB, this]
  have hcc : Sq.c ⟨k, pr.toNat, ps, it, fi.toNat, da⟩ = [.int .i64 k, .int .u8 (pr.toNat : Int), parsV ps, .str it, .int .u8 (fi.toNat : Int), .str da] := rfl
  rw [hcc] at c1
  generalize hmp : mayP _ = mp at *
  (generalize hQ : (fun (ex : Ex) (_ _ : Nat) (s : St) => _) = Q; unfold ir_wirePut)
  simp +contextual (maxSteps := 1000000) only [hcc, go_sem, reduceCtorEq, ↓reduceIte, Nat.reduceAdd, Nat.reduceEqDiff, Nat.reduceLeDiff, Nat.reduceMul, Nat.reduceBEq, Int.reduceBEq, Int.reduceBNe, Int.reduceLT, Int.reduceLE, Int.reduceGT, Int.reduceGE, Int.reduceToNat, Int.natCast_one, Int.natCast_zero, Int.cast_ofNat_Int]
  (refine CallP.pure (c1) (fun _ => rfl) ?_; simp +contextual (maxSteps := 1000000) only [go_sem, reduceCtorEq, ↓reduceIte, Nat.reduceAdd, Nat.reduceEqDiff, Nat.reduceLeDiff, Nat.reduceMul, Nat.reduceBEq, Int.reduceBEq, Int.reduceBNe, Int.reduceLT, Int.reduceLE, Int.reduceGT, Int.reduceGE, Int.reduceToNat, Int.natCast_one, Int.natCast_zero, Int.cast_ofNat_Int])
  by_cases hz : mp = 0
  · subst hz
    have hda := hda rfl
    have hil := hil rfl
    have c2 := fs_body (Gl := Gl) hst (k := k) (ps := ps) (it := it) (da := da) (pr := pr) (fi := fi) (hpl rfl) (hpp rfl) (by omega)
    rw [hcc] at c2
    have hsl := parsText_len (hpp rfl)
    have hpl := hpl rfl
    have hprl : (prB pr.toNat).length ≤ 1 := by unfold prB; split <;> simp
    have fin : ∀ {l : List UInt8} {γ c : Nat} {H : Hp} {T : Tk}, l = putB ⟨k, pr.toNat, ps, it, fi.toNat, da⟩ → Q .ret γ c ⟨lf [(2, .sl none 1 (bytesAV l)), (3, .int .i64 0)], H, T⟩ := by
      intro l γ c H T hl
      rw [← hQ, hpv, hl]
      exact ⟨trivial, .inl ⟨_, rfl, RepLe.refl _⟩⟩
    have hpt : (parsText ps).length ≤ 3000 := by omega
    have hk1 : (k == 1) = true ∨ (k == 1) = false := by cases (k == 1) <;> simp
    rcases hk1 with hk1 | hk1
    · simp +contextual (maxSteps := 1000000) only [hk1, go_sem, reduceCtorEq, ↓reduceIte, Nat.reduceAdd, Nat.reduceEqDiff, Nat.reduceLeDiff, Nat.reduceMul, Nat.reduceBEq, Int.reduceBEq, Int.reduceBNe, Int.reduceLT, Int.reduceLE, Int.reduceGT, Int.reduceGE, Int.reduceToNat, Int.natCast_one, Int.natCast_zero, Int.cast_ofNat_Int]
      (refine CallP.pure (c2) (fun _ => rfl) ?_; simp +contextual (maxSteps := 1000000) only [go_sem, reduceCtorEq, ↓reduceIte, Nat.reduceAdd, Nat.reduceEqDiff, Nat.reduceLeDiff, Nat.reduceMul, Nat.reduceBEq, Int.reduceBEq, Int.reduceBNe, Int.reduceLT, Int.reduceLE, Int.reduceGT, Int.reduceGE, Int.reduceToNat, Int.natCast_one, Int.natCast_zero, Int.cast_ofNat_Int])
      (refine CallP.pure (fs_glue (xs := [[91], prB pr.toNat ++ (parsText ps ++ it ++ [fi])]) hst (by simp) (by simp; omega)) (fun _ => rfl) ?_; simp +contextual (maxSteps := 1000000) only [go_sem, reduceCtorEq, ↓reduceIte, Nat.reduceAdd, Nat.reduceEqDiff, Nat.reduceLeDiff, Nat.reduceMul, Nat.reduceBEq, Int.reduceBEq, Int.reduceBNe, Int.reduceLT, Int.reduceLE, Int.reduceGT, Int.reduceGE, Int.reduceToNat, Int.natCast_one, Int.natCast_zero, Int.cast_ofNat_Int])
      refine fin ?_
      rw [hbb, if_pos hk1]; simp
    have hk2 : (k == 2) = true ∨ (k == 2) = false := by cases (k == 2) <;> simp
    rcases hk2 with hk2 | hk2
    · simp +contextual (maxSteps := 1000000) only [hk1, hk2, isByte_one, unbyte_c, go_sem, reduceCtorEq, ↓reduceIte, Nat.reduceAdd, Nat.reduceEqDiff, Nat.reduceLeDiff, Nat.reduceMul, Nat.reduceBEq, Int.reduceBEq, Int.reduceBNe, Int.reduceLT, Int.reduceLE, Int.reduceGT, Int.reduceGE, Int.reduceToNat, Int.natCast_one, Int.natCast_zero, Int.cast_ofNat_Int]
      (refine CallP.pure (fs_glue (xs := [[79], [fi]]) hst (by simp) (by simp)) (fun _ => rfl) ?_; simp +contextual (maxSteps := 1000000) only [go_sem, reduceCtorEq, ↓reduceIte, Nat.reduceAdd, Nat.reduceEqDiff, Nat.reduceLeDiff, Nat.reduceMul, Nat.reduceBEq, Int.reduceBEq, Int.reduceBNe, Int.reduceLT, Int.reduceLE, Int.reduceGT, Int.reduceGE, Int.reduceToNat, Int.natCast_one, Int.natCast_zero, Int.cast_ofNat_Int])
      refine fin ?_
      rw [hbb, hk1, if_neg (by simp), if_pos hk2]; simp
    have hk3 : (k == 3) = true ∨ (k == 3) = false := by cases (k == 3) <;> simp
    rcases hk3 with hk3 | hk3
    · simp +contextual (maxSteps := 1000000) only [hk1, hk2, hk3, go_sem, reduceCtorEq, ↓reduceIte, Nat.reduceAdd, Nat.reduceEqDiff, Nat.reduceLeDiff, Nat.reduceMul, Nat.reduceBEq, Int.reduceBEq, Int.reduceBNe, Int.reduceLT, Int.reduceLE, Int.reduceGT, Int.reduceGE, Int.reduceToNat, Int.natCast_one, Int.natCast_zero, Int.cast_ofNat_Int]
      refine DCall.new c2 ?_
      simp +contextual (maxSteps := 1000000) only [go_sem, reduceCtorEq, ↓reduceIte, Nat.reduceAdd, Nat.reduceEqDiff, Nat.reduceLeDiff, Nat.reduceMul, Nat.reduceBEq, Int.reduceBEq, Int.reduceBNe, Int.reduceLT, Int.reduceLE, Int.reduceGT, Int.reduceGE, Int.reduceToNat, Int.natCast_one, Int.natCast_zero, Int.cast_ofNat_Int]
      refine ⟨by simp [AV.closedL, AV.closed], DCall.new (fs_glue (xs := [[80], prB pr.toNat ++ (parsText ps ++ it ++ [fi]), da, [27, 92]]) hst (by simp) (by simp; omega)) ?_⟩
      simp +contextual (maxSteps := 1000000) only [go_sem, reduceCtorEq, ↓reduceIte, Nat.reduceAdd, Nat.reduceEqDiff, Nat.reduceLeDiff, Nat.reduceMul, Nat.reduceBEq, Int.reduceBEq, Int.reduceBNe, Int.reduceLT, Int.reduceLE, Int.reduceGT, Int.reduceGE, Int.reduceToNat, Int.natCast_one, Int.natCast_zero, Int.cast_ofNat_Int]
      refine fin ?_
      rw [hbb, hk1, if_neg (by simp), hk2, if_neg (by simp), if_pos hk3]; simp
    have hk4 : (k == 4) = true ∨ (k == 4) = false := by cases (k == 4) <;> simp
    rcases hk4 with hk4 | hk4
    · simp +contextual (maxSteps := 1000000) only [hk1, hk2, hk3, hk4, go_sem, reduceCtorEq, ↓reduceIte, Nat.reduceAdd, Nat.reduceEqDiff, Nat.reduceLeDiff, Nat.reduceMul, Nat.reduceBEq, Int.reduceBEq, Int.reduceBNe, Int.reduceLT, Int.reduceLE, Int.reduceGT, Int.reduceGE, Int.reduceToNat, Int.natCast_one, Int.natCast_zero, Int.cast_ofNat_Int]
      (refine CallP.pure (fs_glue (xs := [[93], da, [27, 92]]) hst (by simp) (by simp; omega)) (fun _ => rfl) ?_; simp +contextual (maxSteps := 1000000) only [go_sem, reduceCtorEq, ↓reduceIte, Nat.reduceAdd, Nat.reduceEqDiff, Nat.reduceLeDiff, Nat.reduceMul, Nat.reduceBEq, Int.reduceBEq, Int.reduceBNe, Int.reduceLT, Int.reduceLE, Int.reduceGT, Int.reduceGE, Int.reduceToNat, Int.natCast_one, Int.natCast_zero, Int.cast_ofNat_Int])
      refine fin ?_
      rw [hbb, hk1, if_neg (by simp), hk2, if_neg (by simp), hk3, if_neg (by simp), if_pos hk4]; simp
    · simp +contextual (maxSteps := 1000000) only [hk1, hk2, hk3, hk4, go_sem, reduceCtorEq, ↓reduceIte, Nat.reduceAdd, Nat.reduceEqDiff, Nat.reduceLeDiff, Nat.reduceMul, Nat.reduceBEq, Int.reduceBEq, Int.reduceBNe, Int.reduceLT, Int.reduceLE, Int.reduceGT, Int.reduceGE, Int.reduceToNat, Int.natCast_one, Int.natCast_zero, Int.cast_ofNat_Int]
      (refine CallP.pure (c2) (fun _ => rfl) ?_; simp +contextual (maxSteps := 1000000) only [go_sem, reduceCtorEq, ↓reduceIte, Nat.reduceAdd, Nat.reduceEqDiff, Nat.reduceLeDiff, Nat.reduceMul, Nat.reduceBEq, Int.reduceBEq, Int.reduceBNe, Int.reduceLT, Int.reduceLE, Int.reduceGT, Int.reduceGE, Int.reduceToNat, Int.natCast_one, Int.natCast_zero, Int.cast_ofNat_Int])
      (refine CallP.pure (fs_glue (xs := [prB pr.toNat ++ (parsText ps ++ it ++ [fi])]) hst (by simp) (by simp; omega)) (fun _ => rfl) ?_; simp +contextual (maxSteps := 1000000) only [go_sem, reduceCtorEq, ↓reduceIte, Nat.reduceAdd, Nat.reduceEqDiff, Nat.reduceLeDiff, Nat.reduceMul, Nat.reduceBEq, Int.reduceBEq, Int.reduceBNe, Int.reduceLT, Int.reduceLE, Int.reduceGT, Int.reduceGE, Int.reduceToNat, Int.natCast_one, Int.natCast_zero, Int.cast_ofNat_Int])
      refine fin ?_
      rw [hbb, hk1, if_neg (by simp), hk2, if_neg (by simp), hk3, if_neg (by simp), hk4, if_neg (by simp)]
      obtain ⟨hpl1, hpl2⟩ := esc_plain hmp (by simpa using hk1) (by simpa using hk2) (by simpa using hk3) (by simpa using hk4)
      simp only at hpl1 hpl2
      rw [hpl1, hpl2]; rfl
  · have hq : (mp != 0) = true := by simp [hz]
    simp +contextual (maxSteps := 1000000) only [hq, go_sem, reduceCtorEq, ↓reduceIte, Nat.reduceAdd, Nat.reduceEqDiff, Nat.reduceLeDiff, Nat.reduceMul, Nat.reduceBEq, Int.reduceBEq, Int.reduceBNe, Int.reduceLT, Int.reduceLE, Int.reduceGT, Int.reduceGE, Int.reduceToNat, Int.natCast_one, Int.natCast_zero, Int.cast_ofNat_Int]
    rw [← hQ, hpv, if_pos hq]
    exact ⟨trivial, .inl ⟨_, rfl, RepLe.refl _⟩⟩
end Go.Proofs.YthmjlngdbabdeaaGreatDoor

/- Keys by flags, walked: Key. -/
set_option linter.unusedVariables false
set_option linter.unusedSimpArgs false
set_option maxRecDepth 100000
namespace Go.Proofs.YthmjlngdbabdeaaGreatDoor
open Go Go.Ab
/-- clavier/kitty.Key -/
def ir_kittyKey : ICode :=
 (.seq
  (.reg [⟨some 3, none, .box 23 (.t 1)⟩,
    ⟨some 4, none, .mov (.c .nils)⟩] (some [0, 3]))
  (.seq
   (.drw [⟨⟨some 11, none, .ld (some 6) (.t 3)⟩, []⟩,
     ⟨⟨some 12, none, .mov (.t 0)⟩, []⟩,
     ⟨⟨some 13, none, .fa 0 (.t 3)⟩, []⟩,
     ⟨⟨some 14, none, .ld none (.t 13)⟩, [2]⟩,
     ⟨⟨some 15, none, .call (.c (.fn (.func 18) [] [])) [(.t 14)]⟩, [3]⟩,
     ⟨⟨some 16, none, .fld 0 none (.t 15)⟩, [4]⟩,
     ⟨⟨some 17, none, .bld [(.int .i64 0), (.int .i64 0), (.int .i64 0), (.int .i64 0), (.int .i64 0), (.str []), (.int .i64 0), (.int .i64 0)] [(0, 6, (.t 11)), (6, 1, (.t 12)), (7, 1, (.t 16))]⟩, [0, 1, 5]⟩,
     ⟨⟨some 5, none, .box 51 (.c (.agg [(.int .i64 0), (.int .i64 0), (.int .i64 0), (.int .i64 0), (.int .i64 0), (.str []), (.int .i64 0), (.int .i64 0)]))⟩, []⟩]
     [⟨none, none, .st 8 (.t 5) (.t 17)⟩] (some [3, 5]))
   (.seq
    (.seq
     (.reg [⟨some 18, none, .ld (some 6) (.t 3)⟩,
       ⟨some 19, none, .call (.c (.fn (.func 20) [] [])) [(.t 18)]⟩,
       ⟨some 20, none, .un .not (.t 19)⟩,
       ⟨some 21, none, .mov (.t 20)⟩,
       ⟨some 22, some (21, false), .ld (some 8) (.t 5)⟩,
       ⟨some 23, some (21, false), .call (.c (.fn (.func 21) [] [])) [(.t 22)]⟩,
       ⟨some 24, some (21, false), .un .not (.t 23)⟩,
       ⟨some 25, none, .pick (.t 21) (.c (.bool true)) (.t 24)⟩] (some [3, 5, 25]))
     (.cond (.t 25)
      (.seq
       (.reg [⟨some 4, none, .mov (.c .nils)⟩] (some [4]))
       .ret)
      .skip))
    (.seq
     (.seq
      (.reg [⟨some 26, none, .ld (some 8) (.t 5)⟩,
        ⟨some 27, none, .call (.c (.fn (.func 22) [] [])) [(.t 26)]⟩,
        ⟨some 6, none, .mov (.t 27)⟩] (some [3, 5, 6]))
      (.seq
       (.reg [⟨some 28, none, .mov (.t 6)⟩,
         ⟨some 29, none, .len (.t 28)⟩,
         ⟨some 30, none, .bin .gtr .none (.t 29) (.c (.int .i64 0))⟩] (some [3, 5, 6, 30]))
       (.cond (.t 30)
        (.seq
         (.reg [⟨some 31, none, .mov (.t 6)⟩,
           ⟨some 4, none, .mov (.t 31)⟩] (some [4]))
         .ret)
        .skip)))
     (.seq
      (.reg [⟨some 33, none, .fa 0 (.t 3)⟩,
        ⟨some 34, none, .ld none (.t 33)⟩,
        ⟨some 35, none, .call (.c (.fn (.func 9) [] [])) [(.t 34)]⟩,
        ⟨some 32, none, .mov (.t 35)⟩,
        ⟨some 36, none, .ext (.t 32) 0⟩,
        ⟨some 37, none, .ext (.t 32) 1⟩,
        ⟨some 7, none, .mov (.t 36)⟩,
        ⟨some 8, none, .mov (.t 37)⟩] (some [5, 7, 8]))
      (.seq
       (.drw [⟨⟨some 39, none, .mov (.t 8)⟩, []⟩,
         ⟨⟨some 40, none, .ld (some 8) (.t 5)⟩, []⟩,
         ⟨⟨some 41, none, .mov (.t 7)⟩, []⟩,
         ⟨⟨some 42, none, .mov (.t 8)⟩, []⟩,
         ⟨⟨some 43, none, .call (.c (.fn (.func 25) [] [])) [(.t 40), (.t 41), (.t 42)]⟩, [1, 2, 3]⟩,
         ⟨⟨some 44, none, .ld (some 8) (.t 5)⟩, []⟩,
         ⟨⟨some 45, none, .call (.c (.fn (.func 26) [] [])) [(.t 44)]⟩, [5, 4]⟩,
         ⟨⟨some 46, none, .ld (some 8) (.t 5)⟩, []⟩,
         ⟨⟨some 47, none, .call (.c (.fn (.func 27) [] [])) [(.t 46)]⟩, [7, 6]⟩,
         ⟨⟨some 48, none, .row 56 1 [(.t 43), (.t 45), (.t 47)]⟩, [4, 6, 8]⟩,
         ⟨⟨some 49, none, .call (.c (.fn (.func 24) [] [])) [(.t 48)]⟩, [9, 8]⟩,
         ⟨⟨some 50, none, .bld [(.int .i64 0), (.int .u8 0), .nils, (.str []), (.int .u8 0), (.str [])] [(0, 1, (.c (.int .i64 1))), (4, 1, (.t 39)), (2, 1, (.t 49))]⟩, [0, 10]⟩,
         ⟨⟨some 51, none, .call (.c (.fn (.func 23) [] [])) [(.t 50)]⟩, [11, 10]⟩,
         ⟨⟨some 38, none, .mov (.t 51)⟩, [12]⟩,
         ⟨⟨some 52, none, .ext (.t 38) 0⟩, [13]⟩,
         ⟨⟨some 53, none, .ext (.t 38) 1⟩, [13]⟩,
         ⟨⟨some 9, none, .mov (.t 52)⟩, [14, 12, 0, 1, 2, 3, 4, 5, 6, 7, 8, 9, 10, 11, 12, 13, 14]⟩]
         [⟨some 10, none, .mov (.t 53)⟩] (some [9]))
       (.seq
        (.reg [⟨some 54, none, .mov (.t 9)⟩,
          ⟨some 4, none, .mov (.t 54)⟩] (some [4]))
        .ret)))))))
theorem is_kittyKey : IrOf Tryz.prog 11 55 ir_kittyKey [.t 4] := ⟨_, Tryz.func11, rfl, by kernel_rfl, by kernel_rfl, by kernel_rfl⟩


def putX (s : Sq) : List UInt8 := if (mayP s != 0) = true then [] else putB s
theorem putV_le (s : Sq) : RepLe (putV s) (.sl none 1 (bytesAV (putX s))) := by
  unfold putV putX
  split
  · exact RepLe.nils 1
  · exact RepLe.refl _
theorem letR_lt (c : Int) : (letR c).toNat < 128 := by
  unfold letR
  repeat' split
  all_goals first | decide | (rw [UInt8.toNat_ofNat', Nat.mod_eq_of_lt (by omega)]; omega)
theorem formK_lt (c : Int) : (formK c).2.toNat < 128 := by
  simp only [formK]
  split
  · decide
  · split
    · decide
    · split
      · rename_i h
        show (lookR c).final.toNat < 128
        unfold lookR at h ⊢
        split
        · exact letR_lt c
        · rename_i h1
          rw [if_neg h1] at h
          split
          · exact (by decide : (0 : UInt8).toNat < 128)
          · rename_i h2
            rw [if_neg h2] at h
            split
            · rename_i h3
              rw [if_pos h3] at h
              have : (padR c).kind = 5 := by unfold padR; split <;> rfl
              rw [this] at h
              exact absurd h.1 (by decide)
            · exact (by decide : (0 : UInt8).toNat < 128)
      · split
        · exact (by decide : (126 : UInt8).toNat < 128)
        · exact (by decide : (117 : UInt8).toNat < 128)
def keySq (fl : Int) (k : Ky) : Sq := ⟨1, 0, trimK [firstK fl k (formK k.code).1 (formK k.code).2.toNat, secondK fl k, thirdK fl k] 3, [], (formK k.code).2.toNat, []⟩
def keyK (fl : Int) (k : Ky) : List UInt8 :=
  if (!mayK k || !sentK fl k) = true then []
  else if textK fl k ≠ [] then textK fl k
  else putX (keySq fl k)
set_option maxHeartbeats 4000000 in
theorem fs_Key {Gl : Gh → Prop} (hst : Stays Gl) {k : Ky} {fl : Int} (hfl : fl ≤ 9223372036854775807) (ht : k.text.length ≤ 1000000000000) : FS Tryz.prog Gl 11 [.int .i64 fl, .agg (kyAV k)] [] [] (.sl none 1 (bytesAV (keyK fl k))) [] [] := by
  refine FS.ofW hm hst is_kittyKey rfl (by simp) fun γ hγ hfr => ?_
  have c1 := fs_Look (Gl := Gl) hst (c := k.code)
  rw [ent_eq] at c1
  have c2 := fs_MayK (Gl := Gl) hst ht
  have c3 := fs_sent (Gl := Gl) hst (k := k) hfl
  rw [evC] at c3
  have hky : kyAV k = [.int .i64 k.code, .int .i64 k.mods, .int .i64 k.type, .int .i64 k.shifted, .int .i64 k.base, .str k.text] := rfl
  rw [hky] at c2
  have hkd : (lookR k.code).kind = kindK k.code := rfl
  rw [hkd] at c1
  have hkk : keyK fl k = (if (!mayK k || !sentK fl k) = true then [] else if textK fl k ≠ [] then textK fl k else putX (keySq fl k)) := rfl
  (generalize hQ : (fun (ex : Ex) (_ _ : Nat) (s : St) => _) = Q; unfold ir_kittyKey)
  simp +contextual (maxSteps := 1000000) only [hky, go_sem, reduceCtorEq, ↓reduceIte, Nat.reduceAdd, Nat.reduceEqDiff, Nat.reduceLeDiff, Nat.reduceMul, Nat.reduceBEq, Int.reduceBEq, Int.reduceBNe, Int.reduceLT, Int.reduceLE, Int.reduceGT, Int.reduceGE, Int.reduceToNat, Int.natCast_one, Int.natCast_zero, Int.cast_ofNat_Int]
  refine DCall.new c1 ?_
  simp +contextual (maxSteps := 1000000) only [go_sem, reduceCtorEq, ↓reduceIte, Nat.reduceAdd, Nat.reduceEqDiff, Nat.reduceLeDiff, Nat.reduceMul, Nat.reduceBEq, Int.reduceBEq, Int.reduceBNe, Int.reduceLT, Int.reduceLE, Int.reduceGT, Int.reduceGE, Int.reduceToNat, Int.natCast_one, Int.natCast_zero, Int.cast_ofNat_Int]
  refine ⟨fun p hp => ?_, ?_⟩
  · simp only [List.mem_cons, List.not_mem_nil, or_false] at hp
    rcases hp with rfl | rfl | rfl <;> simp [Xev_t, mask_app, upd_app, AV.cells, oneL, AV.one]
  cases hmk : mayK k with
  | false =>
    rw [hmk] at c2
    (refine CallP.pure (c2) (fun _ => rfl) ?_; simp +contextual (maxSteps := 1000000) only [go_sem, reduceCtorEq, ↓reduceIte, Nat.reduceAdd, Nat.reduceEqDiff, Nat.reduceLeDiff, Nat.reduceMul, Nat.reduceBEq, Int.reduceBEq, Int.reduceBNe, Int.reduceLT, Int.reduceLE, Int.reduceGT, Int.reduceGE, Int.reduceToNat, Int.natCast_one, Int.natCast_zero, Int.cast_ofNat_Int])
    have hz : keyK fl k = [] := by rw [hkk, hmk]; rfl
    rw [← hQ, hz]
    exact ⟨trivial, .inl ⟨_, rfl, RepLe.nils 1⟩⟩
  | true =>
    rw [hmk] at c2
    have hmods : 0 ≤ k.mods ∧ k.mods ≤ 255 := by
      simp only [mayK, Bool.and_eq_true, decide_eq_true_eq] at hmk
      exact ⟨hmk.1.1.1.1.1.1.2, hmk.1.1.1.1.1.2⟩
    have c4 := fs_text (Gl := Gl) hst (k := k) hfl hmods.1 hmods.2 ht
    rw [evC] at c4
    cases hse : sentK fl k with
    | false =>
      rw [hse] at c3
      (refine CallP.pure (c2) (fun _ => rfl) ?_; simp +contextual (maxSteps := 1000000) only [go_sem, reduceCtorEq, ↓reduceIte, Nat.reduceAdd, Nat.reduceEqDiff, Nat.reduceLeDiff, Nat.reduceMul, Nat.reduceBEq, Int.reduceBEq, Int.reduceBNe, Int.reduceLT, Int.reduceLE, Int.reduceGT, Int.reduceGE, Int.reduceToNat, Int.natCast_one, Int.natCast_zero, Int.cast_ofNat_Int])
      (refine CallP.pure (c3) (fun _ => rfl) ?_; simp +contextual (maxSteps := 1000000) only [go_sem, reduceCtorEq, ↓reduceIte, Nat.reduceAdd, Nat.reduceEqDiff, Nat.reduceLeDiff, Nat.reduceMul, Nat.reduceBEq, Int.reduceBEq, Int.reduceBNe, Int.reduceLT, Int.reduceLE, Int.reduceGT, Int.reduceGE, Int.reduceToNat, Int.natCast_one, Int.natCast_zero, Int.cast_ofNat_Int])
      have hz : keyK fl k = [] := by rw [hkk, hmk, hse]; rfl
      rw [← hQ, hz]
      exact ⟨trivial, .inl ⟨_, rfl, RepLe.nils 1⟩⟩
    | true =>
      rw [hse] at c3
      have hk2 : keyK fl k = if textK fl k ≠ [] then textK fl k else putX (keySq fl k) := by rw [hkk, hmk, hse]; rfl
      (refine CallP.pure (c2) (fun _ => rfl) ?_; simp +contextual (maxSteps := 1000000) only [go_sem, reduceCtorEq, ↓reduceIte, Nat.reduceAdd, Nat.reduceEqDiff, Nat.reduceLeDiff, Nat.reduceMul, Nat.reduceBEq, Int.reduceBEq, Int.reduceBNe, Int.reduceLT, Int.reduceLE, Int.reduceGT, Int.reduceGE, Int.reduceToNat, Int.natCast_one, Int.natCast_zero, Int.cast_ofNat_Int])
      (refine CallP.pure (c3) (fun _ => rfl) ?_; simp +contextual (maxSteps := 1000000) only [go_sem, reduceCtorEq, ↓reduceIte, Nat.reduceAdd, Nat.reduceEqDiff, Nat.reduceLeDiff, Nat.reduceMul, Nat.reduceBEq, Int.reduceBEq, Int.reduceBNe, Int.reduceLT, Int.reduceLE, Int.reduceGT, Int.reduceGE, Int.reduceToNat, Int.natCast_one, Int.natCast_zero, Int.cast_ofNat_Int])
      (refine CallP.pure (c4) (fun _ => rfl) ?_; simp +contextual (maxSteps := 1000000) only [bytesAV_length', go_sem, reduceCtorEq, ↓reduceIte, Nat.reduceAdd, Nat.reduceEqDiff, Nat.reduceLeDiff, Nat.reduceMul, Nat.reduceBEq, Int.reduceBEq, Int.reduceBNe, Int.reduceLT, Int.reduceLE, Int.reduceGT, Int.reduceGE, Int.reduceToNat, Int.natCast_one, Int.natCast_zero, Int.cast_ofNat_Int])
      by_cases hte : textK fl k = []
      · rw [if_neg (fun h => h hte)] at hk2
        have hq : decide (((textK fl k).length : Int) > 0) = false := by rw [hte]; rfl
        have c5 := fs_Form (Gl := Gl) hst (c := k.code)
        simp +contextual (maxSteps := 1000000) only [hq, go_sem, reduceCtorEq, ↓reduceIte, Nat.reduceAdd, Nat.reduceEqDiff, Nat.reduceLeDiff, Nat.reduceMul, Nat.reduceBEq, Int.reduceBEq, Int.reduceBNe, Int.reduceLT, Int.reduceLE, Int.reduceGT, Int.reduceGE, Int.reduceToNat, Int.natCast_one, Int.natCast_zero, Int.cast_ofNat_Int]
        (refine CallP.pure (c5) (fun _ => rfl) ?_; simp +contextual (maxSteps := 1000000) only [go_sem, reduceCtorEq, ↓reduceIte, Nat.reduceAdd, Nat.reduceEqDiff, Nat.reduceLeDiff, Nat.reduceMul, Nat.reduceBEq, Int.reduceBEq, Int.reduceBNe, Int.reduceLT, Int.reduceLE, Int.reduceGT, Int.reduceGE, Int.reduceToNat, Int.natCast_one, Int.natCast_zero, Int.cast_ofNat_Int])
        have d1 : FS Tryz.prog Gl 25 [.agg (evC k fl (kindK k.code)), .int .i64 (formK k.code).1, .int .u8 ((formK k.code).2.toNat : Int)] [] [] (.sl none 1 (intsAV (firstK fl k (formK k.code).1 ((formK k.code).2.toNat : Int)))) [] [] := fs_code hst hfl hmods.1 hmods.2
        have d2 : FS Tryz.prog Gl 26 [.agg (evC k fl (kindK k.code))] [] [] (.sl none 1 (intsAV (secondK fl k))) [] [] := fs_how hst hfl
        have d3 : FS Tryz.prog Gl 27 [.agg (evC k fl (kindK k.code))] [] [] (.sl none 1 (intsAV (thirdK fl k))) [] [] := fs_texts hst hfl ht
        have d4 : ∀ t : Option Nm, FS Tryz.prog Gl 24 [.sl t 1 [[.sl none 1 (intsAV (firstK fl k (formK k.code).1 ((formK k.code).2.toNat : Int)))], [.sl none 1 (intsAV (secondK fl k))], [.sl none 1 (intsAV (thirdK fl k))]]] [] [] (.sl none 1 (parsAV (keySq fl k).ps)) [] [] := fun t => fs_params (l := [firstK fl k (formK k.code).1 ((formK k.code).2.toNat : Int), secondK fl k, thirdK fl k]) (tb := t) hst (by simp)
        have hthird : (thirdK fl k).length ≤ 1000000000000 := by
          unfold thirdK
          split
          · simp
          · have := allV_len k.text; omega
        have hfirst : (firstK fl k (formK k.code).1 ((formK k.code).2.toNat : Int)).length ≤ 10 := by
          unfold firstK
          split
          · simp
          · simp only
            repeat' split
            all_goals simp
        have hsec : (secondK fl k).length ≤ 10 := by
          unfold secondK
          repeat' split
          all_goals simp
        have hsm : (keySq fl k).sm := by
          have hmem : ∀ (n : Nat) (l : List (List Int)), ∀ p ∈ trimK l n, p ∈ l := by
            intro n l
            induction n with
            | zero => intro p hp; cases hp
            | succ n ih =>
              intro p hp
              rw [trimK] at hp
              split at hp
              · exact ih p hp
              · exact List.mem_of_mem_take hp
          have hlen : ∀ (n : Nat) (l : List (List Int)), (trimK l n).length ≤ l.length := by
            intro n l
            induction n with
            | zero => simp [trimK]
            | succ n ih =>
              rw [trimK]
              split
              · exact ih
              · rw [List.length_take]; omega
          refine ⟨?_, fun p hp => ?_, by simp [keySq], by simp [keySq]⟩
          · have := hlen 3 [firstK fl k (formK k.code).1 ((formK k.code).2.toNat : Int), secondK fl k, thirdK fl k]
            simp only [List.length_cons, List.length_nil] at this
            simp only [keySq]; omega
          · have := hmem 3 _ p hp
            simp only [List.mem_cons, List.not_mem_nil, or_false] at this
            rcases this with rfl | rfl | rfl <;> omega
        have hflt := formK_lt k.code
        have d5 : FS Tryz.prog Gl 23 [.agg [.int .i64 1, .int .u8 0, .sl none 1 (parsAV (keySq fl k).ps), .str [], .int .u8 ((formK k.code).2.toNat : Int), .str []]] [] [] (.tup [putV (keySq fl k), .int .i64 (mayP (keySq fl k))]) [] [] :=
          fs_wPut (s := keySq fl k) hst (by simp [keySq]) (by simp [keySq]) (by simp only [keySq]; omega) (by simp only [keySq]; omega) hsm
        have hrn : ∀ f, Ab.rn f (putV (keySq fl k)) = putV (keySq fl k) := fun f => by unfold putV; split <;> rfl
        have hpl := putV_le (keySq fl k)
        generalize putV (keySq fl k) = pv at *
        rw [evC] at d1 d2 d3
        refine DCall.new d1 ?_
        simp +contextual (maxSteps := 1000000) only [go_sem, reduceCtorEq, ↓reduceIte, Nat.reduceAdd, Nat.reduceEqDiff, Nat.reduceLeDiff, Nat.reduceMul, Nat.reduceBEq, Int.reduceBEq, Int.reduceBNe, Int.reduceLT, Int.reduceLE, Int.reduceGT, Int.reduceGE, Int.reduceToNat, Int.natCast_one, Int.natCast_zero, Int.cast_ofNat_Int]
        refine DCall.new d2 ?_
        simp +contextual (maxSteps := 1000000) only [go_sem, reduceCtorEq, ↓reduceIte, Nat.reduceAdd, Nat.reduceEqDiff, Nat.reduceLeDiff, Nat.reduceMul, Nat.reduceBEq, Int.reduceBEq, Int.reduceBNe, Int.reduceLT, Int.reduceLE, Int.reduceGT, Int.reduceGE, Int.reduceToNat, Int.natCast_one, Int.natCast_zero, Int.cast_ofNat_Int]
        refine DCall.new d3 ?_
        simp +contextual (maxSteps := 1000000) only [go_sem, reduceCtorEq, ↓reduceIte, Nat.reduceAdd, Nat.reduceEqDiff, Nat.reduceLeDiff, Nat.reduceMul, Nat.reduceBEq, Int.reduceBEq, Int.reduceBNe, Int.reduceLT, Int.reduceLE, Int.reduceGT, Int.reduceGE, Int.reduceToNat, Int.natCast_one, Int.natCast_zero, Int.cast_ofNat_Int]
        refine ⟨by simp [AV.closedL, AV.closed], DCall.new (d4 _) ?_⟩
        simp +contextual (maxSteps := 1000000) only [go_sem, reduceCtorEq, ↓reduceIte, Nat.reduceAdd, Nat.reduceEqDiff, Nat.reduceLeDiff, Nat.reduceMul, Nat.reduceBEq, Int.reduceBEq, Int.reduceBNe, Int.reduceLT, Int.reduceLE, Int.reduceGT, Int.reduceGE, Int.reduceToNat, Int.natCast_one, Int.natCast_zero, Int.cast_ofNat_Int]
        refine ⟨fun p hp => ?_, DCall.new d5 ?_⟩
        · simp only [List.mem_cons, List.not_mem_nil, or_false] at hp
          rcases hp with rfl | rfl | rfl <;> simp [Xev_t, Xev_c, mask_app, upd_app, AV.cells, oneL, AV.one]
        simp +contextual (maxSteps := 1000000) only [hrn, go_sem, reduceCtorEq, ↓reduceIte, Nat.reduceAdd, Nat.reduceEqDiff, Nat.reduceLeDiff, Nat.reduceMul, Nat.reduceBEq, Int.reduceBEq, Int.reduceBNe, Int.reduceLT, Int.reduceLE, Int.reduceGT, Int.reduceGE, Int.reduceToNat, Int.natCast_one, Int.natCast_zero, Int.cast_ofNat_Int]
        rw [← hQ, hk2]
        exact ⟨trivial, .inl ⟨_, rfl, hpl⟩⟩
      · rw [if_pos hte] at hk2
        have hq : decide (((textK fl k).length : Int) > 0) = true := by
          have := List.length_pos_iff.2 hte
          simp; omega
        simp +contextual (maxSteps := 1000000) only [hq, go_sem, reduceCtorEq, ↓reduceIte, Nat.reduceAdd, Nat.reduceEqDiff, Nat.reduceLeDiff, Nat.reduceMul, Nat.reduceBEq, Int.reduceBEq, Int.reduceBNe, Int.reduceLT, Int.reduceLE, Int.reduceGT, Int.reduceGE, Int.reduceToNat, Int.natCast_one, Int.natCast_zero, Int.cast_ofNat_Int]
        rw [← hQ, hk2]
        exact ⟨trivial, .inl ⟨_, rfl, RepLe.refl _⟩⟩
end Go.Proofs.YthmjlngdbabdeaaGreatDoor

/- The statements of chapter 13: awake. -/
set_option linter.unusedVariables false
set_option linter.unusedSimpArgs false
set_option maxRecDepth 100000
namespace Go.Proofs.YthmjlngdbabdeaaGreatDoor
open Go Go.Ab
/-- clavier/clavierlaw13.awake -/
def ir_clavierlaw13awake : ICode :=
 (.seq
  (.reg [⟨some 0, none, .mov (.c (.bool false))⟩] (some []))
  (.seq
   (.reg [⟨some 6, none, .bld [(.int .i64 0), (.int .i64 0), (.int .i64 0), (.int .i64 0), (.int .i64 0), (.str [])] [(0, 1, (.c (.int .i64 99))), (1, 1, (.c (.int .i64 4))), (2, 1, (.c (.int .i64 1)))]⟩,
     ⟨some 7, none, .call (.c (.fn (.func 11) [] [])) [(.c (.int .i64 1)), (.t 6)]⟩,
     ⟨some 1, none, .mov (.t 7)⟩] (some [1]))
   (.seq
    (.reg [⟨some 8, none, .bld [(.int .i64 0), (.int .i64 0), (.int .i64 0), (.int .i64 0), (.int .i64 0), (.str [])] [(0, 1, (.c (.int .i64 97))), (2, 1, (.c (.int .i64 1)))]⟩,
      ⟨some 9, none, .call (.c (.fn (.func 11) [] [])) [(.c (.int .i64 8)), (.t 8)]⟩,
      ⟨some 2, none, .mov (.t 9)⟩] (some [1, 2]))
    (.seq
     (.reg [⟨some 10, none, .bld [(.int .i64 0), (.int .i64 0), (.int .i64 0), (.int .i64 0), (.int .i64 0), (.str [])] [(0, 1, (.c (.int .i64 57352))), (2, 1, (.c (.int .i64 3)))]⟩,
       ⟨some 11, none, .call (.c (.fn (.func 11) [] [])) [(.c (.int .i64 2)), (.t 10)]⟩,
       ⟨some 3, none, .mov (.t 11)⟩] (some [1, 2, 3]))
     (.seq
      (.reg [⟨some 13, none, .call (.c (.fn (.func 9) [] [])) [(.c (.int .i64 57366))]⟩,
        ⟨some 12, none, .mov (.t 13)⟩,
        ⟨some 14, none, .ext (.t 12) 0⟩,
        ⟨some 15, none, .ext (.t 12) 1⟩,
        ⟨some 4, none, .mov (.t 14)⟩,
        ⟨some 5, none, .mov (.t 15)⟩] (some [1, 2, 3, 4, 5]))
      (.seq
       (.reg [⟨some 16, none, .mov (.t 1)⟩,
         ⟨some 17, none, .b2s (.t 16)⟩,
         ⟨some 18, none, .bin .eql .none (.t 17) (.c (.str [27, 91, 57, 57, 59, 53, 117]))⟩,
         ⟨some 19, none, .mov (.t 18)⟩,
         ⟨some 20, some (19, true), .mov (.t 2)⟩,
         ⟨some 21, some (19, true), .b2s (.t 20)⟩,
         ⟨some 22, some (19, true), .bin .eql .none (.t 21) (.c (.str [27, 91, 57, 55, 117]))⟩,
         ⟨some 23, none, .pick (.t 19) (.t 22) (.c (.bool false))⟩,
         ⟨some 24, none, .mov (.t 23)⟩,
         ⟨some 25, some (24, true), .mov (.t 3)⟩,
         ⟨some 26, some (24, true), .b2s (.t 25)⟩,
         ⟨some 27, some (24, true), .bin .eql .none (.t 26) (.c (.str [27, 91, 49, 59, 49, 58, 51, 65]))⟩,
         ⟨some 28, none, .pick (.t 24) (.t 27) (.c (.bool false))⟩,
         ⟨some 29, none, .mov (.t 28)⟩,
         ⟨some 30, some (29, true), .mov (.t 4)⟩,
         ⟨some 31, some (29, true), .bin .eql .none (.t 30) (.c (.int .i64 13))⟩,
         ⟨some 32, none, .pick (.t 29) (.t 31) (.c (.bool false))⟩,
         ⟨some 33, none, .mov (.t 32)⟩,
         ⟨some 34, some (33, true), .mov (.t 5)⟩,
         ⟨some 35, some (33, true), .bin .eql .none (.t 34) (.c (.int .u8 126))⟩,
         ⟨some 36, none, .pick (.t 33) (.t 35) (.c (.bool false))⟩,
         ⟨some 0, none, .mov (.t 36)⟩] (some [0]))
       .ret))))))
theorem is_clavierlaw13awake : IrOf Tryz.prog 8 37 ir_clavierlaw13awake [.t 0] := ⟨_, Tryz.func8, rfl, by kernel_rfl, by kernel_rfl, by kernel_rfl⟩

theorem key_a : keyK 1 ⟨99, 4, 1, 0, 0, []⟩ = [27, 91, 57, 57, 59, 53, 117] := by decide +kernel
theorem key_b : keyK 8 ⟨97, 0, 1, 0, 0, []⟩ = [27, 91, 57, 55, 117] := by decide +kernel
theorem key_c : keyK 2 ⟨57352, 0, 3, 0, 0, []⟩ = [27, 91, 49, 59, 49, 58, 51, 65] := by decide +kernel
theorem form_d : formK 57366 = (13, 126) := by decide +kernel
theorem fs_awake {Gl : Gh → Prop} (hst : Stays Gl) : FS Tryz.prog Gl 8 [] [] [] (.bool true) [] [] := by
  refine FS.of hm hst is_clavierlaw13awake (by simp) fun γ hγ hfr => ?_
  have c1 := fs_Key (Gl := Gl) hst (k := ⟨99, 4, 1, 0, 0, []⟩) (fl := 1) (by omega) (by simp)
  have c2 := fs_Key (Gl := Gl) hst (k := ⟨97, 0, 1, 0, 0, []⟩) (fl := 8) (by omega) (by simp)
  have c3 := fs_Key (Gl := Gl) hst (k := ⟨57352, 0, 3, 0, 0, []⟩) (fl := 2) (by omega) (by simp)
  have c4 := fs_Form (Gl := Gl) hst (c := 57366)
  rw [key_a] at c1
  rw [key_b] at c2
  rw [key_c] at c3
  rw [form_d] at c4
  rw [kyAV] at c1 c2 c3
  (generalize hQ : (fun (ex : Ex) (_ _ : Nat) (s : St) => _) = Q; unfold ir_clavierlaw13awake)
  simp +contextual (maxSteps := 1000000) only [go_sem, reduceCtorEq, ↓reduceIte, Nat.reduceAdd, Nat.reduceEqDiff, Nat.reduceLeDiff, Nat.reduceMul, Nat.reduceBEq, Int.reduceBEq, Int.reduceBNe, Int.reduceLT, Int.reduceLE, Int.reduceGT, Int.reduceGE, Int.reduceToNat, Int.natCast_one, Int.natCast_zero, Int.cast_ofNat_Int]
  (refine CallP.pure (c1) (fun _ => rfl) ?_; simp +contextual (maxSteps := 1000000) only [go_sem, reduceCtorEq, ↓reduceIte, Nat.reduceAdd, Nat.reduceEqDiff, Nat.reduceLeDiff, Nat.reduceMul, Nat.reduceBEq, Int.reduceBEq, Int.reduceBNe, Int.reduceLT, Int.reduceLE, Int.reduceGT, Int.reduceGE, Int.reduceToNat, Int.natCast_one, Int.natCast_zero, Int.cast_ofNat_Int])
  (refine CallP.pure (c2) (fun _ => rfl) ?_; simp +contextual (maxSteps := 1000000) only [go_sem, reduceCtorEq, ↓reduceIte, Nat.reduceAdd, Nat.reduceEqDiff, Nat.reduceLeDiff, Nat.reduceMul, Nat.reduceBEq, Int.reduceBEq, Int.reduceBNe, Int.reduceLT, Int.reduceLE, Int.reduceGT, Int.reduceGE, Int.reduceToNat, Int.natCast_one, Int.natCast_zero, Int.cast_ofNat_Int])
  (refine CallP.pure (c3) (fun _ => rfl) ?_; simp +contextual (maxSteps := 1000000) only [go_sem, reduceCtorEq, ↓reduceIte, Nat.reduceAdd, Nat.reduceEqDiff, Nat.reduceLeDiff, Nat.reduceMul, Nat.reduceBEq, Int.reduceBEq, Int.reduceBNe, Int.reduceLT, Int.reduceLE, Int.reduceGT, Int.reduceGE, Int.reduceToNat, Int.natCast_one, Int.natCast_zero, Int.cast_ofNat_Int])
  (refine CallP.pure (c4) (fun _ => rfl) ?_; simp +contextual (maxSteps := 1000000) only [bb_un, bb_is, go_sem, reduceCtorEq, ↓reduceIte, Nat.reduceAdd, Nat.reduceEqDiff, Nat.reduceLeDiff, Nat.reduceMul, Nat.reduceBEq, Int.reduceBEq, Int.reduceBNe, Int.reduceLT, Int.reduceLE, Int.reduceGT, Int.reduceGE, Int.reduceToNat, Int.natCast_one, Int.natCast_zero, Int.cast_ofNat_Int])
  rw [← hQ]
  exact ⟨trivial, Ret.flat rfl rfl⟩
theorem form_out {c : Int} (h : ¬(57348 ≤ c ∧ c ≤ 57454)) (hk : (lookR c).kind ≠ 0) : formK c = (c, 117) := by
  have h3 : letR c = 0 := by
    unfold letR
    repeat (first | rfl | rw [if_neg (by omega)])
  have h4 : numR c = 0 := by
    unfold numR
    repeat (first | rfl | rw [if_neg (by omega)])
  have e : lookR c = ⟨restR c, 0, 0, 0, false⟩ := by
    unfold lookR
    rw [if_neg (by rw [h3]; simp), if_neg (by rw [h4]; simp), if_neg (by omega)]
  have hr : restR c = 2 ∨ restR c = 0 ∨ restR c = 1 := by
    unfold restR
    split
    · simp
    · rw [if_neg (by omega), if_neg (by omega)]
      split <;> simp
  rw [e] at hk
  simp only at hk
  simp only [formK, e]
  rw [if_neg hk, if_neg (by omega), if_neg (by omega), if_neg (by omega)]
theorem form_in : ∀ k : Fin 107, (lookR ((57348 + k.val : Nat) : Int)).kind ≠ 0 → ((formK ((57348 + k.val : Nat) : Int)).2 = 117 ↔ (formK ((57348 + k.val : Nat) : Int)).1 = ((57348 + k.val : Nat) : Int)) := by decide +kernel
theorem form_in2 : ∀ k j : Fin 107, (formK ((57348 + k.val : Nat) : Int)).2 ≠ 117 → formK ((57348 + k.val : Nat) : Int) = formK ((57348 + j.val : Nat) : Int) → (lookR ((57348 + k.val : Nat) : Int)).kind ≠ 0 → k = j := by decide +kernel
theorem form_u {c : Int} (hk : (lookR c).kind ≠ 0) : (formK c).2 = 117 ↔ (formK c).1 = c := by
  by_cases h : 57348 ≤ c ∧ c ≤ 57454
  · have := form_in ⟨(c - 57348).toNat, by omega⟩
    simp only at this
    rw [show ((57348 + (c - 57348).toNat : Nat) : Int) = c by omega] at this
    exact this hk
  · rw [form_out h hk]; simp
theorem form_inj {c d : Int} (hc : (lookR c).kind ≠ 0) (hd : (lookR d).kind ≠ 0) (h : formK c = formK d) : c = d := by
  by_cases h1 : (formK c).2 = 117
  · have h2 := (form_u hc).1 h1
    have h3 := (form_u hd).1 (by rw [← h]; exact h1)
    rw [← h2, ← h3, h]
  · have i1 : 57348 ≤ c ∧ c ≤ 57454 := Classical.byContradiction fun hn => h1 (by rw [form_out hn hc])
    have i2 : 57348 ≤ d ∧ d ≤ 57454 := Classical.byContradiction fun hn => h1 (by rw [h, form_out hn hd])
    have := form_in2 ⟨(c - 57348).toNat, by omega⟩ ⟨(d - 57348).toNat, by omega⟩
    simp only at this
    rw [show ((57348 + (c - 57348).toNat : Nat) : Int) = c by omega, show ((57348 + (d - 57348).toNat : Nat) : Int) = d by omega] at this
    have := this h1 h hc
    simp only [Fin.mk.injEq] at this
    omega
end Go.Proofs.YthmjlngdbabdeaaGreatDoor

/- Keys by flags: what a sequence of a key's is, in plain words; texts' first bytes. -/
set_option linter.unusedVariables false
set_option linter.unusedSimpArgs false
set_option maxRecDepth 100000
namespace Go.Proofs.YthmjlngdbabdeaaGreatDoor
open Go Go.Ab

theorem allU_spec : ∀ (n : Nat) {b : List UInt8} {l : List Int}, b.length ≤ n → allU b = some l → b = l.flatMap putU ∧ (∀ r ∈ l, isCP r = true) ∧ l.length ≤ b.length := by
  intro n
  induction n with
  | zero =>
    intro b l hb h
    have : b = [] := List.length_eq_zero_iff.1 (by omega)
    subst this
    rw [allU_nil] at h
    cases h
    simp
  | succ n ih =>
    intro b l hb h
    by_cases hbe : b = []
    · subst hbe
      rw [allU_nil] at h
      cases h
      simp
    · cases ht : takeU b with
      | none => rw [allU_none hbe ht] at h; cases h
      | some p =>
        obtain ⟨r, m⟩ := p
        rw [allU_some hbe ht] at h
        obtain ⟨h1, h2, h3, h4⟩ := takeU_of ht
        obtain ⟨l', hl, rfl⟩ := Option.map_eq_some_iff.1 h
        obtain ⟨i1, i2, i3⟩ := ih (b := b.drop m) (by rw [List.length_drop]; omega) hl
        refine ⟨?_, ?_, ?_⟩
        · rw [List.flatMap_cons, ← i1, h4, List.take_append_drop]
        · intro x hx
          rcases List.mem_cons.1 hx with rfl | hx
          · refine putU_ne.1 fun e => ?_
            rw [e] at h4
            have := congrArg List.length h4
            rw [List.length_take] at this
            simp at this
            omega
          · exact i2 x hx
        · rw [List.length_drop] at i3
          simp only [List.length_cons]; omega
/-- A character's first byte. -/
theorem putU_head {r : Int} (h : isCP r = true) : ∃ c t, putU r = c :: t ∧ (32 ≤ r → c ≠ 27) := by
  obtain ⟨n, rfl, h1, h2⟩ := isCP_spec h
  unfold putU
  rw [if_pos h, Int.toNat_natCast]
  unfold putN
  have key : ∀ x : Nat, 32 ≤ x → x < 256 → UInt8.ofNat x ≠ 27 := fun x h3 h4 e => by
    have := congrArg UInt8.toNat e
    rw [UInt8.toNat_ofNat', Nat.mod_eq_of_lt (by omega)] at this
    simp at this
    omega
  split
  · exact ⟨_, _, rfl, fun h3 => key n (by omega) (by omega)⟩
  · split
    · exact ⟨_, _, rfl, fun h3 => key _ (by omega) (by omega)⟩
    · split
      · exact ⟨_, _, rfl, fun h3 => key _ (by omega) (by omega)⟩
      · exact ⟨_, _, rfl, fun h3 => key _ (by omega) (by omega)⟩
structure MayK (k : Ky) : Prop where
  kind : kindK k.code ≠ 0
  m0 : 0 ≤ k.mods
  m1 : k.mods ≤ 255
  t0 : 1 ≤ k.type
  t1 : k.type ≤ 3
  sh : k.shifted = 0 ∨ kindK k.shifted = 1
  ba : k.base = 0 ∨ kindK k.base = 1
  tx : cleanK k.text = true
theorem mayK_iff {k : Ky} : mayK k = true ↔ MayK k := by
  simp only [mayK, Bool.and_eq_true, Bool.or_eq_true, decide_eq_true_eq]
  constructor
  · rintro ⟨⟨⟨⟨⟨⟨⟨a, b⟩, c⟩, d⟩, e⟩, f⟩, g⟩, h⟩; exact ⟨a, b, c, d, e, f, g, h⟩
  · rintro ⟨a, b, c, d, e, f, g, h⟩; exact ⟨⟨⟨⟨⟨⟨⟨a, b⟩, c⟩, d⟩, e⟩, f⟩, g⟩, h⟩
/-- A text's code. -/
theorem kind1 {c : Int} (h : kindK c = 1) : isCP c = true ∧ 32 ≤ c ∧ ¬(127 ≤ c ∧ c ≤ 159) := by
  unfold kindK lookR at h
  split at h
  · simp at h
  · split at h
    · simp at h
    · split at h
      · have : (padR c).kind = 5 := by unfold padR; split <;> rfl
        rw [this] at h; simp at h
      · simp only at h
        unfold restR at h
        split at h
        · simp at h
        · split at h
          · simp at h
          · split at h
            · simp at h
            · split at h
              · simp at h
              · rename_i hh
                simp only [not_or, Bool.not_eq_false] at hh
                exact ⟨hh.1, by omega, hh.2.2.1⟩
theorem kind_range {c : Int} (h : kindK c ≠ 0) : 0 ≤ c ∧ c ≤ 1114111 := by
  by_cases h1 : 9 ≤ c ∧ c ≤ 63743
  · omega
  · have : kindK c = 1 := by
      unfold kindK lookR at h ⊢
      have e1 : letR c = 0 := by
        unfold letR
        repeat (first | rfl | rw [if_neg (by omega)])
      have e2 : numR c = 0 := by
        unfold numR
        repeat (first | rfl | rw [if_neg (by omega)])
      rw [if_neg (by simp [e1]), if_neg (by simp [e2]), if_neg (by omega)] at h ⊢
      simp only at h ⊢
      unfold restR at h ⊢
      rw [if_neg (by omega), if_neg (by omega), if_neg (by omega)] at h ⊢
      split
      · rename_i hh; rw [if_pos hh] at h; exact absurd rfl h
      · rfl
    obtain ⟨a, _, _⟩ := kind1 this
    obtain ⟨n, rfl, _, _⟩ := isCP_spec a
    omega
theorem clean_spec {t : List UInt8} (h : cleanK t = true) : ∃ l, allU t = some l ∧ l.length ≤ 8 ∧ ∀ r ∈ l, isCP r = true ∧ 32 ≤ r := by
  unfold cleanK at h
  split at h
  · rename_i l hl
    simp only [Bool.and_eq_true, decide_eq_true_eq, List.all_eq_true] at h
    refine ⟨l, hl, h.1, fun r hr => ⟨(allU_spec _ (Nat.le_refl _) hl).2.1 r hr, ?_⟩⟩
    exact (h.2 r hr).1
  · cases h
theorem text_head {t : List UInt8} (h : cleanK t = true) (hne : t ≠ []) : ∃ c s, t = c :: s ∧ c ≠ 27 := by
  obtain ⟨l, hl, _, hr⟩ := clean_spec h
  have := (allU_spec _ (Nat.le_refl _) hl).1
  cases l with
  | nil => exact absurd this hne
  | cons r l =>
    obtain ⟨a, b⟩ := hr r (by simp)
    obtain ⟨c, s, e, hc⟩ := putU_head a
    refine ⟨c, s ++ l.flatMap putU, ?_, hc b⟩
    rw [this, List.flatMap_cons, e]; rfl
theorem text_all {t : List UInt8} (h : cleanK t = true) (hne : t ≠ []) : (allV t).1 ≠ [] ∧ (allV t).1.length ≤ 8 ∧ ∀ r ∈ (allV t).1, 0 ≤ r ∧ r ≤ 1114111 := by
  obtain ⟨l, hl, h8, hr⟩ := clean_spec h
  have e : allV t = (l, true) := by rw [allV, hl]
  rw [e]
  refine ⟨?_, h8, fun r h => ?_⟩
  · rintro rfl
    exact hne (allU_spec _ (Nat.le_refl _) hl).1
  · obtain ⟨n, rfl, _, _⟩ := isCP_spec (hr r h).1
    omega
theorem shown_cp {k : Ky} (h : kindK k.code = 1) (hs : k.shifted = 0 ∨ kindK k.shifted = 1) : isCP (shownK k) = true ∧ 32 ≤ shownK k := by
  obtain ⟨a, b, _⟩ := kind1 h
  unfold shownK
  split
  · exact ⟨a, b⟩
  · split
    · rename_i h0
      rcases hs with e | e
      · exact absurd e h0
      · obtain ⟨a, b, _⟩ := kind1 e
        exact ⟨a, b⟩
    · split
      · refine ⟨?_, by omega⟩
        simp only [isCP, Bool.and_eq_true, Bool.or_eq_true, decide_eq_true_eq]; omega
      · exact ⟨a, b⟩
theorem letR_or (c : Int) : letR c = 0 ∨ 64 ≤ (letR c).toNat ∧ (letR c).toNat ≤ 126 := by
  unfold letR
  repeat' split
  all_goals first | (exact .inr (by decide)) | (exact .inl rfl) | (refine .inr ?_; rw [UInt8.toNat_ofNat', Nat.mod_eq_of_lt (by omega)]; omega)
theorem formK_ge {c : Int} (h : kindK c ≠ 0) : 64 ≤ (formK c).2.toNat ∧ (formK c).2.toNat ≤ 126 := by
  simp only [formK]
  rw [if_neg (show (lookR c).kind ≠ 0 from h)]
  split
  · decide
  · split
    · rename_i h1
      have e : (lookR c).final = letR c ∧ letR c ≠ 0 := by
        unfold lookR at h1 ⊢
        split
        · rename_i h2; exact ⟨rfl, h2⟩
        · rename_i h2
          rw [if_neg h2] at h1
          split at h1
          · simp at h1
          · split at h1
            · have : (padR c).kind = 5 := by unfold padR; split <;> rfl
              rw [this] at h1; simp at h1
            · simp only at h1
              unfold restR at h1
              have := h1.1
              split at this
              · simp at this
              · split at this
                · simp at this
                · split at this
                  · simp at this
                  · split at this <;> simp at this
      show 64 ≤ (lookR c).final.toNat ∧ (lookR c).final.toNat ≤ 126
      rw [e.1]
      exact (letR_or c).resolve_left e.2
    · split
      · exact ⟨show 64 ≤ (126 : UInt8).toNat by decide, show (126 : UInt8).toNat ≤ 126 by decide⟩
      · exact ⟨show 64 ≤ (117 : UInt8).toNat by decide, show (117 : UInt8).toNat ≤ 126 by decide⟩
theorem numR_or (c : Int) : 0 ≤ numR c ∧ numR c ≤ 100 := by
  unfold numR
  repeat' split
  all_goals omega
theorem formK_num {c : Int} (h : kindK c ≠ 0) : 0 ≤ (formK c).1 ∧ (formK c).1 ≤ 1114111 := by
  have hr := kind_range h
  simp only [formK]
  rw [if_neg (show (lookR c).kind ≠ 0 from h)]
  split
  · decide
  · split
    · exact ⟨show (0 : Int) ≤ 1 by omega, show (1 : Int) ≤ 1114111 by omega⟩
    · split
      · show 0 ≤ (lookR c).num ∧ (lookR c).num ≤ 1114111
        have := numR_or c
        unfold lookR
        repeat' split
        all_goals first | (show (0 : Int) ≤ 0 ∧ (0 : Int) ≤ 1114111; omega) | (show 0 ≤ numR c ∧ numR c ≤ 1114111; omega) | skip
        unfold padR
        split <;> (show (0 : Int) ≤ 0 ∧ (0 : Int) ≤ 1114111) <;> omega
      · exact hr
theorem trimK_spec (l : List (List Int)) : ∀ n, trimK l n = [] ∨ ∃ m, m < n ∧ trimK l n = l.take (m + 1) ∧ untoldK (l.getD m []) (m == 0) = false
  | 0 => .inl rfl
  | n + 1 => by
    rw [trimK]
    split
    · rcases trimK_spec l n with h | ⟨m, h1, h2, h3⟩
      · exact .inl h
      · exact .inr ⟨m, by omega, h2, h3⟩
    · rename_i h
      exact .inr ⟨n, by omega, rfl, by simpa using h⟩
/-- What a key's sequence consists of. -/
structure PartK (p : List Int) : Prop where
  ne : p ≠ []
  le : p.length ≤ 8
  ok : ∀ n ∈ p, -1 ≤ n ∧ n ≤ 1114111
theorem first_ok {fl : Int} {k : Ky} (h : MayK k) : PartK (firstK fl k (formK k.code).1 (formK k.code).2.toNat) := by
  obtain ⟨a, b⟩ := formK_num h.kind
  have hs : 0 ≤ k.shifted ∧ k.shifted ≤ 1114111 := by
    rcases h.sh with e | e
    · omega
    · exact kind_range (by rw [e]; decide)
  have hb : 0 ≤ k.base ∧ k.base ≤ 1114111 := by
    rcases h.ba with e | e
    · omega
    · exact kind_range (by rw [e]; decide)
  unfold firstK
  generalize (formK k.code).1 = n at *
  split
  · exact ⟨by simp, by simp, by simp; omega⟩
  · simp only
    split
    · split
      · split
        · exact ⟨by simp, by simp, by simp; omega⟩
        · exact ⟨by simp, by simp, by simp; omega⟩
      · split
        · exact ⟨by simp, by simp, by simp; omega⟩
        · exact ⟨by simp, by simp, by simp; omega⟩
    · split
      · exact ⟨by simp, by simp, by simp; omega⟩
      · exact ⟨by simp, by simp, by simp; omega⟩
theorem second_ok {fl : Int} {k : Ky} (h : MayK k) : PartK (secondK fl k) := by
  have h1 := h.m0
  have h2 := h.m1
  have h3 := h.t0
  have h4 := h.t1
  have hp : paramK k.mods = k.mods + 1 := by rw [paramK, if_neg (by omega)]
  unfold secondK
  rw [hp]
  split
  · exact ⟨by simp, by simp, by simp; omega⟩
  · split
    · exact ⟨by simp, by simp, by simp; omega⟩
    · exact ⟨by simp, by simp, by simp⟩
theorem third_ok {fl : Int} {k : Ky} (h : MayK k) : PartK (thirdK fl k) := by
  unfold thirdK
  split
  · exact ⟨by simp, by simp, by simp⟩
  · rename_i hh
    have hne : k.text ≠ [] := by
      intro e
      simp [e] at hh
    obtain ⟨a, b, c⟩ := text_all h.tx hne
    exact ⟨a, b, fun n hn => by have := c n hn; omega⟩
theorem key_may {fl : Int} {k : Ky} (h : MayK k) : mayP (keySq fl k) = 0 := by
  have hf := formK_ge h.kind
  have hps : parsOk (keySq fl k).ps = true := by
    have hall : ∀ p ∈ [firstK fl k (formK k.code).1 (formK k.code).2.toNat, secondK fl k, thirdK fl k], PartK p := by
      intro p hp
      simp only [List.mem_cons, List.not_mem_nil, or_false] at hp
      rcases hp with rfl | rfl | rfl
      · exact first_ok h
      · exact second_ok h
      · exact third_ok h
    show parsOk (trimK _ 3) = true
    generalize hl : [firstK fl k (formK k.code).1 (formK k.code).2.toNat, secondK fl k, thirdK fl k] = l at hall
    have hlen : l.length = 3 := by rw [← hl]; rfl
    have good : ∀ m, m < 3 → (m = 0 → l.take 1 ≠ [[-1]]) → parsOk (l.take (m + 1)) = true := by
      intro m hm h1
      simp only [parsOk, Bool.and_eq_true, Bool.not_eq_true', Bool.or_eq_false_iff, decide_eq_false_iff_not]
      refine ⟨⟨by rw [List.length_take]; omega, fun e => ?_⟩, List.any_eq_false.2 fun p hp => ?_⟩
      · have := congrArg List.length e
        rw [List.length_take, hlen] at this
        simp at this
        have hm0 : m = 0 := by omega
        subst hm0
        exact h1 rfl e
      · have := hall p (List.mem_of_mem_take hp)
        simp only [parBad, Bool.or_eq_true, decide_eq_true_eq, not_or, List.any_eq_true, not_exists, not_and]
        refine ⟨fun n hn => by have := this.ok n hn; omega, ?_, by have := this.le; omega⟩
        have := List.length_pos_iff.2 this.ne
        omega
    rcases trimK_spec l 3 with e | ⟨m, hm, e, hu⟩
    · rw [e]; rfl
    · rw [e]
      refine good m hm fun h0 e1 => ?_
      subst h0
      have : l.getD 0 [] = [-1] := by
        have := congrArg (fun z : List (List Int) => z.getD 0 []) e1
        simpa [List.getD_eq_getElem?_getD, List.getElem?_take] using this
      rw [this] at hu
      cases hu
  have hsh : shapedP (keySq fl k) = true := by
    unfold shapedP
    rw [if_pos (show (keySq fl k).k = 1 from rfl)]
    simp only [keySq, Bool.and_eq_true, decide_eq_true_eq]
    exact ⟨⟨trivial, decide_eq_true (by omega)⟩, decide_eq_true (by omega)⟩
  unfold mayP
  rw [hps, hsh]
  rfl
theorem putX_key {fl : Int} {k : Ky} (h : MayK k) : putX (keySq fl k) = [27, 91] ++ bodyB (keySq fl k) ++ [(formK k.code).2] := by
  unfold putX
  rw [key_may h]
  show putB (keySq fl k) = _
  unfold putB
  rw [if_pos (show ((keySq fl k).k == 1) = true from rfl)]
  have : (keySq fl k).fi.toNat.toUInt8 = (formK k.code).2 := by simp [keySq]
  rw [this]
theorem key_sm {fl : Int} {k : Ky} (h : MayK k) : (keySq fl k).sm := by
  have hp := parsOk_iff (may_pars (key_may (fl := fl) h))
  refine ⟨?_, fun p hp' => ?_, by simp [keySq], by simp [keySq]⟩
  · have := hp.1; omega
  · have := (hp.2.2 p hp').2.1; omega
theorem typed1 {c : Int} (h : kindK c = 1) : typedK c = false := by
  obtain ⟨_, a, b⟩ := kind1 h
  unfold typedK
  rw [Bool.or_eq_false_iff, Bool.or_eq_false_iff]
  exact ⟨⟨decide_eq_false (by omega), decide_eq_false (by omega)⟩, decide_eq_false (by omega)⟩
end Go.Proofs.YthmjlngdbabdeaaGreatDoor

/- The sequence with which bytes begin, as it is read: plain; and that what is put is read back. -/
set_option linter.unusedVariables false
set_option linter.unusedSimpArgs false
set_option maxRecDepth 100000
namespace Go.Proofs.YthmjlngdbabdeaaGreatDoor
open Go Go.Ab

/-- What a sequence that may be has. -/
structure MayF (s : Sq) : Prop where
  pr : s.pr = 0 ∨ 60 ≤ s.pr ∧ s.pr ≤ 63
  il : s.it.length ≤ 2
  it : ∀ c ∈ s.it, 32 ≤ c.toNat ∧ c.toNat < 48
  ps : parsOk s.ps = true
  dl : s.da.length ≤ 4096
  da : ∀ c ∈ s.da, 32 ≤ c.toNat ∧ c.toNat < 127
  sh : shapedP s = true
theorem mayF {s : Sq} (h : mayP s = 0) : MayF s := by
  simp only [mayP] at h
  split at h
  · cases h
  rename_i h1
  split at h
  · cases h
  rename_i h2
  simp only [Bool.or_eq_true, Bool.not_eq_true', not_or, Bool.not_eq_false, Bool.and_eq_true, decide_eq_true_eq, beq_iff_eq] at h2 h1
  obtain ⟨⟨⟨⟨h3, h4⟩, h5⟩, h6⟩, h7⟩ := h2
  refine ⟨by omega, by omega, fun c hc => ?_, h5, by omega, fun c hc => ?_, h7⟩
  · have := List.all_eq_true.1 h4.2 c hc
    simp only [Bool.and_eq_true, decide_eq_true_eq] at this; omega
  · have := List.all_eq_true.1 h6 c hc
    simp only [Bool.and_eq_true, decide_eq_true_eq] at this; omega

/-- The next bytes between two. -/
def runL (x y : Nat) (l : List UInt8) : List UInt8 := l.takeWhile fun c => decide (x ≤ c.toNat) && decide (c.toNat ≤ y)
theorem runL_nil {x y : Nat} {r : List UInt8} (h : ∀ c, r.head? = some c → ¬(x ≤ c.toNat ∧ c.toNat ≤ y)) : runL x y r = [] := by
  cases r with
  | nil => rfl
  | cons c r =>
    have := h c rfl
    unfold runL
    rw [List.takeWhile_cons, if_neg]
    simpa using this
theorem runL_app {x y : Nat} : ∀ {a r : List UInt8}, (∀ c ∈ a, x ≤ c.toNat ∧ c.toNat ≤ y) → (∀ c, r.head? = some c → ¬(x ≤ c.toNat ∧ c.toNat ≤ y)) → runL x y (a ++ r) = a
  | [], r, _, h => runL_nil h
  | c :: a, r, ha, h => by
    have := ha c (by simp)
    unfold runL
    rw [List.cons_append, List.takeWhile_cons, if_pos (by simpa using this)]
    congr 1
    exact runL_app (fun d hd => ha d (by simp [hd])) h
theorem runL_pre (x y : Nat) (l : List UInt8) : runL x y l = l.take (runL x y l).length := by
  unfold runL
  exact (List.prefix_iff_eq_take.1 (List.takeWhile_prefix _))
theorem runL_le (x y : Nat) (l : List UInt8) : (runL x y l).length ≤ l.length := by
  unfold runL
  exact (List.takeWhile_prefix _).length_le
theorem runL_mem {x y : Nat} {l : List UInt8} {c : UInt8} (h : c ∈ runL x y l) : x ≤ c.toNat ∧ c.toNat ≤ y := by
  have h' : c ∈ l.takeWhile fun c => decide (x ≤ c.toNat) && decide (c.toNat ≤ y) := h
  have := List.all_eq_true.1 (List.all_takeWhile (l := l) (p := fun c => decide (x ≤ c.toNat) && decide (c.toNat ≤ y))) c h'
  simpa using this
/-- A part of a parameter; too large a one is as large as it may be. -/
def numW (t : List UInt8) : Int := if t = [] then -1 else ((takeN t 0 0).1 : Int)
def subsW (p : List UInt8) : List Int := (splitB 58 p).map numW
def numsW (t : List UInt8) : List (List Int) := if t = [] then [] else (splitB 59 t).map subsW
theorem numW_text {n : Int} (h1 : -1 ≤ n) (h2 : n ≤ 1114111) : numW (textZ n) = n := by
  unfold textZ
  split
  · have : n = -1 := by omega
    subst this; rfl
  · have := takeN_dec n.toNat [] 0 (by omega)
    rw [List.append_nil] at this
    unfold numW
    rw [if_neg (decB_ne _), this]
    simp only [takeN]
    omega
theorem subsW_text {p : List Int} (hp : p ≠ []) (h : ∀ n ∈ p, -1 ≤ n ∧ n ≤ 1114111) : subsW (subText p) = p := by
  unfold subsW subText
  rw [splitB_jn (by simpa using hp)]
  · rw [List.map_map]
    conv => rhs; rw [← List.map_id p]
    exact List.map_congr_left fun n hn => numW_text (h n hn).1 (h n hn).2
  · intro x hx hc
    obtain ⟨n, _, rfl⟩ := List.mem_map.1 hx
    exact fig_not (textZ_figs n _ hc) (by decide) rfl
theorem numsW_text {ps : List (List Int)} (h : parsOk ps = true) : numsW (parsText ps) = ps := by
  obtain ⟨a, b, c⟩ := parsOk_iff h
  have d : ∀ p ∈ ps, p ≠ [] ∧ ∀ n ∈ p, -1 ≤ n := fun p hp => ⟨(c p hp).1, fun n hn => ((c p hp).2.2 n hn).1⟩
  unfold numsW
  split
  · rename_i e
    rcases (parsText_nil d).1 e with e | e
    · exact e.symm
    · exact absurd e b
  · rename_i e
    have hne : ps ≠ [] := fun e' => e (by rw [e']; rfl)
    unfold parsText
    rw [splitB_jn (by simpa using hne)]
    · rw [List.map_map]
      conv => rhs; rw [← List.map_id ps]
      exact List.map_congr_left fun p hq => subsW_text (c p hq).1 (c p hq).2.2
    · intro x hx hc
      obtain ⟨p, _, rfl⟩ := List.mem_map.1 hx
      rcases subText_mem hc with h | h
      · cases h
      · cases h
def isPr (c : UInt8) : Bool := decide (60 ≤ c.toNat) && decide (c.toNat ≤ 63)
/-- Marks and parameters; how many bytes these are. -/
def headW (l : List UInt8) : Int × List (List Int) × Nat :=
  let k := if isPr (l.headD 0) = true then 1 else 0
  let t := runL 48 59 (l.drop k)
  (if isPr (l.headD 0) = true then ((l.headD 0).toNat : Int) else 0, numsW t, k + t.length)
/-- What stands behind parameters. -/
def restW (l : List UInt8) : List UInt8 × Int × Nat :=
  let it := runL 32 47 l
  (it, (((l.drop it.length).headD 0).toNat : Int), it.length + 1)
def zeroSq : Sq := ⟨0, 0, [], [], 0, []⟩
/-- The sequence that bytes might begin with, and how many these would be. -/
def readW (b : List UInt8) : Sq × Nat :=
  if b.headD 0 ≠ 27 then (zeroSq, 1)
  else
    let l := b.drop 1
    if l.headD 0 = 91 then
      let h := headW (b.drop 2)
      let r := restW (b.drop (2 + h.2.2))
      (⟨1, h.1, h.2.1, r.1, r.2.1, []⟩, 2 + h.2.2 + r.2.2)
    else if l.headD 0 = 79 then (⟨2, 0, [], [], ((b.drop 2).headD 0).toNat, []⟩, 3)
    else if l.headD 0 = 80 then
      let h := headW (b.drop 2)
      let r := restW (b.drop (2 + h.2.2))
      let d := runL 32 126 (b.drop (2 + h.2.2 + r.2.2))
      (⟨3, h.1, h.2.1, r.1, r.2.1, d⟩, 2 + h.2.2 + r.2.2 + d.length + 2)
    else if l.headD 0 = 93 then
      let d := runL 32 126 (b.drop 2)
      (⟨4, 0, [], [], 0, d⟩, 2 + d.length + 2)
    else
      let r := restW l
      (⟨5, 0, [], r.1, r.2.1, []⟩, 1 + r.2.2)
theorem head_app {a r : List UInt8} {c : UInt8} (h : (a ++ r).head? = some c) : c ∈ a ∨ (a = [] ∧ r.head? = some c) := by
  cases a with
  | nil => exact .inr ⟨rfl, h⟩
  | cons x a => simp at h; subst h; exact .inl (by simp)
theorem headW_put {s : Sq} (h : MayF s) {f : UInt8} {r : List UInt8} (hf : 64 ≤ f.toNat) : headW (bodyB s ++ f :: r) = (s.pr, s.ps, (prB s.pr).length + (parsText s.ps).length) := by
  have hp : ∀ c ∈ parsText s.ps, 48 ≤ c.toNat ∧ c.toNat ≤ 59 := fun c hc => by have := parsText_mem hc; omega
  have hi : ∀ c, (s.it ++ f :: r).head? = some c → ¬(48 ≤ c.toNat ∧ c.toNat ≤ 59) ∧ ¬(60 ≤ c.toNat ∧ c.toNat ≤ 63) := fun c hc => by
    rcases head_app hc with h1 | ⟨_, h1⟩
    · have := h.it c h1; omega
    · simp at h1; subst h1; omega
  have hrun : runL 48 59 (parsText s.ps ++ (s.it ++ f :: r)) = parsText s.ps := runL_app hp fun c hc => (hi c hc).1
  have hnum := numsW_text h.ps
  unfold bodyB
  rw [List.append_assoc, List.append_assoc]
  rcases h.pr with h0 | ⟨h1, h2⟩
  · have hb : prB s.pr = [] := by rw [h0]; rfl
    have hpr : isPr ((parsText s.ps ++ (s.it ++ f :: r)).headD 0) = false := by
      cases hh : (parsText s.ps ++ (s.it ++ f :: r)).head? with
      | none => rw [List.headD_eq_head?_getD, hh]; rfl
      | some c =>
        rw [List.headD_eq_head?_getD, hh, Option.getD_some]
        unfold isPr
        rw [Bool.and_eq_false_iff, decide_eq_false_iff_not, decide_eq_false_iff_not]
        rcases head_app hh with h3 | ⟨_, h3⟩
        · have := hp c h3; omega
        · have := (hi c h3).2; omega
    rw [hb, List.nil_append]
    unfold headW
    rw [hpr]
    simp only [Bool.false_eq_true, if_false, List.drop_zero, hrun, hnum, h0, List.length_nil]
  · have hne : (s.pr != 0) = true := by rw [bne_iff_ne]; omega
    have hb : prB s.pr = [s.pr.toNat.toUInt8] := by unfold prB; rw [if_pos hne]
    have hc : (s.pr.toNat.toUInt8).toNat = s.pr.toNat := by
      rw [Nat.toUInt8_eq, UInt8.toNat_ofNat', Nat.mod_eq_of_lt (by omega)]
    have hpr : isPr (s.pr.toNat.toUInt8) = true := by
      unfold isPr
      rw [hc, Bool.and_eq_true, decide_eq_true_eq, decide_eq_true_eq]; omega
    rw [hb]
    unfold headW
    simp only [List.cons_append, List.nil_append, List.headD_cons, hpr, if_true, List.drop_succ_cons, List.drop_zero, hrun, hnum, hc, List.length_cons, List.length_nil]
    rw [show ((s.pr.toNat : Nat) : Int) = s.pr by omega]
theorem restW_put {it : List UInt8} (hit : ∀ c ∈ it, 32 ≤ c.toNat ∧ c.toNat < 48) {f : UInt8} {r : List UInt8} (hf : 48 ≤ f.toNat) : restW (it ++ f :: r) = (it, (f.toNat : Int), it.length + 1) := by
  have hrun : runL 32 47 (it ++ f :: r) = it := runL_app (fun c hc => by have := hit c hc; omega) fun c hc => by simp at hc; subst hc; omega
  unfold restW
  simp only [hrun, List.drop_left, List.headD_cons]
theorem body_len (s : Sq) : (bodyB s).length = (prB s.pr).length + (parsText s.ps).length + s.it.length := by
  unfold bodyB; simp only [List.length_append]
/-- What is put is read back, whatever stands behind it. -/
theorem readW_put {s : Sq} (hm : mayP s = 0) (more : List UInt8) : readW (putB s ++ more) = (s, (putB s).length) := by
  have h := mayF hm
  have hsh := h.sh
  have hbl := body_len s
  have fin : 0 ≤ s.fi → s.fi ≤ 126 → ((s.fi.toNat.toUInt8).toNat : Int) = s.fi ∧ (s.fi.toNat.toUInt8).toNat = s.fi.toNat := fun h0 h1 => by
    have : (s.fi.toNat.toUInt8).toNat = s.fi.toNat := by rw [Nat.toUInt8_eq, UInt8.toNat_ofNat', Nat.mod_eq_of_lt (by omega)]
    exact ⟨by rw [this]; omega, this⟩
  have hdr : ∀ (a b : List UInt8), a.length = (prB s.pr).length + (parsText s.ps).length → a ++ b = b → True := fun _ _ _ _ => trivial
  have hbody : ∀ t : List UInt8, (bodyB s ++ t).drop ((prB s.pr).length + (parsText s.ps).length) = s.it ++ t := fun t => by
    unfold bodyB
    rw [List.append_assoc, ← List.length_append]
    exact List.drop_left
  unfold shapedP at hsh
  split at hsh
  · rename_i hk
    simp only [Bool.and_eq_true, decide_eq_true_eq] at hsh
    obtain ⟨⟨hda, hf1⟩, hf2⟩ := hsh
    obtain ⟨e1, e2⟩ := fin (by omega) hf2
    have hput : putB s = [27, 91] ++ bodyB s ++ [s.fi.toNat.toUInt8] := by unfold putB; rw [if_pos (by rw [hk]; rfl)]
    rw [hput]
    have hH := headW_put h (f := s.fi.toNat.toUInt8) (r := more) (by omega)
    have hR := restW_put h.it (f := s.fi.toNat.toUInt8) (r := more) (by omega)
    have hd : ([27, 91] ++ bodyB s ++ [s.fi.toNat.toUInt8] ++ more).drop 2 = bodyB s ++ s.fi.toNat.toUInt8 :: more := by simp
    have hd2 : ([27, 91] ++ bodyB s ++ [s.fi.toNat.toUInt8] ++ more).drop (2 + ((prB s.pr).length + (parsText s.ps).length)) = s.it ++ s.fi.toNat.toUInt8 :: more := by
      rw [← List.drop_drop, hd, hbody]
    unfold readW
    rw [if_neg (by simp)]
    simp only
    rw [if_pos (by simp), hd, hH]
    simp only
    rw [hd2, hR]
    simp only [e1, Prod.mk.injEq]
    refine ⟨?_, ?_⟩
    · obtain ⟨k, pr, ps, it, fi, da⟩ := s
      simp only at hk hda ⊢
      subst hk hda; rfl
    · simp only [List.length_append, List.length_cons, List.length_nil]; omega
  · rename_i hk1
    split at hsh
    · rename_i hk
      simp only [Bool.and_eq_true, decide_eq_true_eq] at hsh
      obtain ⟨hf1, hf2⟩ := hsh
      obtain ⟨e1, e2⟩ := fin (by omega) hf2
      have hput : putB s = [27, 80] ++ bodyB s ++ [s.fi.toNat.toUInt8] ++ s.da ++ [27, 92] := by unfold putB; rw [hk]; rfl
      rw [hput]
      have hH := headW_put h (f := s.fi.toNat.toUInt8) (r := s.da ++ [27, 92] ++ more) (by omega)
      have hR := restW_put h.it (f := s.fi.toNat.toUInt8) (r := s.da ++ [27, 92] ++ more) (by omega)
      have hD : runL 32 126 (s.da ++ ([27, 92] ++ more)) = s.da := runL_app (fun c hc => by have := h.da c hc; omega) fun c hc => by simp at hc; subst hc; decide
      have hd : ([27, 80] ++ bodyB s ++ [s.fi.toNat.toUInt8] ++ s.da ++ [27, 92] ++ more).drop 2 = bodyB s ++ s.fi.toNat.toUInt8 :: (s.da ++ [27, 92] ++ more) := by simp
      have hd2 : ([27, 80] ++ bodyB s ++ [s.fi.toNat.toUInt8] ++ s.da ++ [27, 92] ++ more).drop (2 + ((prB s.pr).length + (parsText s.ps).length)) = s.it ++ s.fi.toNat.toUInt8 :: (s.da ++ [27, 92] ++ more) := by
        rw [← List.drop_drop, hd, hbody]
      have hd3 : ([27, 80] ++ bodyB s ++ [s.fi.toNat.toUInt8] ++ s.da ++ [27, 92] ++ more).drop (2 + ((prB s.pr).length + (parsText s.ps).length) + (s.it.length + 1)) = s.da ++ ([27, 92] ++ more) := by
        rw [← List.drop_drop, hd2, ← List.drop_drop, List.drop_left]
        simp
      unfold readW
      rw [if_neg (by simp)]
      simp only
      rw [if_neg (by simp), if_neg (by simp), if_pos (by simp), hd, hH]
      simp only
      rw [hd2, hR]
      simp only
      rw [hd3, hD]
      simp only [e1, Prod.mk.injEq]
      refine ⟨?_, ?_⟩
      · obtain ⟨k, pr, ps, it, fi, da⟩ := s
        simp only at hk ⊢
        subst hk; rfl
      · simp only [List.length_append, List.length_cons, List.length_nil]; omega
    · rename_i hk3
      split at hsh
      · rename_i hk
        simp only [Bool.and_eq_true, decide_eq_true_eq, beq_iff_eq] at hsh
        obtain ⟨⟨⟨⟨⟨hpr, hps⟩, hit⟩, hda⟩, hf1⟩, hf2⟩ := hsh
        obtain ⟨e1, e2⟩ := fin (by omega) hf2
        have hput : putB s = [27, 79] ++ [s.fi.toNat.toUInt8] := by unfold putB; rw [hk]; rfl
        rw [hput]
        unfold readW
        rw [if_neg (by simp)]
        simp only
        rw [if_neg (by simp), if_pos (by simp)]
        simp only [Prod.mk.injEq]
        refine ⟨?_, by simp⟩
        have hps' : s.ps = [] := List.length_eq_zero_iff.1 (by omega)
        obtain ⟨k, pr, ps, it, fi, da⟩ := s
        simp only at hk hpr hps' hit hda e1 ⊢
        subst hk hpr hps' hit hda
        simp only [List.cons_append, List.nil_append, List.drop_succ_cons, List.drop_zero, List.headD_cons, e1]
      · rename_i hk2
        split at hsh
        · rename_i hk
          simp only [Bool.and_eq_true, decide_eq_true_eq, beq_iff_eq] at hsh
          obtain ⟨⟨⟨hpr, hps⟩, hit⟩, hf⟩ := hsh
          have hput : putB s = [27, 93] ++ s.da ++ [27, 92] := by unfold putB; rw [hk]; rfl
          have hD : runL 32 126 (s.da ++ ([27, 92] ++ more)) = s.da := runL_app (fun c hc => by have := h.da c hc; omega) fun c hc => by simp at hc; subst hc; decide
          have hd : ([27, 93] ++ s.da ++ [27, 92] ++ more).drop 2 = s.da ++ ([27, 92] ++ more) := by simp
          rw [hput]
          unfold readW
          rw [if_neg (by simp)]
          simp only
          rw [if_neg (by simp), if_neg (by simp), if_neg (by simp), if_pos (by simp), hd, hD]
          simp only [Prod.mk.injEq]
          refine ⟨?_, by simp; omega⟩
          have hps' : s.ps = [] := List.length_eq_zero_iff.1 (by omega)
          obtain ⟨k, pr, ps, it, fi, da⟩ := s
          simp only at hk hpr hps' hit hf ⊢
          subst hk hpr hps' hit hf
          rfl
        · rename_i hk4
          split at hsh
          · rename_i hk
            simp only [Bool.and_eq_true, decide_eq_true_eq, beq_iff_eq, Bool.or_eq_true, Bool.not_eq_true', decide_eq_false_iff_not] at hsh
            obtain ⟨⟨⟨⟨⟨hpr, hps⟩, hda⟩, hor⟩, hf1⟩, hf2⟩ := hsh
            obtain ⟨e1, e2⟩ := fin (by omega) hf2
            have hput : putB s = [27] ++ s.it ++ [s.fi.toNat.toUInt8] := by unfold putB; rw [hk]; rfl
            have hR := restW_put h.it (f := s.fi.toNat.toUInt8) (r := more) (by omega)
            have hd : ([27] ++ s.it ++ [s.fi.toNat.toUInt8] ++ more).drop 1 = s.it ++ s.fi.toNat.toUInt8 :: more := by simp
            have hne : ∀ x : UInt8, x ∈ ([79, 80, 91, 93] : List UInt8) → (s.it ++ s.fi.toNat.toUInt8 :: more).headD 0 ≠ x := by
              intro x hx e
              cases hit : s.it with
              | nil =>
                rw [hit] at e
                simp only [List.nil_append, List.headD_cons] at e
                rcases hor with h1 | h1
                · exact h1 hit
                · rw [e] at h1
                  revert h1 hx
                  simp only [List.mem_cons, List.not_mem_nil, or_false]
                  rintro (rfl | rfl | rfl | rfl) h1 <;> revert h1 <;> decide
              | cons c t =>
                rw [hit] at e
                simp only [List.cons_append, List.headD_cons] at e
                have := h.it c (by rw [hit]; simp)
                subst e
                simp only [List.mem_cons, List.not_mem_nil, or_false] at hx
                rcases hx with rfl | rfl | rfl | rfl <;> revert this <;> decide
            rw [hput]
            unfold readW
            rw [if_neg (by simp)]
            simp only
            rw [hd, if_neg (hne 91 (by simp)), if_neg (hne 79 (by simp)), if_neg (hne 80 (by simp)), if_neg (hne 93 (by simp)), hR]
            simp only [e1, Prod.mk.injEq]
            refine ⟨?_, ?_⟩
            · have hps' : s.ps = [] := List.length_eq_zero_iff.1 (by omega)
              obtain ⟨k, pr, ps, it, fi, da⟩ := s
              simp only at hk hpr hps' hda ⊢
              subst hk hpr hps' hda; rfl
            · simp only [List.length_append, List.length_cons, List.length_nil]; omega
          · cases hsh
/-- The sequence with which bytes begin, and how many these are. -/
def takeW (b : List UInt8) : Option (Sq × Nat) :=
  let r := readW b
  if mayP r.1 = 0 ∧ putB r.1 <+: b ∧ (putB r.1).length = r.2 then some r else none
theorem takeW_put {s : Sq} (hm : mayP s = 0) (more : List UInt8) : takeW (putB s ++ more) = some (s, (putB s).length) := by
  unfold takeW
  rw [readW_put hm]
  exact if_pos ⟨hm, List.prefix_append _ _, rfl⟩
theorem takeW_iff {b : List UInt8} {s : Sq} {n : Nat} : takeW b = some (s, n) ↔ mayP s = 0 ∧ putB s <+: b ∧ (putB s).length = n := by
  constructor
  · intro h
    unfold takeW at h
    simp only at h
    split at h
    · rename_i hh
      cases e : readW b with
      | mk s' n' =>
        rw [e] at h hh
        cases h
        exact hh
    · cases h
  · rintro ⟨h1, ⟨r, rfl⟩, rfl⟩
    exact takeW_put h1 r
theorem putB_inj {s t : Sq} (hs : mayP s = 0) (ht : mayP t = 0) (h : putB s = putB t) : s = t := by
  have h1 := takeW_put hs []
  have h2 := takeW_put ht []
  rw [h] at h1
  rw [h1] at h2
  simp only [Option.some.injEq, Prod.mk.injEq] at h2
  exact h2.1
/-- None of a sequence's bytes alone is one. -/
theorem takeW_cut {s : Sq} (hs : mayP s = 0) {n : Nat} (hn : n < (putB s).length) : takeW ((putB s).take n) = none := by
  cases h : takeW ((putB s).take n) with
  | none => rfl
  | some p =>
    obtain ⟨t, m⟩ := p
    obtain ⟨h1, ⟨r, h2⟩, h3⟩ := takeW_iff.1 h
    have h4 : putB s = putB t ++ (r ++ (putB s).drop n) := by rw [← List.append_assoc, h2, List.take_append_drop]
    have h5 := takeW_put h1 (r ++ (putB s).drop n)
    rw [← h4] at h5
    have h6 := takeW_put hs []
    rw [List.append_nil] at h6
    rw [h5] at h6
    simp only [Option.some.injEq, Prod.mk.injEq] at h6
    have h7 : (putB t).length ≤ n := by
      have := congrArg List.length h2
      rw [List.length_append, List.length_take] at this
      omega
    omega
end Go.Proofs.YthmjlngdbabdeaaGreatDoor

/- Modes; modifiers that old forms know; the control characters; sequences of numbers. -/
set_option linter.unusedVariables false
set_option linter.unusedSimpArgs false
set_option maxRecDepth 100000
namespace Go.Proofs.YthmjlngdbabdeaaGreatDoor
open Go Go.Ab
/-- clavier/mods.Old -/
def ir_modsOld : ICode :=
 (.seq
  (.reg [⟨some 2, none, .mov (.c (.int .i64 0))⟩] (some [0]))
  (.seq
   (.reg [⟨some 3, none, .mov (.t 0)⟩,
     ⟨some 4, none, .mm false (.t 3) (.c (.int .i64 0))⟩,
     ⟨some 5, none, .bin .and .none (.t 4) (.c (.int .i64 7))⟩,
     ⟨some 2, none, .mov (.t 5)⟩] (some [2]))
   .ret))
theorem is_modsOld : IrOf Tryz.prog 87 6 ir_modsOld [.t 2] := ⟨_, Tryz.func87, rfl, by kernel_rfl, by kernel_rfl, by kernel_rfl⟩

/-- clavier/clavierref10.Old -/
def ir_clavierref10Old : ICode :=
 (.seq
  (.reg [⟨some 2, none, .mov (.c (.int .i64 0))⟩] (some [0]))
  (.seq
   (.reg [⟨some 3, none, .mov (.t 0)⟩,
     ⟨some 4, none, .mm false (.t 3) (.c (.int .i64 0))⟩,
     ⟨some 5, none, .bin .rem .none (.t 4) (.c (.int .i64 8))⟩,
     ⟨some 2, none, .mov (.t 5)⟩] (some [2]))
   .ret))
theorem is_clavierref10Old : IrOf Tryz.prog 45 6 ir_clavierref10Old [.t 2] := ⟨_, Tryz.func45, rfl, by kernel_rfl, by kernel_rfl, by kernel_rfl⟩

/- clavier/mods.Fold -/
def ir_modsFold_t4 : ICode :=
 (.seq
  (.reg [⟨some 43, none, .mov (.t 5)⟩,
        ⟨some 44, none, .mov (.t 6)⟩,
        ⟨some 2, none, .mov (.t 43)⟩,
        ⟨some 3, none, .mov (.t 44)⟩] (some [2, 3]))
  .ret)
def ir_modsFold_t3 : ICode :=
 (.seq
  (.reg [⟨some 37, none, .mov (.t 4)⟩,
       ⟨some 38, none, .mov (.t 0)⟩,
       ⟨some 39, none, .cvi .i32 (.t 38)⟩,
       ⟨some 40, none, .lkp .int (.int .i64 0) true (.t 37) (.t 39)⟩,
       ⟨some 36, none, .mov (.t 40)⟩,
       ⟨some 41, none, .ext (.t 36) 0⟩,
       ⟨some 42, none, .ext (.t 36) 1⟩,
       ⟨some 5, none, .mov (.t 41)⟩,
       ⟨some 6, none, .mov (.t 42)⟩] (some [5, 6]))
  ir_modsFold_t4)
def ir_modsFold_t2 : ICode :=
 (.seq
  (.blk 0
     (.seq
      (.reg [⟨some 10, none, .mov (.t 0)⟩,
        ⟨some 11, none, .bin .geq .none (.t 10) (.c (.int .i64 97))⟩,
        ⟨some 12, none, .mov (.t 11)⟩,
        ⟨some 13, some (12, true), .mov (.t 0)⟩,
        ⟨some 14, some (12, true), .bin .leq .none (.t 13) (.c (.int .i64 122))⟩,
        ⟨some 15, none, .pick (.t 12) (.t 14) (.c (.bool false))⟩,
        ⟨some 9, none, .mov (.t 15)⟩] (some [0, 4, 9]))
      (.cond (.t 9)
       (.seq
        (.reg [⟨some 16, none, .mov (.t 0)⟩,
          ⟨some 17, none, .bin .sub .none (.t 16) (.c (.int .i64 97))⟩,
          ⟨some 18, none, .bin .add .none (.t 17) (.c (.int .i64 1))⟩,
          ⟨some 2, none, .mov (.t 18)⟩,
          ⟨some 3, none, .mov (.c (.bool true))⟩] (some [2, 3]))
        .ret)
       (.seq
        (.reg [⟨some 20, none, .mov (.t 0)⟩,
          ⟨some 21, none, .bin .geq .none (.t 20) (.c (.int .i64 65))⟩,
          ⟨some 22, none, .mov (.t 21)⟩,
          ⟨some 23, some (22, true), .mov (.t 0)⟩,
          ⟨some 24, some (22, true), .bin .leq .none (.t 23) (.c (.int .i64 90))⟩,
          ⟨some 25, none, .pick (.t 22) (.t 24) (.c (.bool false))⟩,
          ⟨some 19, none, .mov (.t 25)⟩] (some [0, 4, 19]))
        (.cond (.t 19)
         (.seq
          (.reg [⟨some 26, none, .mov (.t 0)⟩,
            ⟨some 27, none, .bin .sub .none (.t 26) (.c (.int .i64 65))⟩,
            ⟨some 28, none, .bin .add .none (.t 27) (.c (.int .i64 1))⟩,
            ⟨some 2, none, .mov (.t 28)⟩,
            ⟨some 3, none, .mov (.c (.bool true))⟩] (some [2, 3]))
          .ret)
         (.seq
          (.reg [⟨some 30, none, .mov (.t 0)⟩,
            ⟨some 31, none, .bin .lss .none (.t 30) (.c (.int .i64 0))⟩,
            ⟨some 32, none, .mov (.t 31)⟩,
            ⟨some 33, some (32, false), .mov (.t 0)⟩,
            ⟨some 34, some (32, false), .bin .gtr .none (.t 33) (.c (.int .i64 255))⟩,
            ⟨some 35, none, .pick (.t 32) (.c (.bool true)) (.t 34)⟩,
            ⟨some 29, none, .mov (.t 35)⟩] (some [0, 4, 29]))
          (.cond (.t 29)
           (.seq
            (.reg [⟨some 2, none, .mov (.c (.int .i64 0))⟩,
              ⟨some 3, none, .mov (.c (.bool false))⟩] (some [2, 3]))
            .ret)
           .skip)))))))
  ir_modsFold_t3)
def ir_modsFold_t1 : ICode :=
 (.seq
  (.reg [⟨some 7, none, .mkm⟩,
     ⟨none, none, .ins .int (.t 7) (.c (.int .i32 32)) (.c (.int .i64 0))⟩,
     ⟨none, none, .ins .int (.t 7) (.c (.int .i32 50)) (.c (.int .i64 0))⟩,
     ⟨none, none, .ins .int (.t 7) (.c (.int .i32 64)) (.c (.int .i64 0))⟩,
     ⟨none, none, .ins .int (.t 7) (.c (.int .i32 51)) (.c (.int .i64 27))⟩,
     ⟨none, none, .ins .int (.t 7) (.c (.int .i32 91)) (.c (.int .i64 27))⟩,
     ⟨none, none, .ins .int (.t 7) (.c (.int .i32 52)) (.c (.int .i64 28))⟩,
     ⟨none, none, .ins .int (.t 7) (.c (.int .i32 92)) (.c (.int .i64 28))⟩,
     ⟨none, none, .ins .int (.t 7) (.c (.int .i32 53)) (.c (.int .i64 29))⟩,
     ⟨none, none, .ins .int (.t 7) (.c (.int .i32 93)) (.c (.int .i64 29))⟩,
     ⟨none, none, .ins .int (.t 7) (.c (.int .i32 54)) (.c (.int .i64 30))⟩,
     ⟨none, none, .ins .int (.t 7) (.c (.int .i32 94)) (.c (.int .i64 30))⟩,
     ⟨none, none, .ins .int (.t 7) (.c (.int .i32 55)) (.c (.int .i64 31))⟩,
     ⟨none, none, .ins .int (.t 7) (.c (.int .i32 47)) (.c (.int .i64 31))⟩,
     ⟨none, none, .ins .int (.t 7) (.c (.int .i32 95)) (.c (.int .i64 31))⟩,
     ⟨none, none, .ins .int (.t 7) (.c (.int .i32 56)) (.c (.int .i64 127))⟩,
     ⟨none, none, .ins .int (.t 7) (.c (.int .i32 63)) (.c (.int .i64 127))⟩,
     ⟨some 8, none, .mov (.t 7)⟩,
     ⟨some 4, none, .mov (.t 8)⟩] (some [0, 4]))
  ir_modsFold_t2)
def ir_modsFold : ICode :=
 (.seq
  (.reg [⟨some 2, none, .mov (.c (.int .i64 0))⟩,
    ⟨some 3, none, .mov (.c (.bool false))⟩] (some [0]))
  ir_modsFold_t1)
theorem is_modsFold : IrOf Tryz.prog 84 45 ir_modsFold [.t 2, .t 3] := ⟨_, Tryz.func84, rfl, by kernel_rfl, by kernel_rfl, by kernel_rfl⟩

/-- clavier/clavierref10.Fold -/
def ir_clavierref10Fold : ICode :=
 (.seq
  (.reg [⟨some 2, none, .mov (.c (.int .i64 0))⟩,
    ⟨some 3, none, .mov (.c (.bool false))⟩] (some [0]))
  (.seq
   (.blk 0
    (.seq
     (.reg [⟨some 5, none, .mov (.t 0)⟩,
       ⟨some 6, none, .bin .eql .none (.t 5) (.c (.int .i64 32))⟩,
       ⟨some 7, none, .mov (.t 6)⟩,
       ⟨some 8, some (7, false), .mov (.t 0)⟩,
       ⟨some 9, some (7, false), .bin .eql .none (.t 8) (.c (.int .i64 50))⟩,
       ⟨some 10, none, .pick (.t 7) (.c (.bool true)) (.t 9)⟩,
       ⟨some 11, none, .mov (.t 10)⟩,
       ⟨some 12, some (11, false), .mov (.t 0)⟩,
       ⟨some 13, some (11, false), .bin .eql .none (.t 12) (.c (.int .i64 64))⟩,
       ⟨some 14, none, .pick (.t 11) (.c (.bool true)) (.t 13)⟩,
       ⟨some 4, none, .mov (.t 14)⟩] (some [0, 4]))
     (.cond (.t 4)
      (.seq
       (.reg [⟨some 2, none, .mov (.c (.int .i64 0))⟩,
         ⟨some 3, none, .mov (.c (.bool true))⟩] (some [2, 3]))
       .ret)
      (.seq
       (.reg [⟨some 16, none, .mov (.t 0)⟩,
         ⟨some 17, none, .bin .geq .none (.t 16) (.c (.int .i64 97))⟩,
         ⟨some 18, none, .mov (.t 17)⟩,
         ⟨some 19, some (18, true), .mov (.t 0)⟩,
         ⟨some 20, some (18, true), .bin .leq .none (.t 19) (.c (.int .i64 122))⟩,
         ⟨some 21, none, .pick (.t 18) (.t 20) (.c (.bool false))⟩,
         ⟨some 15, none, .mov (.t 21)⟩] (some [0, 15]))
       (.cond (.t 15)
        (.seq
         (.reg [⟨some 22, none, .mov (.t 0)⟩,
           ⟨some 23, none, .bin .sub .none (.t 22) (.c (.int .i64 96))⟩,
           ⟨some 2, none, .mov (.t 23)⟩,
           ⟨some 3, none, .mov (.c (.bool true))⟩] (some [2, 3]))
         .ret)
        (.seq
         (.reg [⟨some 25, none, .mov (.t 0)⟩,
           ⟨some 26, none, .bin .geq .none (.t 25) (.c (.int .i64 65))⟩,
           ⟨some 27, none, .mov (.t 26)⟩,
           ⟨some 28, some (27, true), .mov (.t 0)⟩,
           ⟨some 29, some (27, true), .bin .leq .none (.t 28) (.c (.int .i64 95))⟩,
           ⟨some 30, none, .pick (.t 27) (.t 29) (.c (.bool false))⟩,
           ⟨some 24, none, .mov (.t 30)⟩] (some [0, 24]))
         (.cond (.t 24)
          (.seq
           (.reg [⟨some 31, none, .mov (.t 0)⟩,
             ⟨some 32, none, .bin .sub .none (.t 31) (.c (.int .i64 64))⟩,
             ⟨some 2, none, .mov (.t 32)⟩,
             ⟨some 3, none, .mov (.c (.bool true))⟩] (some [2, 3]))
           .ret)
          (.seq
           (.reg [⟨some 34, none, .mov (.t 0)⟩,
             ⟨some 35, none, .bin .geq .none (.t 34) (.c (.int .i64 51))⟩,
             ⟨some 36, none, .mov (.t 35)⟩,
             ⟨some 37, some (36, true), .mov (.t 0)⟩,
             ⟨some 38, some (36, true), .bin .leq .none (.t 37) (.c (.int .i64 55))⟩,
             ⟨some 39, none, .pick (.t 36) (.t 38) (.c (.bool false))⟩,
             ⟨some 33, none, .mov (.t 39)⟩] (some [0, 33]))
           (.cond (.t 33)
            (.seq
             (.reg [⟨some 40, none, .mov (.t 0)⟩,
               ⟨some 41, none, .bin .add .none (.c (.int .i64 27)) (.t 40)⟩,
               ⟨some 42, none, .bin .sub .none (.t 41) (.c (.int .i64 51))⟩,
               ⟨some 2, none, .mov (.t 42)⟩,
               ⟨some 3, none, .mov (.c (.bool true))⟩] (some [2, 3]))
             .ret)
            (.seq
             (.reg [⟨some 44, none, .mov (.t 0)⟩,
               ⟨some 45, none, .bin .eql .none (.t 44) (.c (.int .i64 47))⟩,
               ⟨some 43, none, .mov (.t 45)⟩] (some [0, 43]))
             (.cond (.t 43)
              (.seq
               (.reg [⟨some 2, none, .mov (.c (.int .i64 31))⟩,
                 ⟨some 3, none, .mov (.c (.bool true))⟩] (some [2, 3]))
               .ret)
              (.seq
               (.reg [⟨some 47, none, .mov (.t 0)⟩,
                 ⟨some 48, none, .bin .eql .none (.t 47) (.c (.int .i64 56))⟩,
                 ⟨some 49, none, .mov (.t 48)⟩,
                 ⟨some 50, some (49, false), .mov (.t 0)⟩,
                 ⟨some 51, some (49, false), .bin .eql .none (.t 50) (.c (.int .i64 63))⟩,
                 ⟨some 52, none, .pick (.t 49) (.c (.bool true)) (.t 51)⟩,
                 ⟨some 46, none, .mov (.t 52)⟩] (some [46]))
               (.cond (.t 46)
                (.seq
                 (.reg [⟨some 2, none, .mov (.c (.int .i64 127))⟩,
                   ⟨some 3, none, .mov (.c (.bool true))⟩] (some [2, 3]))
                 .ret)
                .skip)))))))))))))
   (.seq
    (.reg [⟨some 2, none, .mov (.c (.int .i64 0))⟩,
      ⟨some 3, none, .mov (.c (.bool false))⟩] (some [2, 3]))
    .ret)))
theorem is_clavierref10Fold : IrOf Tryz.prog 88 53 ir_clavierref10Fold [.t 2, .t 3] := ⟨_, Tryz.func88, rfl, by kernel_rfl, by kernel_rfl, by kernel_rfl⟩

/- clavier/wire.Num -/
def ir_wireNum_l0 : ICode :=
 (.seq
        (.reg [⟨some 16, none, .bin .lss .none (.t 15) (.t 14)⟩] (some [6, 7, 13, 14, 15, 16]))
        (.seq
         (.cond (.t 16)
          .skip
          (.exit 0))
         (.seq
          (.blk 1
           (.seq
            (.reg [⟨some 17, none, .ia 1 (.t 13) (.t 15)⟩,
              ⟨some 18, none, .ld none (.t 17)⟩,
              ⟨some 9, none, .mov (.t 18)⟩] (some [6, 7, 9, 13, 14, 15]))
            (.reg [⟨some 19, none, .fa 2 (.t 7)⟩,
              ⟨some 20, none, .ld none (.t 19)⟩,
              ⟨some 21, none, .mov (.t 9)⟩,
              ⟨some 22, none, .row 3 1 [(.t 21)]⟩,
              ⟨some 23, none, .row 56 1 [(.t 22)]⟩,
              ⟨some 24, none, .app 56 1 24 (.t 20) (.t 23)⟩,
              ⟨some 25, none, .fa 2 (.t 7)⟩,
              ⟨none, none, .st 1 (.t 25) (.t 24)⟩] (some [6, 7, 13, 14, 15]))))
          (.reg [⟨some 26, none, .bin .add .none (.t 15) (.c (.int .i64 1))⟩,
            ⟨some 15, none, .mov (.t 26)⟩] (some [6, 7, 13, 14, 15])))))
def ir_wireNum : ICode :=
 (.seq
  (.reg [⟨some 6, none, .box 35 (.c (.agg [(.int .i64 0), (.int .u8 0), .nils, (.str []), (.int .u8 0), (.str [])]))⟩] (some [0, 1, 2, 6]))
  (.seq
   (.reg [⟨some 10, none, .mov (.t 0)⟩,
     ⟨some 11, none, .mov (.t 1)⟩,
     ⟨some 12, none, .bld [(.int .i64 0), (.int .u8 0), .nils, (.str []), (.int .u8 0), (.str [])] [(0, 1, (.c (.int .i64 1))), (1, 1, (.t 10)), (4, 1, (.t 11))]⟩,
     ⟨some 7, none, .box 35 (.c (.agg [(.int .i64 0), (.int .u8 0), .nils, (.str []), (.int .u8 0), (.str [])]))⟩,
     ⟨none, none, .st 6 (.t 7) (.t 12)⟩] (some [2, 6, 7]))
   (.seq
    (.seq
     (.reg [⟨some 13, none, .mov (.t 2)⟩,
       ⟨some 14, none, .len (.t 13)⟩,
       ⟨some 15, none, .mov (.c (.int .i64 0))⟩] (some [6, 7, 13, 14, 15]))
     (.blk 0
      (.loop
       ir_wireNum_l0)))
    (.seq
     (.reg [⟨some 27, none, .ld (some 6) (.t 7)⟩,
       ⟨none, none, .st 6 (.t 6) (.t 27)⟩] (some [6]))
     .ret))))
theorem is_wireNum : IrOf Tryz.prog 86 28 ir_wireNum [.cell 6 (some 6)] := ⟨_, Tryz.func86, rfl, by kernel_rfl, by kernel_rfl, by kernel_rfl⟩

/-- clavier/legacy.bytes -/
def ir_legacybytes : ICode :=
 (.seq
  (.reg [⟨some 1, none, .box 35 (.t 0)⟩,
    ⟨some 2, none, .mov (.c .nils)⟩] (some [1]))
  (.seq
   (.reg [⟨some 6, none, .ld (some 6) (.t 1)⟩,
     ⟨some 7, none, .call (.c (.fn (.func 23) [] [])) [(.t 6)]⟩,
     ⟨some 5, none, .mov (.t 7)⟩,
     ⟨some 8, none, .ext (.t 5) 0⟩,
     ⟨some 9, none, .ext (.t 5) 1⟩,
     ⟨some 3, none, .mov (.t 8)⟩,
     ⟨some 4, none, .mov (.t 9)⟩] (some [3]))
   (.seq
    (.reg [⟨some 10, none, .mov (.t 3)⟩,
      ⟨some 2, none, .mov (.t 10)⟩] (some [2]))
    .ret)))
theorem is_legacybytes : IrOf Tryz.prog 85 11 ir_legacybytes [.t 2] := ⟨_, Tryz.func85, rfl, by kernel_rfl, by kernel_rfl, by kernel_rfl⟩


/-- How the terminal is set. -/
structure Md where
  cursor : Bool
  keypad : Bool
  back : Bool
  focus : Bool
  paste : Bool
  lock : Bool
  line : Bool
  mouse : Int
  coding : Int
  other : Int
def mdAV (m : Md) : List AV := [.bool m.cursor, .bool m.keypad, .bool m.back, .bool m.focus, .bool m.paste, .bool m.lock, .bool m.line, .int .i64 m.mouse, .int .i64 m.coding, .int .i64 m.other]
def oldK (m : Int) : Int := max m 0 % 8
theorem or7 : bits .or .i64 (bits .or .i64 1 2) 4 = 7 := by decide +kernel
theorem and7 {m : Int} (hm : m ≤ 9223372036854775807) : bits .and .i64 (max m 0) 7 = oldK m := by
  obtain ⟨n, hn⟩ := Int.eq_ofNat_of_zero_le (show 0 ≤ max m 0 by omega)
  unfold oldK
  rw [hn, show (7 : Int) = ((7 : Nat) : Int) from rfl, and_i64 (by omega) (by omega), show (7 : Nat) = 2 ^ 3 - 1 from rfl, Nat.and_two_pow_sub_one_eq_mod]
  omega
theorem fs_Old {Gl : Gh → Prop} (hst : Stays Gl) {m : Int} (hm2 : m ≤ 9223372036854775807) : FS Tryz.prog Gl 87 [.int .i64 m] [] [] (.int .i64 (oldK m)) [] [] := by
  refine FS.of hm hst is_modsOld (by simp) fun γ hγ hfr => ?_
  (generalize hQ : (fun (ex : Ex) (_ _ : Nat) (s : St) => _) = Q; unfold ir_modsOld)
  simp +contextual (maxSteps := 1000000) only [maxE, and7 hm2, or7, go_sem, reduceCtorEq, ↓reduceIte, Nat.reduceAdd, Nat.reduceEqDiff, Nat.reduceLeDiff, Nat.reduceMul, Nat.reduceBEq, Int.reduceBEq, Int.reduceBNe, Int.reduceLT, Int.reduceLE, Int.reduceGT, Int.reduceGE, Int.reduceToNat, Int.natCast_one, Int.natCast_zero, Int.cast_ofNat_Int]
  rw [← hQ]
  exact ⟨trivial, Ret.flat rfl rfl⟩
theorem fs_rOld {Gl : Gh → Prop} (hst : Stays Gl) {m : Int} (hm2 : m ≤ 9223372036854775807) : FS Tryz.prog Gl 45 [.int .i64 m] [] [] (.int .i64 (oldK m)) [] [] := by
  refine FS.of hm hst is_clavierref10Old (by simp) fun γ hγ hfr => ?_
  have h' : IntKind.i64.wrap ((max m 0).tmod 8) = oldK m := by
    rw [Int.tmod_eq_emod_of_nonneg (by omega), IntKind.wrap_i64]; unfold oldK; omega
  have h : (max m 0).tmod 8 = oldK m := by
    rw [Int.tmod_eq_emod_of_nonneg (by omega)]; rfl
  (generalize hQ : (fun (ex : Ex) (_ _ : Nat) (s : St) => _) = Q; unfold ir_clavierref10Old)
  simp +contextual (maxSteps := 1000000) only [maxE, h, h', go_sem, reduceCtorEq, ↓reduceIte, Nat.reduceAdd, Nat.reduceEqDiff, Nat.reduceLeDiff, Nat.reduceMul, Nat.reduceBEq, Int.reduceBEq, Int.reduceBNe, Int.reduceLT, Int.reduceLE, Int.reduceGT, Int.reduceGE, Int.reduceToNat, Int.natCast_one, Int.natCast_zero, Int.cast_ofNat_Int]
  refine ⟨by omega, ?_⟩
  rw [← hQ]
  exact ⟨trivial, Ret.flat rfl rfl⟩
/-- The control character of a character. -/
def foldK (c : Int) : Option Int :=
  if c = 32 ∨ c = 50 ∨ c = 64 then some 0
  else if 97 ≤ c ∧ c ≤ 122 then some (c - 96)
  else if 65 ≤ c ∧ c ≤ 95 then some (c - 64)
  else if 51 ≤ c ∧ c ≤ 55 then some (27 + c - 51)
  else if c = 47 then some 31
  else if c = 56 ∨ c = 63 then some 127
  else none
def foldV (c : Int) : AV := .tup [.int .i64 ((foldK c).getD 0), .bool (foldK c).isSome]
theorem fold_some {c x : Int} (h : foldK c = some x) : foldV c = .tup [.int .i64 x, .bool true] := by unfold foldV; rw [h]; rfl
theorem fold_none {c : Int} (h : foldK c = none) : foldV c = .tup [.int .i64 0, .bool false] := by unfold foldV; rw [h]; rfl
theorem fs_rFold {Gl : Gh → Prop} (hst : Stays Gl) {c : Int} : FS Tryz.prog Gl 88 [.int .i64 c] [] [] (foldV c) [] [] := by
  refine FS.of hm hst is_clavierref10Fold (by simp) fun γ hγ hfr => ?_
  (generalize hQ : (fun (ex : Ex) (_ _ : Nat) (s : St) => _) = Q; unfold ir_clavierref10Fold)
  (simp +contextual (maxSteps := 1000000) only [go_sem, reduceCtorEq, ↓reduceIte, Nat.reduceAdd, Nat.reduceEqDiff, Nat.reduceLeDiff, Nat.reduceMul, Nat.reduceBEq, Int.reduceBEq, Int.reduceBNe, Int.reduceLT, Int.reduceLE, Int.reduceGT, Int.reduceGE, Int.reduceToNat, Int.natCast_one, Int.natCast_zero, Int.cast_ofNat_Int]; repeat' first | ((first | refine kCond_split (fun hg => ?_) (fun hg => ?_) | refine kGc_split (fun hg => ?_) (fun hg => ?_) | refine kPreG_split (fun hg => ?_) (fun hg => ?_)) <;> (try rw [hg]) <;> simp +contextual (maxSteps := 1000000) only [go_sem, reduceCtorEq, ↓reduceIte, Nat.reduceAdd, Nat.reduceEqDiff, Nat.reduceLeDiff, Nat.reduceMul, Nat.reduceBEq, Int.reduceBEq, Int.reduceBNe, Int.reduceLT, Int.reduceLE, Int.reduceGT, Int.reduceGE, Int.reduceToNat, Int.natCast_one, Int.natCast_zero, Int.cast_ofNat_Int]) | refine And.intro (by omega) ?_)
  all_goals simp only [Bool.or_eq_true, Bool.and_eq_true, beq_iff_eq, decide_eq_true_eq, Bool.or_eq_false_iff, Bool.and_eq_false_iff, beq_eq_false_iff_ne, decide_eq_false_iff_not] at *
  · rw [← hQ, fold_some (x := 0) (by unfold foldK; rw [if_pos (by omega)])]
    exact ⟨trivial, Ret.flatT rfl rfl⟩
  · rw [← hQ, fold_some (x := IntKind.i64.wrap (c - 96)) (by unfold foldK; rw [if_neg (by omega), if_pos (by omega), IntKind.wrap_i64]; congr 1; omega)]
    exact ⟨trivial, Ret.flatT rfl rfl⟩
  · rw [← hQ, fold_some (x := IntKind.i64.wrap (c - 64)) (by unfold foldK; rw [if_neg (by omega), if_neg (by omega), if_pos (by omega), IntKind.wrap_i64]; congr 1; omega)]
    exact ⟨trivial, Ret.flatT rfl rfl⟩
  · rw [← hQ, fold_some (x := IntKind.i64.wrap (IntKind.i64.wrap (27 + c) - 51)) (by unfold foldK; rw [if_neg (by omega), if_neg (by omega), if_neg (by omega), if_pos (by omega), IntKind.wrap_i64, IntKind.wrap_i64]; congr 1; omega)]
    exact ⟨trivial, Ret.flatT rfl rfl⟩
  · rw [← hQ, fold_some (x := 31) (by unfold foldK; rw [if_neg (by omega), if_neg (by omega), if_neg (by omega), if_neg (by omega), if_pos (by omega)])]
    exact ⟨trivial, Ret.flatT rfl rfl⟩
  · rw [← hQ, fold_some (x := 127) (by unfold foldK; rw [if_neg (by omega), if_neg (by omega), if_neg (by omega), if_neg (by omega), if_neg (by omega), if_pos (by omega)])]
    exact ⟨trivial, Ret.flatT rfl rfl⟩
  · rw [← hQ, fold_none (by unfold foldK; rw [if_neg (by omega), if_neg (by omega), if_neg (by omega), if_neg (by omega), if_neg (by omega), if_neg (by omega)])]
    exact ⟨trivial, Ret.flatT rfl rfl⟩
theorem fe_nil {kc : KC} {k : AV} : findE kc k [] = some none := rfl
theorem fe_int {k : IntKind} {a b : Int} {v : AV} {es : List (AV × AV)} : findE .int (.int k a) ((.int k b, v) :: es) = if (a == b) = true then some (some v) else findE .int (.int k a) es := by
  simp only [findE, keyEq, if_true]
  cases (a == b) <;> rfl
theorem isKey_int {k : IntKind} {a : Int} : (isKey .int (.int k a) = true) = True := by simp [isKey]
def foldsE : List (AV × AV) := [(.int .i32 32, .int .i64 0), (.int .i32 50, .int .i64 0), (.int .i32 64, .int .i64 0), (.int .i32 51, .int .i64 27), (.int .i32 91, .int .i64 27), (.int .i32 52, .int .i64 28), (.int .i32 92, .int .i64 28), (.int .i32 53, .int .i64 29), (.int .i32 93, .int .i64 29), (.int .i32 54, .int .i64 30), (.int .i32 94, .int .i64 30), (.int .i32 55, .int .i64 31), (.int .i32 47, .int .i64 31), (.int .i32 95, .int .i64 31), (.int .i32 56, .int .i64 127), (.int .i32 63, .int .i64 127)]
theorem folds_find {c : Int} (h1 : ¬(97 ≤ c ∧ c ≤ 122)) (h2 : ¬(65 ≤ c ∧ c ≤ 90)) : findE .int (.int .i32 c) foldsE = some ((foldK c).map fun f => .int .i64 f) := by
  unfold foldsE
  simp only [fe_int, fe_nil, beq_iff_eq]
  by_cases h : c = 32 ∨ c = 50 ∨ c = 64 ∨ c = 51 ∨ c = 91 ∨ c = 52 ∨ c = 92 ∨ c = 53 ∨ c = 93 ∨ c = 54 ∨ c = 94 ∨ c = 55 ∨ c = 47 ∨ c = 95 ∨ c = 56 ∨ c = 63
  · rcases h with rfl | rfl | rfl | rfl | rfl | rfl | rfl | rfl | rfl | rfl | rfl | rfl | rfl | rfl | rfl | rfl <;> rfl
  · have hn : foldK c = none := by unfold foldK; rw [if_neg (by omega), if_neg (by omega), if_neg (by omega), if_neg (by omega), if_neg (by omega), if_neg (by omega)]
    rw [hn]
    repeat (rw [if_neg (by omega)])
    rfl
theorem fs_Fold {Gl : Gh → Prop} (hst : Stays Gl) {c : Int} : FS Tryz.prog Gl 84 [.int .i64 c] [] [] (foldV c) [] [] := by
  refine FS.of hm hst is_modsFold (by simp) fun γ hγ hfr => ?_
  (generalize hQ : (fun (ex : Ex) (_ _ : Nat) (s : St) => _) = Q; unfold ir_modsFold)
  simp +contextual (maxSteps := 1000000) only [go_sem, reduceCtorEq, ↓reduceIte, Nat.reduceAdd, Nat.reduceEqDiff, Nat.reduceLeDiff, Nat.reduceMul, Nat.reduceBEq, Int.reduceBEq, Int.reduceBNe, Int.reduceLT, Int.reduceLE, Int.reduceGT, Int.reduceGE, Int.reduceToNat, Int.natCast_one, Int.natCast_zero, Int.cast_ofNat_Int]
  unfold ir_modsFold_t1
  simp +contextual (maxSteps := 1000000) only [fe_nil, fe_int, isKey_int, go_sem, reduceCtorEq, ↓reduceIte, Nat.reduceAdd, Nat.reduceEqDiff, Nat.reduceLeDiff, Nat.reduceMul, Nat.reduceBEq, Int.reduceBEq, Int.reduceBNe, Int.reduceLT, Int.reduceLE, Int.reduceGT, Int.reduceGE, Int.reduceToNat, Int.natCast_one, Int.natCast_zero, Int.cast_ofNat_Int]
  have hE : ∀ {P : List (AV × AV) → Prop}, P foldsE → P [(.int .i32 32, .int .i64 0), (.int .i32 50, .int .i64 0), (.int .i32 64, .int .i64 0), (.int .i32 51, .int .i64 27), (.int .i32 91, .int .i64 27), (.int .i32 52, .int .i64 28), (.int .i32 92, .int .i64 28), (.int .i32 53, .int .i64 29), (.int .i32 93, .int .i64 29), (.int .i32 54, .int .i64 30), (.int .i32 94, .int .i64 30), (.int .i32 55, .int .i64 31), (.int .i32 47, .int .i64 31), (.int .i32 95, .int .i64 31), (.int .i32 56, .int .i64 127), (.int .i32 63, .int .i64 127)] := fun h => h
  refine hE (P := fun es => aw Tryz.prog Gl ir_modsFold_t2 γ 21 ⟨lf [(0, .int .i64 c), (4, .mp (γ, 2, 0))], [((γ, 2, 0), .mapp es)], fun x => x ∈ []⟩ Q) ?_
  have hfind : ¬(97 ≤ c ∧ c ≤ 122) → ¬(65 ≤ c ∧ c ≤ 90) → findE .int (.int .i32 c) foldsE = some ((foldK c).map fun f => .int .i64 f) := folds_find
  generalize foldsE = es at hfind ⊢
  unfold ir_modsFold_t2
  simp +contextual (maxSteps := 1000000) only [go_sem, reduceCtorEq, ↓reduceIte, Nat.reduceAdd, Nat.reduceEqDiff, Nat.reduceLeDiff, Nat.reduceMul, Nat.reduceBEq, Int.reduceBEq, Int.reduceBNe, Int.reduceLT, Int.reduceLE, Int.reduceGT, Int.reduceGE, Int.reduceToNat, Int.natCast_one, Int.natCast_zero, Int.cast_ofNat_Int]
  refine kCond_split (fun h => ?_) (fun h => ?_)
  · simp only [Bool.and_eq_true, decide_eq_true_eq] at h
    simp +contextual (maxSteps := 1000000) only [go_sem, reduceCtorEq, ↓reduceIte, Nat.reduceAdd, Nat.reduceEqDiff, Nat.reduceLeDiff, Nat.reduceMul, Nat.reduceBEq, Int.reduceBEq, Int.reduceBNe, Int.reduceLT, Int.reduceLE, Int.reduceGT, Int.reduceGE, Int.reduceToNat, Int.natCast_one, Int.natCast_zero, Int.cast_ofNat_Int]
    rw [← hQ, fold_some (x := IntKind.i64.wrap (IntKind.i64.wrap (c - 97) + 1)) (by unfold foldK; rw [if_neg (by omega), if_pos (by omega), IntKind.wrap_i64, IntKind.wrap_i64]; congr 1; omega)]
    exact ⟨trivial, Ret.flatT rfl rfl⟩
  have h1 : ¬(97 ≤ c ∧ c ≤ 122) := fun e => by
    have : (decide (c ≥ 97) && decide (c ≤ 122)) = true := by simp; omega
    rw [h] at this; cases this
  simp +contextual (maxSteps := 1000000) only [go_sem, reduceCtorEq, ↓reduceIte, Nat.reduceAdd, Nat.reduceEqDiff, Nat.reduceLeDiff, Nat.reduceMul, Nat.reduceBEq, Int.reduceBEq, Int.reduceBNe, Int.reduceLT, Int.reduceLE, Int.reduceGT, Int.reduceGE, Int.reduceToNat, Int.natCast_one, Int.natCast_zero, Int.cast_ofNat_Int]
  refine kCond_split (fun h => ?_) (fun h => ?_)
  · simp only [Bool.and_eq_true, decide_eq_true_eq] at h
    simp +contextual (maxSteps := 1000000) only [go_sem, reduceCtorEq, ↓reduceIte, Nat.reduceAdd, Nat.reduceEqDiff, Nat.reduceLeDiff, Nat.reduceMul, Nat.reduceBEq, Int.reduceBEq, Int.reduceBNe, Int.reduceLT, Int.reduceLE, Int.reduceGT, Int.reduceGE, Int.reduceToNat, Int.natCast_one, Int.natCast_zero, Int.cast_ofNat_Int]
    rw [← hQ, fold_some (x := IntKind.i64.wrap (IntKind.i64.wrap (c - 65) + 1)) (by unfold foldK; rw [if_neg (by omega), if_neg (by omega), if_pos (by omega), IntKind.wrap_i64, IntKind.wrap_i64]; congr 1; omega)]
    exact ⟨trivial, Ret.flatT rfl rfl⟩
  have h2 : ¬(65 ≤ c ∧ c ≤ 90) := fun e => by
    have : (decide (c ≥ 65) && decide (c ≤ 90)) = true := by simp; omega
    rw [h] at this; cases this
  simp +contextual (maxSteps := 1000000) only [go_sem, reduceCtorEq, ↓reduceIte, Nat.reduceAdd, Nat.reduceEqDiff, Nat.reduceLeDiff, Nat.reduceMul, Nat.reduceBEq, Int.reduceBEq, Int.reduceBNe, Int.reduceLT, Int.reduceLE, Int.reduceGT, Int.reduceGE, Int.reduceToNat, Int.natCast_one, Int.natCast_zero, Int.cast_ofNat_Int]
  refine kCond_split (fun h => ?_) (fun h => ?_)
  · simp only [Bool.or_eq_true, decide_eq_true_eq] at h
    simp +contextual (maxSteps := 1000000) only [go_sem, reduceCtorEq, ↓reduceIte, Nat.reduceAdd, Nat.reduceEqDiff, Nat.reduceLeDiff, Nat.reduceMul, Nat.reduceBEq, Int.reduceBEq, Int.reduceBNe, Int.reduceLT, Int.reduceLE, Int.reduceGT, Int.reduceGE, Int.reduceToNat, Int.natCast_one, Int.natCast_zero, Int.cast_ofNat_Int]
    rw [← hQ, fold_none (by unfold foldK; rw [if_neg (by omega), if_neg (by omega), if_neg (by omega), if_neg (by omega), if_neg (by omega), if_neg (by omega)])]
    exact ⟨trivial, Ret.flatT rfl rfl⟩
  have h3 : ¬(c < 0 ∨ c > 255) := fun e => by
    have : (decide (c < 0) || decide (c > 255)) = true := by simp; omega
    rw [h] at this; cases this
  have hw : IntKind.i32.wrap c = c := by rw [IntKind.wrap_i32]; omega
  have hf := hfind h1 h2
  cases hk : foldK c with
  | none =>
    rw [hk, Option.map_none] at hf
    simp +contextual (maxSteps := 1000000) only [go_sem, reduceCtorEq, ↓reduceIte, Nat.reduceAdd, Nat.reduceEqDiff, Nat.reduceLeDiff, Nat.reduceMul, Nat.reduceBEq, Int.reduceBEq, Int.reduceBNe, Int.reduceLT, Int.reduceLE, Int.reduceGT, Int.reduceGE, Int.reduceToNat, Int.natCast_one, Int.natCast_zero, Int.cast_ofNat_Int]
    unfold ir_modsFold_t3
    simp +contextual (maxSteps := 1000000) only [hw, hf, isKey_int, go_sem, reduceCtorEq, ↓reduceIte, Nat.reduceAdd, Nat.reduceEqDiff, Nat.reduceLeDiff, Nat.reduceMul, Nat.reduceBEq, Int.reduceBEq, Int.reduceBNe, Int.reduceLT, Int.reduceLE, Int.reduceGT, Int.reduceGE, Int.reduceToNat, Int.natCast_one, Int.natCast_zero, Int.cast_ofNat_Int]
    unfold ir_modsFold_t4
    simp +contextual (maxSteps := 1000000) only [go_sem, reduceCtorEq, ↓reduceIte, Nat.reduceAdd, Nat.reduceEqDiff, Nat.reduceLeDiff, Nat.reduceMul, Nat.reduceBEq, Int.reduceBEq, Int.reduceBNe, Int.reduceLT, Int.reduceLE, Int.reduceGT, Int.reduceGE, Int.reduceToNat, Int.natCast_one, Int.natCast_zero, Int.cast_ofNat_Int]
    rw [← hQ, fold_none hk]
    exact ⟨trivial, Ret.flatT rfl rfl⟩
  | some f =>
    rw [hk, Option.map_some] at hf
    simp +contextual (maxSteps := 1000000) only [go_sem, reduceCtorEq, ↓reduceIte, Nat.reduceAdd, Nat.reduceEqDiff, Nat.reduceLeDiff, Nat.reduceMul, Nat.reduceBEq, Int.reduceBEq, Int.reduceBNe, Int.reduceLT, Int.reduceLE, Int.reduceGT, Int.reduceGE, Int.reduceToNat, Int.natCast_one, Int.natCast_zero, Int.cast_ofNat_Int]
    unfold ir_modsFold_t3
    simp +contextual (maxSteps := 1000000) only [hw, hf, isKey_int, go_sem, reduceCtorEq, ↓reduceIte, Nat.reduceAdd, Nat.reduceEqDiff, Nat.reduceLeDiff, Nat.reduceMul, Nat.reduceBEq, Int.reduceBEq, Int.reduceBNe, Int.reduceLT, Int.reduceLE, Int.reduceGT, Int.reduceGE, Int.reduceToNat, Int.natCast_one, Int.natCast_zero, Int.cast_ofNat_Int]
    unfold ir_modsFold_t4
    simp +contextual (maxSteps := 1000000) only [go_sem, reduceCtorEq, ↓reduceIte, Nat.reduceAdd, Nat.reduceEqDiff, Nat.reduceLeDiff, Nat.reduceMul, Nat.reduceBEq, Int.reduceBEq, Int.reduceBNe, Int.reduceLT, Int.reduceLE, Int.reduceGT, Int.reduceGE, Int.reduceToNat, Int.natCast_one, Int.natCast_zero, Int.cast_ofNat_Int]
    rw [← hQ, fold_some hk]
    exact ⟨trivial, Ret.flatT rfl rfl⟩
def numSq (k pr fi : Int) (nums : List Int) : Sq := ⟨k, pr, nums.map fun n => [n], [], fi, []⟩
theorem fs_Num {Gl : Gh → Prop} (hst : Stays Gl) {pr fi : Int} {nums : List Int} {tn : Option Nm} (hn : nums.length ≤ 1000) : FS Tryz.prog Gl 86 [.int .u8 pr, .int .u8 fi, .sl tn 1 (intsAV nums)] [] [] (.agg (numSq 1 pr fi nums).c) [] [] := by
  refine FS.ofW hm hst is_wireNum rfl (by simp) fun γ hγ hfr => ?_
  (generalize hQ : (fun (ex : Ex) (_ _ : Nat) (s : St) => _) = Q; unfold ir_wireNum)
  simp +contextual (maxSteps := 1000000) only [go_sem, reduceCtorEq, ↓reduceIte, Nat.reduceAdd, Nat.reduceEqDiff, Nat.reduceLeDiff, Nat.reduceMul, Nat.reduceBEq, Int.reduceBEq, Int.reduceBNe, Int.reduceLT, Int.reduceLE, Int.reduceGT, Int.reduceGE, Int.reduceToNat, Int.natCast_one, Int.natCast_zero, Int.cast_ofNat_Int]
  refine kLoop_ix (fun q : Nat × Option Nm => ⟨lf [(6, .ptr (γ, 0, 0) 0), (7, .ptr (γ, 4, 0) 0), (13, .sl tn 1 (intsAV nums)), (14, .int .i64 nums.length), (15, .int .i64 q.1)], [((γ, 4, 0), .cells [.int .i64 1, .int .u8 pr, sv q.2 1 (parsAV ((nums.take q.1).map fun n => [n])), .str [], .int .u8 fi, .str []]), ((γ, 0, 0), .cells [.int .i64 0, .int .u8 0, .nils, .str [], .int .u8 0, .str []])], fun x => q.2 = some x⟩)
    (fun q => q.1 ≤ nums.length ∧ (q.2 = none → q.1 = 0)) (fun q => nums.length - q.1) 0 (0, none) ?_ ⟨by simp, by simp⟩ ?_
  · refine Wk.perm' ?_ (fun p hp => hp) (fun t ht => by cases ht)
    simp only [lfOK, intsAV_length]
    repeat' first | exact AVle.refl _ _ | exact trivial | refine And.intro ?_ ?_ | exact AVle.int (by simp only [IntKind.wrap_i64]; omega)
  rintro γ' ⟨i, tk⟩ hf ⟨hi, htk⟩
  simp only at hi htk hf
  generalize hQ' : kIt _ _ _ _ _ = Q'
  unfold ir_wireNum_l0
  by_cases hlt : i < nums.length
  · have hd : decide ((i : Int) < (nums.length : Int)) = true := decide_eq_true (by omega)
    have hg1 : (intsAV nums).getD i [] = [.int .i64 nums[i]] := intsAV_get hlt
    have hw : IntKind.i64.wrap ((i : Int) + 1) = ((i + 1 : Nat) : Int) := by rw [IntKind.wrap_i64]; omega
    have hsn : parsAV ((nums.take (i + 1)).map fun n => [n]) = parsAV ((nums.take i).map fun n => [n]) ++ [[intsV [nums[i]]]] := by
      rw [List.take_add_one, List.getElem?_eq_getElem hlt, List.map_append]
      unfold parsAV
      rw [List.map_append]; rfl
    have hln : (parsAV ((nums.take i).map fun n => [n])).length = i := by rw [parsAV_length, List.length_map, List.length_take]; omega
    cases tk with
    | none =>
      obtain rfl := htk rfl
      have hd0 : decide (0 < (nums.length : Int)) = true := decide_eq_true (by omega)
      have hg0 : (intsAV nums).getD 0 [] = [.int .i64 nums[0]] := hg1
      simp +contextual (maxSteps := 1000000) only [hd0, hg0, Int.toNat_natCast, intsAV_length, Int.toNat_zero, go_sem, reduceCtorEq, ↓reduceIte, Nat.reduceAdd, Nat.reduceEqDiff, Nat.reduceLeDiff, Nat.reduceMul, Nat.reduceBEq, Int.reduceBEq, Int.reduceBNe, Int.reduceLT, Int.reduceLE, Int.reduceGT, Int.reduceGE, Int.reduceToNat, Int.natCast_one, Int.natCast_zero, Int.cast_ofNat_Int]
      refine ⟨by omega, ?_⟩
      rw [← hQ']
      simp only [w_kIt_n]
      refine ⟨0, (1, some (γ', 9, 0)), Wk.perm' ?_ (fun p hp => ?_) (fun t ht => ?_), ⟨by simp only; omega, by simp⟩, by simp only; omega⟩
      · repeat' first | exact AVle.refl _ _ | exact trivial | refine And.intro ?_ ?_ | exact AVle.int (by simp only [IntKind.wrap_i64]; omega)
      · have e : sv (some ((γ', 9, 0) : Nm)) 1 (parsAV ((nums.take 1).map fun n => [n])) = .sl (some (γ', 9, 0)) 1 [[.sl none 1 [[.int .i64 nums[0]]]]] := by
          rw [show nums.take 1 = [nums[0]] by cases nums with | nil => simp at hlt | cons x l => rfl]; rfl
        simp only [e] at hp
        exact hp
      · simp only [Option.some.injEq] at ht
        exact .inl ht.symm
    | some t0 =>
      simp +contextual (maxSteps := 1000000) only [hd, hg1, Int.toNat_natCast, intsAV_length, hln, go_sem, reduceCtorEq, ↓reduceIte, Nat.reduceAdd, Nat.reduceEqDiff, Nat.reduceLeDiff, Nat.reduceMul, Nat.reduceBEq, Int.reduceBEq, Int.reduceBNe, Int.reduceLT, Int.reduceLE, Int.reduceGT, Int.reduceGE, Int.reduceToNat, Int.natCast_one, Int.natCast_zero, Int.cast_ofNat_Int]
      refine ⟨⟨by omega, by omega⟩, ⟨.inr (.inr trivial), by omega⟩, ?_⟩
      rw [← hQ']
      simp only [w_kIt_n]
      refine ⟨0, (i + 1, some (γ', 9, 0)), Wk.perm' ?_ (fun p hp => ?_) (fun t ht => ?_), ⟨by simp only; omega, by simp⟩, by simp only; omega⟩
      · rw [hw]
        repeat' first | exact AVle.refl _ _ | exact trivial | refine And.intro ?_ ?_ | exact AVle.int (by simp only [IntKind.wrap_i64]; omega)
      · simp only [sv_some, hsn] at hp
        exact hp
      · simp only [Option.some.injEq] at ht
        exact .inl ht.symm
  · have hd : decide ((i : Int) < (nums.length : Int)) = false := decide_eq_false (by omega)
    simp +contextual (maxSteps := 1000000) only [hd, go_sem, reduceCtorEq, ↓reduceIte, Nat.reduceAdd, Nat.reduceEqDiff, Nat.reduceLeDiff, Nat.reduceMul, Nat.reduceBEq, Int.reduceBEq, Int.reduceBNe, Int.reduceLT, Int.reduceLE, Int.reduceGT, Int.reduceGE, Int.reduceToNat, Int.natCast_one, Int.natCast_zero, Int.cast_ofNat_Int]
    rw [← hQ']
    simp only [w_kIt_e, w_kBlk_e, ↓reduceIte]
    have hall : nums.take i = nums := List.take_of_length_le (by omega)
    cases tk with
    | none =>
      simp +contextual (maxSteps := 1000000) only [go_sem, reduceCtorEq, ↓reduceIte, Nat.reduceAdd, Nat.reduceEqDiff, Nat.reduceLeDiff, Nat.reduceMul, Nat.reduceBEq, Int.reduceBEq, Int.reduceBNe, Int.reduceLT, Int.reduceLE, Int.reduceGT, Int.reduceGE, Int.reduceToNat, Int.natCast_one, Int.natCast_zero, Int.cast_ofNat_Int]
      obtain rfl := htk rfl
      have hz : (numSq 1 pr fi nums).c = [.int .i64 1, .int .u8 pr, .sl none 1 [], .str [], .int .u8 fi, .str []] := by
        have : nums = [] := List.length_eq_zero_iff.1 (by omega)
        subst this; rfl
      rw [← hQ, hz]
      refine ⟨trivial, .inl ⟨.agg [.int .i64 1, .int .u8 pr, .nils, .str [], .int .u8 fi, .str []], ?_, RepLe.agg ⟨.refl _, .refl _, .nils 1, .refl _, .refl _, .refl _, trivial⟩⟩⟩
      simp [resOf, getAll, IRes.get, lf, getH]
    | some t0 =>
      simp +contextual (maxSteps := 1000000) only [go_sem, reduceCtorEq, ↓reduceIte, Nat.reduceAdd, Nat.reduceEqDiff, Nat.reduceLeDiff, Nat.reduceMul, Nat.reduceBEq, Int.reduceBEq, Int.reduceBNe, Int.reduceLT, Int.reduceLE, Int.reduceGT, Int.reduceGE, Int.reduceToNat, Int.natCast_one, Int.natCast_zero, Int.cast_ofNat_Int]
      rw [hall, ← hQ]
      refine ⟨trivial, .inl ⟨.agg [.int .i64 1, .int .u8 pr, .sl (some t0) 1 (parsAV (nums.map fun n => [n])), .str [], .int .u8 fi, .str []], ?_, RepLe.agg ⟨.refl _, .refl _, .anon' rfl, .refl _, .refl _, .refl _, trivial⟩⟩⟩
      simp [resOf, getAll, IRes.get, lf, getH]
/-- A sequence's bytes, or none. -/
theorem fs_bytes {Gl : Gh → Prop} (hst : Stays Gl) {s : Sq} (hp0 : 0 ≤ s.pr) (hp1 : s.pr < 256) (hf0 : 0 ≤ s.fi) (hf1 : s.fi < 128) (h : s.sm) : FS Tryz.prog Gl 85 [.agg s.c] [] [] (.sl none 1 (bytesAV (putX s))) [] [] := by
  refine FS.ofW hm hst is_legacybytes rfl (by simp) fun γ hγ hfr => ?_
  have c1 := fs_wPut (Gl := Gl) hst hp0 hp1 hf0 hf1 h
  have hrn : ∀ f, Ab.rn f (putV s) = putV s := fun f => by unfold putV; split <;> rfl
  have hpl := putV_le s
  generalize putV s = pv at *
  have hc : s.c = [.int .i64 s.k, .int .u8 s.pr, .sl none 1 (parsAV s.ps), .str s.it, .int .u8 s.fi, .str s.da] := rfl
  rw [hc] at c1
  (generalize hQ : (fun (ex : Ex) (_ _ : Nat) (s : St) => _) = Q; unfold ir_legacybytes)
  simp +contextual (maxSteps := 1000000) only [hc, go_sem, reduceCtorEq, ↓reduceIte, Nat.reduceAdd, Nat.reduceEqDiff, Nat.reduceLeDiff, Nat.reduceMul, Nat.reduceBEq, Int.reduceBEq, Int.reduceBNe, Int.reduceLT, Int.reduceLE, Int.reduceGT, Int.reduceGE, Int.reduceToNat, Int.natCast_one, Int.natCast_zero, Int.cast_ofNat_Int]
  refine CallP.pure c1 (fun f => by simp only [Ab.rn, rnL, hrn]) ?_
  simp +contextual (maxSteps := 1000000) only [hrn, go_sem, reduceCtorEq, ↓reduceIte, Nat.reduceAdd, Nat.reduceEqDiff, Nat.reduceLeDiff, Nat.reduceMul, Nat.reduceBEq, Int.reduceBEq, Int.reduceBNe, Int.reduceLT, Int.reduceLE, Int.reduceGT, Int.reduceGE, Int.reduceToNat, Int.natCast_one, Int.natCast_zero, Int.cast_ofNat_Int]
  rw [← hQ]
  exact ⟨trivial, .inl ⟨_, rfl, hpl⟩⟩
end Go.Proofs.YthmjlngdbabdeaaGreatDoor

/- The reader of sequences: its cursor. -/
set_option linter.unusedVariables false
set_option linter.unusedSimpArgs false
set_option maxRecDepth 100000
namespace Go.Proofs.YthmjlngdbabdeaaGreatDoor
open Go Go.Ab
/-- (*clavier/wire.cursor).peek -/
def ir_wirecursorpeek : ICode :=
 (.seq
  (.reg [⟨some 2, none, .mov (.c (.int .u8 0))⟩] (some [0]))
  (.seq
   (.seq
    (.drw [⟨⟨some 3, none, .mov (.t 0)⟩, []⟩,
      ⟨⟨some 4, none, .nck (.t 3)⟩, [0]⟩,
      ⟨⟨some 5, none, .fa 1 (.t 4)⟩, [1]⟩,
      ⟨⟨some 6, none, .ld none (.t 5)⟩, [2]⟩,
      ⟨⟨some 7, none, .mov (.t 0)⟩, []⟩,
      ⟨⟨some 8, none, .nck (.t 7)⟩, [4]⟩,
      ⟨⟨some 9, none, .fa 0 (.t 8)⟩, [5]⟩,
      ⟨⟨some 10, none, .ld none (.t 9)⟩, [6]⟩,
      ⟨⟨some 11, none, .len (.t 10)⟩, [7]⟩,
      ⟨⟨some 12, none, .bin .geq .none (.t 6) (.t 11)⟩, [3, 8]⟩]
      [] (some [0, 12]))
    (.cond (.t 12)
     (.seq
      (.reg [⟨some 2, none, .mov (.c (.int .u8 0))⟩] (some [2]))
      .ret)
     .skip))
   (.seq
    (.drw [⟨⟨some 13, none, .mov (.t 0)⟩, []⟩,
      ⟨⟨some 14, none, .nck (.t 13)⟩, [0]⟩,
      ⟨⟨some 15, none, .fa 0 (.t 14)⟩, [1]⟩,
      ⟨⟨some 16, none, .ld none (.t 15)⟩, [2]⟩,
      ⟨⟨some 17, none, .mov (.t 0)⟩, []⟩,
      ⟨⟨some 18, none, .nck (.t 17)⟩, [4]⟩,
      ⟨⟨some 19, none, .fa 1 (.t 18)⟩, [5]⟩,
      ⟨⟨some 20, none, .ld none (.t 19)⟩, [6]⟩,
      ⟨⟨some 21, none, .ia 1 (.t 16) (.t 20)⟩, [3, 7]⟩,
      ⟨⟨some 22, none, .ld none (.t 21)⟩, [8]⟩]
      [⟨some 2, none, .mov (.t 22)⟩] (some [2]))
    .ret)))
theorem is_wirecursorpeek : IrOf Tryz.prog 78 23 ir_wirecursorpeek [.t 2] := ⟨_, Tryz.func78, rfl, by kernel_rfl, by kernel_rfl, by kernel_rfl⟩

/-- (*clavier/wire.cursor).next -/
def ir_wirecursornext : ICode :=
 (.seq
  (.reg [⟨some 2, none, .mov (.c (.int .u8 0))⟩] (some [0]))
  (.seq
   (.reg [⟨some 4, none, .mov (.t 0)⟩,
     ⟨some 5, none, .call (.c (.fn (.func 78) [] [])) [(.t 4)]⟩,
     ⟨some 3, none, .mov (.t 5)⟩] (some [0, 3]))
   (.seq
    (.reg [⟨some 6, none, .mov (.t 0)⟩,
      ⟨some 7, none, .nck (.t 6)⟩,
      ⟨some 8, none, .fa 1 (.t 7)⟩,
      ⟨some 9, none, .ld none (.t 8)⟩,
      ⟨some 10, none, .bin .add .none (.t 9) (.c (.int .i64 1))⟩,
      ⟨some 11, none, .nck (.t 6)⟩,
      ⟨some 12, none, .fa 1 (.t 11)⟩,
      ⟨none, none, .st 1 (.t 12) (.t 10)⟩] (some [3]))
    (.seq
     (.reg [⟨some 13, none, .mov (.t 3)⟩,
       ⟨some 2, none, .mov (.t 13)⟩] (some [2]))
     .ret))))
theorem is_wirecursornext : IrOf Tryz.prog 77 14 ir_wirecursornext [.t 2] := ⟨_, Tryz.func77, rfl, by kernel_rfl, by kernel_rfl, by kernel_rfl⟩

/- (*clavier/wire.cursor).run -/
def ir_wirecursorrun_l0 : ICode :=
 (.seq
       (.seq
        (.drw [⟨⟨some 12, none, .mov (.t 0)⟩, []⟩,
          ⟨⟨some 13, none, .nck (.t 12)⟩, [0]⟩,
          ⟨⟨some 14, none, .fa 1 (.t 13)⟩, [1]⟩,
          ⟨⟨some 15, none, .ld none (.t 14)⟩, [2]⟩,
          ⟨⟨some 16, none, .mov (.t 0)⟩, []⟩,
          ⟨⟨some 17, none, .nck (.t 16)⟩, [4]⟩,
          ⟨⟨some 18, none, .fa 0 (.t 17)⟩, [5]⟩,
          ⟨⟨some 19, none, .ld none (.t 18)⟩, [6]⟩,
          ⟨⟨some 20, none, .len (.t 19)⟩, [7]⟩,
          ⟨⟨some 21, none, .bin .lss .none (.t 15) (.t 20)⟩, [3, 8]⟩,
          ⟨⟨some 22, none, .mov (.t 21)⟩, [9]⟩,
          ⟨⟨some 23, some (22, true), .mov (.t 0)⟩, [10]⟩,
          ⟨⟨some 24, some (22, true), .nck (.t 23)⟩, [11, 10]⟩,
          ⟨⟨some 25, some (22, true), .fa 0 (.t 24)⟩, [12, 10]⟩,
          ⟨⟨some 26, some (22, true), .ld none (.t 25)⟩, [13, 10]⟩,
          ⟨⟨some 27, some (22, true), .mov (.t 0)⟩, [10]⟩,
          ⟨⟨some 28, some (22, true), .nck (.t 27)⟩, [15, 10]⟩,
          ⟨⟨some 29, some (22, true), .fa 1 (.t 28)⟩, [16, 10]⟩,
          ⟨⟨some 30, some (22, true), .ld none (.t 29)⟩, [17, 10]⟩,
          ⟨⟨some 31, some (22, true), .ia 1 (.t 26) (.t 30)⟩, [14, 18, 10]⟩,
          ⟨⟨some 32, some (22, true), .ld none (.t 31)⟩, [19, 10]⟩,
          ⟨⟨some 33, some (22, true), .mov (.t 1)⟩, [10]⟩,
          ⟨⟨some 34, some (22, true), .bin .geq .none (.t 32) (.t 33)⟩, [20, 21, 10]⟩,
          ⟨⟨some 35, none, .pick (.t 22) (.t 34) (.c (.bool false))⟩, [10, 22]⟩,
          ⟨⟨some 36, none, .mov (.t 35)⟩, [23, 10]⟩,
          ⟨⟨some 37, some (36, true), .mov (.t 0)⟩, [24]⟩,
          ⟨⟨some 38, some (36, true), .nck (.t 37)⟩, [25, 24]⟩,
          ⟨⟨some 39, some (36, true), .fa 0 (.t 38)⟩, [26, 24]⟩,
          ⟨⟨some 40, some (36, true), .ld none (.t 39)⟩, [27, 24]⟩,
          ⟨⟨some 41, some (36, true), .mov (.t 0)⟩, [24]⟩,
          ⟨⟨some 42, some (36, true), .nck (.t 41)⟩, [29, 24]⟩,
          ⟨⟨some 43, some (36, true), .fa 1 (.t 42)⟩, [30, 24]⟩,
          ⟨⟨some 44, some (36, true), .ld none (.t 43)⟩, [31, 24]⟩,
          ⟨⟨some 45, some (36, true), .ia 1 (.t 40) (.t 44)⟩, [28, 32, 24]⟩,
          ⟨⟨some 46, some (36, true), .ld none (.t 45)⟩, [33, 24]⟩,
          ⟨⟨some 47, some (36, true), .mov (.t 2)⟩, [24]⟩,
          ⟨⟨some 48, some (36, true), .bin .leq .none (.t 46) (.t 47)⟩, [34, 35, 24]⟩,
          ⟨⟨some 49, none, .pick (.t 36) (.t 48) (.c (.bool false))⟩, [24, 36]⟩]
          [] (some [0, 1, 2, 7, 49]))
        (.cond (.t 49)
         .skip
         (.exit 0)))
       (.blk 1
        (.reg [⟨some 50, none, .mov (.t 0)⟩,
          ⟨some 51, none, .nck (.t 50)⟩,
          ⟨some 52, none, .fa 1 (.t 51)⟩,
          ⟨some 53, none, .ld none (.t 52)⟩,
          ⟨some 54, none, .bin .add .none (.t 53) (.c (.int .i64 1))⟩,
          ⟨some 55, none, .nck (.t 50)⟩,
          ⟨some 56, none, .fa 1 (.t 55)⟩,
          ⟨none, none, .st 1 (.t 56) (.t 54)⟩] (some [0, 1, 2, 7]))))
def ir_wirecursorrun : ICode :=
 (.seq
  (.reg [⟨some 6, none, .mov (.c (.str []))⟩] (some [0, 1, 2]))
  (.seq
   (.reg [⟨some 8, none, .mov (.t 0)⟩,
     ⟨some 9, none, .nck (.t 8)⟩,
     ⟨some 10, none, .fa 1 (.t 9)⟩,
     ⟨some 11, none, .ld none (.t 10)⟩,
     ⟨some 7, none, .mov (.t 11)⟩] (some [0, 1, 2, 7]))
   (.seq
    (.blk 0
     (.loop
      ir_wirecursorrun_l0))
    (.seq
     (.drw [⟨⟨some 57, none, .mov (.t 0)⟩, []⟩,
       ⟨⟨some 58, none, .nck (.t 57)⟩, [0]⟩,
       ⟨⟨some 59, none, .fa 0 (.t 58)⟩, [1]⟩,
       ⟨⟨some 60, none, .ld none (.t 59)⟩, [2]⟩,
       ⟨⟨some 61, none, .mov (.t 7)⟩, []⟩,
       ⟨⟨some 62, none, .mov (.t 0)⟩, []⟩,
       ⟨⟨some 63, none, .nck (.t 62)⟩, [5]⟩,
       ⟨⟨some 64, none, .fa 1 (.t 63)⟩, [6]⟩,
       ⟨⟨some 65, none, .ld none (.t 64)⟩, [7]⟩,
       ⟨⟨some 66, none, .sll 1 (.t 60) (some (.t 61)) (some (.t 65)) none⟩, [3, 4, 8]⟩,
       ⟨⟨some 67, none, .b2s (.t 66)⟩, [9]⟩]
       [⟨some 6, none, .mov (.t 67)⟩] (some [6]))
     .ret))))
theorem is_wirecursorrun : IrOf Tryz.prog 81 68 ir_wirecursorrun [.t 6] := ⟨_, Tryz.func81, rfl, by kernel_rfl, by kernel_rfl, by kernel_rfl⟩


/-- Parameters as the reader leaves them: nil, if there is none. -/
def pw (ps : List (List Int)) : AV := match ps with
  | [] => .nils
  | p :: l => parsV (p :: l)
theorem pw_le (ps : List (List Int)) : RepLe (pw ps) (parsV ps) := by
  cases ps with
  | nil => exact RepLe.nils 1
  | cons p l => exact RepLe.refl _
theorem pw_one (ps : List (List Int)) : (pw ps).one = true := by cases ps <;> rfl
theorem pw_cells (ps : List (List Int)) : (pw ps).cells = [pw ps] := by cases ps <;> rfl
theorem pw_rn {f : Nat → Nm} (ps : List (List Int)) : Ab.rn f (pw ps) = pw ps := by cases ps <;> rfl
theorem pw_ok {m : Nat} {L T : List Nm} (ps : List (List Int)) : (pw ps).okIn m L T := by cases ps <;> trivial
/-- The reader's cells. -/
def rdC (b : List UInt8) (n : Nat) (s : Sq) : List AV := [.sl none 1 (bytesAV b), .int .i64 n, .int .i64 s.k, .int .u8 s.pr, pw s.ps, .str s.it, .int .u8 s.fi, .str s.da]
theorem rdC_rn {f : Nat → Nm} {b : List UInt8} {n : Nat} {s : Sq} : rnHB f (.cells (rdC b n s)) = .cells (rdC b n s) := by
  simp only [rnHB, rdC, rnL, Ab.rn, pw_rn]
theorem rdC_ok {m : Nat} {L T : List Nm} {b : List UInt8} {n : Nat} {s : Sq} : HB.okIn m L T (.cells (rdC b n s)) :=
  ⟨trivial, trivial, trivial, trivial, pw_ok _, trivial, trivial, trivial, trivial⟩
theorem nm_real {f : Nat → Nm} {n : Nm} (h : 1 ≤ n.1) : rnN f n = n := by unfold rnN; rw [if_neg]; omega
theorem nm_ok {m : Nat} {L : List Nm} {n : Nm} (h : 1 ≤ n.1) (hL : n ∈ L) : nmOK m L n := by unfold nmOK; rw [if_neg (by omega)]; exact hL
theorem Ret.rd {rs : List IRes} {p : Nm} {hb : HB} {y : AV} {b : List UInt8} {n : Nat} {s : Sq} {γ : Nat} {st : St} (h : resOf st rs = some y) (hy : y.flatT = true) (hp : 1 ≤ p.1) (hH : (p, .cells (rdC b n s)) ∈ st.H) : Ret rs [(p, hb)] [] y [(p, .cells (rdC b n s))] [] γ st := by
  refine Ret.plain h (flatT_rn hy) (fun q hq => ?_) (by simp) (flatT_ok hy) (fun q hq => ?_) (by simp)
  · simp only [List.mem_singleton] at hq; subst hq
    exact ⟨hH, nm_real hp, rdC_rn⟩
  · simp only [List.mem_singleton] at hq; subst hq
    exact ⟨nm_ok hp (by simp), rdC_ok⟩
theorem CallP.rd {Gl : Gh → Prop} {k : FuncId} {args : List AV} {p : Nm} {Ha : Hp} {b : List UInt8} {n n' : Nat} {s s' : Sq} {y : AV} {T : Tk} {f : Nat → Nm} {K : AV → Hp → Tk → Prop} (h : FS Tryz.prog Gl k args [(p, .cells (rdC b n s))] [] y [(p, .cells (rdC b n' s'))] []) (hp : 1 ≤ p.1) (hy : y.flatT = true) (hap : ∀ q ∈ Ha, p ≠ q.1)
    (hK : K y (Ha ++ [(p, .cells (rdC b n' s'))]) T) : CallP Tryz.prog Gl k args (Ha ++ [(p, .cells (rdC b n s))]) T f K := by
  refine CallG.split h (by simp) (fun q hq u hu => by simp only [List.mem_singleton] at hu; subst hu; exact hap q hq) ?_
  rintro r H1 T1 ⟨rfl, rfl, rfl⟩
  have e2 : (fun s => s ∈ ([] : List Nm).map (rnN f) ∨ (T s ∧ s ∉ ([] : List Nm))) = T := by funext s; simp
  rw [flatT_rn hy, e2]
  simp only [rnH, List.map_cons, List.map_nil, nm_real hp, rdC_rn]
  exact hK

def peekW (b : List UInt8) (n : Nat) : UInt8 := (b.drop n).headD 0
theorem peek_lt {b : List UInt8} {n : Nat} (h : n < b.length) : peekW b n = b[n] := by
  unfold peekW; rw [List.drop_eq_getElem_cons h]; rfl
theorem peek_ge {b : List UInt8} {n : Nat} (h : b.length ≤ n) : peekW b n = 0 := by
  unfold peekW; rw [List.drop_eq_nil_of_le h]; rfl
theorem fs_peek {Gl : Gh → Prop} (hst : Stays Gl) {p : Nm} (hp : 1 ≤ p.1) {b : List UInt8} {n : Nat} {s : Sq} : FS Tryz.prog Gl 78 [.ptr p 0] [(p, .cells (rdC b n s))] [] (.int .u8 (peekW b n).toNat) [(p, .cells (rdC b n s))] [] := by
  refine FS.of hm hst is_wirecursorpeek (by simp) fun γ hγ hfr => ?_
  (generalize hQ : (fun (ex : Ex) (_ _ : Nat) (s : St) => _) = Q; unfold ir_wirecursorpeek)
  by_cases hlt : n < b.length
  · have hd : decide ((n : Int) ≥ (b.length : Int)) = false := by simp; omega
    have hget := bb_get hlt
    simp only [rdC]
    simp +contextual (maxSteps := 1000000) only [hd, bytesAV_length', hget, Int.toNat_natCast, go_sem, reduceCtorEq, ↓reduceIte, Nat.reduceAdd, Nat.reduceEqDiff, Nat.reduceLeDiff, Nat.reduceMul, Nat.reduceBEq, Int.reduceBEq, Int.reduceBNe, Int.reduceLT, Int.reduceLE, Int.reduceGT, Int.reduceGE, Int.reduceToNat, Int.natCast_one, Int.natCast_zero, Int.cast_ofNat_Int]
    refine ⟨by omega, ?_⟩
    rw [← hQ, peek_lt hlt]
    exact ⟨trivial, Ret.rd rfl rfl hp (by simp [rdC])⟩
  · have hd : decide ((n : Int) ≥ (b.length : Int)) = true := by simp; omega
    simp only [rdC]
    simp +contextual (maxSteps := 1000000) only [hd, bytesAV_length', go_sem, reduceCtorEq, ↓reduceIte, Nat.reduceAdd, Nat.reduceEqDiff, Nat.reduceLeDiff, Nat.reduceMul, Nat.reduceBEq, Int.reduceBEq, Int.reduceBNe, Int.reduceLT, Int.reduceLE, Int.reduceGT, Int.reduceGE, Int.reduceToNat, Int.natCast_one, Int.natCast_zero, Int.cast_ofNat_Int]
    rw [← hQ, peek_ge (by omega)]
    exact ⟨trivial, Ret.rd rfl rfl hp (by simp [rdC])⟩
theorem fs_next {Gl : Gh → Prop} (hst : Stays Gl) {p : Nm} (hp : 1 ≤ p.1) {b : List UInt8} {n : Nat} {s : Sq} (hn : n < 4611686018427387904) : FS Tryz.prog Gl 77 [.ptr p 0] [(p, .cells (rdC b n s))] [] (.int .u8 (peekW b n).toNat) [(p, .cells (rdC b (n + 1) s))] [] := by
  refine FS.of hm hst is_wirecursornext (by simp) fun γ hγ hfr => ?_
  have hw : IntKind.i64.wrap ((n : Int) + 1) = ((n + 1 : Nat) : Int) := by rw [IntKind.wrap_i64]; omega
  (generalize hQ : (fun (ex : Ex) (_ _ : Nat) (s : St) => _) = Q; unfold ir_wirecursornext)
  simp +contextual (maxSteps := 1000000) only [go_sem, reduceCtorEq, ↓reduceIte, Nat.reduceAdd, Nat.reduceEqDiff, Nat.reduceLeDiff, Nat.reduceMul, Nat.reduceBEq, Int.reduceBEq, Int.reduceBNe, Int.reduceLT, Int.reduceLE, Int.reduceGT, Int.reduceGE, Int.reduceToNat, Int.natCast_one, Int.natCast_zero, Int.cast_ofNat_Int]
  refine CallP.rd (Ha := []) (fs_peek hst hp) hp rfl (by simp) ?_
  simp only [rdC]
  simp +contextual (maxSteps := 1000000) only [hw, go_sem, reduceCtorEq, ↓reduceIte, Nat.reduceAdd, Nat.reduceEqDiff, Nat.reduceLeDiff, Nat.reduceMul, Nat.reduceBEq, Int.reduceBEq, Int.reduceBNe, Int.reduceLT, Int.reduceLE, Int.reduceGT, Int.reduceGE, Int.reduceToNat, Int.natCast_one, Int.natCast_zero, Int.cast_ofNat_Int]
  rw [← hQ]
  exact ⟨trivial, Ret.rd rfl rfl hp (by simp [rdC])⟩
theorem runL_cons {x y : Nat} {c : UInt8} {l : List UInt8} (h : x ≤ c.toNat ∧ c.toNat ≤ y) : runL x y (c :: l) = c :: runL x y l := by
  unfold runL
  rw [List.takeWhile_cons, if_pos (by simpa using h)]
theorem fs_run {Gl : Gh → Prop} (hst : Stays Gl) {p : Nm} (hp : 1 ≤ p.1) {b : List UInt8} {n : Nat} {s : Sq} {x y : Nat} (hn : n ≤ b.length) (hb : b.length < 4611686018427387904) : FS Tryz.prog Gl 81 [.ptr p 0, .int .u8 x, .int .u8 y] [(p, .cells (rdC b n s))] [] (.str (runL x y (b.drop n))) [(p, .cells (rdC b (n + (runL x y (b.drop n)).length) s))] [] := by
  refine FS.of hm hst is_wirecursorrun (by simp) fun γ hγ hfr => ?_
  (generalize hQ : (fun (ex : Ex) (_ _ : Nat) (s : St) => _) = Q; unfold ir_wirecursorrun)
  simp only [rdC]
  simp +contextual (maxSteps := 1000000) only [go_sem, reduceCtorEq, ↓reduceIte, Nat.reduceAdd, Nat.reduceEqDiff, Nat.reduceLeDiff, Nat.reduceMul, Nat.reduceBEq, Int.reduceBEq, Int.reduceBNe, Int.reduceLT, Int.reduceLE, Int.reduceGT, Int.reduceGE, Int.reduceToNat, Int.natCast_one, Int.natCast_zero, Int.cast_ofNat_Int]
  refine kLoop_ix (fun i : Nat => ⟨lf [(0, .ptr p 0), (1, .int .u8 x), (2, .int .u8 y), (7, .int .i64 n)], [(p, .cells (rdC b (n + i) s))], fun x => x ∈ []⟩) (fun i => n + i ≤ b.length ∧ runL x y (b.drop n) = (b.drop n).take i ++ runL x y (b.drop (n + i))) (fun i => b.length - (n + i)) 0 0 ?_ ⟨by omega, by simp⟩ ?_
  · refine Wk.same ?_
    (simp only [lfOK, upd, initF]; repeat' first | exact AVle.refl _ _ | exact trivial | refine And.intro ?_ ?_ | exact AVle.int (by simp only [IntKind.wrap_i64]; omega))
  rintro γ' i hf ⟨hi, hr⟩
  generalize hQ' : kIt _ _ _ _ _ = Q'
  have fin : runL x y (b.drop (n + i)) = [] → ∀ γ c F, F 0 = .ptr p 0 → F 7 = .int .i64 n → Q' (.exit 0) γ c ⟨F, [(p, .cells [.sl none 1 (bytesAV b), .int .i64 ((n + i : Nat) : Int), .int .i64 s.k, .int .u8 s.pr, pw s.ps, .str s.it, .int .u8 s.fi, .str s.da])], fun x => x ∈ []⟩ := by
    intro h0 γ c F h1 h2
    rw [h0, List.append_nil] at hr
    have hl : (runL x y (b.drop n)).length = i := by rw [hr, List.length_take, List.length_drop]; omega
    have e1 : ((b.take (n + i)).drop n).take i = (b.drop n).take i := by rw [List.drop_take, List.take_take]; congr 1; omega
    have e2 : (b.take (n + i)).drop n = runL x y (b.drop n) := by rw [hr, List.drop_take]; congr 1; omega
    rw [← hQ']
    simp only [w_kIt_e, w_kBlk_e, ↓reduceIte]
    simp +contextual (maxSteps := 1000000) only [h1, h2, bytesAV_take, bytesAV_drop, Int.toNat_natCast, bb_un, bb_is, bytesAV_length', go_sem, reduceCtorEq, ↓reduceIte, Nat.reduceAdd, Nat.reduceEqDiff, Nat.reduceLeDiff, Nat.reduceMul, Nat.reduceBEq, Int.reduceBEq, Int.reduceBNe, Int.reduceLT, Int.reduceLE, Int.reduceGT, Int.reduceGE, Int.reduceToNat, Int.natCast_one, Int.natCast_zero, Int.cast_ofNat_Int]
    refine ⟨⟨by omega, by omega, by omega⟩, ?_⟩
    rw [← hQ, hl]
    refine ⟨trivial, Ret.rd (by simp only [resOf, getAll, IRes.get, lf_cons, ↓reduceIte, e2]) rfl hp (by simp [rdC])⟩
  unfold ir_wirecursorrun_l0
  simp only [rdC]
  by_cases hlt : n + i < b.length
  · have hd : decide (((n + i : Nat) : Int) < (b.length : Int)) = true := by simp; omega
    have hget := bb_get hlt
    have hdrop : b.drop (n + i) = b[n + i] :: b.drop (n + i + 1) := List.drop_eq_getElem_cons hlt
    have hw : IntKind.i64.wrap (((n + i : Nat) : Int) + 1) = ((n + (i + 1) : Nat) : Int) := by rw [IntKind.wrap_i64]; omega
    by_cases hx : x ≤ (b[n + i]).toNat
    · have hx' : decide (((b[n + i]).toNat : Int) ≥ (x : Int)) = true := by simp; omega
      by_cases hy : (b[n + i]).toNat ≤ y
      · have hy' : decide (((b[n + i]).toNat : Int) ≤ (y : Int)) = true := by simp; omega
        simp +contextual (maxSteps := 1000000) only [hd, bytesAV_length', hget, hx', hy', hw, Int.toNat_natCast, go_sem, reduceCtorEq, ↓reduceIte, Nat.reduceAdd, Nat.reduceEqDiff, Nat.reduceLeDiff, Nat.reduceMul, Nat.reduceBEq, Int.reduceBEq, Int.reduceBNe, Int.reduceLT, Int.reduceLE, Int.reduceGT, Int.reduceGE, Int.reduceToNat, Int.natCast_one, Int.natCast_zero, Int.cast_ofNat_Int]
        refine ⟨by omega, by omega, ?_⟩
        rw [← hQ']
        simp only [w_kIt_n]
        refine ⟨0, i + 1, Wk.same ?_, ⟨by omega, ?_⟩, by omega⟩
        · repeat' first | exact AVle.refl _ _ | exact trivial | refine And.intro ?_ ?_ | exact AVle.int (by simp only [IntKind.wrap_i64]; omega)
        · rw [hr, hdrop, runL_cons ⟨hx, hy⟩, List.take_add_one, List.getElem?_drop, List.getElem?_eq_getElem hlt, List.append_assoc]
          rfl
      · have hy' : decide (((b[n + i]).toNat : Int) ≤ (y : Int)) = false := by simp; omega
        simp +contextual (maxSteps := 1000000) only [hd, bytesAV_length', hget, hx', hy', Int.toNat_natCast, go_sem, reduceCtorEq, ↓reduceIte, Nat.reduceAdd, Nat.reduceEqDiff, Nat.reduceLeDiff, Nat.reduceMul, Nat.reduceBEq, Int.reduceBEq, Int.reduceBNe, Int.reduceLT, Int.reduceLE, Int.reduceGT, Int.reduceGE, Int.reduceToNat, Int.natCast_one, Int.natCast_zero, Int.cast_ofNat_Int]
        refine ⟨by omega, by omega, ?_⟩
        exact fin (runL_nil fun c hc => by rw [hdrop, List.head?_cons] at hc; cases hc; omega) _ _ _ rfl rfl
    · have hx' : decide (((b[n + i]).toNat : Int) ≥ (x : Int)) = false := by simp; omega
      simp +contextual (maxSteps := 1000000) only [hd, bytesAV_length', hget, hx', Int.toNat_natCast, go_sem, reduceCtorEq, ↓reduceIte, Nat.reduceAdd, Nat.reduceEqDiff, Nat.reduceLeDiff, Nat.reduceMul, Nat.reduceBEq, Int.reduceBEq, Int.reduceBNe, Int.reduceLT, Int.reduceLE, Int.reduceGT, Int.reduceGE, Int.reduceToNat, Int.natCast_one, Int.natCast_zero, Int.cast_ofNat_Int]
      refine ⟨by omega, ?_⟩
      exact fin (runL_nil fun c hc => by rw [hdrop, List.head?_cons] at hc; cases hc; omega) _ _ _ rfl rfl
  · have hd : decide (((n + i : Nat) : Int) < (b.length : Int)) = false := by simp; omega
    simp +contextual (maxSteps := 1000000) only [hd, bytesAV_length', go_sem, reduceCtorEq, ↓reduceIte, Nat.reduceAdd, Nat.reduceEqDiff, Nat.reduceLeDiff, Nat.reduceMul, Nat.reduceBEq, Int.reduceBEq, Int.reduceBNe, Int.reduceLT, Int.reduceLE, Int.reduceGT, Int.reduceGE, Int.reduceToNat, Int.natCast_one, Int.natCast_zero, Int.cast_ofNat_Int]
    exact fin (by rw [List.drop_eq_nil_of_le (by omega)]; rfl) _ _ _ rfl rfl
end Go.Proofs.YthmjlngdbabdeaaGreatDoor

/- The parser's parts of a parameter. -/
set_option linter.unusedVariables false
set_option linter.unusedSimpArgs false
set_option maxRecDepth 100000
namespace Go.Proofs.YthmjlngdbabdeaaGreatDoor
open Go Go.Ab
theorem splitB_mem_len {c : UInt8} : ∀ {l : List UInt8} {p : List UInt8}, p ∈ splitB c l → p.length ≤ l.length
  | [], p, h => by simp [splitB] at h; simp [h]
  | d :: l, p, h => by
    simp only [splitB] at h
    split at h
    · rcases List.mem_cons.1 h with rfl | h
      · simp
      · have := splitB_mem_len h; simp; omega
    · split at h
      · rename_i q qs e
        rcases List.mem_cons.1 h with rfl | h
        · have := splitB_mem_len (c := c) (l := l) (p := q) (by rw [e]; simp); simp; omega
        · have := splitB_mem_len (c := c) (l := l) (p := p) (by rw [e]; simp [h]); simp; omega
      · simp at h; simp [h]
theorem splitB_len {c : UInt8} : ∀ {l : List UInt8}, (splitB c l).length ≤ l.length + 1
  | [] => by simp [splitB]
  | d :: l => by
    have ih := splitB_len (c := c) (l := l)
    simp only [splitB]
    split
    · simp; omega
    · split
      · rename_i q qs e; rw [e] at ih; simp at ih ⊢; omega
      · simp

/-- A parameter's part. -/
def hostPart (p : List UInt8) : Int := min (if (takeN p 0 0).2 = 0 then -1 else ((takeN p 0 0).1 : Int)) 65535
def hostParts (t : List UInt8) : List Int := (splitB 58 t).map hostPart
theorem takeN_le : ∀ (l : List UInt8) (n k : Nat), n ≤ 1114111 → (takeN l n k).1 ≤ 1114111
  | [], n, k, h => h
  | c :: l, n, k, h => by
    simp only [takeN]
    split
    · exact takeN_le l _ _ (by omega)
    · exact h

end Go.Proofs.YthmjlngdbabdeaaGreatDoor

