/- Part 3 of 4 of a proof: the given statement KittyAll, whatever the input that its row lets in. Conditions: those of the given row and card alone. -/
import Derived.Test.YthmjlngdbabdeaaGreatDoorMKittyAll2
/- Whether a sequence may be (layer 3 of the program): all. -/
set_option linter.unusedVariables false
set_option linter.unusedSimpArgs false
set_option maxRecDepth 100000
namespace Go.Proofs.YthmjlngdbabdeaaGreatDoor
open Go Go.Ab
/-- clavier/wire.May -/
def ir_wireMay : ICode :=
 (.seq
  (.reg [⟨some 1, none, .box 35 (.t 0)⟩,
    ⟨some 2, none, .mov (.c (.int .i64 0))⟩] (some [1]))
  (.seq
   (.reg [⟨some 5, none, .fa 1 (.t 1)⟩,
     ⟨some 6, none, .ld none (.t 5)⟩,
     ⟨some 7, none, .bin .eql .none (.t 6) (.c (.int .u8 0))⟩,
     ⟨some 8, none, .mov (.t 7)⟩,
     ⟨some 9, some (8, false), .fa 1 (.t 1)⟩,
     ⟨some 10, some (8, false), .ld none (.t 9)⟩,
     ⟨some 11, some (8, false), .bin .geq .none (.t 10) (.c (.int .u8 60))⟩,
     ⟨some 12, some (8, false), .mov (.t 11)⟩,
     ⟨some 13, some (12, true), .fa 1 (.t 1)⟩,
     ⟨some 14, some (12, true), .ld none (.t 13)⟩,
     ⟨some 15, some (12, true), .bin .leq .none (.t 14) (.c (.int .u8 63))⟩,
     ⟨some 16, some (8, false), .pick (.t 12) (.t 15) (.c (.bool false))⟩,
     ⟨some 17, none, .pick (.t 8) (.c (.bool true)) (.t 16)⟩,
     ⟨some 3, none, .mov (.t 17)⟩] (some [1, 3]))
   (.seq
    (.reg [⟨some 18, none, .fa 3 (.t 1)⟩,
      ⟨some 19, none, .ld none (.t 18)⟩,
      ⟨some 20, none, .lns (.t 19)⟩,
      ⟨some 21, none, .bin .leq .none (.t 20) (.c (.int .i64 2))⟩,
      ⟨some 22, none, .mov (.t 21)⟩,
      ⟨some 23, some (22, true), .fa 3 (.t 1)⟩,
      ⟨some 24, some (22, true), .ld none (.t 23)⟩,
      ⟨some 25, some (22, true), .call (.c (.fn (.func 95) [] [])) [(.t 24), (.c (.int .u8 32)), (.c (.int .u8 47))]⟩,
      ⟨some 26, none, .pick (.t 22) (.t 25) (.c (.bool false))⟩,
      ⟨some 4, none, .mov (.t 26)⟩] (some [1, 3, 4]))
    (.seq
     (.blk 0
      (.seq
       (.reg [⟨some 28, none, .fa 5 (.t 1)⟩,
         ⟨some 29, none, .ld none (.t 28)⟩,
         ⟨some 30, none, .lns (.t 29)⟩,
         ⟨some 31, none, .bin .gtr .none (.t 30) (.c (.int .i64 4096))⟩,
         ⟨some 27, none, .mov (.t 31)⟩] (some [1, 3, 4, 27]))
       (.cond (.t 27)
        (.seq
         (.reg [⟨some 2, none, .mov (.c (.int .i64 4))⟩] (some [2]))
         .ret)
        (.seq
         (.reg [⟨some 33, none, .mov (.t 3)⟩,
           ⟨some 34, none, .un .not (.t 33)⟩,
           ⟨some 35, none, .mov (.t 34)⟩,
           ⟨some 36, some (35, false), .mov (.t 4)⟩,
           ⟨some 37, some (35, false), .un .not (.t 36)⟩,
           ⟨some 38, none, .pick (.t 35) (.c (.bool true)) (.t 37)⟩,
           ⟨some 39, none, .mov (.t 38)⟩,
           ⟨some 40, some (39, false), .fa 2 (.t 1)⟩,
           ⟨some 41, some (39, false), .ld none (.t 40)⟩,
           ⟨some 42, some (39, false), .call (.c (.fn (.func 96) [] [])) [(.t 41)]⟩,
           ⟨some 43, some (39, false), .un .not (.t 42)⟩,
           ⟨some 44, none, .pick (.t 39) (.c (.bool true)) (.t 43)⟩,
           ⟨some 45, none, .mov (.t 44)⟩,
           ⟨some 46, some (45, false), .fa 5 (.t 1)⟩,
           ⟨some 47, some (45, false), .ld none (.t 46)⟩,
           ⟨some 48, some (45, false), .call (.c (.fn (.func 95) [] [])) [(.t 47), (.c (.int .u8 32)), (.c (.int .u8 126))]⟩,
           ⟨some 49, some (45, false), .un .not (.t 48)⟩,
           ⟨some 50, none, .pick (.t 45) (.c (.bool true)) (.t 49)⟩,
           ⟨some 51, none, .mov (.t 50)⟩,
           ⟨some 52, some (51, false), .ld (some 6) (.t 1)⟩,
           ⟨some 53, some (51, false), .call (.c (.fn (.func 97) [] [])) [(.t 52)]⟩,
           ⟨some 54, some (51, false), .un .not (.t 53)⟩,
           ⟨some 55, none, .pick (.t 51) (.c (.bool true)) (.t 54)⟩,
           ⟨some 32, none, .mov (.t 55)⟩] (some [32]))
         (.cond (.t 32)
          (.seq
           (.reg [⟨some 2, none, .mov (.c (.int .i64 1))⟩] (some [2]))
           .ret)
          .skip)))))
     (.seq
      (.reg [⟨some 2, none, .mov (.c (.int .i64 0))⟩] (some [2]))
      .ret)))))
theorem is_wireMay : IrOf Tryz.prog 64 56 ir_wireMay [.t 2] := ⟨_, Tryz.func64, rfl, by kernel_rfl, by kernel_rfl, by kernel_rfl⟩


def within (x y : Int) (s : List UInt8) : Bool := s.all fun c => decide (x ≤ c.toNat) && decide ((c.toNat : Int) ≤ y)
/-- Whether a sequence may be: 0; 4: too long; 1: not. -/
def mayP (s : Sq) : Int :=
  if decide ((s.da.length : Int) > 4096) = true then 4
  else if (!(s.pr == 0 || (decide (s.pr ≥ 60) && decide (s.pr ≤ 63))) || !(decide ((s.it.length : Int) ≤ 2) && within 32 47 s.it) || !parsOk s.ps || !within 32 126 s.da || !shapedP s) = true then 1 else 0

set_option maxHeartbeats 2000000 in
theorem fs_May {Gl : Gh → Prop} (hst : Stays Gl) {s : Sq} (hf0 : 0 ≤ s.fi) (hf1 : s.fi < 128) (h1 : s.ps.length < 9223372036854775808) (h2 : ∀ p ∈ s.ps, p.length < 9223372036854775808) (h3 : s.it.length < 9223372036854775808) (h4 : s.da.length < 9223372036854775808) :
    FS Tryz.prog Gl 64 [.agg s.c] [] [] (.int .i64 (mayP s)) [] [] := by
  have c1 := fs_between hst h3 (x := 32) (y := 47) (by omega) (by omega)
  have c2 := fs_listed hst h1 h2
  have c3 := fs_between hst h4 (x := 32) (y := 126) (by omega) (by omega)
  have c4 := fs_shaped hst hf0 hf1
  refine FS.of hm hst is_wireMay (by simp) fun γ hγ hfr => ?_
  have hsp : mayP s = if decide ((s.da.length : Int) > 4096) = true then 4 else if (!(s.pr == 0 || (decide (s.pr ≥ 60) && decide (s.pr ≤ 63))) || !(decide ((s.it.length : Int) ≤ 2) && within 32 47 s.it) || !parsOk s.ps || !within 32 126 s.da || !shapedP s) = true then 1 else 0 := rfl
  rw [hsp]
  change FS _ _ _ _ _ _ (.bool (within 32 47 s.it)) _ _ at c1
  change FS _ _ _ _ _ _ (.bool (within 32 126 s.da)) _ _ at c3
  obtain ⟨k, pr, ps, it, fi, da⟩ := s
  simp only at c1 c2 c3 c4 ⊢
  generalize hp0 : (pr == 0) = p0
  generalize hp1 : decide (pr ≥ 60) = p1
  generalize hp2 : decide (pr ≤ 63) = p2
  generalize hit : decide ((it.length : Int) ≤ 2) = it2
  generalize hda : decide ((da.length : Int) > 4096) = da4
  generalize within 32 47 it = w1 at c1
  generalize within 32 126 da = w2 at c3
  generalize parsOk ps = pk at c2
  generalize shapedP _ = sh at c4
  simp only [Sq.c] at c4 ⊢
  have cl : AV.closedL [AV.int .i64 k, .int .u8 pr, parsV ps, .str it, .int .u8 fi, .str da] = true := rfl
  (generalize hQ : (fun (ex : Ex) (_ _ : Nat) (s : St) => _) = Q; unfold ir_wireMay)
  simp +contextual (maxSteps := 1000000) only [hp0, hp1, hp2, hit, hda, go_sem, reduceCtorEq, ↓reduceIte, Nat.reduceAdd, Nat.reduceEqDiff, Nat.reduceLeDiff, Nat.reduceMul, Nat.reduceBEq, Int.reduceBEq, Int.reduceBNe, Int.reduceLT, Int.reduceLE, Int.reduceGT, Int.reduceGE, Int.reduceToNat, Int.natCast_one, Int.natCast_zero, Int.cast_ofNat_Int]
  generalize (p0 || p1 && p2) = b0 at hQ ⊢
  (refine kGc_call (c1) (fun _ => rfl) (fun hgc => ?_) ?_; (focus (first | (rw [Bool.not_eq_true'] at hgc; simp only [List.map_cons, List.map_nil, List.nil_append, List.append_nil, List.cons_append, Xev_t, Xev_c, upd_app, lf_cons, lf_nil, Nat.reduceEqDiff, ↓reduceIte, hgc, Bool.false_eq_true, Bool.true_eq_false, reduceCtorEq]; done) | (simp only [List.map_cons, List.map_nil, List.nil_append, List.append_nil, List.cons_append, Xev_t, Xev_c, upd_app, lf_cons, lf_nil, Nat.reduceEqDiff, ↓reduceIte, hgc, Bool.false_eq_true, Bool.true_eq_false, reduceCtorEq]; done) | (revert hgc; simp +contextual [Xev_t, Xev_c, upd_app, lf_cons, lf_nil]; done) | simp [Xev_t, Xev_c, upd_app, lf_cons, lf_nil])); simp +contextual (maxSteps := 1000000) only [hp0, hp1, hp2, hit, hda, go_sem, reduceCtorEq, ↓reduceIte, Nat.reduceAdd, Nat.reduceEqDiff, Nat.reduceLeDiff, Nat.reduceMul, Nat.reduceBEq, Int.reduceBEq, Int.reduceBNe, Int.reduceLT, Int.reduceLE, Int.reduceGT, Int.reduceGE, Int.reduceToNat, Int.natCast_one, Int.natCast_zero, Int.cast_ofNat_Int])
  generalize (it2 && w1) = b1 at hQ ⊢
  cases da4
  · simp +contextual (maxSteps := 1000000) only [go_sem, reduceCtorEq, ↓reduceIte, Nat.reduceAdd, Nat.reduceEqDiff, Nat.reduceLeDiff, Nat.reduceMul, Nat.reduceBEq, Int.reduceBEq, Int.reduceBNe, Int.reduceLT, Int.reduceLE, Int.reduceGT, Int.reduceGE, Int.reduceToNat, Int.natCast_one, Int.natCast_zero, Int.cast_ofNat_Int]
    (refine kGc_call (c2) (fun _ => rfl) (fun hgc => ?_) ?_; (focus (first | (rw [Bool.not_eq_true'] at hgc; simp only [List.map_cons, List.map_nil, List.nil_append, List.append_nil, List.cons_append, Xev_t, Xev_c, upd_app, lf_cons, lf_nil, Nat.reduceEqDiff, ↓reduceIte, hgc, Bool.false_eq_true, Bool.true_eq_false, reduceCtorEq]; done) | (simp only [List.map_cons, List.map_nil, List.nil_append, List.append_nil, List.cons_append, Xev_t, Xev_c, upd_app, lf_cons, lf_nil, Nat.reduceEqDiff, ↓reduceIte, hgc, Bool.false_eq_true, Bool.true_eq_false, reduceCtorEq]; done) | (revert hgc; simp +contextual [Xev_t, Xev_c, upd_app, lf_cons, lf_nil]; done) | simp [Xev_t, Xev_c, upd_app, lf_cons, lf_nil])); simp +contextual (maxSteps := 1000000) only [hp0, go_sem, reduceCtorEq, ↓reduceIte, Nat.reduceAdd, Nat.reduceEqDiff, Nat.reduceLeDiff, Nat.reduceMul, Nat.reduceBEq, Int.reduceBEq, Int.reduceBNe, Int.reduceLT, Int.reduceLE, Int.reduceGT, Int.reduceGE, Int.reduceToNat, Int.natCast_one, Int.natCast_zero, Int.cast_ofNat_Int])
    (refine kGc_call (c3) (fun _ => rfl) (fun hgc => ?_) ?_; (focus (first | (rw [Bool.not_eq_true'] at hgc; simp only [List.map_cons, List.map_nil, List.nil_append, List.append_nil, List.cons_append, Xev_t, Xev_c, upd_app, lf_cons, lf_nil, Nat.reduceEqDiff, ↓reduceIte, hgc, Bool.false_eq_true, Bool.true_eq_false, reduceCtorEq]; done) | (simp only [List.map_cons, List.map_nil, List.nil_append, List.append_nil, List.cons_append, Xev_t, Xev_c, upd_app, lf_cons, lf_nil, Nat.reduceEqDiff, ↓reduceIte, hgc, Bool.false_eq_true, Bool.true_eq_false, reduceCtorEq]; done) | (revert hgc; simp +contextual [Xev_t, Xev_c, upd_app, lf_cons, lf_nil]; done) | simp [Xev_t, Xev_c, upd_app, lf_cons, lf_nil])); simp +contextual (maxSteps := 1000000) only [hp0, go_sem, reduceCtorEq, ↓reduceIte, Nat.reduceAdd, Nat.reduceEqDiff, Nat.reduceLeDiff, Nat.reduceMul, Nat.reduceBEq, Int.reduceBEq, Int.reduceBNe, Int.reduceLT, Int.reduceLE, Int.reduceGT, Int.reduceGE, Int.reduceToNat, Int.natCast_one, Int.natCast_zero, Int.cast_ofNat_Int])
    (refine kGc_call (c4) (fun _ => rfl) (fun hgc => ?_) ?_; (focus (first | (rw [Bool.not_eq_true'] at hgc; simp only [List.map_cons, List.map_nil, List.nil_append, List.append_nil, List.cons_append, Xev_t, Xev_c, upd_app, lf_cons, lf_nil, Nat.reduceEqDiff, ↓reduceIte, hgc, Bool.false_eq_true, Bool.true_eq_false, reduceCtorEq]; done) | (simp only [List.map_cons, List.map_nil, List.nil_append, List.append_nil, List.cons_append, Xev_t, Xev_c, upd_app, lf_cons, lf_nil, Nat.reduceEqDiff, ↓reduceIte, hgc, Bool.false_eq_true, Bool.true_eq_false, reduceCtorEq]; done) | (revert hgc; simp +contextual [Xev_t, Xev_c, upd_app, lf_cons, lf_nil]; done) | simp [Xev_t, Xev_c, upd_app, lf_cons, lf_nil])); simp +contextual (maxSteps := 1000000) only [hp0, go_sem, reduceCtorEq, ↓reduceIte, Nat.reduceAdd, Nat.reduceEqDiff, Nat.reduceLeDiff, Nat.reduceMul, Nat.reduceBEq, Int.reduceBEq, Int.reduceBNe, Int.reduceLT, Int.reduceLE, Int.reduceGT, Int.reduceGE, Int.reduceToNat, Int.natCast_one, Int.natCast_zero, Int.cast_ofNat_Int])
    cases hb : (!b0 || !b1 || !pk || !w2 || !sh) <;> rw [hb] at hQ <;> simp +contextual (maxSteps := 1000000) only [hb, go_sem, reduceCtorEq, ↓reduceIte, Nat.reduceAdd, Nat.reduceEqDiff, Nat.reduceLeDiff, Nat.reduceMul, Nat.reduceBEq, Int.reduceBEq, Int.reduceBNe, Int.reduceLT, Int.reduceLE, Int.reduceGT, Int.reduceGE, Int.reduceToNat, Int.natCast_one, Int.natCast_zero, Int.cast_ofNat_Int] <;> rw [← hQ] <;> exact ⟨trivial, Ret.flat rfl rfl⟩
  · simp +contextual (maxSteps := 1000000) only [go_sem, reduceCtorEq, ↓reduceIte, Nat.reduceAdd, Nat.reduceEqDiff, Nat.reduceLeDiff, Nat.reduceMul, Nat.reduceBEq, Int.reduceBEq, Int.reduceBNe, Int.reduceLT, Int.reduceLE, Int.reduceGT, Int.reduceGE, Int.reduceToNat, Int.natCast_one, Int.natCast_zero, Int.cast_ofNat_Int]
    rw [← hQ]; exact ⟨trivial, Ret.flat rfl rfl⟩
end Go.Proofs.YthmjlngdbabdeaaGreatDoor

/- The reference's layer 3: whether a sequence may be, walked. -/
set_option linter.unusedVariables false
set_option linter.unusedSimpArgs false
set_option maxRecDepth 100000
namespace Go.Proofs.YthmjlngdbabdeaaGreatDoor
open Go Go.Ab
/- clavier/clavierref03.params -/
def ir_clavierref03params_l0 : ICode :=
 (.seq
               (.seq
                (.reg [⟨some 48, none, .mov (.t 4)⟩,
                  ⟨some 49, none, .mov (.t 0)⟩,
                  ⟨some 50, none, .mov (.t 3)⟩,
                  ⟨some 51, none, .ia 1 (.t 49) (.t 50)⟩,
                  ⟨some 52, none, .ld none (.t 51)⟩,
                  ⟨some 53, none, .len (.t 52)⟩,
                  ⟨some 54, none, .bin .lss .none (.t 48) (.t 53)⟩] (some [0, 3, 4, 54]))
                (.cond (.t 54)
                 .skip
                 (.exit 2)))
               (.seq
                (.blk 3
                 (.seq
                  (.reg [⟨some 57, none, .mov (.t 0)⟩,
                    ⟨some 58, none, .mov (.t 3)⟩,
                    ⟨some 59, none, .ia 1 (.t 57) (.t 58)⟩,
                    ⟨some 60, none, .ld none (.t 59)⟩,
                    ⟨some 61, none, .mov (.t 4)⟩,
                    ⟨some 62, none, .ia 1 (.t 60) (.t 61)⟩,
                    ⟨some 63, none, .ld none (.t 62)⟩,
                    ⟨some 64, none, .bin .lss .none (.t 63) (.c (.int .i64 (-1)))⟩,
                    ⟨some 65, none, .mov (.t 64)⟩,
                    ⟨some 66, some (65, false), .mov (.t 0)⟩,
                    ⟨some 67, some (65, false), .mov (.t 3)⟩,
                    ⟨some 68, some (65, false), .ia 1 (.t 66) (.t 67)⟩,
                    ⟨some 69, some (65, false), .ld none (.t 68)⟩,
                    ⟨some 70, some (65, false), .mov (.t 4)⟩,
                    ⟨some 71, some (65, false), .ia 1 (.t 69) (.t 70)⟩,
                    ⟨some 72, some (65, false), .ld none (.t 71)⟩,
                    ⟨some 73, some (65, false), .bin .gtr .none (.t 72) (.c (.int .i64 1114111))⟩,
                    ⟨some 74, none, .pick (.t 65) (.c (.bool true)) (.t 73)⟩] (some [0, 3, 4, 74]))
                  (.cond (.t 74)
                   (.seq
                    (.reg [⟨some 2, none, .mov (.c (.bool false))⟩] (some [2]))
                    .ret)
                   .skip)))
                (.reg [⟨some 55, none, .mov (.t 4)⟩,
                  ⟨some 56, none, .bin .add .none (.t 55) (.c (.int .i64 1))⟩,
                  ⟨some 4, none, .mov (.t 56)⟩] (some [0, 3, 4]))))
def ir_clavierref03params_l1 : ICode :=
 (.seq
        (.seq
         (.reg [⟨some 28, none, .mov (.t 3)⟩,
           ⟨some 29, none, .mov (.t 0)⟩,
           ⟨some 30, none, .len (.t 29)⟩,
           ⟨some 31, none, .bin .lss .none (.t 28) (.t 30)⟩] (some [0, 3, 31]))
         (.cond (.t 31)
          .skip
          (.exit 0)))
        (.seq
         (.blk 1
          (.seq
           (.seq
            (.reg [⟨some 34, none, .mov (.t 0)⟩,
              ⟨some 35, none, .mov (.t 3)⟩,
              ⟨some 36, none, .ia 1 (.t 34) (.t 35)⟩,
              ⟨some 37, none, .ld none (.t 36)⟩,
              ⟨some 38, none, .len (.t 37)⟩,
              ⟨some 39, none, .bin .lss .none (.t 38) (.c (.int .i64 1))⟩,
              ⟨some 40, none, .mov (.t 39)⟩,
              ⟨some 41, some (40, false), .mov (.t 0)⟩,
              ⟨some 42, some (40, false), .mov (.t 3)⟩,
              ⟨some 43, some (40, false), .ia 1 (.t 41) (.t 42)⟩,
              ⟨some 44, some (40, false), .ld none (.t 43)⟩,
              ⟨some 45, some (40, false), .len (.t 44)⟩,
              ⟨some 46, some (40, false), .bin .gtr .none (.t 45) (.c (.int .i64 8))⟩,
              ⟨some 47, none, .pick (.t 40) (.c (.bool true)) (.t 46)⟩] (some [0, 3, 47]))
            (.cond (.t 47)
             (.seq
              (.reg [⟨some 2, none, .mov (.c (.bool false))⟩] (some [2]))
              .ret)
             .skip))
           (.seq
            (.reg [⟨some 4, none, .mov (.c (.int .i64 0))⟩] (some [0, 3, 4]))
            (.blk 2
             (.loop
              ir_clavierref03params_l0)))))
         (.reg [⟨some 32, none, .mov (.t 3)⟩,
           ⟨some 33, none, .bin .add .none (.t 32) (.c (.int .i64 1))⟩,
           ⟨some 3, none, .mov (.t 33)⟩] (some [0, 3]))))
def ir_clavierref03params_t3 : ICode :=
 (.seq
  (.reg [⟨some 2, none, .mov (.c (.bool true))⟩] (some [2]))
  .ret)
def ir_clavierref03params_t2 : ICode :=
 (.seq
  (.seq
     (.reg [⟨some 3, none, .mov (.c (.int .i64 0))⟩] (some [0, 3]))
     (.blk 0
      (.loop
       ir_clavierref03params_l1)))
  ir_clavierref03params_t3)
def ir_clavierref03params_t1 : ICode :=
 (.seq
  (.seq
    (.reg [⟨some 5, none, .mov (.t 0)⟩,
      ⟨some 6, none, .len (.t 5)⟩,
      ⟨some 7, none, .bin .gtr .none (.t 6) (.c (.int .i64 16))⟩,
      ⟨some 8, none, .mov (.t 7)⟩,
      ⟨some 9, some (8, false), .mov (.t 0)⟩,
      ⟨some 10, some (8, false), .len (.t 9)⟩,
      ⟨some 11, some (8, false), .bin .eql .none (.t 10) (.c (.int .i64 1))⟩,
      ⟨some 12, some (8, false), .mov (.t 11)⟩,
      ⟨some 13, some (12, true), .mov (.t 0)⟩,
      ⟨some 14, some (12, true), .ia 1 (.t 13) (.c (.int .i64 0))⟩,
      ⟨some 15, some (12, true), .ld none (.t 14)⟩,
      ⟨some 16, some (12, true), .len (.t 15)⟩,
      ⟨some 17, some (12, true), .bin .eql .none (.t 16) (.c (.int .i64 1))⟩,
      ⟨some 18, some (8, false), .pick (.t 12) (.t 17) (.c (.bool false))⟩,
      ⟨some 19, some (8, false), .mov (.t 18)⟩,
      ⟨some 20, some (19, true), .mov (.t 0)⟩,
      ⟨some 21, some (19, true), .ia 1 (.t 20) (.c (.int .i64 0))⟩,
      ⟨some 22, some (19, true), .ld none (.t 21)⟩,
      ⟨some 23, some (19, true), .ia 1 (.t 22) (.c (.int .i64 0))⟩,
      ⟨some 24, some (19, true), .ld none (.t 23)⟩,
      ⟨some 25, some (19, true), .bin .eql .none (.t 24) (.c (.int .i64 (-1)))⟩,
      ⟨some 26, some (8, false), .pick (.t 19) (.t 25) (.c (.bool false))⟩,
      ⟨some 27, none, .pick (.t 8) (.c (.bool true)) (.t 26)⟩] (some [0, 27]))
    (.cond (.t 27)
     (.seq
      (.reg [⟨some 2, none, .mov (.c (.bool false))⟩] (some [2]))
      .ret)
     .skip))
  ir_clavierref03params_t2)
def ir_clavierref03params : ICode :=
 (.seq
  (.reg [⟨some 2, none, .mov (.c (.bool false))⟩] (some [0]))
  ir_clavierref03params_t1)
theorem is_clavierref03params : IrOf Tryz.prog 100 75 ir_clavierref03params [.t 2] := ⟨_, Tryz.func100, rfl, by kernel_rfl, by kernel_rfl, by kernel_rfl⟩


def subBad (n : Int) : Bool := decide (n < -1) || decide (n > 1114111)
theorem parBad_eq (p : List Int) : parBad p = (p.any subBad || (decide (p.length < 1) || decide (p.length > 8))) := rfl
set_option maxHeartbeats 1000000 in
theorem fs_rParams {Gl : Gh → Prop} (hst : Stays Gl) {l : List (List Int)} (ha : l.length < 9223372036854775808) (hb : ∀ p ∈ l, p.length < 9223372036854775808) : FS Tryz.prog Gl 100 [parsV l] [] [] (.bool (parsOk l)) [] [] := by
  refine FS.of hm hst is_clavierref03params (by simp) fun γ hγ hfr => ?_
  (generalize hQ : (fun (ex : Ex) (_ _ : Nat) (s : St) => _) = Q; unfold ir_clavierref03params)
  simp only [parsV]
  simp +contextual (maxSteps := 1000000) only [go_sem, reduceCtorEq, ↓reduceIte, Nat.reduceAdd, Nat.reduceEqDiff, Nat.reduceLeDiff, Nat.reduceMul, Nat.reduceBEq, Int.reduceBEq, Int.reduceBNe, Int.reduceLT, Int.reduceLE, Int.reduceGT, Int.reduceGE, Int.reduceToNat, Int.natCast_one, Int.natCast_zero, Int.cast_ofNat_Int]
  unfold ir_clavierref03params_t1
  have i1 : decide ((l.length : Int) > 16) = decide (l.length > 16) := by rw [decide_eq_decide]; omega
  have i2 : ((l.length : Int) == 1) = decide (l.length = 1) := by rw [Bool.eq_iff_iff]; simp; omega
  have loop : ∀ F c, lfOK [] F [(0, .sl none 1 (parsAV l)), (3, .int .i64 0)] → decide (l.length > 16) = false → decide (l = [[-1]]) = false → kLoop Tryz.prog Gl ir_clavierref03params_l1 γ c ⟨F, [], fun x => x ∈ []⟩ (kBlk 0 (kSeq Tryz.prog Gl ir_clavierref03params_t3 Q)) := by
    intro F c hF e1 e2
    refine kLoop_ix (fun i : Nat => ⟨lf [(0, .sl none 1 (parsAV l)), (3, .int .i64 i)], [], fun x => x ∈ []⟩) (fun i => i ≤ l.length ∧ l.any parBad = (l.drop i).any parBad) (fun i => l.length - i) 0 0 (Wk.same hF) (by simp) ?_
    rintro γ' i hf ⟨hi, hinv⟩
    generalize hQ' : kIt _ _ _ _ _ = Q'
    unfold ir_clavierref03params_l1
    by_cases hlt : i < l.length
    · have hd : decide ((i : Int) < (l.length : Int)) = true := by simp; omega
      have hg1 : (parsAV l).getD i [] = [intsV l[i]] := parsAV_get hlt
      have hdrop : l.drop i = l[i] :: l.drop (i + 1) := List.drop_eq_getElem_cons hlt
      have hpl := hb _ (List.getElem_mem hlt)
      have hw : IntKind.i64.wrap ((i : Int) + 1) = ((i + 1 : Nat) : Int) := by rw [IntKind.wrap_i64]; omega
      rw [hdrop, List.any_cons] at hinv
      generalize l[i] = p at hg1 hinv hpl
      have i3 : decide ((p.length : Int) < 1) = decide (p.length < 1) := by rw [decide_eq_decide]; omega
      have i4 : decide ((p.length : Int) > 8) = decide (p.length > 8) := by rw [decide_eq_decide]; omega
      simp +contextual (maxSteps := 1000000) only [hd, hg1, parsAV_length, Int.toNat_natCast, intsV, intsAV_length, i3, i4, go_sem, reduceCtorEq, ↓reduceIte, Nat.reduceAdd, Nat.reduceEqDiff, Nat.reduceLeDiff, Nat.reduceMul, Nat.reduceBEq, Int.reduceBEq, Int.reduceBNe, Int.reduceLT, Int.reduceLE, Int.reduceGT, Int.reduceGE, Int.reduceToNat, Int.natCast_one, Int.natCast_zero, Int.cast_ofNat_Int]
      refine ⟨by omega, by omega, ?_⟩
      refine kCond_split (fun h => ?_) (fun h => ?_)
      · simp +contextual (maxSteps := 1000000) only [go_sem, reduceCtorEq, ↓reduceIte, Nat.reduceAdd, Nat.reduceEqDiff, Nat.reduceLeDiff, Nat.reduceMul, Nat.reduceBEq, Int.reduceBEq, Int.reduceBNe, Int.reduceLT, Int.reduceLE, Int.reduceGT, Int.reduceGE, Int.reduceToNat, Int.natCast_one, Int.natCast_zero, Int.cast_ofNat_Int]
        rw [← hQ']
        simp only [w_kIt_r, w_kBlk_r, w_kSeq_r]
        rw [← hQ]
        refine ⟨trivial, Ret.flat ?_ rfl⟩
        have e : parBad p = true := by rw [parBad_eq, h, Bool.or_true]
        have : parsOk l = false := by simp only [parsOk, hinv, e, Bool.true_or, Bool.not_true, Bool.and_false]
        rw [this]; rfl
      · have h' : p.any subBad = parBad p := by
          rw [parBad_eq]
          rw [h, Bool.or_false]
        simp +contextual (maxSteps := 1000000) only [go_sem, reduceCtorEq, ↓reduceIte, Nat.reduceAdd, Nat.reduceEqDiff, Nat.reduceLeDiff, Nat.reduceMul, Nat.reduceBEq, Int.reduceBEq, Int.reduceBNe, Int.reduceLT, Int.reduceLE, Int.reduceGT, Int.reduceGE, Int.reduceToNat, Int.natCast_one, Int.natCast_zero, Int.cast_ofNat_Int]
        refine kLoop_ix (fun k : Nat => ⟨lf [(0, .sl none 1 (parsAV l)), (3, .int .i64 i), (4, .int .i64 k)], [], fun x => x ∈ []⟩) (fun k => k ≤ p.length ∧ p.any subBad = (p.drop k).any subBad) (fun k => p.length - k) 0 0 (Wk.same ?_) (by simp) ?_
        · (simp only [lfOK, upd, initF]; repeat' first | exact AVle.refl _ _ | exact trivial | refine And.intro ?_ ?_ | exact AVle.int (by simp only [IntKind.wrap_i64]; omega))
        rintro γ2 k hf2 ⟨hk, hinv2⟩
        generalize hQ2 : kIt _ _ _ _ _ = Q2
        unfold ir_clavierref03params_l0
        by_cases hlt2 : k < p.length
        · have hd2 : decide ((k : Int) < (p.length : Int)) = true := by simp; omega
          have hg2 : (intsAV p).getD k [] = [.int .i64 p[k]] := intsAV_get hlt2
          have hdrop2 : p.drop k = p[k] :: p.drop (k + 1) := List.drop_eq_getElem_cons hlt2
          have hw2 : IntKind.i64.wrap ((k : Int) + 1) = ((k + 1 : Nat) : Int) := by rw [IntKind.wrap_i64]; omega
          rw [hdrop2, List.any_cons] at hinv2
          generalize p[k] = x at hg2 hinv2
          simp +contextual (maxSteps := 1000000) only [hd2, hg1, hg2, parsAV_length, Int.toNat_natCast, intsV, intsAV_length, go_sem, reduceCtorEq, ↓reduceIte, Nat.reduceAdd, Nat.reduceEqDiff, Nat.reduceLeDiff, Nat.reduceMul, Nat.reduceBEq, Int.reduceBEq, Int.reduceBNe, Int.reduceLT, Int.reduceLE, Int.reduceGT, Int.reduceGE, Int.reduceToNat, Int.natCast_one, Int.natCast_zero, Int.cast_ofNat_Int]
          refine ⟨by omega, by omega, by omega, fun _ => by omega, fun _ => by omega, ?_⟩
          refine kCond_split (fun h2 => ?_) (fun h2 => ?_)
          · simp +contextual (maxSteps := 1000000) only [go_sem, reduceCtorEq, ↓reduceIte, Nat.reduceAdd, Nat.reduceEqDiff, Nat.reduceLeDiff, Nat.reduceMul, Nat.reduceBEq, Int.reduceBEq, Int.reduceBNe, Int.reduceLT, Int.reduceLE, Int.reduceGT, Int.reduceGE, Int.reduceToNat, Int.natCast_one, Int.natCast_zero, Int.cast_ofNat_Int]
            rw [← hQ2]
            simp only [w_kIt_r, w_kBlk_r, w_kSeq_r]
            rw [← hQ']
            simp only [w_kIt_r, w_kBlk_r, w_kSeq_r]
            rw [← hQ]
            refine ⟨trivial, Ret.flat ?_ rfl⟩
            have e : parBad p = true := by rw [← h', hinv2, subBad, h2, Bool.true_or]
            have : parsOk l = false := by simp only [parsOk, hinv, e, Bool.true_or, Bool.not_true, Bool.and_false]
            rw [this]; rfl
          · simp +contextual (maxSteps := 1000000) only [hw2, go_sem, reduceCtorEq, ↓reduceIte, Nat.reduceAdd, Nat.reduceEqDiff, Nat.reduceLeDiff, Nat.reduceMul, Nat.reduceBEq, Int.reduceBEq, Int.reduceBNe, Int.reduceLT, Int.reduceLE, Int.reduceGT, Int.reduceGE, Int.reduceToNat, Int.natCast_one, Int.natCast_zero, Int.cast_ofNat_Int]
            rw [← hQ2]
            simp only [w_kIt_n]
            refine ⟨0, k + 1, Wk.same ?_, ⟨by omega, ?_⟩, by omega⟩
            · repeat' first | exact AVle.refl _ _ | exact trivial | refine And.intro ?_ ?_ | exact AVle.int (by simp only [IntKind.wrap_i64]; omega)
            · rw [hinv2, subBad, h2, Bool.false_or]
        · have hd2 : decide ((k : Int) < (p.length : Int)) = false := by simp; omega
          simp +contextual (maxSteps := 1000000) only [hd2, hg1, parsAV_length, Int.toNat_natCast, intsV, intsAV_length, go_sem, reduceCtorEq, ↓reduceIte, Nat.reduceAdd, Nat.reduceEqDiff, Nat.reduceLeDiff, Nat.reduceMul, Nat.reduceBEq, Int.reduceBEq, Int.reduceBNe, Int.reduceLT, Int.reduceLE, Int.reduceGT, Int.reduceGE, Int.reduceToNat, Int.natCast_one, Int.natCast_zero, Int.cast_ofNat_Int]
          refine ⟨by omega, ?_⟩
          rw [← hQ2]
          simp only [w_kIt_e, w_kBlk_e, ↓reduceIte]
          simp +contextual (maxSteps := 1000000) only [hw, go_sem, reduceCtorEq, ↓reduceIte, Nat.reduceAdd, Nat.reduceEqDiff, Nat.reduceLeDiff, Nat.reduceMul, Nat.reduceBEq, Int.reduceBEq, Int.reduceBNe, Int.reduceLT, Int.reduceLE, Int.reduceGT, Int.reduceGE, Int.reduceToNat, Int.natCast_one, Int.natCast_zero, Int.cast_ofNat_Int]
          rw [← hQ']
          simp only [w_kIt_n]
          refine ⟨0, i + 1, Wk.same ?_, ⟨by omega, ?_⟩, by omega⟩
          · repeat' first | exact AVle.refl _ _ | exact trivial | refine And.intro ?_ ?_ | exact AVle.int (by simp only [IntKind.wrap_i64]; omega)
          · rw [List.drop_of_length_le (by omega), List.any_nil] at hinv2
            rw [hinv, ← h', hinv2, Bool.false_or]
    · have hd : decide ((i : Int) < (l.length : Int)) = false := by simp; omega
      simp +contextual (maxSteps := 1000000) only [hd, parsAV_length, go_sem, reduceCtorEq, ↓reduceIte, Nat.reduceAdd, Nat.reduceEqDiff, Nat.reduceLeDiff, Nat.reduceMul, Nat.reduceBEq, Int.reduceBEq, Int.reduceBNe, Int.reduceLT, Int.reduceLE, Int.reduceGT, Int.reduceGE, Int.reduceToNat, Int.natCast_one, Int.natCast_zero, Int.cast_ofNat_Int]
      rw [← hQ']
      simp only [w_kIt_e, w_kBlk_e, ↓reduceIte]
      simp +contextual (maxSteps := 1000000) only [go_sem, reduceCtorEq, ↓reduceIte, Nat.reduceAdd, Nat.reduceEqDiff, Nat.reduceLeDiff, Nat.reduceMul, Nat.reduceBEq, Int.reduceBEq, Int.reduceBNe, Int.reduceLT, Int.reduceLE, Int.reduceGT, Int.reduceGE, Int.reduceToNat, Int.natCast_one, Int.natCast_zero, Int.cast_ofNat_Int]
      unfold ir_clavierref03params_t3
      simp +contextual (maxSteps := 1000000) only [go_sem, reduceCtorEq, ↓reduceIte, Nat.reduceAdd, Nat.reduceEqDiff, Nat.reduceLeDiff, Nat.reduceMul, Nat.reduceBEq, Int.reduceBEq, Int.reduceBNe, Int.reduceLT, Int.reduceLE, Int.reduceGT, Int.reduceGE, Int.reduceToNat, Int.natCast_one, Int.natCast_zero, Int.cast_ofNat_Int]
      rw [← hQ]
      refine ⟨trivial, Ret.flat ?_ rfl⟩
      have : parsOk l = true := by
        rw [List.drop_of_length_le (by omega)] at hinv
        simp only [parsOk, hinv, e1, e2, Bool.or_false, Bool.not_false, List.any_nil, Bool.and_self]
      rw [this]; rfl
  have i5 : ∀ n : Nat, (((n + 1 + 1 : Nat) : Int) == 1) = false := fun n => by simp; omega
  have go : ∀ F c, F 0 = .sl none 1 (parsAV l) → decide (l.length > 16) = false → decide (l = [[-1]]) = false → aw Tryz.prog Gl ir_clavierref03params_t2 γ c ⟨F, [], fun x => x ∈ []⟩ Q := fun F c h0 e1 e2 => by
    unfold ir_clavierref03params_t2
    simp +contextual (maxSteps := 1000000) only [h0, go_sem, reduceCtorEq, ↓reduceIte, Nat.reduceAdd, Nat.reduceEqDiff, Nat.reduceLeDiff, Nat.reduceMul, Nat.reduceBEq, Int.reduceBEq, Int.reduceBNe, Int.reduceLT, Int.reduceLE, Int.reduceGT, Int.reduceGE, Int.reduceToNat, Int.natCast_one, Int.natCast_zero, Int.cast_ofNat_Int]
    refine loop _ _ ?_ e1 e2
    (simp only [lfOK, upd, initF]; repeat' first | exact AVle.refl _ _ | exact trivial | refine And.intro ?_ ?_ | exact AVle.int (by simp only [IntKind.wrap_i64]; omega))
  clear loop
  have no : parsOk l = false → ∀ γ c F, F 2 = .bool false → Q .ret γ c ⟨F, [], fun x => x ∈ []⟩ := fun h γ c F h2 => by
    rw [← hQ, h]
    exact ⟨trivial, Ret.flat (by simp only [resOf, getAll, IRes.get, h2]) rfl⟩
  match l, go, no with
  | [], go, no =>
    simp +contextual (maxSteps := 1000000) only [parsAV, List.map_nil, go_sem, reduceCtorEq, ↓reduceIte, Nat.reduceAdd, Nat.reduceEqDiff, Nat.reduceLeDiff, Nat.reduceMul, Nat.reduceBEq, Int.reduceBEq, Int.reduceBNe, Int.reduceLT, Int.reduceLE, Int.reduceGT, Int.reduceGE, Int.reduceToNat, Int.natCast_one, Int.natCast_zero, Int.cast_ofNat_Int]
    exact go _ _ rfl rfl rfl
  | [[]], go, no =>
    simp +contextual (maxSteps := 1000000) only [parsAV, intsV, intsAV, List.map_nil, List.map_cons, Int.zero_add, go_sem, reduceCtorEq, ↓reduceIte, Nat.reduceAdd, Nat.reduceEqDiff, Nat.reduceLeDiff, Nat.reduceMul, Nat.reduceBEq, Int.reduceBEq, Int.reduceBNe, Int.reduceLT, Int.reduceLE, Int.reduceGT, Int.reduceGE, Int.reduceToNat, Int.natCast_one, Int.natCast_zero, Int.cast_ofNat_Int]
    exact go _ _ rfl rfl rfl
  | [[n]], go, no =>
    simp +contextual (maxSteps := 1000000) only [parsAV, intsV, intsAV, List.map_nil, List.map_cons, Int.zero_add, go_sem, reduceCtorEq, ↓reduceIte, Nat.reduceAdd, Nat.reduceEqDiff, Nat.reduceLeDiff, Nat.reduceMul, Nat.reduceBEq, Int.reduceBEq, Int.reduceBNe, Int.reduceLT, Int.reduceLE, Int.reduceGT, Int.reduceGE, Int.reduceToNat, Int.natCast_one, Int.natCast_zero, Int.cast_ofNat_Int]
    refine kCond_split (fun h => ?_) (fun h => ?_)
    · simp +contextual (maxSteps := 1000000) only [go_sem, reduceCtorEq, ↓reduceIte, Nat.reduceAdd, Nat.reduceEqDiff, Nat.reduceLeDiff, Nat.reduceMul, Nat.reduceBEq, Int.reduceBEq, Int.reduceBNe, Int.reduceLT, Int.reduceLE, Int.reduceGT, Int.reduceGE, Int.reduceToNat, Int.natCast_one, Int.natCast_zero, Int.cast_ofNat_Int]
      refine no ?_ _ _ _ rfl
      have : n = -1 := by simpa using h
      subst this; rfl
    · simp +contextual (maxSteps := 1000000) only [go_sem, reduceCtorEq, ↓reduceIte, Nat.reduceAdd, Nat.reduceEqDiff, Nat.reduceLeDiff, Nat.reduceMul, Nat.reduceBEq, Int.reduceBEq, Int.reduceBNe, Int.reduceLT, Int.reduceLE, Int.reduceGT, Int.reduceGE, Int.reduceToNat, Int.natCast_one, Int.natCast_zero, Int.cast_ofNat_Int]
      have h2 : decide ([[n]] = [[-1]]) = false := by simpa using h
      exact go _ _ rfl rfl h2
  | [n :: m :: p], go, no =>
    simp +contextual (maxSteps := 1000000) only [parsAV, intsV, intsAV, List.map_nil, List.map_cons, Int.zero_add, i5, Bool.false_and, Bool.and_false, go_sem, reduceCtorEq, ↓reduceIte, Nat.reduceAdd, Nat.reduceEqDiff, Nat.reduceLeDiff, Nat.reduceMul, Nat.reduceBEq, Int.reduceBEq, Int.reduceBNe, Int.reduceLT, Int.reduceLE, Int.reduceGT, Int.reduceGE, Int.reduceToNat, Int.natCast_one, Int.natCast_zero, Int.cast_ofNat_Int]
    exact go _ _ rfl rfl (by simp)
  | p :: q :: l, go, no =>
    have i6 : decide (((l.length + 1 + 1 : Nat) : Int) > 16) = decide ((p :: q :: l).length > 16) := by rw [decide_eq_decide, List.length_cons, List.length_cons]; omega
    simp +contextual (maxSteps := 1000000) only [parsAV, intsV, intsAV, List.map_nil, List.map_cons, List.length_map, Int.zero_add, i5, i6, Bool.false_and, Bool.and_false, go_sem, reduceCtorEq, ↓reduceIte, Nat.reduceAdd, Nat.reduceEqDiff, Nat.reduceLeDiff, Nat.reduceMul, Nat.reduceBEq, Int.reduceBEq, Int.reduceBNe, Int.reduceLT, Int.reduceLE, Int.reduceGT, Int.reduceGE, Int.reduceToNat, Int.natCast_one, Int.natCast_zero, Int.cast_ofNat_Int]
    refine kCond_split (fun h => ?_) (fun h => ?_)
    · simp +contextual (maxSteps := 1000000) only [go_sem, reduceCtorEq, ↓reduceIte, Nat.reduceAdd, Nat.reduceEqDiff, Nat.reduceLeDiff, Nat.reduceMul, Nat.reduceBEq, Int.reduceBEq, Int.reduceBNe, Int.reduceLT, Int.reduceLE, Int.reduceGT, Int.reduceGE, Int.reduceToNat, Int.natCast_one, Int.natCast_zero, Int.cast_ofNat_Int]
      refine no ?_ _ _ _ rfl
      simp only [parsOk, List.length_cons, h, Bool.true_or, Bool.not_true, Bool.false_and]
    · simp +contextual (maxSteps := 1000000) only [go_sem, reduceCtorEq, ↓reduceIte, Nat.reduceAdd, Nat.reduceEqDiff, Nat.reduceLeDiff, Nat.reduceMul, Nat.reduceBEq, Int.reduceBEq, Int.reduceBNe, Int.reduceLT, Int.reduceLE, Int.reduceGT, Int.reduceGE, Int.reduceToNat, Int.natCast_one, Int.natCast_zero, Int.cast_ofNat_Int]
      exact go _ _ rfl h (by simp)
end Go.Proofs.YthmjlngdbabdeaaGreatDoor

/- The reference's layer 3: whether a sequence may be, walked. -/
set_option linter.unusedVariables false
set_option linter.unusedSimpArgs false
set_option maxRecDepth 100000
namespace Go.Proofs.YthmjlngdbabdeaaGreatDoor
open Go Go.Ab
/-- clavier/clavierref03.last -/
def ir_clavierref03last : ICode :=
 (.seq
  (.reg [⟨some 1, none, .box 35 (.t 0)⟩,
    ⟨some 2, none, .mov (.c (.bool false))⟩] (some [1]))
  (.seq
   (.seq
    (.reg [⟨some 4, none, .fa 0 (.t 1)⟩,
      ⟨some 5, none, .ld none (.t 4)⟩] (some [1, 5]))
    (.blk 0
     (.seq
      (.seq
       (.reg [⟨some 7, none, .bin .eql .none (.t 5) (.c (.int .i64 1))⟩,
         ⟨some 6, none, .mov (.t 7)⟩] (some [1, 5, 6]))
       (.cond (.t 6)
        .skip
        (.seq
         (.reg [⟨some 8, none, .bin .eql .none (.t 5) (.c (.int .i64 2))⟩,
           ⟨some 6, none, .mov (.t 8)⟩] (some [1, 5, 6]))
         (.cond (.t 6)
          .skip
          (.reg [⟨some 9, none, .bin .eql .none (.t 5) (.c (.int .i64 3))⟩,
            ⟨some 6, none, .mov (.t 9)⟩] (some [1, 5, 6]))))))
      (.cond (.t 6)
       (.seq
        (.reg [⟨some 10, none, .fa 4 (.t 1)⟩,
          ⟨some 11, none, .ld none (.t 10)⟩,
          ⟨some 12, none, .bin .geq .none (.t 11) (.c (.int .u8 64))⟩,
          ⟨some 13, none, .mov (.t 12)⟩,
          ⟨some 14, some (13, true), .fa 4 (.t 1)⟩,
          ⟨some 15, some (13, true), .ld none (.t 14)⟩,
          ⟨some 16, some (13, true), .bin .leq .none (.t 15) (.c (.int .u8 126))⟩,
          ⟨some 17, none, .pick (.t 13) (.t 16) (.c (.bool false))⟩,
          ⟨some 2, none, .mov (.t 17)⟩] (some [2]))
        .ret)
       (.seq
        (.reg [⟨some 19, none, .bin .eql .none (.t 5) (.c (.int .i64 5))⟩,
          ⟨some 18, none, .mov (.t 19)⟩] (some [1, 18]))
        (.cond (.t 18)
         (.seq
          (.seq
           (.reg [⟨some 20, none, .fa 4 (.t 1)⟩,
             ⟨some 21, none, .ld none (.t 20)⟩,
             ⟨some 22, none, .bin .lss .none (.t 21) (.c (.int .u8 48))⟩,
             ⟨some 23, none, .mov (.t 22)⟩,
             ⟨some 24, some (23, false), .fa 4 (.t 1)⟩,
             ⟨some 25, some (23, false), .ld none (.t 24)⟩,
             ⟨some 26, some (23, false), .bin .gtr .none (.t 25) (.c (.int .u8 126))⟩,
             ⟨some 27, none, .pick (.t 23) (.c (.bool true)) (.t 26)⟩] (some [1, 27]))
           (.cond (.t 27)
            (.seq
             (.reg [⟨some 2, none, .mov (.c (.bool false))⟩] (some [2]))
             .ret)
            .skip))
          (.seq
           (.reg [⟨some 28, none, .fa 4 (.t 1)⟩,
             ⟨some 29, none, .ld none (.t 28)⟩,
             ⟨some 3, none, .mov (.t 29)⟩] (some [1, 3]))
           (.seq
            (.reg [⟨some 30, none, .fa 3 (.t 1)⟩,
              ⟨some 31, none, .ld none (.t 30)⟩,
              ⟨some 32, none, .lns (.t 31)⟩,
              ⟨some 33, none, .bin .gtr .none (.t 32) (.c (.int .i64 0))⟩,
              ⟨some 34, none, .mov (.t 33)⟩,
              ⟨some 35, some (34, false), .mov (.t 3)⟩,
              ⟨some 36, some (34, false), .bin .neq .none (.t 35) (.c (.int .u8 79))⟩,
              ⟨some 37, some (34, false), .mov (.t 36)⟩,
              ⟨some 38, some (37, true), .mov (.t 3)⟩,
              ⟨some 39, some (37, true), .bin .neq .none (.t 38) (.c (.int .u8 80))⟩,
              ⟨some 40, some (34, false), .pick (.t 37) (.t 39) (.c (.bool false))⟩,
              ⟨some 41, some (34, false), .mov (.t 40)⟩,
              ⟨some 42, some (41, true), .mov (.t 3)⟩,
              ⟨some 43, some (41, true), .bin .neq .none (.t 42) (.c (.int .u8 88))⟩,
              ⟨some 44, some (34, false), .pick (.t 41) (.t 43) (.c (.bool false))⟩,
              ⟨some 45, some (34, false), .mov (.t 44)⟩,
              ⟨some 46, some (45, true), .mov (.t 3)⟩,
              ⟨some 47, some (45, true), .bin .neq .none (.t 46) (.c (.int .u8 91))⟩,
              ⟨some 48, some (34, false), .pick (.t 45) (.t 47) (.c (.bool false))⟩,
              ⟨some 49, some (34, false), .mov (.t 48)⟩,
              ⟨some 50, some (49, true), .mov (.t 3)⟩,
              ⟨some 51, some (49, true), .bin .neq .none (.t 50) (.c (.int .u8 93))⟩,
              ⟨some 52, some (34, false), .pick (.t 49) (.t 51) (.c (.bool false))⟩,
              ⟨some 53, some (34, false), .mov (.t 52)⟩,
              ⟨some 54, some (53, true), .mov (.t 3)⟩,
              ⟨some 55, some (53, true), .bin .neq .none (.t 54) (.c (.int .u8 92))⟩,
              ⟨some 56, some (34, false), .pick (.t 53) (.t 55) (.c (.bool false))⟩,
              ⟨some 57, some (34, false), .mov (.t 56)⟩,
              ⟨some 58, some (57, true), .mov (.t 3)⟩,
              ⟨some 59, some (57, true), .bin .neq .none (.t 58) (.c (.int .u8 94))⟩,
              ⟨some 60, some (34, false), .pick (.t 57) (.t 59) (.c (.bool false))⟩,
              ⟨some 61, some (34, false), .mov (.t 60)⟩,
              ⟨some 62, some (61, true), .mov (.t 3)⟩,
              ⟨some 63, some (61, true), .bin .neq .none (.t 62) (.c (.int .u8 95))⟩,
              ⟨some 64, some (34, false), .pick (.t 61) (.t 63) (.c (.bool false))⟩,
              ⟨some 65, none, .pick (.t 34) (.c (.bool true)) (.t 64)⟩,
              ⟨some 2, none, .mov (.t 65)⟩] (some [2]))
            .ret)))
         .skip))))))
   (.seq
    (.reg [⟨some 66, none, .fa 0 (.t 1)⟩,
      ⟨some 67, none, .ld none (.t 66)⟩,
      ⟨some 68, none, .bin .eql .none (.t 67) (.c (.int .i64 4))⟩,
      ⟨some 69, none, .mov (.t 68)⟩,
      ⟨some 70, some (69, true), .fa 4 (.t 1)⟩,
      ⟨some 71, some (69, true), .ld none (.t 70)⟩,
      ⟨some 72, some (69, true), .bin .eql .none (.t 71) (.c (.int .u8 0))⟩,
      ⟨some 73, none, .pick (.t 69) (.t 72) (.c (.bool false))⟩,
      ⟨some 2, none, .mov (.t 73)⟩] (some [2]))
    .ret)))
theorem is_clavierref03last : IrOf Tryz.prog 102 74 ir_clavierref03last [.t 2] := ⟨_, Tryz.func102, rfl, by kernel_rfl, by kernel_rfl, by kernel_rfl⟩

/-- clavier/clavierref03.bare -/
def ir_clavierref03bare : ICode :=
 (.seq
  (.reg [⟨some 1, none, .box 35 (.t 0)⟩,
    ⟨some 2, none, .mov (.c (.bool false))⟩] (some [1]))
  (.seq
   (.reg [⟨some 4, none, .fa 0 (.t 1)⟩,
     ⟨some 5, none, .ld none (.t 4)⟩,
     ⟨some 6, none, .bin .eql .none (.t 5) (.c (.int .i64 2))⟩,
     ⟨some 7, none, .mov (.t 6)⟩,
     ⟨some 8, some (7, false), .fa 0 (.t 1)⟩,
     ⟨some 9, some (7, false), .ld none (.t 8)⟩,
     ⟨some 10, some (7, false), .bin .eql .none (.t 9) (.c (.int .i64 4))⟩,
     ⟨some 11, none, .pick (.t 7) (.c (.bool true)) (.t 10)⟩,
     ⟨some 12, none, .mov (.t 11)⟩,
     ⟨some 13, some (12, false), .fa 0 (.t 1)⟩,
     ⟨some 14, some (12, false), .ld none (.t 13)⟩,
     ⟨some 15, some (12, false), .bin .eql .none (.t 14) (.c (.int .i64 5))⟩,
     ⟨some 16, none, .pick (.t 12) (.c (.bool true)) (.t 15)⟩,
     ⟨some 3, none, .mov (.t 16)⟩] (some [1, 3]))
   (.seq
    (.seq
     (.reg [⟨some 17, none, .mov (.t 3)⟩,
       ⟨some 18, none, .mov (.t 17)⟩,
       ⟨some 19, some (18, true), .fa 1 (.t 1)⟩,
       ⟨some 20, some (18, true), .ld none (.t 19)⟩,
       ⟨some 21, some (18, true), .bin .neq .none (.t 20) (.c (.int .u8 0))⟩,
       ⟨some 22, some (18, true), .mov (.t 21)⟩,
       ⟨some 23, some (22, false), .fa 2 (.t 1)⟩,
       ⟨some 24, some (22, false), .ld none (.t 23)⟩,
       ⟨some 25, some (22, false), .len (.t 24)⟩,
       ⟨some 26, some (22, false), .bin .gtr .none (.t 25) (.c (.int .i64 0))⟩,
       ⟨some 27, some (18, true), .pick (.t 22) (.c (.bool true)) (.t 26)⟩,
       ⟨some 28, none, .pick (.t 18) (.t 27) (.c (.bool false))⟩] (some [1, 28]))
     (.cond (.t 28)
      (.seq
       (.reg [⟨some 2, none, .mov (.c (.bool false))⟩] (some [2]))
       .ret)
      .skip))
    (.seq
     (.seq
      (.reg [⟨some 29, none, .fa 0 (.t 1)⟩,
        ⟨some 30, none, .ld none (.t 29)⟩,
        ⟨some 31, none, .bin .eql .none (.t 30) (.c (.int .i64 2))⟩,
        ⟨some 32, none, .mov (.t 31)⟩,
        ⟨some 33, some (32, false), .fa 0 (.t 1)⟩,
        ⟨some 34, some (32, false), .ld none (.t 33)⟩,
        ⟨some 35, some (32, false), .bin .eql .none (.t 34) (.c (.int .i64 4))⟩,
        ⟨some 36, none, .pick (.t 32) (.c (.bool true)) (.t 35)⟩,
        ⟨some 37, none, .mov (.t 36)⟩,
        ⟨some 38, some (37, true), .fa 3 (.t 1)⟩,
        ⟨some 39, some (37, true), .ld none (.t 38)⟩,
        ⟨some 40, some (37, true), .bin .neq .none (.t 39) (.c (.str []))⟩,
        ⟨some 41, none, .pick (.t 37) (.t 40) (.c (.bool false))⟩] (some [1, 41]))
      (.cond (.t 41)
       (.seq
        (.reg [⟨some 2, none, .mov (.c (.bool false))⟩] (some [2]))
        .ret)
       .skip))
     (.seq
      (.reg [⟨some 42, none, .fa 5 (.t 1)⟩,
        ⟨some 43, none, .ld none (.t 42)⟩,
        ⟨some 44, none, .bin .eql .none (.t 43) (.c (.str []))⟩,
        ⟨some 45, none, .mov (.t 44)⟩,
        ⟨some 46, some (45, false), .fa 0 (.t 1)⟩,
        ⟨some 47, some (45, false), .ld none (.t 46)⟩,
        ⟨some 48, some (45, false), .bin .eql .none (.t 47) (.c (.int .i64 3))⟩,
        ⟨some 49, none, .pick (.t 45) (.c (.bool true)) (.t 48)⟩,
        ⟨some 50, none, .mov (.t 49)⟩,
        ⟨some 51, some (50, false), .fa 0 (.t 1)⟩,
        ⟨some 52, some (50, false), .ld none (.t 51)⟩,
        ⟨some 53, some (50, false), .bin .eql .none (.t 52) (.c (.int .i64 4))⟩,
        ⟨some 54, none, .pick (.t 50) (.c (.bool true)) (.t 53)⟩,
        ⟨some 2, none, .mov (.t 54)⟩] (some [2]))
      .ret)))))
theorem is_clavierref03bare : IrOf Tryz.prog 103 55 ir_clavierref03bare [.t 2] := ⟨_, Tryz.func103, rfl, by kernel_rfl, by kernel_rfl, by kernel_rfl⟩

/-- clavier/clavierref03.May -/
def ir_clavierref03May : ICode :=
 (.seq
  (.reg [⟨some 1, none, .box 35 (.t 0)⟩,
    ⟨some 2, none, .mov (.c (.int .i64 0))⟩] (some [1]))
  (.seq
   (.seq
    (.reg [⟨some 3, none, .fa 5 (.t 1)⟩,
      ⟨some 4, none, .ld none (.t 3)⟩,
      ⟨some 5, none, .lns (.t 4)⟩,
      ⟨some 6, none, .bin .gtr .none (.t 5) (.c (.int .i64 4096))⟩] (some [1, 6]))
    (.cond (.t 6)
     (.seq
      (.reg [⟨some 2, none, .mov (.c (.int .i64 4))⟩] (some [2]))
      .ret)
     .skip))
   (.seq
    (.seq
     (.reg [⟨some 7, none, .fa 1 (.t 1)⟩,
       ⟨some 8, none, .ld none (.t 7)⟩,
       ⟨some 9, none, .bin .neq .none (.t 8) (.c (.int .u8 0))⟩,
       ⟨some 10, none, .mov (.t 9)⟩,
       ⟨some 11, some (10, true), .fa 1 (.t 1)⟩,
       ⟨some 12, some (10, true), .ld none (.t 11)⟩,
       ⟨some 13, some (10, true), .bin .lss .none (.t 12) (.c (.int .u8 60))⟩,
       ⟨some 14, some (10, true), .mov (.t 13)⟩,
       ⟨some 15, some (14, false), .fa 1 (.t 1)⟩,
       ⟨some 16, some (14, false), .ld none (.t 15)⟩,
       ⟨some 17, some (14, false), .bin .gtr .none (.t 16) (.c (.int .u8 63))⟩,
       ⟨some 18, some (10, true), .pick (.t 14) (.c (.bool true)) (.t 17)⟩,
       ⟨some 19, none, .pick (.t 10) (.t 18) (.c (.bool false))⟩,
       ⟨some 20, none, .mov (.t 19)⟩,
       ⟨some 21, some (20, false), .fa 2 (.t 1)⟩,
       ⟨some 22, some (20, false), .ld none (.t 21)⟩,
       ⟨some 23, some (20, false), .call (.c (.fn (.func 100) [] [])) [(.t 22)]⟩,
       ⟨some 24, some (20, false), .un .not (.t 23)⟩,
       ⟨some 25, none, .pick (.t 20) (.c (.bool true)) (.t 24)⟩,
       ⟨some 26, none, .mov (.t 25)⟩,
       ⟨some 27, some (26, false), .fa 3 (.t 1)⟩,
       ⟨some 28, some (26, false), .ld none (.t 27)⟩,
       ⟨some 29, some (26, false), .lns (.t 28)⟩,
       ⟨some 30, some (26, false), .bin .gtr .none (.t 29) (.c (.int .i64 2))⟩,
       ⟨some 31, none, .pick (.t 26) (.c (.bool true)) (.t 30)⟩,
       ⟨some 32, none, .mov (.t 31)⟩,
       ⟨some 33, some (32, false), .fa 3 (.t 1)⟩,
       ⟨some 34, some (32, false), .ld none (.t 33)⟩,
       ⟨some 35, some (32, false), .call (.c (.fn (.func 101) [] [])) [(.t 34), (.c (.int .u8 32)), (.c (.int .u8 47))]⟩,
       ⟨some 36, some (32, false), .un .not (.t 35)⟩,
       ⟨some 37, none, .pick (.t 32) (.c (.bool true)) (.t 36)⟩,
       ⟨some 38, none, .mov (.t 37)⟩,
       ⟨some 39, some (38, false), .fa 5 (.t 1)⟩,
       ⟨some 40, some (38, false), .ld none (.t 39)⟩,
       ⟨some 41, some (38, false), .call (.c (.fn (.func 101) [] [])) [(.t 40), (.c (.int .u8 32)), (.c (.int .u8 126))]⟩,
       ⟨some 42, some (38, false), .un .not (.t 41)⟩,
       ⟨some 43, none, .pick (.t 38) (.c (.bool true)) (.t 42)⟩,
       ⟨some 44, none, .mov (.t 43)⟩,
       ⟨some 45, some (44, false), .ld (some 6) (.t 1)⟩,
       ⟨some 46, some (44, false), .call (.c (.fn (.func 102) [] [])) [(.t 45)]⟩,
       ⟨some 47, some (44, false), .un .not (.t 46)⟩,
       ⟨some 48, none, .pick (.t 44) (.c (.bool true)) (.t 47)⟩,
       ⟨some 49, none, .mov (.t 48)⟩,
       ⟨some 50, some (49, false), .ld (some 6) (.t 1)⟩,
       ⟨some 51, some (49, false), .call (.c (.fn (.func 103) [] [])) [(.t 50)]⟩,
       ⟨some 52, some (49, false), .un .not (.t 51)⟩,
       ⟨some 53, none, .pick (.t 49) (.c (.bool true)) (.t 52)⟩] (some [53]))
     (.cond (.t 53)
      (.seq
       (.reg [⟨some 2, none, .mov (.c (.int .i64 1))⟩] (some [2]))
       .ret)
      .skip))
    (.seq
     (.reg [⟨some 2, none, .mov (.c (.int .i64 0))⟩] (some [2]))
     .ret))))
theorem is_clavierref03May : IrOf Tryz.prog 72 54 ir_clavierref03May [.t 2] := ⟨_, Tryz.func72, rfl, by kernel_rfl, by kernel_rfl, by kernel_rfl⟩


def firstsB (fi : Int) : Bool := fi != 79 && fi != 80 && fi != 88 && fi != 91 && fi != 93 && fi != 92 && fi != 94 && fi != 95
def lastP (s : Sq) : Bool :=
  if (s.k == 1) = true then decide (s.fi ≥ 64) && decide (s.fi ≤ 126)
  else if (s.k == 2) = true then decide (s.fi ≥ 64) && decide (s.fi ≤ 126)
  else if (s.k == 3) = true then decide (s.fi ≥ 64) && decide (s.fi ≤ 126)
  else if (s.k == 5) = true then
    if (decide (s.fi < 48) || decide (s.fi > 126)) = true then false
    else decide ((s.it.length : Int) > 0) || firstsB s.fi
  else s.k == 4 && s.fi == 0
theorem fs_rLast {Gl : Gh → Prop} (hst : Stays Gl) {s : Sq} : FS Tryz.prog Gl 102 [.agg s.c] [] [] (.bool (lastP s)) [] [] := by
  refine FS.of hm hst is_clavierref03last (by simp) fun γ hγ hfr => ?_
  obtain ⟨k, pr, ps, it, fi, da⟩ := s
  simp only [Sq.c, lastP]
  simp only [Sq.c] at hfr
  (generalize hQ : (fun (ex : Ex) (_ _ : Nat) (s : St) => _) = Q; unfold ir_clavierref03last)
  (simp +contextual (maxSteps := 1000000) only [go_sem, reduceCtorEq, ↓reduceIte, Nat.reduceAdd, Nat.reduceEqDiff, Nat.reduceLeDiff, Nat.reduceMul, Nat.reduceBEq, Int.reduceBEq, Int.reduceBNe, Int.reduceLT, Int.reduceLE, Int.reduceGT, Int.reduceGE, Int.reduceToNat, Int.natCast_one, Int.natCast_zero, Int.cast_ofNat_Int]; repeat' first | ((first | refine kCond_split (fun hg => ?_) (fun hg => ?_) | refine kGc_split (fun hg => ?_) (fun hg => ?_) | refine kPreG_split (fun hg => ?_) (fun hg => ?_)) <;> (try rw [hg]) <;> simp +contextual (maxSteps := 1000000) only [go_sem, reduceCtorEq, ↓reduceIte, Nat.reduceAdd, Nat.reduceEqDiff, Nat.reduceLeDiff, Nat.reduceMul, Nat.reduceBEq, Int.reduceBEq, Int.reduceBNe, Int.reduceLT, Int.reduceLE, Int.reduceGT, Int.reduceGE, Int.reduceToNat, Int.natCast_one, Int.natCast_zero, Int.cast_ofNat_Int]) | refine And.intro (by omega) ?_)
  all_goals (rw [← hQ]; clear hQ hfr; refine ⟨trivial, Ret.flat ?_ rfl⟩; first | (simp only [resOf, getAll, IRes.get, lf_cons, lf_nil, ↓reduceIte, Bool.false_eq_true, Option.some.injEq, AV.bool.injEq, AV.int.injEq, AV.tup.injEq, List.cons.injEq, true_and, and_true, firstsB, *]; done) | (simp [resOf, getAll, IRes.get, lf_cons, lf_nil, ↓reduceIte, Bool.false_eq_true, Option.some.injEq, AV.bool.injEq, AV.int.injEq, AV.tup.injEq, List.cons.injEq, true_and, and_true, firstsB, *]; done) | (simp_all [resOf, getAll, IRes.get, lf_cons, lf_nil, ↓reduceIte, Bool.false_eq_true, Option.some.injEq, AV.bool.injEq, AV.int.injEq, AV.tup.injEq, List.cons.injEq, true_and, and_true, firstsB]; done) | (simp_all [resOf, getAll, IRes.get, lf_cons, lf_nil, ↓reduceIte, Bool.false_eq_true, Option.some.injEq, AV.bool.injEq, AV.int.injEq, AV.tup.injEq, List.cons.injEq, true_and, and_true, firstsB]; omega))

def bareP (s : Sq) : Bool :=
  if ((s.k == 2 || s.k == 4 || s.k == 5) && (s.pr != 0 || decide ((s.ps.length : Int) > 0))) = true then false
  else if ((s.k == 2 || s.k == 4) && !decide (s.it = [])) = true then false
  else decide (s.da = []) || s.k == 3 || s.k == 4
theorem fs_rBare {Gl : Gh → Prop} (hst : Stays Gl) {s : Sq} : FS Tryz.prog Gl 103 [.agg s.c] [] [] (.bool (bareP s)) [] [] := by
  refine FS.of hm hst is_clavierref03bare (by simp) fun γ hγ hfr => ?_
  obtain ⟨k, pr, ps, it, fi, da⟩ := s
  simp only [Sq.c, bareP, parsV]
  simp only [Sq.c, parsV] at hfr
  (generalize hQ : (fun (ex : Ex) (_ _ : Nat) (s : St) => _) = Q; unfold ir_clavierref03bare)
  (simp +contextual (maxSteps := 1000000) only [parsAV_length, go_sem, reduceCtorEq, ↓reduceIte, Nat.reduceAdd, Nat.reduceEqDiff, Nat.reduceLeDiff, Nat.reduceMul, Nat.reduceBEq, Int.reduceBEq, Int.reduceBNe, Int.reduceLT, Int.reduceLE, Int.reduceGT, Int.reduceGE, Int.reduceToNat, Int.natCast_one, Int.natCast_zero, Int.cast_ofNat_Int]; repeat' first | ((first | refine kCond_split (fun hg => ?_) (fun hg => ?_) | refine kGc_split (fun hg => ?_) (fun hg => ?_) | refine kPreG_split (fun hg => ?_) (fun hg => ?_)) <;> (try rw [hg]) <;> simp +contextual (maxSteps := 1000000) only [parsAV_length, go_sem, reduceCtorEq, ↓reduceIte, Nat.reduceAdd, Nat.reduceEqDiff, Nat.reduceLeDiff, Nat.reduceMul, Nat.reduceBEq, Int.reduceBEq, Int.reduceBNe, Int.reduceLT, Int.reduceLE, Int.reduceGT, Int.reduceGE, Int.reduceToNat, Int.natCast_one, Int.natCast_zero, Int.cast_ofNat_Int]) | refine And.intro (by omega) ?_)
  all_goals (rw [← hQ]; clear hQ hfr; refine ⟨trivial, Ret.flat ?_ rfl⟩; first | (simp only [resOf, getAll, IRes.get, lf_cons, lf_nil, ↓reduceIte, Bool.false_eq_true, Option.some.injEq, AV.bool.injEq, AV.int.injEq, AV.tup.injEq, List.cons.injEq, true_and, and_true, *]; done) | (simp [resOf, getAll, IRes.get, lf_cons, lf_nil, ↓reduceIte, Bool.false_eq_true, Option.some.injEq, AV.bool.injEq, AV.int.injEq, AV.tup.injEq, List.cons.injEq, true_and, and_true, *]; done) | (simp_all [resOf, getAll, IRes.get, lf_cons, lf_nil, ↓reduceIte, Bool.false_eq_true, Option.some.injEq, AV.bool.injEq, AV.int.injEq, AV.tup.injEq, List.cons.injEq, true_and, and_true]; done) | (simp_all [resOf, getAll, IRes.get, lf_cons, lf_nil, ↓reduceIte, Bool.false_eq_true, Option.some.injEq, AV.bool.injEq, AV.int.injEq, AV.tup.injEq, List.cons.injEq, true_and, and_true]; omega))
theorem firsts_eq {fi : Int} (h0 : 0 ≤ fi) (h1 : fi < 256) : firstsB fi = !([79, 80, 88, 91, 93, 92, 94, 95] : List UInt8).contains fi.toNat.toUInt8 := by
  obtain ⟨c, rfl⟩ : ∃ c : UInt8, fi = (c.toNat : Int) := ⟨UInt8.ofNat fi.toNat, by rw [UInt8.toNat_ofNat', Nat.mod_eq_of_lt (by omega)]; omega⟩
  have e : ((c.toNat : Int).toNat.toUInt8) = c := by simp
  rw [e, Bool.eq_iff_iff]
  simp only [firstsB, List.contains_cons, List.contains_nil, Bool.or_false, Bool.not_eq_true', Bool.or_eq_false_iff, beq_eq_false_iff_ne, ne_eq, ← UInt8.toNat_inj, Bool.and_eq_true, bne_iff_ne, UInt8.reduceToNat]
  omega
theorem may_eq {s : Sq} (h0 : 0 ≤ s.fi) (h1 : s.fi < 256) : (lastP s && bareP s) = shapedP s := by
  obtain ⟨k, pr, ps, it, fi, da⟩ := s
  simp only at h0 h1
  have e := firsts_eq h0 h1
  simp only [lastP, bareP, shapedP, e]
  generalize ([79, 80, 88, 91, 93, 92, 94, 95] : List UInt8).contains fi.toNat.toUInt8 = z
  clear e
  rw [Bool.eq_iff_iff]
  by_cases k1 : k = 1
  · subst k1; simp; grind
  by_cases k2 : k = 2
  · subst k2; simp; grind
  by_cases k3 : k = 3
  · subst k3; simp
  by_cases k4 : k = 4
  · subst k4; simp; grind
  by_cases k5 : k = 5
  · subst k5; simp [List.length_pos_iff]; grind
  · simp [k1, k2, k3, k4, k5]

theorem bool7 : ∀ z1 z2 z3 z4 z5 z6 z7 : Bool, ((!!z1 || !(!z2 && z4) || !z3 || !z5) || !(z6 && z7)) = ((((z1 || !z3 || z2 || !z4) || !z5) || !z6) || !z7) := by decide
theorem fs_rMay {Gl : Gh → Prop} (hst : Stays Gl) {s : Sq} (hf0 : 0 ≤ s.fi) (hf1 : s.fi < 256) (h1 : s.ps.length < 9223372036854775808) (h2 : ∀ p ∈ s.ps, p.length < 9223372036854775808) (h3 : s.it.length < 9223372036854775808) (h4 : s.da.length < 9223372036854775808) :
    FS Tryz.prog Gl 72 [.agg s.c] [] [] (.int .i64 (mayP s)) [] [] := by
  have c1 := fs_rParams hst h1 h2
  have c2 := fs_within hst (x := 32) (y := 47) h3
  have c3 := fs_within hst (x := 32) (y := 126) h4
  have c4 := fs_rLast hst (s := s)
  have c5 := fs_rBare hst (s := s)
  have e := may_eq hf0 hf1
  refine FS.of hm hst is_clavierref03May (by simp) fun γ hγ hfr => ?_
  obtain ⟨k, pr, ps, it, fi, da⟩ := s
  simp only [Sq.c] at *
  (generalize hQ : (fun (ex : Ex) (_ _ : Nat) (s : St) => _) = Q; unfold ir_clavierref03May)
  simp +contextual (maxSteps := 1000000) only [go_sem, reduceCtorEq, ↓reduceIte, Nat.reduceAdd, Nat.reduceEqDiff, Nat.reduceLeDiff, Nat.reduceMul, Nat.reduceBEq, Int.reduceBEq, Int.reduceBNe, Int.reduceLT, Int.reduceLE, Int.reduceGT, Int.reduceGE, Int.reduceToNat, Int.natCast_one, Int.natCast_zero, Int.cast_ofNat_Int]
  refine kCond_split (fun h => ?_) (fun h => ?_)
  · simp +contextual (maxSteps := 1000000) only [go_sem, reduceCtorEq, ↓reduceIte, Nat.reduceAdd, Nat.reduceEqDiff, Nat.reduceLeDiff, Nat.reduceMul, Nat.reduceBEq, Int.reduceBEq, Int.reduceBNe, Int.reduceLT, Int.reduceLE, Int.reduceGT, Int.reduceGE, Int.reduceToNat, Int.natCast_one, Int.natCast_zero, Int.cast_ofNat_Int]
    rw [← hQ]
    refine ⟨trivial, Ret.flat ?_ rfl⟩
    rw [mayP, if_pos h]; rfl
  · simp +contextual (maxSteps := 1000000) only [go_sem, reduceCtorEq, ↓reduceIte, Nat.reduceAdd, Nat.reduceEqDiff, Nat.reduceLeDiff, Nat.reduceMul, Nat.reduceBEq, Int.reduceBEq, Int.reduceBNe, Int.reduceLT, Int.reduceLE, Int.reduceGT, Int.reduceGE, Int.reduceToNat, Int.natCast_one, Int.natCast_zero, Int.cast_ofNat_Int]
    (refine kGc_call (c1) (fun _ => rfl) (fun hgc => ?_) ?_; (focus (first | (rw [Bool.not_eq_true'] at hgc; simp only [List.map_cons, List.map_nil, List.nil_append, List.append_nil, List.cons_append, Xev_t, Xev_c, upd_app, lf_cons, lf_nil, Nat.reduceEqDiff, ↓reduceIte, hgc, Bool.false_eq_true, Bool.true_eq_false, reduceCtorEq]; done) | (simp only [List.map_cons, List.map_nil, List.nil_append, List.append_nil, List.cons_append, Xev_t, Xev_c, upd_app, lf_cons, lf_nil, Nat.reduceEqDiff, ↓reduceIte, hgc, Bool.false_eq_true, Bool.true_eq_false, reduceCtorEq]; done) | (revert hgc; simp +contextual [Xev_t, Xev_c, upd_app, lf_cons, lf_nil]; done) | simp [Xev_t, Xev_c, upd_app, lf_cons, lf_nil])); simp +contextual (maxSteps := 1000000) only [go_sem, reduceCtorEq, ↓reduceIte, Nat.reduceAdd, Nat.reduceEqDiff, Nat.reduceLeDiff, Nat.reduceMul, Nat.reduceBEq, Int.reduceBEq, Int.reduceBNe, Int.reduceLT, Int.reduceLE, Int.reduceGT, Int.reduceGE, Int.reduceToNat, Int.natCast_one, Int.natCast_zero, Int.cast_ofNat_Int])

    (refine kGc_call (c2) (fun _ => rfl) (fun hgc => ?_) ?_; (focus (first | (rw [Bool.not_eq_true'] at hgc; simp only [List.map_cons, List.map_nil, List.nil_append, List.append_nil, List.cons_append, Xev_t, Xev_c, upd_app, lf_cons, lf_nil, Nat.reduceEqDiff, ↓reduceIte, hgc, Bool.false_eq_true, Bool.true_eq_false, reduceCtorEq]; done) | (simp only [List.map_cons, List.map_nil, List.nil_append, List.append_nil, List.cons_append, Xev_t, Xev_c, upd_app, lf_cons, lf_nil, Nat.reduceEqDiff, ↓reduceIte, hgc, Bool.false_eq_true, Bool.true_eq_false, reduceCtorEq]; done) | (revert hgc; simp +contextual [Xev_t, Xev_c, upd_app, lf_cons, lf_nil]; done) | simp [Xev_t, Xev_c, upd_app, lf_cons, lf_nil])); simp +contextual (maxSteps := 1000000) only [go_sem, reduceCtorEq, ↓reduceIte, Nat.reduceAdd, Nat.reduceEqDiff, Nat.reduceLeDiff, Nat.reduceMul, Nat.reduceBEq, Int.reduceBEq, Int.reduceBNe, Int.reduceLT, Int.reduceLE, Int.reduceGT, Int.reduceGE, Int.reduceToNat, Int.natCast_one, Int.natCast_zero, Int.cast_ofNat_Int])
    (refine kGc_call (c3) (fun _ => rfl) (fun hgc => ?_) ?_; (focus (first | (rw [Bool.not_eq_true'] at hgc; simp only [List.map_cons, List.map_nil, List.nil_append, List.append_nil, List.cons_append, Xev_t, Xev_c, upd_app, lf_cons, lf_nil, Nat.reduceEqDiff, ↓reduceIte, hgc, Bool.false_eq_true, Bool.true_eq_false, reduceCtorEq]; done) | (simp only [List.map_cons, List.map_nil, List.nil_append, List.append_nil, List.cons_append, Xev_t, Xev_c, upd_app, lf_cons, lf_nil, Nat.reduceEqDiff, ↓reduceIte, hgc, Bool.false_eq_true, Bool.true_eq_false, reduceCtorEq]; done) | (revert hgc; simp +contextual [Xev_t, Xev_c, upd_app, lf_cons, lf_nil]; done) | simp [Xev_t, Xev_c, upd_app, lf_cons, lf_nil])); simp +contextual (maxSteps := 1000000) only [go_sem, reduceCtorEq, ↓reduceIte, Nat.reduceAdd, Nat.reduceEqDiff, Nat.reduceLeDiff, Nat.reduceMul, Nat.reduceBEq, Int.reduceBEq, Int.reduceBNe, Int.reduceLT, Int.reduceLE, Int.reduceGT, Int.reduceGE, Int.reduceToNat, Int.natCast_one, Int.natCast_zero, Int.cast_ofNat_Int])
    (refine kGc_call (c4) (fun _ => rfl) (fun hgc => ?_) ?_; (focus (first | (rw [Bool.not_eq_true'] at hgc; simp only [List.map_cons, List.map_nil, List.nil_append, List.append_nil, List.cons_append, Xev_t, Xev_c, upd_app, lf_cons, lf_nil, Nat.reduceEqDiff, ↓reduceIte, hgc, Bool.false_eq_true, Bool.true_eq_false, reduceCtorEq]; done) | (simp only [List.map_cons, List.map_nil, List.nil_append, List.append_nil, List.cons_append, Xev_t, Xev_c, upd_app, lf_cons, lf_nil, Nat.reduceEqDiff, ↓reduceIte, hgc, Bool.false_eq_true, Bool.true_eq_false, reduceCtorEq]; done) | (revert hgc; simp +contextual [Xev_t, Xev_c, upd_app, lf_cons, lf_nil]; done) | simp [Xev_t, Xev_c, upd_app, lf_cons, lf_nil])); simp +contextual (maxSteps := 1000000) only [go_sem, reduceCtorEq, ↓reduceIte, Nat.reduceAdd, Nat.reduceEqDiff, Nat.reduceLeDiff, Nat.reduceMul, Nat.reduceBEq, Int.reduceBEq, Int.reduceBNe, Int.reduceLT, Int.reduceLE, Int.reduceGT, Int.reduceGE, Int.reduceToNat, Int.natCast_one, Int.natCast_zero, Int.cast_ofNat_Int])
    (refine kGc_call (c5) (fun _ => rfl) (fun hgc => ?_) ?_; (focus (first | (rw [Bool.not_eq_true'] at hgc; simp only [List.map_cons, List.map_nil, List.nil_append, List.append_nil, List.cons_append, Xev_t, Xev_c, upd_app, lf_cons, lf_nil, Nat.reduceEqDiff, ↓reduceIte, hgc, Bool.false_eq_true, Bool.true_eq_false, reduceCtorEq]; done) | (simp only [List.map_cons, List.map_nil, List.nil_append, List.append_nil, List.cons_append, Xev_t, Xev_c, upd_app, lf_cons, lf_nil, Nat.reduceEqDiff, ↓reduceIte, hgc, Bool.false_eq_true, Bool.true_eq_false, reduceCtorEq]; done) | (revert hgc; simp +contextual [Xev_t, Xev_c, upd_app, lf_cons, lf_nil]; done) | simp [Xev_t, Xev_c, upd_app, lf_cons, lf_nil])); simp +contextual (maxSteps := 1000000) only [go_sem, reduceCtorEq, ↓reduceIte, Nat.reduceAdd, Nat.reduceEqDiff, Nat.reduceLeDiff, Nat.reduceMul, Nat.reduceBEq, Int.reduceBEq, Int.reduceBNe, Int.reduceLT, Int.reduceLE, Int.reduceGT, Int.reduceGE, Int.reduceToNat, Int.natCast_one, Int.natCast_zero, Int.cast_ofNat_Int])
    have q1 : (pr == 0 || (decide (pr ≥ 60) && decide (pr ≤ 63))) = !(pr != 0 && (decide (pr < 60) || decide (pr > 63))) := by
      rw [Bool.eq_iff_iff]; simp <;> omega
    have q2 : decide ((it.length : Int) ≤ 2) = !decide ((it.length : Int) > 2) := by rw [Bool.eq_iff_iff]; simp
    have em : mayP ⟨k, pr, ps, it, fi, da⟩ = if (((pr != 0 && (decide (pr < 60) || decide (pr > 63)) || !parsOk ps || decide ((it.length : Int) > 2) || !it.all fun c => decide (32 ≤ (c.toNat : Int)) && decide ((c.toNat : Int) ≤ 47)) || !da.all fun c => decide (32 ≤ (c.toNat : Int)) && decide ((c.toNat : Int) ≤ 126)) || !lastP ⟨k, pr, ps, it, fi, da⟩ || !bareP ⟨k, pr, ps, it, fi, da⟩) = true then 1 else 0 := by
      simp only [mayP]
      rw [h, ← e, q1, q2]
      simp only [within, Bool.false_eq_true, if_false]
      exact congrArg (fun b : Bool => if b = true then (1 : Int) else 0) (bool7 _ _ _ _ _ _ _)
    rw [em] at hQ
    refine kCond_split (fun h' => ?_) (fun h' => ?_)
    · simp +contextual (maxSteps := 1000000) only [go_sem, reduceCtorEq, ↓reduceIte, Nat.reduceAdd, Nat.reduceEqDiff, Nat.reduceLeDiff, Nat.reduceMul, Nat.reduceBEq, Int.reduceBEq, Int.reduceBNe, Int.reduceLT, Int.reduceLE, Int.reduceGT, Int.reduceGE, Int.reduceToNat, Int.natCast_one, Int.natCast_zero, Int.cast_ofNat_Int]
      rw [← hQ]
      exact ⟨trivial, Ret.flat (by rw [if_pos h']; rfl) (by split <;> rfl)⟩
    · simp +contextual (maxSteps := 1000000) only [go_sem, reduceCtorEq, ↓reduceIte, Nat.reduceAdd, Nat.reduceEqDiff, Nat.reduceLeDiff, Nat.reduceMul, Nat.reduceBEq, Int.reduceBEq, Int.reduceBNe, Int.reduceLT, Int.reduceLE, Int.reduceGT, Int.reduceGE, Int.reduceToNat, Int.natCast_one, Int.natCast_zero, Int.cast_ofNat_Int]
      rw [← hQ]
      exact ⟨trivial, Ret.flat (by rw [if_neg (by rw [h']; exact Bool.false_ne_true)]; rfl) (by split <;> rfl)⟩
end Go.Proofs.YthmjlngdbabdeaaGreatDoor

/- The reference's layer 3: a sequence as bytes, walked. -/
set_option linter.unusedVariables false
set_option linter.unusedSimpArgs false
set_option maxRecDepth 100000
namespace Go.Proofs.YthmjlngdbabdeaaGreatDoor
open Go Go.Ab
/- clavier/clavierref03.body -/
def ir_clavierref03body_l0 : ICode :=
 (.seq
                (.seq
                 (.reg [⟨some 24, none, .mov (.t 5)⟩,
                   ⟨some 25, none, .fa 2 (.t 1)⟩,
                   ⟨some 26, none, .ld none (.t 25)⟩,
                   ⟨some 27, none, .mov (.t 4)⟩,
                   ⟨some 28, none, .ia 1 (.t 26) (.t 27)⟩,
                   ⟨some 29, none, .ld none (.t 28)⟩,
                   ⟨some 30, none, .len (.t 29)⟩,
                   ⟨some 31, none, .bin .lss .none (.t 24) (.t 30)⟩] (some [1, 3, 4, 5, 31]))
                 (.cond (.t 31)
                  .skip
                  (.exit 2)))
                (.seq
                 (.blk 3
                  (.seq
                   (.seq
                    (.reg [⟨some 34, none, .mov (.t 5)⟩,
                      ⟨some 35, none, .bin .gtr .none (.t 34) (.c (.int .i64 0))⟩] (some [1, 3, 4, 5, 35]))
                    (.cond (.t 35)
                     (.reg [⟨some 36, none, .mov (.t 3)⟩,
                       ⟨some 37, none, .bin .add .none (.t 36) (.c (.str [58]))⟩,
                       ⟨some 3, none, .mov (.t 37)⟩] (some [1, 3, 4, 5]))
                     .skip))
                   (.reg [⟨some 38, none, .mov (.t 3)⟩,
                     ⟨some 39, none, .fa 2 (.t 1)⟩,
                     ⟨some 40, none, .ld none (.t 39)⟩,
                     ⟨some 41, none, .mov (.t 4)⟩,
                     ⟨some 42, none, .ia 1 (.t 40) (.t 41)⟩,
                     ⟨some 43, none, .ld none (.t 42)⟩,
                     ⟨some 44, none, .mov (.t 5)⟩,
                     ⟨some 45, none, .ia 1 (.t 43) (.t 44)⟩,
                     ⟨some 46, none, .ld none (.t 45)⟩,
                     ⟨some 47, none, .call (.c (.fn (.func 104) [] [])) [(.t 46)]⟩,
                     ⟨some 48, none, .bin .add .none (.t 38) (.t 47)⟩,
                     ⟨some 3, none, .mov (.t 48)⟩] (some [1, 3, 4, 5]))))
                 (.reg [⟨some 32, none, .mov (.t 5)⟩,
                   ⟨some 33, none, .bin .add .none (.t 32) (.c (.int .i64 1))⟩,
                   ⟨some 5, none, .mov (.t 33)⟩] (some [1, 3, 4, 5]))))
def ir_clavierref03body_l1 : ICode :=
 (.seq
         (.seq
          (.reg [⟨some 13, none, .mov (.t 4)⟩,
            ⟨some 14, none, .fa 2 (.t 1)⟩,
            ⟨some 15, none, .ld none (.t 14)⟩,
            ⟨some 16, none, .len (.t 15)⟩,
            ⟨some 17, none, .bin .lss .none (.t 13) (.t 16)⟩] (some [1, 3, 4, 17]))
          (.cond (.t 17)
           .skip
           (.exit 0)))
         (.seq
          (.blk 1
           (.seq
            (.seq
             (.reg [⟨some 20, none, .mov (.t 4)⟩,
               ⟨some 21, none, .bin .gtr .none (.t 20) (.c (.int .i64 0))⟩] (some [1, 3, 4, 21]))
             (.cond (.t 21)
              (.reg [⟨some 22, none, .mov (.t 3)⟩,
                ⟨some 23, none, .bin .add .none (.t 22) (.c (.str [59]))⟩,
                ⟨some 3, none, .mov (.t 23)⟩] (some [1, 3, 4]))
              .skip))
            (.seq
             (.reg [⟨some 5, none, .mov (.c (.int .i64 0))⟩] (some [1, 3, 4, 5]))
             (.blk 2
              (.loop
               ir_clavierref03body_l0)))))
          (.reg [⟨some 18, none, .mov (.t 4)⟩,
            ⟨some 19, none, .bin .add .none (.t 18) (.c (.int .i64 1))⟩,
            ⟨some 4, none, .mov (.t 19)⟩] (some [1, 3, 4]))))
def ir_clavierref03body_t4 : ICode :=
 (.seq
  (.reg [⟨some 49, none, .mov (.t 3)⟩,
        ⟨some 50, none, .fa 3 (.t 1)⟩,
        ⟨some 51, none, .ld none (.t 50)⟩,
        ⟨some 52, none, .bin .add .none (.t 49) (.t 51)⟩,
        ⟨some 2, none, .mov (.t 52)⟩] (some [2]))
  .ret)
def ir_clavierref03body_t3 : ICode :=
 (.seq
  (.seq
      (.reg [⟨some 4, none, .mov (.c (.int .i64 0))⟩] (some [1, 3, 4]))
      (.blk 0
       (.loop
        ir_clavierref03body_l1)))
  ir_clavierref03body_t4)
def ir_clavierref03body_t2 : ICode :=
 (.seq
  (.seq
     (.reg [⟨some 6, none, .fa 1 (.t 1)⟩,
       ⟨some 7, none, .ld none (.t 6)⟩,
       ⟨some 8, none, .bin .neq .none (.t 7) (.c (.int .u8 0))⟩] (some [1, 3, 8]))
     (.cond (.t 8)
      (.reg [⟨some 9, none, .fa 1 (.t 1)⟩,
        ⟨some 10, none, .ld none (.t 9)⟩,
        ⟨some 11, none, .row 5 1 [(.t 10)]⟩,
        ⟨some 12, none, .b2s (.t 11)⟩,
        ⟨some 3, none, .mov (.t 12)⟩] (some [1, 3]))
      .skip))
  ir_clavierref03body_t3)
def ir_clavierref03body_t1 : ICode :=
 (.seq
  (.reg [⟨some 3, none, .mov (.c (.str []))⟩] (some [1, 3]))
  ir_clavierref03body_t2)
def ir_clavierref03body : ICode :=
 (.seq
  (.reg [⟨some 1, none, .box 35 (.t 0)⟩,
    ⟨some 2, none, .mov (.c (.str []))⟩] (some [1]))
  ir_clavierref03body_t1)
theorem is_clavierref03body : IrOf Tryz.prog 73 53 ir_clavierref03body [.t 2] := ⟨_, Tryz.func73, rfl, by kernel_rfl, by kernel_rfl, by kernel_rfl⟩


def prB (pr : Int) : List UInt8 := if (pr != 0) = true then [pr.toNat.toUInt8] else []
def bodyB (s : Sq) : List UInt8 := prB s.pr ++ parsText s.ps ++ s.it
theorem byteOf {n : Int} (h0 : 0 ≤ n) (h1 : n < 256) : ∃ c : UInt8, n = (c.toNat : Int) := ⟨UInt8.ofNat n.toNat, by rw [UInt8.toNat_ofNat', Nat.mod_eq_of_lt (by omega)]; omega⟩
theorem subText_len {p : List Int} (h : ∀ n ∈ p, n ≤ 1114111) : (subText p).length ≤ 20 * p.length := by
  induction p with
  | nil => simp [subText, jn]
  | cons n p ih =>
    have h1 : (textZ n).length ≤ 19 := by
      unfold textZ
      split
      · simp
      · exact decB_len20 (by have := h n (by simp); omega)
    cases p with
    | nil => simp [subText, jn]; omega
    | cons m p =>
      have := ih fun x hx => h x (by simp at hx ⊢; exact .inr hx)
      simp only [subText, List.map_cons] at this ⊢
      rw [jn_cons (by simp)]
      simp only [List.length_append, List.length_cons] at this ⊢; omega
theorem parsText_len {ps : List (List Int)} (h : ∀ p ∈ ps, p.length ≤ 8 ∧ ∀ n ∈ p, n ≤ 1114111) : (parsText ps).length ≤ 161 * ps.length := by
  induction ps with
  | nil => simp [parsText, jn]
  | cons n p ih =>
    have h1 := subText_len (h n (by simp)).2
    have h2 := (h n (by simp)).1
    cases p with
    | nil => simp [parsText, jn]; omega
    | cons m p =>
      have := ih fun x hx => h x (by simp at hx ⊢; exact .inr hx)
      simp only [parsText, List.map_cons] at this ⊢
      rw [jn_cons (by simp)]
      simp only [List.length_append, List.length_cons] at this ⊢; omega

/-- The text up to a parameter's part. -/
def upSub (p : List Int) (k : Nat) : List UInt8 := subText (p.take k)
def upPar (ps : List (List Int)) (i : Nat) : List UInt8 := parsText (ps.take i)
theorem upSub_succ {p : List Int} {k : Nat} (h : k < p.length) : upSub p (k + 1) = (if k = 0 then [] else upSub p k ++ [58]) ++ textZ p[k] := by
  unfold upSub subText
  rw [List.take_add_one, List.getElem?_eq_getElem h]
  by_cases hk : k = 0
  · subst hk; simp [jn]
  · have hne : (p.take k).map textZ ≠ [] := by simp; exact ⟨hk, fun e => by subst e; simp at h⟩
    rw [if_neg hk]
    simp only [Option.toList_some, List.map_append, List.map_cons, List.map_nil]
    rw [jn_snoc hne]; simp
theorem upPar_succ {ps : List (List Int)} {i : Nat} (h : i < ps.length) : upPar ps (i + 1) = (if i = 0 then [] else upPar ps i ++ [59]) ++ subText ps[i] := by
  unfold upPar parsText
  rw [List.take_add_one, List.getElem?_eq_getElem h]
  by_cases hk : i = 0
  · subst hk; simp [jn]
  · have hne : (ps.take i).map subText ≠ [] := by simp; exact ⟨hk, fun e => by subst e; simp at h⟩
    rw [if_neg hk]
    simp only [Option.toList_some, List.map_append, List.map_cons, List.map_nil]
    rw [jn_snoc hne]; simp
set_option maxHeartbeats 1000000 in
theorem fs_rBody {Gl : Gh → Prop} (hst : Stays Gl) {s : Sq} (hp0 : 0 ≤ s.pr) (hp1 : s.pr < 256) (hit : s.it.length ≤ 1000) (hn : s.ps.length ≤ 16) (hb : ∀ p ∈ s.ps, p.length ≤ 8 ∧ ∀ n ∈ p, n ≤ 1114111) : FS Tryz.prog Gl 73 [.agg s.c] [] [] (.str (bodyB s)) [] [] := by
  refine FS.of hm hst is_clavierref03body (by simp) fun γ hγ hfr => ?_
  obtain ⟨k, pr, ps, it, fi, da⟩ := s
  simp only at hp0 hp1 hit hn hb
  simp only [Sq.c, bodyB, parsV]
  simp only [Sq.c, parsV] at hfr
  obtain ⟨c, rfl⟩ := byteOf hp0 hp1
  (generalize hQ : (fun (ex : Ex) (_ _ : Nat) (s : St) => _) = Q; unfold ir_clavierref03body)
  simp +contextual (maxSteps := 1000000) only [go_sem, reduceCtorEq, ↓reduceIte, Nat.reduceAdd, Nat.reduceEqDiff, Nat.reduceLeDiff, Nat.reduceMul, Nat.reduceBEq, Int.reduceBEq, Int.reduceBNe, Int.reduceLT, Int.reduceLE, Int.reduceGT, Int.reduceGE, Int.reduceToNat, Int.natCast_one, Int.natCast_zero, Int.cast_ofNat_Int]
  unfold ir_clavierref03body_t1
  simp +contextual (maxSteps := 1000000) only [go_sem, reduceCtorEq, ↓reduceIte, Nat.reduceAdd, Nat.reduceEqDiff, Nat.reduceLeDiff, Nat.reduceMul, Nat.reduceBEq, Int.reduceBEq, Int.reduceBNe, Int.reduceLT, Int.reduceLE, Int.reduceGT, Int.reduceGE, Int.reduceToNat, Int.natCast_one, Int.natCast_zero, Int.cast_ofNat_Int]
  unfold ir_clavierref03body_t2
  simp +contextual (maxSteps := 1000000) only [go_sem, reduceCtorEq, ↓reduceIte, Nat.reduceAdd, Nat.reduceEqDiff, Nat.reduceLeDiff, Nat.reduceMul, Nat.reduceBEq, Int.reduceBEq, Int.reduceBNe, Int.reduceLT, Int.reduceLE, Int.reduceGT, Int.reduceGE, Int.reduceToNat, Int.natCast_one, Int.natCast_zero, Int.cast_ofNat_Int]
  have hps : ∀ i, (upPar ps i).length ≤ 161 * 16 := fun i => by
    have := parsText_len (ps := ps.take i) fun p hp => hb p (List.mem_of_mem_take hp)
    have h2 : (ps.take i).length ≤ 16 := by rw [List.length_take]; omega
    unfold upPar; omega
  have hprl : (prB (c.toNat : Int)).length ≤ 1 := by unfold prB; split <;> simp
  have loop : ∀ F c0 t T, t = prB (c.toNat : Int) → F 1 = .ptr (γ, 0, 0) 0 → F 3 = .str t → aw Tryz.prog Gl ir_clavierref03body_t3 γ c0 ⟨F, [((γ, 0, 0), .cells [.int .i64 k, .int .u8 (c.toNat : Int), .sl none 1 (parsAV ps), .str it, .int .u8 fi, .str da])], T⟩ Q := by
    intro F c0 t T ht f1 f3
    subst ht
    unfold ir_clavierref03body_t3
    simp +contextual (maxSteps := 1000000) only [f1, f3, go_sem, reduceCtorEq, ↓reduceIte, Nat.reduceAdd, Nat.reduceEqDiff, Nat.reduceLeDiff, Nat.reduceMul, Nat.reduceBEq, Int.reduceBEq, Int.reduceBNe, Int.reduceLT, Int.reduceLE, Int.reduceGT, Int.reduceGE, Int.reduceToNat, Int.natCast_one, Int.natCast_zero, Int.cast_ofNat_Int]
    refine kLoop_ix (fun i : Nat => ⟨lf [(1, .ptr (γ, 0, 0) 0), (3, .str (prB (c.toNat : Int) ++ upPar ps i)), (4, .int .i64 i)], [((γ, 0, 0), .cells [.int .i64 k, .int .u8 (c.toNat : Int), .sl none 1 (parsAV ps), .str it, .int .u8 fi, .str da])], fun x => x ∈ []⟩) (fun i => i ≤ ps.length) (fun i => ps.length - i) 0 0 (Wk.perm' ?_ (fun _ h => h) (fun _ h => by cases h)) (by simp) ?_
    · simp only [upPar, parsText, List.take_zero, List.map_nil, jn, List.append_nil]
      (simp only [lfOK, upd, initF]; repeat' first | exact AVle.refl _ _ | exact trivial | refine And.intro ?_ ?_ | exact AVle.int (by simp only [IntKind.wrap_i64]; omega))
    rintro γ' i hf hi
    generalize hQ' : kIt _ _ _ _ _ = Q'
    unfold ir_clavierref03body_l1
    by_cases hlt : i < ps.length
    · have hd : decide ((i : Int) < (ps.length : Int)) = true := by simp; omega
      have hg1 : (parsAV ps).getD i [] = [intsV ps[i]] := parsAV_get hlt
      have hpl := hb _ (List.getElem_mem hlt)
      have hw : IntKind.i64.wrap ((i : Int) + 1) = ((i + 1 : Nat) : Int) := by rw [IntKind.wrap_i64]; omega
      have hup := upPar_succ hlt
      have hi0 : decide ((i : Int) > 0) = !decide (i = 0) := by rw [Bool.eq_iff_iff]; simp; omega
      have hpi := hps i
      generalize ps[i] = p at hg1 hpl hup
      simp +contextual (maxSteps := 1000000) only [hd, hg1, parsAV_length, Int.toNat_natCast, hi0, go_sem, reduceCtorEq, ↓reduceIte, Nat.reduceAdd, Nat.reduceEqDiff, Nat.reduceLeDiff, Nat.reduceMul, Nat.reduceBEq, Int.reduceBEq, Int.reduceBNe, Int.reduceLT, Int.reduceLE, Int.reduceGT, Int.reduceGE, Int.reduceToNat, Int.natCast_one, Int.natCast_zero, Int.cast_ofNat_Int]
      refine kCond_join (fun _ s' => s'.F 1 = .ptr (γ, 0, 0) 0 ∧ s'.F 3 = .str (prB (c.toNat : Int) ++ if i = 0 then [] else upPar ps i ++ [59]) ∧ s'.F 4 = .int .i64 i ∧ s'.H = [((γ, 0, 0), .cells [.int .i64 k, .int .u8 (c.toNat : Int), .sl none 1 (parsAV ps), .str it, .int .u8 fi, .str da])] ∧ s'.T = fun x => x ∈ []) (fun h => ?_) (fun h => ?_) fun c1 s' hs => ?_
      · simp +contextual (maxSteps := 1000000) only [go_sem, reduceCtorEq, ↓reduceIte, Nat.reduceAdd, Nat.reduceEqDiff, Nat.reduceLeDiff, Nat.reduceMul, Nat.reduceBEq, Int.reduceBEq, Int.reduceBNe, Int.reduceLT, Int.reduceLE, Int.reduceGT, Int.reduceGE, Int.reduceToNat, Int.natCast_one, Int.natCast_zero, Int.cast_ofNat_Int]
        have h0 : i ≠ 0 := by simpa using h
        refine ⟨by simp only [List.length_append]; omega, ?_⟩
        simp only [if_neg h0, List.append_assoc]
      · simp +contextual (maxSteps := 1000000) only [go_sem, reduceCtorEq, ↓reduceIte, Nat.reduceAdd, Nat.reduceEqDiff, Nat.reduceLeDiff, Nat.reduceMul, Nat.reduceBEq, Int.reduceBEq, Int.reduceBNe, Int.reduceLT, Int.reduceLE, Int.reduceGT, Int.reduceGE, Int.reduceToNat, Int.natCast_one, Int.natCast_zero, Int.cast_ofNat_Int]
        have h0 : i = 0 := by simpa using h
        subst h0
        simp [upPar, parsText, jn]
      obtain ⟨F, H, T⟩ := s'
      simp only at hs
      obtain ⟨f1, f3, f4, rfl, rfl⟩ := hs
      simp +contextual (maxSteps := 1000000) only [f1, f3, f4, go_sem, reduceCtorEq, ↓reduceIte, Nat.reduceAdd, Nat.reduceEqDiff, Nat.reduceLeDiff, Nat.reduceMul, Nat.reduceBEq, Int.reduceBEq, Int.reduceBNe, Int.reduceLT, Int.reduceLE, Int.reduceGT, Int.reduceGE, Int.reduceToNat, Int.natCast_one, Int.natCast_zero, Int.cast_ofNat_Int]
      obtain ⟨B, hB⟩ : ∃ B, B = prB (c.toNat : Int) ++ if i = 0 then [] else upPar ps i ++ [59] := ⟨_, rfl⟩
      have hBl : B.length ≤ 5000 := by
        rw [hB]; split
        · simp; omega
        · simp; omega
      rw [← hB]
      have hsub : ∀ k, (upSub p k).length ≤ 160 := fun k => by
        have h1 := subText_len (p := p.take k) fun n hn => hpl.2 n (List.mem_of_mem_take hn)
        have h2 : (p.take k).length ≤ 8 := by rw [List.length_take]; omega
        unfold upSub; omega
      have hfin : prB (c.toNat : Int) ++ upPar ps (i + 1) = B ++ subText p := by rw [hup, hB, List.append_assoc]
      refine kLoop_ix (fun k2 : Nat => ⟨lf [(1, .ptr (γ, 0, 0) 0), (3, .str (B ++ upSub p k2)), (4, .int .i64 i), (5, .int .i64 k2)], [((γ, 0, 0), .cells [.int .i64 k, .int .u8 (c.toNat : Int), .sl none 1 (parsAV ps), .str it, .int .u8 fi, .str da])], fun x => x ∈ []⟩) (fun k2 => k2 ≤ p.length) (fun k2 => p.length - k2) 0 0 (Wk.same ?_) (by simp) ?_
      · simp only [upSub, subText, List.take_zero, List.map_nil, jn, List.append_nil]
        (simp only [lfOK, upd, initF]; repeat' first | exact AVle.refl _ _ | exact trivial | refine And.intro ?_ ?_ | exact AVle.int (by simp only [IntKind.wrap_i64]; omega))
      rintro γ2 k2 hf2 hk2
      generalize hQ2 : kIt _ _ _ _ _ = Q2
      unfold ir_clavierref03body_l0
      by_cases hlt2 : k2 < p.length
      · have hd2 : decide ((k2 : Int) < (p.length : Int)) = true := by simp; omega
        have hg2 : (intsAV p).getD k2 [] = [.int .i64 p[k2]] := intsAV_get hlt2
        have hw2 : IntKind.i64.wrap ((k2 : Int) + 1) = ((k2 + 1 : Nat) : Int) := by rw [IntKind.wrap_i64]; omega
        have hus := upSub_succ hlt2
        have hk0 : decide ((k2 : Int) > 0) = !decide (k2 = 0) := by rw [Bool.eq_iff_iff]; simp; omega
        have hx := hpl.2 _ (List.getElem_mem hlt2)
        have hsk := hsub k2
        generalize p[k2] = x at hg2 hus hx
        simp +contextual (maxSteps := 1000000) only [hd2, hg1, hg2, parsAV_length, Int.toNat_natCast, intsV, intsAV_length, hk0, go_sem, reduceCtorEq, ↓reduceIte, Nat.reduceAdd, Nat.reduceEqDiff, Nat.reduceLeDiff, Nat.reduceMul, Nat.reduceBEq, Int.reduceBEq, Int.reduceBNe, Int.reduceLT, Int.reduceLE, Int.reduceGT, Int.reduceGE, Int.reduceToNat, Int.natCast_one, Int.natCast_zero, Int.cast_ofNat_Int]
        refine ⟨by omega, ?_⟩
        refine kCond_join (fun _ s' => s'.F 1 = .ptr (γ, 0, 0) 0 ∧ s'.F 3 = .str (B ++ if k2 = 0 then [] else upSub p k2 ++ [58]) ∧ s'.F 4 = .int .i64 i ∧ s'.F 5 = .int .i64 k2 ∧ s'.H = [((γ, 0, 0), .cells [.int .i64 k, .int .u8 (c.toNat : Int), .sl none 1 (parsAV ps), .str it, .int .u8 fi, .str da])] ∧ s'.T = fun x => x ∈ []) (fun h => ?_) (fun h => ?_) fun c1 s' hs => ?_
        · simp +contextual (maxSteps := 1000000) only [go_sem, reduceCtorEq, ↓reduceIte, Nat.reduceAdd, Nat.reduceEqDiff, Nat.reduceLeDiff, Nat.reduceMul, Nat.reduceBEq, Int.reduceBEq, Int.reduceBNe, Int.reduceLT, Int.reduceLE, Int.reduceGT, Int.reduceGE, Int.reduceToNat, Int.natCast_one, Int.natCast_zero, Int.cast_ofNat_Int]
          have h0 : k2 ≠ 0 := by simpa using h
          refine ⟨by simp only [List.length_append]; omega, ?_⟩
          simp only [if_neg h0, List.append_assoc]
        · simp +contextual (maxSteps := 1000000) only [go_sem, reduceCtorEq, ↓reduceIte, Nat.reduceAdd, Nat.reduceEqDiff, Nat.reduceLeDiff, Nat.reduceMul, Nat.reduceBEq, Int.reduceBEq, Int.reduceBNe, Int.reduceLT, Int.reduceLE, Int.reduceGT, Int.reduceGE, Int.reduceToNat, Int.natCast_one, Int.natCast_zero, Int.cast_ofNat_Int]
          have h0 : k2 = 0 := by simpa using h
          subst h0
          simp [upSub, subText, jn]
        obtain ⟨F, H, T⟩ := s'
        simp only at hs
        obtain ⟨f1, f3, f4, f5, rfl, rfl⟩ := hs
        simp +contextual (maxSteps := 1000000) only [f1, f3, f4, f5, hg1, hg2, parsAV_length, Int.toNat_natCast, intsV, intsAV_length, go_sem, reduceCtorEq, ↓reduceIte, Nat.reduceAdd, Nat.reduceEqDiff, Nat.reduceLeDiff, Nat.reduceMul, Nat.reduceBEq, Int.reduceBEq, Int.reduceBNe, Int.reduceLT, Int.reduceLE, Int.reduceGT, Int.reduceGE, Int.reduceToNat, Int.natCast_one, Int.natCast_zero, Int.cast_ofNat_Int]
        refine ⟨by omega, by omega, ?_⟩
        refine CallP.pure (fs_rText hst (by omega)) (fun _ => rfl) ?_
        have hxl : (textZ x).length ≤ 19 := by
          unfold textZ; split
          · simp
          · exact decB_len20 (by omega)
        have hBk : (B ++ if k2 = 0 then [] else upSub p k2 ++ [58]).length ≤ 6000 := by
          split
          · simp; omega
          · simp; omega
        simp +contextual (maxSteps := 1000000) only [hw2, f1, f3, f4, f5, go_sem, reduceCtorEq, ↓reduceIte, Nat.reduceAdd, Nat.reduceEqDiff, Nat.reduceLeDiff, Nat.reduceMul, Nat.reduceBEq, Int.reduceBEq, Int.reduceBNe, Int.reduceLT, Int.reduceLE, Int.reduceGT, Int.reduceGE, Int.reduceToNat, Int.natCast_one, Int.natCast_zero, Int.cast_ofNat_Int]
        refine ⟨by simp only [List.length_append] at hBk ⊢; omega, ?_⟩
        rw [← hQ2]
        simp only [w_kIt_n]
        refine ⟨0, k2 + 1, Wk.same ?_, by omega, by omega⟩
        refine ⟨AVle.refl _ _, AVle.str ?_, AVle.refl _ _, AVle.refl _ _, trivial⟩
        rw [hus, List.append_assoc]
      · have hd2 : decide ((k2 : Int) < (p.length : Int)) = false := by simp; omega
        simp +contextual (maxSteps := 1000000) only [hd2, hg1, parsAV_length, Int.toNat_natCast, intsV, intsAV_length, go_sem, reduceCtorEq, ↓reduceIte, Nat.reduceAdd, Nat.reduceEqDiff, Nat.reduceLeDiff, Nat.reduceMul, Nat.reduceBEq, Int.reduceBEq, Int.reduceBNe, Int.reduceLT, Int.reduceLE, Int.reduceGT, Int.reduceGE, Int.reduceToNat, Int.natCast_one, Int.natCast_zero, Int.cast_ofNat_Int]
        refine ⟨by omega, ?_⟩
        rw [← hQ2]
        simp only [w_kIt_e, w_kBlk_e, ↓reduceIte]
        simp +contextual (maxSteps := 1000000) only [hw, go_sem, reduceCtorEq, ↓reduceIte, Nat.reduceAdd, Nat.reduceEqDiff, Nat.reduceLeDiff, Nat.reduceMul, Nat.reduceBEq, Int.reduceBEq, Int.reduceBNe, Int.reduceLT, Int.reduceLE, Int.reduceGT, Int.reduceGE, Int.reduceToNat, Int.natCast_one, Int.natCast_zero, Int.cast_ofNat_Int]
        rw [← hQ']
        simp only [w_kIt_n]
        refine ⟨0, i + 1, Wk.same ?_, by omega, by omega⟩
        refine ⟨AVle.refl _ _, AVle.str ?_, AVle.refl _ _, trivial⟩
        rw [hfin]
        unfold upSub; rw [List.take_of_length_le (by omega)]
    · have hd : decide ((i : Int) < (ps.length : Int)) = false := by simp; omega
      simp +contextual (maxSteps := 1000000) only [hd, parsAV_length, go_sem, reduceCtorEq, ↓reduceIte, Nat.reduceAdd, Nat.reduceEqDiff, Nat.reduceLeDiff, Nat.reduceMul, Nat.reduceBEq, Int.reduceBEq, Int.reduceBNe, Int.reduceLT, Int.reduceLE, Int.reduceGT, Int.reduceGE, Int.reduceToNat, Int.natCast_one, Int.natCast_zero, Int.cast_ofNat_Int]
      rw [← hQ']
      simp only [w_kIt_e, w_kBlk_e, ↓reduceIte]
      simp +contextual (maxSteps := 1000000) only [go_sem, reduceCtorEq, ↓reduceIte, Nat.reduceAdd, Nat.reduceEqDiff, Nat.reduceLeDiff, Nat.reduceMul, Nat.reduceBEq, Int.reduceBEq, Int.reduceBNe, Int.reduceLT, Int.reduceLE, Int.reduceGT, Int.reduceGE, Int.reduceToNat, Int.natCast_one, Int.natCast_zero, Int.cast_ofNat_Int]
      unfold ir_clavierref03body_t4
      simp +contextual (maxSteps := 1000000) only [go_sem, reduceCtorEq, ↓reduceIte, Nat.reduceAdd, Nat.reduceEqDiff, Nat.reduceLeDiff, Nat.reduceMul, Nat.reduceBEq, Int.reduceBEq, Int.reduceBNe, Int.reduceLT, Int.reduceLE, Int.reduceGT, Int.reduceGE, Int.reduceToNat, Int.natCast_one, Int.natCast_zero, Int.cast_ofNat_Int]
      have e : upPar ps i = parsText ps := by unfold upPar; rw [List.take_of_length_le (by omega)]
      have := hps i
      refine ⟨by simp only [List.length_append]; omega, ?_⟩
      rw [← hQ]
      refine ⟨trivial, Ret.flat ?_ rfl⟩
      rw [e]; rfl
  refine kCond_split (fun h => ?_) (fun h => ?_)
  · simp +contextual (maxSteps := 1000000) only [isByte_one, unbyte_c, go_sem, reduceCtorEq, ↓reduceIte, Nat.reduceAdd, Nat.reduceEqDiff, Nat.reduceLeDiff, Nat.reduceMul, Nat.reduceBEq, Int.reduceBEq, Int.reduceBNe, Int.reduceLT, Int.reduceLE, Int.reduceGT, Int.reduceGE, Int.reduceToNat, Int.natCast_one, Int.natCast_zero, Int.cast_ofNat_Int]
    have h' : (c.toNat : Int).toNat.toUInt8 = c := by simp
    refine loop _ _ [c] _ ?_ ?_ ?_
    · simp only [prB, h, if_true, h']
    · rfl
    · rfl
  · simp +contextual (maxSteps := 1000000) only [go_sem, reduceCtorEq, ↓reduceIte, Nat.reduceAdd, Nat.reduceEqDiff, Nat.reduceLeDiff, Nat.reduceMul, Nat.reduceBEq, Int.reduceBEq, Int.reduceBNe, Int.reduceLT, Int.reduceLE, Int.reduceGT, Int.reduceGE, Int.reduceToNat, Int.natCast_one, Int.natCast_zero, Int.cast_ofNat_Int]
    refine loop _ _ [] _ ?_ rfl rfl
    simp only [prB, h, Bool.false_eq_true, if_false]
end Go.Proofs.YthmjlngdbabdeaaGreatDoor

/- Sequences of a size that may be. -/
set_option linter.unusedVariables false
set_option linter.unusedSimpArgs false
namespace Go.Proofs.YthmjlngdbabdeaaGreatDoor
open Go Go.Ab

/-- No list of it is longer than there may be. -/
structure Sq.sm (s : Sq) : Prop where
  ps : s.ps.length < 9223372036854775808
  pp : ∀ p ∈ s.ps, p.length < 9223372036854775808
  it : s.it.length < 9223372036854775808
  da : s.da.length < 9223372036854775808
theorem parsOk_len {l : List (List Int)} (h : parsOk l = true) : l.length ≤ 16 ∧ ∀ p ∈ l, p.length ≤ 8 := by
  simp only [parsOk, Bool.and_eq_true, Bool.not_eq_true', Bool.or_eq_false_iff, decide_eq_false_iff_not] at h
  obtain ⟨⟨h1, _⟩, h2⟩ := h
  refine ⟨by omega, fun p hp => ?_⟩
  have := List.any_eq_false.1 h2 p hp
  simp only [parBad, Bool.or_eq_true, decide_eq_true_eq, not_or] at this
  omega
theorem mayP_sm {s : Sq} (h : mayP s = 0) : s.sm ∧ s.ps.length ≤ 16 ∧ (∀ p ∈ s.ps, p.length ≤ 8) ∧ s.it.length ≤ 2 ∧ s.da.length ≤ 4096 := by
  simp only [mayP] at h
  split at h
  · cases h
  · rename_i h1
    split at h
    · cases h
    · rename_i h2
      simp only [Bool.or_eq_true, Bool.not_eq_true', not_or, Bool.not_eq_false, Bool.and_eq_true, decide_eq_true_eq] at h2 h1
      obtain ⟨⟨⟨⟨_, h3⟩, h4⟩, _⟩, _⟩ := h2
      obtain ⟨k1, k2⟩ := parsOk_len h4
      have k3 : s.it.length ≤ 2 := by have := h3.1; omega
      have k4 : s.da.length ≤ 4096 := by omega
      exact ⟨⟨by omega, fun p hp => by have := k2 p hp; omega, by omega, by omega⟩, k1, k2, k3, k4⟩

end Go.Proofs.YthmjlngdbabdeaaGreatDoor

/- The reference's layer 3: Put, walked. -/
set_option linter.unusedVariables false
set_option linter.unusedSimpArgs false
set_option maxRecDepth 100000
namespace Go.Proofs.YthmjlngdbabdeaaGreatDoor
open Go Go.Ab
/-- clavier/clavierref03.Put -/
def ir_clavierref03Put : ICode :=
 (.seq
  (.reg [⟨some 1, none, .box 35 (.t 0)⟩,
    ⟨some 2, none, .mov (.c .nils)⟩,
    ⟨some 3, none, .mov (.c (.int .i64 0))⟩] (some [1]))
  (.seq
   (.reg [⟨some 6, none, .ld (some 6) (.t 1)⟩,
     ⟨some 7, none, .call (.c (.fn (.func 72) [] [])) [(.t 6)]⟩,
     ⟨some 4, none, .mov (.t 7)⟩] (some [1, 4]))
   (.seq
    (.seq
     (.reg [⟨some 8, none, .mov (.t 4)⟩,
       ⟨some 9, none, .bin .neq .none (.t 8) (.c (.int .i64 0))⟩] (some [1, 4, 9]))
     (.cond (.t 9)
      (.seq
       (.reg [⟨some 10, none, .mov (.t 4)⟩,
         ⟨some 2, none, .mov (.c .nils)⟩,
         ⟨some 3, none, .mov (.t 10)⟩] (some [2, 3]))
       .ret)
      .skip))
    (.seq
     (.reg [⟨some 11, none, .fa 4 (.t 1)⟩,
       ⟨some 12, none, .ld none (.t 11)⟩,
       ⟨some 13, none, .row 5 1 [(.t 12)]⟩,
       ⟨some 14, none, .b2s (.t 13)⟩,
       ⟨some 5, none, .mov (.t 14)⟩] (some [1, 5]))
     (.seq
      (.seq
       (.reg [⟨some 15, none, .fa 0 (.t 1)⟩,
         ⟨some 16, none, .ld none (.t 15)⟩] (some [1, 5, 16]))
       (.blk 0
        (.seq
         (.reg [⟨some 18, none, .bin .eql .none (.t 16) (.c (.int .i64 1))⟩,
           ⟨some 17, none, .mov (.t 18)⟩] (some [1, 5, 16, 17]))
         (.cond (.t 17)
          (.seq
           (.reg [⟨some 19, none, .ld (some 6) (.t 1)⟩,
             ⟨some 20, none, .call (.c (.fn (.func 73) [] [])) [(.t 19)]⟩,
             ⟨some 21, none, .bin .add .none (.c (.str [27, 91])) (.t 20)⟩,
             ⟨some 22, none, .mov (.t 5)⟩,
             ⟨some 23, none, .bin .add .none (.t 21) (.t 22)⟩,
             ⟨some 24, none, .s2b 5 (.t 23)⟩,
             ⟨some 2, none, .mov (.t 24)⟩,
             ⟨some 3, none, .mov (.c (.int .i64 0))⟩] (some [2, 3]))
           .ret)
          (.seq
           (.reg [⟨some 26, none, .bin .eql .none (.t 16) (.c (.int .i64 2))⟩,
             ⟨some 25, none, .mov (.t 26)⟩] (some [1, 5, 16, 25]))
           (.cond (.t 25)
            (.seq
             (.reg [⟨some 27, none, .mov (.t 5)⟩,
               ⟨some 28, none, .bin .add .none (.c (.str [27, 79])) (.t 27)⟩,
               ⟨some 29, none, .s2b 5 (.t 28)⟩,
               ⟨some 2, none, .mov (.t 29)⟩,
               ⟨some 3, none, .mov (.c (.int .i64 0))⟩] (some [2, 3]))
             .ret)
            (.seq
             (.reg [⟨some 31, none, .bin .eql .none (.t 16) (.c (.int .i64 3))⟩,
               ⟨some 30, none, .mov (.t 31)⟩] (some [1, 5, 16, 30]))
             (.cond (.t 30)
              (.seq
               (.drw [⟨⟨some 32, none, .ld (some 6) (.t 1)⟩, []⟩,
                 ⟨⟨some 33, none, .call (.c (.fn (.func 73) [] [])) [(.t 32)]⟩, [0]⟩,
                 ⟨⟨some 34, none, .bin .add .none (.c (.str [27, 80])) (.t 33)⟩, [1]⟩,
                 ⟨⟨some 35, none, .mov (.t 5)⟩, []⟩,
                 ⟨⟨some 36, none, .bin .add .none (.t 34) (.t 35)⟩, [2, 3]⟩,
                 ⟨⟨some 37, none, .fa 5 (.t 1)⟩, []⟩,
                 ⟨⟨some 38, none, .ld none (.t 37)⟩, [5]⟩,
                 ⟨⟨some 39, none, .bin .add .none (.t 36) (.t 38)⟩, [4, 6]⟩,
                 ⟨⟨some 40, none, .bin .add .none (.t 39) (.c (.str [27, 92]))⟩, [7]⟩,
                 ⟨⟨some 41, none, .s2b 5 (.t 40)⟩, [8]⟩]
                 [⟨some 2, none, .mov (.t 41)⟩,
                 ⟨some 3, none, .mov (.c (.int .i64 0))⟩] (some [2, 3]))
               .ret)
              (.seq
               (.reg [⟨some 43, none, .bin .eql .none (.t 16) (.c (.int .i64 4))⟩,
                 ⟨some 42, none, .mov (.t 43)⟩] (some [1, 5, 42]))
               (.cond (.t 42)
                (.seq
                 (.reg [⟨some 44, none, .fa 5 (.t 1)⟩,
                   ⟨some 45, none, .ld none (.t 44)⟩,
                   ⟨some 46, none, .bin .add .none (.c (.str [27, 93])) (.t 45)⟩,
                   ⟨some 47, none, .bin .add .none (.t 46) (.c (.str [27, 92]))⟩,
                   ⟨some 48, none, .s2b 5 (.t 47)⟩,
                   ⟨some 2, none, .mov (.t 48)⟩,
                   ⟨some 3, none, .mov (.c (.int .i64 0))⟩] (some [2, 3]))
                 .ret)
                .skip))))))))))
      (.seq
       (.reg [⟨some 49, none, .fa 3 (.t 1)⟩,
         ⟨some 50, none, .ld none (.t 49)⟩,
         ⟨some 51, none, .bin .add .none (.c (.str [27])) (.t 50)⟩,
         ⟨some 52, none, .mov (.t 5)⟩,
         ⟨some 53, none, .bin .add .none (.t 51) (.t 52)⟩,
         ⟨some 54, none, .s2b 5 (.t 53)⟩,
         ⟨some 2, none, .mov (.t 54)⟩,
         ⟨some 3, none, .mov (.c (.int .i64 0))⟩] (some [2, 3]))
       .ret))))))
theorem is_clavierref03Put : IrOf Tryz.prog 34 55 ir_clavierref03Put [.t 2, .t 3] := ⟨_, Tryz.func34, rfl, by kernel_rfl, by kernel_rfl, by kernel_rfl⟩


/-- A sequence as bytes. -/
def putB (s : Sq) : List UInt8 :=
  let f := [s.fi.toNat.toUInt8]
  if (s.k == 1) = true then [27, 91] ++ bodyB s ++ f
  else if (s.k == 2) = true then [27, 79] ++ f
  else if (s.k == 3) = true then [27, 80] ++ bodyB s ++ f ++ s.da ++ [27, 92]
  else if (s.k == 4) = true then [27, 93] ++ s.da ++ [27, 92]
  else [27] ++ s.it ++ f
def putV (s : Sq) : AV := if (mayP s != 0) = true then .nils else .sl none 1 (bytesAV (putB s))
theorem bodyB_len {s : Sq} (h : mayP s = 0) : (bodyB s).length ≤ 3000 := by
  obtain ⟨_, h1, h2, h3, h4⟩ := mayP_sm h
  have h5 : parsOk s.ps = true := by
    simp only [mayP] at h
    split at h
    · cases h
    · split at h
      · cases h
      · rename_i h2
        simp only [Bool.or_eq_true, Bool.not_eq_true', not_or, Bool.not_eq_false] at h2
        exact h2.1.1.2
  have := parsText_len (ps := s.ps) fun p hp => ⟨((parsOk_iff h5).2.2 p hp).2.1, fun n hn => (((parsOk_iff h5).2.2 p hp).2.2 n hn).2⟩
  have h6 : (prB s.pr).length ≤ 1 := by unfold prB; split <;> simp
  simp only [bodyB, List.length_append]; omega
theorem may_pars {s : Sq} (h : mayP s = 0) : parsOk s.ps = true := by
  simp only [mayP] at h
  split at h
  · cases h
  · split at h
    · cases h
    · rename_i h2
      simp only [Bool.or_eq_true, Bool.not_eq_true', not_or, Bool.not_eq_false] at h2
      exact h2.1.1.2
set_option maxHeartbeats 1000000 in
theorem fs_rPut {Gl : Gh → Prop} (hst : Stays Gl) {s : Sq} (hp0 : 0 ≤ s.pr) (hp1 : s.pr < 256) (hf0 : 0 ≤ s.fi) (hf1 : s.fi < 256) (h : s.sm) : FS Tryz.prog Gl 34 [.agg s.c] [] [] (.tup [putV s, .int .i64 (mayP s)]) [] [] := by
  have c1 := fs_rMay hst hf0 hf1 h.ps h.pp h.it h.da
  refine FS.of hm hst is_clavierref03Put (by simp) fun γ hγ hfr => ?_
  have hbody : mayP s = 0 → FS Tryz.prog Gl 73 [.agg s.c] [] [] (.str (bodyB s)) [] [] := fun hz => by
    obtain ⟨_, a1, a2, a3, a4⟩ := mayP_sm hz
    exact fs_rBody hst hp0 hp1 (by omega) a1 fun p hp => ⟨a2 p hp, fun n hn => (((parsOk_iff (may_pars hz)).2.2 p hp).2.2 n hn).2⟩
  have hbl : mayP s = 0 → (bodyB s).length ≤ 3000 := bodyB_len
  have hda : mayP s = 0 → s.da.length ≤ 4096 := fun hz => (mayP_sm hz).2.2.2.2
  have hil : mayP s = 0 → s.it.length ≤ 2 := fun hz => (mayP_sm hz).2.2.2.1
  have hput : putB s = (if (s.k == 1) = true then [27, 91] ++ bodyB s ++ [s.fi.toNat.toUInt8]
    else if (s.k == 2) = true then [27, 79] ++ [s.fi.toNat.toUInt8]
    else if (s.k == 3) = true then [27, 80] ++ bodyB s ++ [s.fi.toNat.toUInt8] ++ s.da ++ [27, 92]
    else if (s.k == 4) = true then [27, 93] ++ s.da ++ [27, 92]
    else [27] ++ s.it ++ [s.fi.toNat.toUInt8]) := rfl
  have hpv : putV s = if (mayP s != 0) = true then .nils else .sl none 1 (bytesAV (putB s)) := rfl
  obtain ⟨k, pr, ps, it, fi, da⟩ := s
  simp only at hp0 hp1 hf0 hf1 hda hil hput
  obtain ⟨c, rfl⟩ := byteOf hf0 hf1
  have hcc : (c.toNat : Int).toNat.toUInt8 = c := by simp
  rw [hcc] at hput
  generalize mayP _ = e at *
  generalize putV _ = pvv at *
  generalize putB _ = pb at *
  generalize bodyB _ = bb at *
  simp only [Sq.c] at c1 hbody hfr ⊢
  (generalize hQ : (fun (ex : Ex) (_ _ : Nat) (s : St) => _) = Q; unfold ir_clavierref03Put)
  simp +contextual (maxSteps := 1000000) only [go_sem, reduceCtorEq, ↓reduceIte, Nat.reduceAdd, Nat.reduceEqDiff, Nat.reduceLeDiff, Nat.reduceMul, Nat.reduceBEq, Int.reduceBEq, Int.reduceBNe, Int.reduceLT, Int.reduceLE, Int.reduceGT, Int.reduceGE, Int.reduceToNat, Int.natCast_one, Int.natCast_zero, Int.cast_ofNat_Int]
  refine CallP.pure c1 (fun _ => rfl) ?_
  simp +contextual (maxSteps := 1000000) only [go_sem, reduceCtorEq, ↓reduceIte, Nat.reduceAdd, Nat.reduceEqDiff, Nat.reduceLeDiff, Nat.reduceMul, Nat.reduceBEq, Int.reduceBEq, Int.reduceBNe, Int.reduceLT, Int.reduceLE, Int.reduceGT, Int.reduceGE, Int.reduceToNat, Int.natCast_one, Int.natCast_zero, Int.cast_ofNat_Int]
  refine kCond_split (fun h1 => ?_) (fun h1 => ?_)
  · simp +contextual (maxSteps := 1000000) only [go_sem, reduceCtorEq, ↓reduceIte, Nat.reduceAdd, Nat.reduceEqDiff, Nat.reduceLeDiff, Nat.reduceMul, Nat.reduceBEq, Int.reduceBEq, Int.reduceBNe, Int.reduceLT, Int.reduceLE, Int.reduceGT, Int.reduceGE, Int.reduceToNat, Int.natCast_one, Int.natCast_zero, Int.cast_ofNat_Int]
    rw [← hQ, hpv, if_pos h1]
    exact ⟨trivial, Ret.flat2⟩
  have hz : e = 0 := by simpa using h1
  have c2 := hbody hz
  have hbl := hbl hz
  have hda := hda hz
  have hil := hil hz
  rw [if_neg (by rw [h1]; exact Bool.false_ne_true)] at hpv
  clear c1 hbody h1
  simp +contextual (maxSteps := 1000000) only [isByte_one, unbyte_c, go_sem, reduceCtorEq, ↓reduceIte, Nat.reduceAdd, Nat.reduceEqDiff, Nat.reduceLeDiff, Nat.reduceMul, Nat.reduceBEq, Int.reduceBEq, Int.reduceBNe, Int.reduceLT, Int.reduceLE, Int.reduceGT, Int.reduceGE, Int.reduceToNat, Int.natCast_one, Int.natCast_zero, Int.cast_ofNat_Int]
  refine kCond_split (fun h1 => ?_) (fun h1 => ?_)
  · rw [if_pos h1] at hput
    simp +contextual (maxSteps := 1000000) only [go_sem, reduceCtorEq, ↓reduceIte, Nat.reduceAdd, Nat.reduceEqDiff, Nat.reduceLeDiff, Nat.reduceMul, Nat.reduceBEq, Int.reduceBEq, Int.reduceBNe, Int.reduceLT, Int.reduceLE, Int.reduceGT, Int.reduceGE, Int.reduceToNat, Int.natCast_one, Int.natCast_zero, Int.cast_ofNat_Int]
    refine CallP.pure c2 (fun _ => rfl) ?_
    simp +contextual (maxSteps := 1000000) only [go_sem, reduceCtorEq, ↓reduceIte, Nat.reduceAdd, Nat.reduceEqDiff, Nat.reduceLeDiff, Nat.reduceMul, Nat.reduceBEq, Int.reduceBEq, Int.reduceBNe, Int.reduceLT, Int.reduceLE, Int.reduceGT, Int.reduceGE, Int.reduceToNat, Int.natCast_one, Int.natCast_zero, Int.cast_ofNat_Int]
    refine ⟨by omega, by omega, by simp only [maxLen, List.length_append, List.length_cons, List.length_nil]; omega, ?_⟩
    rw [← hQ, hpv, hput, hz]
    exact ⟨trivial, Ret.flat2⟩
  rw [if_neg (by rw [h1]; exact Bool.false_ne_true)] at hput
  simp +contextual (maxSteps := 1000000) only [go_sem, reduceCtorEq, ↓reduceIte, Nat.reduceAdd, Nat.reduceEqDiff, Nat.reduceLeDiff, Nat.reduceMul, Nat.reduceBEq, Int.reduceBEq, Int.reduceBNe, Int.reduceLT, Int.reduceLE, Int.reduceGT, Int.reduceGE, Int.reduceToNat, Int.natCast_one, Int.natCast_zero, Int.cast_ofNat_Int]
  refine kCond_split (fun h2 => ?_) (fun h2 => ?_)
  · rw [if_pos h2] at hput
    simp +contextual (maxSteps := 1000000) only [go_sem, reduceCtorEq, ↓reduceIte, Nat.reduceAdd, Nat.reduceEqDiff, Nat.reduceLeDiff, Nat.reduceMul, Nat.reduceBEq, Int.reduceBEq, Int.reduceBNe, Int.reduceLT, Int.reduceLE, Int.reduceGT, Int.reduceGE, Int.reduceToNat, Int.natCast_one, Int.natCast_zero, Int.cast_ofNat_Int]
    refine ⟨by decide, ?_⟩
    rw [← hQ, hpv, hput, hz]
    exact ⟨trivial, Ret.flat2⟩
  rw [if_neg (by rw [h2]; exact Bool.false_ne_true)] at hput
  simp +contextual (maxSteps := 1000000) only [go_sem, reduceCtorEq, ↓reduceIte, Nat.reduceAdd, Nat.reduceEqDiff, Nat.reduceLeDiff, Nat.reduceMul, Nat.reduceBEq, Int.reduceBEq, Int.reduceBNe, Int.reduceLT, Int.reduceLE, Int.reduceGT, Int.reduceGE, Int.reduceToNat, Int.natCast_one, Int.natCast_zero, Int.cast_ofNat_Int]
  refine kCond_split (fun h3 => ?_) (fun h3 => ?_)
  · rw [if_pos h3] at hput
    simp +contextual (maxSteps := 1000000) only [go_sem, reduceCtorEq, ↓reduceIte, Nat.reduceAdd, Nat.reduceEqDiff, Nat.reduceLeDiff, Nat.reduceMul, Nat.reduceBEq, Int.reduceBEq, Int.reduceBNe, Int.reduceLT, Int.reduceLE, Int.reduceGT, Int.reduceGE, Int.reduceToNat, Int.natCast_one, Int.natCast_zero, Int.cast_ofNat_Int]
    refine DCall.new c2 ?_
    simp +contextual (maxSteps := 1000000) only [go_sem, reduceCtorEq, ↓reduceIte, Nat.reduceAdd, Nat.reduceEqDiff, Nat.reduceLeDiff, Nat.reduceMul, Nat.reduceBEq, Int.reduceBEq, Int.reduceBNe, Int.reduceLT, Int.reduceLE, Int.reduceGT, Int.reduceGE, Int.reduceToNat, Int.natCast_one, Int.natCast_zero, Int.cast_ofNat_Int]
    refine ⟨by omega, by omega, by simp only [maxLen, List.length_append, List.length_cons, List.length_nil]; omega, by simp only [maxLen, List.length_append, List.length_cons, List.length_nil]; omega, by simp only [maxLen, List.length_append, List.length_cons, List.length_nil]; omega, ?_⟩
    rw [← hQ, hpv, hput, hz]
    exact ⟨trivial, Ret.flat2⟩
  rw [if_neg (by rw [h3]; exact Bool.false_ne_true)] at hput
  simp +contextual (maxSteps := 1000000) only [go_sem, reduceCtorEq, ↓reduceIte, Nat.reduceAdd, Nat.reduceEqDiff, Nat.reduceLeDiff, Nat.reduceMul, Nat.reduceBEq, Int.reduceBEq, Int.reduceBNe, Int.reduceLT, Int.reduceLE, Int.reduceGT, Int.reduceGE, Int.reduceToNat, Int.natCast_one, Int.natCast_zero, Int.cast_ofNat_Int]
  refine kCond_split (fun h4 => ?_) (fun h4 => ?_)
  · rw [if_pos h4] at hput
    simp +contextual (maxSteps := 1000000) only [go_sem, reduceCtorEq, ↓reduceIte, Nat.reduceAdd, Nat.reduceEqDiff, Nat.reduceLeDiff, Nat.reduceMul, Nat.reduceBEq, Int.reduceBEq, Int.reduceBNe, Int.reduceLT, Int.reduceLE, Int.reduceGT, Int.reduceGE, Int.reduceToNat, Int.natCast_one, Int.natCast_zero, Int.cast_ofNat_Int]
    refine ⟨by omega, by omega, by simp only [maxLen, List.length_append, List.length_cons, List.length_nil]; omega, ?_⟩
    rw [← hQ, hpv, hput, hz]
    exact ⟨trivial, Ret.flat2⟩
  rw [if_neg (by rw [h4]; exact Bool.false_ne_true)] at hput
  simp +contextual (maxSteps := 1000000) only [go_sem, reduceCtorEq, ↓reduceIte, Nat.reduceAdd, Nat.reduceEqDiff, Nat.reduceLeDiff, Nat.reduceMul, Nat.reduceBEq, Int.reduceBEq, Int.reduceBNe, Int.reduceLT, Int.reduceLE, Int.reduceGT, Int.reduceGE, Int.reduceToNat, Int.natCast_one, Int.natCast_zero, Int.cast_ofNat_Int]
  refine ⟨by omega, by omega, by simp only [maxLen, List.length_append, List.length_cons, List.length_nil]; omega, ?_⟩
  rw [← hQ, hpv, hput, hz]
  exact ⟨trivial, Ret.flat2⟩
end Go.Proofs.YthmjlngdbabdeaaGreatDoor

/- Sequences as bytes, walked: the program's. -/
set_option linter.unusedVariables false
set_option linter.unusedSimpArgs false
set_option maxRecDepth 100000
namespace Go.Proofs.YthmjlngdbabdeaaGreatDoor
open Go Go.Ab
/- clavier/wire.one -/
def ir_wireone_l0 : ICode :=
 (.seq
        (.reg [⟨some 9, none, .bin .lss .none (.t 8) (.t 7)⟩] (some [3, 6, 7, 8, 9]))
        (.seq
         (.cond (.t 9)
          .skip
          (.exit 0))
         (.seq
          (.blk 1
           (.seq
            (.reg [⟨some 10, none, .ia 1 (.t 6) (.t 8)⟩,
              ⟨some 11, none, .ld none (.t 10)⟩,
              ⟨some 5, none, .mov (.t 11)⟩] (some [3, 5, 6, 7, 8]))
            (.reg [⟨some 12, none, .mov (.t 3)⟩,
              ⟨some 13, none, .mov (.t 5)⟩,
              ⟨some 14, none, .call (.c (.fn (.func 119) [] [])) [(.t 13)]⟩,
              ⟨some 15, none, .row 9 1 [(.t 14)]⟩,
              ⟨some 16, none, .app 9 1 16 (.t 12) (.t 15)⟩,
              ⟨some 3, none, .mov (.t 16)⟩] (some [3, 6, 7, 8]))))
          (.reg [⟨some 17, none, .bin .add .none (.t 8) (.c (.int .i64 1))⟩,
            ⟨some 8, none, .mov (.t 17)⟩] (some [3, 6, 7, 8])))))
def ir_wireone : ICode :=
 (.seq
  (.reg [⟨some 2, none, .mov (.c (.str []))⟩] (some [0]))
  (.seq
   (.reg [⟨some 3, none, .mov (.c .nils)⟩] (some [0, 3]))
   (.seq
    (.seq
     (.reg [⟨some 6, none, .mov (.t 0)⟩,
       ⟨some 7, none, .len (.t 6)⟩,
       ⟨some 8, none, .mov (.c (.int .i64 0))⟩] (some [3, 6, 7, 8]))
     (.blk 0
      (.loop
       ir_wireone_l0)))
    (.seq
     (.reg [⟨some 18, none, .mov (.t 3)⟩,
       ⟨some 19, none, .call (.c (.fn (.func 98) [] [])) [(.t 18), (.c (.str [58]))]⟩,
       ⟨some 2, none, .mov (.t 19)⟩] (some [2]))
     .ret))))
theorem is_wireone : IrOf Tryz.prog 99 20 ir_wireone [.t 2] := ⟨_, Tryz.func99, rfl, by kernel_rfl, by kernel_rfl, by kernel_rfl⟩

/- clavier/wire.body -/
def ir_wirebody_l0 : ICode :=
 (.seq
        (.reg [⟨some 11, none, .bin .lss .none (.t 10) (.t 9)⟩] (some [1, 3, 8, 9, 10, 11]))
        (.seq
         (.cond (.t 11)
          .skip
          (.exit 0))
         (.seq
          (.blk 1
           (.seq
            (.reg [⟨some 12, none, .ia 1 (.t 8) (.t 10)⟩,
              ⟨some 13, none, .ld none (.t 12)⟩,
              ⟨some 5, none, .mov (.t 13)⟩] (some [1, 3, 5, 8, 9, 10]))
            (.reg [⟨some 14, none, .mov (.t 3)⟩,
              ⟨some 15, none, .mov (.t 5)⟩,
              ⟨some 16, none, .call (.c (.fn (.func 99) [] [])) [(.t 15)]⟩,
              ⟨some 17, none, .row 9 1 [(.t 16)]⟩,
              ⟨some 18, none, .app 9 1 16 (.t 14) (.t 17)⟩,
              ⟨some 3, none, .mov (.t 18)⟩] (some [1, 3, 8, 9, 10]))))
          (.reg [⟨some 19, none, .bin .add .none (.t 10) (.c (.int .i64 1))⟩,
            ⟨some 10, none, .mov (.t 19)⟩] (some [1, 3, 8, 9, 10])))))
def ir_wirebody : ICode :=
 (.seq
  (.reg [⟨some 1, none, .box 35 (.t 0)⟩,
    ⟨some 2, none, .mov (.c (.str []))⟩] (some [1]))
  (.seq
   (.reg [⟨some 3, none, .mov (.c .nils)⟩] (some [1, 3]))
   (.seq
    (.seq
     (.reg [⟨some 7, none, .fa 2 (.t 1)⟩,
       ⟨some 8, none, .ld none (.t 7)⟩,
       ⟨some 9, none, .len (.t 8)⟩,
       ⟨some 10, none, .mov (.c (.int .i64 0))⟩] (some [1, 3, 8, 9, 10]))
     (.blk 0
      (.loop
       ir_wirebody_l0)))
    (.seq
     (.drw [⟨⟨some 20, none, .mov (.t 3)⟩, []⟩,
       ⟨⟨some 21, none, .call (.c (.fn (.func 98) [] [])) [(.t 20), (.c (.str [59]))]⟩, [0]⟩,
       ⟨⟨some 22, none, .fa 3 (.t 1)⟩, []⟩,
       ⟨⟨some 23, none, .ld none (.t 22)⟩, [2]⟩,
       ⟨⟨some 24, none, .bin .add .none (.t 21) (.t 23)⟩, [1, 3]⟩,
       ⟨⟨some 25, none, .fa 4 (.t 1)⟩, []⟩,
       ⟨⟨some 26, none, .ld none (.t 25)⟩, [5]⟩,
       ⟨⟨some 27, none, .row 5 1 [(.t 26)]⟩, [6]⟩,
       ⟨⟨some 28, none, .b2s (.t 27)⟩, [7]⟩,
       ⟨⟨some 29, none, .bin .add .none (.t 24) (.t 28)⟩, [4, 8]⟩]
       [⟨some 6, none, .mov (.t 29)⟩] (some [1, 6]))
     (.seq
      (.seq
       (.reg [⟨some 30, none, .fa 1 (.t 1)⟩,
         ⟨some 31, none, .ld none (.t 30)⟩,
         ⟨some 32, none, .bin .neq .none (.t 31) (.c (.int .u8 0))⟩] (some [1, 6, 32]))
       (.cond (.t 32)
        (.reg [⟨some 33, none, .fa 1 (.t 1)⟩,
          ⟨some 34, none, .ld none (.t 33)⟩,
          ⟨some 35, none, .row 5 1 [(.t 34)]⟩,
          ⟨some 36, none, .b2s (.t 35)⟩,
          ⟨some 37, none, .mov (.t 6)⟩,
          ⟨some 38, none, .bin .add .none (.t 36) (.t 37)⟩,
          ⟨some 6, none, .mov (.t 38)⟩] (some [6]))
        .skip))
      (.seq
       (.reg [⟨some 39, none, .mov (.t 6)⟩,
         ⟨some 2, none, .mov (.t 39)⟩] (some [2]))
       .ret))))))
theorem is_wirebody : IrOf Tryz.prog 66 40 ir_wirebody [.t 2] := ⟨_, Tryz.func66, rfl, by kernel_rfl, by kernel_rfl, by kernel_rfl⟩

/-- clavier/wire.glue -/
def ir_wireglue : ICode :=
 (.seq
  (.reg [⟨some 2, none, .mov (.c .nils)⟩] (some [0]))
  (.seq
   (.reg [⟨some 3, none, .row 5 1 [(.c (.int .u8 27))]⟩,
     ⟨some 4, none, .mov (.t 0)⟩,
     ⟨some 5, none, .call (.c (.fn (.func 98) [] [])) [(.t 4), (.c (.str []))]⟩,
     ⟨some 6, none, .aps 5 (.t 3) (.t 5)⟩,
     ⟨some 2, none, .mov (.t 6)⟩] (some [2]))
   .ret))
theorem is_wireglue : IrOf Tryz.prog 65 7 ir_wireglue [.t 2] := ⟨_, Tryz.func65, rfl, by kernel_rfl, by kernel_rfl, by kernel_rfl⟩


theorem join_jn (c : UInt8) : ∀ xs : List (List UInt8), Lib.join xs [c] = jn c xs
  | [] => rfl
  | [x] => by simp [Lib.join, List.intercalate, jn]
  | x :: y :: l => by
    have ih := join_jn c (y :: l)
    simp only [Lib.join, List.intercalate] at ih ⊢
    rw [jn, ← ih]
    simp [List.intersperse]
theorem join_flat : ∀ xs : List (List UInt8), Lib.join xs [] = xs.flatten
  | [] => rfl
  | [x] => by simp [Lib.join, List.intercalate]
  | x :: y :: l => by
    have ih := join_flat (y :: l)
    simp only [Lib.join, List.intercalate] at ih ⊢
    rw [List.flatten_cons, ← ih]
    simp [List.intersperse]
theorem strsAV_snoc (xs : List (List UInt8)) (x : List UInt8) : strsAV (xs ++ [x]) = strsAV xs ++ [[.str x]] := by simp [strsAV]
theorem strsAV_length (xs : List (List UInt8)) : (strsAV xs).length = xs.length := by simp [strsAV]
set_option maxHeartbeats 2000000 in
theorem fs_one {Gl : Gh → Prop} (hst : Stays Gl) {p : List Int} {t : Option Nm} (hl : p.length ≤ 100000) (hp : ∀ n ∈ p, n ≤ 1114111) : FS Tryz.prog Gl 99 [.sl t 1 (intsAV p)] [] [] (.str (subText p)) [] [] := by
  refine FS.of hm hst is_wireone (by simp) fun γ hγ hfr => ?_
  have hsl := subText_len hp
  (generalize hQ : (fun (ex : Ex) (_ _ : Nat) (s : St) => _) = Q; unfold ir_wireone)
  simp +contextual (maxSteps := 1000000) only [intsAV_length, go_sem, reduceCtorEq, ↓reduceIte, Nat.reduceAdd, Nat.reduceEqDiff, Nat.reduceLeDiff, Nat.reduceMul, Nat.reduceBEq, Int.reduceBEq, Int.reduceBNe, Int.reduceLT, Int.reduceLE, Int.reduceGT, Int.reduceGE, Int.reduceToNat, Int.natCast_one, Int.natCast_zero, Int.cast_ofNat_Int]
  refine kLoop_ix (fun q : Nat × Option Nm => ⟨lf [(3, sv q.2 1 (strsAV ((p.take q.1).map textZ))), (6, .sl t 1 (intsAV p)), (7, .int .i64 (p.length : Int)), (8, .int .i64 (q.1 : Int))], [], fun x => q.2 = some x⟩)
    (fun q => q.1 ≤ p.length ∧ (q.2 = none → q.1 = 0)) (fun q => p.length - q.1) 0 (0, none) ?_ ⟨by simp, by simp⟩ ?_
  · refine Wk.perm' ?_ (fun p hp => by cases hp) (fun t ht => by cases ht)
    simp only [lfOK, upd]
    repeat' first | exact AVle.refl _ _ | exact trivial | refine And.intro ?_ ?_ | exact AVle.int (by simp only [IntKind.wrap_i64]; omega)
  · rintro γ' ⟨i, tk⟩ hf ⟨hi, htk⟩
    simp only at hi htk
    generalize hQ' : kIt _ _ _ _ _ = Q'
    unfold ir_wireone_l0
    by_cases hlt : i < p.length
    · have hd : decide ((i : Int) < (p.length : Int)) = true := by simp; omega
      have hg1 : (intsAV p).getD i [] = [.int .i64 p[i]] := intsAV_get hlt
      have hpi := hp _ (List.getElem_mem hlt)
      have c1 := fs_NumText (Gl := Gl) hst (n := p[i]) (by omega)
      have htk1 : (p.take (i + 1)).map textZ = (p.take i).map textZ ++ [textZ p[i]] := by
        rw [List.take_add_one, List.getElem?_eq_getElem hlt, List.map_append]; rfl
      have hlen : (strsAV ((p.take i).map textZ)).length ≤ p.length := by rw [strsAV_length]; simp; omega
      cases tk with
      | none =>
        have h0 := htk rfl
        have ht0 : p.take i = [] := by rw [h0]; rfl
        rw [ht0, List.map_nil, List.nil_append] at htk1
        simp +contextual (maxSteps := 1000000) only [hd, hg1, Int.toNat_natCast, intsAV_length, go_sem, reduceCtorEq, ↓reduceIte, Nat.reduceAdd, Nat.reduceEqDiff, Nat.reduceLeDiff, Nat.reduceMul, Nat.reduceBEq, Int.reduceBEq, Int.reduceBNe, Int.reduceLT, Int.reduceLE, Int.reduceGT, Int.reduceGE, Int.reduceToNat, Int.natCast_one, Int.natCast_zero, Int.cast_ofNat_Int]
        refine ⟨⟨by omega, by omega⟩, ?_⟩
        (refine CallP.pure (c1) (fun _ => rfl) ?_; simp +contextual (maxSteps := 1000000) only [go_sem, reduceCtorEq, ↓reduceIte, Nat.reduceAdd, Nat.reduceEqDiff, Nat.reduceLeDiff, Nat.reduceMul, Nat.reduceBEq, Int.reduceBEq, Int.reduceBNe, Int.reduceLT, Int.reduceLE, Int.reduceGT, Int.reduceGE, Int.reduceToNat, Int.natCast_one, Int.natCast_zero, Int.cast_ofNat_Int])
        rw [← hQ']
        simp only [w_kIt_n]
        refine ⟨0, (i + 1, some (γ', 8, 0)), Wk.perm' ?_ (fun p hp => by cases hp) ?_, ⟨by simp only; omega, by simp⟩, by simp only; omega⟩
        · simp only [htk1, sv_some, strsAV, List.map_cons, List.map_nil]
          repeat' first | exact AVle.refl _ _ | exact trivial | refine And.intro ?_ ?_ | exact AVle.int (by simp only [IntKind.wrap_i64]; omega)
        · intro t ht
          cases ht
          exact .inl rfl
      | some t0 =>
        simp +contextual (maxSteps := 1000000) only [hd, hg1, Int.toNat_natCast, intsAV_length, go_sem, reduceCtorEq, ↓reduceIte, Nat.reduceAdd, Nat.reduceEqDiff, Nat.reduceLeDiff, Nat.reduceMul, Nat.reduceBEq, Int.reduceBEq, Int.reduceBNe, Int.reduceLT, Int.reduceLE, Int.reduceGT, Int.reduceGE, Int.reduceToNat, Int.natCast_one, Int.natCast_zero, Int.cast_ofNat_Int]
        refine ⟨⟨by omega, by omega⟩, ?_⟩
        (refine CallP.pure (c1) (fun _ => rfl) ?_; simp +contextual (maxSteps := 1000000) only [go_sem, reduceCtorEq, ↓reduceIte, Nat.reduceAdd, Nat.reduceEqDiff, Nat.reduceLeDiff, Nat.reduceMul, Nat.reduceBEq, Int.reduceBEq, Int.reduceBNe, Int.reduceLT, Int.reduceLE, Int.reduceGT, Int.reduceGE, Int.reduceToNat, Int.natCast_one, Int.natCast_zero, Int.cast_ofNat_Int])
        refine ⟨⟨.inr trivial, by omega⟩, ?_⟩
        rw [← hQ']
        simp only [w_kIt_n]
        refine ⟨0, (i + 1, some (γ', 8, 0)), Wk.perm' ?_ (fun p hp => by cases hp) ?_, ⟨by simp only; omega, by simp⟩, by simp only; omega⟩
        · simp only [htk1, sv_some, strsAV_snoc]
          repeat' first | exact AVle.refl _ _ | exact trivial | refine And.intro ?_ ?_ | exact AVle.int (by simp only [IntKind.wrap_i64]; omega)
        · intro t ht
          cases ht
          exact .inl rfl
    · have hii : i = p.length := by omega
      have hd : decide ((i : Int) < (p.length : Int)) = false := by simp; omega
      have hfull : (p.take i).map textZ = p.map textZ := by rw [List.take_of_length_le (by omega)]
      have hjl : (Lib.join (p.map textZ) [58]).length ≤ 140737488355328 := by
        rw [join_jn]; show (subText p).length ≤ _; omega
      have hz : Lib.join (p.map textZ) [58] = subText p := join_jn 58 _
      cases tk with
      | none =>
        have h0 : p = [] := List.length_eq_zero_iff.1 (by rw [← hii]; exact htk rfl)
        have c1 := (fs_Join (Gl := Gl) (xs := p.map textZ) (sep := [58]) (t := none) (by simp; omega) hjl).args (args := [.nils, .str [58]]) ⟨by rw [h0]; exact RepLe.nils 1, RepLe.refl _, trivial⟩
        rw [hz] at c1
        simp +contextual (maxSteps := 1000000) only [hd, go_sem, reduceCtorEq, ↓reduceIte, Nat.reduceAdd, Nat.reduceEqDiff, Nat.reduceLeDiff, Nat.reduceMul, Nat.reduceBEq, Int.reduceBEq, Int.reduceBNe, Int.reduceLT, Int.reduceLE, Int.reduceGT, Int.reduceGE, Int.reduceToNat, Int.natCast_one, Int.natCast_zero, Int.cast_ofNat_Int]
        rw [← hQ']
        simp only [w_kIt_e, w_kBlk_e, ↓reduceIte]
        simp +contextual (maxSteps := 1000000) only [go_sem, reduceCtorEq, ↓reduceIte, Nat.reduceAdd, Nat.reduceEqDiff, Nat.reduceLeDiff, Nat.reduceMul, Nat.reduceBEq, Int.reduceBEq, Int.reduceBNe, Int.reduceLT, Int.reduceLE, Int.reduceGT, Int.reduceGE, Int.reduceToNat, Int.natCast_one, Int.natCast_zero, Int.cast_ofNat_Int]
        (refine CallP.pure (c1) (fun _ => rfl) ?_; simp +contextual (maxSteps := 1000000) only [go_sem, reduceCtorEq, ↓reduceIte, Nat.reduceAdd, Nat.reduceEqDiff, Nat.reduceLeDiff, Nat.reduceMul, Nat.reduceBEq, Int.reduceBEq, Int.reduceBNe, Int.reduceLT, Int.reduceLE, Int.reduceGT, Int.reduceGE, Int.reduceToNat, Int.natCast_one, Int.natCast_zero, Int.cast_ofNat_Int])
        rw [← hQ]
        exact ⟨trivial, Ret.flat rfl rfl⟩
      | some t0 =>
        have c1 := fs_Join (Gl := Gl) (xs := p.map textZ) (sep := [58]) (t := some t0) (by simp; omega) hjl
        rw [hz] at c1
        simp +contextual (maxSteps := 1000000) only [hd, hfull, go_sem, reduceCtorEq, ↓reduceIte, Nat.reduceAdd, Nat.reduceEqDiff, Nat.reduceLeDiff, Nat.reduceMul, Nat.reduceBEq, Int.reduceBEq, Int.reduceBNe, Int.reduceLT, Int.reduceLE, Int.reduceGT, Int.reduceGE, Int.reduceToNat, Int.natCast_one, Int.natCast_zero, Int.cast_ofNat_Int]
        rw [← hQ']
        simp only [w_kIt_e, w_kBlk_e, ↓reduceIte]
        simp +contextual (maxSteps := 1000000) only [go_sem, reduceCtorEq, ↓reduceIte, Nat.reduceAdd, Nat.reduceEqDiff, Nat.reduceLeDiff, Nat.reduceMul, Nat.reduceBEq, Int.reduceBEq, Int.reduceBNe, Int.reduceLT, Int.reduceLE, Int.reduceGT, Int.reduceGE, Int.reduceToNat, Int.natCast_one, Int.natCast_zero, Int.cast_ofNat_Int]
        (refine CallP.pure (c1) (fun _ => rfl) ?_; simp +contextual (maxSteps := 1000000) only [go_sem, reduceCtorEq, ↓reduceIte, Nat.reduceAdd, Nat.reduceEqDiff, Nat.reduceLeDiff, Nat.reduceMul, Nat.reduceBEq, Int.reduceBEq, Int.reduceBNe, Int.reduceLT, Int.reduceLE, Int.reduceGT, Int.reduceGE, Int.reduceToNat, Int.natCast_one, Int.natCast_zero, Int.cast_ofNat_Int])
        rw [← hQ]
        exact ⟨trivial, Ret.flat rfl rfl⟩
theorem fs_glue {Gl : Gh → Prop} (hst : Stays Gl) {xs : List (List UInt8)} {t : Option Nm} (hN : xs.length ≤ 100) (hl : xs.flatten.length ≤ 1000000) : FS Tryz.prog Gl 65 [.sl t 1 (strsAV xs)] [] [] (.sl none 1 (bytesAV (27 :: xs.flatten))) [] [] := by
  refine FS.ofW hm hst is_wireglue rfl (by simp) fun γ hγ hfr => ?_
  have c1 := fs_Join (Gl := Gl) (xs := xs) (sep := []) (t := t) (by omega) (by rw [join_flat]; omega)
  rw [join_flat] at c1
  (generalize hQ : (fun (ex : Ex) (_ _ : Nat) (s : St) => _) = Q; unfold ir_wireglue)
  simp +contextual (maxSteps := 1000000) only [go_sem, reduceCtorEq, ↓reduceIte, Nat.reduceAdd, Nat.reduceEqDiff, Nat.reduceLeDiff, Nat.reduceMul, Nat.reduceBEq, Int.reduceBEq, Int.reduceBNe, Int.reduceLT, Int.reduceLE, Int.reduceGT, Int.reduceGE, Int.reduceToNat, Int.natCast_one, Int.natCast_zero, Int.cast_ofNat_Int]
  (refine CallP.pure (c1) (fun _ => rfl) ?_; simp +contextual (maxSteps := 1000000) only [go_sem, reduceCtorEq, ↓reduceIte, Nat.reduceAdd, Nat.reduceEqDiff, Nat.reduceLeDiff, Nat.reduceMul, Nat.reduceBEq, Int.reduceBEq, Int.reduceBNe, Int.reduceLT, Int.reduceLE, Int.reduceGT, Int.reduceGE, Int.reduceToNat, Int.natCast_one, Int.natCast_zero, Int.cast_ofNat_Int])
  refine ⟨⟨.inl trivial, by omega⟩, ?_⟩
  rw [← hQ]
  exact ⟨trivial, .inl ⟨_, rfl, RepLe.anon' rfl⟩⟩
set_option maxHeartbeats 4000000 in
theorem fs_body {Gl : Gh → Prop} (hst : Stays Gl) {k : Int} {ps : List (List Int)} {it da : List UInt8} {pr fi : UInt8} (hl : ps.length ≤ 16) (hp : ∀ p ∈ ps, p.length ≤ 8 ∧ ∀ n ∈ p, n ≤ 1114111) (hit : it.length ≤ 100000) :
    FS Tryz.prog Gl 66 [.agg (Sq.c ⟨k, pr.toNat, ps, it, fi.toNat, da⟩)] [] [] (.str (prB pr.toNat ++ (parsText ps ++ it ++ [fi]))) [] [] := by
  refine FS.of hm hst is_wirebody (by simp) fun γ hγ hfr => ?_
  have hsl := parsText_len hp
  have hsc : Sq.c ⟨k, pr.toNat, ps, it, fi.toNat, da⟩ = [.int .i64 k, .int .u8 (pr.toNat : Int), .sl none 1 (parsAV ps), .str it, .int .u8 (fi.toNat : Int), .str da] := rfl
  (generalize hQ : (fun (ex : Ex) (_ _ : Nat) (s : St) => _) = Q; unfold ir_wirebody)
  simp +contextual (maxSteps := 1000000) only [hsc, parsAV_length, go_sem, reduceCtorEq, ↓reduceIte, Nat.reduceAdd, Nat.reduceEqDiff, Nat.reduceLeDiff, Nat.reduceMul, Nat.reduceBEq, Int.reduceBEq, Int.reduceBNe, Int.reduceLT, Int.reduceLE, Int.reduceGT, Int.reduceGE, Int.reduceToNat, Int.natCast_one, Int.natCast_zero, Int.cast_ofNat_Int]
  refine kLoop_ix (fun q : Nat × Option Nm => ⟨lf [(1, .ptr (γ, 0, 0) 0), (3, sv q.2 1 (strsAV ((ps.take q.1).map subText))), (8, .sl none 1 (parsAV ps)), (9, .int .i64 (ps.length : Int)), (10, .int .i64 (q.1 : Int))], [((γ, 0, 0), .cells [.int .i64 k, .int .u8 (pr.toNat : Int), .sl none 1 (parsAV ps), .str it, .int .u8 (fi.toNat : Int), .str da])], fun x => q.2 = some x⟩)
    (fun q => q.1 ≤ ps.length ∧ (q.2 = none → q.1 = 0)) (fun q => ps.length - q.1) 0 (0, none) ?_ ⟨by simp, by simp⟩ ?_
  · refine Wk.perm' ?_ (fun p hp => hp) (fun t ht => by cases ht)
    simp only [lfOK, upd]
    repeat' first | exact AVle.refl _ _ | exact trivial | refine And.intro ?_ ?_ | exact AVle.int (by simp only [IntKind.wrap_i64]; omega)
  · rintro γ' ⟨i, tk⟩ hf ⟨hi, htk⟩
    simp only at hi htk
    generalize hQ' : kIt _ _ _ _ _ = Q'
    unfold ir_wirebody_l0
    by_cases hlt : i < ps.length
    · have hd : decide ((i : Int) < (ps.length : Int)) = true := by simp; omega
      have hg1 : (parsAV ps).getD i [] = [.sl none 1 (intsAV ps[i])] := parsAV_get hlt
      have hpi := hp _ (List.getElem_mem hlt)
      have c1 := fs_one (Gl := Gl) hst (p := ps[i]) (t := none) (by omega) hpi.2
      have htk1 : (ps.take (i + 1)).map subText = (ps.take i).map subText ++ [subText ps[i]] := by
        rw [List.take_add_one, List.getElem?_eq_getElem hlt, List.map_append]; rfl
      have hlen : (strsAV ((ps.take i).map subText)).length ≤ ps.length := by rw [strsAV_length]; simp; omega
      cases tk with
      | none =>
        have h0 := htk rfl
        have ht0 : ps.take i = [] := by rw [h0]; rfl
        rw [ht0, List.map_nil, List.nil_append] at htk1
        simp +contextual (maxSteps := 1000000) only [hd, hg1, Int.toNat_natCast, parsAV_length, go_sem, reduceCtorEq, ↓reduceIte, Nat.reduceAdd, Nat.reduceEqDiff, Nat.reduceLeDiff, Nat.reduceMul, Nat.reduceBEq, Int.reduceBEq, Int.reduceBNe, Int.reduceLT, Int.reduceLE, Int.reduceGT, Int.reduceGE, Int.reduceToNat, Int.natCast_one, Int.natCast_zero, Int.cast_ofNat_Int]
        refine ⟨⟨by omega, by omega⟩, ?_⟩
        (refine CallP.pure (c1) (fun _ => rfl) ?_; simp +contextual (maxSteps := 1000000) only [go_sem, reduceCtorEq, ↓reduceIte, Nat.reduceAdd, Nat.reduceEqDiff, Nat.reduceLeDiff, Nat.reduceMul, Nat.reduceBEq, Int.reduceBEq, Int.reduceBNe, Int.reduceLT, Int.reduceLE, Int.reduceGT, Int.reduceGE, Int.reduceToNat, Int.natCast_one, Int.natCast_zero, Int.cast_ofNat_Int])
        rw [← hQ']
        simp only [w_kIt_n]
        refine ⟨0, (i + 1, some (γ', 8, 0)), Wk.perm' ?_ (fun p hp => hp) ?_, ⟨by simp only; omega, by simp⟩, by simp only; omega⟩
        · simp only [htk1, sv_some, strsAV, List.map_cons, List.map_nil]
          repeat' first | exact AVle.refl _ _ | exact trivial | refine And.intro ?_ ?_ | exact AVle.int (by simp only [IntKind.wrap_i64]; omega)
        · intro t ht
          cases ht
          exact .inl rfl
      | some t0 =>
        simp +contextual (maxSteps := 1000000) only [hd, hg1, Int.toNat_natCast, parsAV_length, go_sem, reduceCtorEq, ↓reduceIte, Nat.reduceAdd, Nat.reduceEqDiff, Nat.reduceLeDiff, Nat.reduceMul, Nat.reduceBEq, Int.reduceBEq, Int.reduceBNe, Int.reduceLT, Int.reduceLE, Int.reduceGT, Int.reduceGE, Int.reduceToNat, Int.natCast_one, Int.natCast_zero, Int.cast_ofNat_Int]
        refine ⟨⟨by omega, by omega⟩, ?_⟩
        (refine CallP.pure (c1) (fun _ => rfl) ?_; simp +contextual (maxSteps := 1000000) only [go_sem, reduceCtorEq, ↓reduceIte, Nat.reduceAdd, Nat.reduceEqDiff, Nat.reduceLeDiff, Nat.reduceMul, Nat.reduceBEq, Int.reduceBEq, Int.reduceBNe, Int.reduceLT, Int.reduceLE, Int.reduceGT, Int.reduceGE, Int.reduceToNat, Int.natCast_one, Int.natCast_zero, Int.cast_ofNat_Int])
        refine ⟨⟨.inr trivial, by omega⟩, ?_⟩
        rw [← hQ']
        simp only [w_kIt_n]
        refine ⟨0, (i + 1, some (γ', 8, 0)), Wk.perm' ?_ (fun p hp => hp) ?_, ⟨by simp only; omega, by simp⟩, by simp only; omega⟩
        · simp only [htk1, sv_some, strsAV_snoc]
          repeat' first | exact AVle.refl _ _ | exact trivial | refine And.intro ?_ ?_ | exact AVle.int (by simp only [IntKind.wrap_i64]; omega)
        · intro t ht
          cases ht
          exact .inl rfl
    · have hii : i = ps.length := by omega
      have hd : decide ((i : Int) < (ps.length : Int)) = false := by simp; omega
      have hfull : (ps.take i).map subText = ps.map subText := by rw [List.take_of_length_le (by omega)]
      have hz : Lib.join (ps.map subText) [59] = parsText ps := join_jn 59 _
      have hjl : (Lib.join (ps.map subText) [59]).length ≤ 140737488355328 := by rw [hz]; omega
      have c1 : FS Tryz.prog Gl 98 [sv tk 1 (strsAV (ps.map subText)), .str [59]] [] [] (.str (parsText ps)) [] [] := by
        rw [← hz]
        cases tk with
        | none =>
          have h0 : ps = [] := List.length_eq_zero_iff.1 (by rw [← hii]; exact htk rfl)
          exact (fs_Join (Gl := Gl) (xs := ps.map subText) (sep := [59]) (t := none) (by simp; omega) hjl).args ⟨by rw [h0]; exact RepLe.nils 1, RepLe.refl _, trivial⟩
        | some t0 => exact fs_Join (Gl := Gl) (xs := ps.map subText) (sep := [59]) (t := some t0) (by simp; omega) hjl
      simp +contextual (maxSteps := 1000000) only [hd, hfull, go_sem, reduceCtorEq, ↓reduceIte, Nat.reduceAdd, Nat.reduceEqDiff, Nat.reduceLeDiff, Nat.reduceMul, Nat.reduceBEq, Int.reduceBEq, Int.reduceBNe, Int.reduceLT, Int.reduceLE, Int.reduceGT, Int.reduceGE, Int.reduceToNat, Int.natCast_one, Int.natCast_zero, Int.cast_ofNat_Int]
      rw [← hQ']
      simp only [w_kIt_e, w_kBlk_e, ↓reduceIte]
      simp +contextual (maxSteps := 1000000) only [go_sem, reduceCtorEq, ↓reduceIte, Nat.reduceAdd, Nat.reduceEqDiff, Nat.reduceLeDiff, Nat.reduceMul, Nat.reduceBEq, Int.reduceBEq, Int.reduceBNe, Int.reduceLT, Int.reduceLE, Int.reduceGT, Int.reduceGE, Int.reduceToNat, Int.natCast_one, Int.natCast_zero, Int.cast_ofNat_Int]
      refine DCall.new c1 ?_
      simp +contextual (maxSteps := 1000000) only [isByte_one, unbyte_c, go_sem, reduceCtorEq, ↓reduceIte, Nat.reduceAdd, Nat.reduceEqDiff, Nat.reduceLeDiff, Nat.reduceMul, Nat.reduceBEq, Int.reduceBEq, Int.reduceBNe, Int.reduceLT, Int.reduceLE, Int.reduceGT, Int.reduceGE, Int.reduceToNat, Int.natCast_one, Int.natCast_zero, Int.cast_ofNat_Int]
      refine ⟨by omega, by simp only [List.length_append]; omega, ?_⟩
      have hpr : ((pr.toNat : Int).toNat).toUInt8 = pr := by rw [Int.toNat_natCast]; exact UInt8.ofNat_toNat
      cases hq : ((pr.toNat : Int) != 0) with
      | false =>
        simp +contextual (maxSteps := 1000000) only [go_sem, reduceCtorEq, ↓reduceIte, Nat.reduceAdd, Nat.reduceEqDiff, Nat.reduceLeDiff, Nat.reduceMul, Nat.reduceBEq, Int.reduceBEq, Int.reduceBNe, Int.reduceLT, Int.reduceLE, Int.reduceGT, Int.reduceGE, Int.reduceToNat, Int.natCast_one, Int.natCast_zero, Int.cast_ofNat_Int]
        have hz1 : prB (pr.toNat : Int) = [] := by rw [prB, hq]; rfl
        rw [← hQ, hz1]
        exact ⟨trivial, Ret.flat rfl rfl⟩
      | true =>
        simp +contextual (maxSteps := 1000000) only [isByte_one, unbyte_c, go_sem, reduceCtorEq, ↓reduceIte, Nat.reduceAdd, Nat.reduceEqDiff, Nat.reduceLeDiff, Nat.reduceMul, Nat.reduceBEq, Int.reduceBEq, Int.reduceBNe, Int.reduceLT, Int.reduceLE, Int.reduceGT, Int.reduceGE, Int.reduceToNat, Int.natCast_one, Int.natCast_zero, Int.cast_ofNat_Int]
        refine ⟨by simp only [List.length_append, List.length_cons, List.length_nil]; omega, ?_⟩
        have hz1 : prB (pr.toNat : Int) = [pr] := by rw [prB, hq, hpr]; rfl
        rw [← hQ, hz1]
        exact ⟨trivial, Ret.flat rfl rfl⟩
end Go.Proofs.YthmjlngdbabdeaaGreatDoor

/- Sequences as bytes, walked: the program's Put. -/
set_option linter.unusedVariables false
set_option linter.unusedSimpArgs false
set_option maxRecDepth 100000
namespace Go.Proofs.YthmjlngdbabdeaaGreatDoor
open Go Go.Ab
/-- clavier/wire.Put -/
def ir_wirePut : ICode :=
 (.seq
  (.reg [⟨some 1, none, .box 35 (.t 0)⟩,
    ⟨some 2, none, .mov (.c .nils)⟩,
    ⟨some 3, none, .mov (.c (.int .i64 0))⟩] (some [1]))
  (.seq
   (.seq
    (.reg [⟨some 5, none, .ld (some 6) (.t 1)⟩,
      ⟨some 6, none, .call (.c (.fn (.func 64) [] [])) [(.t 5)]⟩,
      ⟨some 4, none, .mov (.t 6)⟩] (some [1, 4]))
    (.seq
     (.reg [⟨some 7, none, .mov (.t 4)⟩,
       ⟨some 8, none, .bin .neq .none (.t 7) (.c (.int .i64 0))⟩] (some [1, 4, 8]))
     (.cond (.t 8)
      (.seq
       (.reg [⟨some 9, none, .mov (.t 4)⟩,
         ⟨some 2, none, .mov (.c .nils)⟩,
         ⟨some 3, none, .mov (.t 9)⟩] (some [2, 3]))
       .ret)
      .skip)))
   (.seq
    (.seq
     (.reg [⟨some 10, none, .fa 0 (.t 1)⟩,
       ⟨some 11, none, .ld none (.t 10)⟩] (some [1, 11]))
     (.blk 0
      (.seq
       (.reg [⟨some 13, none, .bin .eql .none (.t 11) (.c (.int .i64 1))⟩,
         ⟨some 12, none, .mov (.t 13)⟩] (some [1, 11, 12]))
       (.cond (.t 12)
        (.seq
         (.reg [⟨some 14, none, .ld (some 6) (.t 1)⟩,
           ⟨some 15, none, .call (.c (.fn (.func 66) [] [])) [(.t 14)]⟩,
           ⟨some 16, none, .row 9 1 [(.c (.str [91])), (.t 15)]⟩,
           ⟨some 17, none, .call (.c (.fn (.func 65) [] [])) [(.t 16)]⟩,
           ⟨some 2, none, .mov (.t 17)⟩,
           ⟨some 3, none, .mov (.c (.int .i64 0))⟩] (some [2, 3]))
         .ret)
        (.seq
         (.reg [⟨some 19, none, .bin .eql .none (.t 11) (.c (.int .i64 2))⟩,
           ⟨some 18, none, .mov (.t 19)⟩] (some [1, 11, 18]))
         (.cond (.t 18)
          (.seq
           (.reg [⟨some 20, none, .fa 4 (.t 1)⟩,
             ⟨some 21, none, .ld none (.t 20)⟩,
             ⟨some 22, none, .row 5 1 [(.t 21)]⟩,
             ⟨some 23, none, .b2s (.t 22)⟩,
             ⟨some 24, none, .row 9 1 [(.c (.str [79])), (.t 23)]⟩,
             ⟨some 25, none, .call (.c (.fn (.func 65) [] [])) [(.t 24)]⟩,
             ⟨some 2, none, .mov (.t 25)⟩,
             ⟨some 3, none, .mov (.c (.int .i64 0))⟩] (some [2, 3]))
           .ret)
          (.seq
           (.reg [⟨some 27, none, .bin .eql .none (.t 11) (.c (.int .i64 3))⟩,
             ⟨some 26, none, .mov (.t 27)⟩] (some [1, 11, 26]))
           (.cond (.t 26)
            (.seq
             (.drw [⟨⟨some 28, none, .ld (some 6) (.t 1)⟩, []⟩,
               ⟨⟨some 29, none, .call (.c (.fn (.func 66) [] [])) [(.t 28)]⟩, [0]⟩,
               ⟨⟨some 30, none, .fa 5 (.t 1)⟩, []⟩,
               ⟨⟨some 31, none, .ld none (.t 30)⟩, [2]⟩,
               ⟨⟨some 32, none, .row 9 1 [(.c (.str [80])), (.t 29), (.t 31), (.c (.str [27, 92]))]⟩, [1, 3]⟩,
               ⟨⟨some 33, none, .call (.c (.fn (.func 65) [] [])) [(.t 32)]⟩, [4, 1]⟩]
               [⟨some 2, none, .mov (.t 33)⟩,
               ⟨some 3, none, .mov (.c (.int .i64 0))⟩] (some [2, 3]))
             .ret)
            (.seq
             (.reg [⟨some 35, none, .bin .eql .none (.t 11) (.c (.int .i64 4))⟩,
               ⟨some 34, none, .mov (.t 35)⟩] (some [1, 34]))
             (.cond (.t 34)
              (.seq
               (.reg [⟨some 36, none, .fa 5 (.t 1)⟩,
                 ⟨some 37, none, .ld none (.t 36)⟩,
                 ⟨some 38, none, .row 9 1 [(.c (.str [93])), (.t 37), (.c (.str [27, 92]))]⟩,
                 ⟨some 39, none, .call (.c (.fn (.func 65) [] [])) [(.t 38)]⟩,
                 ⟨some 2, none, .mov (.t 39)⟩,
                 ⟨some 3, none, .mov (.c (.int .i64 0))⟩] (some [2, 3]))
               .ret)
              .skip))))))))))
    (.seq
     (.reg [⟨some 40, none, .ld (some 6) (.t 1)⟩,
       ⟨some 41, none, .call (.c (.fn (.func 66) [] [])) [(.t 40)]⟩,
       ⟨some 42, none, .row 9 1 [(.t 41)]⟩,
       ⟨some 43, none, .call (.c (.fn (.func 65) [] [])) [(.t 42)]⟩,
       ⟨some 2, none, .mov (.t 43)⟩,
       ⟨some 3, none, .mov (.c (.int .i64 0))⟩] (some [2, 3]))
     .ret))))
theorem is_wirePut : IrOf Tryz.prog 23 44 ir_wirePut [.t 2, .t 3] := ⟨_, Tryz.func23, rfl, by kernel_rfl, by kernel_rfl, by kernel_rfl⟩


theorem esc_plain {s : Sq} (h : mayP s = 0) (h1 : s.k ≠ 1) (h2 : s.k ≠ 2) (h3 : s.k ≠ 3) (h4 : s.k ≠ 4) : s.pr = 0 ∧ s.ps = [] := by
  have hs : shapedP s = true := by
    simp only [mayP] at h
    split at h
    · cases h
    · split at h
      · cases h
      · rename_i h2
        simp only [Bool.or_eq_true, Bool.not_eq_true', not_or, Bool.not_eq_false] at h2
        exact h2.2
  simp only [shapedP, if_neg h1, if_neg h2, if_neg h3, if_neg h4] at hs
  split at hs
  · simp only [Bool.and_eq_true, beq_iff_eq] at hs
    obtain ⟨⟨⟨⟨⟨q1, q2⟩, _⟩, _⟩, _⟩, _⟩ := hs
    exact ⟨q1, List.length_eq_zero_iff.1 (by omega)⟩
  · cases hs
set_option maxHeartbeats 4000000 in
theorem fs_wPut {Gl : Gh → Prop} (hst : Stays Gl) {s : Sq} (hp0 : 0 ≤ s.pr) (hp1 : s.pr < 256) (hf0 : 0 ≤ s.fi) (hf1 : s.fi < 128) (h : s.sm) : FS Tryz.prog Gl 23 [.agg s.c] [] [] (.tup [putV s, .int .i64 (mayP s)]) [] [] := by
  have c1 := fs_May (Gl := Gl) hst hf0 hf1 h.ps h.pp h.it h.da
  have hfl : (AV.tup [putV s, .int .i64 (mayP s)]).flatT = true := by
    unfold putV; split <;> rfl
  refine FS.ofW hm hst is_wirePut hfl (by simp) fun γ hγ hfr => ?_
  have hpv : putV s = if (mayP s != 0) = true then .nils else .sl none 1 (bytesAV (putB s)) := rfl
  have hda : mayP s = 0 → s.da.length ≤ 4096 := fun hz => (mayP_sm hz).2.2.2.2
  have hil : mayP s = 0 → s.it.length ≤ 2 := fun hz => (mayP_sm hz).2.2.2.1
  have hpl : mayP s = 0 → s.ps.length ≤ 16 := fun hz => (mayP_sm hz).2.1
  have hpp : mayP s = 0 → ∀ p ∈ s.ps, p.length ≤ 8 ∧ ∀ n ∈ p, n ≤ 1114111 := fun hz p hp => ⟨(mayP_sm hz).2.2.1 p hp, fun n hn => (((parsOk_iff (may_pars hz)).2.2 p hp).2.2 n hn).2⟩
  obtain ⟨k, pr, ps, it, fi, da⟩ := s
  simp only at hp0 hp1 hf0 hf1 hda hil hpl hpp
  obtain ⟨pr, rfl⟩ := byteOf hp0 hp1
  obtain ⟨fi, rfl⟩ := byteOf hf0 (by omega)
  have hbb : putB ⟨k, pr.toNat, ps, it, fi.toNat, da⟩ = (if (k == 1) = true then [27, 91] ++ (prB pr.toNat ++ parsText ps ++ it) ++ [fi]
    else if (k == 2) = true then [27, 79] ++ [fi]
    else if (k == 3) = true then [27, 80] ++ (prB pr.toNat ++ parsText ps ++ it) ++ [fi] ++ da ++ [27, 92]
    else if (k == 4) = true then [27, 93] ++ da ++ [27, 92]
    else [27] ++ it ++ [fi]) := by
    have : ((fi.toNat : Int).toNat).toUInt8 = fi := by rw [Int.toNat_natCast]; exact UInt8.ofNat_toNat
    simp only [putB, bodyB, this]
  have hcc : Sq.c ⟨k, pr.toNat, ps, it, fi.toNat, da⟩ = [.int .i64 k, .int .u8 (pr.toNat : Int), parsV ps, .str it, .int .u8 (fi.toNat : Int), .str da] := rfl
  rw [hcc] at c1
  generalize hmp : mayP _ = mp at *
  (generalize hQ : (fun (ex : Ex) (_ _ : Nat) (s : St) => _) = Q; unfold ir_wirePut)
  simp +contextual (maxSteps := 1000000) only [hcc, go_sem, reduceCtorEq, ↓reduceIte, Nat.reduceAdd, Nat.reduceEqDiff, Nat.reduceLeDiff, Nat.reduceMul, Nat.reduceBEq, Int.reduceBEq, Int.reduceBNe, Int.reduceLT, Int.reduceLE, Int.reduceGT, Int.reduceGE, Int.reduceToNat, Int.natCast_one, Int.natCast_zero, Int.cast_ofNat_Int]
  (refine CallP.pure (c1) (fun _ => rfl) ?_; simp +contextual (maxSteps := 1000000) only [go_sem, reduceCtorEq, ↓reduceIte, Nat.reduceAdd, Nat.reduceEqDiff, Nat.reduceLeDiff, Nat.reduceMul, Nat.reduceBEq, Int.reduceBEq, Int.reduceBNe, Int.reduceLT, Int.reduceLE, Int.reduceGT, Int.reduceGE, Int.reduceToNat, Int.natCast_one, Int.natCast_zero, Int.cast_ofNat_Int])
  by_cases hz : mp = 0
  · subst hz
    have hda := hda rfl
    have hil := hil rfl
    have c2 := fs_body (Gl := Gl) hst (k := k) (ps := ps) (it := it) (da := da) (pr := pr) (fi := fi) (hpl rfl) (hpp rfl) (by omega)
    rw [hcc] at c2
    have hsl := parsText_len (hpp rfl)
    have hpl := hpl rfl
    have hprl : (prB pr.toNat).length ≤ 1 := by unfold prB; split <;> simp
    have fin : ∀ {l : List UInt8} {γ c : Nat} {H : Hp} {T : Tk}, l = putB ⟨k, pr.toNat, ps, it, fi.toNat, da⟩ → Q .ret γ c ⟨lf [(2, .sl none 1 (bytesAV l)), (3, .int .i64 0)], H, T⟩ := by
      intro l γ c H T hl
      rw [← hQ, hpv, hl]
      exact ⟨trivial, .inl ⟨_, rfl, RepLe.refl _⟩⟩
    have hpt : (parsText ps).length ≤ 3000 := by omega
    have hk1 : (k == 1) = true ∨ (k == 1) = false := by cases (k == 1) <;> simp
    rcases hk1 with hk1 | hk1
    · simp +contextual (maxSteps := 1000000) only [hk1, go_sem, reduceCtorEq, ↓reduceIte, Nat.reduceAdd, Nat.reduceEqDiff, Nat.reduceLeDiff, Nat.reduceMul, Nat.reduceBEq, Int.reduceBEq, Int.reduceBNe, Int.reduceLT, Int.reduceLE, Int.reduceGT, Int.reduceGE, Int.reduceToNat, Int.natCast_one, Int.natCast_zero, Int.cast_ofNat_Int]
      (refine CallP.pure (c2) (fun _ => rfl) ?_; simp +contextual (maxSteps := 1000000) only [go_sem, reduceCtorEq, ↓reduceIte, Nat.reduceAdd, Nat.reduceEqDiff, Nat.reduceLeDiff, Nat.reduceMul, Nat.reduceBEq, Int.reduceBEq, Int.reduceBNe, Int.reduceLT, Int.reduceLE, Int.reduceGT, Int.reduceGE, Int.reduceToNat, Int.natCast_one, Int.natCast_zero, Int.cast_ofNat_Int])
      (refine CallP.pure (fs_glue (xs := [[91], prB pr.toNat ++ (parsText ps ++ it ++ [fi])]) hst (by simp) (by simp; omega)) (fun _ => rfl) ?_; simp +contextual (maxSteps := 1000000) only [go_sem, reduceCtorEq, ↓reduceIte, Nat.reduceAdd, Nat.reduceEqDiff, Nat.reduceLeDiff, Nat.reduceMul, Nat.reduceBEq, Int.reduceBEq, Int.reduceBNe, Int.reduceLT, Int.reduceLE, Int.reduceGT, Int.reduceGE, Int.reduceToNat, Int.natCast_one, Int.natCast_zero, Int.cast_ofNat_Int])
      refine fin ?_
      rw [hbb, if_pos hk1]; simp
    have hk2 : (k == 2) = true ∨ (k == 2) = false := by cases (k == 2) <;> simp
    rcases hk2 with hk2 | hk2
    · simp +contextual (maxSteps := 1000000) only [hk1, hk2, isByte_one, unbyte_c, go_sem, reduceCtorEq, ↓reduceIte, Nat.reduceAdd, Nat.reduceEqDiff, Nat.reduceLeDiff, Nat.reduceMul, Nat.reduceBEq, Int.reduceBEq, Int.reduceBNe, Int.reduceLT, Int.reduceLE, Int.reduceGT, Int.reduceGE, Int.reduceToNat, Int.natCast_one, Int.natCast_zero, Int.cast_ofNat_Int]
      (refine CallP.pure (fs_glue (xs := [[79], [fi]]) hst (by simp) (by simp)) (fun _ => rfl) ?_; simp +contextual (maxSteps := 1000000) only [go_sem, reduceCtorEq, ↓reduceIte, Nat.reduceAdd, Nat.reduceEqDiff, Nat.reduceLeDiff, Nat.reduceMul, Nat.reduceBEq, Int.reduceBEq, Int.reduceBNe, Int.reduceLT, Int.reduceLE, Int.reduceGT, Int.reduceGE, Int.reduceToNat, Int.natCast_one, Int.natCast_zero, Int.cast_ofNat_Int])
      refine fin ?_
      rw [hbb, hk1, if_neg (by simp), if_pos hk2]; simp
    have hk3 : (k == 3) = true ∨ (k == 3) = false := by cases (k == 3) <;> simp
    rcases hk3 with hk3 | hk3
    · simp +contextual (maxSteps := 1000000) only [hk1, hk2, hk3, go_sem, reduceCtorEq, ↓reduceIte, Nat.reduceAdd, Nat.reduceEqDiff, Nat.reduceLeDiff, Nat.reduceMul, Nat.reduceBEq, Int.reduceBEq, Int.reduceBNe, Int.reduceLT, Int.reduceLE, Int.reduceGT, Int.reduceGE, Int.reduceToNat, Int.natCast_one, Int.natCast_zero, Int.cast_ofNat_Int]
      refine DCall.new c2 ?_
      simp +contextual (maxSteps := 1000000) only [go_sem, reduceCtorEq, ↓reduceIte, Nat.reduceAdd, Nat.reduceEqDiff, Nat.reduceLeDiff, Nat.reduceMul, Nat.reduceBEq, Int.reduceBEq, Int.reduceBNe, Int.reduceLT, Int.reduceLE, Int.reduceGT, Int.reduceGE, Int.reduceToNat, Int.natCast_one, Int.natCast_zero, Int.cast_ofNat_Int]
      refine ⟨by simp [AV.closedL, AV.closed], DCall.new (fs_glue (xs := [[80], prB pr.toNat ++ (parsText ps ++ it ++ [fi]), da, [27, 92]]) hst (by simp) (by simp; omega)) ?_⟩
      simp +contextual (maxSteps := 1000000) only [go_sem, reduceCtorEq, ↓reduceIte, Nat.reduceAdd, Nat.reduceEqDiff, Nat.reduceLeDiff, Nat.reduceMul, Nat.reduceBEq, Int.reduceBEq, Int.reduceBNe, Int.reduceLT, Int.reduceLE, Int.reduceGT, Int.reduceGE, Int.reduceToNat, Int.natCast_one, Int.natCast_zero, Int.cast_ofNat_Int]
      refine fin ?_
      rw [hbb, hk1, if_neg (by simp), hk2, if_neg (by simp), if_pos hk3]; simp
    have hk4 : (k == 4) = true ∨ (k == 4) = false := by cases (k == 4) <;> simp
    rcases hk4 with hk4 | hk4
    · simp +contextual (maxSteps := 1000000) only [hk1, hk2, hk3, hk4, go_sem, reduceCtorEq, ↓reduceIte, Nat.reduceAdd, Nat.reduceEqDiff, Nat.reduceLeDiff, Nat.reduceMul, Nat.reduceBEq, Int.reduceBEq, Int.reduceBNe, Int.reduceLT, Int.reduceLE, Int.reduceGT, Int.reduceGE, Int.reduceToNat, Int.natCast_one, Int.natCast_zero, Int.cast_ofNat_Int]
      (refine CallP.pure (fs_glue (xs := [[93], da, [27, 92]]) hst (by simp) (by simp; omega)) (fun _ => rfl) ?_; simp +contextual (maxSteps := 1000000) only [go_sem, reduceCtorEq, ↓reduceIte, Nat.reduceAdd, Nat.reduceEqDiff, Nat.reduceLeDiff, Nat.reduceMul, Nat.reduceBEq, Int.reduceBEq, Int.reduceBNe, Int.reduceLT, Int.reduceLE, Int.reduceGT, Int.reduceGE, Int.reduceToNat, Int.natCast_one, Int.natCast_zero, Int.cast_ofNat_Int])
      refine fin ?_
      rw [hbb, hk1, if_neg (by simp), hk2, if_neg (by simp), hk3, if_neg (by simp), if_pos hk4]; simp
    · simp +contextual (maxSteps := 1000000) only [hk1, hk2, hk3, hk4, go_sem, reduceCtorEq, ↓reduceIte, Nat.reduceAdd, Nat.reduceEqDiff, Nat.reduceLeDiff, Nat.reduceMul, Nat.reduceBEq, Int.reduceBEq, Int.reduceBNe, Int.reduceLT, Int.reduceLE, Int.reduceGT, Int.reduceGE, Int.reduceToNat, Int.natCast_one, Int.natCast_zero, Int.cast_ofNat_Int]
      (refine CallP.pure (c2) (fun _ => rfl) ?_; simp +contextual (maxSteps := 1000000) only [go_sem, reduceCtorEq, ↓reduceIte, Nat.reduceAdd, Nat.reduceEqDiff, Nat.reduceLeDiff, Nat.reduceMul, Nat.reduceBEq, Int.reduceBEq, Int.reduceBNe, Int.reduceLT, Int.reduceLE, Int.reduceGT, Int.reduceGE, Int.reduceToNat, Int.natCast_one, Int.natCast_zero, Int.cast_ofNat_Int])
      (refine CallP.pure (fs_glue (xs := [prB pr.toNat ++ (parsText ps ++ it ++ [fi])]) hst (by simp) (by simp; omega)) (fun _ => rfl) ?_; simp +contextual (maxSteps := 1000000) only [go_sem, reduceCtorEq, ↓reduceIte, Nat.reduceAdd, Nat.reduceEqDiff, Nat.reduceLeDiff, Nat.reduceMul, Nat.reduceBEq, Int.reduceBEq, Int.reduceBNe, Int.reduceLT, Int.reduceLE, Int.reduceGT, Int.reduceGE, Int.reduceToNat, Int.natCast_one, Int.natCast_zero, Int.cast_ofNat_Int])
      refine fin ?_
      rw [hbb, hk1, if_neg (by simp), hk2, if_neg (by simp), hk3, if_neg (by simp), hk4, if_neg (by simp)]
      obtain ⟨hpl1, hpl2⟩ := esc_plain hmp (by simpa using hk1) (by simpa using hk2) (by simpa using hk3) (by simpa using hk4)
      simp only at hpl1 hpl2
      rw [hpl1, hpl2]; rfl
  · have hq : (mp != 0) = true := by simp [hz]
    simp +contextual (maxSteps := 1000000) only [hq, go_sem, reduceCtorEq, ↓reduceIte, Nat.reduceAdd, Nat.reduceEqDiff, Nat.reduceLeDiff, Nat.reduceMul, Nat.reduceBEq, Int.reduceBEq, Int.reduceBNe, Int.reduceLT, Int.reduceLE, Int.reduceGT, Int.reduceGE, Int.reduceToNat, Int.natCast_one, Int.natCast_zero, Int.cast_ofNat_Int]
    rw [← hQ, hpv, if_pos hq]
    exact ⟨trivial, .inl ⟨_, rfl, RepLe.refl _⟩⟩
end Go.Proofs.YthmjlngdbabdeaaGreatDoor

/- Keys by flags, walked: Key. -/
set_option linter.unusedVariables false
set_option linter.unusedSimpArgs false
set_option maxRecDepth 100000
namespace Go.Proofs.YthmjlngdbabdeaaGreatDoor
open Go Go.Ab
/-- clavier/kitty.Key -/
def ir_kittyKey : ICode :=
 (.seq
  (.reg [⟨some 3, none, .box 23 (.t 1)⟩,
    ⟨some 4, none, .mov (.c .nils)⟩] (some [0, 3]))
  (.seq
   (.drw [⟨⟨some 11, none, .ld (some 6) (.t 3)⟩, []⟩,
     ⟨⟨some 12, none, .mov (.t 0)⟩, []⟩,
     ⟨⟨some 13, none, .fa 0 (.t 3)⟩, []⟩,
     ⟨⟨some 14, none, .ld none (.t 13)⟩, [2]⟩,
     ⟨⟨some 15, none, .call (.c (.fn (.func 18) [] [])) [(.t 14)]⟩, [3]⟩,
     ⟨⟨some 16, none, .fld 0 none (.t 15)⟩, [4]⟩,
     ⟨⟨some 17, none, .bld [(.int .i64 0), (.int .i64 0), (.int .i64 0), (.int .i64 0), (.int .i64 0), (.str []), (.int .i64 0), (.int .i64 0)] [(0, 6, (.t 11)), (6, 1, (.t 12)), (7, 1, (.t 16))]⟩, [0, 1, 5]⟩,
     ⟨⟨some 5, none, .box 51 (.c (.agg [(.int .i64 0), (.int .i64 0), (.int .i64 0), (.int .i64 0), (.int .i64 0), (.str []), (.int .i64 0), (.int .i64 0)]))⟩, []⟩]
     [⟨none, none, .st 8 (.t 5) (.t 17)⟩] (some [3, 5]))
   (.seq
    (.seq
     (.reg [⟨some 18, none, .ld (some 6) (.t 3)⟩,
       ⟨some 19, none, .call (.c (.fn (.func 20) [] [])) [(.t 18)]⟩,
       ⟨some 20, none, .un .not (.t 19)⟩,
       ⟨some 21, none, .mov (.t 20)⟩,
       ⟨some 22, some (21, false), .ld (some 8) (.t 5)⟩,
       ⟨some 23, some (21, false), .call (.c (.fn (.func 21) [] [])) [(.t 22)]⟩,
       ⟨some 24, some (21, false), .un .not (.t 23)⟩,
       ⟨some 25, none, .pick (.t 21) (.c (.bool true)) (.t 24)⟩] (some [3, 5, 25]))
     (.cond (.t 25)
      (.seq
       (.reg [⟨some 4, none, .mov (.c .nils)⟩] (some [4]))
       .ret)
      .skip))
    (.seq
     (.seq
      (.reg [⟨some 26, none, .ld (some 8) (.t 5)⟩,
        ⟨some 27, none, .call (.c (.fn (.func 22) [] [])) [(.t 26)]⟩,
        ⟨some 6, none, .mov (.t 27)⟩] (some [3, 5, 6]))
      (.seq
       (.reg [⟨some 28, none, .mov (.t 6)⟩,
         ⟨some 29, none, .len (.t 28)⟩,
         ⟨some 30, none, .bin .gtr .none (.t 29) (.c (.int .i64 0))⟩] (some [3, 5, 6, 30]))
       (.cond (.t 30)
        (.seq
         (.reg [⟨some 31, none, .mov (.t 6)⟩,
           ⟨some 4, none, .mov (.t 31)⟩] (some [4]))
         .ret)
        .skip)))
     (.seq
      (.reg [⟨some 33, none, .fa 0 (.t 3)⟩,
        ⟨some 34, none, .ld none (.t 33)⟩,
        ⟨some 35, none, .call (.c (.fn (.func 9) [] [])) [(.t 34)]⟩,
        ⟨some 32, none, .mov (.t 35)⟩,
        ⟨some 36, none, .ext (.t 32) 0⟩,
        ⟨some 37, none, .ext (.t 32) 1⟩,
        ⟨some 7, none, .mov (.t 36)⟩,
        ⟨some 8, none, .mov (.t 37)⟩] (some [5, 7, 8]))
      (.seq
       (.drw [⟨⟨some 39, none, .mov (.t 8)⟩, []⟩,
         ⟨⟨some 40, none, .ld (some 8) (.t 5)⟩, []⟩,
         ⟨⟨some 41, none, .mov (.t 7)⟩, []⟩,
         ⟨⟨some 42, none, .mov (.t 8)⟩, []⟩,
         ⟨⟨some 43, none, .call (.c (.fn (.func 25) [] [])) [(.t 40), (.t 41), (.t 42)]⟩, [1, 2, 3]⟩,
         ⟨⟨some 44, none, .ld (some 8) (.t 5)⟩, []⟩,
         ⟨⟨some 45, none, .call (.c (.fn (.func 26) [] [])) [(.t 44)]⟩, [5, 4]⟩,
         ⟨⟨some 46, none, .ld (some 8) (.t 5)⟩, []⟩,
         ⟨⟨some 47, none, .call (.c (.fn (.func 27) [] [])) [(.t 46)]⟩, [7, 6]⟩,
         ⟨⟨some 48, none, .row 56 1 [(.t 43), (.t 45), (.t 47)]⟩, [4, 6, 8]⟩,
         ⟨⟨some 49, none, .call (.c (.fn (.func 24) [] [])) [(.t 48)]⟩, [9, 8]⟩,
         ⟨⟨some 50, none, .bld [(.int .i64 0), (.int .u8 0), .nils, (.str []), (.int .u8 0), (.str [])] [(0, 1, (.c (.int .i64 1))), (4, 1, (.t 39)), (2, 1, (.t 49))]⟩, [0, 10]⟩,
         ⟨⟨some 51, none, .call (.c (.fn (.func 23) [] [])) [(.t 50)]⟩, [11, 10]⟩,
         ⟨⟨some 38, none, .mov (.t 51)⟩, [12]⟩,
         ⟨⟨some 52, none, .ext (.t 38) 0⟩, [13]⟩,
         ⟨⟨some 53, none, .ext (.t 38) 1⟩, [13]⟩,
         ⟨⟨some 9, none, .mov (.t 52)⟩, [14, 12, 0, 1, 2, 3, 4, 5, 6, 7, 8, 9, 10, 11, 12, 13, 14]⟩]
         [⟨some 10, none, .mov (.t 53)⟩] (some [9]))
       (.seq
        (.reg [⟨some 54, none, .mov (.t 9)⟩,
          ⟨some 4, none, .mov (.t 54)⟩] (some [4]))
        .ret)))))))
theorem is_kittyKey : IrOf Tryz.prog 11 55 ir_kittyKey [.t 4] := ⟨_, Tryz.func11, rfl, by kernel_rfl, by kernel_rfl, by kernel_rfl⟩


def putX (s : Sq) : List UInt8 := if (mayP s != 0) = true then [] else putB s
theorem putV_le (s : Sq) : RepLe (putV s) (.sl none 1 (bytesAV (putX s))) := by
  unfold putV putX
  split
  · exact RepLe.nils 1
  · exact RepLe.refl _
theorem letR_lt (c : Int) : (letR c).toNat < 128 := by
  unfold letR
  repeat' split
  all_goals first | decide | (rw [UInt8.toNat_ofNat', Nat.mod_eq_of_lt (by omega)]; omega)
theorem formK_lt (c : Int) : (formK c).2.toNat < 128 := by
  simp only [formK]
  split
  · decide
  · split
    · decide
    · split
      · rename_i h
        show (lookR c).final.toNat < 128
        unfold lookR at h ⊢
        split
        · exact letR_lt c
        · rename_i h1
          rw [if_neg h1] at h
          split
          · exact (by decide : (0 : UInt8).toNat < 128)
          · rename_i h2
            rw [if_neg h2] at h
            split
            · rename_i h3
              rw [if_pos h3] at h
              have : (padR c).kind = 5 := by unfold padR; split <;> rfl
              rw [this] at h
              exact absurd h.1 (by decide)
            · exact (by decide : (0 : UInt8).toNat < 128)
      · split
        · exact (by decide : (126 : UInt8).toNat < 128)
        · exact (by decide : (117 : UInt8).toNat < 128)
def keySq (fl : Int) (k : Ky) : Sq := ⟨1, 0, trimK [firstK fl k (formK k.code).1 (formK k.code).2.toNat, secondK fl k, thirdK fl k] 3, [], (formK k.code).2.toNat, []⟩
def keyK (fl : Int) (k : Ky) : List UInt8 :=
  if (!mayK k || !sentK fl k) = true then []
  else if textK fl k ≠ [] then textK fl k
  else putX (keySq fl k)
set_option maxHeartbeats 4000000 in
theorem fs_Key {Gl : Gh → Prop} (hst : Stays Gl) {k : Ky} {fl : Int} (hfl : fl ≤ 9223372036854775807) (ht : k.text.length ≤ 1000000000000) : FS Tryz.prog Gl 11 [.int .i64 fl, .agg (kyAV k)] [] [] (.sl none 1 (bytesAV (keyK fl k))) [] [] := by
  refine FS.ofW hm hst is_kittyKey rfl (by simp) fun γ hγ hfr => ?_
  have c1 := fs_Look (Gl := Gl) hst (c := k.code)
  rw [ent_eq] at c1
  have c2 := fs_MayK (Gl := Gl) hst ht
  have c3 := fs_sent (Gl := Gl) hst (k := k) hfl
  rw [evC] at c3
  have hky : kyAV k = [.int .i64 k.code, .int .i64 k.mods, .int .i64 k.type, .int .i64 k.shifted, .int .i64 k.base, .str k.text] := rfl
  rw [hky] at c2
  have hkd : (lookR k.code).kind = kindK k.code := rfl
  rw [hkd] at c1
  have hkk : keyK fl k = (if (!mayK k || !sentK fl k) = true then [] else if textK fl k ≠ [] then textK fl k else putX (keySq fl k)) := rfl
  (generalize hQ : (fun (ex : Ex) (_ _ : Nat) (s : St) => _) = Q; unfold ir_kittyKey)
  simp +contextual (maxSteps := 1000000) only [hky, go_sem, reduceCtorEq, ↓reduceIte, Nat.reduceAdd, Nat.reduceEqDiff, Nat.reduceLeDiff, Nat.reduceMul, Nat.reduceBEq, Int.reduceBEq, Int.reduceBNe, Int.reduceLT, Int.reduceLE, Int.reduceGT, Int.reduceGE, Int.reduceToNat, Int.natCast_one, Int.natCast_zero, Int.cast_ofNat_Int]
  refine DCall.new c1 ?_
  simp +contextual (maxSteps := 1000000) only [go_sem, reduceCtorEq, ↓reduceIte, Nat.reduceAdd, Nat.reduceEqDiff, Nat.reduceLeDiff, Nat.reduceMul, Nat.reduceBEq, Int.reduceBEq, Int.reduceBNe, Int.reduceLT, Int.reduceLE, Int.reduceGT, Int.reduceGE, Int.reduceToNat, Int.natCast_one, Int.natCast_zero, Int.cast_ofNat_Int]
  refine ⟨fun p hp => ?_, ?_⟩
  · simp only [List.mem_cons, List.not_mem_nil, or_false] at hp
    rcases hp with rfl | rfl | rfl <;> simp [Xev_t, mask_app, upd_app, AV.cells, oneL, AV.one]
  cases hmk : mayK k with
  | false =>
    rw [hmk] at c2
    (refine CallP.pure (c2) (fun _ => rfl) ?_; simp +contextual (maxSteps := 1000000) only [go_sem, reduceCtorEq, ↓reduceIte, Nat.reduceAdd, Nat.reduceEqDiff, Nat.reduceLeDiff, Nat.reduceMul, Nat.reduceBEq, Int.reduceBEq, Int.reduceBNe, Int.reduceLT, Int.reduceLE, Int.reduceGT, Int.reduceGE, Int.reduceToNat, Int.natCast_one, Int.natCast_zero, Int.cast_ofNat_Int])
    have hz : keyK fl k = [] := by rw [hkk, hmk]; rfl
    rw [← hQ, hz]
    exact ⟨trivial, .inl ⟨_, rfl, RepLe.nils 1⟩⟩
  | true =>
    rw [hmk] at c2
    have hmods : 0 ≤ k.mods ∧ k.mods ≤ 255 := by
      simp only [mayK, Bool.and_eq_true, decide_eq_true_eq] at hmk
      exact ⟨hmk.1.1.1.1.1.1.2, hmk.1.1.1.1.1.2⟩
    have c4 := fs_text (Gl := Gl) hst (k := k) hfl hmods.1 hmods.2 ht
    rw [evC] at c4
    cases hse : sentK fl k with
    | false =>
      rw [hse] at c3
      (refine CallP.pure (c2) (fun _ => rfl) ?_; simp +contextual (maxSteps := 1000000) only [go_sem, reduceCtorEq, ↓reduceIte, Nat.reduceAdd, Nat.reduceEqDiff, Nat.reduceLeDiff, Nat.reduceMul, Nat.reduceBEq, Int.reduceBEq, Int.reduceBNe, Int.reduceLT, Int.reduceLE, Int.reduceGT, Int.reduceGE, Int.reduceToNat, Int.natCast_one, Int.natCast_zero, Int.cast_ofNat_Int])
      (refine CallP.pure (c3) (fun _ => rfl) ?_; simp +contextual (maxSteps := 1000000) only [go_sem, reduceCtorEq, ↓reduceIte, Nat.reduceAdd, Nat.reduceEqDiff, Nat.reduceLeDiff, Nat.reduceMul, Nat.reduceBEq, Int.reduceBEq, Int.reduceBNe, Int.reduceLT, Int.reduceLE, Int.reduceGT, Int.reduceGE, Int.reduceToNat, Int.natCast_one, Int.natCast_zero, Int.cast_ofNat_Int])
      have hz : keyK fl k = [] := by rw [hkk, hmk, hse]; rfl
      rw [← hQ, hz]
      exact ⟨trivial, .inl ⟨_, rfl, RepLe.nils 1⟩⟩
    | true =>
      rw [hse] at c3
      have hk2 : keyK fl k = if textK fl k ≠ [] then textK fl k else putX (keySq fl k) := by rw [hkk, hmk, hse]; rfl
      (refine CallP.pure (c2) (fun _ => rfl) ?_; simp +contextual (maxSteps := 1000000) only [go_sem, reduceCtorEq, ↓reduceIte, Nat.reduceAdd, Nat.reduceEqDiff, Nat.reduceLeDiff, Nat.reduceMul, Nat.reduceBEq, Int.reduceBEq, Int.reduceBNe, Int.reduceLT, Int.reduceLE, Int.reduceGT, Int.reduceGE, Int.reduceToNat, Int.natCast_one, Int.natCast_zero, Int.cast_ofNat_Int])
      (refine CallP.pure (c3) (fun _ => rfl) ?_; simp +contextual (maxSteps := 1000000) only [go_sem, reduceCtorEq, ↓reduceIte, Nat.reduceAdd, Nat.reduceEqDiff, Nat.reduceLeDiff, Nat.reduceMul, Nat.reduceBEq, Int.reduceBEq, Int.reduceBNe, Int.reduceLT, Int.reduceLE, Int.reduceGT, Int.reduceGE, Int.reduceToNat, Int.natCast_one, Int.natCast_zero, Int.cast_ofNat_Int])
      (refine CallP.pure (c4) (fun _ => rfl) ?_; simp +contextual (maxSteps := 1000000) only [bytesAV_length', go_sem, reduceCtorEq, ↓reduceIte, Nat.reduceAdd, Nat.reduceEqDiff, Nat.reduceLeDiff, Nat.reduceMul, Nat.reduceBEq, Int.reduceBEq, Int.reduceBNe, Int.reduceLT, Int.reduceLE, Int.reduceGT, Int.reduceGE, Int.reduceToNat, Int.natCast_one, Int.natCast_zero, Int.cast_ofNat_Int])
      by_cases hte : textK fl k = []
      · rw [if_neg (fun h => h hte)] at hk2
        have hq : decide (((textK fl k).length : Int) > 0) = false := by rw [hte]; rfl
        have c5 := fs_Form (Gl := Gl) hst (c := k.code)
        simp +contextual (maxSteps := 1000000) only [hq, go_sem, reduceCtorEq, ↓reduceIte, Nat.reduceAdd, Nat.reduceEqDiff, Nat.reduceLeDiff, Nat.reduceMul, Nat.reduceBEq, Int.reduceBEq, Int.reduceBNe, Int.reduceLT, Int.reduceLE, Int.reduceGT, Int.reduceGE, Int.reduceToNat, Int.natCast_one, Int.natCast_zero, Int.cast_ofNat_Int]
        (refine CallP.pure (c5) (fun _ => rfl) ?_; simp +contextual (maxSteps := 1000000) only [go_sem, reduceCtorEq, ↓reduceIte, Nat.reduceAdd, Nat.reduceEqDiff, Nat.reduceLeDiff, Nat.reduceMul, Nat.reduceBEq, Int.reduceBEq, Int.reduceBNe, Int.reduceLT, Int.reduceLE, Int.reduceGT, Int.reduceGE, Int.reduceToNat, Int.natCast_one, Int.natCast_zero, Int.cast_ofNat_Int])
        have d1 : FS Tryz.prog Gl 25 [.agg (evC k fl (kindK k.code)), .int .i64 (formK k.code).1, .int .u8 ((formK k.code).2.toNat : Int)] [] [] (.sl none 1 (intsAV (firstK fl k (formK k.code).1 ((formK k.code).2.toNat : Int)))) [] [] := fs_code hst hfl hmods.1 hmods.2
        have d2 : FS Tryz.prog Gl 26 [.agg (evC k fl (kindK k.code))] [] [] (.sl none 1 (intsAV (secondK fl k))) [] [] := fs_how hst hfl
        have d3 : FS Tryz.prog Gl 27 [.agg (evC k fl (kindK k.code))] [] [] (.sl none 1 (intsAV (thirdK fl k))) [] [] := fs_texts hst hfl ht
        have d4 : ∀ t : Option Nm, FS Tryz.prog Gl 24 [.sl t 1 [[.sl none 1 (intsAV (firstK fl k (formK k.code).1 ((formK k.code).2.toNat : Int)))], [.sl none 1 (intsAV (secondK fl k))], [.sl none 1 (intsAV (thirdK fl k))]]] [] [] (.sl none 1 (parsAV (keySq fl k).ps)) [] [] := fun t => fs_params (l := [firstK fl k (formK k.code).1 ((formK k.code).2.toNat : Int), secondK fl k, thirdK fl k]) (tb := t) hst (by simp)
        have hthird : (thirdK fl k).length ≤ 1000000000000 := by
          unfold thirdK
          split
          · simp
          · have := allV_len k.text; omega
        have hfirst : (firstK fl k (formK k.code).1 ((formK k.code).2.toNat : Int)).length ≤ 10 := by
          unfold firstK
          split
          · simp
          · simp only
            repeat' split
            all_goals simp
        have hsec : (secondK fl k).length ≤ 10 := by
          unfold secondK
          repeat' split
          all_goals simp
        have hsm : (keySq fl k).sm := by
          have hmem : ∀ (n : Nat) (l : List (List Int)), ∀ p ∈ trimK l n, p ∈ l := by
            intro n l
            induction n with
            | zero => intro p hp; cases hp
            | succ n ih =>
              intro p hp
              rw [trimK] at hp
              split at hp
              · exact ih p hp
              · exact List.mem_of_mem_take hp
          have hlen : ∀ (n : Nat) (l : List (List Int)), (trimK l n).length ≤ l.length := by
            intro n l
            induction n with
            | zero => simp [trimK]
            | succ n ih =>
              rw [trimK]
              split
              · exact ih
              · rw [List.length_take]; omega
          refine ⟨?_, fun p hp => ?_, by simp [keySq], by simp [keySq]⟩
          · have := hlen 3 [firstK fl k (formK k.code).1 ((formK k.code).2.toNat : Int), secondK fl k, thirdK fl k]
            simp only [List.length_cons, List.length_nil] at this
            simp only [keySq]; omega
          · have := hmem 3 _ p hp
            simp only [List.mem_cons, List.not_mem_nil, or_false] at this
            rcases this with rfl | rfl | rfl <;> omega
        have hflt := formK_lt k.code
        have d5 : FS Tryz.prog Gl 23 [.agg [.int .i64 1, .int .u8 0, .sl none 1 (parsAV (keySq fl k).ps), .str [], .int .u8 ((formK k.code).2.toNat : Int), .str []]] [] [] (.tup [putV (keySq fl k), .int .i64 (mayP (keySq fl k))]) [] [] :=
          fs_wPut (s := keySq fl k) hst (by simp [keySq]) (by simp [keySq]) (by simp only [keySq]; omega) (by simp only [keySq]; omega) hsm
        have hrn : ∀ f, Ab.rn f (putV (keySq fl k)) = putV (keySq fl k) := fun f => by unfold putV; split <;> rfl
        have hpl := putV_le (keySq fl k)
        generalize putV (keySq fl k) = pv at *
        rw [evC] at d1 d2 d3
        refine DCall.new d1 ?_
        simp +contextual (maxSteps := 1000000) only [go_sem, reduceCtorEq, ↓reduceIte, Nat.reduceAdd, Nat.reduceEqDiff, Nat.reduceLeDiff, Nat.reduceMul, Nat.reduceBEq, Int.reduceBEq, Int.reduceBNe, Int.reduceLT, Int.reduceLE, Int.reduceGT, Int.reduceGE, Int.reduceToNat, Int.natCast_one, Int.natCast_zero, Int.cast_ofNat_Int]
        refine DCall.new d2 ?_
        simp +contextual (maxSteps := 1000000) only [go_sem, reduceCtorEq, ↓reduceIte, Nat.reduceAdd, Nat.reduceEqDiff, Nat.reduceLeDiff, Nat.reduceMul, Nat.reduceBEq, Int.reduceBEq, Int.reduceBNe, Int.reduceLT, Int.reduceLE, Int.reduceGT, Int.reduceGE, Int.reduceToNat, Int.natCast_one, Int.natCast_zero, Int.cast_ofNat_Int]
        refine DCall.new d3 ?_
        simp +contextual (maxSteps := 1000000) only [go_sem, reduceCtorEq, ↓reduceIte, Nat.reduceAdd, Nat.reduceEqDiff, Nat.reduceLeDiff, Nat.reduceMul, Nat.reduceBEq, Int.reduceBEq, Int.reduceBNe, Int.reduceLT, Int.reduceLE, Int.reduceGT, Int.reduceGE, Int.reduceToNat, Int.natCast_one, Int.natCast_zero, Int.cast_ofNat_Int]
        refine ⟨by simp [AV.closedL, AV.closed], DCall.new (d4 _) ?_⟩
        simp +contextual (maxSteps := 1000000) only [go_sem, reduceCtorEq, ↓reduceIte, Nat.reduceAdd, Nat.reduceEqDiff, Nat.reduceLeDiff, Nat.reduceMul, Nat.reduceBEq, Int.reduceBEq, Int.reduceBNe, Int.reduceLT, Int.reduceLE, Int.reduceGT, Int.reduceGE, Int.reduceToNat, Int.natCast_one, Int.natCast_zero, Int.cast_ofNat_Int]
        refine ⟨fun p hp => ?_, DCall.new d5 ?_⟩
        · simp only [List.mem_cons, List.not_mem_nil, or_false] at hp
          rcases hp with rfl | rfl | rfl <;> simp [Xev_t, Xev_c, mask_app, upd_app, AV.cells, oneL, AV.one]
        simp +contextual (maxSteps := 1000000) only [hrn, go_sem, reduceCtorEq, ↓reduceIte, Nat.reduceAdd, Nat.reduceEqDiff, Nat.reduceLeDiff, Nat.reduceMul, Nat.reduceBEq, Int.reduceBEq, Int.reduceBNe, Int.reduceLT, Int.reduceLE, Int.reduceGT, Int.reduceGE, Int.reduceToNat, Int.natCast_one, Int.natCast_zero, Int.cast_ofNat_Int]
        rw [← hQ, hk2]
        exact ⟨trivial, .inl ⟨_, rfl, hpl⟩⟩
      · rw [if_pos hte] at hk2
        have hq : decide (((textK fl k).length : Int) > 0) = true := by
          have := List.length_pos_iff.2 hte
          simp; omega
        simp +contextual (maxSteps := 1000000) only [hq, go_sem, reduceCtorEq, ↓reduceIte, Nat.reduceAdd, Nat.reduceEqDiff, Nat.reduceLeDiff, Nat.reduceMul, Nat.reduceBEq, Int.reduceBEq, Int.reduceBNe, Int.reduceLT, Int.reduceLE, Int.reduceGT, Int.reduceGE, Int.reduceToNat, Int.natCast_one, Int.natCast_zero, Int.cast_ofNat_Int]
        rw [← hQ, hk2]
        exact ⟨trivial, .inl ⟨_, rfl, RepLe.refl _⟩⟩
end Go.Proofs.YthmjlngdbabdeaaGreatDoor

/- The statements of chapter 13: awake. -/
set_option linter.unusedVariables false
set_option linter.unusedSimpArgs false
set_option maxRecDepth 100000
namespace Go.Proofs.YthmjlngdbabdeaaGreatDoor
open Go Go.Ab
/-- clavier/clavierlaw13.awake -/
def ir_clavierlaw13awake : ICode :=
 (.seq
  (.reg [⟨some 0, none, .mov (.c (.bool false))⟩] (some []))
  (.seq
   (.reg [⟨some 6, none, .bld [(.int .i64 0), (.int .i64 0), (.int .i64 0), (.int .i64 0), (.int .i64 0), (.str [])] [(0, 1, (.c (.int .i64 99))), (1, 1, (.c (.int .i64 4))), (2, 1, (.c (.int .i64 1)))]⟩,
     ⟨some 7, none, .call (.c (.fn (.func 11) [] [])) [(.c (.int .i64 1)), (.t 6)]⟩,
     ⟨some 1, none, .mov (.t 7)⟩] (some [1]))
   (.seq
    (.reg [⟨some 8, none, .bld [(.int .i64 0), (.int .i64 0), (.int .i64 0), (.int .i64 0), (.int .i64 0), (.str [])] [(0, 1, (.c (.int .i64 97))), (2, 1, (.c (.int .i64 1)))]⟩,
      ⟨some 9, none, .call (.c (.fn (.func 11) [] [])) [(.c (.int .i64 8)), (.t 8)]⟩,
      ⟨some 2, none, .mov (.t 9)⟩] (some [1, 2]))
    (.seq
     (.reg [⟨some 10, none, .bld [(.int .i64 0), (.int .i64 0), (.int .i64 0), (.int .i64 0), (.int .i64 0), (.str [])] [(0, 1, (.c (.int .i64 57352))), (2, 1, (.c (.int .i64 3)))]⟩,
       ⟨some 11, none, .call (.c (.fn (.func 11) [] [])) [(.c (.int .i64 2)), (.t 10)]⟩,
       ⟨some 3, none, .mov (.t 11)⟩] (some [1, 2, 3]))
     (.seq
      (.reg [⟨some 13, none, .call (.c (.fn (.func 9) [] [])) [(.c (.int .i64 57366))]⟩,
        ⟨some 12, none, .mov (.t 13)⟩,
        ⟨some 14, none, .ext (.t 12) 0⟩,
        ⟨some 15, none, .ext (.t 12) 1⟩,
        ⟨some 4, none, .mov (.t 14)⟩,
        ⟨some 5, none, .mov (.t 15)⟩] (some [1, 2, 3, 4, 5]))
      (.seq
       (.reg [⟨some 16, none, .mov (.t 1)⟩,
         ⟨some 17, none, .b2s (.t 16)⟩,
         ⟨some 18, none, .bin .eql .none (.t 17) (.c (.str [27, 91, 57, 57, 59, 53, 117]))⟩,
         ⟨some 19, none, .mov (.t 18)⟩,
         ⟨some 20, some (19, true), .mov (.t 2)⟩,
         ⟨some 21, some (19, true), .b2s (.t 20)⟩,
         ⟨some 22, some (19, true), .bin .eql .none (.t 21) (.c (.str [27, 91, 57, 55, 117]))⟩,
         ⟨some 23, none, .pick (.t 19) (.t 22) (.c (.bool false))⟩,
         ⟨some 24, none, .mov (.t 23)⟩,
         ⟨some 25, some (24, true), .mov (.t 3)⟩,
         ⟨some 26, some (24, true), .b2s (.t 25)⟩,
         ⟨some 27, some (24, true), .bin .eql .none (.t 26) (.c (.str [27, 91, 49, 59, 49, 58, 51, 65]))⟩,
         ⟨some 28, none, .pick (.t 24) (.t 27) (.c (.bool false))⟩,
         ⟨some 29, none, .mov (.t 28)⟩,
         ⟨some 30, some (29, true), .mov (.t 4)⟩,
         ⟨some 31, some (29, true), .bin .eql .none (.t 30) (.c (.int .i64 13))⟩,
         ⟨some 32, none, .pick (.t 29) (.t 31) (.c (.bool false))⟩,
         ⟨some 33, none, .mov (.t 32)⟩,
         ⟨some 34, some (33, true), .mov (.t 5)⟩,
         ⟨some 35, some (33, true), .bin .eql .none (.t 34) (.c (.int .u8 126))⟩,
         ⟨some 36, none, .pick (.t 33) (.t 35) (.c (.bool false))⟩,
         ⟨some 0, none, .mov (.t 36)⟩] (some [0]))
       .ret))))))
theorem is_clavierlaw13awake : IrOf Tryz.prog 8 37 ir_clavierlaw13awake [.t 0] := ⟨_, Tryz.func8, rfl, by kernel_rfl, by kernel_rfl, by kernel_rfl⟩

theorem key_a : keyK 1 ⟨99, 4, 1, 0, 0, []⟩ = [27, 91, 57, 57, 59, 53, 117] := by decide +kernel
theorem key_b : keyK 8 ⟨97, 0, 1, 0, 0, []⟩ = [27, 91, 57, 55, 117] := by decide +kernel
theorem key_c : keyK 2 ⟨57352, 0, 3, 0, 0, []⟩ = [27, 91, 49, 59, 49, 58, 51, 65] := by decide +kernel
theorem form_d : formK 57366 = (13, 126) := by decide +kernel
theorem fs_awake {Gl : Gh → Prop} (hst : Stays Gl) : FS Tryz.prog Gl 8 [] [] [] (.bool true) [] [] := by
  refine FS.of hm hst is_clavierlaw13awake (by simp) fun γ hγ hfr => ?_
  have c1 := fs_Key (Gl := Gl) hst (k := ⟨99, 4, 1, 0, 0, []⟩) (fl := 1) (by omega) (by simp)
  have c2 := fs_Key (Gl := Gl) hst (k := ⟨97, 0, 1, 0, 0, []⟩) (fl := 8) (by omega) (by simp)
  have c3 := fs_Key (Gl := Gl) hst (k := ⟨57352, 0, 3, 0, 0, []⟩) (fl := 2) (by omega) (by simp)
  have c4 := fs_Form (Gl := Gl) hst (c := 57366)
  rw [key_a] at c1
  rw [key_b] at c2
  rw [key_c] at c3
  rw [form_d] at c4
  rw [kyAV] at c1 c2 c3
  (generalize hQ : (fun (ex : Ex) (_ _ : Nat) (s : St) => _) = Q; unfold ir_clavierlaw13awake)
  simp +contextual (maxSteps := 1000000) only [go_sem, reduceCtorEq, ↓reduceIte, Nat.reduceAdd, Nat.reduceEqDiff, Nat.reduceLeDiff, Nat.reduceMul, Nat.reduceBEq, Int.reduceBEq, Int.reduceBNe, Int.reduceLT, Int.reduceLE, Int.reduceGT, Int.reduceGE, Int.reduceToNat, Int.natCast_one, Int.natCast_zero, Int.cast_ofNat_Int]
  (refine CallP.pure (c1) (fun _ => rfl) ?_; simp +contextual (maxSteps := 1000000) only [go_sem, reduceCtorEq, ↓reduceIte, Nat.reduceAdd, Nat.reduceEqDiff, Nat.reduceLeDiff, Nat.reduceMul, Nat.reduceBEq, Int.reduceBEq, Int.reduceBNe, Int.reduceLT, Int.reduceLE, Int.reduceGT, Int.reduceGE, Int.reduceToNat, Int.natCast_one, Int.natCast_zero, Int.cast_ofNat_Int])
  (refine CallP.pure (c2) (fun _ => rfl) ?_; simp +contextual (maxSteps := 1000000) only [go_sem, reduceCtorEq, ↓reduceIte, Nat.reduceAdd, Nat.reduceEqDiff, Nat.reduceLeDiff, Nat.reduceMul, Nat.reduceBEq, Int.reduceBEq, Int.reduceBNe, Int.reduceLT, Int.reduceLE, Int.reduceGT, Int.reduceGE, Int.reduceToNat, Int.natCast_one, Int.natCast_zero, Int.cast_ofNat_Int])
  (refine CallP.pure (c3) (fun _ => rfl) ?_; simp +contextual (maxSteps := 1000000) only [go_sem, reduceCtorEq, ↓reduceIte, Nat.reduceAdd, Nat.reduceEqDiff, Nat.reduceLeDiff, Nat.reduceMul, Nat.reduceBEq, Int.reduceBEq, Int.reduceBNe, Int.reduceLT, Int.reduceLE, Int.reduceGT, Int.reduceGE, Int.reduceToNat, Int.natCast_one, Int.natCast_zero, Int.cast_ofNat_Int])
  (refine CallP.pure (c4) (fun _ => rfl) ?_; simp +contextual (maxSteps := 1000000) only [bb_un, bb_is, go_sem, reduceCtorEq, ↓reduceIte, Nat.reduceAdd, Nat.reduceEqDiff, Nat.reduceLeDiff, Nat.reduceMul, Nat.reduceBEq, Int.reduceBEq, Int.reduceBNe, Int.reduceLT, Int.reduceLE, Int.reduceGT, Int.reduceGE, Int.reduceToNat, Int.natCast_one, Int.natCast_zero, Int.cast_ofNat_Int])
  rw [← hQ]
  exact ⟨trivial, Ret.flat rfl rfl⟩
theorem form_out {c : Int} (h : ¬(57348 ≤ c ∧ c ≤ 57454)) (hk : (lookR c).kind ≠ 0) : formK c = (c, 117) := by
  have h3 : letR c = 0 := by
    unfold letR
    repeat (first | rfl | rw [if_neg (by omega)])
  have h4 : numR c = 0 := by
    unfold numR
    repeat (first | rfl | rw [if_neg (by omega)])
  have e : lookR c = ⟨restR c, 0, 0, 0, false⟩ := by
    unfold lookR
    rw [if_neg (by rw [h3]; simp), if_neg (by rw [h4]; simp), if_neg (by omega)]
  have hr : restR c = 2 ∨ restR c = 0 ∨ restR c = 1 := by
    unfold restR
    split
    · simp
    · rw [if_neg (by omega), if_neg (by omega)]
      split <;> simp
  rw [e] at hk
  simp only at hk
  simp only [formK, e]
  rw [if_neg hk, if_neg (by omega), if_neg (by omega), if_neg (by omega)]
theorem form_in : ∀ k : Fin 107, (lookR ((57348 + k.val : Nat) : Int)).kind ≠ 0 → ((formK ((57348 + k.val : Nat) : Int)).2 = 117 ↔ (formK ((57348 + k.val : Nat) : Int)).1 = ((57348 + k.val : Nat) : Int)) := by decide +kernel
theorem form_in2 : ∀ k j : Fin 107, (formK ((57348 + k.val : Nat) : Int)).2 ≠ 117 → formK ((57348 + k.val : Nat) : Int) = formK ((57348 + j.val : Nat) : Int) → (lookR ((57348 + k.val : Nat) : Int)).kind ≠ 0 → k = j := by decide +kernel
theorem form_u {c : Int} (hk : (lookR c).kind ≠ 0) : (formK c).2 = 117 ↔ (formK c).1 = c := by
  by_cases h : 57348 ≤ c ∧ c ≤ 57454
  · have := form_in ⟨(c - 57348).toNat, by omega⟩
    simp only at this
    rw [show ((57348 + (c - 57348).toNat : Nat) : Int) = c by omega] at this
    exact this hk
  · rw [form_out h hk]; simp
theorem form_inj {c d : Int} (hc : (lookR c).kind ≠ 0) (hd : (lookR d).kind ≠ 0) (h : formK c = formK d) : c = d := by
  by_cases h1 : (formK c).2 = 117
  · have h2 := (form_u hc).1 h1
    have h3 := (form_u hd).1 (by rw [← h]; exact h1)
    rw [← h2, ← h3, h]
  · have i1 : 57348 ≤ c ∧ c ≤ 57454 := Classical.byContradiction fun hn => h1 (by rw [form_out hn hc])
    have i2 : 57348 ≤ d ∧ d ≤ 57454 := Classical.byContradiction fun hn => h1 (by rw [h, form_out hn hd])
    have := form_in2 ⟨(c - 57348).toNat, by omega⟩ ⟨(d - 57348).toNat, by omega⟩
    simp only at this
    rw [show ((57348 + (c - 57348).toNat : Nat) : Int) = c by omega, show ((57348 + (d - 57348).toNat : Nat) : Int) = d by omega] at this
    have := this h1 h hc
    simp only [Fin.mk.injEq] at this
    omega
end Go.Proofs.YthmjlngdbabdeaaGreatDoor

/- Keys by flags: what a sequence of a key's is, in plain words; texts' first bytes. -/
set_option linter.unusedVariables false
set_option linter.unusedSimpArgs false
set_option maxRecDepth 100000
namespace Go.Proofs.YthmjlngdbabdeaaGreatDoor
open Go Go.Ab

theorem allU_spec : ∀ (n : Nat) {b : List UInt8} {l : List Int}, b.length ≤ n → allU b = some l → b = l.flatMap putU ∧ (∀ r ∈ l, isCP r = true) ∧ l.length ≤ b.length := by
  intro n
  induction n with
  | zero =>
    intro b l hb h
    have : b = [] := List.length_eq_zero_iff.1 (by omega)
    subst this
    rw [allU_nil] at h
    cases h
    simp
  | succ n ih =>
    intro b l hb h
    by_cases hbe : b = []
    · subst hbe
      rw [allU_nil] at h
      cases h
      simp
    · cases ht : takeU b with
      | none => rw [allU_none hbe ht] at h; cases h
      | some p =>
        obtain ⟨r, m⟩ := p
        rw [allU_some hbe ht] at h
        obtain ⟨h1, h2, h3, h4⟩ := takeU_of ht
        obtain ⟨l', hl, rfl⟩ := Option.map_eq_some_iff.1 h
        obtain ⟨i1, i2, i3⟩ := ih (b := b.drop m) (by rw [List.length_drop]; omega) hl
        refine ⟨?_, ?_, ?_⟩
        · rw [List.flatMap_cons, ← i1, h4, List.take_append_drop]
        · intro x hx
          rcases List.mem_cons.1 hx with rfl | hx
          · refine putU_ne.1 fun e => ?_
            rw [e] at h4
            have := congrArg List.length h4
            rw [List.length_take] at this
            simp at this
            omega
          · exact i2 x hx
        · rw [List.length_drop] at i3
          simp only [List.length_cons]; omega
/-- A character's first byte. -/
theorem putU_head {r : Int} (h : isCP r = true) : ∃ c t, putU r = c :: t ∧ (32 ≤ r → c ≠ 27) := by
  obtain ⟨n, rfl, h1, h2⟩ := isCP_spec h
  unfold putU
  rw [if_pos h, Int.toNat_natCast]
  unfold putN
  have key : ∀ x : Nat, 32 ≤ x → x < 256 → UInt8.ofNat x ≠ 27 := fun x h3 h4 e => by
    have := congrArg UInt8.toNat e
    rw [UInt8.toNat_ofNat', Nat.mod_eq_of_lt (by omega)] at this
    simp at this
    omega
  split
  · exact ⟨_, _, rfl, fun h3 => key n (by omega) (by omega)⟩
  · split
    · exact ⟨_, _, rfl, fun h3 => key _ (by omega) (by omega)⟩
    · split
      · exact ⟨_, _, rfl, fun h3 => key _ (by omega) (by omega)⟩
      · exact ⟨_, _, rfl, fun h3 => key _ (by omega) (by omega)⟩
structure MayK (k : Ky) : Prop where
  kind : kindK k.code ≠ 0
  m0 : 0 ≤ k.mods
  m1 : k.mods ≤ 255
  t0 : 1 ≤ k.type
  t1 : k.type ≤ 3
  sh : k.shifted = 0 ∨ kindK k.shifted = 1
  ba : k.base = 0 ∨ kindK k.base = 1
  tx : cleanK k.text = true
theorem mayK_iff {k : Ky} : mayK k = true ↔ MayK k := by
  simp only [mayK, Bool.and_eq_true, Bool.or_eq_true, decide_eq_true_eq]
  constructor
  · rintro ⟨⟨⟨⟨⟨⟨⟨a, b⟩, c⟩, d⟩, e⟩, f⟩, g⟩, h⟩; exact ⟨a, b, c, d, e, f, g, h⟩
  · rintro ⟨a, b, c, d, e, f, g, h⟩; exact ⟨⟨⟨⟨⟨⟨⟨a, b⟩, c⟩, d⟩, e⟩, f⟩, g⟩, h⟩
/-- A text's code. -/
theorem kind1 {c : Int} (h : kindK c = 1) : isCP c = true ∧ 32 ≤ c ∧ ¬(127 ≤ c ∧ c ≤ 159) := by
  unfold kindK lookR at h
  split at h
  · simp at h
  · split at h
    · simp at h
    · split at h
      · have : (padR c).kind = 5 := by unfold padR; split <;> rfl
        rw [this] at h; simp at h
      · simp only at h
        unfold restR at h
        split at h
        · simp at h
        · split at h
          · simp at h
          · split at h
            · simp at h
            · split at h
              · simp at h
              · rename_i hh
                simp only [not_or, Bool.not_eq_false] at hh
                exact ⟨hh.1, by omega, hh.2.2.1⟩
theorem kind_range {c : Int} (h : kindK c ≠ 0) : 0 ≤ c ∧ c ≤ 1114111 := by
  by_cases h1 : 9 ≤ c ∧ c ≤ 63743
  · omega
  · have : kindK c = 1 := by
      unfold kindK lookR at h ⊢
      have e1 : letR c = 0 := by
        unfold letR
        repeat (first | rfl | rw [if_neg (by omega)])
      have e2 : numR c = 0 := by
        unfold numR
        repeat (first | rfl | rw [if_neg (by omega)])
      rw [if_neg (by simp [e1]), if_neg (by simp [e2]), if_neg (by omega)] at h ⊢
      simp only at h ⊢
      unfold restR at h ⊢
      rw [if_neg (by omega), if_neg (by omega), if_neg (by omega)] at h ⊢
      split
      · rename_i hh; rw [if_pos hh] at h; exact absurd rfl h
      · rfl
    obtain ⟨a, _, _⟩ := kind1 this
    obtain ⟨n, rfl, _, _⟩ := isCP_spec a
    omega
theorem clean_spec {t : List UInt8} (h : cleanK t = true) : ∃ l, allU t = some l ∧ l.length ≤ 8 ∧ ∀ r ∈ l, isCP r = true ∧ 32 ≤ r := by
  unfold cleanK at h
  split at h
  · rename_i l hl
    simp only [Bool.and_eq_true, decide_eq_true_eq, List.all_eq_true] at h
    refine ⟨l, hl, h.1, fun r hr => ⟨(allU_spec _ (Nat.le_refl _) hl).2.1 r hr, ?_⟩⟩
    exact (h.2 r hr).1
  · cases h
theorem text_head {t : List UInt8} (h : cleanK t = true) (hne : t ≠ []) : ∃ c s, t = c :: s ∧ c ≠ 27 := by
  obtain ⟨l, hl, _, hr⟩ := clean_spec h
  have := (allU_spec _ (Nat.le_refl _) hl).1
  cases l with
  | nil => exact absurd this hne
  | cons r l =>
    obtain ⟨a, b⟩ := hr r (by simp)
    obtain ⟨c, s, e, hc⟩ := putU_head a
    refine ⟨c, s ++ l.flatMap putU, ?_, hc b⟩
    rw [this, List.flatMap_cons, e]; rfl
theorem text_all {t : List UInt8} (h : cleanK t = true) (hne : t ≠ []) : (allV t).1 ≠ [] ∧ (allV t).1.length ≤ 8 ∧ ∀ r ∈ (allV t).1, 0 ≤ r ∧ r ≤ 1114111 := by
  obtain ⟨l, hl, h8, hr⟩ := clean_spec h
  have e : allV t = (l, true) := by rw [allV, hl]
  rw [e]
  refine ⟨?_, h8, fun r h => ?_⟩
  · rintro rfl
    exact hne (allU_spec _ (Nat.le_refl _) hl).1
  · obtain ⟨n, rfl, _, _⟩ := isCP_spec (hr r h).1
    omega
theorem shown_cp {k : Ky} (h : kindK k.code = 1) (hs : k.shifted = 0 ∨ kindK k.shifted = 1) : isCP (shownK k) = true ∧ 32 ≤ shownK k := by
  obtain ⟨a, b, _⟩ := kind1 h
  unfold shownK
  split
  · exact ⟨a, b⟩
  · split
    · rename_i h0
      rcases hs with e | e
      · exact absurd e h0
      · obtain ⟨a, b, _⟩ := kind1 e
        exact ⟨a, b⟩
    · split
      · refine ⟨?_, by omega⟩
        simp only [isCP, Bool.and_eq_true, Bool.or_eq_true, decide_eq_true_eq]; omega
      · exact ⟨a, b⟩
theorem letR_or (c : Int) : letR c = 0 ∨ 64 ≤ (letR c).toNat ∧ (letR c).toNat ≤ 126 := by
  unfold letR
  repeat' split
  all_goals first | (exact .inr (by decide)) | (exact .inl rfl) | (refine .inr ?_; rw [UInt8.toNat_ofNat', Nat.mod_eq_of_lt (by omega)]; omega)
theorem formK_ge {c : Int} (h : kindK c ≠ 0) : 64 ≤ (formK c).2.toNat ∧ (formK c).2.toNat ≤ 126 := by
  simp only [formK]
  rw [if_neg (show (lookR c).kind ≠ 0 from h)]
  split
  · decide
  · split
    · rename_i h1
      have e : (lookR c).final = letR c ∧ letR c ≠ 0 := by
        unfold lookR at h1 ⊢
        split
        · rename_i h2; exact ⟨rfl, h2⟩
        · rename_i h2
          rw [if_neg h2] at h1
          split at h1
          · simp at h1
          · split at h1
            · have : (padR c).kind = 5 := by unfold padR; split <;> rfl
              rw [this] at h1; simp at h1
            · simp only at h1
              unfold restR at h1
              have := h1.1
              split at this
              · simp at this
              · split at this
                · simp at this
                · split at this
                  · simp at this
                  · split at this <;> simp at this
      show 64 ≤ (lookR c).final.toNat ∧ (lookR c).final.toNat ≤ 126
      rw [e.1]
      exact (letR_or c).resolve_left e.2
    · split
      · exact ⟨show 64 ≤ (126 : UInt8).toNat by decide, show (126 : UInt8).toNat ≤ 126 by decide⟩
      · exact ⟨show 64 ≤ (117 : UInt8).toNat by decide, show (117 : UInt8).toNat ≤ 126 by decide⟩
theorem numR_or (c : Int) : 0 ≤ numR c ∧ numR c ≤ 100 := by
  unfold numR
  repeat' split
  all_goals omega
theorem formK_num {c : Int} (h : kindK c ≠ 0) : 0 ≤ (formK c).1 ∧ (formK c).1 ≤ 1114111 := by
  have hr := kind_range h
  simp only [formK]
  rw [if_neg (show (lookR c).kind ≠ 0 from h)]
  split
  · decide
  · split
    · exact ⟨show (0 : Int) ≤ 1 by omega, show (1 : Int) ≤ 1114111 by omega⟩
    · split
      · show 0 ≤ (lookR c).num ∧ (lookR c).num ≤ 1114111
        have := numR_or c
        unfold lookR
        repeat' split
        all_goals first | (show (0 : Int) ≤ 0 ∧ (0 : Int) ≤ 1114111; omega) | (show 0 ≤ numR c ∧ numR c ≤ 1114111; omega) | skip
        unfold padR
        split <;> (show (0 : Int) ≤ 0 ∧ (0 : Int) ≤ 1114111) <;> omega
      · exact hr
theorem trimK_spec (l : List (List Int)) : ∀ n, trimK l n = [] ∨ ∃ m, m < n ∧ trimK l n = l.take (m + 1) ∧ untoldK (l.getD m []) (m == 0) = false
  | 0 => .inl rfl
  | n + 1 => by
    rw [trimK]
    split
    · rcases trimK_spec l n with h | ⟨m, h1, h2, h3⟩
      · exact .inl h
      · exact .inr ⟨m, by omega, h2, h3⟩
    · rename_i h
      exact .inr ⟨n, by omega, rfl, by simpa using h⟩
/-- What a key's sequence consists of. -/
structure PartK (p : List Int) : Prop where
  ne : p ≠ []
  le : p.length ≤ 8
  ok : ∀ n ∈ p, -1 ≤ n ∧ n ≤ 1114111
theorem first_ok {fl : Int} {k : Ky} (h : MayK k) : PartK (firstK fl k (formK k.code).1 (formK k.code).2.toNat) := by
  obtain ⟨a, b⟩ := formK_num h.kind
  have hs : 0 ≤ k.shifted ∧ k.shifted ≤ 1114111 := by
    rcases h.sh with e | e
    · omega
    · exact kind_range (by rw [e]; decide)
  have hb : 0 ≤ k.base ∧ k.base ≤ 1114111 := by
    rcases h.ba with e | e
    · omega
    · exact kind_range (by rw [e]; decide)
  unfold firstK
  generalize (formK k.code).1 = n at *
  split
  · exact ⟨by simp, by simp, by simp; omega⟩
  · simp only
    split
    · split
      · split
        · exact ⟨by simp, by simp, by simp; omega⟩
        · exact ⟨by simp, by simp, by simp; omega⟩
      · split
        · exact ⟨by simp, by simp, by simp; omega⟩
        · exact ⟨by simp, by simp, by simp; omega⟩
    · split
      · exact ⟨by simp, by simp, by simp; omega⟩
      · exact ⟨by simp, by simp, by simp; omega⟩
theorem second_ok {fl : Int} {k : Ky} (h : MayK k) : PartK (secondK fl k) := by
  have h1 := h.m0
  have h2 := h.m1
  have h3 := h.t0
  have h4 := h.t1
  have hp : paramK k.mods = k.mods + 1 := by rw [paramK, if_neg (by omega)]
  unfold secondK
  rw [hp]
  split
  · exact ⟨by simp, by simp, by simp; omega⟩
  · split
    · exact ⟨by simp, by simp, by simp; omega⟩
    · exact ⟨by simp, by simp, by simp⟩
theorem third_ok {fl : Int} {k : Ky} (h : MayK k) : PartK (thirdK fl k) := by
  unfold thirdK
  split
  · exact ⟨by simp, by simp, by simp⟩
  · rename_i hh
    have hne : k.text ≠ [] := by
      intro e
      simp [e] at hh
    obtain ⟨a, b, c⟩ := text_all h.tx hne
    exact ⟨a, b, fun n hn => by have := c n hn; omega⟩
theorem key_may {fl : Int} {k : Ky} (h : MayK k) : mayP (keySq fl k) = 0 := by
  have hf := formK_ge h.kind
  have hps : parsOk (keySq fl k).ps = true := by
    have hall : ∀ p ∈ [firstK fl k (formK k.code).1 (formK k.code).2.toNat, secondK fl k, thirdK fl k], PartK p := by
      intro p hp
      simp only [List.mem_cons, List.not_mem_nil, or_false] at hp
      rcases hp with rfl | rfl | rfl
      · exact first_ok h
      · exact second_ok h
      · exact third_ok h
    show parsOk (trimK _ 3) = true
    generalize hl : [firstK fl k (formK k.code).1 (formK k.code).2.toNat, secondK fl k, thirdK fl k] = l at hall
    have hlen : l.length = 3 := by rw [← hl]; rfl
    have good : ∀ m, m < 3 → (m = 0 → l.take 1 ≠ [[-1]]) → parsOk (l.take (m + 1)) = true := by
      intro m hm h1
      simp only [parsOk, Bool.and_eq_true, Bool.not_eq_true', Bool.or_eq_false_iff, decide_eq_false_iff_not]
      refine ⟨⟨by rw [List.length_take]; omega, fun e => ?_⟩, List.any_eq_false.2 fun p hp => ?_⟩
      · have := congrArg List.length e
        rw [List.length_take, hlen] at this
        simp at this
        have hm0 : m = 0 := by omega
        subst hm0
        exact h1 rfl e
      · have := hall p (List.mem_of_mem_take hp)
        simp only [parBad, Bool.or_eq_true, decide_eq_true_eq, not_or, List.any_eq_true, not_exists, not_and]
        refine ⟨fun n hn => by have := this.ok n hn; omega, ?_, by have := this.le; omega⟩
        have := List.length_pos_iff.2 this.ne
        omega
    rcases trimK_spec l 3 with e | ⟨m, hm, e, hu⟩
    · rw [e]; rfl
    · rw [e]
      refine good m hm fun h0 e1 => ?_
      subst h0
      have : l.getD 0 [] = [-1] := by
        have := congrArg (fun z : List (List Int) => z.getD 0 []) e1
        simpa [List.getD_eq_getElem?_getD, List.getElem?_take] using this
      rw [this] at hu
      cases hu
  have hsh : shapedP (keySq fl k) = true := by
    unfold shapedP
    rw [if_pos (show (keySq fl k).k = 1 from rfl)]
    simp only [keySq, Bool.and_eq_true, decide_eq_true_eq]
    exact ⟨⟨trivial, decide_eq_true (by omega)⟩, decide_eq_true (by omega)⟩
  unfold mayP
  rw [hps, hsh]
  rfl
theorem putX_key {fl : Int} {k : Ky} (h : MayK k) : putX (keySq fl k) = [27, 91] ++ bodyB (keySq fl k) ++ [(formK k.code).2] := by
  unfold putX
  rw [key_may h]
  show putB (keySq fl k) = _
  unfold putB
  rw [if_pos (show ((keySq fl k).k == 1) = true from rfl)]
  have : (keySq fl k).fi.toNat.toUInt8 = (formK k.code).2 := by simp [keySq]
  rw [this]
theorem key_sm {fl : Int} {k : Ky} (h : MayK k) : (keySq fl k).sm := by
  have hp := parsOk_iff (may_pars (key_may (fl := fl) h))
  refine ⟨?_, fun p hp' => ?_, by simp [keySq], by simp [keySq]⟩
  · have := hp.1; omega
  · have := (hp.2.2 p hp').2.1; omega
theorem typed1 {c : Int} (h : kindK c = 1) : typedK c = false := by
  obtain ⟨_, a, b⟩ := kind1 h
  unfold typedK
  rw [Bool.or_eq_false_iff, Bool.or_eq_false_iff]
  exact ⟨⟨decide_eq_false (by omega), decide_eq_false (by omega)⟩, decide_eq_false (by omega)⟩
end Go.Proofs.YthmjlngdbabdeaaGreatDoor

/- The reference's keys by flags, walked. -/
set_option linter.unusedVariables false
set_option linter.unusedSimpArgs false
set_option maxRecDepth 100000
namespace Go.Proofs.YthmjlngdbabdeaaGreatDoor
open Go Go.Ab
/-- clavier/clavierref08.Flags -/
def ir_clavierref08Flags : ICode :=
 (.seq
  (.reg [⟨some 2, none, .mov (.c (.int .i64 0))⟩] (some [0]))
  (.seq
   (.reg [⟨some 3, none, .mov (.t 0)⟩,
     ⟨some 4, none, .mm false (.t 3) (.c (.int .i64 0))⟩,
     ⟨some 5, none, .bin .rem .none (.t 4) (.c (.int .i64 32))⟩,
     ⟨some 2, none, .mov (.t 5)⟩] (some [2]))
   .ret))
theorem is_clavierref08Flags : IrOf Tryz.prog 69 6 ir_clavierref08Flags [.t 2] := ⟨_, Tryz.func69, rfl, by kernel_rfl, by kernel_rfl, by kernel_rfl⟩

/-- clavier/clavierref13.flag -/
def ir_clavierref13flag : ICode :=
 (.seq
  (.reg [⟨some 4, none, .mov (.c (.bool false))⟩] (some [0, 1]))
  (.seq
   (.reg [⟨some 5, none, .mov (.t 0)⟩,
     ⟨some 6, none, .call (.c (.fn (.func 69) [] [])) [(.t 5)]⟩,
     ⟨some 7, none, .mov (.t 1)⟩,
     ⟨some 8, none, .bin .quo .none (.t 6) (.t 7)⟩,
     ⟨some 9, none, .bin .rem .none (.t 8) (.c (.int .i64 2))⟩,
     ⟨some 10, none, .bin .eql .none (.t 9) (.c (.int .i64 1))⟩,
     ⟨some 4, none, .mov (.t 10)⟩] (some [4]))
   .ret))
theorem is_clavierref13flag : IrOf Tryz.prog 29 11 ir_clavierref13flag [.t 4] := ⟨_, Tryz.func29, rfl, by kernel_rfl, by kernel_rfl, by kernel_rfl⟩

/-- clavier/clavierref13.keyed -/
def ir_clavierref13keyed : ICode :=
 (.seq
  (.reg [⟨some 2, none, .mov (.c (.bool false))⟩] (some [0]))
  (.seq
   (.reg [⟨some 3, none, .mov (.t 0)⟩,
     ⟨some 4, none, .bin .eql .none (.t 3) (.c (.int .i64 9))⟩,
     ⟨some 5, none, .mov (.t 4)⟩,
     ⟨some 6, some (5, false), .mov (.t 0)⟩,
     ⟨some 7, some (5, false), .bin .eql .none (.t 6) (.c (.int .i64 13))⟩,
     ⟨some 8, none, .pick (.t 5) (.c (.bool true)) (.t 7)⟩,
     ⟨some 9, none, .mov (.t 8)⟩,
     ⟨some 10, some (9, false), .mov (.t 0)⟩,
     ⟨some 11, some (9, false), .bin .eql .none (.t 10) (.c (.int .i64 127))⟩,
     ⟨some 12, none, .pick (.t 9) (.c (.bool true)) (.t 11)⟩,
     ⟨some 2, none, .mov (.t 12)⟩] (some [2]))
   .ret))
theorem is_clavierref13keyed : IrOf Tryz.prog 31 13 ir_clavierref13keyed [.t 2] := ⟨_, Tryz.func31, rfl, by kernel_rfl, by kernel_rfl, by kernel_rfl⟩

/-- clavier/clavierref13.astext -/
def ir_clavierref13astext : ICode :=
 (.seq
  (.reg [⟨some 1, none, .box 23 (.t 0)⟩,
    ⟨some 2, none, .mov (.c (.bool false))⟩] (some [1]))
  (.seq
   (.reg [⟨some 4, none, .fa 1 (.t 1)⟩,
     ⟨some 5, none, .ld none (.t 4)⟩,
     ⟨some 6, none, .fa 1 (.t 1)⟩,
     ⟨some 7, none, .ld none (.t 6)⟩,
     ⟨some 8, none, .bin .quo .none (.t 7) (.c (.int .i64 64))⟩,
     ⟨some 9, none, .bin .mul .none (.t 8) (.c (.int .i64 64))⟩,
     ⟨some 10, none, .bin .sub .none (.t 5) (.t 9)⟩,
     ⟨some 3, none, .mov (.t 10)⟩] (some [1, 3]))
   (.seq
    (.seq
     (.reg [⟨some 11, none, .fa 0 (.t 1)⟩,
       ⟨some 12, none, .ld none (.t 11)⟩,
       ⟨some 13, none, .call (.c (.fn (.func 19) [] [])) [(.t 12)]⟩,
       ⟨some 14, none, .fld 0 none (.t 13)⟩,
       ⟨some 15, none, .bin .eql .none (.t 14) (.c (.int .i64 1))⟩] (some [1, 3, 15]))
     (.cond (.t 15)
      (.seq
       (.reg [⟨some 16, none, .mov (.t 3)⟩,
         ⟨some 17, none, .bin .leq .none (.t 16) (.c (.int .i64 1))⟩,
         ⟨some 2, none, .mov (.t 17)⟩] (some [2]))
       .ret)
      .skip))
    (.seq
     (.reg [⟨some 18, none, .fa 0 (.t 1)⟩,
       ⟨some 19, none, .ld none (.t 18)⟩,
       ⟨some 20, none, .call (.c (.fn (.func 31) [] [])) [(.t 19)]⟩,
       ⟨some 21, none, .mov (.t 20)⟩,
       ⟨some 22, some (21, true), .mov (.t 3)⟩,
       ⟨some 23, some (21, true), .bin .eql .none (.t 22) (.c (.int .i64 0))⟩,
       ⟨some 24, none, .pick (.t 21) (.t 23) (.c (.bool false))⟩,
       ⟨some 2, none, .mov (.t 24)⟩] (some [2]))
     .ret))))
theorem is_clavierref13astext : IrOf Tryz.prog 30 25 ir_clavierref13astext [.t 2] := ⟨_, Tryz.func30, rfl, by kernel_rfl, by kernel_rfl, by kernel_rfl⟩

/-- clavier/clavierref13.sent -/
def ir_clavierref13sent : ICode :=
 (.seq
  (.reg [⟨some 3, none, .box 23 (.t 1)⟩,
    ⟨some 4, none, .mov (.c (.bool false))⟩] (some [0, 3]))
  (.seq
   (.seq
    (.reg [⟨some 7, none, .ld (some 6) (.t 3)⟩,
      ⟨some 8, none, .call (.c (.fn (.func 13) [] [])) [(.t 7)]⟩,
      ⟨some 9, none, .un .not (.t 8)⟩] (some [0, 3, 9]))
    (.cond (.t 9)
     (.seq
      (.reg [⟨some 4, none, .mov (.c (.bool false))⟩] (some [4]))
      .ret)
     .skip))
   (.seq
    (.reg [⟨some 10, none, .fa 0 (.t 3)⟩,
      ⟨some 11, none, .ld none (.t 10)⟩,
      ⟨some 12, none, .call (.c (.fn (.func 19) [] [])) [(.t 11)]⟩,
      ⟨some 13, none, .fld 0 none (.t 12)⟩,
      ⟨some 5, none, .mov (.t 13)⟩] (some [0, 3, 5]))
    (.seq
     (.reg [⟨some 14, none, .mov (.t 0)⟩,
       ⟨some 15, none, .call (.c (.fn (.func 29) [] [])) [(.t 14), (.c (.int .i64 8))]⟩,
       ⟨some 6, none, .mov (.t 15)⟩] (some [0, 3, 5, 6]))
     (.seq
      (.seq
       (.reg [⟨some 16, none, .fa 2 (.t 3)⟩,
         ⟨some 17, none, .ld none (.t 16)⟩,
         ⟨some 18, none, .bin .eql .none (.t 17) (.c (.int .i64 3))⟩,
         ⟨some 19, none, .mov (.t 18)⟩,
         ⟨some 20, some (19, true), .mov (.t 0)⟩,
         ⟨some 21, some (19, true), .call (.c (.fn (.func 29) [] [])) [(.t 20), (.c (.int .i64 2))]⟩,
         ⟨some 22, some (19, true), .un .not (.t 21)⟩,
         ⟨some 23, some (19, true), .mov (.t 22)⟩,
         ⟨some 24, some (23, false), .mov (.t 6)⟩,
         ⟨some 25, some (23, false), .un .not (.t 24)⟩,
         ⟨some 26, some (23, false), .mov (.t 25)⟩,
         ⟨some 27, some (26, true), .mov (.t 5)⟩,
         ⟨some 28, some (26, true), .bin .eql .none (.t 27) (.c (.int .i64 1))⟩,
         ⟨some 29, some (26, true), .mov (.t 28)⟩,
         ⟨some 30, some (29, false), .fa 0 (.t 3)⟩,
         ⟨some 31, some (29, false), .ld none (.t 30)⟩,
         ⟨some 32, some (29, false), .call (.c (.fn (.func 31) [] [])) [(.t 31)]⟩,
         ⟨some 33, some (26, true), .pick (.t 29) (.c (.bool true)) (.t 32)⟩,
         ⟨some 34, some (23, false), .pick (.t 26) (.t 33) (.c (.bool false))⟩,
         ⟨some 35, some (19, true), .pick (.t 23) (.c (.bool true)) (.t 34)⟩,
         ⟨some 36, none, .pick (.t 19) (.t 35) (.c (.bool false))⟩] (some [5, 6, 36]))
       (.cond (.t 36)
        (.seq
         (.reg [⟨some 4, none, .mov (.c (.bool false))⟩] (some [4]))
         .ret)
        .skip))
      (.seq
       (.reg [⟨some 37, none, .mov (.t 5)⟩,
         ⟨some 38, none, .bin .neq .none (.t 37) (.c (.int .i64 7))⟩,
         ⟨some 39, none, .mov (.t 38)⟩,
         ⟨some 40, some (39, false), .mov (.t 6)⟩,
         ⟨some 41, none, .pick (.t 39) (.c (.bool true)) (.t 40)⟩,
         ⟨some 4, none, .mov (.t 41)⟩] (some [4]))
       .ret))))))
theorem is_clavierref13sent : IrOf Tryz.prog 28 42 ir_clavierref13sent [.t 4] := ⟨_, Tryz.func28, rfl, by kernel_rfl, by kernel_rfl, by kernel_rfl⟩

/-- clavier/clavierref13.first -/
def ir_clavierref13first : ICode :=
 (.seq
  (.reg [⟨some 3, none, .box 23 (.t 1)⟩,
    ⟨some 4, none, .mov (.c .nils)⟩] (some [0, 3]))
  (.seq
   (.reg [⟨some 11, none, .fa 0 (.t 3)⟩,
     ⟨some 12, none, .ld none (.t 11)⟩,
     ⟨some 13, none, .call (.c (.fn (.func 10) [] [])) [(.t 12)]⟩,
     ⟨some 10, none, .mov (.t 13)⟩,
     ⟨some 14, none, .ext (.t 10) 0⟩,
     ⟨some 15, none, .ext (.t 10) 1⟩,
     ⟨some 5, none, .mov (.t 14)⟩,
     ⟨some 6, none, .mov (.t 15)⟩] (some [0, 3, 5, 6]))
   (.seq
    (.reg [⟨some 16, none, .mov (.t 5)⟩,
      ⟨some 17, none, .row 3 1 [(.t 16)]⟩,
      ⟨some 7, none, .mov (.t 17)⟩] (some [0, 3, 6, 7]))
    (.seq
     (.seq
      (.reg [⟨some 18, none, .mov (.t 0)⟩,
        ⟨some 19, none, .call (.c (.fn (.func 29) [] [])) [(.t 18), (.c (.int .i64 4))]⟩,
        ⟨some 20, none, .un .not (.t 19)⟩,
        ⟨some 21, none, .mov (.t 20)⟩,
        ⟨some 22, some (21, false), .mov (.t 6)⟩,
        ⟨some 23, some (21, false), .bin .neq .none (.t 22) (.c (.int .u8 117))⟩,
        ⟨some 24, none, .pick (.t 21) (.c (.bool true)) (.t 23)⟩] (some [3, 7, 24]))
      (.cond (.t 24)
       (.seq
        (.reg [⟨some 25, none, .mov (.t 7)⟩,
          ⟨some 4, none, .mov (.t 25)⟩] (some [4]))
        .ret)
       .skip))
     (.seq
      (.reg [⟨some 26, none, .fa 3 (.t 3)⟩,
        ⟨some 27, none, .ld none (.t 26)⟩,
        ⟨some 28, none, .bin .neq .none (.t 27) (.c (.int .i64 0))⟩,
        ⟨some 29, none, .mov (.t 28)⟩,
        ⟨some 30, some (29, true), .fa 1 (.t 3)⟩,
        ⟨some 31, some (29, true), .ld none (.t 30)⟩,
        ⟨some 32, some (29, true), .call (.c (.fn (.func 71) [] [])) [(.t 31), (.c (.int .i64 1))]⟩,
        ⟨some 33, none, .pick (.t 29) (.t 32) (.c (.bool false))⟩,
        ⟨some 8, none, .mov (.t 33)⟩] (some [3, 7, 8]))
      (.seq
       (.reg [⟨some 34, none, .fa 4 (.t 3)⟩,
         ⟨some 35, none, .ld none (.t 34)⟩,
         ⟨some 36, none, .bin .neq .none (.t 35) (.c (.int .i64 0))⟩,
         ⟨some 37, none, .mov (.t 36)⟩,
         ⟨some 38, some (37, true), .fa 4 (.t 3)⟩,
         ⟨some 39, some (37, true), .ld none (.t 38)⟩,
         ⟨some 40, some (37, true), .fa 0 (.t 3)⟩,
         ⟨some 41, some (37, true), .ld none (.t 40)⟩,
         ⟨some 42, some (37, true), .bin .neq .none (.t 39) (.t 41)⟩,
         ⟨some 43, none, .pick (.t 37) (.t 42) (.c (.bool false))⟩,
         ⟨some 9, none, .mov (.t 43)⟩] (some [3, 7, 8, 9]))
       (.seq
        (.seq
         (.reg [⟨some 44, none, .mov (.t 8)⟩] (some [3, 7, 8, 9, 44]))
         (.cond (.t 44)
          (.reg [⟨some 45, none, .mov (.t 7)⟩,
            ⟨some 46, none, .fa 3 (.t 3)⟩,
            ⟨some 47, none, .ld none (.t 46)⟩,
            ⟨some 48, none, .row 3 1 [(.t 47)]⟩,
            ⟨some 49, none, .app 3 1 8 (.t 45) (.t 48)⟩,
            ⟨some 7, none, .mov (.t 49)⟩] (some [3, 7, 8, 9]))
          .skip))
        (.seq
         (.seq
          (.reg [⟨some 50, none, .mov (.t 9)⟩,
            ⟨some 51, none, .mov (.t 50)⟩,
            ⟨some 52, some (51, true), .mov (.t 8)⟩,
            ⟨some 53, some (51, true), .un .not (.t 52)⟩,
            ⟨some 54, none, .pick (.t 51) (.t 53) (.c (.bool false))⟩] (some [3, 7, 9, 54]))
          (.cond (.t 54)
           (.reg [⟨some 55, none, .mov (.t 7)⟩,
             ⟨some 56, none, .row 3 1 [(.c (.int .i64 (-1)))]⟩,
             ⟨some 57, none, .app 3 1 8 (.t 55) (.t 56)⟩,
             ⟨some 7, none, .mov (.t 57)⟩] (some [3, 7, 9]))
           .skip))
         (.seq
          (.seq
           (.reg [⟨some 58, none, .mov (.t 9)⟩] (some [3, 7, 58]))
           (.cond (.t 58)
            (.reg [⟨some 59, none, .mov (.t 7)⟩,
              ⟨some 60, none, .fa 4 (.t 3)⟩,
              ⟨some 61, none, .ld none (.t 60)⟩,
              ⟨some 62, none, .row 3 1 [(.t 61)]⟩,
              ⟨some 63, none, .app 3 1 8 (.t 59) (.t 62)⟩,
              ⟨some 7, none, .mov (.t 63)⟩] (some [7]))
            .skip))
          (.seq
           (.reg [⟨some 64, none, .mov (.t 7)⟩,
             ⟨some 4, none, .mov (.t 64)⟩] (some [4]))
           .ret))))))))))
theorem is_clavierref13first : IrOf Tryz.prog 74 65 ir_clavierref13first [.t 4] := ⟨_, Tryz.func74, rfl, by kernel_rfl, by kernel_rfl, by kernel_rfl⟩

/-- clavier/clavierref13.second -/
def ir_clavierref13second : ICode :=
 (.seq
  (.reg [⟨some 3, none, .box 23 (.t 1)⟩,
    ⟨some 4, none, .mov (.c .nils)⟩] (some [0, 3]))
  (.seq
   (.seq
    (.reg [⟨some 5, none, .mov (.t 0)⟩,
      ⟨some 6, none, .call (.c (.fn (.func 29) [] [])) [(.t 5), (.c (.int .i64 2))]⟩,
      ⟨some 7, none, .mov (.t 6)⟩,
      ⟨some 8, some (7, true), .fa 2 (.t 3)⟩,
      ⟨some 9, some (7, true), .ld none (.t 8)⟩,
      ⟨some 10, some (7, true), .bin .neq .none (.t 9) (.c (.int .i64 1))⟩,
      ⟨some 11, none, .pick (.t 7) (.t 10) (.c (.bool false))⟩] (some [3, 11]))
    (.cond (.t 11)
     (.seq
      (.reg [⟨some 12, none, .fa 1 (.t 3)⟩,
        ⟨some 13, none, .ld none (.t 12)⟩,
        ⟨some 14, none, .bin .add .none (.c (.int .i64 1)) (.t 13)⟩,
        ⟨some 15, none, .fa 2 (.t 3)⟩,
        ⟨some 16, none, .ld none (.t 15)⟩,
        ⟨some 17, none, .row 3 1 [(.t 14), (.t 16)]⟩,
        ⟨some 4, none, .mov (.t 17)⟩] (some [4]))
      .ret)
     .skip))
   (.seq
    (.seq
     (.reg [⟨some 18, none, .fa 1 (.t 3)⟩,
       ⟨some 19, none, .ld none (.t 18)⟩,
       ⟨some 20, none, .bin .neq .none (.t 19) (.c (.int .i64 0))⟩] (some [3, 20]))
     (.cond (.t 20)
      (.seq
       (.reg [⟨some 21, none, .fa 1 (.t 3)⟩,
         ⟨some 22, none, .ld none (.t 21)⟩,
         ⟨some 23, none, .bin .add .none (.c (.int .i64 1)) (.t 22)⟩,
         ⟨some 24, none, .row 3 1 [(.t 23)]⟩,
         ⟨some 4, none, .mov (.t 24)⟩] (some [4]))
       .ret)
      .skip))
    (.seq
     (.reg [⟨some 25, none, .row 3 1 [(.c (.int .i64 (-1)))]⟩,
       ⟨some 4, none, .mov (.t 25)⟩] (some [4]))
     .ret))))
theorem is_clavierref13second : IrOf Tryz.prog 75 26 ir_clavierref13second [.t 4] := ⟨_, Tryz.func75, rfl, by kernel_rfl, by kernel_rfl, by kernel_rfl⟩

/-- clavier/clavierref13.Seq -/
def ir_clavierref13Seq : ICode :=
 (.seq
  (.reg [⟨some 3, none, .box 23 (.t 1)⟩,
    ⟨some 4, none, .box 35 (.c (.agg [(.int .i64 0), (.int .u8 0), .nils, (.str []), (.int .u8 0), (.str [])]))⟩] (some [0, 3, 4]))
  (.seq
   (.reg [⟨some 13, none, .fa 0 (.t 3)⟩,
     ⟨some 14, none, .ld none (.t 13)⟩,
     ⟨some 15, none, .call (.c (.fn (.func 10) [] [])) [(.t 14)]⟩,
     ⟨some 12, none, .mov (.t 15)⟩,
     ⟨some 16, none, .ext (.t 12) 0⟩,
     ⟨some 17, none, .ext (.t 12) 1⟩,
     ⟨some 5, none, .mov (.t 16)⟩,
     ⟨some 6, none, .mov (.t 17)⟩] (some [0, 3, 4, 6]))
   (.seq
    (.reg [⟨some 18, none, .mov (.t 0)⟩,
      ⟨some 19, none, .ld (some 6) (.t 3)⟩,
      ⟨some 20, none, .call (.c (.fn (.func 74) [] [])) [(.t 18), (.t 19)]⟩,
      ⟨some 7, none, .mov (.t 20)⟩] (some [0, 3, 4, 6, 7]))
    (.seq
     (.reg [⟨some 21, none, .mov (.t 0)⟩,
       ⟨some 22, none, .ld (some 6) (.t 3)⟩,
       ⟨some 23, none, .call (.c (.fn (.func 75) [] [])) [(.t 21), (.t 22)]⟩,
       ⟨some 8, none, .mov (.t 23)⟩] (some [0, 3, 4, 6, 7, 8]))
     (.seq
      (.reg [⟨some 24, none, .mov (.t 6)⟩,
        ⟨some 25, none, .bld [(.int .i64 0), (.int .u8 0), .nils, (.str []), (.int .u8 0), (.str [])] [(0, 1, (.c (.int .i64 1))), (4, 1, (.t 24))]⟩,
        ⟨some 9, none, .box 35 (.c (.agg [(.int .i64 0), (.int .u8 0), .nils, (.str []), (.int .u8 0), (.str [])]))⟩,
        ⟨none, none, .st 6 (.t 9) (.t 25)⟩] (some [0, 3, 4, 7, 8, 9]))
      (.seq
       (.seq
        (.reg [⟨some 26, none, .mov (.t 0)⟩,
          ⟨some 27, none, .call (.c (.fn (.func 29) [] [])) [(.t 26), (.c (.int .i64 16))]⟩,
          ⟨some 28, none, .mov (.t 27)⟩,
          ⟨some 29, some (28, true), .fa 2 (.t 3)⟩,
          ⟨some 30, some (28, true), .ld none (.t 29)⟩,
          ⟨some 31, some (28, true), .bin .neq .none (.t 30) (.c (.int .i64 3))⟩,
          ⟨some 32, none, .pick (.t 28) (.t 31) (.c (.bool false))⟩,
          ⟨some 33, none, .mov (.t 32)⟩,
          ⟨some 34, some (33, true), .fa 5 (.t 3)⟩,
          ⟨some 35, some (33, true), .ld none (.t 34)⟩,
          ⟨some 36, some (33, true), .bin .neq .none (.t 35) (.c (.str []))⟩,
          ⟨some 37, none, .pick (.t 33) (.t 36) (.c (.bool false))⟩] (some [3, 4, 7, 8, 9, 37]))
        (.cond (.t 37)
         (.seq
          (.reg [⟨some 39, none, .fa 5 (.t 3)⟩,
            ⟨some 40, none, .ld none (.t 39)⟩,
            ⟨some 41, none, .s2b 5 (.t 40)⟩,
            ⟨some 42, none, .call (.c (.fn (.func 76) [] [])) [(.t 41)]⟩,
            ⟨some 38, none, .mov (.t 42)⟩,
            ⟨some 43, none, .ext (.t 38) 0⟩,
            ⟨some 44, none, .ext (.t 38) 1⟩,
            ⟨some 10, none, .mov (.t 43)⟩,
            ⟨some 11, none, .mov (.t 44)⟩] (some [4, 7, 8, 9, 10]))
          (.seq
           (.reg [⟨some 45, none, .mov (.t 7)⟩,
             ⟨some 46, none, .mov (.t 8)⟩,
             ⟨some 47, none, .mov (.t 10)⟩,
             ⟨some 48, none, .row 56 1 [(.t 45), (.t 46), (.t 47)]⟩,
             ⟨some 49, none, .fa 2 (.t 9)⟩,
             ⟨none, none, .st 1 (.t 49) (.t 48)⟩] (some [4, 9]))
           (.seq
            (.reg [⟨some 50, none, .ld (some 6) (.t 9)⟩,
              ⟨none, none, .st 6 (.t 4) (.t 50)⟩] (some [4]))
            .ret)))
         .skip))
       (.seq
        (.seq
         (.reg [⟨some 51, none, .mov (.t 8)⟩,
           ⟨some 52, none, .ia 1 (.t 51) (.c (.int .i64 0))⟩,
           ⟨some 53, none, .ld none (.t 52)⟩,
           ⟨some 54, none, .bin .neq .none (.t 53) (.c (.int .i64 (-1)))⟩] (some [4, 7, 8, 9, 54]))
         (.cond (.t 54)
          (.seq
           (.reg [⟨some 55, none, .mov (.t 7)⟩,
             ⟨some 56, none, .mov (.t 8)⟩,
             ⟨some 57, none, .row 56 1 [(.t 55), (.t 56)]⟩,
             ⟨some 58, none, .fa 2 (.t 9)⟩,
             ⟨none, none, .st 1 (.t 58) (.t 57)⟩] (some [4, 9]))
           (.seq
            (.reg [⟨some 59, none, .ld (some 6) (.t 9)⟩,
              ⟨none, none, .st 6 (.t 4) (.t 59)⟩] (some [4]))
            .ret))
          .skip))
        (.seq
         (.seq
          (.reg [⟨some 60, none, .mov (.t 7)⟩,
            ⟨some 61, none, .len (.t 60)⟩,
            ⟨some 62, none, .bin .gtr .none (.t 61) (.c (.int .i64 1))⟩,
            ⟨some 63, none, .mov (.t 62)⟩,
            ⟨some 64, some (63, false), .mov (.t 7)⟩,
            ⟨some 65, some (63, false), .ia 1 (.t 64) (.c (.int .i64 0))⟩,
            ⟨some 66, some (63, false), .ld none (.t 65)⟩,
            ⟨some 67, some (63, false), .bin .neq .none (.t 66) (.c (.int .i64 1))⟩,
            ⟨some 68, none, .pick (.t 63) (.c (.bool true)) (.t 67)⟩] (some [4, 7, 9, 68]))
          (.cond (.t 68)
           (.reg [⟨some 69, none, .mov (.t 7)⟩,
             ⟨some 70, none, .row 56 1 [(.t 69)]⟩,
             ⟨some 71, none, .fa 2 (.t 9)⟩,
             ⟨none, none, .st 1 (.t 71) (.t 70)⟩] (some [4, 9]))
           .skip))
         (.seq
          (.reg [⟨some 72, none, .ld (some 6) (.t 9)⟩,
            ⟨none, none, .st 6 (.t 4) (.t 72)⟩] (some [4]))
          .ret)))))))))
theorem is_clavierref13Seq : IrOf Tryz.prog 35 73 ir_clavierref13Seq [.cell 4 (some 6)] := ⟨_, Tryz.func35, rfl, by kernel_rfl, by kernel_rfl, by kernel_rfl⟩

/-- clavier/clavierref13.Key -/
def ir_clavierref13Key : ICode :=
 (.seq
  (.reg [⟨some 3, none, .box 23 (.t 1)⟩,
    ⟨some 4, none, .mov (.c .nils)⟩] (some [0, 3]))
  (.seq
   (.seq
    (.reg [⟨some 7, none, .mov (.t 0)⟩,
      ⟨some 8, none, .ld (some 6) (.t 3)⟩,
      ⟨some 9, none, .call (.c (.fn (.func 28) [] [])) [(.t 7), (.t 8)]⟩,
      ⟨some 10, none, .un .not (.t 9)⟩] (some [0, 3, 10]))
    (.cond (.t 10)
     (.seq
      (.reg [⟨some 4, none, .mov (.c .nils)⟩] (some [4]))
      .ret)
     .skip))
   (.seq
    (.seq
     (.reg [⟨some 11, none, .mov (.t 0)⟩,
       ⟨some 12, none, .call (.c (.fn (.func 29) [] [])) [(.t 11), (.c (.int .i64 8))]⟩,
       ⟨some 13, none, .un .not (.t 12)⟩,
       ⟨some 14, none, .mov (.t 13)⟩,
       ⟨some 15, some (14, true), .fa 2 (.t 3)⟩,
       ⟨some 16, some (14, true), .ld none (.t 15)⟩,
       ⟨some 17, some (14, true), .bin .neq .none (.t 16) (.c (.int .i64 3))⟩,
       ⟨some 18, none, .pick (.t 14) (.t 17) (.c (.bool false))⟩,
       ⟨some 19, none, .mov (.t 18)⟩,
       ⟨some 20, some (19, true), .ld (some 6) (.t 3)⟩,
       ⟨some 21, some (19, true), .call (.c (.fn (.func 30) [] [])) [(.t 20)]⟩,
       ⟨some 22, none, .pick (.t 19) (.t 21) (.c (.bool false))⟩] (some [0, 3, 22]))
     (.cond (.t 22)
      (.seq
       (.seq
        (.reg [⟨some 23, none, .fa 0 (.t 3)⟩,
          ⟨some 24, none, .ld none (.t 23)⟩,
          ⟨some 25, none, .call (.c (.fn (.func 31) [] [])) [(.t 24)]⟩] (some [3, 25]))
        (.cond (.t 25)
         (.seq
          (.reg [⟨some 26, none, .fa 0 (.t 3)⟩,
            ⟨some 27, none, .ld none (.t 26)⟩,
            ⟨some 28, none, .cvi .u8 (.t 27)⟩,
            ⟨some 29, none, .row 5 1 [(.t 28)]⟩,
            ⟨some 4, none, .mov (.t 29)⟩] (some [4]))
          .ret)
         .skip))
       (.seq
        (.seq
         (.reg [⟨some 30, none, .fa 5 (.t 3)⟩,
           ⟨some 31, none, .ld none (.t 30)⟩,
           ⟨some 32, none, .bin .neq .none (.t 31) (.c (.str []))⟩] (some [3, 32]))
         (.cond (.t 32)
          (.seq
           (.reg [⟨some 33, none, .fa 5 (.t 3)⟩,
             ⟨some 34, none, .ld none (.t 33)⟩,
             ⟨some 35, none, .s2b 5 (.t 34)⟩,
             ⟨some 4, none, .mov (.t 35)⟩] (some [4]))
           .ret)
          .skip))
        (.seq
         (.reg [⟨some 36, none, .ld (some 6) (.t 3)⟩,
           ⟨some 37, none, .call (.c (.fn (.func 33) [] [])) [(.t 36)]⟩,
           ⟨some 38, none, .call (.c (.fn (.func 32) [] [])) [(.t 37)]⟩,
           ⟨some 4, none, .mov (.t 38)⟩] (some [4]))
         .ret)))
      .skip))
    (.seq
     (.reg [⟨some 40, none, .mov (.t 0)⟩,
       ⟨some 41, none, .ld (some 6) (.t 3)⟩,
       ⟨some 42, none, .call (.c (.fn (.func 35) [] [])) [(.t 40), (.t 41)]⟩,
       ⟨some 43, none, .call (.c (.fn (.func 34) [] [])) [(.t 42)]⟩,
       ⟨some 39, none, .mov (.t 43)⟩,
       ⟨some 44, none, .ext (.t 39) 0⟩,
       ⟨some 45, none, .ext (.t 39) 1⟩,
       ⟨some 5, none, .mov (.t 44)⟩,
       ⟨some 6, none, .mov (.t 45)⟩] (some [5]))
     (.seq
      (.reg [⟨some 46, none, .mov (.t 5)⟩,
        ⟨some 4, none, .mov (.t 46)⟩] (some [4]))
      .ret)))))
theorem is_clavierref13Key : IrOf Tryz.prog 12 47 ir_clavierref13Key [.t 4] := ⟨_, Tryz.func12, rfl, by kernel_rfl, by kernel_rfl, by kernel_rfl⟩


def flagsK (n : Int) : Int := max n 0 % 32
theorem fs_rFlags {Gl : Gh → Prop} (hst : Stays Gl) {n : Int} (hn : n ≤ 9223372036854775807) : FS Tryz.prog Gl 69 [.int .i64 n] [] [] (.int .i64 (flagsK n)) [] [] := by
  refine FS.of hm hst is_clavierref08Flags (by simp) fun γ hγ hfr => ?_
  have h : IntKind.i64.wrap ((max n 0).tmod 32) = flagsK n := by
    rw [Int.tmod_eq_emod_of_nonneg (by omega), IntKind.wrap_i64]
    unfold flagsK
    omega
  have h' : (max n 0).tmod 32 = flagsK n := by
    rw [Int.tmod_eq_emod_of_nonneg (by omega)]; rfl
  (generalize hQ : (fun (ex : Ex) (_ _ : Nat) (s : St) => _) = Q; unfold ir_clavierref08Flags)
  simp +contextual (maxSteps := 1000000) only [maxE, go_sem, reduceCtorEq, ↓reduceIte, Nat.reduceAdd, Nat.reduceEqDiff, Nat.reduceLeDiff, Nat.reduceMul, Nat.reduceBEq, Int.reduceBEq, Int.reduceBNe, Int.reduceLT, Int.reduceLE, Int.reduceGT, Int.reduceGE, Int.reduceToNat, Int.natCast_one, Int.natCast_zero, Int.cast_ofNat_Int]
  first
  | (refine ⟨by omega, ?_⟩; rw [← hQ]; refine ⟨trivial, Ret.flat (show some (AV.int _ _) = some (AV.int _ _) from congrArg (fun z => some (AV.int _ z)) ?_) rfl⟩; first | exact h | exact h')
  | (rw [← hQ]; refine ⟨trivial, Ret.flat (show some (AV.int _ _) = some (AV.int _ _) from congrArg (fun z => some (AV.int _ z)) ?_) rfl⟩; first | exact h | exact h')
theorem flag_eq {fl one : Int} (h1 : one = 1 ∨ one = 2 ∨ one = 4 ∨ one = 8 ∨ one = 16) : ((IntKind.i64.wrap ((flagsK fl).tdiv one)).tmod 2 == 1) = hasK fl one := by
  have a : 0 ≤ flagsK fl ∧ flagsK fl < 32 := by unfold flagsK; omega
  have b : IntKind.i64.wrap ((flagsK fl).tdiv one) = flagsK fl / one := by
    rw [Int.tdiv_eq_ediv_of_nonneg a.1, IntKind.wrap_i64]
    rcases h1 with rfl | rfl | rfl | rfl | rfl <;> omega
  have c : 0 ≤ flagsK fl / one := by rcases h1 with rfl | rfl | rfl | rfl | rfl <;> omega
  rw [b, Int.tmod_eq_emod_of_nonneg c]
  unfold hasK flagsK
  rw [Bool.eq_iff_iff, beq_iff_eq, decide_eq_true_eq]
  rcases h1 with rfl | rfl | rfl | rfl | rfl <;> omega
theorem fs_rFlag {Gl : Gh → Prop} (hst : Stays Gl) {fl one : Int} (hn : fl ≤ 9223372036854775807) (h1 : one = 1 ∨ one = 2 ∨ one = 4 ∨ one = 8 ∨ one = 16) : FS Tryz.prog Gl 29 [.int .i64 fl, .int .i64 one] [] [] (.bool (hasK fl one)) [] [] := by
  refine FS.of hm hst is_clavierref13flag (by simp) fun γ hγ hfr => ?_
  have h := flag_eq (fl := fl) h1
  have c1 := fs_rFlags (Gl := Gl) hst hn
  (generalize hQ : (fun (ex : Ex) (_ _ : Nat) (s : St) => _) = Q; unfold ir_clavierref13flag)
  simp +contextual (maxSteps := 1000000) only [go_sem, reduceCtorEq, ↓reduceIte, Nat.reduceAdd, Nat.reduceEqDiff, Nat.reduceLeDiff, Nat.reduceMul, Nat.reduceBEq, Int.reduceBEq, Int.reduceBNe, Int.reduceLT, Int.reduceLE, Int.reduceGT, Int.reduceGE, Int.reduceToNat, Int.natCast_one, Int.natCast_zero, Int.cast_ofNat_Int]
  (refine CallP.pure (c1) (fun _ => rfl) ?_; simp +contextual (maxSteps := 1000000) only [h, go_sem, reduceCtorEq, ↓reduceIte, Nat.reduceAdd, Nat.reduceEqDiff, Nat.reduceLeDiff, Nat.reduceMul, Nat.reduceBEq, Int.reduceBEq, Int.reduceBNe, Int.reduceLT, Int.reduceLE, Int.reduceGT, Int.reduceGE, Int.reduceToNat, Int.natCast_one, Int.natCast_zero, Int.cast_ofNat_Int])
  refine ⟨by omega, by omega, ?_⟩
  rw [← hQ]
  exact ⟨trivial, Ret.flat rfl rfl⟩
theorem fs_rKeyed {Gl : Gh → Prop} (hst : Stays Gl) {c : Int} : FS Tryz.prog Gl 31 [.int .i64 c] [] [] (.bool (typedK c)) [] [] := by
  refine FS.of hm hst is_clavierref13keyed (by simp) fun γ hγ hfr => ?_
  (generalize hQ : (fun (ex : Ex) (_ _ : Nat) (s : St) => _) = Q; unfold ir_clavierref13keyed)
  simp +contextual (maxSteps := 1000000) only [go_sem, reduceCtorEq, ↓reduceIte, Nat.reduceAdd, Nat.reduceEqDiff, Nat.reduceLeDiff, Nat.reduceMul, Nat.reduceBEq, Int.reduceBEq, Int.reduceBNe, Int.reduceLT, Int.reduceLE, Int.reduceGT, Int.reduceGE, Int.reduceToNat, Int.natCast_one, Int.natCast_zero, Int.cast_ofNat_Int]
  rw [← hQ]
  refine ⟨trivial, Ret.flat (show some (AV.bool _) = some (AV.bool _) from congrArg (fun z => some (AV.bool z)) ?_) rfl⟩
  unfold typedK
  rw [Bool.eq_iff_iff]; simp [or_assoc]
def astextK (k : Ky) : Bool := if kindK k.code = 1 then onlyK k.mods 1 else typedK k.code && onlyK k.mods 0
theorem fs_rAstext {Gl : Gh → Prop} (hst : Stays Gl) {k : Ky} (h0 : 0 ≤ k.mods) (h1 : k.mods ≤ 255) : FS Tryz.prog Gl 30 [.agg (kyAV k)] [] [] (.bool (astextK k)) [] [] := by
  refine FS.of hm hst is_clavierref13astext (by simp) fun γ hγ hfr => ?_
  have c1 := fs_rLook (Gl := Gl) hst (c := k.code)
  rw [ent_eq] at c1
  have c2 := fs_rKeyed (Gl := Gl) hst (c := k.code)
  have hky : kyAV k = [.int .i64 k.code, .int .i64 k.mods, .int .i64 k.type, .int .i64 k.shifted, .int .i64 k.base, .str k.text] := rfl
  have hp : IntKind.i64.wrap (k.mods - IntKind.i64.wrap (IntKind.i64.wrap (k.mods.tdiv 64) * 64)) = k.mods % 64 := by
    rw [Int.tdiv_eq_ediv_of_nonneg h0, IntKind.wrap_i64, IntKind.wrap_i64, IntKind.wrap_i64]; omega
  have o1 : decide (k.mods % 64 ≤ 1) = onlyK k.mods 1 := rfl
  have o0 : (k.mods % 64 == 0) = onlyK k.mods 0 := by
    unfold onlyK
    rw [Bool.eq_iff_iff, beq_iff_eq, decide_eq_true_eq]; omega
  (generalize hQ : (fun (ex : Ex) (_ _ : Nat) (s : St) => _) = Q; unfold ir_clavierref13astext)
  simp +contextual (maxSteps := 1000000) only [hky, hp, go_sem, reduceCtorEq, ↓reduceIte, Nat.reduceAdd, Nat.reduceEqDiff, Nat.reduceLeDiff, Nat.reduceMul, Nat.reduceBEq, Int.reduceBEq, Int.reduceBNe, Int.reduceLT, Int.reduceLE, Int.reduceGT, Int.reduceGE, Int.reduceToNat, Int.natCast_one, Int.natCast_zero, Int.cast_ofNat_Int]
  refine ⟨by omega, ?_⟩
  (refine CallP.pure (c1) (fun _ => rfl) ?_; simp +contextual (maxSteps := 1000000) only [hp, o1, go_sem, reduceCtorEq, ↓reduceIte, Nat.reduceAdd, Nat.reduceEqDiff, Nat.reduceLeDiff, Nat.reduceMul, Nat.reduceBEq, Int.reduceBEq, Int.reduceBNe, Int.reduceLT, Int.reduceLE, Int.reduceGT, Int.reduceGE, Int.reduceToNat, Int.natCast_one, Int.natCast_zero, Int.cast_ofNat_Int])
  by_cases hk : kindK k.code = 1
  · have q1 : ((lookR k.code).kind == 1) = true := by rw [show (lookR k.code).kind = 1 from hk]; rfl
    simp +contextual (maxSteps := 1000000) only [q1, o1, go_sem, reduceCtorEq, ↓reduceIte, Nat.reduceAdd, Nat.reduceEqDiff, Nat.reduceLeDiff, Nat.reduceMul, Nat.reduceBEq, Int.reduceBEq, Int.reduceBNe, Int.reduceLT, Int.reduceLE, Int.reduceGT, Int.reduceGE, Int.reduceToNat, Int.natCast_one, Int.natCast_zero, Int.cast_ofNat_Int]
    rw [← hQ]
    refine ⟨trivial, Ret.flat (show some (AV.bool _) = some (AV.bool _) from congrArg (fun z => some (AV.bool z)) ?_) rfl⟩
    rw [astextK, if_pos hk]
  · have q1 : ((lookR k.code).kind == 1) = false := by rw [beq_eq_false_iff_ne]; exact hk
    simp +contextual (maxSteps := 1000000) only [q1, go_sem, reduceCtorEq, ↓reduceIte, Nat.reduceAdd, Nat.reduceEqDiff, Nat.reduceLeDiff, Nat.reduceMul, Nat.reduceBEq, Int.reduceBEq, Int.reduceBNe, Int.reduceLT, Int.reduceLE, Int.reduceGT, Int.reduceGE, Int.reduceToNat, Int.natCast_one, Int.natCast_zero, Int.cast_ofNat_Int]
    (refine CallP.pure (c2) (fun _ => rfl) ?_; simp +contextual (maxSteps := 1000000) only [o0, go_sem, reduceCtorEq, ↓reduceIte, Nat.reduceAdd, Nat.reduceEqDiff, Nat.reduceLeDiff, Nat.reduceMul, Nat.reduceBEq, Int.reduceBEq, Int.reduceBNe, Int.reduceLT, Int.reduceLE, Int.reduceGT, Int.reduceGE, Int.reduceToNat, Int.natCast_one, Int.natCast_zero, Int.cast_ofNat_Int])
    rw [← hQ]
    refine ⟨trivial, Ret.flat (show some (AV.bool _) = some (AV.bool _) from congrArg (fun z => some (AV.bool z)) ?_) rfl⟩
    rw [astextK, if_neg hk]
theorem fs_rSent {Gl : Gh → Prop} (hst : Stays Gl) {k : Ky} {fl : Int} (hfl : fl ≤ 9223372036854775807) (ht : k.text.length ≤ 1000000000000) : FS Tryz.prog Gl 28 [.int .i64 fl, .agg (kyAV k)] [] [] (.bool (mayK k && sentK fl k)) [] [] := by
  refine FS.of hm hst is_clavierref13sent (by simp) fun γ hγ hfr => ?_
  have c1 := fs_rMayK (Gl := Gl) hst ht
  have c2 := fs_rLook (Gl := Gl) hst (c := k.code)
  rw [ent_eq] at c2
  have c3 := fs_rFlag (Gl := Gl) hst hfl (one := 8) (by omega)
  have c4 := fs_rFlag (Gl := Gl) hst hfl (one := 2) (by omega)
  have c5 := fs_rKeyed (Gl := Gl) hst (c := k.code)
  have hky : kyAV k = [.int .i64 k.code, .int .i64 k.mods, .int .i64 k.type, .int .i64 k.shifted, .int .i64 k.base, .str k.text] := rfl
  rw [hky] at c1
  (generalize hQ : (fun (ex : Ex) (_ _ : Nat) (s : St) => _) = Q; unfold ir_clavierref13sent)
  simp +contextual (maxSteps := 1000000) only [hky, go_sem, reduceCtorEq, ↓reduceIte, Nat.reduceAdd, Nat.reduceEqDiff, Nat.reduceLeDiff, Nat.reduceMul, Nat.reduceBEq, Int.reduceBEq, Int.reduceBNe, Int.reduceLT, Int.reduceLE, Int.reduceGT, Int.reduceGE, Int.reduceToNat, Int.natCast_one, Int.natCast_zero, Int.cast_ofNat_Int]
  (refine CallP.pure (c1) (fun _ => rfl) ?_; simp +contextual (maxSteps := 1000000) only [go_sem, reduceCtorEq, ↓reduceIte, Nat.reduceAdd, Nat.reduceEqDiff, Nat.reduceLeDiff, Nat.reduceMul, Nat.reduceBEq, Int.reduceBEq, Int.reduceBNe, Int.reduceLT, Int.reduceLE, Int.reduceGT, Int.reduceGE, Int.reduceToNat, Int.natCast_one, Int.natCast_zero, Int.cast_ofNat_Int])
  cases hmk : mayK k with
  | false =>
    simp +contextual (maxSteps := 1000000) only [go_sem, reduceCtorEq, ↓reduceIte, Nat.reduceAdd, Nat.reduceEqDiff, Nat.reduceLeDiff, Nat.reduceMul, Nat.reduceBEq, Int.reduceBEq, Int.reduceBNe, Int.reduceLT, Int.reduceLE, Int.reduceGT, Int.reduceGE, Int.reduceToNat, Int.natCast_one, Int.natCast_zero, Int.cast_ofNat_Int]
    rw [← hQ, hmk]
    exact ⟨trivial, Ret.flat rfl rfl⟩
  | true =>
    have hs : sentK fl k = (!(k.type == 3 && (!hasK fl 2 || !hasK fl 8 && ((lookR k.code).kind == 1 || typedK k.code))) && ((lookR k.code).kind != 7 || hasK fl 8)) := by
      unfold sentK kindK
      rw [dneq]; rfl
    simp +contextual (maxSteps := 1000000) only [go_sem, reduceCtorEq, ↓reduceIte, Nat.reduceAdd, Nat.reduceEqDiff, Nat.reduceLeDiff, Nat.reduceMul, Nat.reduceBEq, Int.reduceBEq, Int.reduceBNe, Int.reduceLT, Int.reduceLE, Int.reduceGT, Int.reduceGE, Int.reduceToNat, Int.natCast_one, Int.natCast_zero, Int.cast_ofNat_Int]
    (refine CallP.pure (c2) (fun _ => rfl) ?_; simp +contextual (maxSteps := 1000000) only [go_sem, reduceCtorEq, ↓reduceIte, Nat.reduceAdd, Nat.reduceEqDiff, Nat.reduceLeDiff, Nat.reduceMul, Nat.reduceBEq, Int.reduceBEq, Int.reduceBNe, Int.reduceLT, Int.reduceLE, Int.reduceGT, Int.reduceGE, Int.reduceToNat, Int.natCast_one, Int.natCast_zero, Int.cast_ofNat_Int])
    (refine CallP.pure (c3) (fun _ => rfl) ?_; simp +contextual (maxSteps := 1000000) only [go_sem, reduceCtorEq, ↓reduceIte, Nat.reduceAdd, Nat.reduceEqDiff, Nat.reduceLeDiff, Nat.reduceMul, Nat.reduceBEq, Int.reduceBEq, Int.reduceBNe, Int.reduceLT, Int.reduceLE, Int.reduceGT, Int.reduceGE, Int.reduceToNat, Int.natCast_one, Int.natCast_zero, Int.cast_ofNat_Int])
    (refine kGc_call (c4) (fun _ => rfl) (fun hgc => ?_) ?_; (focus (first | (rw [Bool.not_eq_true'] at hgc; simp only [List.map_cons, List.map_nil, List.nil_append, List.append_nil, List.cons_append, Xev_t, Xev_c, upd_app, lf_cons, lf_nil, Nat.reduceEqDiff, ↓reduceIte, hgc, Bool.false_eq_true, Bool.true_eq_false, reduceCtorEq]; done) | (simp only [List.map_cons, List.map_nil, List.nil_append, List.append_nil, List.cons_append, Xev_t, Xev_c, upd_app, lf_cons, lf_nil, Nat.reduceEqDiff, ↓reduceIte, hgc, Bool.false_eq_true, Bool.true_eq_false, reduceCtorEq]; done) | (revert hgc; simp +contextual [Xev_t, Xev_c, upd_app, lf_cons, lf_nil]; done) | simp [Xev_t, Xev_c, upd_app, lf_cons, lf_nil])); simp +contextual (maxSteps := 1000000) only [go_sem, reduceCtorEq, ↓reduceIte, Nat.reduceAdd, Nat.reduceEqDiff, Nat.reduceLeDiff, Nat.reduceMul, Nat.reduceBEq, Int.reduceBEq, Int.reduceBNe, Int.reduceLT, Int.reduceLE, Int.reduceGT, Int.reduceGE, Int.reduceToNat, Int.natCast_one, Int.natCast_zero, Int.cast_ofNat_Int])
    (refine kGc_call (c5) (fun _ => rfl) (fun hgc => ?_) ?_; (focus (first | (rw [Bool.not_eq_true'] at hgc; simp only [List.map_cons, List.map_nil, List.nil_append, List.append_nil, List.cons_append, Xev_t, Xev_c, upd_app, lf_cons, lf_nil, Nat.reduceEqDiff, ↓reduceIte, hgc, Bool.false_eq_true, Bool.true_eq_false, reduceCtorEq]; done) | (simp only [List.map_cons, List.map_nil, List.nil_append, List.append_nil, List.cons_append, Xev_t, Xev_c, upd_app, lf_cons, lf_nil, Nat.reduceEqDiff, ↓reduceIte, hgc, Bool.false_eq_true, Bool.true_eq_false, reduceCtorEq]; done) | (revert hgc; simp +contextual [Xev_t, Xev_c, upd_app, lf_cons, lf_nil]; done) | simp [Xev_t, Xev_c, upd_app, lf_cons, lf_nil])); simp +contextual (maxSteps := 1000000) only [go_sem, reduceCtorEq, ↓reduceIte, Nat.reduceAdd, Nat.reduceEqDiff, Nat.reduceLeDiff, Nat.reduceMul, Nat.reduceBEq, Int.reduceBEq, Int.reduceBNe, Int.reduceLT, Int.reduceLE, Int.reduceGT, Int.reduceGE, Int.reduceToNat, Int.natCast_one, Int.natCast_zero, Int.cast_ofNat_Int])
    cases hA : (k.type == 3 && (!hasK fl 2 || !hasK fl 8 && ((lookR k.code).kind == 1 || typedK k.code))) with
    | true =>
      simp +contextual (maxSteps := 1000000) only [go_sem, reduceCtorEq, ↓reduceIte, Nat.reduceAdd, Nat.reduceEqDiff, Nat.reduceLeDiff, Nat.reduceMul, Nat.reduceBEq, Int.reduceBEq, Int.reduceBNe, Int.reduceLT, Int.reduceLE, Int.reduceGT, Int.reduceGE, Int.reduceToNat, Int.natCast_one, Int.natCast_zero, Int.cast_ofNat_Int]
      rw [← hQ, hmk, Bool.true_and, hs, hA]
      exact ⟨trivial, Ret.flat rfl rfl⟩
    | false =>
      simp +contextual (maxSteps := 1000000) only [go_sem, reduceCtorEq, ↓reduceIte, Nat.reduceAdd, Nat.reduceEqDiff, Nat.reduceLeDiff, Nat.reduceMul, Nat.reduceBEq, Int.reduceBEq, Int.reduceBNe, Int.reduceLT, Int.reduceLE, Int.reduceGT, Int.reduceGE, Int.reduceToNat, Int.natCast_one, Int.natCast_zero, Int.cast_ofNat_Int]
      rw [← hQ, hmk, Bool.true_and, hs, hA]
      exact ⟨trivial, Ret.flat rfl rfl⟩
set_option maxHeartbeats 2000000 in
theorem fs_rFirst {Gl : Gh → Prop} (hst : Stays Gl) {k : Ky} {fl : Int} (hfl : fl ≤ 9223372036854775807) (h1 : k.mods ≤ 255) : FS Tryz.prog Gl 74 [.int .i64 fl, .agg (kyAV k)] [] [] (intsV (firstK fl k (formK k.code).1 (formK k.code).2.toNat)) [] [] := by
  refine FS.ofW hm hst is_clavierref13first rfl (by simp) fun γ hγ hfr => ?_
  have c1 := fs_rForm (Gl := Gl) hst (c := k.code)
  have c2 := fs_rFlag (Gl := Gl) hst hfl (one := 4) (by omega)
  have c3 := fs_Has (Gl := Gl) hst (m := k.mods) (one := 1) (by omega) (by omega)
  have hky : kyAV k = [.int .i64 k.code, .int .i64 k.mods, .int .i64 k.type, .int .i64 k.shifted, .int .i64 k.base, .str k.text] := rfl
  generalize (formK k.code).1 = n at *
  generalize ((formK k.code).2.toNat : Int) = f at *
  (generalize hQ : (fun (ex : Ex) (_ _ : Nat) (s : St) => _) = Q; unfold ir_clavierref13first)
  simp +contextual (maxSteps := 1000000) only [hky, go_sem, reduceCtorEq, ↓reduceIte, Nat.reduceAdd, Nat.reduceEqDiff, Nat.reduceLeDiff, Nat.reduceMul, Nat.reduceBEq, Int.reduceBEq, Int.reduceBNe, Int.reduceLT, Int.reduceLE, Int.reduceGT, Int.reduceGE, Int.reduceToNat, Int.natCast_one, Int.natCast_zero, Int.cast_ofNat_Int]
  (refine CallP.pure (c1) (fun _ => rfl) ?_; simp +contextual (maxSteps := 1000000) only [go_sem, reduceCtorEq, ↓reduceIte, Nat.reduceAdd, Nat.reduceEqDiff, Nat.reduceLeDiff, Nat.reduceMul, Nat.reduceBEq, Int.reduceBEq, Int.reduceBNe, Int.reduceLT, Int.reduceLE, Int.reduceGT, Int.reduceGE, Int.reduceToNat, Int.natCast_one, Int.natCast_zero, Int.cast_ofNat_Int])
  (refine CallP.pure (c2) (fun _ => rfl) ?_; simp +contextual (maxSteps := 1000000) only [go_sem, reduceCtorEq, ↓reduceIte, Nat.reduceAdd, Nat.reduceEqDiff, Nat.reduceLeDiff, Nat.reduceMul, Nat.reduceBEq, Int.reduceBEq, Int.reduceBNe, Int.reduceLT, Int.reduceLE, Int.reduceGT, Int.reduceGE, Int.reduceToNat, Int.natCast_one, Int.natCast_zero, Int.cast_ofNat_Int])
  cases hA : (!hasK fl 4 || (f != 117)) with
  | true =>
    simp +contextual (maxSteps := 1000000) only [go_sem, reduceCtorEq, ↓reduceIte, Nat.reduceAdd, Nat.reduceEqDiff, Nat.reduceLeDiff, Nat.reduceMul, Nat.reduceBEq, Int.reduceBEq, Int.reduceBNe, Int.reduceLT, Int.reduceLE, Int.reduceGT, Int.reduceGE, Int.reduceToNat, Int.natCast_one, Int.natCast_zero, Int.cast_ofNat_Int]
    have hz : firstK fl k n f = [n] := by rw [firstK, if_pos hA]
    rw [← hQ, hz]
    exact ⟨trivial, .inl ⟨_, rfl, RepLe.anon' rfl⟩⟩
  | false =>
    simp +contextual (maxSteps := 1000000) only [go_sem, reduceCtorEq, ↓reduceIte, Nat.reduceAdd, Nat.reduceEqDiff, Nat.reduceLeDiff, Nat.reduceMul, Nat.reduceBEq, Int.reduceBEq, Int.reduceBNe, Int.reduceLT, Int.reduceLE, Int.reduceGT, Int.reduceGE, Int.reduceToNat, Int.natCast_one, Int.natCast_zero, Int.cast_ofNat_Int]
    (refine kGc_call (c3) (fun _ => rfl) (fun hgc => ?_) ?_; (focus (first | (rw [Bool.not_eq_true'] at hgc; simp only [List.map_cons, List.map_nil, List.nil_append, List.append_nil, List.cons_append, Xev_t, Xev_c, upd_app, lf_cons, lf_nil, Nat.reduceEqDiff, ↓reduceIte, hgc, Bool.false_eq_true, Bool.true_eq_false, reduceCtorEq]; done) | (simp only [List.map_cons, List.map_nil, List.nil_append, List.append_nil, List.cons_append, Xev_t, Xev_c, upd_app, lf_cons, lf_nil, Nat.reduceEqDiff, ↓reduceIte, hgc, Bool.false_eq_true, Bool.true_eq_false, reduceCtorEq]; done) | (revert hgc; simp +contextual [Xev_t, Xev_c, upd_app, lf_cons, lf_nil]; done) | simp [Xev_t, Xev_c, upd_app, lf_cons, lf_nil])); simp +contextual (maxSteps := 1000000) only [go_sem, reduceCtorEq, ↓reduceIte, Nat.reduceAdd, Nat.reduceEqDiff, Nat.reduceLeDiff, Nat.reduceMul, Nat.reduceBEq, Int.reduceBEq, Int.reduceBNe, Int.reduceLT, Int.reduceLE, Int.reduceGT, Int.reduceGE, Int.reduceToNat, Int.natCast_one, Int.natCast_zero, Int.cast_ofNat_Int])
    cases hB : ((k.shifted != 0) && hasK k.mods 1) <;> cases hC : ((k.base != 0) && (k.base != k.code))
    all_goals
      simp +contextual (maxSteps := 1000000) only [hB, hC, go_sem, reduceCtorEq, ↓reduceIte, Nat.reduceAdd, Nat.reduceEqDiff, Nat.reduceLeDiff, Nat.reduceMul, Nat.reduceBEq, Int.reduceBEq, Int.reduceBNe, Int.reduceLT, Int.reduceLE, Int.reduceGT, Int.reduceGE, Int.reduceToNat, Int.natCast_one, Int.natCast_zero, Int.cast_ofNat_Int]
      repeat' (refine And.intro (by simp) ?_)
      rw [← hQ, firstK, hA, hB, hC]
      exact ⟨trivial, .inl ⟨_, rfl, RepLe.anon' rfl⟩⟩
theorem fs_rSecond {Gl : Gh → Prop} (hst : Stays Gl) {k : Ky} {fl : Int} (hfl : fl ≤ 9223372036854775807) (h0 : 0 ≤ k.mods) (h1 : k.mods ≤ 255) : FS Tryz.prog Gl 75 [.int .i64 fl, .agg (kyAV k)] [] [] (intsV (secondK fl k)) [] [] := by
  refine FS.ofW hm hst is_clavierref13second rfl (by simp) fun γ hγ hfr => ?_
  have c1 := fs_rFlag (Gl := Gl) hst hfl (one := 2) (by omega)
  have hky : kyAV k = [.int .i64 k.code, .int .i64 k.mods, .int .i64 k.type, .int .i64 k.shifted, .int .i64 k.base, .str k.text] := rfl
  have hp : IntKind.i64.wrap (1 + k.mods) = paramK k.mods := by
    rw [paramK, if_neg (by omega), IntKind.wrap_i64]; omega
  (generalize hQ : (fun (ex : Ex) (_ _ : Nat) (s : St) => _) = Q; unfold ir_clavierref13second)
  simp +contextual (maxSteps := 1000000) only [hky, go_sem, reduceCtorEq, ↓reduceIte, Nat.reduceAdd, Nat.reduceEqDiff, Nat.reduceLeDiff, Nat.reduceMul, Nat.reduceBEq, Int.reduceBEq, Int.reduceBNe, Int.reduceLT, Int.reduceLE, Int.reduceGT, Int.reduceGE, Int.reduceToNat, Int.natCast_one, Int.natCast_zero, Int.cast_ofNat_Int]
  (refine CallP.pure (c1) (fun _ => rfl) ?_; simp +contextual (maxSteps := 1000000) only [go_sem, reduceCtorEq, ↓reduceIte, Nat.reduceAdd, Nat.reduceEqDiff, Nat.reduceLeDiff, Nat.reduceMul, Nat.reduceBEq, Int.reduceBEq, Int.reduceBNe, Int.reduceLT, Int.reduceLE, Int.reduceGT, Int.reduceGE, Int.reduceToNat, Int.natCast_one, Int.natCast_zero, Int.cast_ofNat_Int])
  cases hA : (hasK fl 2 && (k.type != 1)) with
  | true =>
    simp +contextual (maxSteps := 1000000) only [hp, go_sem, reduceCtorEq, ↓reduceIte, Nat.reduceAdd, Nat.reduceEqDiff, Nat.reduceLeDiff, Nat.reduceMul, Nat.reduceBEq, Int.reduceBEq, Int.reduceBNe, Int.reduceLT, Int.reduceLE, Int.reduceGT, Int.reduceGE, Int.reduceToNat, Int.natCast_one, Int.natCast_zero, Int.cast_ofNat_Int]
    have hz : secondK fl k = [paramK k.mods, k.type] := by rw [secondK, if_pos hA]
    rw [← hQ, hz]
    exact ⟨trivial, .inl ⟨_, rfl, RepLe.anon' rfl⟩⟩
  | false =>
    cases hB : (k.mods != 0) with
    | true =>
      simp +contextual (maxSteps := 1000000) only [hp, hB, go_sem, reduceCtorEq, ↓reduceIte, Nat.reduceAdd, Nat.reduceEqDiff, Nat.reduceLeDiff, Nat.reduceMul, Nat.reduceBEq, Int.reduceBEq, Int.reduceBNe, Int.reduceLT, Int.reduceLE, Int.reduceGT, Int.reduceGE, Int.reduceToNat, Int.natCast_one, Int.natCast_zero, Int.cast_ofNat_Int]
      have hz : secondK fl k = [paramK k.mods] := by rw [secondK, hA, hB]; rfl
      rw [← hQ, hz]
      exact ⟨trivial, .inl ⟨_, rfl, RepLe.anon' rfl⟩⟩
    | false =>
      simp +contextual (maxSteps := 1000000) only [hp, hB, go_sem, reduceCtorEq, ↓reduceIte, Nat.reduceAdd, Nat.reduceEqDiff, Nat.reduceLeDiff, Nat.reduceMul, Nat.reduceBEq, Int.reduceBEq, Int.reduceBNe, Int.reduceLT, Int.reduceLE, Int.reduceGT, Int.reduceGE, Int.reduceToNat, Int.natCast_one, Int.natCast_zero, Int.cast_ofNat_Int]
      have hz : secondK fl k = [-1] := by rw [secondK, hA, hB]; rfl
      rw [← hQ, hz]
      exact ⟨trivial, .inl ⟨_, rfl, RepLe.anon' rfl⟩⟩
theorem third_told {fl : Int} {k : Ky} (h : MayK k) (hA : (hasK fl 16 && (k.type != 3) && !decide (k.text = [])) = true) : thirdK fl k = (allV k.text).1 ∧ untoldK (thirdK fl k) false = false := by
  simp only [Bool.and_eq_true, Bool.not_eq_true', decide_eq_false_iff_not] at hA
  have e : thirdK fl k = (allV k.text).1 := by
    unfold thirdK
    rw [if_neg]
    simp only [Bool.or_eq_true, Bool.not_eq_true', decide_eq_true_eq, beq_iff_eq, not_or]
    have h3 := hA.1.2
    rw [bne_iff_ne] at h3
    exact ⟨⟨by rw [hA.1.1]; simp, h3⟩, hA.2⟩
  refine ⟨e, ?_⟩
  rw [e]
  obtain ⟨a, b, c⟩ := text_all h.tx hA.2
  cases hl : (allV k.text).1 with
  | nil => exact absurd hl a
  | cons x xs =>
    have := c x (by rw [hl]; simp)
    unfold untoldK
    simp
    intro _
    omega
theorem third_untold {fl : Int} {k : Ky} (hA : (hasK fl 16 && (k.type != 3) && !decide (k.text = [])) = false) : thirdK fl k = [-1] := by
  unfold thirdK
  rw [if_pos]
  have e : (k.type != 3) = !(k.type == 3) := rfl
  rw [e] at hA
  revert hA
  cases hasK fl 16 <;> cases (k.type == 3) <;> cases decide (k.text = []) <;> simp
theorem trim_first {a : List Int} (hne : a ≠ []) (h0 : a.head? ≠ some (-1)) : untoldK a true = !(decide ((a.length : Int) > 1) || (a.getD 0 0 != 1)) := by
  cases a with
  | nil => exact absurd rfl hne
  | cons x xs =>
    have hx : x ≠ -1 := fun e => h0 (by rw [e]; rfl)
    unfold untoldK
    cases xs with
    | nil =>
      have : (x == -1) = false := by rw [beq_eq_false_iff_ne]; exact hx
      have h2 : (x != 1) = !(x == 1) := rfl
      simp [this, h2]
    | cons y ys => simp; omega
theorem seq_ps (fl : Int) (k : Ky) : (keySq fl k).ps = trimK [firstK fl k (formK k.code).1 (formK k.code).2.toNat, secondK fl k, thirdK fl k] 3 := rfl
theorem first_head (fl : Int) (k : Ky) (n f : Int) : ∃ l, firstK fl k n f = n :: l := by
  unfold firstK
  repeat' (first | split | simp only)
  all_goals exact ⟨_, rfl⟩
theorem second_untold (fl : Int) {k : Ky} (h : MayK k) : ∃ x l, secondK fl k = x :: l ∧ untoldK (secondK fl k) false = (x == -1) ∧ (x = -1 ∨ 1 ≤ x) := by
  have hp : paramK k.mods = k.mods + 1 := by rw [paramK, if_neg (by have := h.m0; have := h.m1; omega)]
  have := h.m0
  unfold secondK
  rw [hp]
  split
  · exact ⟨_, _, rfl, by simp [untoldK]; omega, .inr (by omega)⟩
  · split
    · exact ⟨_, _, rfl, by simp [untoldK], .inr (by omega)⟩
    · exact ⟨_, _, rfl, by simp [untoldK], .inl rfl⟩
set_option maxHeartbeats 4000000 in
theorem fs_rSeq {Gl : Gh → Prop} (hst : Stays Gl) {k : Ky} {fl : Int} (hfl : fl ≤ 9223372036854775807) (M : MayK k) (ht : k.text.length ≤ 1000000000000) : FS Tryz.prog Gl 35 [.int .i64 fl, .agg (kyAV k)] [] [] (.agg (keySq fl k).c) [] [] := by
  refine FS.ofW hm hst is_clavierref13Seq rfl (by simp) fun γ hγ hfr => ?_
  have h0 := M.m0
  have h1 := M.m1
  have c1 := fs_rForm (Gl := Gl) hst (c := k.code)
  have c2 : FS Tryz.prog Gl 74 [.int .i64 fl, .agg (kyAV k)] [] [] (.sl none 1 (intsAV (firstK fl k (formK k.code).1 (formK k.code).2.toNat))) [] [] := fs_rFirst (Gl := Gl) hst hfl h1
  have c3 : FS Tryz.prog Gl 75 [.int .i64 fl, .agg (kyAV k)] [] [] (.sl none 1 (intsAV (secondK fl k))) [] [] := fs_rSecond (Gl := Gl) hst hfl h0 h1
  have c4 := fs_rFlag (Gl := Gl) hst hfl (one := 16) (by omega)
  have c5 : FS Tryz.prog Gl 76 [.sl none 1 (bytesAV k.text)] [] [] (.tup [.sl none 1 (intsAV (allV k.text).1), .bool (allV k.text).2]) [] [] := fs_rAllU (Gl := Gl) hst ht
  have c5' : ∀ t : Option Nm, FS Tryz.prog Gl 76 [.sl t 1 (bytesAV k.text)] [] [] (.tup [.sl none 1 (intsAV (allV k.text).1), .bool (allV k.text).2]) [] [] := fun t => fs_rAllU (Gl := Gl) hst ht
  have hky : kyAV k = [.int .i64 k.code, .int .i64 k.mods, .int .i64 k.type, .int .i64 k.shifted, .int .i64 k.base, .str k.text] := rfl
  rw [hky] at c2 c3
  have hps := seq_ps fl k
  have hc : (keySq fl k).c = [.int .i64 1, .int .u8 0, parsV (keySq fl k).ps, .str [], .int .u8 (formK k.code).2.toNat, .str []] := rfl
  rw [hps] at hc
  obtain ⟨al, hal⟩ := first_head fl k (formK k.code).1 (formK k.code).2.toNat
  have hnum := formK_num M.kind
  obtain ⟨y, bl, hbl, hb1, hb2⟩ := second_untold fl M
  have hA := third_told (fl := fl) M
  have hA' := third_untold (fl := fl) (k := k)
  rw [hc]
  generalize firstK fl k (formK k.code).1 (formK k.code).2.toNat = a at *
  generalize secondK fl k = b at *
  generalize thirdK fl k = th at *
  have hf : untoldK a true = !(decide ((a.length : Int) > 1) || (a.getD 0 0 != 1)) := trim_first (by rw [hal]; simp) (by rw [hal]; simp; omega)
  (generalize hQ : (fun (ex : Ex) (_ _ : Nat) (s : St) => _) = Q; unfold ir_clavierref13Seq)
  simp +contextual (maxSteps := 1000000) only [hky, go_sem, reduceCtorEq, ↓reduceIte, Nat.reduceAdd, Nat.reduceEqDiff, Nat.reduceLeDiff, Nat.reduceMul, Nat.reduceBEq, Int.reduceBEq, Int.reduceBNe, Int.reduceLT, Int.reduceLE, Int.reduceGT, Int.reduceGE, Int.reduceToNat, Int.natCast_one, Int.natCast_zero, Int.cast_ofNat_Int]
  (refine CallP.pure (c1) (fun _ => rfl) ?_; simp +contextual (maxSteps := 1000000) only [go_sem, reduceCtorEq, ↓reduceIte, Nat.reduceAdd, Nat.reduceEqDiff, Nat.reduceLeDiff, Nat.reduceMul, Nat.reduceBEq, Int.reduceBEq, Int.reduceBNe, Int.reduceLT, Int.reduceLE, Int.reduceGT, Int.reduceGE, Int.reduceToNat, Int.natCast_one, Int.natCast_zero, Int.cast_ofNat_Int])
  (refine CallP.pure (c2) (fun _ => rfl) ?_; simp +contextual (maxSteps := 1000000) only [go_sem, reduceCtorEq, ↓reduceIte, Nat.reduceAdd, Nat.reduceEqDiff, Nat.reduceLeDiff, Nat.reduceMul, Nat.reduceBEq, Int.reduceBEq, Int.reduceBNe, Int.reduceLT, Int.reduceLE, Int.reduceGT, Int.reduceGE, Int.reduceToNat, Int.natCast_one, Int.natCast_zero, Int.cast_ofNat_Int])
  (refine CallP.pure (c3) (fun _ => rfl) ?_; simp +contextual (maxSteps := 1000000) only [go_sem, reduceCtorEq, ↓reduceIte, Nat.reduceAdd, Nat.reduceEqDiff, Nat.reduceLeDiff, Nat.reduceMul, Nat.reduceBEq, Int.reduceBEq, Int.reduceBNe, Int.reduceLT, Int.reduceLE, Int.reduceGT, Int.reduceGE, Int.reduceToNat, Int.natCast_one, Int.natCast_zero, Int.cast_ofNat_Int])
  (refine CallP.pure (c4) (fun _ => rfl) ?_; simp +contextual (maxSteps := 1000000) only [go_sem, reduceCtorEq, ↓reduceIte, Nat.reduceAdd, Nat.reduceEqDiff, Nat.reduceLeDiff, Nat.reduceMul, Nat.reduceBEq, Int.reduceBEq, Int.reduceBNe, Int.reduceLT, Int.reduceLE, Int.reduceGT, Int.reduceGE, Int.reduceToNat, Int.natCast_one, Int.natCast_zero, Int.cast_ofNat_Int])
  have res : ∀ {x : List AV} {r : AV} {F : Nat → AV} {A B C : Nm × HB} {T : Tk}, F 4 = .ptr (γ, 1, 0) 0 → A.1 ≠ (γ, 1, 0) → B = ((γ, 1, 0), .cells x) → x.length = 6 → RepLe (.agg x) r → ∃ z, resOf ⟨F, [A, B, C], T⟩ [IRes.cell 4 (some 6)] = some z ∧ RepLe z r := by
    intro x r F A B C T hF hA hB hx hr
    subst hB
    refine ⟨.agg x, ?_, hr⟩
    have hl : x.take 6 = x := List.take_of_length_le (by omega)
    simp only [resOf, getAll, IRes.get, hF, getH_cons, hA, if_false, if_true, List.drop_zero, hx, Nat.le_refl, hl]
  cases hB : (hasK fl 16 && (k.type != 3) && !decide (k.text = [])) with
  | true =>
    obtain ⟨e1, e2⟩ := hA hB
    have hz : trimK [a, b, th] 3 = [a, b, (allV k.text).1] := by
      rw [← e1]
      show (if untoldK th false = true then _ else _) = _
      rw [e2]; rfl
    simp +contextual (maxSteps := 1000000) only [go_sem, reduceCtorEq, ↓reduceIte, Nat.reduceAdd, Nat.reduceEqDiff, Nat.reduceLeDiff, Nat.reduceMul, Nat.reduceBEq, Int.reduceBEq, Int.reduceBNe, Int.reduceLT, Int.reduceLE, Int.reduceGT, Int.reduceGE, Int.reduceToNat, Int.natCast_one, Int.natCast_zero, Int.cast_ofNat_Int]
    refine ⟨by simp only [maxLen]; omega, ?_⟩
    (refine CallP.pure (c5' _) (fun _ => rfl) ?_; simp +contextual (maxSteps := 1000000) only [go_sem, reduceCtorEq, ↓reduceIte, Nat.reduceAdd, Nat.reduceEqDiff, Nat.reduceLeDiff, Nat.reduceMul, Nat.reduceBEq, Int.reduceBEq, Int.reduceBNe, Int.reduceLT, Int.reduceLE, Int.reduceGT, Int.reduceGE, Int.reduceToNat, Int.natCast_one, Int.natCast_zero, Int.cast_ofNat_Int])
    rw [hz] at hc
    rw [← hQ, hz]
    refine ⟨trivial, .inl (res rfl (by simp) rfl rfl (RepLe.agg ?_))⟩
    exact ⟨RepLe.refl _, RepLe.refl _, RepLe.anon' rfl, RepLe.refl _, RepLe.refl _, RepLe.refl _, trivial⟩
  | false =>
    have e1 := hA' hB
    have htr : trimK [a, b, th] 3 = if (y == -1) = true then (if (!(decide ((a.length : Int) > 1) || (a.getD 0 0 != 1))) = true then [] else [a]) else [a, b] := by
      show (if untoldK th false = true then (if untoldK b false = true then (if untoldK a true = true then [] else [a]) else [a, b]) else [a, b, th]) = _
      rw [e1, hb1, hf]; rfl
    have hi0 : (intsAV (y :: bl)).getD 0 [] = [.int .i64 y] := rfl
    have hi1 : (intsAV ((formK k.code).1 :: al)).getD 0 [] = [.int .i64 (formK k.code).1] := rfl
    subst hbl
    subst hal
    simp +contextual (maxSteps := 1000000) only [hi0, intsAV_length, go_sem, reduceCtorEq, ↓reduceIte, Nat.reduceAdd, Nat.reduceEqDiff, Nat.reduceLeDiff, Nat.reduceMul, Nat.reduceBEq, Int.reduceBEq, Int.reduceBNe, Int.reduceLT, Int.reduceLE, Int.reduceGT, Int.reduceGE, Int.reduceToNat, Int.natCast_one, Int.natCast_zero, Int.cast_ofNat_Int]
    refine ⟨by (first | omega | (simp only [List.length_cons]; omega)), ?_⟩
    by_cases hy : y = -1
    · have q1 : (y != -1) = false := by simp [hy]
      have q1' : (y == -1) = true := by simp [hy]
      simp +contextual (maxSteps := 1000000) only [hi0, hi1, intsAV_length, q1, go_sem, reduceCtorEq, ↓reduceIte, Nat.reduceAdd, Nat.reduceEqDiff, Nat.reduceLeDiff, Nat.reduceMul, Nat.reduceBEq, Int.reduceBEq, Int.reduceBNe, Int.reduceLT, Int.reduceLE, Int.reduceGT, Int.reduceGE, Int.reduceToNat, Int.natCast_one, Int.natCast_zero, Int.cast_ofNat_Int]
      refine ⟨fun _ => by (first | omega | (simp only [List.length_cons]; omega)), ?_⟩
      cases hC : (decide ((((formK k.code).1 :: al).length : Int) > 1) || ((formK k.code).1 != 1)) with
      | true =>
        simp +contextual (maxSteps := 1000000) only [hC, go_sem, reduceCtorEq, ↓reduceIte, Nat.reduceAdd, Nat.reduceEqDiff, Nat.reduceLeDiff, Nat.reduceMul, Nat.reduceBEq, Int.reduceBEq, Int.reduceBNe, Int.reduceLT, Int.reduceLE, Int.reduceGT, Int.reduceGE, Int.reduceToNat, Int.natCast_one, Int.natCast_zero, Int.cast_ofNat_Int]
        rw [← hQ, htr, if_pos q1', if_neg (by rw [show ((formK k.code).1 :: al).getD 0 0 = (formK k.code).1 from rfl, hC]; simp)]
        exact ⟨trivial, .inl (res rfl (by simp) rfl rfl (RepLe.agg ⟨RepLe.refl _, RepLe.refl _, RepLe.anon' rfl, RepLe.refl _, RepLe.refl _, RepLe.refl _, trivial⟩))⟩
      | false =>
        simp +contextual (maxSteps := 1000000) only [hC, go_sem, reduceCtorEq, ↓reduceIte, Nat.reduceAdd, Nat.reduceEqDiff, Nat.reduceLeDiff, Nat.reduceMul, Nat.reduceBEq, Int.reduceBEq, Int.reduceBNe, Int.reduceLT, Int.reduceLE, Int.reduceGT, Int.reduceGE, Int.reduceToNat, Int.natCast_one, Int.natCast_zero, Int.cast_ofNat_Int]
        rw [← hQ, htr, if_pos q1', if_pos (by rw [show ((formK k.code).1 :: al).getD 0 0 = (formK k.code).1 from rfl, hC]; simp)]
        exact ⟨trivial, .inl (res rfl (by simp) rfl rfl (RepLe.agg ⟨RepLe.refl _, RepLe.refl _, RepLe.nils 1, RepLe.refl _, RepLe.refl _, RepLe.refl _, trivial⟩))⟩
    · have q1 : (y != -1) = true := by simp [hy]
      have q1' : (y == -1) = false := by simp [hy]
      simp +contextual (maxSteps := 1000000) only [hi0, hi1, intsAV_length, q1, go_sem, reduceCtorEq, ↓reduceIte, Nat.reduceAdd, Nat.reduceEqDiff, Nat.reduceLeDiff, Nat.reduceMul, Nat.reduceBEq, Int.reduceBEq, Int.reduceBNe, Int.reduceLT, Int.reduceLE, Int.reduceGT, Int.reduceGE, Int.reduceToNat, Int.natCast_one, Int.natCast_zero, Int.cast_ofNat_Int]
      rw [← hQ, htr, if_neg (by rw [q1']; simp)]
      exact ⟨trivial, .inl (res rfl (by simp) rfl rfl (RepLe.agg ⟨RepLe.refl _, RepLe.refl _, RepLe.anon' rfl, RepLe.refl _, RepLe.refl _, RepLe.refl _, trivial⟩))⟩
theorem text_eq {fl : Int} {k : Ky} (M : MayK k) : textK fl k = if (!hasK fl 8 && (k.type != 3) && astextK k) = true then (if typedK k.code = true then [UInt8.ofNat k.code.toNat] else if k.text ≠ [] then k.text else putU (shownK k)) else [] := by
  have e3 : decide (k.type = 3) = (k.type == 3) := rfl
  unfold textK astextK
  rw [e3, show (k.type != 3) = !(k.type == 3) from rfl]
  by_cases hk : kindK k.code = 1
  · have hty := typed1 hk
    have hk' : decide (kindK k.code ≠ 1) = false := decide_eq_false (fun h => h hk)
    rw [if_pos hk, hty, hk']
    cases hasK fl 8 <;> cases (k.type == 3) <;> cases onlyK k.mods 1 <;> simp
  · have hk' : decide (kindK k.code ≠ 1) = true := decide_eq_true hk
    rw [if_neg hk, hk']
    cases hasK fl 8 <;> cases (k.type == 3) <;> cases typedK k.code <;> cases onlyK k.mods 0 <;> simp
theorem text_ne {k : Ky} (M : MayK k) (h : astextK k = true) : (if typedK k.code = true then [UInt8.ofNat k.code.toNat] else if k.text ≠ [] then k.text else putU (shownK k)) ≠ [] := by
  split
  · simp
  · rename_i hty
    split
    · assumption
    · have hk : kindK k.code = 1 := by
        unfold astextK at h
        split at h
        · assumption
        · simp only [Bool.and_eq_true] at h
          exact absurd h.1 hty
      exact putU_ne.2 (shown_cp hk M.sh).1
set_option maxHeartbeats 4000000 in
theorem fs_rKey {Gl : Gh → Prop} (hst : Stays Gl) {k : Ky} {fl : Int} (hfl : fl ≤ 9223372036854775807) (ht : k.text.length ≤ 1000000000000) : FS Tryz.prog Gl 12 [.int .i64 fl, .agg (kyAV k)] [] [] (.sl none 1 (bytesAV (keyK fl k))) [] [] := by
  refine FS.ofW hm hst is_clavierref13Key rfl (by simp) fun γ hγ hfr => ?_
  have c1 := fs_rSent (Gl := Gl) hst (k := k) hfl ht
  have c2 := fs_rFlag (Gl := Gl) hst hfl (one := 8) (by omega)
  have c3 := fs_rKeyed (Gl := Gl) hst (c := k.code)
  have hky : kyAV k = [.int .i64 k.code, .int .i64 k.mods, .int .i64 k.type, .int .i64 k.shifted, .int .i64 k.base, .str k.text] := rfl
  rw [hky] at c1
  (generalize hQ : (fun (ex : Ex) (_ _ : Nat) (s : St) => _) = Q; unfold ir_clavierref13Key)
  simp +contextual (maxSteps := 1000000) only [hky, go_sem, reduceCtorEq, ↓reduceIte, Nat.reduceAdd, Nat.reduceEqDiff, Nat.reduceLeDiff, Nat.reduceMul, Nat.reduceBEq, Int.reduceBEq, Int.reduceBNe, Int.reduceLT, Int.reduceLE, Int.reduceGT, Int.reduceGE, Int.reduceToNat, Int.natCast_one, Int.natCast_zero, Int.cast_ofNat_Int]
  cases hs : (mayK k && sentK fl k) with
  | false =>
    rw [hs] at c1
    (refine CallP.pure (c1) (fun _ => rfl) ?_; simp +contextual (maxSteps := 1000000) only [go_sem, reduceCtorEq, ↓reduceIte, Nat.reduceAdd, Nat.reduceEqDiff, Nat.reduceLeDiff, Nat.reduceMul, Nat.reduceBEq, Int.reduceBEq, Int.reduceBNe, Int.reduceLT, Int.reduceLE, Int.reduceGT, Int.reduceGE, Int.reduceToNat, Int.natCast_one, Int.natCast_zero, Int.cast_ofNat_Int])
    have hz : keyK fl k = [] := by
      unfold keyK
      rw [if_pos]
      revert hs
      cases mayK k <;> cases sentK fl k <;> simp
    rw [← hQ, hz]
    exact ⟨trivial, .inl ⟨_, rfl, RepLe.nils 1⟩⟩
  | true =>
    rw [hs] at c1
    obtain ⟨hm1, hs1⟩ := (Bool.and_eq_true _ _).mp hs
    have M := mayK_iff.1 hm1
    have h0 := M.m0
    have h1 := M.m1
    have c4 := fs_rAstext (Gl := Gl) hst (k := k) h0 h1
    have c5 := fs_rShown (Gl := Gl) hst (k := k) (by omega)
    have c6 : FS Tryz.prog Gl 35 [.int .i64 fl, .agg (kyAV k)] [] [] (.agg [.int .i64 1, .int .u8 0, .sl none 1 (parsAV (keySq fl k).ps), .str [], .int .u8 (formK k.code).2.toNat, .str []]) [] [] := fs_rSeq (Gl := Gl) hst hfl M ht
    have hkk : keyK fl k = if textK fl k ≠ [] then textK fl k else putX (keySq fl k) := by
      unfold keyK
      rw [hm1, hs1]; rfl
    have hte := text_eq (fl := fl) M
    rw [hky] at c4 c5 c6
    have hge := formK_ge M.kind
    have c7 := fs_rPut (Gl := Gl) hst (s := keySq fl k) (by simp [keySq]) (by simp [keySq]) (by simp only [keySq]; omega) (by simp only [keySq]; omega) (key_sm M)
    have hpv : putV (keySq fl k) = .sl none 1 (bytesAV (putX (keySq fl k))) := by
      unfold putV putX
      rw [key_may M]; rfl
    rw [hpv] at c7
    have hc : (keySq fl k).c = [.int .i64 1, .int .u8 0, .sl none 1 (parsAV (keySq fl k).ps), .str [], .int .u8 (formK k.code).2.toNat, .str []] := rfl
    rw [hc] at c7
    (refine CallP.pure (c1) (fun _ => rfl) ?_; simp +contextual (maxSteps := 1000000) only [go_sem, reduceCtorEq, ↓reduceIte, Nat.reduceAdd, Nat.reduceEqDiff, Nat.reduceLeDiff, Nat.reduceMul, Nat.reduceBEq, Int.reduceBEq, Int.reduceBNe, Int.reduceLT, Int.reduceLE, Int.reduceGT, Int.reduceGE, Int.reduceToNat, Int.natCast_one, Int.natCast_zero, Int.cast_ofNat_Int])
    (refine CallP.pure (c2) (fun _ => rfl) ?_; simp +contextual (maxSteps := 1000000) only [go_sem, reduceCtorEq, ↓reduceIte, Nat.reduceAdd, Nat.reduceEqDiff, Nat.reduceLeDiff, Nat.reduceMul, Nat.reduceBEq, Int.reduceBEq, Int.reduceBNe, Int.reduceLT, Int.reduceLE, Int.reduceGT, Int.reduceGE, Int.reduceToNat, Int.natCast_one, Int.natCast_zero, Int.cast_ofNat_Int])
    (refine kGc_call (c4) (fun _ => rfl) (fun hgc => ?_) ?_; (focus (first | (rw [Bool.not_eq_true'] at hgc; simp only [List.map_cons, List.map_nil, List.nil_append, List.append_nil, List.cons_append, Xev_t, Xev_c, upd_app, lf_cons, lf_nil, Nat.reduceEqDiff, ↓reduceIte, hgc, Bool.false_eq_true, Bool.true_eq_false, reduceCtorEq]; done) | (simp only [List.map_cons, List.map_nil, List.nil_append, List.append_nil, List.cons_append, Xev_t, Xev_c, upd_app, lf_cons, lf_nil, Nat.reduceEqDiff, ↓reduceIte, hgc, Bool.false_eq_true, Bool.true_eq_false, reduceCtorEq]; done) | (revert hgc; simp +contextual [Xev_t, Xev_c, upd_app, lf_cons, lf_nil]; done) | simp [Xev_t, Xev_c, upd_app, lf_cons, lf_nil])); simp +contextual (maxSteps := 1000000) only [go_sem, reduceCtorEq, ↓reduceIte, Nat.reduceAdd, Nat.reduceEqDiff, Nat.reduceLeDiff, Nat.reduceMul, Nat.reduceBEq, Int.reduceBEq, Int.reduceBNe, Int.reduceLT, Int.reduceLE, Int.reduceGT, Int.reduceGE, Int.reduceToNat, Int.natCast_one, Int.natCast_zero, Int.cast_ofNat_Int])
    cases hA : (!hasK fl 8 && (k.type != 3) && astextK k) with
    | false =>
      have hz : keyK fl k = putX (keySq fl k) := by rw [hkk, hte, hA]; simp
      simp +contextual (maxSteps := 1000000) only [hA, go_sem, reduceCtorEq, ↓reduceIte, Nat.reduceAdd, Nat.reduceEqDiff, Nat.reduceLeDiff, Nat.reduceMul, Nat.reduceBEq, Int.reduceBEq, Int.reduceBNe, Int.reduceLT, Int.reduceLE, Int.reduceGT, Int.reduceGE, Int.reduceToNat, Int.natCast_one, Int.natCast_zero, Int.cast_ofNat_Int]
      (refine CallP.pure (c6) (fun _ => rfl) ?_; simp +contextual (maxSteps := 1000000) only [go_sem, reduceCtorEq, ↓reduceIte, Nat.reduceAdd, Nat.reduceEqDiff, Nat.reduceLeDiff, Nat.reduceMul, Nat.reduceBEq, Int.reduceBEq, Int.reduceBNe, Int.reduceLT, Int.reduceLE, Int.reduceGT, Int.reduceGE, Int.reduceToNat, Int.natCast_one, Int.natCast_zero, Int.cast_ofNat_Int])
      (refine CallP.pure (c7) (fun _ => rfl) ?_; simp +contextual (maxSteps := 1000000) only [go_sem, reduceCtorEq, ↓reduceIte, Nat.reduceAdd, Nat.reduceEqDiff, Nat.reduceLeDiff, Nat.reduceMul, Nat.reduceBEq, Int.reduceBEq, Int.reduceBNe, Int.reduceLT, Int.reduceLE, Int.reduceGT, Int.reduceGE, Int.reduceToNat, Int.natCast_one, Int.natCast_zero, Int.cast_ofNat_Int])
      rw [← hQ, hz]
      exact ⟨trivial, .inl ⟨_, rfl, RepLe.refl _⟩⟩
    | true =>
      have hz : keyK fl k = (if typedK k.code = true then [UInt8.ofNat k.code.toNat] else if k.text ≠ [] then k.text else putU (shownK k)) := by
        have hne := text_ne M ((Bool.and_eq_true _ _).mp hA).2
        rw [hkk, hte, if_pos hA, if_pos hne]
      simp +contextual (maxSteps := 1000000) only [hA, go_sem, reduceCtorEq, ↓reduceIte, Nat.reduceAdd, Nat.reduceEqDiff, Nat.reduceLeDiff, Nat.reduceMul, Nat.reduceBEq, Int.reduceBEq, Int.reduceBNe, Int.reduceLT, Int.reduceLE, Int.reduceGT, Int.reduceGE, Int.reduceToNat, Int.natCast_one, Int.natCast_zero, Int.cast_ofNat_Int]
      (refine CallP.pure (c3) (fun _ => rfl) ?_; simp +contextual (maxSteps := 1000000) only [go_sem, reduceCtorEq, ↓reduceIte, Nat.reduceAdd, Nat.reduceEqDiff, Nat.reduceLeDiff, Nat.reduceMul, Nat.reduceBEq, Int.reduceBEq, Int.reduceBNe, Int.reduceLT, Int.reduceLE, Int.reduceGT, Int.reduceGE, Int.reduceToNat, Int.natCast_one, Int.natCast_zero, Int.cast_ofNat_Int])
      cases hty : typedK k.code with
      | true =>
        simp +contextual (maxSteps := 1000000) only [hty, go_sem, reduceCtorEq, ↓reduceIte, Nat.reduceAdd, Nat.reduceEqDiff, Nat.reduceLeDiff, Nat.reduceMul, Nat.reduceBEq, Int.reduceBEq, Int.reduceBNe, Int.reduceLT, Int.reduceLE, Int.reduceGT, Int.reduceGE, Int.reduceToNat, Int.natCast_one, Int.natCast_zero, Int.cast_ofNat_Int]
        rw [if_pos hty] at hz
        rw [← hQ, hz]
        refine ⟨trivial, .inl ⟨_, rfl, RepLe.anon' ?_⟩⟩
        have hcc : k.code = 9 ∨ k.code = 13 ∨ k.code = 127 := by
          simp only [typedK, Bool.or_eq_true, decide_eq_true_eq] at hty; omega
        rcases hcc with h | h | h <;> rw [h] <;> rfl
      | false =>
        rw [if_neg (by rw [hty]; simp)] at hz
        by_cases hx : k.text = []
        · have hq : decide (k.text = []) = true := by simp [hx]
          rw [if_neg (fun h => h hx)] at hz
          simp +contextual (maxSteps := 1000000) only [hq, go_sem, reduceCtorEq, ↓reduceIte, Nat.reduceAdd, Nat.reduceEqDiff, Nat.reduceLeDiff, Nat.reduceMul, Nat.reduceBEq, Int.reduceBEq, Int.reduceBNe, Int.reduceLT, Int.reduceLE, Int.reduceGT, Int.reduceGE, Int.reduceToNat, Int.natCast_one, Int.natCast_zero, Int.cast_ofNat_Int]
          (refine CallP.pure (c5) (fun _ => rfl) ?_; simp +contextual (maxSteps := 1000000) only [go_sem, reduceCtorEq, ↓reduceIte, Nat.reduceAdd, Nat.reduceEqDiff, Nat.reduceLeDiff, Nat.reduceMul, Nat.reduceBEq, Int.reduceBEq, Int.reduceBNe, Int.reduceLT, Int.reduceLE, Int.reduceGT, Int.reduceGE, Int.reduceToNat, Int.natCast_one, Int.natCast_zero, Int.cast_ofNat_Int])
          (refine CallP.pure (fs_rPutU hst) (fun _ => rfl) ?_; simp +contextual (maxSteps := 1000000) only [go_sem, reduceCtorEq, ↓reduceIte, Nat.reduceAdd, Nat.reduceEqDiff, Nat.reduceLeDiff, Nat.reduceMul, Nat.reduceBEq, Int.reduceBEq, Int.reduceBNe, Int.reduceLT, Int.reduceLE, Int.reduceGT, Int.reduceGE, Int.reduceToNat, Int.natCast_one, Int.natCast_zero, Int.cast_ofNat_Int])
          rw [← hQ, hz]
          exact ⟨trivial, .inl ⟨_, rfl, RepLe.refl _⟩⟩
        · have hq : decide (k.text = []) = false := by simp [hx]
          rw [if_pos hx] at hz
          simp +contextual (maxSteps := 1000000) only [hq, go_sem, reduceCtorEq, ↓reduceIte, Nat.reduceAdd, Nat.reduceEqDiff, Nat.reduceLeDiff, Nat.reduceMul, Nat.reduceBEq, Int.reduceBEq, Int.reduceBNe, Int.reduceLT, Int.reduceLE, Int.reduceGT, Int.reduceGE, Int.reduceToNat, Int.natCast_one, Int.natCast_zero, Int.cast_ofNat_Int]
          refine ⟨by simp only [maxLen]; omega, ?_⟩
          rw [← hQ, hz]
          exact ⟨trivial, .inl ⟨_, rfl, RepLe.refl _⟩⟩
end Go.Proofs.YthmjlngdbabdeaaGreatDoor

/- The statements of chapter 13: the program's answer is the document's. -/
set_option linter.unusedVariables false
set_option linter.unusedSimpArgs false
set_option maxRecDepth 100000
namespace Go.Proofs.YthmjlngdbabdeaaGreatDoor
open Go Go.Ab
/-- clavier/clavierlaw13.KittyTells -/
def ir_clavierlaw13KittyTells : ICode :=
 (.seq
  (.reg [⟨some 3, none, .box 23 (.t 1)⟩,
    ⟨some 4, none, .mov (.c (.bool false))⟩] (some [0, 3]))
  (.seq
   (.reg [⟨some 10, none, .call (.c (.fn (.func 8) [] [])) []⟩,
     ⟨some 5, none, .mov (.t 10)⟩] (some [0, 3, 5]))
   (.seq
    (.seq
     (.reg [⟨some 11, none, .fa 5 (.t 3)⟩,
       ⟨some 12, none, .ld none (.t 11)⟩,
       ⟨some 13, none, .lns (.t 12)⟩,
       ⟨some 14, none, .bin .gtr .none (.t 13) (.c (.int .i64 100))⟩] (some [0, 3, 5, 14]))
     (.cond (.t 14)
      (.seq
       (.reg [⟨some 15, none, .mov (.t 5)⟩,
         ⟨some 4, none, .mov (.t 15)⟩] (some [4]))
       .ret)
      .skip))
    (.seq
     (.reg [⟨some 17, none, .fa 0 (.t 3)⟩,
       ⟨some 18, none, .ld none (.t 17)⟩,
       ⟨some 19, none, .call (.c (.fn (.func 9) [] [])) [(.t 18)]⟩,
       ⟨some 16, none, .mov (.t 19)⟩,
       ⟨some 20, none, .ext (.t 16) 0⟩,
       ⟨some 21, none, .ext (.t 16) 1⟩,
       ⟨some 6, none, .mov (.t 20)⟩,
       ⟨some 7, none, .mov (.t 21)⟩] (some [0, 3, 5, 6, 7]))
     (.seq
      (.reg [⟨some 23, none, .fa 0 (.t 3)⟩,
        ⟨some 24, none, .ld none (.t 23)⟩,
        ⟨some 25, none, .call (.c (.fn (.func 10) [] [])) [(.t 24)]⟩,
        ⟨some 22, none, .mov (.t 25)⟩,
        ⟨some 26, none, .ext (.t 22) 0⟩,
        ⟨some 27, none, .ext (.t 22) 1⟩,
        ⟨some 8, none, .mov (.t 26)⟩,
        ⟨some 9, none, .mov (.t 27)⟩] (some [0, 3, 5, 6, 7, 8, 9]))
      (.seq
       (.drw [⟨⟨some 28, none, .mov (.t 5)⟩, []⟩,
         ⟨⟨some 29, none, .mov (.t 28)⟩, [0]⟩,
         ⟨⟨some 30, some (29, true), .mov (.t 0)⟩, [1]⟩,
         ⟨⟨some 31, some (29, true), .ld (some 6) (.t 3)⟩, [1]⟩,
         ⟨⟨some 32, some (29, true), .call (.c (.fn (.func 11) [] [])) [(.t 30), (.t 31)]⟩, [2, 3, 1, 1]⟩,
         ⟨⟨some 33, some (29, true), .b2s (.t 32)⟩, [4, 1]⟩,
         ⟨⟨some 34, some (29, true), .mov (.t 0)⟩, [1]⟩,
         ⟨⟨some 35, some (29, true), .ld (some 6) (.t 3)⟩, [1]⟩,
         ⟨⟨some 36, some (29, true), .call (.c (.fn (.func 12) [] [])) [(.t 34), (.t 35)]⟩, [6, 7, 4, 1]⟩,
         ⟨⟨some 37, some (29, true), .b2s (.t 36)⟩, [8, 1]⟩,
         ⟨⟨some 38, some (29, true), .bin .eql .none (.t 33) (.t 37)⟩, [5, 9, 1]⟩,
         ⟨⟨some 39, none, .pick (.t 29) (.t 38) (.c (.bool false))⟩, [1, 10]⟩,
         ⟨⟨some 40, none, .mov (.t 39)⟩, [11, 8]⟩,
         ⟨⟨some 41, some (40, true), .mov (.t 6)⟩, [12]⟩,
         ⟨⟨some 42, some (40, true), .mov (.t 8)⟩, [12]⟩,
         ⟨⟨some 43, some (40, true), .bin .eql .none (.t 41) (.t 42)⟩, [13, 14, 12]⟩,
         ⟨⟨some 44, none, .pick (.t 40) (.t 43) (.c (.bool false))⟩, [12, 15]⟩,
         ⟨⟨some 45, none, .mov (.t 44)⟩, [16, 12]⟩,
         ⟨⟨some 46, some (45, true), .mov (.t 7)⟩, [17]⟩,
         ⟨⟨some 47, some (45, true), .mov (.t 9)⟩, [17]⟩,
         ⟨⟨some 48, some (45, true), .bin .eql .none (.t 46) (.t 47)⟩, [18, 19, 17]⟩,
         ⟨⟨some 49, none, .pick (.t 45) (.t 48) (.c (.bool false))⟩, [17, 20]⟩]
         [⟨some 4, none, .mov (.t 49)⟩] (some [4]))
       .ret))))))
theorem is_clavierlaw13KittyTells : IrOf Tryz.prog 3 50 ir_clavierlaw13KittyTells [.t 4] := ⟨_, Tryz.func3, rfl, by kernel_rfl, by kernel_rfl, by kernel_rfl⟩

/- clavier/clavierlaw13.KittyAll -/
def ir_clavierlaw13KittyAll_l0 : ICode :=
 (.seq
        (.seq
         (.reg [⟨some 11, none, .mov (.t 8)⟩,
           ⟨some 12, none, .bin .lss .none (.t 11) (.c (.int .i64 30))⟩] (some [0, 1, 5, 7, 8, 12]))
         (.cond (.t 12)
          .skip
          (.exit 0)))
        (.seq
         (.blk 1
          (.seq
           (.reg [⟨some 15, none, .iar 2 1 (.t 5) (.c (.int .i64 0))⟩,
             ⟨some 16, none, .ld none (.t 15)⟩,
             ⟨some 17, none, .cvi .i64 (.t 16)⟩,
             ⟨some 18, none, .mov (.t 8)⟩,
             ⟨some 19, none, .bin .add .none (.t 17) (.t 18)⟩,
             ⟨some 20, none, .bin .rem .none (.t 19) (.c (.int .i64 120))⟩,
             ⟨some 21, none, .bin .add .none (.c (.int .i64 57344)) (.t 20)⟩,
             ⟨some 22, none, .mov (.t 1)⟩,
             ⟨some 23, none, .cvi .i64 (.t 22)⟩,
             ⟨some 24, none, .iar 2 1 (.t 5) (.c (.int .i64 1))⟩,
             ⟨some 25, none, .ld none (.t 24)⟩,
             ⟨some 26, none, .bin .rem .none (.t 25) (.c (.int .u8 3))⟩,
             ⟨some 27, none, .cvi .i64 (.t 26)⟩,
             ⟨some 28, none, .bin .add .none (.c (.int .i64 1)) (.t 27)⟩,
             ⟨some 29, none, .bld [(.int .i64 0), (.int .i64 0), (.int .i64 0), (.int .i64 0), (.int .i64 0), (.str [])] [(0, 1, (.t 21)), (1, 1, (.t 23)), (2, 1, (.t 28))]⟩,
             ⟨some 9, none, .box 23 (.c (.agg [(.int .i64 0), (.int .i64 0), (.int .i64 0), (.int .i64 0), (.int .i64 0), (.str [])]))⟩,
             ⟨none, none, .st 6 (.t 9) (.t 29)⟩] (some [0, 1, 5, 7, 8, 9]))
           (.seq
            (.drw [⟨⟨some 30, none, .mov (.t 0)⟩, []⟩,
              ⟨⟨some 31, none, .cvi .i64 (.t 30)⟩, [0]⟩,
              ⟨⟨some 32, none, .ld (some 6) (.t 9)⟩, []⟩,
              ⟨⟨some 33, none, .call (.c (.fn (.func 11) [] [])) [(.t 31), (.t 32)]⟩, [1, 2]⟩,
              ⟨⟨some 34, none, .b2s (.t 33)⟩, [3]⟩,
              ⟨⟨some 35, none, .mov (.t 0)⟩, []⟩,
              ⟨⟨some 36, none, .cvi .i64 (.t 35)⟩, [5]⟩,
              ⟨⟨some 37, none, .ld (some 6) (.t 9)⟩, []⟩,
              ⟨⟨some 38, none, .call (.c (.fn (.func 12) [] [])) [(.t 36), (.t 37)]⟩, [6, 7, 3]⟩,
              ⟨⟨some 39, none, .b2s (.t 38)⟩, [8]⟩,
              ⟨⟨some 40, none, .bin .neq .none (.t 34) (.t 39)⟩, [4, 9]⟩]
              [] (some [0, 1, 5, 7, 8, 40]))
            (.cond (.t 40)
             (.seq
              (.reg [⟨some 6, none, .mov (.c (.bool false))⟩] (some [6]))
              .ret)
             .skip))))
         (.reg [⟨some 13, none, .mov (.t 8)⟩,
           ⟨some 14, none, .bin .add .none (.t 13) (.c (.int .i64 1))⟩,
           ⟨some 8, none, .mov (.t 14)⟩] (some [0, 1, 5, 7, 8]))))
def ir_clavierlaw13KittyAll : ICode :=
 (.seq
  (.reg [⟨some 5, none, .box 30 (.t 2)⟩,
    ⟨some 6, none, .mov (.c (.bool false))⟩] (some [0, 1, 5]))
  (.seq
   (.reg [⟨some 10, none, .call (.c (.fn (.func 8) [] [])) []⟩,
     ⟨some 7, none, .mov (.t 10)⟩] (some [0, 1, 5, 7]))
   (.seq
    (.seq
     (.reg [⟨some 8, none, .mov (.c (.int .i64 0))⟩] (some [0, 1, 5, 7, 8]))
     (.blk 0
      (.loop
       ir_clavierlaw13KittyAll_l0)))
    (.seq
     (.reg [⟨some 41, none, .mov (.t 7)⟩,
       ⟨some 6, none, .mov (.t 41)⟩] (some [6]))
     .ret))))
theorem is_clavierlaw13KittyAll : IrOf Tryz.prog 4 42 ir_clavierlaw13KittyAll [.t 6] := ⟨_, Tryz.func4, rfl, by kernel_rfl, by kernel_rfl, by kernel_rfl⟩


set_option maxHeartbeats 4000000 in
theorem fs_KittyTells {Gl : Gh → Prop} (hst : Stays Gl) {fl : Int} {k : Ky} (hfl : -9223372036854775808 ≤ fl ∧ fl ≤ 9223372036854775807) (ht : k.text.length ≤ maxLen) : FS Tryz.prog Gl 3 [.int .i64 fl, .agg (kyAV k)] [] [] (.bool true) [] [] := by
  refine FS.of hm hst is_clavierlaw13KittyTells (by simp) fun γ hγ hfr => ?_
  have hky : kyAV k = [.int .i64 k.code, .int .i64 k.mods, .int .i64 k.type, .int .i64 k.shifted, .int .i64 k.base, .str k.text] := rfl
  have c1 := fs_Form (Gl := Gl) hst (c := k.code)
  have c2 := fs_rForm (Gl := Gl) hst (c := k.code)
  (generalize hQ : (fun (ex : Ex) (_ _ : Nat) (s : St) => _) = Q; unfold ir_clavierlaw13KittyTells)
  simp +contextual (maxSteps := 1000000) only [hky, go_sem, reduceCtorEq, ↓reduceIte, Nat.reduceAdd, Nat.reduceEqDiff, Nat.reduceLeDiff, Nat.reduceMul, Nat.reduceBEq, Int.reduceBEq, Int.reduceBNe, Int.reduceLT, Int.reduceLE, Int.reduceGT, Int.reduceGE, Int.reduceToNat, Int.natCast_one, Int.natCast_zero, Int.cast_ofNat_Int]
  (refine CallP.pure (fs_awake hst) (fun _ => rfl) ?_; simp +contextual (maxSteps := 1000000) only [go_sem, reduceCtorEq, ↓reduceIte, Nat.reduceAdd, Nat.reduceEqDiff, Nat.reduceLeDiff, Nat.reduceMul, Nat.reduceBEq, Int.reduceBEq, Int.reduceBNe, Int.reduceLT, Int.reduceLE, Int.reduceGT, Int.reduceGE, Int.reduceToNat, Int.natCast_one, Int.natCast_zero, Int.cast_ofNat_Int])
  by_cases h : (k.text.length : Int) > 100
  · have q : decide ((k.text.length : Int) > 100) = true := decide_eq_true h
    simp +contextual (maxSteps := 1000000) only [q, go_sem, reduceCtorEq, ↓reduceIte, Nat.reduceAdd, Nat.reduceEqDiff, Nat.reduceLeDiff, Nat.reduceMul, Nat.reduceBEq, Int.reduceBEq, Int.reduceBNe, Int.reduceLT, Int.reduceLE, Int.reduceGT, Int.reduceGE, Int.reduceToNat, Int.natCast_one, Int.natCast_zero, Int.cast_ofNat_Int]
    rw [← hQ]
    exact ⟨trivial, Ret.flat rfl rfl⟩
  · have q : decide ((k.text.length : Int) > 100) = false := decide_eq_false h
    have c3 := fs_Key (Gl := Gl) hst (k := k) (fl := fl) hfl.2 (by omega)
    have c4 := fs_rKey (Gl := Gl) hst (k := k) (fl := fl) hfl.2 (by omega)
    rw [hky] at c3 c4
    simp +contextual (maxSteps := 1000000) only [q, go_sem, reduceCtorEq, ↓reduceIte, Nat.reduceAdd, Nat.reduceEqDiff, Nat.reduceLeDiff, Nat.reduceMul, Nat.reduceBEq, Int.reduceBEq, Int.reduceBNe, Int.reduceLT, Int.reduceLE, Int.reduceGT, Int.reduceGE, Int.reduceToNat, Int.natCast_one, Int.natCast_zero, Int.cast_ofNat_Int]
    (refine CallP.pure (c1) (fun _ => rfl) ?_; simp +contextual (maxSteps := 1000000) only [go_sem, reduceCtorEq, ↓reduceIte, Nat.reduceAdd, Nat.reduceEqDiff, Nat.reduceLeDiff, Nat.reduceMul, Nat.reduceBEq, Int.reduceBEq, Int.reduceBNe, Int.reduceLT, Int.reduceLE, Int.reduceGT, Int.reduceGE, Int.reduceToNat, Int.natCast_one, Int.natCast_zero, Int.cast_ofNat_Int])
    (refine CallP.pure (c2) (fun _ => rfl) ?_; simp +contextual (maxSteps := 1000000) only [go_sem, reduceCtorEq, ↓reduceIte, Nat.reduceAdd, Nat.reduceEqDiff, Nat.reduceLeDiff, Nat.reduceMul, Nat.reduceBEq, Int.reduceBEq, Int.reduceBNe, Int.reduceLT, Int.reduceLE, Int.reduceGT, Int.reduceGE, Int.reduceToNat, Int.natCast_one, Int.natCast_zero, Int.cast_ofNat_Int])
    refine DCall.new c3 ?_
    simp +contextual (maxSteps := 1000000) only [go_sem, reduceCtorEq, ↓reduceIte, Nat.reduceAdd, Nat.reduceEqDiff, Nat.reduceLeDiff, Nat.reduceMul, Nat.reduceBEq, Int.reduceBEq, Int.reduceBNe, Int.reduceLT, Int.reduceLE, Int.reduceGT, Int.reduceGE, Int.reduceToNat, Int.natCast_one, Int.natCast_zero, Int.cast_ofNat_Int]
    refine ⟨?_, DCall.new c4 ?_⟩
    · rw [bb_is]; trivial
    simp +contextual (maxSteps := 1000000) only [bb_un, bb_is, go_sem, reduceCtorEq, ↓reduceIte, Nat.reduceAdd, Nat.reduceEqDiff, Nat.reduceLeDiff, Nat.reduceMul, Nat.reduceBEq, Int.reduceBEq, Int.reduceBNe, Int.reduceLT, Int.reduceLE, Int.reduceGT, Int.reduceGE, Int.reduceToNat, Int.natCast_one, Int.natCast_zero, Int.cast_ofNat_Int]
    rw [← hQ]
    exact ⟨trivial, Ret.flat rfl rfl⟩
set_option maxHeartbeats 4000000 in
theorem fs_KittyAll {Gl : Gh → Prop} (hst : Stays Gl) {fl mods : UInt8} {ab : UInt8 × UInt8} (_ : True) (_ : True) (_ : True) : FS Tryz.prog Gl 4 [.int .u8 (fl.toNat : Int), .int .u8 (mods.toNat : Int), .agg [.int .u8 (ab.1.toNat : Int), .int .u8 (ab.2.toNat : Int)]] [] [] (.bool true) [] [] := by
  refine FS.of hm hst is_clavierlaw13KittyAll (by simp) fun γ hγ hfr => ?_
  obtain ⟨a, b⟩ := ab
  simp only at hfr ⊢
  (generalize hQ : (fun (ex : Ex) (_ _ : Nat) (s : St) => _) = Q; unfold ir_clavierlaw13KittyAll)
  simp +contextual (maxSteps := 1000000) only [go_sem, reduceCtorEq, ↓reduceIte, Nat.reduceAdd, Nat.reduceEqDiff, Nat.reduceLeDiff, Nat.reduceMul, Nat.reduceBEq, Int.reduceBEq, Int.reduceBNe, Int.reduceLT, Int.reduceLE, Int.reduceGT, Int.reduceGE, Int.reduceToNat, Int.natCast_one, Int.natCast_zero, Int.cast_ofNat_Int]
  (refine CallP.pure (fs_awake hst) (fun _ => rfl) ?_; simp +contextual (maxSteps := 1000000) only [go_sem, reduceCtorEq, ↓reduceIte, Nat.reduceAdd, Nat.reduceEqDiff, Nat.reduceLeDiff, Nat.reduceMul, Nat.reduceBEq, Int.reduceBEq, Int.reduceBNe, Int.reduceLT, Int.reduceLE, Int.reduceGT, Int.reduceGE, Int.reduceToNat, Int.natCast_one, Int.natCast_zero, Int.cast_ofNat_Int])
  refine kLoop_ix (fun i : Nat => ⟨lf [(0, .int .u8 (fl.toNat : Int)), (1, .int .u8 (mods.toNat : Int)), (5, .ptr (γ, 0, 0) 0), (7, .bool true), (8, .int .i64 i)], [((γ, 0, 0), .cells [.int .u8 (a.toNat : Int), .int .u8 (b.toNat : Int)])], fun x => x ∈ []⟩) (fun i => i ≤ 30) (fun i => 30 - i) 0 0 (Wk.same ?_) (by simp) ?_
  · (simp only [lfOK, upd, initF]; repeat' first | exact AVle.refl _ _ | exact trivial | refine And.intro ?_ ?_ | exact AVle.int (by simp only [IntKind.wrap_i64]; omega))
  rintro γ' i hf hi
  generalize hQ' : kIt _ _ _ _ _ = Q'
  unfold ir_clavierlaw13KittyAll_l0
  by_cases hlt : i < 30
  · have hd : decide ((i : Int) < 30) = true := decide_eq_true (by omega)
    have e1 : IntKind.i64.wrap (fl.toNat : Int) = fl.toNat := by have := fl.toNat_lt; rw [IntKind.wrap_i64]; omega
    have e2 : IntKind.i64.wrap (mods.toNat : Int) = mods.toNat := by have := mods.toNat_lt; rw [IntKind.wrap_i64]; omega
    have hfl := fl.toNat_lt
    have hw : IntKind.i64.wrap ((i : Int) + 1) = ((i + 1 : Nat) : Int) := by rw [IntKind.wrap_i64]; omega
    generalize hcode : IntKind.i64.wrap (57344 + (IntKind.i64.wrap (IntKind.i64.wrap (a.toNat : Int) + (i : Int))).tmod 120) = code
    generalize htype : IntKind.i64.wrap (1 + IntKind.i64.wrap ((b.toNat : Int).tmod 3)) = type
    have c3 := fs_Key (Gl := Gl) hst (k := ⟨code, mods.toNat, type, 0, 0, []⟩) (fl := fl.toNat) (by omega) (by simp)
    have c4 := fs_rKey (Gl := Gl) hst (k := ⟨code, mods.toNat, type, 0, 0, []⟩) (fl := fl.toNat) (by omega) (by simp)
    rw [kyAV] at c3 c4
    simp +contextual (maxSteps := 1000000) only [hd, e1, e2, hcode, htype, and_false, if_false, go_sem, reduceCtorEq, ↓reduceIte, Nat.reduceAdd, Nat.reduceEqDiff, Nat.reduceLeDiff, Nat.reduceMul, Nat.reduceBEq, Int.reduceBEq, Int.reduceBNe, Int.reduceLT, Int.reduceLE, Int.reduceGT, Int.reduceGE, Int.reduceToNat, Int.natCast_one, Int.natCast_zero, Int.cast_ofNat_Int]
    refine ⟨by omega, by omega, DCall.new c3 ?_⟩
    simp +contextual (maxSteps := 1000000) only [and_false, if_false, e1, go_sem, reduceCtorEq, ↓reduceIte, Nat.reduceAdd, Nat.reduceEqDiff, Nat.reduceLeDiff, Nat.reduceMul, Nat.reduceBEq, Int.reduceBEq, Int.reduceBNe, Int.reduceLT, Int.reduceLE, Int.reduceGT, Int.reduceGE, Int.reduceToNat, Int.natCast_one, Int.natCast_zero, Int.cast_ofNat_Int]
    refine ⟨?_, DCall.new c4 ?_⟩
    · rw [bb_is]; trivial
    simp +contextual (maxSteps := 1000000) only [bb_un, bb_is, and_false, if_false, hw, go_sem, reduceCtorEq, ↓reduceIte, Nat.reduceAdd, Nat.reduceEqDiff, Nat.reduceLeDiff, Nat.reduceMul, Nat.reduceBEq, Int.reduceBEq, Int.reduceBNe, Int.reduceLT, Int.reduceLE, Int.reduceGT, Int.reduceGE, Int.reduceToNat, Int.natCast_one, Int.natCast_zero, Int.cast_ofNat_Int]
    rw [← hQ']
    simp only [w_kIt_n]
    refine ⟨0, i + 1, Wk.perm' ?_ (fun p hp => ?_) (fun _ h => h), by omega, by omega⟩
    · repeat' first | exact AVle.refl _ _ | exact trivial | refine And.intro ?_ ?_ | exact AVle.int (by simp only [IntKind.wrap_i64]; omega)
    · simp only [List.mem_cons, List.not_mem_nil, or_false] at hp ⊢
      exact .inr hp
  · have hd : decide ((i : Int) < 30) = false := decide_eq_false (by omega)
    simp +contextual (maxSteps := 1000000) only [hd, go_sem, reduceCtorEq, ↓reduceIte, Nat.reduceAdd, Nat.reduceEqDiff, Nat.reduceLeDiff, Nat.reduceMul, Nat.reduceBEq, Int.reduceBEq, Int.reduceBNe, Int.reduceLT, Int.reduceLE, Int.reduceGT, Int.reduceGE, Int.reduceToNat, Int.natCast_one, Int.natCast_zero, Int.cast_ofNat_Int]
    rw [← hQ']
    simp only [w_kIt_e, w_kBlk_e, ↓reduceIte]
    simp +contextual (maxSteps := 1000000) only [go_sem, reduceCtorEq, ↓reduceIte, Nat.reduceAdd, Nat.reduceEqDiff, Nat.reduceLeDiff, Nat.reduceMul, Nat.reduceBEq, Int.reduceBEq, Int.reduceBNe, Int.reduceLT, Int.reduceLE, Int.reduceGT, Int.reduceGE, Int.reduceToNat, Int.natCast_one, Int.natCast_zero, Int.cast_ofNat_Int]
    rw [← hQ]
    exact ⟨trivial, Ret.flat rfl rfl⟩
end Go.Proofs.YthmjlngdbabdeaaGreatDoor

