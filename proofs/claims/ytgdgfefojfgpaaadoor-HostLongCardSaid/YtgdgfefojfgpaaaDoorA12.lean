/- Whether a sequence may be (layer 3 of the program): all. -/
import Derived.Test.YtgdgfefojfgpaaaDoorA11
set_option linter.unusedVariables false
set_option linter.unusedSimpArgs false
set_option maxRecDepth 100000
namespace Go.Proofs.YtgdgfefojfgpaaaDoor
open Go Go.Ab
/-- clavier/wire.May -/
def ir_wireMay : ICode :=
 (.seq
  (.reg [⟨some 1, none, .box 32 (.t 0)⟩,
    ⟨some 2, none, .mov (.c (.int .i64 0))⟩] (some [1]))
  (.seq
   (.reg [⟨some 5, none, .fa 1 (.t 1)⟩,
     ⟨some 6, none, .ld none (.t 5)⟩,
     ⟨some 7, none, .bin .eql .none (.t 6) (.c (.int .u8 0))⟩,
     ⟨some 8, none, .mov (.t 7)⟩,
     ⟨some 9, some (8, false), .fa 1 (.t 1)⟩,
     ⟨some 10, some (8, false), .ld none (.t 9)⟩,
     ⟨some 11, some (8, false), .bin .geq .none (.t 10) (.c (.int .u8 60))⟩,
     ⟨some 12, some (8, false), .mov (.t 11)⟩,
     ⟨some 13, some (12, true), .fa 1 (.t 1)⟩,
     ⟨some 14, some (12, true), .ld none (.t 13)⟩,
     ⟨some 15, some (12, true), .bin .leq .none (.t 14) (.c (.int .u8 63))⟩,
     ⟨some 16, some (8, false), .pick (.t 12) (.t 15) (.c (.bool false))⟩,
     ⟨some 17, none, .pick (.t 8) (.c (.bool true)) (.t 16)⟩,
     ⟨some 3, none, .mov (.t 17)⟩] (some [1, 3]))
   (.seq
    (.reg [⟨some 18, none, .fa 3 (.t 1)⟩,
      ⟨some 19, none, .ld none (.t 18)⟩,
      ⟨some 20, none, .lns (.t 19)⟩,
      ⟨some 21, none, .bin .leq .none (.t 20) (.c (.int .i64 2))⟩,
      ⟨some 22, none, .mov (.t 21)⟩,
      ⟨some 23, some (22, true), .fa 3 (.t 1)⟩,
      ⟨some 24, some (22, true), .ld none (.t 23)⟩,
      ⟨some 25, some (22, true), .call (.c (.fn (.func 40) [] [])) [(.t 24), (.c (.int .u8 32)), (.c (.int .u8 47))]⟩,
      ⟨some 26, none, .pick (.t 22) (.t 25) (.c (.bool false))⟩,
      ⟨some 4, none, .mov (.t 26)⟩] (some [1, 3, 4]))
    (.seq
     (.blk 0
      (.seq
       (.reg [⟨some 28, none, .fa 5 (.t 1)⟩,
         ⟨some 29, none, .ld none (.t 28)⟩,
         ⟨some 30, none, .lns (.t 29)⟩,
         ⟨some 31, none, .bin .gtr .none (.t 30) (.c (.int .i64 4096))⟩,
         ⟨some 27, none, .mov (.t 31)⟩] (some [1, 3, 4, 27]))
       (.cond (.t 27)
        (.seq
         (.reg [⟨some 2, none, .mov (.c (.int .i64 4))⟩] (some [2]))
         .ret)
        (.seq
         (.reg [⟨some 33, none, .mov (.t 3)⟩,
           ⟨some 34, none, .un .not (.t 33)⟩,
           ⟨some 35, none, .mov (.t 34)⟩,
           ⟨some 36, some (35, false), .mov (.t 4)⟩,
           ⟨some 37, some (35, false), .un .not (.t 36)⟩,
           ⟨some 38, none, .pick (.t 35) (.c (.bool true)) (.t 37)⟩,
           ⟨some 39, none, .mov (.t 38)⟩,
           ⟨some 40, some (39, false), .fa 2 (.t 1)⟩,
           ⟨some 41, some (39, false), .ld none (.t 40)⟩,
           ⟨some 42, some (39, false), .call (.c (.fn (.func 41) [] [])) [(.t 41)]⟩,
           ⟨some 43, some (39, false), .un .not (.t 42)⟩,
           ⟨some 44, none, .pick (.t 39) (.c (.bool true)) (.t 43)⟩,
           ⟨some 45, none, .mov (.t 44)⟩,
           ⟨some 46, some (45, false), .fa 5 (.t 1)⟩,
           ⟨some 47, some (45, false), .ld none (.t 46)⟩,
           ⟨some 48, some (45, false), .call (.c (.fn (.func 40) [] [])) [(.t 47), (.c (.int .u8 32)), (.c (.int .u8 126))]⟩,
           ⟨some 49, some (45, false), .un .not (.t 48)⟩,
           ⟨some 50, none, .pick (.t 45) (.c (.bool true)) (.t 49)⟩,
           ⟨some 51, none, .mov (.t 50)⟩,
           ⟨some 52, some (51, false), .ld (some 6) (.t 1)⟩,
           ⟨some 53, some (51, false), .call (.c (.fn (.func 42) [] [])) [(.t 52)]⟩,
           ⟨some 54, some (51, false), .un .not (.t 53)⟩,
           ⟨some 55, none, .pick (.t 51) (.c (.bool true)) (.t 54)⟩,
           ⟨some 32, none, .mov (.t 55)⟩] (some [32]))
         (.cond (.t 32)
          (.seq
           (.reg [⟨some 2, none, .mov (.c (.int .i64 1))⟩] (some [2]))
           .ret)
          .skip)))))
     (.seq
      (.reg [⟨some 2, none, .mov (.c (.int .i64 0))⟩] (some [2]))
      .ret)))))
theorem is_wireMay : IrOf Tryd.prog 33 56 ir_wireMay [.t 2] := ⟨_, Tryd.func33, rfl, by kernel_rfl, by kernel_rfl, by kernel_rfl⟩


def within (x y : Int) (s : List UInt8) : Bool := s.all fun c => decide (x ≤ c.toNat) && decide ((c.toNat : Int) ≤ y)
/-- Whether a sequence may be: 0; 4: too long; 1: not. -/
def mayP (s : Sq) : Int :=
  if decide ((s.da.length : Int) > 4096) = true then 4
  else if (!(s.pr == 0 || (decide (s.pr ≥ 60) && decide (s.pr ≤ 63))) || !(decide ((s.it.length : Int) ≤ 2) && within 32 47 s.it) || !parsOk s.ps || !within 32 126 s.da || !shapedP s) = true then 1 else 0

set_option maxHeartbeats 2000000 in
theorem fs_May {Gl : Gh → Prop} (hst : Stays Gl) {s : Sq} (hf0 : 0 ≤ s.fi) (hf1 : s.fi < 128) (h1 : s.ps.length < 4611686018427387904) (h2 : ∀ p ∈ s.ps, p.length < 4611686018427387904) (h3 : s.it.length < 4611686018427387904) (h4 : s.da.length < 4611686018427387904) :
    FS Tryd.prog Gl 33 [.agg s.c] [] [] (.int .i64 (mayP s)) [] [] := by
  have c1 := fs_between hst h3 (x := 32) (y := 47) (by omega) (by omega)
  have c2 := fs_listed hst h1 h2
  have c3 := fs_between hst h4 (x := 32) (y := 126) (by omega) (by omega)
  have c4 := fs_shaped hst hf0 hf1
  refine FS.of hm hst is_wireMay (by simp) fun γ hγ hfr => ?_
  have hsp : mayP s = if decide ((s.da.length : Int) > 4096) = true then 4 else if (!(s.pr == 0 || (decide (s.pr ≥ 60) && decide (s.pr ≤ 63))) || !(decide ((s.it.length : Int) ≤ 2) && within 32 47 s.it) || !parsOk s.ps || !within 32 126 s.da || !shapedP s) = true then 1 else 0 := rfl
  rw [hsp]
  change FS _ _ _ _ _ _ (.bool (within 32 47 s.it)) _ _ at c1
  change FS _ _ _ _ _ _ (.bool (within 32 126 s.da)) _ _ at c3
  obtain ⟨k, pr, ps, it, fi, da⟩ := s
  simp only at c1 c2 c3 c4 ⊢
  generalize hp0 : (pr == 0) = p0
  generalize hp1 : decide (pr ≥ 60) = p1
  generalize hp2 : decide (pr ≤ 63) = p2
  generalize hit : decide ((it.length : Int) ≤ 2) = it2
  generalize hda : decide ((da.length : Int) > 4096) = da4
  generalize within 32 47 it = w1 at c1
  generalize within 32 126 da = w2 at c3
  generalize parsOk ps = pk at c2
  generalize shapedP _ = sh at c4
  simp only [Sq.c] at c4 ⊢
  have cl : AV.closedL [AV.int .i64 k, .int .u8 pr, parsV ps, .str it, .int .u8 fi, .str da] = true := rfl
  (generalize hQ : (fun (ex : Ex) (_ _ : Nat) (s : St) => _) = Q; unfold ir_wireMay)
  simp +contextual (maxSteps := 1000000) only [hp0, hp1, hp2, hit, hda, go_sem, reduceCtorEq, ↓reduceIte, Nat.reduceAdd, Nat.reduceEqDiff, Nat.reduceLeDiff, Nat.reduceMul, Nat.reduceBEq, Int.reduceBEq, Int.reduceBNe, Int.reduceLT, Int.reduceLE, Int.reduceGT, Int.reduceGE, Int.reduceToNat, Int.natCast_one, Int.natCast_zero, Int.cast_ofNat_Int]
  generalize (p0 || p1 && p2) = b0 at hQ ⊢
  (refine kGc_call (c1) (fun _ => rfl) ?_ ?_; (focus simp +contextual [Xev_t, Xev_c, upd_app, lf_cons, lf_nil]); simp +contextual (maxSteps := 1000000) only [hp0, hp1, hp2, hit, hda, go_sem, reduceCtorEq, ↓reduceIte, Nat.reduceAdd, Nat.reduceEqDiff, Nat.reduceLeDiff, Nat.reduceMul, Nat.reduceBEq, Int.reduceBEq, Int.reduceBNe, Int.reduceLT, Int.reduceLE, Int.reduceGT, Int.reduceGE, Int.reduceToNat, Int.natCast_one, Int.natCast_zero, Int.cast_ofNat_Int])
  generalize (it2 && w1) = b1 at hQ ⊢
  cases da4
  · simp +contextual (maxSteps := 1000000) only [go_sem, reduceCtorEq, ↓reduceIte, Nat.reduceAdd, Nat.reduceEqDiff, Nat.reduceLeDiff, Nat.reduceMul, Nat.reduceBEq, Int.reduceBEq, Int.reduceBNe, Int.reduceLT, Int.reduceLE, Int.reduceGT, Int.reduceGE, Int.reduceToNat, Int.natCast_one, Int.natCast_zero, Int.cast_ofNat_Int]
    (refine kGc_call (c2) (fun _ => rfl) ?_ ?_; (focus simp +contextual [Xev_t, Xev_c, upd_app, lf_cons, lf_nil]); simp +contextual (maxSteps := 1000000) only [hp0, go_sem, reduceCtorEq, ↓reduceIte, Nat.reduceAdd, Nat.reduceEqDiff, Nat.reduceLeDiff, Nat.reduceMul, Nat.reduceBEq, Int.reduceBEq, Int.reduceBNe, Int.reduceLT, Int.reduceLE, Int.reduceGT, Int.reduceGE, Int.reduceToNat, Int.natCast_one, Int.natCast_zero, Int.cast_ofNat_Int])
    (refine kGc_call (c3) (fun _ => rfl) ?_ ?_; (focus simp +contextual [Xev_t, Xev_c, upd_app, lf_cons, lf_nil]); simp +contextual (maxSteps := 1000000) only [hp0, go_sem, reduceCtorEq, ↓reduceIte, Nat.reduceAdd, Nat.reduceEqDiff, Nat.reduceLeDiff, Nat.reduceMul, Nat.reduceBEq, Int.reduceBEq, Int.reduceBNe, Int.reduceLT, Int.reduceLE, Int.reduceGT, Int.reduceGE, Int.reduceToNat, Int.natCast_one, Int.natCast_zero, Int.cast_ofNat_Int])
    (refine kGc_call (c4) (fun _ => rfl) ?_ ?_; (focus simp +contextual [Xev_t, Xev_c, upd_app, lf_cons, lf_nil]); simp +contextual (maxSteps := 1000000) only [hp0, go_sem, reduceCtorEq, ↓reduceIte, Nat.reduceAdd, Nat.reduceEqDiff, Nat.reduceLeDiff, Nat.reduceMul, Nat.reduceBEq, Int.reduceBEq, Int.reduceBNe, Int.reduceLT, Int.reduceLE, Int.reduceGT, Int.reduceGE, Int.reduceToNat, Int.natCast_one, Int.natCast_zero, Int.cast_ofNat_Int])
    cases hb : (!b0 || !b1 || !pk || !w2 || !sh) <;> rw [hb] at hQ <;> simp +contextual (maxSteps := 1000000) only [hb, go_sem, reduceCtorEq, ↓reduceIte, Nat.reduceAdd, Nat.reduceEqDiff, Nat.reduceLeDiff, Nat.reduceMul, Nat.reduceBEq, Int.reduceBEq, Int.reduceBNe, Int.reduceLT, Int.reduceLE, Int.reduceGT, Int.reduceGE, Int.reduceToNat, Int.natCast_one, Int.natCast_zero, Int.cast_ofNat_Int] <;> rw [← hQ] <;> exact ⟨trivial, Ret.flat rfl rfl⟩
  · simp +contextual (maxSteps := 1000000) only [go_sem, reduceCtorEq, ↓reduceIte, Nat.reduceAdd, Nat.reduceEqDiff, Nat.reduceLeDiff, Nat.reduceMul, Nat.reduceBEq, Int.reduceBEq, Int.reduceBNe, Int.reduceLT, Int.reduceLE, Int.reduceGT, Int.reduceGE, Int.reduceToNat, Int.natCast_one, Int.natCast_zero, Int.cast_ofNat_Int]
    rw [← hQ]; exact ⟨trivial, Ret.flat rfl rfl⟩
end Go.Proofs.YtgdgfefojfgpaaaDoor
