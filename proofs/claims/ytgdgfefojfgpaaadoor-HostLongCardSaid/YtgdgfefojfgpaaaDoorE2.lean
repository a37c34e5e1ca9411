/- HostDrops, walked. -/
import Derived.Test.YtgdgfefojfgpaaaDoorE1
set_option linter.unusedVariables false
set_option linter.unusedSimpArgs false
set_option maxRecDepth 100000
namespace Go.Proofs.YtgdgfefojfgpaaaDoor
open Go Go.Ab
/- clavier/clavierlaw05.HostDrops -/
def ir_clavierlaw05HostDrops_t10 : ICode :=
 (.seq
  (.reg [⟨some 35, none, .mov (.t 7)⟩,
              ⟨some 36, none, .mov (.t 35)⟩,
              ⟨some 37, some (36, true), .mov (.t 10)⟩,
              ⟨some 38, some (36, true), .len (.t 37)⟩,
              ⟨some 39, some (36, true), .bin .eql .none (.t 38) (.c (.int .i64 0))⟩,
              ⟨some 40, none, .pick (.t 36) (.t 39) (.c (.bool false))⟩,
              ⟨some 41, none, .mov (.t 40)⟩,
              ⟨some 42, some (41, true), .mov (.t 11)⟩,
              ⟨some 43, none, .pick (.t 41) (.t 42) (.c (.bool false))⟩,
              ⟨some 44, none, .mov (.t 43)⟩,
              ⟨some 45, some (44, true), .mov (.t 8)⟩,
              ⟨some 46, some (44, true), .mov (.t 1)⟩,
              ⟨some 47, some (44, true), .call (.c (.fn (.func 9) [] [])) [(.t 45), (.t 46)]⟩,
              ⟨some 48, some (44, true), .mov (.t 12)⟩,
              ⟨some 49, some (44, true), .mov (.t 1)⟩,
              ⟨some 50, some (44, true), .call (.c (.fn (.func 9) [] [])) [(.t 48), (.t 49)]⟩,
              ⟨some 51, some (44, true), .call (.c (.fn (.func 10) [] [])) [(.t 47), (.t 50)]⟩,
              ⟨some 52, none, .pick (.t 44) (.t 51) (.c (.bool false))⟩,
              ⟨some 53, none, .mov (.t 52)⟩,
              ⟨some 54, some (53, true), .mov (.t 8)⟩,
              ⟨some 55, some (53, true), .call (.c (.fn (.func 11) [] [])) [(.t 54)]⟩,
              ⟨some 56, some (53, true), .mov (.t 12)⟩,
              ⟨some 57, some (53, true), .call (.c (.fn (.func 11) [] [])) [(.t 56)]⟩,
              ⟨some 58, some (53, true), .bin .eql .bool (.t 55) (.t 57)⟩,
              ⟨some 59, none, .pick (.t 53) (.t 58) (.c (.bool false))⟩,
              ⟨some 6, none, .mov (.t 59)⟩] (some [6]))
  .ret)
def ir_clavierlaw05HostDrops_t9 : ICode :=
 (.seq
  (.reg [⟨some 34, none, .call (.c (.fn (.func 8) [] [])) []⟩,
             ⟨some 12, none, .mov (.t 34)⟩] (some [1, 7, 8, 10, 11, 12]))
  ir_clavierlaw05HostDrops_t10)
def ir_clavierlaw05HostDrops_t8 : ICode :=
 (.seq
  (.reg [⟨some 32, none, .mov (.t 8)⟩,
            ⟨some 33, none, .call (.c (.fn (.func 11) [] [])) [(.t 32)]⟩,
            ⟨some 11, none, .mov (.t 33)⟩] (some [1, 7, 8, 10, 11]))
  ir_clavierlaw05HostDrops_t9)
def ir_clavierlaw05HostDrops_t7 : ICode :=
 (.seq
  (.reg [⟨some 28, none, .mov (.t 8)⟩,
           ⟨some 29, none, .mov (.t 9)⟩,
           ⟨some 30, none, .row 5 1 [(.t 29)]⟩,
           ⟨some 31, none, .call (.c (.fn (.func 9) [] [])) [(.t 28), (.t 30)]⟩,
           ⟨some 10, none, .mov (.t 31)⟩] (some [1, 7, 8, 10]))
  ir_clavierlaw05HostDrops_t8)
def ir_clavierlaw05HostDrops_t6 : ICode :=
 (.seq
  (.seq
         (.reg [⟨some 27, none, .mov (.t 2)⟩] (some [1, 7, 8, 9, 27]))
         (.cond (.t 27)
          (.reg [⟨some 9, none, .mov (.c (.int .u8 26))⟩] (some [1, 7, 8, 9]))
          .skip))
  ir_clavierlaw05HostDrops_t7)
def ir_clavierlaw05HostDrops_t5 : ICode :=
 (.seq
  (.reg [⟨some 9, none, .mov (.c (.int .u8 24))⟩] (some [1, 2, 7, 8, 9]))
  ir_clavierlaw05HostDrops_t6)
def ir_clavierlaw05HostDrops_t4 : ICode :=
 (.seq
  (.reg [⟨some 24, none, .mov (.t 8)⟩,
        ⟨some 25, none, .mov (.t 0)⟩,
        ⟨some 26, none, .call (.c (.fn (.func 9) [] [])) [(.t 24), (.t 25)]⟩] (some [1, 2, 7, 8]))
  ir_clavierlaw05HostDrops_t5)
def ir_clavierlaw05HostDrops_t3 : ICode :=
 (.seq
  (.reg [⟨some 23, none, .call (.c (.fn (.func 8) [] [])) []⟩,
       ⟨some 8, none, .mov (.t 23)⟩] (some [0, 1, 2, 7, 8]))
  ir_clavierlaw05HostDrops_t4)
def ir_clavierlaw05HostDrops_t2 : ICode :=
 (.seq
  (.seq
     (.reg [⟨some 14, none, .mov (.t 0)⟩,
       ⟨some 15, none, .len (.t 14)⟩,
       ⟨some 16, none, .bin .gtr .none (.t 15) (.c (.int .i64 200))⟩,
       ⟨some 17, none, .mov (.t 16)⟩,
       ⟨some 18, some (17, false), .mov (.t 1)⟩,
       ⟨some 19, some (17, false), .len (.t 18)⟩,
       ⟨some 20, some (17, false), .bin .gtr .none (.t 19) (.c (.int .i64 200))⟩,
       ⟨some 21, none, .pick (.t 17) (.c (.bool true)) (.t 20)⟩] (some [0, 1, 2, 7, 21]))
     (.cond (.t 21)
      (.seq
       (.reg [⟨some 22, none, .mov (.t 7)⟩,
         ⟨some 6, none, .mov (.t 22)⟩] (some [6]))
       .ret)
      .skip))
  ir_clavierlaw05HostDrops_t3)
def ir_clavierlaw05HostDrops_t1 : ICode :=
 (.seq
  (.reg [⟨some 13, none, .call (.c (.fn (.func 7) [] [])) []⟩,
     ⟨some 7, none, .mov (.t 13)⟩] (some [0, 1, 2, 7]))
  ir_clavierlaw05HostDrops_t2)
def ir_clavierlaw05HostDrops : ICode :=
 (.seq
  (.reg [⟨some 6, none, .mov (.c (.bool false))⟩] (some [0, 1, 2]))
  ir_clavierlaw05HostDrops_t1)
theorem is_clavierlaw05HostDrops : IrOf Tryd.prog 5 60 ir_clavierlaw05HostDrops [.t 6] := ⟨_, Tryd.func5, rfl, by kernel_rfl, by kernel_rfl, by kernel_rfl⟩


def ops_drops : List IOper := [
      { d := some 48, g := some (44, true), op := IOp.mov (X.t 12) },
      { d := some 49, g := some (44, true), op := IOp.mov (X.t 1) },
      { d := some 50, g := some (44, true), op := IOp.call (X.c (AV.fn (Fn.func 9) [] [])) [X.t 48, X.t 49] },
      { d := some 51, g := some (44, true), op := IOp.call (X.c (AV.fn (Fn.func 10) [] [])) [X.t 47, X.t 50] },
      { d := some 52, g := none, op := IOp.pick (X.t 44) (X.t 51) (X.c (AV.bool false)) },
      { d := some 53, g := none, op := IOp.mov (X.t 52) },
      { d := some 54, g := some (53, true), op := IOp.mov (X.t 8) },
      { d := some 55, g := some (53, true), op := IOp.call (X.c (AV.fn (Fn.func 11) [] [])) [X.t 54] },
      { d := some 56, g := some (53, true), op := IOp.mov (X.t 12) },
      { d := some 57, g := some (53, true), op := IOp.call (X.c (AV.fn (Fn.func 11) [] [])) [X.t 56] },
      { d := some 58, g := some (53, true), op := IOp.bin BinOp.eql Cls.bool (X.t 55) (X.t 57) },
      { d := some 59, g := none, op := IOp.pick (X.t 53) (X.t 58) (X.c (AV.bool false)) },
      { d := some 6, g := none, op := IOp.mov (X.t 59) }]
theorem put_drop (x : Pp) (c : UInt8) (h : c = 24 ∨ c = 26) (ho : x.ou = []) : x.puts [c] = Pp.zero := by
  have e : x.one c = (none, x.drop) := by
    rcases h with rfl | rfl <;> simp [Pp.one]
  simp only [Pp.puts, List.foldl_cons, List.foldl_nil, Pp.put, e, Pp.drop, ho, Pp.zero]
theorem Pp.w.mt {n : Nat} {x : Pp} (h : x.w n) : x.mt.w n := ⟨h.tx, h.it, h.da, h.fi, by simp [Pp.mt], by simp [Pp.mt]⟩
theorem len_sv {o : Option Nm} {sz : Nat} {x : X} {F : Nat → AV} {H : Hp} {T : Tk} {nm : Nm} {rows : List (List AV)} (hx : x.ev F = sv o sz rows) (h : o = none → rows = []) : Ab.step (.len x) F H T nm = some ⟨True, .int .i64 rows.length, .no⟩ := by
  cases o with
  | none => obtain rfl := h rfl; simp only [Ab.step, hx, sv]; rfl
  | some o => simp only [Ab.step, hx, sv]

theorem fs_HostDrops {Gl : Gh → Prop} (hst : Stays Gl) {b more : List UInt8} {sub : Bool} (hl0 : b.length ≤ maxLen) (hl1 : more.length ≤ maxLen) (hs : True) : FS Tryd.prog Gl 5 [.sl none 1 (bytesAV b), .sl none 1 (bytesAV more), .bool sub] [] [] (.bool true) [] [] := by
  clear hl0 hl1
  refine FS.of hm hst is_clavierlaw05HostDrops (by simp) fun γ hγ hfr => ?_
  (generalize hQ : (fun (ex : Ex) (_ _ : Nat) (s : St) => _) = Q; unfold ir_clavierlaw05HostDrops)
  simp +contextual (maxSteps := 1000000) only [go_sem, reduceCtorEq, ↓reduceIte, Nat.reduceAdd, Nat.reduceEqDiff, Nat.reduceLeDiff, Nat.reduceMul, Nat.reduceBEq, Int.reduceBEq, Int.reduceBNe, Int.reduceLT, Int.reduceLE, Int.reduceGT, Int.reduceGE, Int.reduceToNat, Int.natCast_one, Int.natCast_zero, Int.cast_ofNat_Int]
  unfold ir_clavierlaw05HostDrops_t1
  simp +contextual (maxSteps := 1000000) only [go_sem, reduceCtorEq, ↓reduceIte, Nat.reduceAdd, Nat.reduceEqDiff, Nat.reduceLeDiff, Nat.reduceMul, Nat.reduceBEq, Int.reduceBEq, Int.reduceBNe, Int.reduceLT, Int.reduceLE, Int.reduceGT, Int.reduceGE, Int.reduceToNat, Int.natCast_one, Int.natCast_zero, Int.cast_ofNat_Int]
  refine CallP.pure (fs_awake hst) (fun _ => rfl) ?_
  simp +contextual (maxSteps := 1000000) only [go_sem, reduceCtorEq, ↓reduceIte, Nat.reduceAdd, Nat.reduceEqDiff, Nat.reduceLeDiff, Nat.reduceMul, Nat.reduceBEq, Int.reduceBEq, Int.reduceBNe, Int.reduceLT, Int.reduceLE, Int.reduceGT, Int.reduceGE, Int.reduceToNat, Int.natCast_one, Int.natCast_zero, Int.cast_ofNat_Int]
  unfold ir_clavierlaw05HostDrops_t2
  simp +contextual (maxSteps := 1000000) only [bytesAV_len, go_sem, reduceCtorEq, ↓reduceIte, Nat.reduceAdd, Nat.reduceEqDiff, Nat.reduceLeDiff, Nat.reduceMul, Nat.reduceBEq, Int.reduceBEq, Int.reduceBNe, Int.reduceLT, Int.reduceLE, Int.reduceGT, Int.reduceGE, Int.reduceToNat, Int.natCast_one, Int.natCast_zero, Int.cast_ofNat_Int]
  refine kCond_split (fun hg => ?_) (fun hg => ?_)
  · simp +contextual (maxSteps := 1000000) only [go_sem, reduceCtorEq, ↓reduceIte, Nat.reduceAdd, Nat.reduceEqDiff, Nat.reduceLeDiff, Nat.reduceMul, Nat.reduceBEq, Int.reduceBEq, Int.reduceBNe, Int.reduceLT, Int.reduceLE, Int.reduceGT, Int.reduceGE, Int.reduceToNat, Int.natCast_one, Int.natCast_zero, Int.cast_ofNat_Int]
    rw [← hQ]
    exact ⟨trivial, Ret.flat rfl rfl⟩
  have hg1 : b.length ≤ 200 ∧ more.length ≤ 200 := by simp at hg; omega
  clear hg
  simp +contextual (maxSteps := 1000000) only [go_sem, reduceCtorEq, ↓reduceIte, Nat.reduceAdd, Nat.reduceEqDiff, Nat.reduceLeDiff, Nat.reduceMul, Nat.reduceBEq, Int.reduceBEq, Int.reduceBNe, Int.reduceLT, Int.reduceLE, Int.reduceGT, Int.reduceGE, Int.reduceToNat, Int.natCast_one, Int.natCast_zero, Int.cast_ofNat_Int]
  unfold ir_clavierlaw05HostDrops_t3
  simp +contextual (maxSteps := 1000000) only [go_sem, reduceCtorEq, ↓reduceIte, Nat.reduceAdd, Nat.reduceEqDiff, Nat.reduceLeDiff, Nat.reduceMul, Nat.reduceBEq, Int.reduceBEq, Int.reduceBNe, Int.reduceLT, Int.reduceLE, Int.reduceGT, Int.reduceGE, Int.reduceToNat, Int.natCast_one, Int.natCast_zero, Int.cast_ofNat_Int]
  refine New.call hst ?_
  simp +contextual (maxSteps := 1000000) only [go_sem, reduceCtorEq, ↓reduceIte, Nat.reduceAdd, Nat.reduceEqDiff, Nat.reduceLeDiff, Nat.reduceMul, Nat.reduceBEq, Int.reduceBEq, Int.reduceBNe, Int.reduceLT, Int.reduceLE, Int.reduceGT, Int.reduceGE, Int.reduceToNat, Int.natCast_one, Int.natCast_zero, Int.cast_ofNat_Int]
  unfold ir_clavierlaw05HostDrops_t4
  simp +contextual (maxSteps := 1000000) only [go_sem, reduceCtorEq, ↓reduceIte, Nat.reduceAdd, Nat.reduceEqDiff, Nat.reduceLeDiff, Nat.reduceMul, Nat.reduceBEq, Int.reduceBEq, Int.reduceBNe, Int.reduceLT, Int.reduceLE, Int.reduceGT, Int.reduceGE, Int.reduceToNat, Int.natCast_one, Int.natCast_zero, Int.cast_ofNat_Int]
  refine Feed.call hst (s := Ps.new) hγ Ps.new_ok (by simp) hγ (by simp [Ps.new_toks]) (by simp [Ps.new_toks]) 0 Pp.w.zero (by omega) fun ps po h1 h2 h3 h4 h5 h6 => ?_
  have hw1 : ps.x.w (0 + b.length) := by rw [h1]; exact (Pp.w.puts Pp.w.zero).mt
  have hps : ∀ t ∈ ps.toks, 1 ≤ t.1 ∧ t.1 = γ ∧ t.2.1 = 15 := fun t h => ⟨(h6 t (by simp [h])).1, by simpa [Ps.new_toks] using (h6 t (by simp [h])).2⟩
  simp +contextual (maxSteps := 1000000) only [go_sem, reduceCtorEq, ↓reduceIte, Nat.reduceAdd, Nat.reduceEqDiff, Nat.reduceLeDiff, Nat.reduceMul, Nat.reduceBEq, Int.reduceBEq, Int.reduceBNe, Int.reduceLT, Int.reduceLE, Int.reduceGT, Int.reduceGE, Int.reduceToNat, Int.natCast_one, Int.natCast_zero, Int.cast_ofNat_Int]
  unfold ir_clavierlaw05HostDrops_t5
  simp +contextual (maxSteps := 1000000) only [go_sem, reduceCtorEq, ↓reduceIte, Nat.reduceAdd, Nat.reduceEqDiff, Nat.reduceLeDiff, Nat.reduceMul, Nat.reduceBEq, Int.reduceBEq, Int.reduceBNe, Int.reduceLT, Int.reduceLE, Int.reduceGT, Int.reduceGE, Int.reduceToNat, Int.natCast_one, Int.natCast_zero, Int.cast_ofNat_Int]
  unfold ir_clavierlaw05HostDrops_t6
  simp +contextual (maxSteps := 1000000) only [go_sem, reduceCtorEq, ↓reduceIte, Nat.reduceAdd, Nat.reduceEqDiff, Nat.reduceLeDiff, Nat.reduceMul, Nat.reduceBEq, Int.reduceBEq, Int.reduceBNe, Int.reduceLT, Int.reduceLE, Int.reduceGT, Int.reduceGE, Int.reduceToNat, Int.natCast_one, Int.natCast_zero, Int.cast_ofNat_Int]
  have hfin : ∀ (c : UInt8) (k : Nat) (F : Nat → AV) (H : Hp) (T : Tk), 18 ≤ k → c = 24 ∨ c = 26 → F 1 = .sl none 1 (bytesAV more) → F 7 = .bool true → F 8 = .ptr (γ, 11, 0) 0 → F 9 = .int .u8 (c.toNat : Int) → (((γ, 11, 0) : Nm), HB.cells ps.c) ∈ H → (∀ t ∈ ps.toks, T t) → aw Tryd.prog Gl ir_clavierlaw05HostDrops_t7 γ k ⟨F, H, T⟩ Q := by
    intro c k F H T hk hc f1 f7 f8 f9 hH hT
    unfold ir_clavierlaw05HostDrops_t7
    simp +contextual (maxSteps := 1000000) only [f8, f9, go_sem, reduceCtorEq, ↓reduceIte, Nat.reduceAdd, Nat.reduceEqDiff, Nat.reduceLeDiff, Nat.reduceMul, Nat.reduceBEq, Int.reduceBEq, Int.reduceBNe, Int.reduceLT, Int.reduceLE, Int.reduceGT, Int.reduceGE, Int.reduceToNat, Int.natCast_one, Int.natCast_zero, Int.cast_ofNat_Int]
    refine Feed.call hst (s := ps) (b := [c]) hγ h2 hH hγ ?_ (fun t h => ⟨(hps t h).1, fun j e => ?_⟩) _ hw1 (by simp; omega) fun p2 o2 k1 k2 k3 k4 k5 k6 => ?_
    · exact fun t h => .inr (hT t h)
    · have := (hps t h).2.2; rw [e] at this; simp at this; omega
    rw [put_drop _ _ hc (by rw [h1]; rfl)] at k1 k4 ⊢
    simp +contextual (maxSteps := 1000000) only [go_sem, reduceCtorEq, ↓reduceIte, Nat.reduceAdd, Nat.reduceEqDiff, Nat.reduceLeDiff, Nat.reduceMul, Nat.reduceBEq, Int.reduceBEq, Int.reduceBNe, Int.reduceLT, Int.reduceLE, Int.reduceGT, Int.reduceGE, Int.reduceToNat, Int.natCast_one, Int.natCast_zero, Int.cast_ofNat_Int]
    unfold ir_clavierlaw05HostDrops_t8
    have hp2 : ∀ t ∈ p2.toks, 1 ≤ t.1 ∧ t.1 = γ ∧ (t.2.1 = 15 ∨ t.2.1 = k + 3) := fun t h => by
      obtain ⟨a, b⟩ := k6 t (by simp [h])
      rcases b with b | b
      · exact ⟨a, (hps t b).2.1, .inl (hps t b).2.2⟩
      · exact ⟨a, b.1, .inr b.2⟩
    simp +contextual (maxSteps := 1000000) only [f8, go_sem, reduceCtorEq, ↓reduceIte, Nat.reduceAdd, Nat.reduceEqDiff, Nat.reduceLeDiff, Nat.reduceMul, Nat.reduceBEq, Int.reduceBEq, Int.reduceBNe, Int.reduceLT, Int.reduceLE, Int.reduceGT, Int.reduceGE, Int.reduceToNat, Int.natCast_one, Int.natCast_zero, Int.cast_ofNat_Int]
    refine Idle.call hst (s := p2) hγ k2 (by simp) hγ (fun t h => .inl (by simp [h])) (fun t h => ⟨(hp2 t h).1, fun j e => ?_⟩) fun p3 a1 a2 a3 => ?_
    · have := (hp2 t h).2.2; rw [e] at this; simp at this; omega
    have hp3 : ∀ t ∈ p3.toks, 1 ≤ t.1 ∧ t.1 = γ ∧ (t.2.1 = 15 ∨ t.2.1 = k + 3 ∨ t.2.1 = k + 6) := fun t h => by
      obtain ⟨a, b⟩ := a3 t h
      rcases b with b | b
      · exact ⟨a, (hp2 t b).2.1, (hp2 t b).2.2.imp _root_.id .inl⟩
      · exact ⟨a, b.1, .inr (.inr b.2)⟩
    have hz : p2.x = Pp.zero := k1
    rw [hz] at a1 ⊢
    simp +contextual (maxSteps := 1000000) only [go_sem, reduceCtorEq, ↓reduceIte, Nat.reduceAdd, Nat.reduceEqDiff, Nat.reduceLeDiff, Nat.reduceMul, Nat.reduceBEq, Int.reduceBEq, Int.reduceBNe, Int.reduceLT, Int.reduceLE, Int.reduceGT, Int.reduceGE, Int.reduceToNat, Int.natCast_one, Int.natCast_zero, Int.cast_ofNat_Int]
    unfold ir_clavierlaw05HostDrops_t9
    simp +contextual (maxSteps := 1000000) only [go_sem, reduceCtorEq, ↓reduceIte, Nat.reduceAdd, Nat.reduceEqDiff, Nat.reduceLeDiff, Nat.reduceMul, Nat.reduceBEq, Int.reduceBEq, Int.reduceBNe, Int.reduceLT, Int.reduceLE, Int.reduceGT, Int.reduceGE, Int.reduceToNat, Int.natCast_one, Int.natCast_zero, Int.cast_ofNat_Int]
    refine New.call hst ?_
    simp +contextual (maxSteps := 1000000) only [go_sem, reduceCtorEq, ↓reduceIte, Nat.reduceAdd, Nat.reduceEqDiff, Nat.reduceLeDiff, Nat.reduceMul, Nat.reduceBEq, Int.reduceBEq, Int.reduceBNe, Int.reduceLT, Int.reduceLE, Int.reduceGT, Int.reduceGE, Int.reduceToNat, Int.natCast_one, Int.natCast_zero, Int.cast_ofNat_Int]
    unfold ir_clavierlaw05HostDrops_t10
    have hzo : Pp.zero.ou.map Sq.r = [] := rfl
    have hzn : Pp.zero.nx.isNone = true := rfl
    have hnew : ((γ, k + 5 + 3, 0) : Nm) ≠ (γ, 11, 0) := by intro e; simp at e; omega
    have hp3T : ∀ t ∈ p3.toks, 1 ≤ t.1 ∧ ∀ i j, k + 11 ≤ i → t ≠ (γ, i, j) := fun t h => ⟨(hp3 t h).1, fun i j hi e => by have := (hp3 t h).2.2; rw [e] at this; simp at this; omega⟩
    rw [hzo]
    have hwm := Pp.w.puts (b := more) Pp.w.zero
    have hsm : ∀ s ∈ (Pp.zero.puts more).ou, s.sm := fun s hs => (mayP_sm (hwm.mo s hs)).1
    have hln : (Pp.zero.puts more).ou.length < 4611686018427387904 := by have := hwm.ou; omega
    have fin2 : ∀ (i c : Nat) (F : Nat → AV) (H : Hp) (T : Tk), k + 11 ≤ i → F 8 = .ptr (γ, 11, 0) 0 → F 1 = .sl none 1 (bytesAV more) → F 12 = .ptr (γ, k + 5 + 3, 0) 0 → F 44 = .bool true → (((γ, 11, 0) : Nm), HB.cells p3.c) ∈ H → (((γ, k + 5 + 3, 0) : Nm), HB.cells Ps.new.c) ∈ H → (∀ t ∈ p3.toks, T t) →
        CallP Tryd.prog Gl 9 [.ptr (γ, 11, 0) 0, .sl none 1 (bytesAV more)] H T (fun j => (γ, i, j)) (kOps Tryd.prog Gl γ (i + 1) ops_drops (some 47) F (kReg γ c (some [6]) (kSeq Tryd.prog Gl ICode.ret Q))) := by
      intro i c F H T hi f8 f1 f12 f44 m1 m2 hT
      refine Feed.call hst (s := p3) hγ a2 m1 hγ hT (fun t h => ⟨(hp3T t h).1, fun j => (hp3T t h).2 _ _ hi⟩) 0 (by rw [a1]; exact Pp.w.zero) (by omega) fun p4 o4 b1 b2 b3 b4 b5 b6 => ?_
      rw [a1] at b1 b4 ⊢
      unfold ops_drops
      simp +contextual (maxSteps := 1000000) only [f8, f1, f12, f44, go_sem, reduceCtorEq, ↓reduceIte, Nat.reduceAdd, Nat.reduceEqDiff, Nat.reduceLeDiff, Nat.reduceMul, Nat.reduceBEq, Int.reduceBEq, Int.reduceBNe, Int.reduceLT, Int.reduceLE, Int.reduceGT, Int.reduceGE, Int.reduceToNat, Int.natCast_one, Int.natCast_zero, Int.cast_ofNat_Int]
      refine Feed.call hst (s := Ps.new) hγ Ps.new_ok (by simp [hnew, m2]) hγ (by simp [Ps.new_toks]) (by simp [Ps.new_toks]) 0 Pp.w.zero (by omega) fun q4 n4 c1 c2 c3 c4 c5 c6 => ?_
      have hpz : Ps.new.x = Pp.zero := rfl
      rw [hpz] at c1 c4 ⊢
      simp +contextual (maxSteps := 1000000) only [f8, f1, f12, f44, go_sem, reduceCtorEq, ↓reduceIte, Nat.reduceAdd, Nat.reduceEqDiff, Nat.reduceLeDiff, Nat.reduceMul, Nat.reduceBEq, Int.reduceBEq, Int.reduceBNe, Int.reduceLT, Int.reduceLE, Int.reduceGT, Int.reduceGE, Int.reduceToNat, Int.natCast_one, Int.natCast_zero, Int.cast_ofNat_Int]
      refine CallP.pure (FS.args (fs_Sames hst hln hln hsm hsm) ⟨sv_le b4, sv_le c4, trivial⟩) (fun _ => rfl) ?_
      have e1 : decide ((Pp.zero.puts more).ou = (Pp.zero.puts more).ou) = true := by simp
      have hp4 : ∀ t ∈ p4.toks, 1 ≤ t.1 ∧ t.1 = γ ∧ t.2.1 ≤ i := fun t h => by
        obtain ⟨a, b⟩ := b6 t (by simp [h])
        rcases b with b | b
        · have := (hp3 t b).2.2; exact ⟨a, (hp3 t b).2.1, by omega⟩
        · exact ⟨a, b.1, Nat.le_of_eq b.2⟩
      have hq4 : ∀ t ∈ q4.toks, 1 ≤ t.1 ∧ t.1 = γ ∧ t.2.1 = i + 3 := fun t h => ⟨(c6 t (by simp [h])).1, by simpa [Ps.new_toks] using (c6 t (by simp [h])).2⟩
      simp +contextual (maxSteps := 1000000) only [f8, f1, f12, f44, e1, go_sem, reduceCtorEq, ↓reduceIte, Nat.reduceAdd, Nat.reduceEqDiff, Nat.reduceLeDiff, Nat.reduceMul, Nat.reduceBEq, Int.reduceBEq, Int.reduceBNe, Int.reduceLT, Int.reduceLE, Int.reduceGT, Int.reduceGE, Int.reduceToNat, Int.natCast_one, Int.natCast_zero, Int.cast_ofNat_Int]
      refine Idle.call hst (s := p4) hγ b2 (by simp [Ne.symm hnew]) hγ (fun t h => ?_) (fun t h => ⟨(hp4 t h).1, fun j e => ?_⟩) fun p5 d1 d2 d3 => ?_
      · exact .inr ⟨.inl (by simp [h]), by simp [Ps.new_toks]⟩
      · have := (hp4 t h).2.2; rw [e] at this; simp at this; omega
      simp +contextual (maxSteps := 1000000) only [f8, f1, f12, f44, go_sem, reduceCtorEq, ↓reduceIte, Nat.reduceAdd, Nat.reduceEqDiff, Nat.reduceLeDiff, Nat.reduceMul, Nat.reduceBEq, Int.reduceBEq, Int.reduceBNe, Int.reduceLT, Int.reduceLE, Int.reduceGT, Int.reduceGE, Int.reduceToNat, Int.natCast_one, Int.natCast_zero, Int.cast_ofNat_Int]
      refine Idle.call hst (s := q4) hγ c2 (by simp [hnew]) hγ (fun t h => ?_) (fun t h => ⟨(hq4 t h).1, fun j e => ?_⟩) fun q5 d1 d2 d3 => ?_
      · exact .inr ⟨.inl (by simp [h]), fun h' => by have := (hp4 t h').2.2; have := (hq4 t h).2.2; omega⟩
      · have := (hq4 t h).2.2; rw [e] at this; simp at this; omega
      have e2 : ((Pp.zero.puts more).mt.nx.isNone == (Pp.zero.puts more).mt.nx.isNone) = true := by simp
      rw [b1, c1]
      simp +contextual (maxSteps := 1000000) only [e2, go_sem, reduceCtorEq, ↓reduceIte, Nat.reduceAdd, Nat.reduceEqDiff, Nat.reduceLeDiff, Nat.reduceMul, Nat.reduceBEq, Int.reduceBEq, Int.reduceBNe, Int.reduceLT, Int.reduceLE, Int.reduceGT, Int.reduceGE, Int.reduceToNat, Int.natCast_one, Int.natCast_zero, Int.cast_ofNat_Int]
      rw [← hQ]
      exact ⟨trivial, Ret.flat rfl rfl⟩
    cases o2 with
    | none =>
      simp +contextual (maxSteps := 1000000) only [f1, f7, hzn, go_sem, reduceCtorEq, ↓reduceIte, Nat.reduceAdd, Nat.reduceEqDiff, Nat.reduceLeDiff, Nat.reduceMul, Nat.reduceBEq, Int.reduceBEq, Int.reduceBNe, Int.reduceLT, Int.reduceLE, Int.reduceGT, Int.reduceGE, Int.reduceToNat, Int.natCast_one, Int.natCast_zero, Int.cast_ofNat_Int]
      exact fin2 _ _ _ _ _ (by omega) rfl rfl rfl rfl (by simp [hnew]) (by simp) (fun t h => .inl h)
    | some o2 =>
      simp +contextual (maxSteps := 1000000) only [f1, f7, hzn, go_sem, reduceCtorEq, ↓reduceIte, Nat.reduceAdd, Nat.reduceEqDiff, Nat.reduceLeDiff, Nat.reduceMul, Nat.reduceBEq, Int.reduceBEq, Int.reduceBNe, Int.reduceLT, Int.reduceLE, Int.reduceGT, Int.reduceGE, Int.reduceToNat, Int.natCast_one, Int.natCast_zero, Int.cast_ofNat_Int]
      exact fin2 _ _ _ _ _ (by omega) rfl rfl rfl rfl (by simp [hnew]) (by simp) (fun t h => .inl h)
  refine kCond_split (fun hs => ?_) (fun hs => ?_)
  · simp +contextual (maxSteps := 1000000) only [go_sem, reduceCtorEq, ↓reduceIte, Nat.reduceAdd, Nat.reduceEqDiff, Nat.reduceLeDiff, Nat.reduceMul, Nat.reduceBEq, Int.reduceBEq, Int.reduceBNe, Int.reduceLT, Int.reduceLE, Int.reduceGT, Int.reduceGE, Int.reduceToNat, Int.natCast_one, Int.natCast_zero, Int.cast_ofNat_Int]
    exact hfin 26 _ _ _ _ (by omega) (.inr rfl) rfl rfl rfl rfl (by simp) (fun t h => .inl (by simp [h]))
  · simp +contextual (maxSteps := 1000000) only [go_sem, reduceCtorEq, ↓reduceIte, Nat.reduceAdd, Nat.reduceEqDiff, Nat.reduceLeDiff, Nat.reduceMul, Nat.reduceBEq, Int.reduceBEq, Int.reduceBNe, Int.reduceLT, Int.reduceLE, Int.reduceGT, Int.reduceGE, Int.reduceToNat, Int.natCast_one, Int.natCast_zero, Int.cast_ofNat_Int]
    exact hfin 24 _ _ _ _ (by omega) (.inl rfl) rfl rfl rfl rfl (by simp) (fun t h => .inl (by simp [h]))
end Go.Proofs.YtgdgfefojfgpaaaDoor
