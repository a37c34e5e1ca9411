/- HostCuts, walked. -/
import Derived.Test.YtgdgfefojfgpaaaDoorD2
set_option linter.unusedVariables false
set_option linter.unusedSimpArgs false
set_option maxRecDepth 100000
namespace Go.Proofs.YtgdgfefojfgpaaaDoor
open Go Go.Ab
/- clavier/clavierlaw05.HostCuts -/
def ir_clavierlaw05HostCuts_l0 : ICode :=
 (.seq
              (.seq
               (.reg [⟨some 29, none, .mov (.t 11)⟩,
                 ⟨some 30, none, .mov (.t 1)⟩,
                 ⟨some 31, none, .len (.t 30)⟩,
                 ⟨some 32, none, .bin .lss .none (.t 29) (.t 31)⟩] (some [1, 5, 6, 7, 8, 9, 10, 11, 32]))
               (.cond (.t 32)
                .skip
                (.exit 0)))
              (.seq
               (.blk 1
                (.seq
                 (.reg [⟨some 35, none, .mov (.t 1)⟩,
                   ⟨some 36, none, .mov (.t 11)⟩,
                   ⟨some 37, none, .ia 1 (.t 35) (.t 36)⟩,
                   ⟨some 38, none, .ld none (.t 37)⟩,
                   ⟨some 39, none, .cvi .i64 (.t 38)⟩,
                   ⟨some 40, none, .mov (.t 10)⟩,
                   ⟨some 41, none, .len (.t 40)⟩,
                   ⟨some 42, none, .bin .add .none (.t 41) (.c (.int .i64 1))⟩,
                   ⟨some 43, none, .bin .rem .none (.t 39) (.t 42)⟩,
                   ⟨some 12, none, .mov (.t 43)⟩] (some [1, 5, 6, 7, 8, 9, 10, 11, 12]))
                 (.seq
                  (.reg [⟨some 44, none, .mov (.t 9)⟩,
                    ⟨some 45, none, .mov (.t 8)⟩,
                    ⟨some 46, none, .mov (.t 10)⟩,
                    ⟨some 47, none, .mov (.t 12)⟩,
                    ⟨some 48, none, .sll 1 (.t 46) none (some (.t 47)) none⟩,
                    ⟨some 49, none, .call (.c (.fn (.func 9) [] [])) [(.t 45), (.t 48)]⟩,
                    ⟨some 50, none, .app 32 6 80 (.t 44) (.t 49)⟩,
                    ⟨some 9, none, .mov (.t 50)⟩] (some [1, 5, 6, 7, 8, 9, 10, 11, 12]))
                  (.reg [⟨some 51, none, .mov (.t 10)⟩,
                    ⟨some 52, none, .mov (.t 12)⟩,
                    ⟨some 53, none, .sll 1 (.t 51) (some (.t 52)) none none⟩,
                    ⟨some 10, none, .mov (.t 53)⟩] (some [1, 5, 6, 7, 8, 9, 10, 11])))))
               (.reg [⟨some 33, none, .mov (.t 11)⟩,
                 ⟨some 34, none, .bin .add .none (.t 33) (.c (.int .i64 1))⟩,
                 ⟨some 11, none, .mov (.t 34)⟩] (some [1, 5, 6, 7, 8, 9, 10, 11]))))
def ir_clavierlaw05HostCuts_t10 : ICode :=
 (.seq
  (.reg [⟨some 59, none, .mov (.t 5)⟩,
              ⟨some 60, none, .mov (.t 59)⟩,
              ⟨some 61, some (60, true), .mov (.t 7)⟩,
              ⟨some 62, some (60, true), .mov (.t 9)⟩,
              ⟨some 63, some (60, true), .call (.c (.fn (.func 10) [] [])) [(.t 61), (.t 62)]⟩,
              ⟨some 64, none, .pick (.t 60) (.t 63) (.c (.bool false))⟩,
              ⟨some 65, none, .mov (.t 64)⟩,
              ⟨some 66, some (65, true), .mov (.t 6)⟩,
              ⟨some 67, some (65, true), .call (.c (.fn (.func 11) [] [])) [(.t 66)]⟩,
              ⟨some 68, some (65, true), .mov (.t 8)⟩,
              ⟨some 69, some (65, true), .call (.c (.fn (.func 11) [] [])) [(.t 68)]⟩,
              ⟨some 70, some (65, true), .bin .eql .bool (.t 67) (.t 69)⟩,
              ⟨some 71, none, .pick (.t 65) (.t 70) (.c (.bool false))⟩,
              ⟨some 4, none, .mov (.t 71)⟩] (some [4]))
  .ret)
def ir_clavierlaw05HostCuts_t9 : ICode :=
 (.seq
  (.reg [⟨some 54, none, .mov (.t 9)⟩,
             ⟨some 55, none, .mov (.t 8)⟩,
             ⟨some 56, none, .mov (.t 10)⟩,
             ⟨some 57, none, .call (.c (.fn (.func 9) [] [])) [(.t 55), (.t 56)]⟩,
             ⟨some 58, none, .app 32 6 80 (.t 54) (.t 57)⟩,
             ⟨some 9, none, .mov (.t 58)⟩] (some [5, 6, 7, 8, 9]))
  ir_clavierlaw05HostCuts_t10)
def ir_clavierlaw05HostCuts_t8 : ICode :=
 (.seq
  (.seq
           (.reg [⟨some 11, none, .mov (.c (.int .i64 0))⟩] (some [1, 5, 6, 7, 8, 9, 10, 11]))
           (.blk 0
            (.loop
             ir_clavierlaw05HostCuts_l0)))
  ir_clavierlaw05HostCuts_t9)
def ir_clavierlaw05HostCuts_t7 : ICode :=
 (.seq
  (.reg [⟨some 28, none, .mov (.t 0)⟩,
           ⟨some 10, none, .mov (.t 28)⟩] (some [1, 5, 6, 7, 8, 9, 10]))
  ir_clavierlaw05HostCuts_t8)
def ir_clavierlaw05HostCuts_t6 : ICode :=
 (.seq
  (.reg [⟨some 9, none, .mov (.c .nils)⟩] (some [0, 1, 5, 6, 7, 8, 9]))
  ir_clavierlaw05HostCuts_t7)
def ir_clavierlaw05HostCuts_t5 : ICode :=
 (.seq
  (.reg [⟨some 27, none, .call (.c (.fn (.func 8) [] [])) []⟩,
         ⟨some 8, none, .mov (.t 27)⟩] (some [0, 1, 5, 6, 7, 8]))
  ir_clavierlaw05HostCuts_t6)
def ir_clavierlaw05HostCuts_t4 : ICode :=
 (.seq
  (.reg [⟨some 24, none, .mov (.t 6)⟩,
        ⟨some 25, none, .mov (.t 0)⟩,
        ⟨some 26, none, .call (.c (.fn (.func 9) [] [])) [(.t 24), (.t 25)]⟩,
        ⟨some 7, none, .mov (.t 26)⟩] (some [0, 1, 5, 6, 7]))
  ir_clavierlaw05HostCuts_t5)
def ir_clavierlaw05HostCuts_t3 : ICode :=
 (.seq
  (.reg [⟨some 23, none, .call (.c (.fn (.func 8) [] [])) []⟩,
       ⟨some 6, none, .mov (.t 23)⟩] (some [0, 1, 5, 6]))
  ir_clavierlaw05HostCuts_t4)
def ir_clavierlaw05HostCuts_t2 : ICode :=
 (.seq
  (.seq
     (.reg [⟨some 14, none, .mov (.t 0)⟩,
       ⟨some 15, none, .len (.t 14)⟩,
       ⟨some 16, none, .bin .gtr .none (.t 15) (.c (.int .i64 300))⟩,
       ⟨some 17, none, .mov (.t 16)⟩,
       ⟨some 18, some (17, false), .mov (.t 1)⟩,
       ⟨some 19, some (17, false), .len (.t 18)⟩,
       ⟨some 20, some (17, false), .bin .gtr .none (.t 19) (.c (.int .i64 20))⟩,
       ⟨some 21, none, .pick (.t 17) (.c (.bool true)) (.t 20)⟩] (some [0, 1, 5, 21]))
     (.cond (.t 21)
      (.seq
       (.reg [⟨some 22, none, .mov (.t 5)⟩,
         ⟨some 4, none, .mov (.t 22)⟩] (some [4]))
       .ret)
      .skip))
  ir_clavierlaw05HostCuts_t3)
def ir_clavierlaw05HostCuts_t1 : ICode :=
 (.seq
  (.reg [⟨some 13, none, .call (.c (.fn (.func 7) [] [])) []⟩,
     ⟨some 5, none, .mov (.t 13)⟩] (some [0, 1, 5]))
  ir_clavierlaw05HostCuts_t2)
def ir_clavierlaw05HostCuts : ICode :=
 (.seq
  (.reg [⟨some 4, none, .mov (.c (.bool false))⟩] (some [0, 1]))
  ir_clavierlaw05HostCuts_t1)
theorem is_clavierlaw05HostCuts : IrOf Tryd.prog 3 72 ir_clavierlaw05HostCuts [.t 4] := ⟨_, Tryd.func3, rfl, by kernel_rfl, by kernel_rfl, by kernel_rfl⟩


theorem Wk.perm' {γ c n : Nat} {s : St} {l : List (Nat × AV)} {H : Hp} {T : Tk} (h : lfOK ((List.range n).map fun j => (γ, c, j)) s.F l) (hH : ∀ p ∈ H, p ∈ s.H) (hT : ∀ t, T t → s.T t) : Wk γ c n s ⟨lf l, H, T⟩ :=
  ⟨h.le, fun p hp => ⟨p, hH p hp, rfl, HBle.refl _ _⟩, fun t ht => .inl (hT t ht)⟩
theorem bytesAV_take (l : List UInt8) (n : Nat) : (bytesAV l).take n = bytesAV (l.take n) := by simp only [bytesAV, List.map_take]
theorem bytesAV_drop (l : List UInt8) (n : Nat) : (bytesAV l).drop n = bytesAV (l.drop n) := by simp only [bytesAV, List.map_drop]

/-- What stands behind so many bytes, cut. -/
structure CutI (L : List Nm) (b : List UInt8) (k : Nat) (q : Ps) (pt : Option Nm) (T : Tk) : Prop where
  le : k ≤ b.length
  ok : q.ok
  x : q.x = (Pp.zero.puts (b.take k)).mt
  em : pt = none → (Pp.zero.puts (b.take k)).ou.map Sq.r = []
  nd : (L ++ q.toks ++ pt.toList).Nodup
  tT : ∀ t ∈ L ++ q.toks ++ pt.toList, 1 ≤ t.1 ∧ T t
theorem nodup3 {L A B : List Nm} : (L ++ A ++ B).Nodup ↔ L.Nodup ∧ A.Nodup ∧ B.Nodup ∧ (∀ t ∈ L, t ∉ A) ∧ (∀ t ∈ L, t ∉ B) ∧ (∀ t ∈ A, t ∉ B) := by
  simp only [List.nodup_append, List.mem_append]
  constructor
  · rintro ⟨⟨a, b, c⟩, d, e⟩
    exact ⟨a, b, d, fun t h h' => c t h t h' rfl, fun t h h' => e t (.inl h) t h' rfl, fun t h h' => e t (.inr h) t h' rfl⟩
  · rintro ⟨a, b, c, d, e, f⟩
    refine ⟨⟨a, b, fun t h u h' x => ?_⟩, c, fun t h u h' x => ?_⟩
    · subst x; exact d t h h'
    · subst x; exact h.elim (fun h => e t h h') (fun h => f t h h')
theorem rows_le : ∀ l : List Sq, RowsLe (l.map Sq.r) (sqsAV l)
  | [] => trivial
  | s :: l => ⟨⟨⟨rfl, .refl _⟩, ⟨rfl, .refl _⟩, ⟨rfl, pv_le _⟩, ⟨rfl, .refl _⟩, ⟨rfl, .refl _⟩, ⟨rfl, .refl _⟩, trivial⟩, rows_le l⟩
theorem sv_le {o : Option Nm} {l : List Sq} (h : o = none → l.map Sq.r = []) : RepLe (sv o 6 (l.map Sq.r)) (.sl none 6 (sqsAV l)) := by
  cases o with
  | none =>
    have := h rfl
    obtain rfl : l = [] := by simpa using this
    exact RepLe.nils 6
  | some o => exact (RepLe.anon _ _ _).trans (RepLe.rows (rows_le l))
theorem cut_step {Gl : Gh → Prop} (hst : Stays Gl) {L : List Nm} {b : List UInt8} {k m : Nat} {q : Ps} {pt : Option Nm} {T : Tk} (hI : CutI L b k q pt T) (hb : b.length ≤ 1000000) (hm : m ≤ b.length - k) {qn : Nm} {H : Hp} (hqn : 1 ≤ qn.1) (hmem : (qn, .cells q.c) ∈ H) {γ i : Nat} (hγ : 1 ≤ γ) (hf : ∀ t, T t → t.1 ≠ γ)
    {a dd d : Nat} {F : Nat → AV} {os : List IOper} {K : St → Prop} {e : TypeId} {t0 : Option Nm} (ha : a ≠ dd) (hFa : F a = sv pt 6 ((Pp.zero.puts (b.take k)).ou.map Sq.r))
    (hK : ∀ (q' : Ps) (nt : Option Nm) (T' : Tk) (v : AV), CutI L b (k + m) q' nt T' → (∀ t ∈ q'.toks, t ∈ q.toks ∨ t.2.1 = i) → awOps Tryd.prog Gl γ (i + 2) os ⟨upd (upd F dd v) d (sv nt 6 ((Pp.zero.puts (b.take (k + m))).ou.map Sq.r)), (qn, .cells q'.c) :: H.filter (fun q => q.1 ≠ qn), T'⟩ K) :
    CallP Tryd.prog Gl 9 [.ptr qn 0, .sl t0 1 (bytesAV ((b.drop k).take m))] H T (fun j => (γ, i, j)) (kOps Tryd.prog Gl γ (i + 1) (⟨some d, none, .app e 6 80 (.t a) (.t dd)⟩ :: os) (some dd) F K) := by
  obtain ⟨hk, hok, hx, hpt, hnd, htT⟩ := hI
  have hwk := Pp.w.puts (b := b.take k) Pp.w.zero
  have hqw : q.x.w k := by
    rw [hx]
    exact ⟨Nat.le_trans hwk.tx (by simp; omega), Nat.le_trans hwk.it (by simp; omega), hwk.da, hwk.fi, by simp [Pp.mt], by simp [Pp.mt]⟩
  have hqw2 := Pp.w.puts (b := (b.drop k).take m) hqw
  have hfq : ∀ t ∈ L ++ q.toks ++ pt.toList, 1 ≤ t.1 ∧ t.1 ≠ γ := fun t h => ⟨(htT t h).1, hf t (htT t h).2⟩
  have htk : b.take (k + m) = b.take k ++ (b.drop k).take m := by rw [List.take_add]
  have hpu := puts_mt (Pp.zero.puts (b.take k)) ((b.drop k).take m)
  rw [← Pp.puts_app, ← htk, ← hx] at hpu
  refine Feed.call hst (s := q) hqn hok hmem hγ (fun t h => (htT t (by simp [h])).2) (fun t h => ⟨(htT t (by simp [h])).1, fun j e => (hfq t (by simp [h])).2 (by rw [e])⟩) k hqw (by simp; omega) fun q' o k1 k2 k3 k4 k5 k6 => ?_
  obtain ⟨n1, n2, n3, n4, n5, n6⟩ := nodup3.1 hnd
  rw [w_kOps]
  refine app_run (pt := pt) (o := o) (sz := 6) (rows := (Pp.zero.puts (b.take k)).ou.map Sq.r) (rows' := (q.x.puts ((b.drop k).take m)).ou.map Sq.r) ?_ ?_ (fun t h => .inr ⟨(htT t (by simp only [List.mem_append]; exact .inr h)).2, fun h' => n6 t h' h⟩) ?_ hpt k4 fun nt T' m1 m2 m3 => ?_
  · simp only [X.ev, putF, upd, if_neg ha]; exact hFa
  · simp only [X.ev, putF, upd, if_true]
  · have h1 := hwk.ou
    have h2 := hqw2.ou
    simp only [List.length_map, List.length_take, List.length_drop] at h1 h2 ⊢
    omega
  · rw [show (Pp.zero.puts (b.take k)).ou.map Sq.r ++ (q.x.puts ((b.drop k).take m)).ou.map Sq.r = (Pp.zero.puts (b.take (k + m))).ou.map Sq.r by rw [hpu.2, List.map_append]] at m1 ⊢
    have hq' : ∀ t ∈ q'.toks, 1 ≤ t.1 ∧ (t ∈ q.toks ∨ (t.1 = γ ∧ t.2.1 = i)) := fun t h => k6 t (List.mem_append.2 (.inl h))
    have hL : ∀ t ∈ L, T t ∧ t.1 ≠ γ := fun t h => ⟨(htT t (by simp [h])).2, (hfq t (by simp [h])).2⟩
    have hqt : ∀ t ∈ q.toks, t.1 ≠ γ := fun t h => (hfq t (by simp [h])).2
    have hptt : ∀ t ∈ pt.toList, t.1 ≠ γ ∧ 1 ≤ t.1 := fun t h => ⟨(hfq t (by simp only [List.mem_append]; exact .inr h)).2, (hfq t (by simp only [List.mem_append]; exact .inr h)).1⟩
    refine hK q' nt T' _ ⟨by omega, k2, k1.trans hpu.1.symm, m1, nodup3.2 ⟨n1, (List.nodup_append.1 k5).1, ?_, fun t h h' => ?_, fun t h h' => ?_, fun t h h' => ?_⟩, fun t h => ?_⟩ fun t h => (hq' t h).2.imp _root_.id And.right
    · cases nt <;> simp
    · rcases (hq' t h').2 with h2 | h2
      · exact n4 t h h2
      · exact (hL t h).2 h2.1
    · rcases (m2 t h').2 with h2 | h2
      · exact n5 t h h2
      · exact (hL t h).2 (by rw [h2])
    · rcases (hq' t h).2 with h3 | h3 <;> rcases (m2 t h').2 with h2 | h2
      · exact n6 t h3 h2
      · exact hqt t h3 (by rw [h2])
      · exact (hptt t h2).1 h3.1
      · have : t.2.1 = i + 1 := by rw [h2]
        omega
    · rcases List.mem_append.1 h with h | h
      · rcases List.mem_append.1 h with h | h
        · exact ⟨(htT t (by simp [h])).1, m3 t (.inr ⟨(hL t h).1, n4 t h⟩) (n5 t h)⟩
        · refine ⟨(hq' t h).1, m3 t (.inl (List.mem_append.2 (.inl h))) fun h' => ?_⟩
          rcases (hq' t h).2 with h3 | h3
          · exact n6 t h3 h'
          · exact (hptt t h').1 h3.1
      · refine ⟨?_, (m2 t h).1⟩
        rcases (m2 t h).2 with h2 | h2
        · exact (hptt t h2).2
        · rw [h2]; exact hγ

theorem fs_HostCuts {Gl : Gh → Prop} (hst : Stays Gl) {b cuts : List UInt8} (hl0 : b.length ≤ maxLen) (hl20 : cuts.length ≤ maxLen) : FS Tryd.prog Gl 3 [.sl none 1 (bytesAV b), .sl none 1 (bytesAV cuts)] [] [] (.bool true) [] [] := by
  clear hl0 hl20
  refine FS.of hm hst is_clavierlaw05HostCuts (by simp) fun γ hγ hfr => ?_
  (generalize hQ : (fun (ex : Ex) (_ _ : Nat) (s : St) => _) = Q; unfold ir_clavierlaw05HostCuts)
  simp +contextual (maxSteps := 1000000) only [go_sem, reduceCtorEq, ↓reduceIte, Nat.reduceAdd, Nat.reduceEqDiff, Nat.reduceLeDiff, Nat.reduceMul, Nat.reduceBEq, Int.reduceBEq, Int.reduceBNe, Int.reduceLT, Int.reduceLE, Int.reduceGT, Int.reduceGE, Int.reduceToNat, Int.natCast_one, Int.natCast_zero, Int.cast_ofNat_Int]
  unfold ir_clavierlaw05HostCuts_t1
  simp +contextual (maxSteps := 1000000) only [go_sem, reduceCtorEq, ↓reduceIte, Nat.reduceAdd, Nat.reduceEqDiff, Nat.reduceLeDiff, Nat.reduceMul, Nat.reduceBEq, Int.reduceBEq, Int.reduceBNe, Int.reduceLT, Int.reduceLE, Int.reduceGT, Int.reduceGE, Int.reduceToNat, Int.natCast_one, Int.natCast_zero, Int.cast_ofNat_Int]
  refine CallP.pure (fs_awake hst) (fun _ => rfl) ?_
  simp +contextual (maxSteps := 1000000) only [go_sem, reduceCtorEq, ↓reduceIte, Nat.reduceAdd, Nat.reduceEqDiff, Nat.reduceLeDiff, Nat.reduceMul, Nat.reduceBEq, Int.reduceBEq, Int.reduceBNe, Int.reduceLT, Int.reduceLE, Int.reduceGT, Int.reduceGE, Int.reduceToNat, Int.natCast_one, Int.natCast_zero, Int.cast_ofNat_Int]
  unfold ir_clavierlaw05HostCuts_t2
  simp +contextual (maxSteps := 1000000) only [bytesAV_len, go_sem, reduceCtorEq, ↓reduceIte, Nat.reduceAdd, Nat.reduceEqDiff, Nat.reduceLeDiff, Nat.reduceMul, Nat.reduceBEq, Int.reduceBEq, Int.reduceBNe, Int.reduceLT, Int.reduceLE, Int.reduceGT, Int.reduceGE, Int.reduceToNat, Int.natCast_one, Int.natCast_zero, Int.cast_ofNat_Int]
  refine kCond_split (fun hg => ?_) (fun hg => ?_)
  · simp +contextual (maxSteps := 1000000) only [go_sem, reduceCtorEq, ↓reduceIte, Nat.reduceAdd, Nat.reduceEqDiff, Nat.reduceLeDiff, Nat.reduceMul, Nat.reduceBEq, Int.reduceBEq, Int.reduceBNe, Int.reduceLT, Int.reduceLE, Int.reduceGT, Int.reduceGE, Int.reduceToNat, Int.natCast_one, Int.natCast_zero, Int.cast_ofNat_Int]
    rw [← hQ]
    exact ⟨trivial, Ret.flat rfl rfl⟩
  have hg1 : b.length ≤ 300 ∧ cuts.length ≤ 20 := by simp at hg; omega
  clear hg
  simp +contextual (maxSteps := 1000000) only [go_sem, reduceCtorEq, ↓reduceIte, Nat.reduceAdd, Nat.reduceEqDiff, Nat.reduceLeDiff, Nat.reduceMul, Nat.reduceBEq, Int.reduceBEq, Int.reduceBNe, Int.reduceLT, Int.reduceLE, Int.reduceGT, Int.reduceGE, Int.reduceToNat, Int.natCast_one, Int.natCast_zero, Int.cast_ofNat_Int]
  unfold ir_clavierlaw05HostCuts_t3
  simp +contextual (maxSteps := 1000000) only [go_sem, reduceCtorEq, ↓reduceIte, Nat.reduceAdd, Nat.reduceEqDiff, Nat.reduceLeDiff, Nat.reduceMul, Nat.reduceBEq, Int.reduceBEq, Int.reduceBNe, Int.reduceLT, Int.reduceLE, Int.reduceGT, Int.reduceGE, Int.reduceToNat, Int.natCast_one, Int.natCast_zero, Int.cast_ofNat_Int]
  refine New.call hst ?_
  simp +contextual (maxSteps := 1000000) only [go_sem, reduceCtorEq, ↓reduceIte, Nat.reduceAdd, Nat.reduceEqDiff, Nat.reduceLeDiff, Nat.reduceMul, Nat.reduceBEq, Int.reduceBEq, Int.reduceBNe, Int.reduceLT, Int.reduceLE, Int.reduceGT, Int.reduceGE, Int.reduceToNat, Int.natCast_one, Int.natCast_zero, Int.cast_ofNat_Int]
  unfold ir_clavierlaw05HostCuts_t4
  simp +contextual (maxSteps := 1000000) only [go_sem, reduceCtorEq, ↓reduceIte, Nat.reduceAdd, Nat.reduceEqDiff, Nat.reduceLeDiff, Nat.reduceMul, Nat.reduceBEq, Int.reduceBEq, Int.reduceBNe, Int.reduceLT, Int.reduceLE, Int.reduceGT, Int.reduceGE, Int.reduceToNat, Int.natCast_one, Int.natCast_zero, Int.cast_ofNat_Int]
  refine Feed.call hst (s := Ps.new) hγ Ps.new_ok (by simp) hγ (by simp [Ps.new_toks]) (by simp [Ps.new_toks]) 0 Pp.w.zero (by omega) fun ps po h1 h2 h3 h4 h5 h6 => ?_
  simp +contextual (maxSteps := 1000000) only [go_sem, reduceCtorEq, ↓reduceIte, Nat.reduceAdd, Nat.reduceEqDiff, Nat.reduceLeDiff, Nat.reduceMul, Nat.reduceBEq, Int.reduceBEq, Int.reduceBNe, Int.reduceLT, Int.reduceLE, Int.reduceGT, Int.reduceGE, Int.reduceToNat, Int.natCast_one, Int.natCast_zero, Int.cast_ofNat_Int]
  unfold ir_clavierlaw05HostCuts_t5
  simp +contextual (maxSteps := 1000000) only [go_sem, reduceCtorEq, ↓reduceIte, Nat.reduceAdd, Nat.reduceEqDiff, Nat.reduceLeDiff, Nat.reduceMul, Nat.reduceBEq, Int.reduceBEq, Int.reduceBNe, Int.reduceLT, Int.reduceLE, Int.reduceGT, Int.reduceGE, Int.reduceToNat, Int.natCast_one, Int.natCast_zero, Int.cast_ofNat_Int]
  refine New.call hst ?_
  simp +contextual (maxSteps := 1000000) only [go_sem, reduceCtorEq, ↓reduceIte, Nat.reduceAdd, Nat.reduceEqDiff, Nat.reduceLeDiff, Nat.reduceMul, Nat.reduceBEq, Int.reduceBEq, Int.reduceBNe, Int.reduceLT, Int.reduceLE, Int.reduceGT, Int.reduceGE, Int.reduceToNat, Int.natCast_one, Int.natCast_zero, Int.cast_ofNat_Int]
  unfold ir_clavierlaw05HostCuts_t6
  simp +contextual (maxSteps := 1000000) only [go_sem, reduceCtorEq, ↓reduceIte, Nat.reduceAdd, Nat.reduceEqDiff, Nat.reduceLeDiff, Nat.reduceMul, Nat.reduceBEq, Int.reduceBEq, Int.reduceBNe, Int.reduceLT, Int.reduceLE, Int.reduceGT, Int.reduceGE, Int.reduceToNat, Int.natCast_one, Int.natCast_zero, Int.cast_ofNat_Int]
  unfold ir_clavierlaw05HostCuts_t7
  simp +contextual (maxSteps := 1000000) only [go_sem, reduceCtorEq, ↓reduceIte, Nat.reduceAdd, Nat.reduceEqDiff, Nat.reduceLeDiff, Nat.reduceMul, Nat.reduceBEq, Int.reduceBEq, Int.reduceBNe, Int.reduceLT, Int.reduceLE, Int.reduceGT, Int.reduceGE, Int.reduceToNat, Int.natCast_one, Int.natCast_zero, Int.cast_ofNat_Int]
  unfold ir_clavierlaw05HostCuts_t8
  simp +contextual (maxSteps := 1000000) only [go_sem, reduceCtorEq, ↓reduceIte, Nat.reduceAdd, Nat.reduceEqDiff, Nat.reduceLeDiff, Nat.reduceMul, Nat.reduceBEq, Int.reduceBEq, Int.reduceBNe, Int.reduceLT, Int.reduceLE, Int.reduceGT, Int.reduceGE, Int.reduceToNat, Int.natCast_one, Int.natCast_zero, Int.cast_ofNat_Int]
  have hz : Ps.new.x = Pp.zero := rfl
  have hnp : ∀ t ∈ ps.toks ++ po.toList, 1 ≤ t.1 ∧ t.1 = γ := fun t h => ⟨(h6 t h).1, (h6 t h).2.elim (fun h => by simp [Ps.new_toks] at h) And.left⟩
  refine kLoop_ix (fun q : (Nat × Nat) × Ps × Option Nm × Tk => ⟨lf [(1, .sl none 1 (bytesAV cuts)), (5, .bool true), (6, .ptr (γ, 11, 0) 0), (7, sv po 6 ((Ps.new.x.puts b).ou.map Sq.r)), (8, .ptr (γ, 17, 0) 0), (9, sv q.2.2.1 6 ((Pp.zero.puts (b.take q.1.2)).ou.map Sq.r)), (10, .sl none 1 (bytesAV (b.drop q.1.2))), (11, .int .i64 q.1.1)],
      [((γ, 17, 0), .cells q.2.1.c), ((γ, 11, 0), .cells ps.c)], q.2.2.2⟩)
    (fun q => q.1.1 ≤ cuts.length ∧ CutI ps.toks b q.1.2 q.2.1 q.2.2.1 q.2.2.2)
    (fun q => cuts.length - q.1.1) 0 ((0, 0), Ps.new, none, fun t => t ∈ ps.toks ++ po.toList) ?_ ⟨Nat.zero_le _, Nat.zero_le _, Ps.new_ok, rfl, fun _ => rfl, ?_, ?_⟩ ?_
  · refine Wk.perm' ?_ ?_ ?_
    · (simp only [lfOK, upd, initF]; repeat' first | exact AVle.refl _ _ | exact trivial | refine And.intro ?_ ?_ | exact AVle.int (by simp only [IntKind.wrap_i64]; omega))
    · simp
    · intro t h; exact .inl h
  · simp only [Ps.new_toks, Option.toList_none, List.append_nil]; exact (List.nodup_append.1 h5).1
  · simp only [Ps.new_toks, Option.toList_none, List.append_nil]
    exact fun t h => ⟨(hnp t (List.mem_append.2 (.inl h))).1, List.mem_append.2 (.inl h)⟩
  rintro γ' ⟨⟨i, k⟩, q, pt, T⟩ ⟨hle, hf⟩ ⟨hi, hI⟩
  simp only at hi hI hf
  generalize hQ' : kIt _ _ _ _ _ = Q'
  unfold ir_clavierlaw05HostCuts_l0
  by_cases hlt : i < cuts.length
  · have hd : decide ((i : Int) < (cuts.length : Int)) = true := by simp; omega
    have hget : (bytesAV cuts).getD i [] = [.int .u8 ((cuts[i]).toNat : Int)] := bytesAV_get hlt
    have hw1 : IntKind.i64.wrap ((cuts[i]).toNat : Int) = (cuts[i]).toNat := by rw [IntKind.wrap_i64]; have := (cuts[i]).toNat_lt; omega
    have hw2 : IntKind.i64.wrap (((b.drop k).length : Int) + 1) = (b.drop k).length + 1 := by rw [IntKind.wrap_i64]; simp; omega
    have hw3 : IntKind.i64.wrap ((i : Int) + 1) = ((i + 1 : Nat) : Int) := by rw [IntKind.wrap_i64]; omega
    obtain ⟨m, hm1⟩ : ∃ m, m = (cuts[i]).toNat % ((b.drop k).length + 1) := ⟨_, rfl⟩
    have hm2 : ((cuts[i]).toNat : Int).tmod (((b.drop k).length : Int) + 1) = (m : Int) := by rw [hm1]; exact (Int.ofNat_tmod _ _).symm
    have hm3 : m ≤ (b.drop k).length := by rw [hm1]; exact Nat.le_of_lt_succ (Nat.mod_lt _ (by omega))
    have hm4 : m ≤ b.length - k := by rw [List.length_drop] at hm3; exact hm3
    have hm5 : ((b.drop k).take (b.drop k).length).drop m = b.drop (k + m) := by rw [List.take_length, List.drop_drop]
    clear hm1
    simp +contextual (maxSteps := 1000000) only [hd, hget, bytesAV_len, hw1, hw2, hm2, Int.toNat_natCast, bytesAV_take, go_sem, reduceCtorEq, ↓reduceIte, Nat.reduceAdd, Nat.reduceEqDiff, Nat.reduceLeDiff, Nat.reduceMul, Nat.reduceBEq, Int.reduceBEq, Int.reduceBNe, Int.reduceLT, Int.reduceLE, Int.reduceGT, Int.reduceGE, Int.reduceToNat, Int.natCast_one, Int.natCast_zero, Int.cast_ofNat_Int]
    refine ⟨by omega, by omega, by omega, ?_⟩
    refine cut_step hst hI (by omega) hm4 hγ (by simp) (by omega) hf.2 (by decide) rfl fun q' nt T' v hI' hqn => ?_
    simp +contextual (maxSteps := 1000000) only [bytesAV_len, bytesAV_drop, bytesAV_take, Int.toNat_natCast, hm5, hw3, go_sem, reduceCtorEq, ↓reduceIte, Nat.reduceAdd, Nat.reduceEqDiff, Nat.reduceLeDiff, Nat.reduceMul, Nat.reduceBEq, Int.reduceBEq, Int.reduceBNe, Int.reduceLT, Int.reduceLE, Int.reduceGT, Int.reduceGE, Int.reduceToNat, Int.natCast_one, Int.natCast_zero, Int.cast_ofNat_Int]
    refine ⟨by omega, ?_⟩
    rw [← hQ']
    simp only [w_kIt_n]
    refine ⟨0, ((i + 1, k + m), q', nt, T'), Wk.perm' ?_ ?_ (fun _ h => h), ⟨by simp only; omega, hI'⟩, by simp only; omega⟩
    · repeat' first | exact AVle.refl _ _ | exact trivial | refine And.intro ?_ ?_ | exact AVle.int (by simp only [IntKind.wrap_i64]; omega)
    · simp
  · have hd : decide ((i : Int) < (cuts.length : Int)) = false := by simp; omega
    simp +contextual (maxSteps := 1000000) only [hd, bytesAV_len, go_sem, reduceCtorEq, ↓reduceIte, Nat.reduceAdd, Nat.reduceEqDiff, Nat.reduceLeDiff, Nat.reduceMul, Nat.reduceBEq, Int.reduceBEq, Int.reduceBNe, Int.reduceLT, Int.reduceLE, Int.reduceGT, Int.reduceGE, Int.reduceToNat, Int.natCast_one, Int.natCast_zero, Int.cast_ofNat_Int]
    rw [← hQ']
    simp only [w_kIt_e, w_kBlk_e, ↓reduceIte]
    unfold ir_clavierlaw05HostCuts_t9
    have hm6 : (b.drop k).take (b.length - k) = b.drop k := List.take_of_length_le (by simp)
    simp +contextual (maxSteps := 1000000) only [go_sem, reduceCtorEq, ↓reduceIte, Nat.reduceAdd, Nat.reduceEqDiff, Nat.reduceLeDiff, Nat.reduceMul, Nat.reduceBEq, Int.reduceBEq, Int.reduceBNe, Int.reduceLT, Int.reduceLE, Int.reduceGT, Int.reduceGE, Int.reduceToNat, Int.natCast_one, Int.natCast_zero, Int.cast_ofNat_Int]
    rw [← hm6]
    refine cut_step hst hI (by omega) (Nat.le_refl _) hγ (by simp) (by omega) hf.2 (by decide) rfl fun q' nt T' v hI' hqn => ?_
    simp +contextual (maxSteps := 1000000) only [go_sem, reduceCtorEq, ↓reduceIte, Nat.reduceAdd, Nat.reduceEqDiff, Nat.reduceLeDiff, Nat.reduceMul, Nat.reduceBEq, Int.reduceBEq, Int.reduceBNe, Int.reduceLT, Int.reduceLE, Int.reduceGT, Int.reduceGE, Int.reduceToNat, Int.natCast_one, Int.natCast_zero, Int.cast_ofNat_Int]
    unfold ir_clavierlaw05HostCuts_t10
    simp +contextual (maxSteps := 1000000) only [go_sem, reduceCtorEq, ↓reduceIte, Nat.reduceAdd, Nat.reduceEqDiff, Nat.reduceLeDiff, Nat.reduceMul, Nat.reduceBEq, Int.reduceBEq, Int.reduceBNe, Int.reduceLT, Int.reduceLE, Int.reduceGT, Int.reduceGE, Int.reduceToNat, Int.natCast_one, Int.natCast_zero, Int.cast_ofNat_Int]
    have hkm : b.take (k + (b.length - k)) = b := List.take_of_length_le (by have := hI.le; omega)
    have hI2 : CutI ps.toks b (k + (b.length - k)) q' nt T' := hI'
    obtain ⟨i1, i2, i3, i4, i5, i6⟩ := hI2
    rw [hkm] at i3 i4 ⊢
    have hwz := Pp.w.puts (b := b) Pp.w.zero
    have hsm : ∀ s ∈ (Pp.zero.puts b).ou, s.sm := fun s hs => (mayP_sm (hwz.mo s hs)).1
    have hln : (Pp.zero.puts b).ou.length < 4611686018427387904 := by have := hwz.ou; omega
    refine CallP.pure (FS.args (fs_Sames hst hln hln hsm hsm) ⟨sv_le h4, sv_le i4, trivial⟩) (fun _ => rfl) ?_
    simp +contextual (maxSteps := 1000000) only [go_sem, reduceCtorEq, ↓reduceIte, Nat.reduceAdd, Nat.reduceEqDiff, Nat.reduceLeDiff, Nat.reduceMul, Nat.reduceBEq, Int.reduceBEq, Int.reduceBNe, Int.reduceLT, Int.reduceLE, Int.reduceGT, Int.reduceGE, Int.reduceToNat, Int.natCast_one, Int.natCast_zero, Int.cast_ofNat_Int]
    refine Idle.call hst (s := ps) hγ h2 (by simp) (by omega) (fun t h => (i6 t (by simp [h])).2) (fun t h => ⟨(i6 t (by simp [h])).1, fun j e => ?_⟩) fun p' a1 a2 a3 => ?_
    · exact hf.2 t (hI.tT t (by simp [h])).2 (by rw [e])
    simp +contextual (maxSteps := 1000000) only [go_sem, reduceCtorEq, ↓reduceIte, Nat.reduceAdd, Nat.reduceEqDiff, Nat.reduceLeDiff, Nat.reduceMul, Nat.reduceBEq, Int.reduceBEq, Int.reduceBNe, Int.reduceLT, Int.reduceLE, Int.reduceGT, Int.reduceGE, Int.reduceToNat, Int.natCast_one, Int.natCast_zero, Int.cast_ofNat_Int]
    refine Idle.call hst (s := q') hγ i2 (by simp) (by omega) (fun t h => ?_) (fun t h => ⟨(i6 t (by simp [h])).1, fun j e => ?_⟩) fun q2 b1 b2 b3 => ?_
    · exact .inr ⟨(i6 t (by simp [h])).2, fun h' => (nodup3.1 i5).2.2.2.1 t h' h⟩
    · rcases hqn t h with h' | h'
      · exact hf.2 t (hI.tT t (by simp [h'])).2 (by rw [e])
      · rw [e] at h'; simp at h'
    rw [h1, i3]
    have e1 : decide ((Pp.zero.puts b).ou = (Pp.zero.puts b).ou) = true := by simp
    have e2 : ((Pp.zero.puts b).mt.nx.isNone == (Pp.zero.puts b).mt.nx.isNone) = true := by simp
    simp +contextual (maxSteps := 1000000) only [e1, e2, hz, go_sem, reduceCtorEq, ↓reduceIte, Nat.reduceAdd, Nat.reduceEqDiff, Nat.reduceLeDiff, Nat.reduceMul, Nat.reduceBEq, Int.reduceBEq, Int.reduceBNe, Int.reduceLT, Int.reduceLE, Int.reduceGT, Int.reduceGE, Int.reduceToNat, Int.natCast_one, Int.natCast_zero, Int.cast_ofNat_Int]
    rw [← hQ]
    exact ⟨trivial, Ret.flat rfl rfl⟩
end Go.Proofs.YtgdgfefojfgpaaaDoor
