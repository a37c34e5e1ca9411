/- Calls of the parser, as the statements make them; the statements' first line. -/
import Derived.Test.YtgdgfefojfgpaaaDoorD1
set_option linter.unusedVariables false
set_option linter.unusedSimpArgs false
set_option maxRecDepth 100000
namespace Go.Proofs.YtgdgfefojfgpaaaDoor
open Go Go.Ab
/-- clavier/clavierlaw05.awake -/
def ir_clavierlaw05awake : ICode :=
 (.seq
  (.reg [⟨some 0, none, .mov (.c (.bool false))⟩] (some []))
  (.seq
   (.reg [⟨some 3, none, .call (.c (.fn (.func 8) [] [])) []⟩,
     ⟨some 1, none, .mov (.t 3)⟩] (some [1]))
   (.seq
    (.reg [⟨some 4, none, .mov (.t 1)⟩,
      ⟨some 5, none, .row 5 1 [(.c (.int .u8 27)), (.c (.int .u8 91)), (.c (.int .u8 49)), (.c (.int .u8 59)), (.c (.int .u8 55)), (.c (.int .u8 48)), (.c (.int .u8 48)), (.c (.int .u8 48)), (.c (.int .u8 48)), (.c (.int .u8 72)), (.c (.int .u8 27)), (.c (.int .u8 91)), (.c (.int .u8 49)), (.c (.int .u8 24)), (.c (.int .u8 99)), (.c (.int .u8 27)), (.c (.int .u8 93)), (.c (.int .u8 48)), (.c (.int .u8 59)), (.c (.int .u8 120)), (.c (.int .u8 7))]⟩,
      ⟨some 6, none, .cvs (.t 5)⟩,
      ⟨some 7, none, .call (.c (.fn (.func 9) [] [])) [(.t 4), (.t 6)]⟩,
      ⟨some 2, none, .mov (.t 7)⟩] (some [1, 2]))
    (.seq
     (.reg [⟨some 8, none, .mov (.t 2)⟩,
       ⟨some 9, none, .len (.t 8)⟩,
       ⟨some 10, none, .bin .eql .none (.t 9) (.c (.int .i64 2))⟩,
       ⟨some 11, none, .mov (.t 10)⟩,
       ⟨some 12, some (11, true), .mov (.t 2)⟩,
       ⟨some 13, some (11, true), .ia 6 (.t 12) (.c (.int .i64 0))⟩,
       ⟨some 14, some (11, true), .fa 4 (.t 13)⟩,
       ⟨some 15, some (11, true), .ld none (.t 14)⟩,
       ⟨some 16, some (11, true), .bin .eql .none (.t 15) (.c (.int .u8 72))⟩,
       ⟨some 17, none, .pick (.t 11) (.t 16) (.c (.bool false))⟩,
       ⟨some 18, none, .mov (.t 17)⟩,
       ⟨some 19, some (18, true), .mov (.t 2)⟩,
       ⟨some 20, some (18, true), .ia 6 (.t 19) (.c (.int .i64 0))⟩,
       ⟨some 21, some (18, true), .fa 2 (.t 20)⟩,
       ⟨some 22, some (18, true), .ld none (.t 21)⟩,
       ⟨some 23, some (18, true), .len (.t 22)⟩,
       ⟨some 24, some (18, true), .bin .eql .none (.t 23) (.c (.int .i64 2))⟩,
       ⟨some 25, none, .pick (.t 18) (.t 24) (.c (.bool false))⟩,
       ⟨some 26, none, .mov (.t 25)⟩,
       ⟨some 27, some (26, true), .mov (.t 2)⟩,
       ⟨some 28, some (26, true), .ia 6 (.t 27) (.c (.int .i64 0))⟩,
       ⟨some 29, some (26, true), .fa 2 (.t 28)⟩,
       ⟨some 30, some (26, true), .ld none (.t 29)⟩,
       ⟨some 31, some (26, true), .ia 1 (.t 30) (.c (.int .i64 1))⟩,
       ⟨some 32, some (26, true), .ld none (.t 31)⟩,
       ⟨some 33, some (26, true), .ia 1 (.t 32) (.c (.int .i64 0))⟩,
       ⟨some 34, some (26, true), .ld none (.t 33)⟩,
       ⟨some 35, some (26, true), .bin .eql .none (.t 34) (.c (.int .i64 65535))⟩,
       ⟨some 36, none, .pick (.t 26) (.t 35) (.c (.bool false))⟩,
       ⟨some 37, none, .mov (.t 36)⟩,
       ⟨some 38, some (37, true), .mov (.t 2)⟩,
       ⟨some 39, some (37, true), .ia 6 (.t 38) (.c (.int .i64 1))⟩,
       ⟨some 40, some (37, true), .fa 0 (.t 39)⟩,
       ⟨some 41, some (37, true), .ld none (.t 40)⟩,
       ⟨some 42, some (37, true), .bin .eql .none (.t 41) (.c (.int .i64 4))⟩,
       ⟨some 43, none, .pick (.t 37) (.t 42) (.c (.bool false))⟩,
       ⟨some 44, none, .mov (.t 43)⟩,
       ⟨some 45, some (44, true), .mov (.t 2)⟩,
       ⟨some 46, some (44, true), .ia 6 (.t 45) (.c (.int .i64 1))⟩,
       ⟨some 47, some (44, true), .fa 5 (.t 46)⟩,
       ⟨some 48, some (44, true), .ld none (.t 47)⟩,
       ⟨some 49, some (44, true), .bin .eql .none (.t 48) (.c (.str [48, 59, 120]))⟩,
       ⟨some 50, none, .pick (.t 44) (.t 49) (.c (.bool false))⟩,
       ⟨some 51, none, .mov (.t 50)⟩,
       ⟨some 52, some (51, true), .mov (.t 1)⟩,
       ⟨some 53, some (51, true), .call (.c (.fn (.func 11) [] [])) [(.t 52)]⟩,
       ⟨some 54, none, .pick (.t 51) (.t 53) (.c (.bool false))⟩,
       ⟨some 0, none, .mov (.t 54)⟩] (some [0]))
     .ret))))
theorem is_clavierlaw05awake : IrOf Tryd.prog 7 55 ir_clavierlaw05awake [.t 0] := ⟨_, Tryd.func7, rfl, by kernel_rfl, by kernel_rfl, by kernel_rfl⟩


theorem Feed.call {Gl : Gh → Prop} (hst : Stays Gl) {p : Nm} {H : Hp} {s : Ps} {b : List UInt8} {t0 : Option Nm} {T : Tk} {γ i : Nat} {K : AV → Hp → Tk → Prop} (hp : 1 ≤ p.1) (hok : s.ok) (hmem : (p, .cells s.c) ∈ H) (hγ : 1 ≤ γ) (hT : ∀ t ∈ s.toks, T t) (hr : ∀ t ∈ s.toks, 1 ≤ t.1 ∧ ∀ j, t ≠ (γ, i, j))
    (n : Nat) (hw : s.x.w n) (hn : n + b.length < 4294967281)
    (hK : ∀ (s' : Ps) (o : Option Nm), s'.x = (s.x.puts b).mt → s'.ok → s'.ot = none → (o = none → (s.x.puts b).ou.map Sq.r = []) → (s'.toks ++ o.toList).Nodup → (∀ t ∈ s'.toks ++ o.toList, 1 ≤ t.1 ∧ (t ∈ s.toks ∨ (t.1 = γ ∧ t.2.1 = i))) →
      K (sv o 6 ((s.x.puts b).ou.map Sq.r)) ((p, .cells s'.c) :: H.filter (fun q => q.1 ≠ p)) (fun t => t ∈ s'.toks ++ o.toList ∨ (T t ∧ t ∉ s.toks))) :
    CallP Tryd.prog Gl 9 [.ptr p 0, .sl t0 1 (bytesAV b)] H T (fun j => (γ, i, j)) K := by
  have hz : ∀ i, i ≤ b.length → (s.x.puts (b.take i)).sz := fun i hi => (Pp.w.puts hw).sz (by simp; omega)
  refine ⟨_, _, _, fs_Feed hst hp hok (fun t h => (hr t h).1) (by omega) hz, fun q hq => by simp only [List.mem_singleton] at hq; subst hq; exact hmem, hT, ?_⟩
  rintro r H1 T1 ⟨s', o, h1, h2, h3, rfl, rfl, h4, h5, rfl, h6⟩
  have hf : ∀ t ∈ s'.toks ++ o.toList, (t ∈ s.toks ∧ rnN (fun j => (γ, i, j)) t = t) ∨ (t.1 = 0 ∧ t.2.1 = 0 ∧ rnN (fun j => (γ, i, j)) t = (γ, i, t.2.2)) := fun t h => by
    rcases h6 t h with h | ⟨h1, h2⟩
    · exact .inl ⟨h, real_rn (hr t h).1⟩
    · exact .inr ⟨h1, h2, by simp only [rnN]; rw [if_pos ⟨h1, h2⟩]⟩
  have hl : (s'.rn fun j => (γ, i, j)).toks ++ (o.map (rnN fun j => (γ, i, j))).toList = (s'.toks ++ o.toList).map (rnN fun j => (γ, i, j)) := by
    rw [Ps.toks_rn, List.map_append]; cases o <;> rfl
  refine ⟨(p, .cells (s'.rn fun j => (γ, i, j)).c) :: H.filter (fun q => q.1 ≠ p), fun t => t ∈ (s'.toks ++ o.toList).map (rnN fun j => (γ, i, j)) ∨ (T t ∧ t ∉ s.toks), fun q hq => ?_, fun t h => h, ?_⟩
  · rcases List.mem_cons.1 hq with rfl | hq
    · refine List.mem_append.2 (.inl ?_)
      simp only [rnH, List.map_cons, List.map_nil, real_rn hp, Ps.c_rn, List.mem_singleton]
    · refine List.mem_append.2 (.inr ?_)
      obtain ⟨q1, q2⟩ := List.mem_filter.1 hq
      refine List.mem_filter.2 ⟨q1, ?_⟩
      simp only [List.all_cons, List.all_nil, Bool.and_true, decide_eq_true_eq] at q2 ⊢
      exact fun e => q2 e.symm
  · have := hK (s'.rn fun j => (γ, i, j)) (o.map (rnN fun j => (γ, i, j))) h1 ⟨?_, fun h => h2.t ?_, fun h => h2.d ?_, fun h => h2.o ?_⟩ (by simp [Ps.rn, h3]) (fun h => by rw [h4 (by simpa using h)]; rfl) ?_ ?_
    · rw [hl] at this
      rw [sv_rn]; exact this
    · have hnd := (List.nodup_append.1 h5).1
      rw [Ps.toks_rn]
      refine List.pairwise_map.2 (hnd.imp_of_mem fun {a c} ha hc hne e => ?_)
      rcases hf a (List.mem_append.2 (.inl ha)) with ⟨a1, a2⟩ | ⟨a1, a2, a3⟩ <;> rcases hf c (List.mem_append.2 (.inl hc)) with ⟨b1, b2⟩ | ⟨b1, b2, b3⟩
      · rw [a2, b2] at e; exact hne e
      · rw [a2, b3] at e; exact (hr a a1).2 _ e
      · rw [a3, b2] at e; exact (hr c b1).2 _ e.symm
      · rw [a3, b3] at e
        simp only [Prod.mk.injEq, true_and] at e
        exact hne (Prod.ext (a1.trans b1.symm) (Prod.ext (a2.trans b2.symm) e))
    · simpa [Ps.rn] using h
    · simpa [Ps.rn] using h
    · simpa [Ps.rn] using h
    · rw [hl]
      refine List.pairwise_map.2 (h5.imp_of_mem fun {a c} ha hc hne e => ?_)
      rcases hf a ha with ⟨a1, a2⟩ | ⟨a1, a2, a3⟩ <;> rcases hf c hc with ⟨b1, b2⟩ | ⟨b1, b2, b3⟩
      · rw [a2, b2] at e; exact hne e
      · rw [a2, b3] at e; exact (hr a a1).2 _ e
      · rw [a3, b2] at e; exact (hr c b1).2 _ e.symm
      · rw [a3, b3] at e
        simp only [Prod.mk.injEq, true_and] at e
        exact hne (Prod.ext (a1.trans b1.symm) (Prod.ext (a2.trans b2.symm) e))
    · rw [hl]
      intro t h
      obtain ⟨u, hu, rfl⟩ := List.mem_map.1 h
      rcases hf u hu with ⟨h1, h2⟩ | ⟨h1, h2, h3⟩
      · rw [h2]; exact ⟨(hr u h1).1, .inl h1⟩
      · rw [h3]; exact ⟨hγ, .inr ⟨rfl, rfl⟩⟩

/-- A call of Idle. -/
theorem Idle.call {Gl : Gh → Prop} (hst : Stays Gl) {p : Nm} {H : Hp} {s : Ps} {T : Tk} {γ i : Nat} {K : AV → Hp → Tk → Prop} (hp : 1 ≤ p.1) (hok : s.ok) (hmem : (p, .cells s.c) ∈ H) (hγ : 1 ≤ γ) (hT : ∀ t ∈ s.toks, T t) (hr : ∀ t ∈ s.toks, 1 ≤ t.1 ∧ ∀ j, t ≠ (γ, i, j))
    (hK : ∀ (s' : Ps), s'.x = s.x → s'.ok → (∀ t ∈ s'.toks, 1 ≤ t.1 ∧ (t ∈ s.toks ∨ (t.1 = γ ∧ t.2.1 = i))) → K (.bool s.x.nx.isNone) ((p, .cells s'.c) :: H.filter (fun q => q.1 ≠ p)) (fun t => t ∈ s'.toks ∨ (T t ∧ t ∉ s.toks))) :
    CallP Tryd.prog Gl 11 [.ptr p 0] H T (fun j => (γ, i, j)) K := by
  refine ⟨_, _, _, fs_Idle hst hp hok (fun t h => (hr t h).1), fun q hq => by simp only [List.mem_singleton] at hq; subst hq; exact hmem, hT, ?_⟩
  rintro r H1 T1 ⟨s', h1, h2, rfl, rfl, rfl, h6⟩
  have hf : ∀ t ∈ s'.toks, (t ∈ s.toks ∧ rnN (fun j => (γ, i, j)) t = t) ∨ (t.1 = 0 ∧ t.2.1 = 0 ∧ rnN (fun j => (γ, i, j)) t = (γ, i, t.2.2)) := fun t h => by
    rcases h6 t h with h | ⟨h1, h2⟩
    · exact .inl ⟨h, real_rn (hr t h).1⟩
    · exact .inr ⟨h1, h2, by simp only [rnN]; rw [if_pos ⟨h1, h2⟩]⟩
  refine ⟨(p, .cells (s'.rn fun j => (γ, i, j)).c) :: H.filter (fun q => q.1 ≠ p), fun t => t ∈ s'.toks.map (rnN fun j => (γ, i, j)) ∨ (T t ∧ t ∉ s.toks), fun q hq => ?_, fun t h => h, ?_⟩
  · rcases List.mem_cons.1 hq with rfl | hq
    · refine List.mem_append.2 (.inl ?_)
      simp only [rnH, List.map_cons, List.map_nil, real_rn hp, Ps.c_rn, List.mem_singleton]
    · refine List.mem_append.2 (.inr ?_)
      obtain ⟨q1, q2⟩ := List.mem_filter.1 hq
      refine List.mem_filter.2 ⟨q1, ?_⟩
      simp only [List.all_cons, List.all_nil, Bool.and_true, decide_eq_true_eq] at q2 ⊢
      exact fun e => q2 e.symm
  · have := hK (s'.rn fun j => (γ, i, j)) h1 ⟨?_, fun h => h2.t ?_, fun h => h2.d ?_, fun h => h2.o ?_⟩ ?_
    · rw [Ps.toks_rn] at this; exact this
    · rw [Ps.toks_rn]
      refine List.pairwise_map.2 (h2.nd.imp_of_mem fun {a c} ha hc hne e => ?_)
      rcases hf a ha with ⟨a1, a2⟩ | ⟨a1, a2, a3⟩ <;> rcases hf c hc with ⟨b1, b2⟩ | ⟨b1, b2, b3⟩
      · rw [a2, b2] at e; exact hne e
      · rw [a2, b3] at e; exact (hr a a1).2 _ e
      · rw [a3, b2] at e; exact (hr c b1).2 _ e.symm
      · rw [a3, b3] at e
        simp only [Prod.mk.injEq, true_and] at e
        exact hne (Prod.ext (a1.trans b1.symm) (Prod.ext (a2.trans b2.symm) e))
    · simpa [Ps.rn] using h
    · simpa [Ps.rn] using h
    · simpa [Ps.rn] using h
    · rw [Ps.toks_rn]
      intro t h
      obtain ⟨u, hu, rfl⟩ := List.mem_map.1 h
      rcases hf u hu with ⟨h1, h2⟩ | ⟨h1, h2, h3⟩
      · rw [h2]; exact ⟨(hr u h1).1, .inl h1⟩
      · rw [h3]; exact ⟨hγ, .inr ⟨rfl, rfl⟩⟩

def Ps.new : Ps := ⟨Pp.zero, none, none, none⟩
theorem Ps.new_ok : Ps.new.ok := ⟨by simp [Ps.new, Ps.toks], fun _ => rfl, fun _ => rfl, fun _ => rfl⟩
theorem Ps.new_toks : Ps.new.toks = [] := rfl
/-- A call of New. -/
theorem New.call {Gl : Gh → Prop} (hst : Stays Gl) {H : Hp} {T : Tk} {γ i : Nat} {K : AV → Hp → Tk → Prop} (hK : K (.ptr (γ, i, 0) 0) (((γ, i, 0), .cells Ps.new.c) :: H) T) : CallP Tryd.prog Gl 8 [] H T (fun j => (γ, i, j)) K := by
  refine CallP.of (fs_New hst) (by simp) (by simp) ?_
  have e1 : rnH (fun j => (γ, i, j)) [((0, 0, 0), .cells (⟨Pp.zero, none, none, none⟩ : Ps).c)] ++ H.filter (fun p => ([] : Hp).all fun q => q.1 ≠ p.1) = ((γ, i, 0), .cells Ps.new.c) :: H := by
    simp only [rnH, List.map_cons, List.map_nil, Ps.c_rn, rnN, List.all_nil]
    simp [Ps.rn, Ps.new]
  have e2 : (fun s => s ∈ ([] : List Nm).map (rnN fun j => (γ, i, j)) ∨ (T s ∧ s ∉ ([] : List Nm))) = T := by funext s; simp
  rw [e1, e2]
  exact hK

theorem fs_awake {Gl : Gh → Prop} (hst : Stays Gl) : FS Tryd.prog Gl 7 [] [] [] (.bool true) [] [] := by
  refine FS.of hm hst is_clavierlaw05awake (by simp) fun γ hγ hfr => ?_
  (generalize hQ : (fun (ex : Ex) (_ _ : Nat) (s : St) => _) = Q; unfold ir_clavierlaw05awake)
  simp +contextual (maxSteps := 1000000) only [go_sem, reduceCtorEq, ↓reduceIte, Nat.reduceAdd, Nat.reduceEqDiff, Nat.reduceLeDiff, Nat.reduceMul, Nat.reduceBEq, Int.reduceBEq, Int.reduceBNe, Int.reduceLT, Int.reduceLE, Int.reduceGT, Int.reduceGE, Int.reduceToNat, Int.natCast_one, Int.natCast_zero, Int.cast_ofNat_Int]
  refine New.call hst ?_
  simp +contextual (maxSteps := 1000000) only [go_sem, reduceCtorEq, ↓reduceIte, Nat.reduceAdd, Nat.reduceEqDiff, Nat.reduceLeDiff, Nat.reduceMul, Nat.reduceBEq, Int.reduceBEq, Int.reduceBNe, Int.reduceLT, Int.reduceLE, Int.reduceGT, Int.reduceGE, Int.reduceToNat, Int.natCast_one, Int.natCast_zero, Int.cast_ofNat_Int]
  have hou : (Ps.new.x.puts [27, 91, 49, 59, 55, 48, 48, 48, 48, 72, 27, 91, 49, 24, 99, 27, 93, 48, 59, 120, 7]).ou = [⟨1, 0, [[1], [65535]], [], 72, []⟩, ⟨4, 0, [], [], 0, [48, 59, 120]⟩] := by decide +kernel
  have hnx : (Ps.new.x.puts [27, 91, 49, 59, 55, 48, 48, 48, 48, 72, 27, 91, 49, 24, 99, 27, 93, 48, 59, 120, 7]).nx = none := by decide +kernel
  refine ⟨⟨.inl trivial, by simp⟩, ?_⟩
  refine Feed.call hst (s := Ps.new) (b := [27, 91, 49, 59, 55, 48, 48, 48, 48, 72, 27, 91, 49, 24, 99, 27, 93, 48, 59, 120, 7]) hγ Ps.new_ok (by simp) hγ (by simp [Ps.new_toks]) (by simp [Ps.new_toks]) 0 Pp.w.zero (by simp) fun s' o h1 h2 h3 h4 h5 h6 => ?_
  rw [hou] at h4 ⊢
  cases o with
  | none => have := h4 rfl; simp at this
  | some o =>
  have hn : s'.x.nx = none := by rw [h1]; exact hnx
  clear h1 hou hnx h4
  simp +contextual (maxSteps := 1000000) only [Sq.r, pv, parsV, parsAV, intsV, intsAV, go_sem, reduceCtorEq, ↓reduceIte, Nat.reduceAdd, Nat.reduceEqDiff, Nat.reduceLeDiff, Nat.reduceMul, Nat.reduceBEq, Int.reduceBEq, Int.reduceBNe, Int.reduceLT, Int.reduceLE, Int.reduceGT, Int.reduceGE, Int.reduceToNat, Int.natCast_one, Int.natCast_zero, Int.cast_ofNat_Int]
  refine Idle.call hst (s := s') hγ h2 (by simp) hγ (fun t h => .inl (List.mem_append.2 (.inl h))) (fun t h => ?_) fun s'' k1 k2 k3 => ?_
  · obtain ⟨a, b⟩ := h6 t (List.mem_append.2 (.inl h))
    refine ⟨a, fun j e => ?_⟩
    rcases b with b | ⟨_, b⟩
    · simp [Ps.new_toks] at b
    · rw [e] at b; simp at b
  · rw [hn]
    simp +contextual (maxSteps := 1000000) only [go_sem, reduceCtorEq, ↓reduceIte, Nat.reduceAdd, Nat.reduceEqDiff, Nat.reduceLeDiff, Nat.reduceMul, Nat.reduceBEq, Int.reduceBEq, Int.reduceBNe, Int.reduceLT, Int.reduceLE, Int.reduceGT, Int.reduceGE, Int.reduceToNat, Int.natCast_one, Int.natCast_zero, Int.cast_ofNat_Int]
    rw [← hQ]
    exact ⟨trivial, Ret.flat rfl rfl⟩

/-- What is appended to a slice with a token, or to nil, out of such a slice. -/
theorem app_sv {pt o : Option Nm} {e : TypeId} {sz b : Nat} {rows rows' : List (List AV)} {F : Nat → AV} {H : Hp} {T : Tk} {K : AV → Hp → Tk → Prop} {x y : X} {nm : Nm} (hx : x.ev F = sv pt sz rows) (hy : y.ev F = sv o sz rows') (hT : ∀ t ∈ pt.toList, T t) (hsz : (rows.length + rows'.length) * b ≤ 140737488355328)
    (hp : pt = none → rows = []) (ho : o = none → rows' = [])
    (hK : ∀ (nt : Option Nm) (T' : Tk), (nt = none → rows ++ rows' = []) → (∀ t ∈ nt.toList, T' t ∧ (t ∈ pt.toList ∨ t = nm)) → (∀ t, T t → t ∉ pt.toList → T' t) → K (sv nt sz (rows ++ rows')) H T') : kStep nm H T K (Ab.step (.app e sz b x y) F H T nm) := by
  cases pt with
  | none =>
    obtain rfl := hp rfl
    cases o with
    | none =>
      obtain rfl := ho rfl
      simp only [Ab.step, hx, hy, sv, kStep, Eff.H, Eff.T]
      exact ⟨trivial, hK none T (fun _ => rfl) (by simp) fun t h _ => h⟩
    | some o =>
      simp only [Ab.step, hx, hy, sv, kStep, Eff.H, Eff.T]
      refine ⟨by simpa using hsz, hK (some nm) _ (fun h => by cases h) ?_ fun t h _ => .inr h⟩
      simp
  | some p =>
    cases o with
    | none =>
      obtain rfl := ho rfl
      simp only [Ab.step, hx, hy, sv, kStep, Eff.H, Eff.T]
      refine ⟨hT p (by simp), ?_⟩
      have := hK (some p) T (fun h => by cases h) (by simp; exact hT p (by simp)) fun t h _ => h
      simpa [sv] using this
    | some o =>
      simp only [Ab.step, hx, hy, sv, kStep, Eff.H, Eff.T]
      refine ⟨by simpa using ⟨hT p (by simp), hsz⟩, hK (some nm) _ (fun h => by cases h) ?_ fun t h h' => .inr ⟨h, fun e => h' (by simp [e])⟩⟩
      simp
theorem app_run {Gl : Gh → Prop} {pt o : Option Nm} {e : TypeId} {sz b : Nat} {rows rows' : List (List AV)} {γ i d : Nat} {os : List IOper} {s : St} {K : St → Prop} {x y : X} (hx : x.ev s.F = sv pt sz rows) (hy : y.ev s.F = sv o sz rows') (hT : ∀ t ∈ pt.toList, s.T t) (hsz : (rows.length + rows'.length) * b ≤ 140737488355328)
    (hp : pt = none → rows = []) (ho : o = none → rows' = [])
    (hK : ∀ (nt : Option Nm) (T' : Tk), (nt = none → rows ++ rows' = []) → (∀ t ∈ nt.toList, T' t ∧ (t ∈ pt.toList ∨ t = (γ, i, 0))) → (∀ t, s.T t → t ∉ pt.toList → T' t) → awOps Tryd.prog Gl γ (i + 1) os ⟨upd s.F d (sv nt sz (rows ++ rows')), s.H, T'⟩ K) : awOps Tryd.prog Gl γ i (⟨some d, none, .app e sz b x y⟩ :: os) s K := by
  rw [w_cons, w_app]
  exact app_sv hx hy hT hsz hp ho hK
end Go.Proofs.YtgdgfefojfgpaaaDoor
