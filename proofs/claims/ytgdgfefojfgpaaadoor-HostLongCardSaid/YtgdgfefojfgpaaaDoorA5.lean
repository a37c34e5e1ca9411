/- The library's strings.IndexFunc and ContainsFunc, walked with any function. -/
import Derived.Test.YtgdgfefojfgpaaaDoorA1
import Derived.Laws.RangeAny
import Derived.Lib.RuneCount
set_option linter.unusedVariables false
set_option linter.unusedSimpArgs false
set_option maxRecDepth 100000
namespace Go.Proofs.YtgdgfefojfgpaaaDoor
open Go Go.Ab
/-- strings.indexFunc -/
def ir_stringsindexFunc : ICode :=
 (.seq
  (.reg [⟨some 6, none, .mov (.c (.int .i64 0))⟩] (some [0, 1, 2]))
  (.seq
   (.seq
    (.reg [⟨some 9, none, .mov (.t 0)⟩,
      ⟨some 10, none, .rng (.t 9)⟩] (some [1, 2, 10]))
    (.blk 0
     (.loop
      (.seq
       (.reg [⟨some 11, none, .nxt (.t 10)⟩,
         ⟨some 12, none, .ext (.t 11) 0⟩] (some [1, 2, 10, 11, 12]))
       (.seq
        (.cond (.t 12)
         .skip
         (.exit 0))
        (.blk 1
         (.seq
          (.reg [⟨some 13, none, .ext (.t 11) 1⟩,
            ⟨some 14, none, .ext (.t 11) 2⟩,
            ⟨some 7, none, .mov (.t 13)⟩,
            ⟨some 8, none, .mov (.t 14)⟩] (some [1, 2, 7, 8, 10]))
          (.seq
           (.reg [⟨some 15, none, .mov (.t 1)⟩,
             ⟨some 16, none, .mov (.t 8)⟩,
             ⟨some 17, none, .call (.t 15) [(.t 16)]⟩,
             ⟨some 18, none, .mov (.t 2)⟩,
             ⟨some 19, none, .bin .eql .bool (.t 17) (.t 18)⟩] (some [1, 2, 7, 10, 19]))
           (.cond (.t 19)
            (.seq
             (.reg [⟨some 20, none, .mov (.t 7)⟩,
               ⟨some 6, none, .mov (.t 20)⟩] (some [6]))
             .ret)
            .skip)))))))))
   (.seq
    (.reg [⟨some 6, none, .mov (.c (.int .i64 (-1)))⟩] (some [6]))
    .ret)))
theorem is_stringsindexFunc : IrOf Tryd.prog 63 21 ir_stringsindexFunc [.t 6] := ⟨_, Tryd.func63, rfl, by kernel_rfl, by kernel_rfl, by kernel_rfl⟩

/-- strings.IndexFunc -/
def ir_stringsIndexFunc : ICode :=
 (.seq
  (.reg [⟨some 4, none, .mov (.c (.int .i64 0))⟩] (some [0, 1]))
  (.seq
   (.reg [⟨some 5, none, .mov (.t 0)⟩,
     ⟨some 6, none, .mov (.t 1)⟩,
     ⟨some 7, none, .call (.c (.fn (.func 63) [] [])) [(.t 5), (.t 6), (.c (.bool true))]⟩,
     ⟨some 4, none, .mov (.t 7)⟩] (some [4]))
   .ret))
theorem is_stringsIndexFunc : IrOf Tryd.prog 59 8 ir_stringsIndexFunc [.t 4] := ⟨_, Tryd.func59, rfl, by kernel_rfl, by kernel_rfl, by kernel_rfl⟩

/-- strings.ContainsFunc -/
def ir_stringsContainsFunc : ICode :=
 (.seq
  (.reg [⟨some 4, none, .mov (.c (.bool false))⟩] (some [0, 1]))
  (.seq
   (.reg [⟨some 5, none, .mov (.t 0)⟩,
     ⟨some 6, none, .mov (.t 1)⟩,
     ⟨some 7, none, .call (.c (.fn (.func 59) [] [])) [(.t 5), (.t 6)]⟩,
     ⟨some 8, none, .bin .geq .none (.t 7) (.c (.int .i64 0))⟩,
     ⟨some 4, none, .mov (.t 8)⟩] (some [4]))
   .ret))
theorem is_stringsContainsFunc : IrOf Tryd.prog 51 9 ir_stringsContainsFunc [.t 4] := ⟨_, Tryd.func51, rfl, by kernel_rfl, by kernel_rfl, by kernel_rfl⟩


def idxF (s : ByteArray) (q : Nat → Bool) : Nat → Nat → Int
  | 0, _ => -1
  | m + 1, pos => if pos < s.size then if q (Utf8.decode s pos).1 = true then pos else idxF s q m (pos + (Utf8.decode s pos).2) else -1

theorem fs_indexFunc {Gl : Gh → Prop} (hst : Stays Gl) {s : List UInt8} {k : Nat} {caps : List AV} {Hc : Hp} {q : Nat → Bool} (hs : s.length < 4611686018427387904) (hR : Rd Hc)
    (hk : ∀ c : Nat, FS Tryd.prog Gl k (.int .i32 c :: caps) Hc [] (.bool (q c)) Hc []) :
    FS Tryd.prog Gl 63 [.str s, .fn (.func k) [] caps, .bool true] Hc [] (.int .i64 (idxF ⟨s.toArray⟩ q (s.length + 1) 0)) Hc [] := by
  refine FS.of hm hst is_stringsindexFunc (by simp) fun γ hγ hfr => ?_
  generalize hQ : (fun (ex : Ex) (_ _ : Nat) (s : St) => _) = Q
  unfold ir_stringsindexFunc
  simp +contextual (maxSteps := 1000000) only [go_sem, reduceCtorEq, ↓reduceIte, Nat.reduceAdd, Nat.reduceEqDiff, Nat.reduceLeDiff, Nat.reduceMul, Nat.reduceBEq, Int.reduceBEq, Int.reduceBNe, Int.reduceLT, Int.reduceLE, Int.reduceGT, Int.reduceGE, Int.reduceToNat, Int.natCast_one, Int.natCast_zero, Int.cast_ofNat_Int]
  have hap : ∀ p ∈ Hc, p.1 ≠ ((γ, 2, 0) : Nm) := fun p hp e => hfr.1 p hp (by rw [e])
  refine kLoop_ix (fun pos : Nat => ⟨lf [(1, .fn (.func k) [] caps), (2, .bool true), (10, .ptr (γ, 2, 0) 0)], Hc ++ [((γ, 2, 0), .obj (.stringIter ⟨s.toArray⟩ pos))], fun x => x ∈ []⟩) (fun pos => ∃ m, s.length - pos < m ∧ idxF ⟨s.toArray⟩ q (s.length + 1) 0 = idxF ⟨s.toArray⟩ q m pos) (fun pos => s.length - pos) 0 0 (Wk.perm ?_ ?_) ?_ ?_
  · simp only [lfOK, upd, initF]
    repeat' first | exact AVle.refl _ _ | exact trivial | refine And.intro ?_ ?_
  · intro p hp; simp only [List.mem_append, List.mem_singleton, List.mem_cons] at hp ⊢; rcases hp with h | h; exact .inr h; exact .inl (by simpa using h)
  · exact ⟨s.length + 1, by omega, rfl⟩
  · rintro γ' pos hf ⟨m, hm1, hinv⟩
    generalize hQ' : kIt _ _ _ _ _ = Q'
    have hget : getH (Hc ++ [((γ, 2, 0), HB.obj (.stringIter ⟨s.toArray⟩ pos))]) (γ, 2, 0) = some (.obj (.stringIter ⟨s.toArray⟩ pos)) := getH_last hap
    have hset : ∀ o, setH (Hc ++ [((γ, 2, 0), HB.obj (.stringIter ⟨s.toArray⟩ pos))]) (γ, 2, 0) (.obj o) = Hc ++ [((γ, 2, 0), HB.obj o)] := fun o => setH_last hap
    have hsz : (⟨s.toArray⟩ : ByteArray).size = s.length := by simp [ByteArray.size]
    obtain ⟨m, rfl⟩ : ∃ m', m = m' + 1 := ⟨m - 1, by omega⟩
    have hmem : ∀ o, ∀ p ∈ Hc, p ∈ Hc ++ [(((γ, 2, 0) : Nm), HB.obj o)] := fun o p hp => List.mem_append.2 (.inl hp)
    by_cases hlt : pos < s.length
    · have hw := Lib.decode_width_pos ⟨s.toArray⟩ pos (by rw [hsz]; exact hlt)
      simp +contextual (maxSteps := 1000000) only [hget, hset, hsz, hlt, if_true, go_sem, reduceCtorEq, ↓reduceIte, Nat.reduceAdd, Nat.reduceEqDiff, Nat.reduceLeDiff, Nat.reduceMul, Nat.reduceBEq, Int.reduceBEq, Int.reduceBNe, Int.reduceLT, Int.reduceLE, Int.reduceGT, Int.reduceGE, Int.reduceToNat, Int.natCast_one, Int.natCast_zero, Int.cast_ofNat_Int]
      refine CallP.read (hk _) (fun _ => rfl) hR.rn (fun p hp q' hq' => ?_) ?_
      · simp only [List.mem_singleton] at hp; subst hp; exact hap q' hq'
      · cases hq' : q (Utf8.decode ⟨s.toArray⟩ pos).1 with
        | true =>
          simp +contextual (maxSteps := 1000000) only [go_sem, reduceCtorEq, ↓reduceIte, Nat.reduceAdd, Nat.reduceEqDiff, Nat.reduceLeDiff, Nat.reduceMul, Nat.reduceBEq, Int.reduceBEq, Int.reduceBNe, Int.reduceLT, Int.reduceLE, Int.reduceGT, Int.reduceGE, Int.reduceToNat, Int.natCast_one, Int.natCast_zero, Int.cast_ofNat_Int]
          rw [← hQ']
          simp only [w_kIt_r, w_kBlk_r, w_kSeq_r]
          rw [← hQ, hinv, idxF, if_pos (by rw [hsz]; exact hlt), if_pos hq']
          exact ⟨trivial, Ret.reads hR rfl rfl (hmem _)⟩
        | false =>
          simp +contextual (maxSteps := 1000000) only [go_sem, reduceCtorEq, ↓reduceIte, Nat.reduceAdd, Nat.reduceEqDiff, Nat.reduceLeDiff, Nat.reduceMul, Nat.reduceBEq, Int.reduceBEq, Int.reduceBNe, Int.reduceLT, Int.reduceLE, Int.reduceGT, Int.reduceGE, Int.reduceToNat, Int.natCast_one, Int.natCast_zero, Int.cast_ofNat_Int]
          rw [← hQ']
          simp only [w_kIt_n]
          refine ⟨0, pos + (Utf8.decode ⟨s.toArray⟩ pos).2, Wk.perm ?_ (fun p hp => hp), ⟨m, by omega, ?_⟩, by omega⟩
          · repeat' first | exact AVle.refl _ _ | exact trivial | refine And.intro ?_ ?_
          · rw [hinv, idxF, if_pos (by rw [hsz]; exact hlt), if_neg (by rw [hq']; simp)]
    · simp +contextual (maxSteps := 1000000) only [hget, hset, hsz, hlt, if_false, go_sem, reduceCtorEq, ↓reduceIte, Nat.reduceAdd, Nat.reduceEqDiff, Nat.reduceLeDiff, Nat.reduceMul, Nat.reduceBEq, Int.reduceBEq, Int.reduceBNe, Int.reduceLT, Int.reduceLE, Int.reduceGT, Int.reduceGE, Int.reduceToNat, Int.natCast_one, Int.natCast_zero, Int.cast_ofNat_Int]
      rw [← hQ']
      simp only [w_kIt_e, w_kBlk_e, ↓reduceIte]
      simp +contextual (maxSteps := 1000000) only [go_sem, reduceCtorEq, ↓reduceIte, Nat.reduceAdd, Nat.reduceEqDiff, Nat.reduceLeDiff, Nat.reduceMul, Nat.reduceBEq, Int.reduceBEq, Int.reduceBNe, Int.reduceLT, Int.reduceLE, Int.reduceGT, Int.reduceGE, Int.reduceToNat, Int.natCast_one, Int.natCast_zero, Int.cast_ofNat_Int]
      rw [← hQ, hinv, idxF, if_neg (by rw [hsz]; exact hlt)]
      exact ⟨trivial, Ret.reads hR rfl rfl (hmem _)⟩

theorem fs_IndexFunc {Gl : Gh → Prop} (hst : Stays Gl) {s : List UInt8} {k : Nat} {caps : List AV} {Hc : Hp} {q : Nat → Bool} (hs : s.length < 4611686018427387904) (hR : Rd Hc)
    (hk : ∀ c : Nat, FS Tryd.prog Gl k (.int .i32 c :: caps) Hc [] (.bool (q c)) Hc []) :
    FS Tryd.prog Gl 59 [.str s, .fn (.func k) [] caps] Hc [] (.int .i64 (idxF ⟨s.toArray⟩ q (s.length + 1) 0)) Hc [] := by
  refine FS.of hm hst is_stringsIndexFunc (by simp) fun γ hγ hfr => ?_
  generalize hQ : (fun (ex : Ex) (_ _ : Nat) (s : St) => _) = Q
  unfold ir_stringsIndexFunc
  simp +contextual (maxSteps := 1000000) only [go_sem, reduceCtorEq, ↓reduceIte, Nat.reduceAdd, Nat.reduceEqDiff, Nat.reduceLeDiff, Nat.reduceMul, Nat.reduceBEq, Int.reduceBEq, Int.reduceBNe, Int.reduceLT, Int.reduceLE, Int.reduceGT, Int.reduceGE, Int.reduceToNat, Int.natCast_one, Int.natCast_zero, Int.cast_ofNat_Int]
  refine CallP.all (fs_indexFunc hst hs hR hk) (fun _ => rfl) hR.rn ?_
  simp +contextual (maxSteps := 1000000) only [go_sem, reduceCtorEq, ↓reduceIte, Nat.reduceAdd, Nat.reduceEqDiff, Nat.reduceLeDiff, Nat.reduceMul, Nat.reduceBEq, Int.reduceBEq, Int.reduceBNe, Int.reduceLT, Int.reduceLE, Int.reduceGT, Int.reduceGE, Int.reduceToNat, Int.natCast_one, Int.natCast_zero, Int.cast_ofNat_Int]
  rw [← hQ]
  exact ⟨trivial, Ret.reads hR rfl rfl (fun _ h => h)⟩

theorem fs_ContainsFunc {Gl : Gh → Prop} (hst : Stays Gl) {s : List UInt8} {k : Nat} {caps : List AV} {Hc : Hp} {q : Nat → Bool} (hs : s.length < 4611686018427387904) (hR : Rd Hc)
    (hk : ∀ c : Nat, FS Tryd.prog Gl k (.int .i32 c :: caps) Hc [] (.bool (q c)) Hc []) :
    FS Tryd.prog Gl 51 [.str s, .fn (.func k) [] caps] Hc [] (.bool (decide (idxF ⟨s.toArray⟩ q (s.length + 1) 0 ≥ 0))) Hc [] := by
  refine FS.of hm hst is_stringsContainsFunc (by simp) fun γ hγ hfr => ?_
  generalize hQ : (fun (ex : Ex) (_ _ : Nat) (s : St) => _) = Q
  unfold ir_stringsContainsFunc
  simp +contextual (maxSteps := 1000000) only [go_sem, reduceCtorEq, ↓reduceIte, Nat.reduceAdd, Nat.reduceEqDiff, Nat.reduceLeDiff, Nat.reduceMul, Nat.reduceBEq, Int.reduceBEq, Int.reduceBNe, Int.reduceLT, Int.reduceLE, Int.reduceGT, Int.reduceGE, Int.reduceToNat, Int.natCast_one, Int.natCast_zero, Int.cast_ofNat_Int]
  refine CallP.all (fs_IndexFunc hst hs hR hk) (fun _ => rfl) hR.rn ?_
  simp +contextual (maxSteps := 1000000) only [go_sem, reduceCtorEq, ↓reduceIte, Nat.reduceAdd, Nat.reduceEqDiff, Nat.reduceLeDiff, Nat.reduceMul, Nat.reduceBEq, Int.reduceBEq, Int.reduceBNe, Int.reduceLT, Int.reduceLE, Int.reduceGT, Int.reduceGE, Int.reduceToNat, Int.natCast_one, Int.natCast_zero, Int.cast_ofNat_Int]
  rw [← hQ]
  exact ⟨trivial, Ret.reads hR rfl rfl (fun _ h => h)⟩
end Go.Proofs.YtgdgfefojfgpaaaDoor
