/- The iterator of strings.SplitSeq. -/
import Derived.Test.YtgdgfefojfgpaaaDoorA4
import Derived.Test.YtgdgfefojfgpaaaDoorShelf
set_option linter.unusedVariables false
set_option linter.unusedSimpArgs false
set_option maxRecDepth 100000
namespace Go.Proofs.YtgdgfefojfgpaaaDoor
open Go Go.Ab
/-- strings.Index -/
def ir_stringsIndex : ICode :=
 (.seq
  (.reg [⟨some 4, none, .mov (.c (.int .i64 0))⟩] (some [0, 1]))
  (.seq
   (.reg [⟨some 5, none, .mov (.t 0)⟩,
     ⟨some 6, none, .mov (.t 1)⟩,
     ⟨some 7, none, .call (.c (.fn (.func 58) [] [])) [(.t 5), (.t 6)]⟩,
     ⟨some 4, none, .mov (.t 7)⟩] (some [4]))
   .ret))
theorem is_stringsIndex : IrOf Tryd.prog 49 8 ir_stringsIndex [.t 4] := ⟨_, Tryd.func49, rfl, by kernel_rfl, by kernel_rfl, by kernel_rfl⟩

/-- strings.splitSeq$1 -/
def ir_stringssplitSeq1 : ICode :=
 (.seq
  (.seq
   (.reg [⟨some 9, none, .ld none (.t 1)⟩,
     ⟨some 10, none, .lns (.t 9)⟩,
     ⟨some 11, none, .bin .eql .none (.t 10) (.c (.int .i64 0))⟩] (some [0, 1, 2, 3, 11]))
   (.cond (.t 11)
    (.seq
     (.blk 0
      (.loop
       (.seq
        (.seq
         (.reg [⟨some 12, none, .ld none (.t 2)⟩,
           ⟨some 13, none, .lns (.t 12)⟩,
           ⟨some 14, none, .bin .gtr .none (.t 13) (.c (.int .i64 0))⟩] (some [0, 2, 14]))
         (.cond (.t 14)
          .skip
          (.exit 0)))
        (.blk 1
         (.seq
          (.reg [⟨some 16, none, .ld none (.t 2)⟩,
            ⟨some 17, none, .call (.c (.fn (.func 48) [] [])) [(.t 16)]⟩,
            ⟨some 15, none, .mov (.t 17)⟩,
            ⟨some 18, none, .ext (.t 15) 0⟩,
            ⟨some 19, none, .ext (.t 15) 1⟩,
            ⟨some 5, none, .mov (.t 18)⟩,
            ⟨some 6, none, .mov (.t 19)⟩] (some [0, 2, 6]))
          (.seq
           (.seq
            (.reg [⟨some 20, none, .mov (.t 0)⟩,
              ⟨some 21, none, .ld none (.t 2)⟩,
              ⟨some 22, none, .mov (.t 6)⟩,
              ⟨some 23, none, .sls (.t 21) none (some (.t 22))⟩,
              ⟨some 24, none, .call (.t 20) [(.t 23)]⟩,
              ⟨some 25, none, .un .not (.t 24)⟩] (some [0, 2, 6, 25]))
            (.cond (.t 25)
             .ret
             .skip))
           (.reg [⟨some 26, none, .ld none (.t 2)⟩,
             ⟨some 27, none, .mov (.t 6)⟩,
             ⟨some 28, none, .sls (.t 26) (some (.t 27)) none⟩,
             ⟨none, none, .st 1 (.t 2) (.t 28)⟩] (some [0, 2]))))))))
     .ret)
    .skip))
  (.seq
   (.blk 2
    (.loop
     (.blk 3
      (.seq
       (.reg [⟨some 29, none, .ld none (.t 2)⟩,
         ⟨some 30, none, .ld none (.t 1)⟩,
         ⟨some 31, none, .call (.c (.fn (.func 49) [] [])) [(.t 29), (.t 30)]⟩,
         ⟨some 7, none, .mov (.t 31)⟩] (some [0, 1, 2, 3, 7]))
       (.seq
        (.seq
         (.reg [⟨some 32, none, .mov (.t 7)⟩,
           ⟨some 33, none, .bin .lss .none (.t 32) (.c (.int .i64 0))⟩] (some [0, 1, 2, 3, 7, 33]))
         (.cond (.t 33)
          (.exit 2)
          .skip))
        (.seq
         (.reg [⟨some 34, none, .ld none (.t 2)⟩,
           ⟨some 35, none, .mov (.t 7)⟩,
           ⟨some 36, none, .ld none (.t 3)⟩,
           ⟨some 37, none, .bin .add .none (.t 35) (.t 36)⟩,
           ⟨some 38, none, .sls (.t 34) none (some (.t 37))⟩,
           ⟨some 8, none, .mov (.t 38)⟩] (some [0, 1, 2, 3, 7, 8]))
         (.seq
          (.seq
           (.reg [⟨some 39, none, .mov (.t 0)⟩,
             ⟨some 40, none, .mov (.t 8)⟩,
             ⟨some 41, none, .call (.t 39) [(.t 40)]⟩,
             ⟨some 42, none, .un .not (.t 41)⟩] (some [0, 1, 2, 3, 7, 42]))
           (.cond (.t 42)
            .ret
            .skip))
          (.reg [⟨some 43, none, .ld none (.t 2)⟩,
            ⟨some 44, none, .mov (.t 7)⟩,
            ⟨some 45, none, .ld none (.t 1)⟩,
            ⟨some 46, none, .lns (.t 45)⟩,
            ⟨some 47, none, .bin .add .none (.t 44) (.t 46)⟩,
            ⟨some 48, none, .sls (.t 43) (some (.t 47)) none⟩,
            ⟨none, none, .st 1 (.t 2) (.t 48)⟩] (some [0, 1, 2, 3])))))))))
   (.reg [⟨some 49, none, .mov (.t 0)⟩,
     ⟨some 50, none, .ld none (.t 2)⟩,
     ⟨some 51, none, .call (.t 49) [(.t 50)]⟩] (some []))))
theorem is_stringssplitSeq1 : IrOf Tryd.prog 47 52 ir_stringssplitSeq1 [] := ⟨_, Tryd.func47, rfl, by kernel_rfl, by kernel_rfl, by kernel_rfl⟩

/-- strings.splitSeq -/
def ir_stringssplitSeq : ICode :=
 (.seq
  (.reg [⟨some 3, none, .box 9 (.t 0)⟩,
    ⟨some 4, none, .box 9 (.t 1)⟩,
    ⟨some 5, none, .box 3 (.t 2)⟩,
    ⟨some 6, none, .mov (.c .nilf)⟩] (some [3, 4, 5]))
  (.seq
   (.reg [⟨some 7, none, .mkf (.func 47) [] [(.t 4), (.t 3), (.t 5)]⟩,
     ⟨some 6, none, .mov (.t 7)⟩] (some [6]))
   .ret))
theorem is_stringssplitSeq : IrOf Tryd.prog 38 8 ir_stringssplitSeq [.t 6] := ⟨_, Tryd.func38, rfl, by kernel_rfl, by kernel_rfl, by kernel_rfl⟩

/-- strings.SplitSeq -/
def ir_stringsSplitSeq : ICode :=
 (.seq
  (.reg [⟨some 4, none, .mov (.c .nilf)⟩] (some [0, 1]))
  (.seq
   (.reg [⟨some 5, none, .mov (.t 0)⟩,
     ⟨some 6, none, .mov (.t 1)⟩,
     ⟨some 7, none, .call (.c (.fn (.func 38) [] [])) [(.t 5), (.t 6), (.c (.int .i64 0))]⟩,
     ⟨some 4, none, .mov (.t 7)⟩] (some [4]))
   .ret))
theorem is_stringsSplitSeq : IrOf Tryd.prog 31 8 ir_stringsSplitSeq [.t 4] := ⟨_, Tryd.func31, rfl, by kernel_rfl, by kernel_rfl, by kernel_rfl⟩


/-- Where a byte stands first. -/
def idxB (c : UInt8) : List UInt8 → Option Nat
  | [] => none
  | d :: l => if d = c then some 0 else (idxB c l).map (· + 1)
/-- The parts between bytes. -/
def splitB (c : UInt8) : List UInt8 → List (List UInt8)
  | [] => [[]]
  | d :: l => if d = c then [] :: splitB c l else match splitB c l with
    | p :: ps => (d :: p) :: ps
    | [] => [[d]]
theorem splitB_ne (c : UInt8) : ∀ l, splitB c l ≠ []
  | [] => by simp [splitB]
  | d :: l => by
    simp only [splitB]
    split
    · simp
    · split <;> simp
theorem splitB_eq (c : UInt8) : ∀ l, splitB c l = match idxB c l with | none => [l] | some i => l.take i :: splitB c (l.drop (i + 1))
  | [] => rfl
  | d :: l => by
    simp only [splitB, idxB]
    split
    · rename_i h; simp
    · have ih := splitB_eq c l
      cases h : idxB c l with
      | none => rw [h] at ih; simp only at ih; rw [ih]; simp
      | some i => rw [h] at ih; simp only at ih; rw [ih]; simp
theorem idxB_lt {c : UInt8} : ∀ {l : List UInt8} {i : Nat}, idxB c l = some i → i < l.length
  | [], _, h => by simp [idxB] at h
  | d :: l, i, h => by
    simp only [idxB] at h
    split at h
    · cases h; simp
    · obtain ⟨j, hj, rfl⟩ := Option.map_eq_some_iff.1 h
      have := idxB_lt hj
      simp; omega
theorem indexByte_idxB (c : UInt8) : ∀ l, Lib.indexByte l c = match idxB c l with | some i => (i : Int) | none => -1
  | [] => rfl
  | d :: l => by
    simp only [Lib.indexByte, idxB, indexByte_idxB c l]
    by_cases h : d = c
    · simp [h]
    · have hb : (d == c) = false := by simpa using h
      rw [hb, if_neg h]
      cases hi : idxB c l with
      | none => simp
      | some i =>
        simp only [Option.map_some]
        have : ((i : Int) == -1) = false := by simp
        simp [this]

theorem fs_index {Gl : Gh → Prop} {s : List UInt8} {c : UInt8} : FS Tryd.prog Gl 49 [.str s, .str [c]] [] [] (.int .i64 (match idxB c s with | some i => (i : Int) | none => -1)) [] [] := by
  refine FS.of_calls is_stringsIndex.enters (fun _ => rfl) fun g w vs hinv hgl hargs => ?_
  obtain ⟨v1, r1, rfl, h1, v2, r2, rfl, h2, h3⟩ := hargs
  cases h1; cases h2; cases h3
  refine ⟨_, rfl, (Tryd.strings_Index_one ⟨s.toArray⟩ c w).mono ?_⟩
  rintro e w' ⟨rfl, rfl⟩
  exact ⟨by rw [indexByte_idxB], rfl⟩

theorem it_split {Gl : Gh → Prop} {s : List UInt8} {c : UInt8} {a b d : Nm} (hab : a ≠ b) (had : a ≠ d) (hbd : b ≠ d) (hs : s.length < 4294967281) :
    IterS Tryd.prog Gl 47 [.ptr b 0, .ptr a 0, .ptr d 0] [(d, .cells [.int .i64 0]), (b, .cells [.str [c]]), (a, .cells [.str s])] ((splitB c s).map fun p => [.str p]) := by
  intro Gl' hst hG id J Jx hJid hround H T hJ
  refine FSX.of hm hst is_stringssplitSeq1 (by simp) fun γ hγ hfr => ?_
  generalize hQ : (fun (ex : Ex) (_ _ : Nat) (s : St) => _) = Q
  unfold ir_stringssplitSeq1
  simp +contextual (maxSteps := 1000000) only [hab, had, hbd, (Ne.symm hab), (Ne.symm had), (Ne.symm hbd), go_sem, reduceCtorEq, ↓reduceIte, Nat.reduceAdd, Nat.reduceEqDiff, Nat.reduceLeDiff, Nat.reduceMul, Nat.reduceBEq, Int.reduceBEq, Int.reduceBNe, Int.reduceLT, Int.reduceLE, Int.reduceGT, Int.reduceGE, Int.reduceToNat, Int.natCast_one, Int.natCast_zero, Int.cast_ofNat_Int]
  -- j parts yielded, r left, the caller's part of the heap
  refine kLoop_ix (fun q : Nat × List UInt8 × Hp × Tk => ⟨lf [(0, .yl id), (1, .ptr b 0), (2, .ptr a 0), (3, .ptr d 0)], [(d, .cells [.int .i64 0]), (b, .cells [.str [c]]), (a, .cells [.str q.2.1])] ++ q.2.2.1, q.2.2.2⟩)
    (fun q => J q.1 q.2.2.1 q.2.2.2 ∧ q.2.1.length ≤ s.length ∧ ∃ done : List (List UInt8), done.length = q.1 ∧ splitB c s = done ++ splitB c q.2.1)
    (fun q => q.2.1.length) 0 (0, s, H, T) ?_ ?_ ?_
  · refine Wk.same ?_
    simp only [lfOK, upd, initF]
    repeat' first | exact AVle.refl _ _ | exact trivial | refine And.intro ?_ ?_
  · exact ⟨hJ, Nat.le_refl _, [], rfl, rfl⟩
  · rintro γ' ⟨j, r, Hj, Tj⟩ hf ⟨hJj, hrl, done, hdone, hsp⟩
    simp only at hJj hrl hdone hsp
    generalize hQ' : kIt _ _ _ _ _ = Q'
    have hap := hJid j Hj Tj hJj
    simp +contextual (maxSteps := 1000000) only [hab, had, hbd, (Ne.symm hab), (Ne.symm had), (Ne.symm hbd), go_sem, reduceCtorEq, ↓reduceIte, Nat.reduceAdd, Nat.reduceEqDiff, Nat.reduceLeDiff, Nat.reduceMul, Nat.reduceBEq, Int.reduceBEq, Int.reduceBNe, Int.reduceLT, Int.reduceLE, Int.reduceGT, Int.reduceGE, Int.reduceToNat, Int.natCast_one, Int.natCast_zero, Int.cast_ofNat_Int]
    refine CallP.pure fs_index (fun _ => rfl) ?_
    rw [splitB_eq c r] at hsp
    cases hix : idxB c r with
    | none =>
      rw [hix] at hsp
      simp only at hsp
      simp +contextual (maxSteps := 1000000) only [hab, had, hbd, (Ne.symm hab), (Ne.symm had), (Ne.symm hbd), go_sem, reduceCtorEq, ↓reduceIte, Nat.reduceAdd, Nat.reduceEqDiff, Nat.reduceLeDiff, Nat.reduceMul, Nat.reduceBEq, Int.reduceBEq, Int.reduceBNe, Int.reduceLT, Int.reduceLE, Int.reduceGT, Int.reduceGE, Int.reduceToNat, Int.natCast_one, Int.natCast_zero, Int.cast_ofNat_Int]
      rw [← hQ']
      simp +contextual (maxSteps := 1000000) only [hab, had, hbd, (Ne.symm hab), (Ne.symm had), (Ne.symm hbd), go_sem, reduceCtorEq, ↓reduceIte, Nat.reduceAdd, Nat.reduceEqDiff, Nat.reduceLeDiff, Nat.reduceMul, Nat.reduceBEq, Int.reduceBEq, Int.reduceBNe, Int.reduceLT, Int.reduceLE, Int.reduceGT, Int.reduceGE, Int.reduceToNat, Int.natCast_one, Int.natCast_zero, Int.cast_ofNat_Int]
      have hit : ((splitB c s).map fun p => [AV.str p])[j]? = some [.str r] := by
        rw [hsp, ← hdone]; simp
      have hlen : ((splitB c s).map fun p => [AV.str p]).length = j + 1 := by rw [hsp]; simp [hdone]
      refine CallY.splitT (Ha := [(d, .cells [.int .i64 0]), (b, .cells [.str [c]]), (a, .cells [.str r])]) (hround j _ Hj Tj hit hJj) (fun p hp q hq => ?_) fun rv H1 T1 hR => ?_
      · simp only [List.mem_cons, List.not_mem_nil, or_false] at hp
        rcases hp with rfl | rfl | rfl
        · exact hap _ (by simp) q hq
        · exact hap _ (List.mem_cons_of_mem _ List.mem_cons_self) q hq
        · exact hap _ (List.mem_cons_of_mem _ (List.mem_cons_of_mem _ List.mem_cons_self)) q hq
      · simp +contextual (maxSteps := 1000000) only [go_sem, reduceCtorEq, ↓reduceIte, Nat.reduceAdd, Nat.reduceEqDiff, Nat.reduceLeDiff, Nat.reduceMul, Nat.reduceBEq, Int.reduceBEq, Int.reduceBNe, Int.reduceLT, Int.reduceLE, Int.reduceGT, Int.reduceGE, Int.reduceToNat, Int.natCast_one, Int.natCast_zero, Int.cast_ofNat_Int]
        rw [← hQ]
        refine ⟨trivial, H1, T1, ?_, fun p hp => by simp [hp], fun t ht => ht⟩
        rw [hlen]
        rcases hR with ⟨_, h⟩ | ⟨_, h⟩
        · exact .inl h
        · exact .inr h
    | some i =>
      rw [hix] at hsp
      simp only at hsp
      have hil := idxB_lt hix
      have hd : decide ((i : Int) < 0) = false := by simp
      have hw : IntKind.i64.wrap ((i : Int) + 0) = i := by rw [IntKind.wrap_i64]; omega
      have hw2 : IntKind.i64.wrap ((i : Int) + 1) = ((i + 1 : Nat) : Int) := by rw [IntKind.wrap_i64]; omega
      simp +contextual (maxSteps := 1000000) only [hab, had, hbd, (Ne.symm hab), (Ne.symm had), (Ne.symm hbd), hd, hw, Int.toNat_natCast, Int.toNat_zero, go_sem, reduceCtorEq, ↓reduceIte, Nat.reduceAdd, Nat.reduceEqDiff, Nat.reduceLeDiff, Nat.reduceMul, Nat.reduceBEq, Int.reduceBEq, Int.reduceBNe, Int.reduceLT, Int.reduceLE, Int.reduceGT, Int.reduceGE, Int.reduceToNat, Int.natCast_one, Int.natCast_zero, Int.cast_ofNat_Int]
      refine ⟨⟨by omega, by omega⟩, ?_⟩
      have hit : ((splitB c s).map fun p => [AV.str p])[j]? = some [.str (r.take i)] := by
        rw [hsp, ← hdone]; simp
      refine CallY.splitT (Ha := [(d, .cells [.int .i64 0]), (b, .cells [.str [c]]), (a, .cells [.str r])]) (hround j _ Hj Tj hit hJj) (fun p hp q hq => ?_) fun rv H1 T1 hR => ?_
      · simp only [List.mem_cons, List.not_mem_nil, or_false] at hp
        rcases hp with rfl | rfl | rfl
        · exact hap _ (by simp) q hq
        · exact hap _ (List.mem_cons_of_mem _ List.mem_cons_self) q hq
        · exact hap _ (List.mem_cons_of_mem _ (List.mem_cons_of_mem _ List.mem_cons_self)) q hq
      · rcases hR with ⟨rfl, hR⟩ | ⟨rfl, hR⟩
        · have hs1 : ∀ hb, setH H1 a hb = H1 := fun hb => setH_ne fun q hq => hJid _ _ _ hR (a, .cells [.str s]) (by simp) q hq
          simp +contextual (maxSteps := 1000000) only [hab, had, hbd, (Ne.symm hab), (Ne.symm had), (Ne.symm hbd), hw2, hs1, Int.toNat_natCast, Int.toNat_zero, go_sem, reduceCtorEq, ↓reduceIte, Nat.reduceAdd, Nat.reduceEqDiff, Nat.reduceLeDiff, Nat.reduceMul, Nat.reduceBEq, Int.reduceBEq, Int.reduceBNe, Int.reduceLT, Int.reduceLE, Int.reduceGT, Int.reduceGE, Int.reduceToNat, Int.natCast_one, Int.natCast_zero, Int.cast_ofNat_Int]
          refine ⟨⟨by omega, by omega, by omega⟩, ?_⟩
          rw [← hQ']
          simp only [w_kIt_n, w_kBlk_n, w_kSeq_n]
          refine ⟨0, (j + 1, r.drop (i + 1), H1, T1), ?_, ⟨hR, by simp only [List.length_drop]; omega, done ++ [r.take i], by simp [hdone], by rw [hsp]; simp⟩, by simp only [List.length_drop]; omega⟩
          refine Wk.perm ?_ (fun p hp => ?_)
          · repeat' first | exact AVle.refl _ _ | exact trivial | refine And.intro ?_ ?_
          · simp only [List.take_length]
            exact hp
        · simp +contextual (maxSteps := 1000000) only [hab, had, hbd, (Ne.symm hab), (Ne.symm had), (Ne.symm hbd), go_sem, reduceCtorEq, ↓reduceIte, Nat.reduceAdd, Nat.reduceEqDiff, Nat.reduceLeDiff, Nat.reduceMul, Nat.reduceBEq, Int.reduceBEq, Int.reduceBNe, Int.reduceLT, Int.reduceLE, Int.reduceGT, Int.reduceGE, Int.reduceToNat, Int.natCast_one, Int.natCast_zero, Int.cast_ofNat_Int]
          rw [← hQ']
          simp +contextual (maxSteps := 1000000) only [go_sem, reduceCtorEq, ↓reduceIte, Nat.reduceAdd, Nat.reduceEqDiff, Nat.reduceLeDiff, Nat.reduceMul, Nat.reduceBEq, Int.reduceBEq, Int.reduceBNe, Int.reduceLT, Int.reduceLE, Int.reduceGT, Int.reduceGE, Int.reduceToNat, Int.natCast_one, Int.natCast_zero, Int.cast_ofNat_Int]
          rw [← hQ]
          exact ⟨trivial, H1, T1, .inr hR, fun p hp => by simp [hp], fun t ht => ht⟩

/-- The iterator's own variables. -/
def hpSplit (s : List UInt8) (c : UInt8) (a b d : Nm) : Hp := [(d, .cells [.int .i64 0]), (b, .cells [.str [c]]), (a, .cells [.str s])]
theorem fs_splitSeq0 {Gl : Gh → Prop} (hst : Stays Gl) {s : List UInt8} {c : UInt8} : FS Tryd.prog Gl 38 [.str s, .str [c], .int .i64 0] [] [] (.fn (.func 47) [] [.ptr (0, 0, 1) 0, .ptr (0, 0, 0) 0, .ptr (0, 0, 2) 0]) (hpSplit s c (0, 0, 0) (0, 0, 1) (0, 0, 2)) [] := by
  refine FS.of hm hst is_stringssplitSeq (by simp) fun γ hγ hfr => ?_
  generalize hQ : (fun (ex : Ex) (_ _ : Nat) (s : St) => _) = Q
  unfold ir_stringssplitSeq
  simp +contextual (maxSteps := 1000000) only [go_sem, reduceCtorEq, ↓reduceIte, Nat.reduceAdd, Nat.reduceEqDiff, Nat.reduceLeDiff, Nat.reduceMul, Nat.reduceBEq, Int.reduceBEq, Int.reduceBNe, Int.reduceLT, Int.reduceLE, Int.reduceGT, Int.reduceGE, Int.reduceToNat, Int.natCast_one, Int.natCast_zero, Int.cast_ofNat_Int]
  rw [← hQ]
  refine ⟨trivial, [(γ, 0, 0), (γ, 1, 0), (γ, 2, 0)], by simp, by simp, rfl, ?_, by simp, ?_, ?_, by simp⟩
  · simp [rnH, hpSplit, rnN, rnHB, rnL, Ab.rn]
  · simp [AV.okIn, AV.okInL, nmOK]
  · simp [hpSplit, AV.okIn, AV.okInL, nmOK, HB.okIn]
theorem fs_SplitSeq {Gl : Gh → Prop} (hst : Stays Gl) {s : List UInt8} {c : UInt8} : FS Tryd.prog Gl 31 [.str s, .str [c]] [] [] (.fn (.func 47) [] [.ptr (0, 0, 1) 0, .ptr (0, 0, 0) 0, .ptr (0, 0, 2) 0]) (hpSplit s c (0, 0, 0) (0, 0, 1) (0, 0, 2)) [] := by
  refine FS.of hm hst is_stringsSplitSeq (by simp) fun γ hγ hfr => ?_
  generalize hQ : (fun (ex : Ex) (_ _ : Nat) (s : St) => _) = Q
  unfold ir_stringsSplitSeq
  simp +contextual (maxSteps := 1000000) only [go_sem, reduceCtorEq, ↓reduceIte, Nat.reduceAdd, Nat.reduceEqDiff, Nat.reduceLeDiff, Nat.reduceMul, Nat.reduceBEq, Int.reduceBEq, Int.reduceBNe, Int.reduceLT, Int.reduceLE, Int.reduceGT, Int.reduceGE, Int.reduceToNat, Int.natCast_one, Int.natCast_zero, Int.cast_ofNat_Int]
  refine CallP.of (fs_splitSeq0 hst) (by simp) (by simp) ?_
  simp only [rnH, hpSplit, rnN, rnHB, rnL, Ab.rn]
  simp +contextual (maxSteps := 1000000) only [go_sem, reduceCtorEq, ↓reduceIte, Nat.reduceAdd, Nat.reduceEqDiff, Nat.reduceLeDiff, Nat.reduceMul, Nat.reduceBEq, Int.reduceBEq, Int.reduceBNe, Int.reduceLT, Int.reduceLE, Int.reduceGT, Int.reduceGE, Int.reduceToNat, Int.natCast_one, Int.natCast_zero, Int.cast_ofNat_Int]
  rw [← hQ]
  refine ⟨trivial, [(γ, 3, 0), (γ, 3, 1), (γ, 3, 2)], by simp, by simp, rfl, ?_, by simp, ?_, ?_, by simp⟩
  · simp [rnH, hpSplit, rnN, rnHB, rnL, Ab.rn]
  · simp [AV.okIn, AV.okInL, nmOK]
  · simp [hpSplit, AV.okIn, AV.okInL, nmOK, HB.okIn]
end Go.Proofs.YtgdgfefojfgpaaaDoor
