/- The parser's parts of a parameter. -/
import Derived.Test.YtgdgfefojfgpaaaDoorA8
set_option linter.unusedVariables false
set_option linter.unusedSimpArgs false
set_option maxRecDepth 100000
namespace Go.Proofs.YtgdgfefojfgpaaaDoor
open Go Go.Ab
/-- clavier/host.parts -/
def ir_hostparts : ICode :=
 (.seq
  (.reg [⟨some 2, none, .mov (.c .nils)⟩] (some [0, 2]))
  (.seq
   (.reg [⟨some 3, none, .box 39 (.c .nils)⟩] (some [0, 2, 3]))
   (.seq
    (.seq
     (.reg [⟨some 7, none, .mov (.t 0)⟩,
       ⟨some 8, none, .call (.c (.fn (.func 31) [] [])) [(.t 7), (.c (.str [58]))]⟩] (some [2, 3, 8]))
     (.blk 0
      (.rgf (.t 8) [9]
       (.reg [⟨some 4, none, .mov (.t 9)⟩] (some [3, 4]))
       (.blk 1
        (.seq
         (.reg [⟨some 11, none, .mov (.t 4)⟩,
           ⟨some 12, none, .s2b 5 (.t 11)⟩,
           ⟨some 13, none, .call (.c (.fn (.func 39) [] [])) [(.t 12)]⟩,
           ⟨some 10, none, .mov (.t 13)⟩,
           ⟨some 14, none, .ext (.t 10) 0⟩,
           ⟨some 15, none, .ext (.t 10) 1⟩,
           ⟨some 5, none, .mov (.t 14)⟩,
           ⟨some 6, none, .mov (.t 15)⟩] (some [3, 5, 6]))
         (.seq
          (.seq
           (.reg [⟨some 16, none, .mov (.t 6)⟩,
             ⟨some 17, none, .bin .eql .none (.t 16) (.c (.int .i64 0))⟩] (some [3, 5, 17]))
           (.cond (.t 17)
            (.reg [⟨some 5, none, .mov (.c (.int .i64 (-1)))⟩] (some [3, 5]))
            .skip))
          (.reg [⟨some 18, none, .ld none (.t 3)⟩,
            ⟨some 19, none, .mov (.t 5)⟩,
            ⟨some 20, none, .mm true (.t 19) (.c (.int .i64 65535))⟩,
            ⟨some 21, none, .row 3 1 [(.t 20)]⟩,
            ⟨some 22, none, .app 3 1 8 (.t 18) (.t 21)⟩,
            ⟨none, none, .st 1 (.t 3) (.t 22)⟩] (some []))))))))
    (.seq
     (.reg [⟨some 23, none, .ld none (.t 3)⟩,
       ⟨some 2, none, .mov (.t 23)⟩] (some [2]))
     .ret))))
theorem is_hostparts : IrOf Tryd.prog 32 24 ir_hostparts [.t 2] := ⟨_, Tryd.func32, rfl, by kernel_rfl, by kernel_rfl, by kernel_rfl⟩


theorem splitB_mem_len {c : UInt8} : ∀ {l : List UInt8} {p : List UInt8}, p ∈ splitB c l → p.length ≤ l.length
  | [], p, h => by simp [splitB] at h; simp [h]
  | d :: l, p, h => by
    simp only [splitB] at h
    split at h
    · rcases List.mem_cons.1 h with rfl | h
      · simp
      · have := splitB_mem_len h; simp; omega
    · split at h
      · rename_i q qs e
        rcases List.mem_cons.1 h with rfl | h
        · have := splitB_mem_len (c := c) (l := l) (p := q) (by rw [e]; simp); simp; omega
        · have := splitB_mem_len (c := c) (l := l) (p := p) (by rw [e]; simp [h]); simp; omega
      · simp at h; simp [h]
theorem splitB_len {c : UInt8} : ∀ {l : List UInt8}, (splitB c l).length ≤ l.length + 1
  | [] => by simp [splitB]
  | d :: l => by
    have ih := splitB_len (c := c) (l := l)
    simp only [splitB]
    split
    · simp; omega
    · split
      · rename_i q qs e; rw [e] at ih; simp at ih ⊢; omega
      · simp

/-- A parameter's part. -/
def hostPart (p : List UInt8) : Int := min (if (takeN p 0 0).2 = 0 then -1 else ((takeN p 0 0).1 : Int)) 65535
def hostParts (t : List UInt8) : List Int := (splitB 58 t).map hostPart
theorem takeN_le : ∀ (l : List UInt8) (n k : Nat), n ≤ 1114111 → (takeN l n k).1 ≤ 1114111
  | [], n, k, h => h
  | c :: l, n, k, h => by
    simp only [takeN]
    split
    · exact takeN_le l _ _ (by omega)
    · exact h

theorem fs_parts {Gl : Gh → Prop} (hst : Stays Gl) {t : List UInt8} (ht : t.length < 4294967281) : FS Tryd.prog Gl 32 [.str t] [] [] (.sl (some (0, 0, 0)) 1 (intsAV (hostParts t))) [] [(0, 0, 0)] := by
  refine FS.of hm hst is_hostparts (by simp) fun γ hγ hfr => ?_
  generalize hQ : (fun (ex : Ex) (_ _ : Nat) (s : St) => _) = Q
  unfold ir_hostparts
  simp +contextual (maxSteps := 1000000) only [go_sem, reduceCtorEq, ↓reduceIte, Nat.reduceAdd, Nat.reduceEqDiff, Nat.reduceLeDiff, Nat.reduceMul, Nat.reduceBEq, Int.reduceBEq, Int.reduceBNe, Int.reduceLT, Int.reduceLE, Int.reduceGT, Int.reduceGE, Int.reduceToNat, Int.natCast_one, Int.natCast_zero, Int.cast_ofNat_Int]
  refine CallP.of (fs_SplitSeq hst) (by simp) (by simp) ?_
  simp only [rnH, hpSplit, rnN, rnHB, rnL, Ab.rn]
  simp +contextual (maxSteps := 1000000) only [go_sem, reduceCtorEq, ↓reduceIte, Nat.reduceAdd, Nat.reduceEqDiff, Nat.reduceLeDiff, Nat.reduceMul, Nat.reduceBEq, Int.reduceBEq, Int.reduceBNe, Int.reduceLT, Int.reduceLE, Int.reduceGT, Int.reduceGE, Int.reduceToNat, Int.natCast_one, Int.natCast_zero, Int.cast_ofNat_Int]
  -- i parts are told
  refine rgf_of rfl ((splitB 58 t).map fun p => [.str p])
    (fun i H T => ∃ tk : Option Nm, (tk = none → i = 0) ∧ (∀ x, tk = some x → γ ≤ x.1 ∧ T x) ∧ H = [((γ, 1, 0), .cells [sv tk 1 (intsAV (((splitB 58 t).take i).map hostPart))])])
    (fun _ _ _ => False) (hpSplit t 58 (γ, 3, 0) (γ, 3, 1) (γ, 3, 2)) [((γ, 1, 0), .cells [.nils])] (fun _ => False)
    (it_split (by simp) (by simp) (by simp) ht) (by simp [hpSplit, rnL, Ab.rn]) (by simp [hpSplit]) (by simp) (by simp) ⟨none, by simp, by simp, rfl⟩ (by simp) ?_ ?_ (fun _ _ _ h => h.elim)
  · rintro Gl' hst' hG i x H T γ' hx ⟨tk, hk1, hk2, rfl⟩ hlt hfr'
    simp only [List.getElem?_map, Option.map_eq_some_iff] at hx
    obtain ⟨p, hp, rfl⟩ := hx
    have hpm : p ∈ splitB 58 t := List.mem_of_getElem? hp
    have hpl := splitB_mem_len hpm
    have hil : i < (splitB 58 t).length := (List.getElem?_eq_some_iff.1 hp).1
    have hsl := splitB_len (c := 58) (l := t)
    generalize hK : kBd _ _ _ = K
    simp +contextual (maxSteps := 1000000) only [go_sem, reduceCtorEq, ↓reduceIte, Nat.reduceAdd, Nat.reduceEqDiff, Nat.reduceLeDiff, Nat.reduceMul, Nat.reduceBEq, Int.reduceBEq, Int.reduceBNe, Int.reduceLT, Int.reduceLE, Int.reduceGT, Int.reduceGE, Int.reduceToNat, Int.natCast_one, Int.natCast_zero, Int.cast_ofNat_Int]
    refine ⟨by simp only [maxLen]; omega, CallP.pure (fs_take hst' (by omega)) (fun _ => rfl) ?_⟩
    have hle := takeN_le p 0 0 (by omega)
    have htk : (splitB 58 t).take (i + 1) = (splitB 58 t).take i ++ [p] := by rw [List.take_add_one, hp]; rfl
    have hln : (intsAV (((splitB 58 t).take i).map hostPart)).length ≤ t.length + 1 := by simp [intsAV]; omega
    have hpt : ∀ k : Nat, (takeN p 0 0).2 = k → hostPart p = (if 65535 < (if k = 0 then -1 else ((takeN p 0 0).1 : Int)) then 65535 else (if k = 0 then -1 else ((takeN p 0 0).1 : Int))) := fun k hk => by
      unfold hostPart; rw [hk]; split <;> split <;> omega
    have fin : ∀ (t' : Option Nm) (tk' : Nm) (H' : Hp) (T' : Tk), H' = [((γ, 1, 0), .cells [.sl (some tk') 1 (intsAV (((splitB 58 t).take i).map hostPart) ++ [[.int .i64 (hostPart p)]])])] → γ ≤ tk'.1 → T' tk' →
        ∀ γ c F, K .normal γ c ⟨F, H', T'⟩ := by
      rintro t' tk' H' T' rfl h1 h2 γ c F
      rw [← hK]
      refine ⟨some tk', by simp, fun x hx => by cases hx; exact ⟨h1, h2⟩, ?_⟩
      rw [htk]
      simp [intsAV, sv]
    have hw1 : AV.closedL [AV.int IntKind.i64 (hostPart p)] = true := rfl
    by_cases hk : (takeN p 0 0).2 = 0
    · have hkd : (((takeN p 0 0).2 : Int) == 0) = true := by simp [hk]
      have hpt := hpt 0 hk
      have hpt : hostPart p = -1 := by rw [hpt]; simp
      cases tk with
      | none =>
        obtain rfl := hk1 rfl
        simp +contextual (maxSteps := 1000000) only [hkd, go_sem, reduceCtorEq, ↓reduceIte, Nat.reduceAdd, Nat.reduceEqDiff, Nat.reduceLeDiff, Nat.reduceMul, Nat.reduceBEq, Int.reduceBEq, Int.reduceBNe, Int.reduceLT, Int.reduceLE, Int.reduceGT, Int.reduceGE, Int.reduceToNat, Int.natCast_one, Int.natCast_zero, Int.cast_ofNat_Int]
        exact fin none _ _ _ (by rw [hpt]; try rfl) (by simp only; omega) (.inl rfl) _ _ _
      | some t0 =>
        simp +contextual (maxSteps := 1000000) only [hkd, go_sem, reduceCtorEq, ↓reduceIte, Nat.reduceAdd, Nat.reduceEqDiff, Nat.reduceLeDiff, Nat.reduceMul, Nat.reduceBEq, Int.reduceBEq, Int.reduceBNe, Int.reduceLT, Int.reduceLE, Int.reduceGT, Int.reduceGE, Int.reduceToNat, Int.natCast_one, Int.natCast_zero, Int.cast_ofNat_Int]
        refine ⟨⟨.inr (hk2 t0 rfl).2, by omega⟩, fin none _ _ _ (by rw [hpt]; try rfl) (by simp only; omega) (.inl rfl) _ _ _⟩
    · have hkd : (((takeN p 0 0).2 : Int) == 0) = false := by simp [hk]
      have hpt := hpt _ rfl
      simp only [if_neg hk] at hpt
      cases tk with
      | none =>
        obtain rfl := hk1 rfl
        simp +contextual (maxSteps := 1000000) only [hkd, hpt.symm, go_sem, reduceCtorEq, ↓reduceIte, Nat.reduceAdd, Nat.reduceEqDiff, Nat.reduceLeDiff, Nat.reduceMul, Nat.reduceBEq, Int.reduceBEq, Int.reduceBNe, Int.reduceLT, Int.reduceLE, Int.reduceGT, Int.reduceGE, Int.reduceToNat, Int.natCast_one, Int.natCast_zero, Int.cast_ofNat_Int]
        exact fin none _ _ _ rfl (by omega) (.inl rfl) _ _ _
      | some t0 =>
        simp +contextual (maxSteps := 1000000) only [hkd, hpt.symm, go_sem, reduceCtorEq, ↓reduceIte, Nat.reduceAdd, Nat.reduceEqDiff, Nat.reduceLeDiff, Nat.reduceMul, Nat.reduceBEq, Int.reduceBEq, Int.reduceBNe, Int.reduceLT, Int.reduceLE, Int.reduceGT, Int.reduceGE, Int.reduceToNat, Int.natCast_one, Int.natCast_zero, Int.cast_ofNat_Int]
        refine ⟨⟨.inr (hk2 t0 rfl).2, by omega⟩, fin none _ _ _ rfl (by omega) (.inl rfl) _ _ _⟩
  · rintro H1 T1 ⟨tk, hk1, hk2, rfl⟩
    refine ⟨_, T1, fun p hp => List.mem_append.2 (.inl hp), fun _ h => .inl h, ?_⟩
    have hlen : ((splitB 58 t).map fun p => [AV.str p]).length = (splitB 58 t).length := by simp
    rw [hlen] at hk1 ⊢
    rw [List.take_length]
    cases tk with
    | none => exact absurd (List.length_eq_zero_iff.1 (hk1 rfl)) (splitB_ne _ _)
    | some t0 =>
      simp +contextual (maxSteps := 1000000) only [go_sem, reduceCtorEq, ↓reduceIte, Nat.reduceAdd, Nat.reduceEqDiff, Nat.reduceLeDiff, Nat.reduceMul, Nat.reduceBEq, Int.reduceBEq, Int.reduceBNe, Int.reduceLT, Int.reduceLE, Int.reduceGT, Int.reduceGE, Int.reduceToNat, Int.natCast_one, Int.natCast_zero, Int.cast_ofNat_Int]
      rw [← hQ]
      refine ⟨trivial, [t0], by simp, by simpa using (hk2 t0 rfl).1, rfl, by simp [rnH], ?_, ?_, by simp, ?_⟩
      · intro x hx
        simp at hx
        subst hx
        simpa [rnN] using (hk2 t0 rfl).2
      · simp [AV.okIn, nmOK]
      · simp [nmOK]
end Go.Proofs.YtgdgfefojfgpaaaDoor
