/- The parser of layer 5: what was begun is told, all. -/
import Derived.Test.YtgdgfefojfgpaaaDoorB3
set_option linter.unusedVariables false
set_option linter.unusedSimpArgs false
set_option maxRecDepth 100000
namespace Go.Proofs.YtgdgfefojfgpaaaDoor
open Go Go.Ab

theorem pv_ne {l : List (List Int)} (h : l ≠ []) : pv l = parsV l := by
  cases l with
  | nil => exact absurd rfl h
  | cons _ _ => rfl
theorem aw_tell2 {Gl : Gh → Prop} (hst : Stays Gl) {p : Nm} {γ : Nat} (hp : 1 ≤ p.1) (hγ : 1 ≤ γ) (hbp : ((γ, 4, 0) : Nm) ≠ p) (hpγ : p.1 ≠ γ) {x : Pp} {tt dt ot : Option Nm} (hok : (⟨x, tt, dt, ot⟩ : Ps).ok) (ht : ∀ t ∈ (⟨x, tt, dt, ot⟩ : Ps).toks, 1 ≤ t.1 ∧ t.1 ≠ γ) (hz : x.sz)
    {F : Nat → AV} {T : Tk} {Q : Ex → Nat → Nat → St → Prop} (h0 : F 0 = .ptr p 0) (h2 : F 2 = .ptr (γ, 4, 0) 0) (hT : ∀ t ∈ (⟨x, tt, dt, ot⟩ : Ps).toks, T t)
    (hQ : ∀ (s' : Ps) (γ' c : Nat) (F : Nat → AV) (H : Hp), s'.x = x.tell → s'.ok → (p, .cells s'.c) ∈ H → (∀ t ∈ s'.toks, 1 ≤ t.1 ∧ (t ∈ (⟨x, tt, dt, ot⟩ : Ps).toks ∨ t.1 = γ)) → Q .normal γ' c ⟨F, H, (· ∈ s'.toks)⟩) :
    aw Tryd.prog Gl ir_hostParsertell_t2 γ 13 ⟨F, [((γ, 4, 0), .cells [.int .i64 x.k, .int .u8 x.pr, .nils, .str x.it, .int .u8 x.fi, .str x.da]), (p, .cells (⟨x, tt, dt, ot⟩ : Ps).c)], T⟩ Q := by
  have h3 := fun (v : AV) (v1 : v.cells = [v]) (v2 : v.one = true) (v3 : v.strip = pv x.seq.ps) (v5 : RepLe v (parsV x.seq.ps)) (c : Nat) (F : Nat → AV) (T : Tk) (h0 : F 0 = .ptr p 0) (h2 : F 2 = .ptr (γ, 4, 0) 0) (hT : ∀ t ∈ (⟨x, tt, dt, ot⟩ : Ps).toks, T t) =>
    aw_tell3 (s := ⟨x, tt, dt, ot⟩) hst hp hbp hok (fun t h => (ht t h).1) hz v1 v2 v3 v5 (c := c) hγ (fun t h i j _ e => (ht t h).2 (by rw [e])) h0 h2 hT hQ
  unfold ir_hostParsertell_t2
  simp only [Ps.c] at h3 ⊢
  have hseq : ∀ l, x.tx = l → x.seq.ps = if l = [] then [] else (splitB 59 l).map hostParts := fun l h => by rw [← h]; rfl
  cases tt with
  | none =>
    have hx := hok.t rfl
    simp +contextual (maxSteps := 1000000) only [hbp, (Ne.symm hbp), h0, h2, go_sem, reduceCtorEq, ↓reduceIte, Nat.reduceAdd, Nat.reduceEqDiff, Nat.reduceLeDiff, Nat.reduceMul, Nat.reduceBEq, Int.reduceBEq, Int.reduceBNe, Int.reduceLT, Int.reduceLE, Int.reduceGT, Int.reduceGE, Int.reduceToNat, Int.natCast_one, Int.natCast_zero, Int.cast_ofNat_Int]
    have hps : x.seq.ps = [] := by rw [hseq _ hx]; rfl
    rw [hps] at h3
    exact h3 .nils rfl rfl rfl (RepLe.nils 1) _ _ T rfl rfl hT
  | some t1 =>
    simp +contextual (maxSteps := 1000000) only [hbp, (Ne.symm hbp), h0, h2, bytes_is, bytes_un, go_sem, reduceCtorEq, ↓reduceIte, Nat.reduceAdd, Nat.reduceEqDiff, Nat.reduceLeDiff, Nat.reduceMul, Nat.reduceBEq, Int.reduceBEq, Int.reduceBNe, Int.reduceLT, Int.reduceLE, Int.reduceGT, Int.reduceGE, Int.reduceToNat, Int.natCast_one, Int.natCast_zero, Int.cast_ofNat_Int]
    cases hx : decide (x.tx = []) with
    | true =>
      have hx0 : x.tx = [] := by simpa using hx
      have hps : x.seq.ps = [] := by rw [hseq _ hx0]; rfl
      rw [hps] at h3
      simp +contextual (maxSteps := 1000000) only [go_sem, reduceCtorEq, ↓reduceIte, Nat.reduceAdd, Nat.reduceEqDiff, Nat.reduceLeDiff, Nat.reduceMul, Nat.reduceBEq, Int.reduceBEq, Int.reduceBNe, Int.reduceLT, Int.reduceLE, Int.reduceGT, Int.reduceGE, Int.reduceToNat, Int.natCast_one, Int.natCast_zero, Int.cast_ofNat_Int]
      exact h3 .nils rfl rfl rfl (RepLe.nils 1) _ _ T rfl rfl hT
    | false =>
      have hx0 : x.tx ≠ [] := by simpa using hx
      have hps : x.seq.ps = (splitB 59 x.tx).map hostParts := by rw [hseq _ rfl, if_neg hx0]
      rw [hps] at h3
      have hne := splitB_ne 59 x.tx
      have htx := hz.tx
      simp +contextual (maxSteps := 1000000) only [go_sem, reduceCtorEq, ↓reduceIte, Nat.reduceAdd, Nat.reduceEqDiff, Nat.reduceLeDiff, Nat.reduceMul, Nat.reduceBEq, Int.reduceBEq, Int.reduceBNe, Int.reduceLT, Int.reduceLE, Int.reduceGT, Int.reduceGE, Int.reduceToNat, Int.natCast_one, Int.natCast_zero, Int.cast_ofNat_Int]
      refine CallP.of (fs_SplitSeq hst) (by simp) (by simp) ?_
      simp only [rnH, hpSplit, rnN, rnHB, rnL, Ab.rn]
      simp +contextual (maxSteps := 1000000) only [go_sem, reduceCtorEq, ↓reduceIte, Nat.reduceAdd, Nat.reduceEqDiff, Nat.reduceLeDiff, Nat.reduceMul, Nat.reduceBEq, Int.reduceBEq, Int.reduceBNe, Int.reduceLT, Int.reduceLE, Int.reduceGT, Int.reduceGE, Int.reduceToNat, Int.natCast_one, Int.natCast_zero, Int.cast_ofNat_Int]
      refine rgf_of rfl ((splitB 59 x.tx).map fun p => [.str p])
        (fun i H T => ∃ tk : Option Nm, (tk = none → i = 0) ∧ (∀ x, tk = some x → T x) ∧ H = [((γ, 4, 0), .cells [.int .i64 x.k, .int .u8 x.pr, sv tk 1 (parsAV (((splitB 59 x.tx).take i).map hostParts)), .str x.it, .int .u8 x.fi, .str x.da])])
        (fun _ _ _ => False) (hpSplit x.tx 59 (γ, 22, 0) (γ, 22, 1) (γ, 22, 2)) [((γ, 4, 0), .cells [.int .i64 x.k, .int .u8 x.pr, .nils, .str x.it, .int .u8 x.fi, .str x.da])] (fun _ => False)
        (it_split (by simp) (by simp) (by simp) htx) (by simp [hpSplit, rnL, Ab.rn]) (by simp [hpSplit]) (by simp) (by simp) ⟨none, by simp, by simp, rfl⟩ (by simp) ?_ ?_ (fun _ _ _ h => h.elim)
      · rintro Gl' hst' hG i w H T' γ' hw ⟨tk, hk1, hk2, rfl⟩ hlt hfr'
        simp only [List.getElem?_map, Option.map_eq_some_iff] at hw
        obtain ⟨q, hq, rfl⟩ := hw
        have hql := splitB_mem_len (List.mem_of_getElem? hq)
        have hil : i < (splitB 59 x.tx).length := (List.getElem?_eq_some_iff.1 hq).1
        have hsl := splitB_len (c := 59) (l := x.tx)
        have htk : (splitB 59 x.tx).take (i + 1) = (splitB 59 x.tx).take i ++ [q] := by rw [List.take_add_one, hq]; rfl
        have hln : (parsAV (((splitB 59 x.tx).take i).map hostParts)).length ≤ x.tx.length + 1 := by simp [parsAV]; omega
        generalize hK : kBd _ _ _ = K
        have fin : ∀ (tk' : Nm) (H' : Hp) (T'' : Tk), H' = [((γ, 4, 0), .cells [.int .i64 x.k, .int .u8 x.pr, .sl (some tk') 1 (parsAV (((splitB 59 x.tx).take i).map hostParts) ++ [[intsV (hostParts q)]]), .str x.it, .int .u8 x.fi, .str x.da])] → T'' tk' → ∀ c F, K .normal γ' c ⟨F, H', T''⟩ := by
          rintro tk' H' T'' rfl h1 c F
          rw [← hK]
          refine ⟨some tk', by simp, fun x hx => by cases hx; exact h1, ?_⟩
          rw [htk]
          simp [parsAV, sv]
        have hf24 : (((parsAV (((splitB 59 x.tx).take i).map hostParts)).length + 1) * 24 ≤ 140737488355328) = True := by simp only [eq_iff_iff, iff_true]; omega
        unfold ir_hostParsertell_b0
        simp +contextual (maxSteps := 1000000) only [go_sem, reduceCtorEq, ↓reduceIte, Nat.reduceAdd, Nat.reduceEqDiff, Nat.reduceLeDiff, Nat.reduceMul, Nat.reduceBEq, Int.reduceBEq, Int.reduceBNe, Int.reduceLT, Int.reduceLE, Int.reduceGT, Int.reduceGE, Int.reduceToNat, Int.natCast_one, Int.natCast_zero, Int.cast_ofNat_Int]
        refine DCall.new (fs_parts hst' (by omega)) ?_
        cases tk with
        | none =>
          obtain rfl := hk1 rfl
          simp +contextual (maxSteps := 1000000) only [List.take_zero, List.map_nil, go_sem, reduceCtorEq, ↓reduceIte, Nat.reduceAdd, Nat.reduceEqDiff, Nat.reduceLeDiff, Nat.reduceMul, Nat.reduceBEq, Int.reduceBEq, Int.reduceBNe, Int.reduceLT, Int.reduceLE, Int.reduceGT, Int.reduceGE, Int.reduceToNat, Int.natCast_one, Int.natCast_zero, Int.cast_ofNat_Int]
          exact fin _ _ _ rfl (by simp) _ _
        | some t0 =>
          simp +contextual (maxSteps := 1000000) only [hf24, go_sem, reduceCtorEq, ↓reduceIte, Nat.reduceAdd, Nat.reduceEqDiff, Nat.reduceLeDiff, Nat.reduceMul, Nat.reduceBEq, Int.reduceBEq, Int.reduceBNe, Int.reduceLT, Int.reduceLE, Int.reduceGT, Int.reduceGE, Int.reduceToNat, Int.natCast_one, Int.natCast_zero, Int.cast_ofNat_Int]
          refine ⟨.inl (hk2 t0 rfl), by simp, ?_⟩
          refine fin _ _ _ rfl ⟨by simp, fun e => ?_⟩ _ _
          exact hfr'.2 t0 (hk2 t0 rfl) (by rw [← e])
      · rintro H1 T1 ⟨tk, hk1, hk2, rfl⟩
        have hlen : ((splitB 59 x.tx).map fun p => [AV.str p]).length = (splitB 59 x.tx).length := by simp
        rw [hlen] at hk1 ⊢
        rw [List.take_length]
        cases tk with
        | none => exact absurd (List.length_eq_zero_iff.1 (hk1 rfl)) hne
        | some t0 =>
          refine ⟨[((γ, 4, 0), .cells [.int .i64 x.k, .int .u8 x.pr, .sl (some t0) 1 (parsAV ((splitB 59 x.tx).map hostParts)), .str x.it, .int .u8 x.fi, .str x.da]), (p, .cells (⟨x, some t1, dt, ot⟩ : Ps).c)], T, fun u hu => ?_, fun t h => .inr ⟨?_, fun h => h⟩, ?_⟩
          · have hh : ∀ i j, ((γ, i, j) : Nm) ≠ p := fun i j e => hpγ (by rw [← e])
            simp only [List.mem_cons, List.not_mem_nil, or_false] at hu
            rcases hu with rfl | rfl
            · exact List.mem_append.2 (.inl (by simp [sv]))
            · refine List.mem_append.2 (.inr (List.mem_filter.2 ⟨?_, ?_⟩))
              · simp [Ps.c, sv]
              · simp [hpSplit, hh]
          · simpa using h
          · simp only [Ps.c]
            simp +contextual (maxSteps := 1000000) only [go_sem, reduceCtorEq, ↓reduceIte, Nat.reduceAdd, Nat.reduceEqDiff, Nat.reduceLeDiff, Nat.reduceMul, Nat.reduceBEq, Int.reduceBEq, Int.reduceBNe, Int.reduceLT, Int.reduceLE, Int.reduceGT, Int.reduceGE, Int.reduceToNat, Int.natCast_one, Int.natCast_zero, Int.cast_ofNat_Int]
            exact h3 (.sl (some t0) 1 (parsAV ((splitB 59 x.tx).map hostParts))) rfl rfl (pv_ne (by simpa using hne)).symm (RepLe.anon _ _ _) _ _ T rfl rfl hT

theorem fs_tell {Gl : Gh → Prop} (hst : Stays Gl) {p : Nm} (hp : 1 ≤ p.1) {s : Ps} (hok : s.ok) (ht : ∀ t ∈ s.toks, 1 ≤ t.1) (hz : s.x.sz) : FSR Tryd.prog Gl 27 [.ptr p 0] [(p, .cells s.c)] s.toks (PR p s.toks (.tup []) s.x.tell) := by
  refine FSR.of hm hst is_hostParsertell (by simp) fun γ hγ hfr => ?_
  have hpγ : p.1 ≠ γ := hfr.1 _ List.mem_cons_self
  have hbp : ((γ, 4, 0) : Nm) ≠ p := fun e => hpγ (by rw [← e])
  have htγ : ∀ t ∈ s.toks, 1 ≤ t.1 ∧ t.1 ≠ γ := fun t h => ⟨ht t h, hfr.2 t h⟩
  clear hfr
  (generalize hQ : (fun (ex : Ex) (_ _ : Nat) (s : St) => _) = Q; unfold ir_hostParsertell)
  obtain ⟨x, tt, dt, ot⟩ := s
  have h2 := fun (F : Nat → AV) (h0 : F 0 = .ptr p 0) (h2 : F 2 = .ptr (γ, 4, 0) 0) => aw_tell2 (Q := Q) (T := (· ∈ (⟨x, tt, dt, ot⟩ : Ps).toks)) hst hp hγ hbp hpγ hok htγ hz h0 h2 (fun _ h => h) fun s' γ' c F H q1 q2 q3 q4 => by
    rw [← hQ, ← q1]
    exact ⟨trivial, PR.ret s' rfl (fun _ => rfl) (fun _ _ _ => trivial) hp ht q3 q2 fun t h => ⟨h, (q4 t h).2.imp _root_.id fun e => Nat.le_of_eq e.symm⟩⟩
  simp only [Ps.c] at h2 ⊢
  simp +contextual (maxSteps := 1000000) only [hbp, (Ne.symm hbp), go_sem, reduceCtorEq, ↓reduceIte, Nat.reduceAdd, Nat.reduceEqDiff, Nat.reduceLeDiff, Nat.reduceMul, Nat.reduceBEq, Int.reduceBEq, Int.reduceBNe, Int.reduceLT, Int.reduceLE, Int.reduceGT, Int.reduceGE, Int.reduceToNat, Int.natCast_one, Int.natCast_zero, Int.cast_ofNat_Int]
  unfold ir_hostParsertell_t1
  cases dt with
  | none =>
    have hd := hok.d rfl
    simp only at hd
    simp +contextual (maxSteps := 1000000) only [hbp, (Ne.symm hbp), go_sem, reduceCtorEq, ↓reduceIte, Nat.reduceAdd, Nat.reduceEqDiff, Nat.reduceLeDiff, Nat.reduceMul, Nat.reduceBEq, Int.reduceBEq, Int.reduceBNe, Int.reduceLT, Int.reduceLE, Int.reduceGT, Int.reduceGE, Int.reduceToNat, Int.natCast_one, Int.natCast_zero, Int.cast_ofNat_Int]
    rw [hd] at h2
    exact h2 _ rfl rfl
  | some d1 =>
    simp +contextual (maxSteps := 1000000) only [hbp, (Ne.symm hbp), bytes_is, bytes_un, go_sem, reduceCtorEq, ↓reduceIte, Nat.reduceAdd, Nat.reduceEqDiff, Nat.reduceLeDiff, Nat.reduceMul, Nat.reduceBEq, Int.reduceBEq, Int.reduceBNe, Int.reduceLT, Int.reduceLE, Int.reduceGT, Int.reduceGE, Int.reduceToNat, Int.natCast_one, Int.natCast_zero, Int.cast_ofNat_Int]
    exact h2 _ rfl rfl
end Go.Proofs.YtgdgfefojfgpaaaDoor
