/- Part 2 of 3 of a proof: the given statement HostTells, whatever the input that its row lets in. Conditions: those of the given row and card alone. -/
import Derived.Test.YtgdgfefojfgpaaaDoorMHostTells1
import Derived.Test.YtgdgfefojfgpaaaDoorAb13
import Derived.WalkKit
import Derived.ProofKit
import Derived.SizedLaws
/- The parser of layer 5: what was begun is told, all. -/
set_option linter.unusedVariables false
set_option linter.unusedSimpArgs false
set_option maxRecDepth 100000
namespace Go.Proofs.YtgdgfefojfgpaaaDoor
open Go Go.Ab

theorem pv_ne {l : List (List Int)} (h : l ≠ []) : pv l = parsV l := by
  cases l with
  | nil => exact absurd rfl h
  | cons _ _ => rfl
theorem aw_tell2 {Gl : Gh → Prop} (hst : Stays Gl) {p : Nm} {γ : Nat} (hp : 1 ≤ p.1) (hγ : 1 ≤ γ) (hbp : ((γ, 4, 0) : Nm) ≠ p) (hpγ : p.1 ≠ γ) {x : Pp} {tt dt ot : Option Nm} (hok : (⟨x, tt, dt, ot⟩ : Ps).ok) (ht : ∀ t ∈ (⟨x, tt, dt, ot⟩ : Ps).toks, 1 ≤ t.1 ∧ t.1 ≠ γ) (hz : x.sz)
    {F : Nat → AV} {T : Tk} {Q : Ex → Nat → Nat → St → Prop} (h0 : F 0 = .ptr p 0) (h2 : F 2 = .ptr (γ, 4, 0) 0) (hT : ∀ t ∈ (⟨x, tt, dt, ot⟩ : Ps).toks, T t)
    (hQ : ∀ (s' : Ps) (γ' c : Nat) (F : Nat → AV) (H : Hp), s'.x = x.tell → s'.ok → (p, .cells s'.c) ∈ H → (∀ t ∈ s'.toks, 1 ≤ t.1 ∧ (t ∈ (⟨x, tt, dt, ot⟩ : Ps).toks ∨ t.1 = γ)) → Q .normal γ' c ⟨F, H, (· ∈ s'.toks)⟩) :
    aw Tryd.prog Gl ir_hostParsertell_t2 γ 13 ⟨F, [((γ, 4, 0), .cells [.int .i64 x.k, .int .u8 x.pr, .nils, .str x.it, .int .u8 x.fi, .str x.da]), (p, .cells (⟨x, tt, dt, ot⟩ : Ps).c)], T⟩ Q := by
  have h3 := fun (v : AV) (v1 : v.cells = [v]) (v2 : v.one = true) (v3 : v.strip = pv x.seq.ps) (v5 : RepLe v (parsV x.seq.ps)) (c : Nat) (F : Nat → AV) (T : Tk) (h0 : F 0 = .ptr p 0) (h2 : F 2 = .ptr (γ, 4, 0) 0) (hT : ∀ t ∈ (⟨x, tt, dt, ot⟩ : Ps).toks, T t) =>
    aw_tell3 (s := ⟨x, tt, dt, ot⟩) hst hp hbp hok (fun t h => (ht t h).1) hz v1 v2 v3 v5 (c := c) hγ (fun t h i j _ e => (ht t h).2 (by rw [e])) h0 h2 hT hQ
  unfold ir_hostParsertell_t2
  simp only [Ps.c] at h3 ⊢
  have hseq : ∀ l, x.tx = l → x.seq.ps = if l = [] then [] else (splitB 59 l).map hostParts := fun l h => by rw [← h]; rfl
  cases tt with
  | none =>
    have hx := hok.t rfl
    simp +contextual (maxSteps := 1000000) only [hbp, (Ne.symm hbp), h0, h2, go_sem, reduceCtorEq, ↓reduceIte, Nat.reduceAdd, Nat.reduceEqDiff, Nat.reduceLeDiff, Nat.reduceMul, Nat.reduceBEq, Int.reduceBEq, Int.reduceBNe, Int.reduceLT, Int.reduceLE, Int.reduceGT, Int.reduceGE, Int.reduceToNat, Int.natCast_one, Int.natCast_zero, Int.cast_ofNat_Int]
    have hps : x.seq.ps = [] := by rw [hseq _ hx]; rfl
    rw [hps] at h3
    exact h3 .nils rfl rfl rfl (RepLe.nils 1) _ _ T rfl rfl hT
  | some t1 =>
    simp +contextual (maxSteps := 1000000) only [hbp, (Ne.symm hbp), h0, h2, bytes_is, bytes_un, go_sem, reduceCtorEq, ↓reduceIte, Nat.reduceAdd, Nat.reduceEqDiff, Nat.reduceLeDiff, Nat.reduceMul, Nat.reduceBEq, Int.reduceBEq, Int.reduceBNe, Int.reduceLT, Int.reduceLE, Int.reduceGT, Int.reduceGE, Int.reduceToNat, Int.natCast_one, Int.natCast_zero, Int.cast_ofNat_Int]
    cases hx : decide (x.tx = []) with
    | true =>
      have hx0 : x.tx = [] := by simpa using hx
      have hps : x.seq.ps = [] := by rw [hseq _ hx0]; rfl
      rw [hps] at h3
      simp +contextual (maxSteps := 1000000) only [go_sem, reduceCtorEq, ↓reduceIte, Nat.reduceAdd, Nat.reduceEqDiff, Nat.reduceLeDiff, Nat.reduceMul, Nat.reduceBEq, Int.reduceBEq, Int.reduceBNe, Int.reduceLT, Int.reduceLE, Int.reduceGT, Int.reduceGE, Int.reduceToNat, Int.natCast_one, Int.natCast_zero, Int.cast_ofNat_Int]
      exact h3 .nils rfl rfl rfl (RepLe.nils 1) _ _ T rfl rfl hT
    | false =>
      have hx0 : x.tx ≠ [] := by simpa using hx
      have hps : x.seq.ps = (splitB 59 x.tx).map hostParts := by rw [hseq _ rfl, if_neg hx0]
      rw [hps] at h3
      have hne := splitB_ne 59 x.tx
      have htx := hz.tx
      simp +contextual (maxSteps := 1000000) only [go_sem, reduceCtorEq, ↓reduceIte, Nat.reduceAdd, Nat.reduceEqDiff, Nat.reduceLeDiff, Nat.reduceMul, Nat.reduceBEq, Int.reduceBEq, Int.reduceBNe, Int.reduceLT, Int.reduceLE, Int.reduceGT, Int.reduceGE, Int.reduceToNat, Int.natCast_one, Int.natCast_zero, Int.cast_ofNat_Int]
      refine CallP.of (fs_SplitSeq hst) (by simp) (by simp) ?_
      simp only [rnH, hpSplit, rnN, rnHB, rnL, Ab.rn]
      simp +contextual (maxSteps := 1000000) only [go_sem, reduceCtorEq, ↓reduceIte, Nat.reduceAdd, Nat.reduceEqDiff, Nat.reduceLeDiff, Nat.reduceMul, Nat.reduceBEq, Int.reduceBEq, Int.reduceBNe, Int.reduceLT, Int.reduceLE, Int.reduceGT, Int.reduceGE, Int.reduceToNat, Int.natCast_one, Int.natCast_zero, Int.cast_ofNat_Int]
      refine rgf_of rfl ((splitB 59 x.tx).map fun p => [.str p])
        (fun i H T => ∃ tk : Option Nm, (tk = none → i = 0) ∧ (∀ x, tk = some x → T x) ∧ H = [((γ, 4, 0), .cells [.int .i64 x.k, .int .u8 x.pr, sv tk 1 (parsAV (((splitB 59 x.tx).take i).map hostParts)), .str x.it, .int .u8 x.fi, .str x.da])])
        (fun _ _ _ => False) (hpSplit x.tx 59 (γ, 22, 0) (γ, 22, 1) (γ, 22, 2)) [((γ, 4, 0), .cells [.int .i64 x.k, .int .u8 x.pr, .nils, .str x.it, .int .u8 x.fi, .str x.da])] (fun _ => False)
        (it_split (by simp) (by simp) (by simp) htx) (by simp [hpSplit, rnL, Ab.rn]) (by simp [hpSplit]) (by simp) (by simp) ⟨none, by simp, by simp, rfl⟩ (by simp) ?_ ?_ (fun _ _ _ h => h.elim)
      · rintro Gl' hst' hG i w H T' γ' hw ⟨tk, hk1, hk2, rfl⟩ hlt hfr'
        simp only [List.getElem?_map, Option.map_eq_some_iff] at hw
        obtain ⟨q, hq, rfl⟩ := hw
        have hql := splitB_mem_len (List.mem_of_getElem? hq)
        have hil : i < (splitB 59 x.tx).length := (List.getElem?_eq_some_iff.1 hq).1
        have hsl := splitB_len (c := 59) (l := x.tx)
        have htk : (splitB 59 x.tx).take (i + 1) = (splitB 59 x.tx).take i ++ [q] := by rw [List.take_add_one, hq]; rfl
        have hln : (parsAV (((splitB 59 x.tx).take i).map hostParts)).length ≤ x.tx.length + 1 := by simp [parsAV]; omega
        generalize hK : kBd _ _ _ = K
        have fin : ∀ (tk' : Nm) (H' : Hp) (T'' : Tk), H' = [((γ, 4, 0), .cells [.int .i64 x.k, .int .u8 x.pr, .sl (some tk') 1 (parsAV (((splitB 59 x.tx).take i).map hostParts) ++ [[intsV (hostParts q)]]), .str x.it, .int .u8 x.fi, .str x.da])] → T'' tk' → ∀ c F, K .normal γ' c ⟨F, H', T''⟩ := by
          rintro tk' H' T'' rfl h1 c F
          rw [← hK]
          refine ⟨some tk', by simp, fun x hx => by cases hx; exact h1, ?_⟩
          rw [htk]
          simp [parsAV, sv]
        have hf24 : (((parsAV (((splitB 59 x.tx).take i).map hostParts)).length + 1) * 24 ≤ 140737488355328) = True := by simp only [eq_iff_iff, iff_true]; omega
        unfold ir_hostParsertell_b0
        simp +contextual (maxSteps := 1000000) only [go_sem, reduceCtorEq, ↓reduceIte, Nat.reduceAdd, Nat.reduceEqDiff, Nat.reduceLeDiff, Nat.reduceMul, Nat.reduceBEq, Int.reduceBEq, Int.reduceBNe, Int.reduceLT, Int.reduceLE, Int.reduceGT, Int.reduceGE, Int.reduceToNat, Int.natCast_one, Int.natCast_zero, Int.cast_ofNat_Int]
        refine DCall.new (fs_parts hst' (by omega)) ?_
        cases tk with
        | none =>
          obtain rfl := hk1 rfl
          simp +contextual (maxSteps := 1000000) only [List.take_zero, List.map_nil, go_sem, reduceCtorEq, ↓reduceIte, Nat.reduceAdd, Nat.reduceEqDiff, Nat.reduceLeDiff, Nat.reduceMul, Nat.reduceBEq, Int.reduceBEq, Int.reduceBNe, Int.reduceLT, Int.reduceLE, Int.reduceGT, Int.reduceGE, Int.reduceToNat, Int.natCast_one, Int.natCast_zero, Int.cast_ofNat_Int]
          exact fin _ _ _ rfl (by simp) _ _
        | some t0 =>
          simp +contextual (maxSteps := 1000000) only [hf24, go_sem, reduceCtorEq, ↓reduceIte, Nat.reduceAdd, Nat.reduceEqDiff, Nat.reduceLeDiff, Nat.reduceMul, Nat.reduceBEq, Int.reduceBEq, Int.reduceBNe, Int.reduceLT, Int.reduceLE, Int.reduceGT, Int.reduceGE, Int.reduceToNat, Int.natCast_one, Int.natCast_zero, Int.cast_ofNat_Int]
          refine ⟨.inl (hk2 t0 rfl), by simp, ?_⟩
          refine fin _ _ _ rfl ⟨by simp, fun e => ?_⟩ _ _
          exact hfr'.2 t0 (hk2 t0 rfl) (by rw [← e])
      · rintro H1 T1 ⟨tk, hk1, hk2, rfl⟩
        have hlen : ((splitB 59 x.tx).map fun p => [AV.str p]).length = (splitB 59 x.tx).length := by simp
        rw [hlen] at hk1 ⊢
        rw [List.take_length]
        cases tk with
        | none => exact absurd (List.length_eq_zero_iff.1 (hk1 rfl)) hne
        | some t0 =>
          refine ⟨[((γ, 4, 0), .cells [.int .i64 x.k, .int .u8 x.pr, .sl (some t0) 1 (parsAV ((splitB 59 x.tx).map hostParts)), .str x.it, .int .u8 x.fi, .str x.da]), (p, .cells (⟨x, some t1, dt, ot⟩ : Ps).c)], T, fun u hu => ?_, fun t h => .inr ⟨?_, fun h => h⟩, ?_⟩
          · have hh : ∀ i j, ((γ, i, j) : Nm) ≠ p := fun i j e => hpγ (by rw [← e])
            simp only [List.mem_cons, List.not_mem_nil, or_false] at hu
            rcases hu with rfl | rfl
            · exact List.mem_append.2 (.inl (by simp [sv]))
            · refine List.mem_append.2 (.inr (List.mem_filter.2 ⟨?_, ?_⟩))
              · simp [Ps.c, sv]
              · simp [hpSplit, hh]
          · simpa using h
          · simp only [Ps.c]
            simp +contextual (maxSteps := 1000000) only [go_sem, reduceCtorEq, ↓reduceIte, Nat.reduceAdd, Nat.reduceEqDiff, Nat.reduceLeDiff, Nat.reduceMul, Nat.reduceBEq, Int.reduceBEq, Int.reduceBNe, Int.reduceLT, Int.reduceLE, Int.reduceGT, Int.reduceGE, Int.reduceToNat, Int.natCast_one, Int.natCast_zero, Int.cast_ofNat_Int]
            exact h3 (.sl (some t0) 1 (parsAV ((splitB 59 x.tx).map hostParts))) rfl rfl (pv_ne (by simpa using hne)).symm (RepLe.anon _ _ _) _ _ T rfl rfl hT

theorem fs_tell {Gl : Gh → Prop} (hst : Stays Gl) {p : Nm} (hp : 1 ≤ p.1) {s : Ps} (hok : s.ok) (ht : ∀ t ∈ s.toks, 1 ≤ t.1) (hz : s.x.sz) : FSR Tryd.prog Gl 27 [.ptr p 0] [(p, .cells s.c)] s.toks (PR p s.toks (.tup []) s.x.tell) := by
  refine FSR.of hm hst is_hostParsertell (by simp) fun γ hγ hfr => ?_
  have hpγ : p.1 ≠ γ := hfr.1 _ List.mem_cons_self
  have hbp : ((γ, 4, 0) : Nm) ≠ p := fun e => hpγ (by rw [← e])
  have htγ : ∀ t ∈ s.toks, 1 ≤ t.1 ∧ t.1 ≠ γ := fun t h => ⟨ht t h, hfr.2 t h⟩
  clear hfr
  (generalize hQ : (fun (ex : Ex) (_ _ : Nat) (s : St) => _) = Q; unfold ir_hostParsertell)
  obtain ⟨x, tt, dt, ot⟩ := s
  have h2 := fun (F : Nat → AV) (h0 : F 0 = .ptr p 0) (h2 : F 2 = .ptr (γ, 4, 0) 0) => aw_tell2 (Q := Q) (T := (· ∈ (⟨x, tt, dt, ot⟩ : Ps).toks)) hst hp hγ hbp hpγ hok htγ hz h0 h2 (fun _ h => h) fun s' γ' c F H q1 q2 q3 q4 => by
    rw [← hQ, ← q1]
    exact ⟨trivial, PR.ret s' rfl (fun _ => rfl) (fun _ _ _ => trivial) hp ht q3 q2 fun t h => ⟨h, (q4 t h).2.imp _root_.id fun e => Nat.le_of_eq e.symm⟩⟩
  simp only [Ps.c] at h2 ⊢
  simp +contextual (maxSteps := 1000000) only [hbp, (Ne.symm hbp), go_sem, reduceCtorEq, ↓reduceIte, Nat.reduceAdd, Nat.reduceEqDiff, Nat.reduceLeDiff, Nat.reduceMul, Nat.reduceBEq, Int.reduceBEq, Int.reduceBNe, Int.reduceLT, Int.reduceLE, Int.reduceGT, Int.reduceGE, Int.reduceToNat, Int.natCast_one, Int.natCast_zero, Int.cast_ofNat_Int]
  unfold ir_hostParsertell_t1
  cases dt with
  | none =>
    have hd := hok.d rfl
    simp only at hd
    simp +contextual (maxSteps := 1000000) only [hbp, (Ne.symm hbp), go_sem, reduceCtorEq, ↓reduceIte, Nat.reduceAdd, Nat.reduceEqDiff, Nat.reduceLeDiff, Nat.reduceMul, Nat.reduceBEq, Int.reduceBEq, Int.reduceBNe, Int.reduceLT, Int.reduceLE, Int.reduceGT, Int.reduceGE, Int.reduceToNat, Int.natCast_one, Int.natCast_zero, Int.cast_ofNat_Int]
    rw [hd] at h2
    exact h2 _ rfl rfl
  | some d1 =>
    simp +contextual (maxSteps := 1000000) only [hbp, (Ne.symm hbp), bytes_is, bytes_un, go_sem, reduceCtorEq, ↓reduceIte, Nat.reduceAdd, Nat.reduceEqDiff, Nat.reduceLeDiff, Nat.reduceMul, Nat.reduceBEq, Int.reduceBEq, Int.reduceBNe, Int.reduceLT, Int.reduceLE, Int.reduceGT, Int.reduceGE, Int.reduceToNat, Int.natCast_one, Int.natCast_zero, Int.cast_ofNat_Int]
    exact h2 _ rfl rfl
end Go.Proofs.YtgdgfefojfgpaaaDoor

/- The parser of layer 5: the states. -/
set_option linter.unusedVariables false
set_option linter.unusedSimpArgs false
set_option maxRecDepth 100000
namespace Go.Proofs.YtgdgfefojfgpaaaDoor
open Go Go.Ab
/-- (*clavier/host.Parser).inside -/
def ir_hostParserinside : ICode :=
 (.seq
  (.reg [⟨some 4, none, .mov (.c .nilf)⟩] (some [0, 1]))
  (.seq
   (.blk 0
    (.seq
     (.reg [⟨some 6, none, .mov (.t 1)⟩,
       ⟨some 7, none, .bin .eql .none (.t 6) (.c (.int .u8 7))⟩,
       ⟨some 8, none, .mov (.t 7)⟩,
       ⟨some 9, some (8, true), .mov (.t 0)⟩,
       ⟨some 10, some (8, true), .nck (.t 9)⟩,
       ⟨some 11, some (8, true), .fa 1 (.t 10)⟩,
       ⟨some 12, some (8, true), .fa 0 (.t 11)⟩,
       ⟨some 13, some (8, true), .ld none (.t 12)⟩,
       ⟨some 14, some (8, true), .bin .eql .none (.t 13) (.c (.int .i64 4))⟩,
       ⟨some 15, none, .pick (.t 8) (.t 14) (.c (.bool false))⟩,
       ⟨some 5, none, .mov (.t 15)⟩] (some [0, 1, 5]))
     (.cond (.t 5)
      (.seq
       (.reg [⟨some 16, none, .mov (.t 0)⟩,
         ⟨some 17, none, .call (.c (.fn (.func 27) [] [])) [(.t 16)]⟩] (some []))
       (.seq
        (.reg [⟨some 4, none, .mov (.c .nilf)⟩] (some [4]))
        .ret))
      (.seq
       (.reg [⟨some 19, none, .mov (.t 1)⟩,
         ⟨some 20, none, .bin .lss .none (.t 19) (.c (.int .u8 32))⟩,
         ⟨some 21, none, .mov (.t 20)⟩,
         ⟨some 22, some (21, false), .mov (.t 1)⟩,
         ⟨some 23, some (21, false), .bin .eql .none (.t 22) (.c (.int .u8 127))⟩,
         ⟨some 24, none, .pick (.t 21) (.c (.bool true)) (.t 23)⟩,
         ⟨some 18, none, .mov (.t 24)⟩] (some [0, 1, 18]))
       (.cond (.t 18)
        (.seq
         (.reg [⟨some 4, none, .mov (.c (.fn (.func 36) [] []))⟩] (some [4]))
         .ret)
        .skip)))))
   (.seq
    (.reg [⟨some 25, none, .mov (.t 0)⟩,
      ⟨some 26, none, .mov (.t 0)⟩,
      ⟨some 27, none, .nck (.t 26)⟩,
      ⟨some 28, none, .fa 10 (.t 27)⟩,
      ⟨some 29, none, .ld none (.t 28)⟩,
      ⟨some 30, none, .mov (.t 29)⟩,
      ⟨some 31, some (30, false), .mov (.t 1)⟩,
      ⟨some 32, some (30, false), .bin .geq .none (.t 31) (.c (.int .u8 128))⟩,
      ⟨some 33, none, .pick (.t 30) (.c (.bool true)) (.t 32)⟩,
      ⟨some 34, none, .mov (.t 33)⟩,
      ⟨some 35, some (34, false), .mov (.t 0)⟩,
      ⟨some 36, some (34, false), .nck (.t 35)⟩,
      ⟨some 37, some (34, false), .fa 8 (.t 36)⟩,
      ⟨some 38, some (34, false), .ld none (.t 37)⟩,
      ⟨some 39, some (34, false), .len (.t 38)⟩,
      ⟨some 40, some (34, false), .bin .eql .none (.t 39) (.c (.int .i64 4096))⟩,
      ⟨some 41, none, .pick (.t 34) (.c (.bool true)) (.t 40)⟩,
      ⟨some 42, none, .nck (.t 25)⟩,
      ⟨some 43, none, .fa 10 (.t 42)⟩,
      ⟨none, none, .st 1 (.t 43) (.t 41)⟩] (some [0, 1]))
    (.seq
     (.seq
      (.reg [⟨some 44, none, .mov (.t 0)⟩,
        ⟨some 45, none, .nck (.t 44)⟩,
        ⟨some 46, none, .fa 10 (.t 45)⟩,
        ⟨some 47, none, .ld none (.t 46)⟩,
        ⟨some 48, none, .un .not (.t 47)⟩] (some [0, 1, 48]))
      (.cond (.t 48)
       (.reg [⟨some 49, none, .mov (.t 0)⟩,
         ⟨some 50, none, .mov (.t 0)⟩,
         ⟨some 51, none, .nck (.t 50)⟩,
         ⟨some 52, none, .fa 8 (.t 51)⟩,
         ⟨some 53, none, .ld none (.t 52)⟩,
         ⟨some 54, none, .mov (.t 1)⟩,
         ⟨some 55, none, .row 5 1 [(.t 54)]⟩,
         ⟨some 56, none, .app 5 1 1 (.t 53) (.t 55)⟩,
         ⟨some 57, none, .nck (.t 49)⟩,
         ⟨some 58, none, .fa 8 (.t 57)⟩,
         ⟨none, none, .st 1 (.t 58) (.t 56)⟩] (some []))
       .skip))
     (.seq
      (.reg [⟨some 4, none, .mov (.c (.fn (.func 36) [] []))⟩] (some [4]))
      .ret)))))
theorem is_hostParserinside : IrOf Tryd.prog 36 59 ir_hostParserinside [.t 4] := ⟨_, Tryd.func36, rfl, by kernel_rfl, by kernel_rfl, by kernel_rfl⟩

/-- (*clavier/host.Parser).head -/
def ir_hostParserhead : ICode :=
 (.seq
  (.reg [⟨some 4, none, .mov (.c .nilf)⟩] (some [0, 1]))
  (.seq
   (.reg [⟨some 6, none, .mov (.t 0)⟩,
     ⟨some 7, none, .nck (.t 6)⟩,
     ⟨some 8, none, .fa 9 (.t 7)⟩,
     ⟨some 9, none, .ld none (.t 8)⟩,
     ⟨some 5, none, .mov (.t 9)⟩] (some [0, 1, 5]))
   (.seq
    (.blk 0
     (.seq
      (.reg [⟨some 27, none, .mov (.t 1)⟩,
        ⟨some 28, none, .bin .lss .none (.t 27) (.c (.int .u8 32))⟩,
        ⟨some 29, none, .mov (.t 28)⟩,
        ⟨some 30, some (29, false), .mov (.t 1)⟩,
        ⟨some 31, some (29, false), .bin .eql .none (.t 30) (.c (.int .u8 127))⟩,
        ⟨some 32, none, .pick (.t 29) (.c (.bool true)) (.t 31)⟩,
        ⟨some 26, none, .mov (.t 32)⟩] (some [0, 1, 5, 26]))
      (.cond (.t 26)
       (.seq
        (.reg [⟨some 4, none, .mov (.c (.fn (.func 35) [] []))⟩] (some [4]))
        .ret)
       (.seq
        (.reg [⟨some 34, none, .mov (.t 1)⟩,
          ⟨some 35, none, .bin .geq .none (.t 34) (.c (.int .u8 128))⟩,
          ⟨some 33, none, .mov (.t 35)⟩] (some [0, 1, 5, 33]))
        (.cond (.t 33)
         (.seq
          (.reg [⟨some 36, none, .mov (.t 0)⟩,
            ⟨some 37, none, .call (.c (.fn (.func 18) [] [])) [(.t 36)]⟩] (some []))
          (.seq
           (.reg [⟨some 4, none, .mov (.c .nilf)⟩] (some [4]))
           .ret))
         (.seq
          (.reg [⟨some 39, none, .mov (.t 1)⟩,
            ⟨some 40, none, .bin .lss .none (.t 39) (.c (.int .u8 48))⟩,
            ⟨some 38, none, .mov (.t 40)⟩] (some [0, 1, 5, 38]))
          (.cond (.t 38)
           (.reg [⟨some 41, none, .mov (.t 0)⟩,
             ⟨some 42, none, .mov (.t 1)⟩,
             ⟨some 43, none, .call (.c (.fn (.func 28) [] [])) [(.t 41), (.t 42)]⟩] (some [0]))
           (.seq
            (.reg [⟨some 45, none, .mov (.t 1)⟩,
              ⟨some 46, none, .bin .lss .none (.t 45) (.c (.int .u8 60))⟩,
              ⟨some 44, none, .mov (.t 46)⟩] (some [0, 1, 5, 44]))
            (.cond (.t 44)
             (.seq
              (.reg [⟨some 47, none, .mov (.t 0)⟩,
                ⟨some 48, none, .mov (.t 0)⟩,
                ⟨some 49, none, .nck (.t 48)⟩,
                ⟨some 50, none, .fa 10 (.t 49)⟩,
                ⟨some 51, none, .ld none (.t 50)⟩,
                ⟨some 52, none, .mov (.t 51)⟩,
                ⟨some 53, some (52, false), .mov (.t 0)⟩,
                ⟨some 54, some (52, false), .nck (.t 53)⟩,
                ⟨some 55, some (52, false), .fa 1 (.t 54)⟩,
                ⟨some 56, some (52, false), .fa 3 (.t 55)⟩,
                ⟨some 57, some (52, false), .ld none (.t 56)⟩,
                ⟨some 58, some (52, false), .bin .neq .none (.t 57) (.c (.str []))⟩,
                ⟨some 59, none, .pick (.t 52) (.c (.bool true)) (.t 58)⟩,
                ⟨some 60, none, .nck (.t 47)⟩,
                ⟨some 61, none, .fa 10 (.t 60)⟩,
                ⟨none, none, .st 1 (.t 61) (.t 59)⟩] (some [0, 1]))
              (.reg [⟨some 62, none, .mov (.t 0)⟩,
                ⟨some 63, none, .mov (.t 0)⟩,
                ⟨some 64, none, .nck (.t 63)⟩,
                ⟨some 65, none, .fa 7 (.t 64)⟩,
                ⟨some 66, none, .ld none (.t 65)⟩,
                ⟨some 67, none, .mov (.t 1)⟩,
                ⟨some 68, none, .row 5 1 [(.t 67)]⟩,
                ⟨some 69, none, .app 5 1 1 (.t 66) (.t 68)⟩,
                ⟨some 70, none, .nck (.t 62)⟩,
                ⟨some 71, none, .fa 7 (.t 70)⟩,
                ⟨none, none, .st 1 (.t 71) (.t 69)⟩] (some [0])))
             (.seq
              (.reg [⟨some 73, none, .mov (.t 1)⟩,
                ⟨some 74, none, .bin .lss .none (.t 73) (.c (.int .u8 64))⟩,
                ⟨some 72, none, .mov (.t 74)⟩] (some [0, 1, 5, 72]))
              (.cond (.t 72)
               (.seq
                (.reg [⟨some 75, none, .mov (.t 0)⟩,
                  ⟨some 76, none, .mov (.t 0)⟩,
                  ⟨some 77, none, .nck (.t 76)⟩,
                  ⟨some 78, none, .fa 10 (.t 77)⟩,
                  ⟨some 79, none, .ld none (.t 78)⟩,
                  ⟨some 80, none, .mov (.t 79)⟩,
                  ⟨some 81, some (80, false), .mov (.t 5)⟩,
                  ⟨some 82, some (80, false), .un .not (.t 81)⟩,
                  ⟨some 83, none, .pick (.t 80) (.c (.bool true)) (.t 82)⟩,
                  ⟨some 84, none, .nck (.t 75)⟩,
                  ⟨some 85, none, .fa 10 (.t 84)⟩,
                  ⟨none, none, .st 1 (.t 85) (.t 83)⟩] (some [0, 1]))
                (.reg [⟨some 86, none, .mov (.t 0)⟩,
                  ⟨some 87, none, .mov (.t 1)⟩,
                  ⟨some 88, none, .nck (.t 86)⟩,
                  ⟨some 89, none, .fa 1 (.t 88)⟩,
                  ⟨some 90, none, .fa 1 (.t 89)⟩,
                  ⟨none, none, .st 1 (.t 90) (.t 87)⟩] (some [0])))
               (.seq
                (.reg [⟨some 10, none, .mov (.t 0)⟩,
                  ⟨some 11, none, .mov (.t 1)⟩,
                  ⟨some 12, none, .nck (.t 10)⟩,
                  ⟨some 13, none, .fa 1 (.t 12)⟩,
                  ⟨some 14, none, .fa 4 (.t 13)⟩,
                  ⟨none, none, .st 1 (.t 14) (.t 11)⟩] (some [0]))
                (.seq
                 (.seq
                  (.reg [⟨some 15, none, .mov (.t 0)⟩,
                    ⟨some 16, none, .nck (.t 15)⟩,
                    ⟨some 17, none, .fa 1 (.t 16)⟩,
                    ⟨some 18, none, .fa 0 (.t 17)⟩,
                    ⟨some 19, none, .ld none (.t 18)⟩,
                    ⟨some 20, none, .bin .eql .none (.t 19) (.c (.int .i64 3))⟩] (some [0, 20]))
                  (.cond (.t 20)
                   (.seq
                    (.reg [⟨some 21, none, .mov (.t 0)⟩,
                      ⟨some 22, none, .nck (.t 21)⟩,
                      ⟨some 23, none, .fa 11 (.t 22)⟩,
                      ⟨none, none, .st 1 (.t 23) (.c (.bool true))⟩] (some []))
                    (.seq
                     (.reg [⟨some 4, none, .mov (.c (.fn (.func 36) [] []))⟩] (some [4]))
                     .ret))
                   .skip))
                 (.seq
                  (.reg [⟨some 24, none, .mov (.t 0)⟩,
                    ⟨some 25, none, .call (.c (.fn (.func 27) [] [])) [(.t 24)]⟩] (some []))
                  (.seq
                   (.reg [⟨some 4, none, .mov (.c .nilf)⟩] (some [4]))
                   .ret)))))))))))))))
    (.seq
     (.reg [⟨some 91, none, .mov (.t 0)⟩,
       ⟨some 92, none, .nck (.t 91)⟩,
       ⟨some 93, none, .fa 9 (.t 92)⟩,
       ⟨none, none, .st 1 (.t 93) (.c (.bool false))⟩] (some []))
     (.seq
      (.reg [⟨some 4, none, .mov (.c (.fn (.func 35) [] []))⟩] (some [4]))
      .ret)))))
theorem is_hostParserhead : IrOf Tryd.prog 35 94 ir_hostParserhead [.t 4] := ⟨_, Tryd.func35, rfl, by kernel_rfl, by kernel_rfl, by kernel_rfl⟩

/-- (*clavier/host.Parser).behind -/
def ir_hostParserbehind : ICode :=
 (.seq
  (.reg [⟨some 4, none, .mov (.c .nilf)⟩] (some [0, 1]))
  (.seq
   (.blk 0
    (.seq
     (.reg [⟨some 6, none, .mov (.t 1)⟩,
       ⟨some 7, none, .bin .lss .none (.t 6) (.c (.int .u8 32))⟩,
       ⟨some 8, none, .mov (.t 7)⟩,
       ⟨some 9, some (8, false), .mov (.t 1)⟩,
       ⟨some 10, some (8, false), .bin .eql .none (.t 9) (.c (.int .u8 127))⟩,
       ⟨some 11, none, .pick (.t 8) (.c (.bool true)) (.t 10)⟩,
       ⟨some 5, none, .mov (.t 11)⟩] (some [0, 1, 5]))
     (.cond (.t 5)
      (.seq
       (.reg [⟨some 4, none, .mov (.c (.fn (.func 20) [] []))⟩] (some [4]))
       .ret)
      (.seq
       (.reg [⟨some 13, none, .mov (.t 1)⟩,
         ⟨some 14, none, .bin .geq .none (.t 13) (.c (.int .u8 128))⟩,
         ⟨some 12, none, .mov (.t 14)⟩] (some [0, 1, 12]))
       (.cond (.t 12)
        (.seq
         (.reg [⟨some 15, none, .mov (.t 0)⟩,
           ⟨some 16, none, .call (.c (.fn (.func 18) [] [])) [(.t 15)]⟩] (some []))
         (.seq
          (.reg [⟨some 4, none, .mov (.c .nilf)⟩] (some [4]))
          .ret))
        (.seq
         (.reg [⟨some 18, none, .mov (.t 1)⟩,
           ⟨some 19, none, .bin .lss .none (.t 18) (.c (.int .u8 48))⟩,
           ⟨some 17, none, .mov (.t 19)⟩] (some [0, 1, 17]))
         (.cond (.t 17)
          (.seq
           (.reg [⟨some 20, none, .mov (.t 0)⟩,
             ⟨some 21, none, .mov (.t 1)⟩,
             ⟨some 22, none, .call (.c (.fn (.func 28) [] [])) [(.t 20), (.t 21)]⟩] (some []))
           (.seq
            (.reg [⟨some 4, none, .mov (.c (.fn (.func 20) [] []))⟩] (some [4]))
            .ret))
          (.seq
           (.reg [⟨some 24, none, .mov (.t 0)⟩,
             ⟨some 25, none, .nck (.t 24)⟩,
             ⟨some 26, none, .fa 1 (.t 25)⟩,
             ⟨some 27, none, .fa 3 (.t 26)⟩,
             ⟨some 28, none, .ld none (.t 27)⟩,
             ⟨some 29, none, .bin .neq .none (.t 28) (.c (.str []))⟩,
             ⟨some 30, none, .mov (.t 29)⟩,
             ⟨some 31, some (30, false), .mov (.t 1)⟩,
             ⟨some 32, some (30, false), .cvi .i32 (.t 31)⟩,
             ⟨some 33, some (30, false), .call (.c (.fn (.func 29) [] [])) [(.c (.str [91, 80, 93, 88, 94, 95])), (.t 32)]⟩,
             ⟨some 34, some (30, false), .un .not (.t 33)⟩,
             ⟨some 35, none, .pick (.t 30) (.c (.bool true)) (.t 34)⟩,
             ⟨some 23, none, .mov (.t 35)⟩] (some [0, 1, 23]))
           (.cond (.t 23)
            (.seq
             (.reg [⟨some 36, none, .mov (.t 0)⟩,
               ⟨some 37, none, .mov (.t 0)⟩,
               ⟨some 38, none, .mov (.t 1)⟩,
               ⟨some 39, none, .nck (.t 36)⟩,
               ⟨some 40, none, .fa 1 (.t 39)⟩,
               ⟨some 41, none, .fa 0 (.t 40)⟩,
               ⟨none, none, .st 1 (.t 41) (.c (.int .i64 5))⟩,
               ⟨some 42, none, .nck (.t 37)⟩,
               ⟨some 43, none, .fa 1 (.t 42)⟩,
               ⟨some 44, none, .fa 4 (.t 43)⟩,
               ⟨none, none, .st 1 (.t 44) (.t 38)⟩] (some [0]))
             (.seq
              (.reg [⟨some 45, none, .mov (.t 0)⟩,
                ⟨some 46, none, .call (.c (.fn (.func 27) [] [])) [(.t 45)]⟩] (some []))
              (.seq
               (.reg [⟨some 4, none, .mov (.c .nilf)⟩] (some [4]))
               .ret)))
            .skip)))))))))
   (.seq
    (.reg [⟨some 47, none, .mov (.t 0)⟩,
      ⟨some 48, none, .mov (.t 1)⟩,
      ⟨some 49, none, .call (.c (.fn (.func 30) [] [])) [(.t 47), (.t 48)]⟩,
      ⟨some 4, none, .mov (.t 49)⟩] (some [4]))
    .ret)))
theorem is_hostParserbehind : IrOf Tryd.prog 20 50 ir_hostParserbehind [.t 4] := ⟨_, Tryd.func20, rfl, by kernel_rfl, by kernel_rfl, by kernel_rfl⟩

/-- (*clavier/host.Parser).ending -/
def ir_hostParserending : ICode :=
 (.seq
  (.reg [⟨some 4, none, .mov (.c .nilf)⟩] (some [0, 1]))
  (.seq
   (.seq
    (.reg [⟨some 5, none, .mov (.t 1)⟩,
      ⟨some 6, none, .bin .eql .none (.t 5) (.c (.int .u8 92))⟩] (some [0, 1, 6]))
    (.cond (.t 6)
     (.seq
      (.reg [⟨some 7, none, .mov (.t 0)⟩,
        ⟨some 8, none, .call (.c (.fn (.func 27) [] [])) [(.t 7)]⟩] (some []))
      (.seq
       (.reg [⟨some 4, none, .mov (.c .nilf)⟩] (some [4]))
       .ret))
     .skip))
   (.seq
    (.reg [⟨some 9, none, .mov (.t 0)⟩,
      ⟨some 10, none, .call (.c (.fn (.func 18) [] [])) [(.t 9)]⟩] (some [0, 1]))
    (.seq
     (.reg [⟨some 11, none, .mov (.t 0)⟩,
       ⟨some 12, none, .mov (.t 1)⟩,
       ⟨some 13, none, .call (.c (.fn (.func 20) [] [])) [(.t 11), (.t 12)]⟩,
       ⟨some 4, none, .mov (.t 13)⟩] (some [4]))
     .ret))))
theorem is_hostParserending : IrOf Tryd.prog 19 14 ir_hostParserending [.t 4] := ⟨_, Tryd.func19, rfl, by kernel_rfl, by kernel_rfl, by kernel_rfl⟩

/-- (*clavier/host.Parser).one -/
def ir_hostParserone : ICode :=
 (.seq
  (.reg [⟨some 4, none, .mov (.c .nilf)⟩] (some [0, 1]))
  (.seq
   (.blk 0
    (.seq
     (.reg [⟨some 6, none, .mov (.t 1)⟩,
       ⟨some 7, none, .bin .eql .none (.t 6) (.c (.int .u8 24))⟩,
       ⟨some 8, none, .mov (.t 7)⟩,
       ⟨some 9, some (8, false), .mov (.t 1)⟩,
       ⟨some 10, some (8, false), .bin .eql .none (.t 9) (.c (.int .u8 26))⟩,
       ⟨some 11, none, .pick (.t 8) (.c (.bool true)) (.t 10)⟩,
       ⟨some 5, none, .mov (.t 11)⟩] (some [0, 1, 5]))
     (.cond (.t 5)
      (.seq
       (.reg [⟨some 12, none, .mov (.t 0)⟩,
         ⟨some 13, none, .call (.c (.fn (.func 18) [] [])) [(.t 12)]⟩] (some []))
       (.seq
        (.reg [⟨some 4, none, .mov (.c .nilf)⟩] (some [4]))
        .ret))
      (.seq
       (.reg [⟨some 15, none, .mov (.t 1)⟩,
         ⟨some 16, none, .bin .eql .none (.t 15) (.c (.int .u8 27))⟩,
         ⟨some 17, none, .mov (.t 16)⟩,
         ⟨some 18, some (17, true), .mov (.t 0)⟩,
         ⟨some 19, some (17, true), .nck (.t 18)⟩,
         ⟨some 20, some (17, true), .fa 11 (.t 19)⟩,
         ⟨some 21, some (17, true), .ld none (.t 20)⟩,
         ⟨some 22, none, .pick (.t 17) (.t 21) (.c (.bool false))⟩,
         ⟨some 14, none, .mov (.t 22)⟩] (some [0, 1, 14]))
       (.cond (.t 14)
        (.seq
         (.reg [⟨some 23, none, .mov (.t 0)⟩,
           ⟨some 24, none, .nck (.t 23)⟩,
           ⟨some 25, none, .fa 11 (.t 24)⟩,
           ⟨none, none, .st 1 (.t 25) (.c (.bool false))⟩] (some []))
         (.seq
          (.reg [⟨some 4, none, .mov (.c (.fn (.func 19) [] []))⟩] (some [4]))
          .ret))
        (.seq
         (.reg [⟨some 27, none, .mov (.t 1)⟩,
           ⟨some 28, none, .bin .eql .none (.t 27) (.c (.int .u8 27))⟩,
           ⟨some 26, none, .mov (.t 28)⟩] (some [0, 1, 26]))
         (.cond (.t 26)
          (.seq
           (.reg [⟨some 29, none, .mov (.t 0)⟩,
             ⟨some 30, none, .call (.c (.fn (.func 18) [] [])) [(.t 29)]⟩] (some []))
           (.seq
            (.reg [⟨some 4, none, .mov (.c (.fn (.func 20) [] []))⟩] (some [4]))
            .ret))
          (.seq
           (.reg [⟨some 32, none, .mov (.t 0)⟩,
             ⟨some 33, none, .nck (.t 32)⟩,
             ⟨some 34, none, .fa 0 (.t 33)⟩,
             ⟨some 35, none, .ld none (.t 34)⟩,
             ⟨some 36, none, .bin .eql .func (.t 35) (.c .nilf)⟩,
             ⟨some 31, none, .mov (.t 36)⟩] (some [0, 1, 31]))
           (.cond (.t 31)
            (.seq
             (.reg [⟨some 4, none, .mov (.c .nilf)⟩] (some [4]))
             .ret)
            .skip)))))))))
   (.seq
    (.reg [⟨some 37, none, .mov (.t 0)⟩,
      ⟨some 38, none, .nck (.t 37)⟩,
      ⟨some 39, none, .fa 0 (.t 38)⟩,
      ⟨some 40, none, .ld none (.t 39)⟩,
      ⟨some 41, none, .mov (.t 0)⟩,
      ⟨some 42, none, .mov (.t 1)⟩,
      ⟨some 43, none, .call (.t 40) [(.t 41), (.t 42)]⟩,
      ⟨some 4, none, .mov (.t 43)⟩] (some [4]))
    .ret)))
theorem is_hostParserone : IrOf Tryd.prog 14 44 ir_hostParserone [.t 4] := ⟨_, Tryd.func14, rfl, by kernel_rfl, by kernel_rfl, by kernel_rfl⟩


/-- A method's end behind a call of another. -/
theorem PR.behind {rs : List IRes} {p : Nm} {hb : HB} {y : AV} {γ : Nat} {s : St} {q s' : Ps} (h : resOf s rs = some y) (hy : ∀ f, Ab.rn f y = y) (oy : ∀ m L T, AV.okIn m L T y) (hp : 1 ≤ p.1) (hT0 : ∀ t ∈ q.toks, 1 ≤ t.1) (hH : (p, .cells s'.c) ∈ s.H) (hok : s'.ok)
    (hq : ∀ t ∈ s'.toks, 1 ≤ t.1 ∧ (t ∈ q.toks ∨ t.1 = γ)) (hT : ∀ t ∈ s'.toks, s.T t) : ∃ r H1 T1, PR p q.toks y s'.x r H1 T1 ∧ Ret rs [(p, hb)] q.toks r H1 T1 γ s :=
  PR.ret s' h hy oy hp hT0 hH hok fun t h => ⟨hT t h, (hq t h).2.imp _root_.id fun e => Nat.le_of_eq e.symm⟩

def Pp.inside (x : Pp) (c : UInt8) : Option Nx × Pp :=
  if ((c.toNat : Int) == 7 && x.k == 4) = true then (none, x.tell)
  else if (decide ((c.toNat : Int) < 32) || (c.toNat : Int) == 127) = true then (some .inside, x)
  else if (x.b || decide ((c.toNat : Int) ≥ 128) || (x.da.length : Int) == 4096) = true then (some .inside, { x with b := true })
  else (some .inside, { x with b := false, da := x.da ++ [c] })

theorem bytesAV_len (l : List UInt8) : (bytesAV l).length = l.length := by simp [bytesAV]
/-- A state with a new name for its data. -/
theorem Ps.newd {s : Ps} (hok : s.ok) {n : Nm} (hn : n ∉ s.toks) (x' : Pp) (h1 : x'.tx = s.x.tx) (h2 : x'.ou = s.x.ou) : (⟨x', s.tt, some n, s.ot⟩ : Ps).ok ∧ (∀ t ∈ (⟨x', s.tt, some n, s.ot⟩ : Ps).toks, (t ∈ s.toks ∧ s.dt ≠ some t) ∨ t = n) := by
  have hnd := hok.nd
  simp only [Ps.toks] at hnd hn ⊢
  obtain ⟨a1, a2, a3⟩ := List.nodup_append.1 hnd
  obtain ⟨b1, b2, b3⟩ := List.nodup_append.1 a1
  refine ⟨⟨List.nodup_append.2 ⟨List.nodup_append.2 ⟨b1, by simp, fun a ha b hb e => ?_⟩, a2, fun a ha b hb e => ?_⟩, fun h => h1.trans (hok.t h), fun h => (by cases h), fun h => h2.trans (hok.o h)⟩, fun t ht => ?_⟩
  · simp only [Option.toList_some, List.mem_singleton] at hb
    subst hb; subst e
    exact hn (List.mem_append.2 (.inl (List.mem_append.2 (.inl ha))))
  · subst e
    rcases List.mem_append.1 ha with ha | ha
    · exact a3 a (List.mem_append.2 (.inl ha)) a hb rfl
    · simp only [Option.toList_some, List.mem_singleton] at ha
      subst ha
      exact hn (List.mem_append.2 (.inr hb))
  · rcases List.mem_append.1 ht with ht | ht
    · rcases List.mem_append.1 ht with ht | ht
      · exact .inl ⟨List.mem_append.2 (.inl (List.mem_append.2 (.inl ht))), fun e => b3 t ht t (by rw [e]; simp) rfl⟩
      · simp only [Option.toList_some, List.mem_singleton] at ht
        exact .inr ht
    · exact .inl ⟨List.mem_append.2 (.inr ht), fun e => a3 t (List.mem_append.2 (.inr (by rw [e]; simp))) t ht rfl⟩

theorem fs_inside {Gl : Gh → Prop} (hst : Stays Gl) {p : Nm} (hp : 1 ≤ p.1) {s : Ps} (hok : s.ok) (ht : ∀ t ∈ s.toks, 1 ≤ t.1) (hz : s.x.sz) {c : UInt8} : FSR Tryd.prog Gl 36 [.ptr p 0, .int .u8 (c.toNat : Int)] [(p, .cells s.c)] s.toks (PR p s.toks (nxv (s.x.inside c).1) (s.x.inside c).2) := by
  refine FSR.of hm hst is_hostParserinside (by simp) fun γ hγ hfr => ?_
  have htγ : ∀ t ∈ s.toks, 1 ≤ t.1 ∧ ∀ i j, t ≠ (γ, i, j) := fun t h => ⟨ht t h, fun i j e => hfr.2 t h (by rw [e])⟩
  clear hfr
  (generalize hQ : (fun (ex : Ex) (_ _ : Nat) (s : St) => _) = Q; unfold ir_hostParserinside)
  simp only [Ps.c]
  simp +contextual (maxSteps := 1000000) only [go_sem, reduceCtorEq, ↓reduceIte, Nat.reduceAdd, Nat.reduceEqDiff, Nat.reduceLeDiff, Nat.reduceMul, Nat.reduceBEq, Int.reduceBEq, Int.reduceBNe, Int.reduceLT, Int.reduceLE, Int.reduceGT, Int.reduceGE, Int.reduceToNat, Int.natCast_one, Int.natCast_zero, Int.cast_ofNat_Int]
  cases h1 : ((c.toNat : Int) == 7 && s.x.k == 4) with
  | true =>
    have e : s.x.inside c = (none, s.x.tell) := by simp only [Pp.inside, if_pos h1]
    simp +contextual (maxSteps := 1000000) only [go_sem, reduceCtorEq, ↓reduceIte, Nat.reduceAdd, Nat.reduceEqDiff, Nat.reduceLeDiff, Nat.reduceMul, Nat.reduceBEq, Int.reduceBEq, Int.reduceBNe, Int.reduceLT, Int.reduceLE, Int.reduceGT, Int.reduceGE, Int.reduceToNat, Int.natCast_one, Int.natCast_zero, Int.cast_ofNat_Int]
    refine PR.call (s := s) (fs_tell hst hp hok ht hz) hp (fun _ => rfl) hγ (fun _ h => h) (fun t h => ⟨ht t h, fun j => (htγ t h).2 _ _⟩) fun s' q1 q2 q3 => ?_
    simp +contextual (maxSteps := 1000000) only [go_sem, reduceCtorEq, ↓reduceIte, Nat.reduceAdd, Nat.reduceEqDiff, Nat.reduceLeDiff, Nat.reduceMul, Nat.reduceBEq, Int.reduceBEq, Int.reduceBNe, Int.reduceLT, Int.reduceLE, Int.reduceGT, Int.reduceGE, Int.reduceToNat, Int.natCast_one, Int.natCast_zero, Int.cast_ofNat_Int]
    rw [← hQ, e, ← q1]
    exact ⟨trivial, PR.behind rfl (fun _ => nxv_rn) (fun _ _ _ => nxv_ok) hp ht (by simp) q2 q3 fun _ h => h⟩
  | false =>
    simp +contextual (maxSteps := 1000000) only [go_sem, reduceCtorEq, ↓reduceIte, Nat.reduceAdd, Nat.reduceEqDiff, Nat.reduceLeDiff, Nat.reduceMul, Nat.reduceBEq, Int.reduceBEq, Int.reduceBNe, Int.reduceLT, Int.reduceLE, Int.reduceGT, Int.reduceGE, Int.reduceToNat, Int.natCast_one, Int.natCast_zero, Int.cast_ofNat_Int]
    cases h2 : (decide ((c.toNat : Int) < 32) || (c.toNat : Int) == 127) with
    | true =>
      have e : s.x.inside c = (some .inside, s.x) := by simp only [Pp.inside, h1, h2, if_true, Bool.false_eq_true, if_false]
      simp +contextual (maxSteps := 1000000) only [go_sem, reduceCtorEq, ↓reduceIte, Nat.reduceAdd, Nat.reduceEqDiff, Nat.reduceLeDiff, Nat.reduceMul, Nat.reduceBEq, Int.reduceBEq, Int.reduceBNe, Int.reduceLT, Int.reduceLE, Int.reduceGT, Int.reduceGE, Int.reduceToNat, Int.natCast_one, Int.natCast_zero, Int.cast_ofNat_Int]
      rw [← hQ, e]
      exact ⟨trivial, PR.same _ rfl (fun _ => nxv_rn) (fun _ _ _ => nxv_ok) hp hok ht (by simp [Ps.c]) rfl rfl rfl fun _ h => h⟩
    | false =>
      have hN : ∀ n : Nm, n.1 = γ → n ∉ s.toks := fun n e h => (htγ n h).2 n.2.1 n.2.2 (by rw [← e])
      have hl : ((s.x.da.length : Int) == 4096) = decide (s.x.da.length = 4096) := by rw [Bool.eq_iff_iff]; simp; omega
      cases h3 : (s.x.b || decide ((c.toNat : Int) ≥ 128) || (s.x.da.length : Int) == 4096) with
      | true =>
        have e : s.x.inside c = (some .inside, { s.x with b := true }) := by simp only [Pp.inside, h1, h2, h3, if_true, Bool.false_eq_true, if_false]
        cases hd : s.dt with
        | none =>
          have hd0 := hok.d hd
          have h3' : (s.x.b || decide ((c.toNat : Int) ≥ 128)) = true := by simpa [hd0] using h3
          simp +contextual (maxSteps := 1000000) only [bytesAV_len, h3', hd0, List.length_nil, Bool.or_false, go_sem, reduceCtorEq, ↓reduceIte, Nat.reduceAdd, Nat.reduceEqDiff, Nat.reduceLeDiff, Nat.reduceMul, Nat.reduceBEq, Int.reduceBEq, Int.reduceBNe, Int.reduceLT, Int.reduceLE, Int.reduceGT, Int.reduceGE, Int.reduceToNat, Int.natCast_one, Int.natCast_zero, Int.cast_ofNat_Int]
          rw [← hQ, e]
          exact ⟨trivial, PR.same _ rfl (fun _ => nxv_rn) (fun _ _ _ => nxv_ok) hp hok ht (by simp [Ps.c, hd, sv, nxv, Nx.f]) rfl rfl rfl fun _ h => h⟩
        | some d1 =>
          simp +contextual (maxSteps := 1000000) only [bytesAV_len, h3, go_sem, reduceCtorEq, ↓reduceIte, Nat.reduceAdd, Nat.reduceEqDiff, Nat.reduceLeDiff, Nat.reduceMul, Nat.reduceBEq, Int.reduceBEq, Int.reduceBNe, Int.reduceLT, Int.reduceLE, Int.reduceGT, Int.reduceGE, Int.reduceToNat, Int.natCast_one, Int.natCast_zero, Int.cast_ofNat_Int]
          rw [← hQ, e]
          exact ⟨trivial, PR.same _ rfl (fun _ => nxv_rn) (fun _ _ _ => nxv_ok) hp hok ht (by simp [Ps.c, hd, sv, nxv, Nx.f]) rfl rfl rfl fun _ h => h⟩
      | false =>
        have e : s.x.inside c = (some .inside, { s.x with b := false, da := s.x.da ++ [c] }) := by simp only [Pp.inside, h1, h2, h3, Bool.false_eq_true, if_false]
        have hfit : ((s.x.da.length + 1) * 1 ≤ 140737488355328) = True := by have := hz.da; simp only [eq_iff_iff, iff_true]; omega
        cases hd : s.dt with
        | none =>
          have hd0 := hok.d hd
          have h3' : (s.x.b || decide ((c.toNat : Int) ≥ 128)) = false := by simpa [hd0] using h3
          simp +contextual (maxSteps := 1000000) only [bytesAV_len, h3', hd0, List.length_nil, Bool.or_false, go_sem, reduceCtorEq, ↓reduceIte, Nat.reduceAdd, Nat.reduceEqDiff, Nat.reduceLeDiff, Nat.reduceMul, Nat.reduceBEq, Int.reduceBEq, Int.reduceBNe, Int.reduceLT, Int.reduceLE, Int.reduceGT, Int.reduceGE, Int.reduceToNat, Int.natCast_one, Int.natCast_zero, Int.cast_ofNat_Int]
          rw [← hQ, e]
          obtain ⟨k1, k2⟩ := Ps.newd (n := (γ, 51, 0)) hok (hN _ rfl) { s.x with b := false, da := s.x.da ++ [c] } rfl rfl
          refine ⟨trivial, PR.ret ⟨{ s.x with b := false, da := s.x.da ++ [c] }, s.tt, some (γ, 51, 0), s.ot⟩ rfl (fun _ => nxv_rn) (fun _ _ _ => nxv_ok) hp ht (by simp [Ps.c, hd0, bytesAV, nxv, Nx.f, sv]) k1 fun t h => ?_⟩
          rcases k2 t h with ⟨h, _⟩ | rfl
          · exact ⟨by simp [h], .inl h⟩
          · exact ⟨by simp, .inr (Nat.le_refl _)⟩
        | some d1 =>
          have hdT : d1 ∈ s.toks := by simp [Ps.toks, hd]
          simp +contextual (maxSteps := 1000000) only [bytesAV_len, h3, hfit, go_sem, reduceCtorEq, ↓reduceIte, Nat.reduceAdd, Nat.reduceEqDiff, Nat.reduceLeDiff, Nat.reduceMul, Nat.reduceBEq, Int.reduceBEq, Int.reduceBNe, Int.reduceLT, Int.reduceLE, Int.reduceGT, Int.reduceGE, Int.reduceToNat, Int.natCast_one, Int.natCast_zero, Int.cast_ofNat_Int]
          refine ⟨.inr hdT, ?_⟩
          rw [← hQ, e]
          obtain ⟨k1, k2⟩ := Ps.newd (n := (γ, 51, 0)) hok (hN _ rfl) { s.x with b := false, da := s.x.da ++ [c] } rfl rfl
          refine ⟨trivial, PR.ret ⟨{ s.x with b := false, da := s.x.da ++ [c] }, s.tt, some (γ, 51, 0), s.ot⟩ rfl (fun _ => nxv_rn) (fun _ _ _ => nxv_ok) hp ht (by simp [Ps.c, bytesAV, nxv, Nx.f, sv]) k1 fun t h => ?_⟩
          rcases k2 t h with ⟨h, h'⟩ | rfl
          · exact ⟨.inr ⟨.inr h, fun e => h' (by rw [hd, e])⟩, .inl h⟩
          · exact ⟨.inl rfl, .inr (Nat.le_refl _)⟩
end Go.Proofs.YtgdgfefojfgpaaaDoor

/- The parser of layer 5: heads. -/
set_option linter.unusedVariables false
set_option linter.unusedSimpArgs false
set_option maxRecDepth 100000
namespace Go.Proofs.YtgdgfefojfgpaaaDoor
open Go Go.Ab

def Pp.head (x : Pp) (c : UInt8) : Option Nx × Pp :=
  if (decide ((c.toNat : Int) < 32) || (c.toNat : Int) == 127) = true then (some .head, x)
  else if decide ((c.toNat : Int) ≥ 128) = true then (none, x.drop)
  else if decide ((c.toNat : Int) < 48) = true then (some .head, { x.inter c with f := false })
  else if decide ((c.toNat : Int) < 60) = true then (some .head, { x with b := x.b || !decide (x.it = []), tx := x.tx ++ [c], f := false })
  else if decide ((c.toNat : Int) < 64) = true then (some .head, { x with b := x.b || !x.f, pr := c.toNat, f := false })
  else if (x.k == 3) = true then (some .inside, { x with fi := c.toNat, r := true })
  else (none, ({ x with fi := c.toNat } : Pp).tell)

/-- A state with a new name for its text. -/
theorem Ps.newt {s : Ps} (hok : s.ok) {n : Nm} (hn : n ∉ s.toks) (x' : Pp) (h1 : x'.da = s.x.da) (h2 : x'.ou = s.x.ou) : (⟨x', some n, s.dt, s.ot⟩ : Ps).ok ∧ (∀ t ∈ (⟨x', some n, s.dt, s.ot⟩ : Ps).toks, (t ∈ s.toks ∧ s.tt ≠ some t) ∨ t = n) := by
  have hnd := hok.nd
  simp only [Ps.toks] at hnd hn ⊢
  obtain ⟨a1, a2, a3⟩ := List.nodup_append.1 hnd
  obtain ⟨b1, b2, b3⟩ := List.nodup_append.1 a1
  refine ⟨⟨List.nodup_append.2 ⟨List.nodup_append.2 ⟨by simp, b2, fun a ha b hb e => ?_⟩, a2, fun a ha b hb e => ?_⟩, fun h => (by cases h), fun h => h1.trans (hok.d h), fun h => h2.trans (hok.o h)⟩, fun t ht => ?_⟩
  · simp only [Option.toList_some, List.mem_singleton] at ha
    subst ha; subst e
    exact hn (List.mem_append.2 (.inl (List.mem_append.2 (.inr hb))))
  · subst e
    rcases List.mem_append.1 ha with ha | ha
    · simp only [Option.toList_some, List.mem_singleton] at ha
      subst ha
      exact hn (List.mem_append.2 (.inr hb))
    · exact a3 a (List.mem_append.2 (.inr ha)) a hb rfl
  · rcases List.mem_append.1 ht with ht | ht
    · rcases List.mem_append.1 ht with ht | ht
      · simp only [Option.toList_some, List.mem_singleton] at ht
        exact .inr ht
      · exact .inl ⟨List.mem_append.2 (.inl (List.mem_append.2 (.inr ht))), fun e => b3 t (by rw [e]; simp) t ht rfl⟩
    · exact .inl ⟨List.mem_append.2 (.inr ht), fun e => a3 t (List.mem_append.2 (.inl (by rw [e]; simp))) t ht rfl⟩

theorem fs_head {Gl : Gh → Prop} (hst : Stays Gl) {p : Nm} (hp : 1 ≤ p.1) {s : Ps} (hok : s.ok) (ht : ∀ t ∈ s.toks, 1 ≤ t.1) (hz : s.x.sz) {c : UInt8} : FSR Tryd.prog Gl 35 [.ptr p 0, .int .u8 (c.toNat : Int)] [(p, .cells s.c)] s.toks (PR p s.toks (nxv (s.x.head c).1) (s.x.head c).2) := by
  refine FSR.of hm hst is_hostParserhead (by simp) fun γ hγ hfr => ?_
  have htγ : ∀ t ∈ s.toks, 1 ≤ t.1 ∧ ∀ i j, t ≠ (γ, i, j) := fun t h => ⟨ht t h, fun i j e => hfr.2 t h (by rw [e])⟩
  have hN : ∀ n : Nm, n.1 = γ → n ∉ s.toks := fun n e h => (htγ n h).2 n.2.1 n.2.2 (by rw [← e])
  clear hfr
  (generalize hQ : (fun (ex : Ex) (_ _ : Nat) (s : St) => _) = Q; unfold ir_hostParserhead)
  simp only [Ps.c]
  simp +contextual (maxSteps := 1000000) only [go_sem, reduceCtorEq, ↓reduceIte, Nat.reduceAdd, Nat.reduceEqDiff, Nat.reduceLeDiff, Nat.reduceMul, Nat.reduceBEq, Int.reduceBEq, Int.reduceBNe, Int.reduceLT, Int.reduceLE, Int.reduceGT, Int.reduceGE, Int.reduceToNat, Int.natCast_one, Int.natCast_zero, Int.cast_ofNat_Int]
  cases h1 : (decide ((c.toNat : Int) < 32) || (c.toNat : Int) == 127) with
  | true =>
    have e : s.x.head c = (some .head, s.x) := by simp only [Pp.head, h1, if_true]
    simp +contextual (maxSteps := 1000000) only [go_sem, reduceCtorEq, ↓reduceIte, Nat.reduceAdd, Nat.reduceEqDiff, Nat.reduceLeDiff, Nat.reduceMul, Nat.reduceBEq, Int.reduceBEq, Int.reduceBNe, Int.reduceLT, Int.reduceLE, Int.reduceGT, Int.reduceGE, Int.reduceToNat, Int.natCast_one, Int.natCast_zero, Int.cast_ofNat_Int]
    rw [← hQ, e]
    exact ⟨trivial, PR.same _ rfl (fun _ => nxv_rn) (fun _ _ _ => nxv_ok) hp hok ht (by simp [Ps.c]) rfl rfl rfl fun _ h => h⟩
  | false =>
  simp +contextual (maxSteps := 1000000) only [go_sem, reduceCtorEq, ↓reduceIte, Nat.reduceAdd, Nat.reduceEqDiff, Nat.reduceLeDiff, Nat.reduceMul, Nat.reduceBEq, Int.reduceBEq, Int.reduceBNe, Int.reduceLT, Int.reduceLE, Int.reduceGT, Int.reduceGE, Int.reduceToNat, Int.natCast_one, Int.natCast_zero, Int.cast_ofNat_Int]
  cases h2 : decide ((c.toNat : Int) ≥ 128) with
  | true =>
    have e : s.x.head c = (none, s.x.drop) := by simp only [Pp.head, h1, h2, if_true, Bool.false_eq_true, if_false]
    simp +contextual (maxSteps := 1000000) only [go_sem, reduceCtorEq, ↓reduceIte, Nat.reduceAdd, Nat.reduceEqDiff, Nat.reduceLeDiff, Nat.reduceMul, Nat.reduceBEq, Int.reduceBEq, Int.reduceBNe, Int.reduceLT, Int.reduceLE, Int.reduceGT, Int.reduceGE, Int.reduceToNat, Int.natCast_one, Int.natCast_zero, Int.cast_ofNat_Int]
    refine PR.call (s := s) (fs_drop hst hp hok ht) hp (fun _ => rfl) hγ (fun _ h => h) (fun t h => ⟨ht t h, fun j => (htγ t h).2 _ _⟩) fun s' q1 q2 q3 => ?_
    simp +contextual (maxSteps := 1000000) only [go_sem, reduceCtorEq, ↓reduceIte, Nat.reduceAdd, Nat.reduceEqDiff, Nat.reduceLeDiff, Nat.reduceMul, Nat.reduceBEq, Int.reduceBEq, Int.reduceBNe, Int.reduceLT, Int.reduceLE, Int.reduceGT, Int.reduceGE, Int.reduceToNat, Int.natCast_one, Int.natCast_zero, Int.cast_ofNat_Int]
    rw [← hQ, e, ← q1]
    exact ⟨trivial, PR.behind rfl (fun _ => nxv_rn) (fun _ _ _ => nxv_ok) hp ht (by simp) q2 q3 fun _ h => h⟩
  | false =>
  simp +contextual (maxSteps := 1000000) only [go_sem, reduceCtorEq, ↓reduceIte, Nat.reduceAdd, Nat.reduceEqDiff, Nat.reduceLeDiff, Nat.reduceMul, Nat.reduceBEq, Int.reduceBEq, Int.reduceBNe, Int.reduceLT, Int.reduceLE, Int.reduceGT, Int.reduceGE, Int.reduceToNat, Int.natCast_one, Int.natCast_zero, Int.cast_ofNat_Int]
  cases h3 : decide ((c.toNat : Int) < 48) with
  | true =>
    have e : s.x.head c = (some .head, { s.x.inter c with f := false }) := by simp only [Pp.head, h1, h2, h3, if_true, Bool.false_eq_true, if_false]
    simp +contextual (maxSteps := 1000000) only [go_sem, reduceCtorEq, ↓reduceIte, Nat.reduceAdd, Nat.reduceEqDiff, Nat.reduceLeDiff, Nat.reduceMul, Nat.reduceBEq, Int.reduceBEq, Int.reduceBNe, Int.reduceLT, Int.reduceLE, Int.reduceGT, Int.reduceGE, Int.reduceToNat, Int.natCast_one, Int.natCast_zero, Int.cast_ofNat_Int]
    refine PR.call (s := s) (fs_inter hst hp hok ht hz.it) hp (fun _ => rfl) hγ (fun _ h => h) (fun t h => ⟨ht t h, fun j => (htγ t h).2 _ _⟩) fun s' q1 q2 q3 => ?_
    simp only [Ps.c]
    simp +contextual (maxSteps := 1000000) only [go_sem, reduceCtorEq, ↓reduceIte, Nat.reduceAdd, Nat.reduceEqDiff, Nat.reduceLeDiff, Nat.reduceMul, Nat.reduceBEq, Int.reduceBEq, Int.reduceBNe, Int.reduceLT, Int.reduceLE, Int.reduceGT, Int.reduceGE, Int.reduceToNat, Int.natCast_one, Int.natCast_zero, Int.cast_ofNat_Int]
    rw [← hQ, e, ← q1]
    exact ⟨trivial, PR.ret ⟨{ s'.x with f := false }, s'.tt, s'.dt, s'.ot⟩ rfl (fun _ => nxv_rn) (fun _ _ _ => nxv_ok) hp ht (by simp [Ps.c]) ⟨q2.nd, q2.t, q2.d, q2.o⟩ fun t h => ⟨h, (q3 t h).2.imp _root_.id fun e => Nat.le_of_eq e.symm⟩⟩
  | false =>
  simp +contextual (maxSteps := 1000000) only [go_sem, reduceCtorEq, ↓reduceIte, Nat.reduceAdd, Nat.reduceEqDiff, Nat.reduceLeDiff, Nat.reduceMul, Nat.reduceBEq, Int.reduceBEq, Int.reduceBNe, Int.reduceLT, Int.reduceLE, Int.reduceGT, Int.reduceGE, Int.reduceToNat, Int.natCast_one, Int.natCast_zero, Int.cast_ofNat_Int]
  cases h4 : decide ((c.toNat : Int) < 60) with
  | true =>
    have e : s.x.head c = (some .head, { s.x with b := s.x.b || !decide (s.x.it = []), tx := s.x.tx ++ [c], f := false }) := by simp only [Pp.head, h1, h2, h3, h4, if_true, Bool.false_eq_true, if_false]
    have hfit : ((s.x.tx.length + 1) * 1 ≤ 140737488355328) = True := by have := hz.tx; simp only [eq_iff_iff, iff_true]; omega
    cases hd : s.tt with
    | none =>
      have hd0 := hok.t hd
      simp +contextual (maxSteps := 1000000) only [bytesAV_len, go_sem, reduceCtorEq, ↓reduceIte, Nat.reduceAdd, Nat.reduceEqDiff, Nat.reduceLeDiff, Nat.reduceMul, Nat.reduceBEq, Int.reduceBEq, Int.reduceBNe, Int.reduceLT, Int.reduceLE, Int.reduceGT, Int.reduceGE, Int.reduceToNat, Int.natCast_one, Int.natCast_zero, Int.cast_ofNat_Int]
      rw [← hQ, e]
      obtain ⟨k1, k2⟩ := Ps.newt (n := (γ, 45, 0)) hok (hN _ rfl) { s.x with b := s.x.b || !decide (s.x.it = []), tx := s.x.tx ++ [c], f := false } rfl rfl
      refine ⟨trivial, PR.ret ⟨{ s.x with b := s.x.b || !decide (s.x.it = []), tx := s.x.tx ++ [c], f := false }, some (γ, 45, 0), s.dt, s.ot⟩ rfl (fun _ => nxv_rn) (fun _ _ _ => nxv_ok) hp ht (by simp [Ps.c, hd0, bytesAV, sv]) k1 fun t h => ?_⟩
      rcases k2 t h with ⟨h, _⟩ | rfl
      · exact ⟨.inr (.inr h), .inl h⟩
      · exact ⟨.inl rfl, .inr (Nat.le_refl _)⟩
    | some t1 =>
      have hdT : t1 ∈ s.toks := by simp [Ps.toks, hd]
      simp +contextual (maxSteps := 1000000) only [bytesAV_len, hfit, go_sem, reduceCtorEq, ↓reduceIte, Nat.reduceAdd, Nat.reduceEqDiff, Nat.reduceLeDiff, Nat.reduceMul, Nat.reduceBEq, Int.reduceBEq, Int.reduceBNe, Int.reduceLT, Int.reduceLE, Int.reduceGT, Int.reduceGE, Int.reduceToNat, Int.natCast_one, Int.natCast_zero, Int.cast_ofNat_Int]
      refine ⟨.inr hdT, ?_⟩
      rw [← hQ, e]
      obtain ⟨k1, k2⟩ := Ps.newt (n := (γ, 45, 0)) hok (hN _ rfl) { s.x with b := s.x.b || !decide (s.x.it = []), tx := s.x.tx ++ [c], f := false } rfl rfl
      refine ⟨trivial, PR.ret ⟨{ s.x with b := s.x.b || !decide (s.x.it = []), tx := s.x.tx ++ [c], f := false }, some (γ, 45, 0), s.dt, s.ot⟩ rfl (fun _ => nxv_rn) (fun _ _ _ => nxv_ok) hp ht (by simp [Ps.c, bytesAV, sv]) k1 fun t h => ?_⟩
      rcases k2 t h with ⟨h, h'⟩ | rfl
      · exact ⟨.inr ⟨.inr h, fun e => h' (by rw [hd, e])⟩, .inl h⟩
      · exact ⟨.inl rfl, .inr (Nat.le_refl _)⟩
  | false =>
  simp +contextual (maxSteps := 1000000) only [go_sem, reduceCtorEq, ↓reduceIte, Nat.reduceAdd, Nat.reduceEqDiff, Nat.reduceLeDiff, Nat.reduceMul, Nat.reduceBEq, Int.reduceBEq, Int.reduceBNe, Int.reduceLT, Int.reduceLE, Int.reduceGT, Int.reduceGE, Int.reduceToNat, Int.natCast_one, Int.natCast_zero, Int.cast_ofNat_Int]
  cases h5 : decide ((c.toNat : Int) < 64) with
  | true =>
    have e : s.x.head c = (some .head, { s.x with b := s.x.b || !s.x.f, pr := c.toNat, f := false }) := by simp only [Pp.head, h1, h2, h3, h4, h5, if_true, Bool.false_eq_true, if_false]
    simp +contextual (maxSteps := 1000000) only [go_sem, reduceCtorEq, ↓reduceIte, Nat.reduceAdd, Nat.reduceEqDiff, Nat.reduceLeDiff, Nat.reduceMul, Nat.reduceBEq, Int.reduceBEq, Int.reduceBNe, Int.reduceLT, Int.reduceLE, Int.reduceGT, Int.reduceGE, Int.reduceToNat, Int.natCast_one, Int.natCast_zero, Int.cast_ofNat_Int]
    rw [← hQ, e]
    exact ⟨trivial, PR.same _ rfl (fun _ => nxv_rn) (fun _ _ _ => nxv_ok) hp hok ht (by simp [Ps.c]) rfl rfl rfl fun _ h => h⟩
  | false =>
  simp +contextual (maxSteps := 1000000) only [go_sem, reduceCtorEq, ↓reduceIte, Nat.reduceAdd, Nat.reduceEqDiff, Nat.reduceLeDiff, Nat.reduceMul, Nat.reduceBEq, Int.reduceBEq, Int.reduceBNe, Int.reduceLT, Int.reduceLE, Int.reduceGT, Int.reduceGE, Int.reduceToNat, Int.natCast_one, Int.natCast_zero, Int.cast_ofNat_Int]
  cases h6 : (s.x.k == 3) with
  | true =>
    have e : s.x.head c = (some .inside, { s.x with fi := c.toNat, r := true }) := by simp only [Pp.head, h1, h2, h3, h4, h5, h6, if_true, Bool.false_eq_true, if_false]
    simp +contextual (maxSteps := 1000000) only [go_sem, reduceCtorEq, ↓reduceIte, Nat.reduceAdd, Nat.reduceEqDiff, Nat.reduceLeDiff, Nat.reduceMul, Nat.reduceBEq, Int.reduceBEq, Int.reduceBNe, Int.reduceLT, Int.reduceLE, Int.reduceGT, Int.reduceGE, Int.reduceToNat, Int.natCast_one, Int.natCast_zero, Int.cast_ofNat_Int]
    rw [← hQ, e]
    exact ⟨trivial, PR.same _ rfl (fun _ => nxv_rn) (fun _ _ _ => nxv_ok) hp hok ht (by simp [Ps.c]) rfl rfl rfl fun _ h => h⟩
  | false =>
    have e : s.x.head c = (none, ({ s.x with fi := c.toNat } : Pp).tell) := by simp only [Pp.head, h1, h2, h3, h4, h5, h6, Bool.false_eq_true, if_false]
    have hz' : ({ s.x with fi := c.toNat } : Pp).sz := ⟨hz.tx, hz.it, hz.da, by simp at h2 ⊢; omega, hz.ou⟩
    simp +contextual (maxSteps := 1000000) only [go_sem, reduceCtorEq, ↓reduceIte, Nat.reduceAdd, Nat.reduceEqDiff, Nat.reduceLeDiff, Nat.reduceMul, Nat.reduceBEq, Int.reduceBEq, Int.reduceBNe, Int.reduceLT, Int.reduceLE, Int.reduceGT, Int.reduceGE, Int.reduceToNat, Int.natCast_one, Int.natCast_zero, Int.cast_ofNat_Int]
    refine PR.call (s := ⟨{ s.x with fi := c.toNat }, s.tt, s.dt, s.ot⟩) (fs_tell hst hp ⟨hok.nd, hok.t, hok.d, hok.o⟩ ht hz') hp (fun _ => rfl) hγ (fun _ h => h) (fun t h => ⟨ht t h, fun j => (htγ t h).2 _ _⟩) fun s' q1 q2 q3 => ?_
    simp +contextual (maxSteps := 1000000) only [go_sem, reduceCtorEq, ↓reduceIte, Nat.reduceAdd, Nat.reduceEqDiff, Nat.reduceLeDiff, Nat.reduceMul, Nat.reduceBEq, Int.reduceBEq, Int.reduceBNe, Int.reduceLT, Int.reduceLE, Int.reduceGT, Int.reduceGE, Int.reduceToNat, Int.natCast_one, Int.natCast_zero, Int.cast_ofNat_Int]
    rw [← hQ, e, ← q1]
    exact ⟨trivial, PR.behind rfl (fun _ => nxv_rn) (fun _ _ _ => nxv_ok) hp ht (by simp) q2 q3 fun _ h => h⟩
end Go.Proofs.YtgdgfefojfgpaaaDoor

/- The parser of layer 5: behind an escape byte; in a string's end; a byte. -/
set_option linter.unusedVariables false
set_option linter.unusedSimpArgs false
set_option maxRecDepth 100000
namespace Go.Proofs.YtgdgfefojfgpaaaDoor
open Go Go.Ab

def Pp.behind (x : Pp) (c : UInt8) : Option Nx × Pp :=
  if (decide ((c.toNat : Int) < 32) || (c.toNat : Int) == 127) = true then (some .behind, x)
  else if decide ((c.toNat : Int) ≥ 128) = true then (none, x.drop)
  else if decide ((c.toNat : Int) < 48) = true then (some .behind, x.inter c)
  else if (!decide (x.it = []) || !([91, 80, 93, 88, 94, 95] : List UInt8).contains c) = true then (none, ({ x with k := 5, fi := c.toNat } : Pp).tell)
  else x.opened c.toNat

theorem fs_behind {Gl : Gh → Prop} (hst : Stays Gl) {p : Nm} (hp : 1 ≤ p.1) {s : Ps} (hok : s.ok) (ht : ∀ t ∈ s.toks, 1 ≤ t.1) (hz : s.x.sz) {c : UInt8} : FSR Tryd.prog Gl 20 [.ptr p 0, .int .u8 (c.toNat : Int)] [(p, .cells s.c)] s.toks (PR p s.toks (nxv (s.x.behind c).1) (s.x.behind c).2) := by
  refine FSR.of hm hst is_hostParserbehind (by simp) fun γ hγ hfr => ?_
  have htγ : ∀ t ∈ s.toks, 1 ≤ t.1 ∧ ∀ i j, t ≠ (γ, i, j) := fun t h => ⟨ht t h, fun i j e => hfr.2 t h (by rw [e])⟩
  clear hfr
  (generalize hQ : (fun (ex : Ex) (_ _ : Nat) (s : St) => _) = Q; unfold ir_hostParserbehind)
  simp only [Ps.c]
  simp +contextual (maxSteps := 1000000) only [go_sem, reduceCtorEq, ↓reduceIte, Nat.reduceAdd, Nat.reduceEqDiff, Nat.reduceLeDiff, Nat.reduceMul, Nat.reduceBEq, Int.reduceBEq, Int.reduceBNe, Int.reduceLT, Int.reduceLE, Int.reduceGT, Int.reduceGE, Int.reduceToNat, Int.natCast_one, Int.natCast_zero, Int.cast_ofNat_Int]
  cases h1 : (decide ((c.toNat : Int) < 32) || (c.toNat : Int) == 127) with
  | true =>
    have e : s.x.behind c = (some .behind, s.x) := by simp only [Pp.behind, h1, if_true]
    simp +contextual (maxSteps := 1000000) only [go_sem, reduceCtorEq, ↓reduceIte, Nat.reduceAdd, Nat.reduceEqDiff, Nat.reduceLeDiff, Nat.reduceMul, Nat.reduceBEq, Int.reduceBEq, Int.reduceBNe, Int.reduceLT, Int.reduceLE, Int.reduceGT, Int.reduceGE, Int.reduceToNat, Int.natCast_one, Int.natCast_zero, Int.cast_ofNat_Int]
    rw [← hQ, e]
    exact ⟨trivial, PR.same _ rfl (fun _ => nxv_rn) (fun _ _ _ => nxv_ok) hp hok ht (by simp [Ps.c]) rfl rfl rfl fun _ h => h⟩
  | false =>
  simp +contextual (maxSteps := 1000000) only [go_sem, reduceCtorEq, ↓reduceIte, Nat.reduceAdd, Nat.reduceEqDiff, Nat.reduceLeDiff, Nat.reduceMul, Nat.reduceBEq, Int.reduceBEq, Int.reduceBNe, Int.reduceLT, Int.reduceLE, Int.reduceGT, Int.reduceGE, Int.reduceToNat, Int.natCast_one, Int.natCast_zero, Int.cast_ofNat_Int]
  cases h2 : decide ((c.toNat : Int) ≥ 128) with
  | true =>
    have e : s.x.behind c = (none, s.x.drop) := by simp only [Pp.behind, h1, h2, if_true, Bool.false_eq_true, if_false]
    simp +contextual (maxSteps := 1000000) only [go_sem, reduceCtorEq, ↓reduceIte, Nat.reduceAdd, Nat.reduceEqDiff, Nat.reduceLeDiff, Nat.reduceMul, Nat.reduceBEq, Int.reduceBEq, Int.reduceBNe, Int.reduceLT, Int.reduceLE, Int.reduceGT, Int.reduceGE, Int.reduceToNat, Int.natCast_one, Int.natCast_zero, Int.cast_ofNat_Int]
    refine PR.call (s := s) (fs_drop hst hp hok ht) hp (fun _ => rfl) hγ (fun _ h => h) (fun t h => ⟨ht t h, fun j => (htγ t h).2 _ _⟩) fun s' q1 q2 q3 => ?_
    simp +contextual (maxSteps := 1000000) only [go_sem, reduceCtorEq, ↓reduceIte, Nat.reduceAdd, Nat.reduceEqDiff, Nat.reduceLeDiff, Nat.reduceMul, Nat.reduceBEq, Int.reduceBEq, Int.reduceBNe, Int.reduceLT, Int.reduceLE, Int.reduceGT, Int.reduceGE, Int.reduceToNat, Int.natCast_one, Int.natCast_zero, Int.cast_ofNat_Int]
    rw [← hQ, e, ← q1]
    exact ⟨trivial, PR.behind rfl (fun _ => nxv_rn) (fun _ _ _ => nxv_ok) hp ht (by simp) q2 q3 fun _ h => h⟩
  | false =>
  simp +contextual (maxSteps := 1000000) only [go_sem, reduceCtorEq, ↓reduceIte, Nat.reduceAdd, Nat.reduceEqDiff, Nat.reduceLeDiff, Nat.reduceMul, Nat.reduceBEq, Int.reduceBEq, Int.reduceBNe, Int.reduceLT, Int.reduceLE, Int.reduceGT, Int.reduceGE, Int.reduceToNat, Int.natCast_one, Int.natCast_zero, Int.cast_ofNat_Int]
  cases h3 : decide ((c.toNat : Int) < 48) with
  | true =>
    have e : s.x.behind c = (some .behind, s.x.inter c) := by simp only [Pp.behind, h1, h2, h3, if_true, Bool.false_eq_true, if_false]
    simp +contextual (maxSteps := 1000000) only [go_sem, reduceCtorEq, ↓reduceIte, Nat.reduceAdd, Nat.reduceEqDiff, Nat.reduceLeDiff, Nat.reduceMul, Nat.reduceBEq, Int.reduceBEq, Int.reduceBNe, Int.reduceLT, Int.reduceLE, Int.reduceGT, Int.reduceGE, Int.reduceToNat, Int.natCast_one, Int.natCast_zero, Int.cast_ofNat_Int]
    refine PR.call (s := s) (fs_inter hst hp hok ht hz.it) hp (fun _ => rfl) hγ (fun _ h => h) (fun t h => ⟨ht t h, fun j => (htγ t h).2 _ _⟩) fun s' q1 q2 q3 => ?_
    simp +contextual (maxSteps := 1000000) only [go_sem, reduceCtorEq, ↓reduceIte, Nat.reduceAdd, Nat.reduceEqDiff, Nat.reduceLeDiff, Nat.reduceMul, Nat.reduceBEq, Int.reduceBEq, Int.reduceBNe, Int.reduceLT, Int.reduceLE, Int.reduceGT, Int.reduceGE, Int.reduceToNat, Int.natCast_one, Int.natCast_zero, Int.cast_ofNat_Int]
    rw [← hQ, e, ← q1]
    exact ⟨trivial, PR.behind rfl (fun _ => nxv_rn) (fun _ _ _ => nxv_ok) hp ht (by simp) q2 q3 fun _ h => h⟩
  | false =>
  have hlt : (c.toNat : Int) < 128 := by simpa using h2
  have hw : IntKind.i32.wrap (c.toNat : Int) = c.toNat := by rw [IntKind.wrap_i32]; omega
  have hcall : FS Tryd.prog Gl 29 [.str [91, 80, 93, 88, 94, 95], .int .i32 (c.toNat : Int)] [] [] (.bool (([91, 80, 93, 88, 94, 95] : List UInt8).contains c)) [] [] := by
    have := fs_ContainsRune (Gl := Gl) (s := [91, 80, 93, 88, 94, 95]) (r := (c.toNat : Int)) (by omega) hlt
    simpa using this
  obtain ⟨cr, hcr⟩ : ∃ cr, ([91, 80, 93, 88, 94, 95] : List UInt8).contains c = cr := ⟨_, rfl⟩
  rw [hcr] at hcall
  simp +contextual (maxSteps := 1000000) only [hw, go_sem, reduceCtorEq, ↓reduceIte, Nat.reduceAdd, Nat.reduceEqDiff, Nat.reduceLeDiff, Nat.reduceMul, Nat.reduceBEq, Int.reduceBEq, Int.reduceBNe, Int.reduceLT, Int.reduceLE, Int.reduceGT, Int.reduceGE, Int.reduceToNat, Int.natCast_one, Int.natCast_zero, Int.cast_ofNat_Int]
  (refine kGc_call (hcall) (fun _ => rfl) (fun hgc => ?_) ?_; (focus (first | (rw [Bool.not_eq_true'] at hgc; simp only [List.map_cons, List.map_nil, List.nil_append, List.append_nil, List.cons_append, Xev_t, Xev_c, upd_app, lf_cons, lf_nil, Nat.reduceEqDiff, ↓reduceIte, hgc, Bool.false_eq_true, Bool.true_eq_false, reduceCtorEq]; done) | (simp only [List.map_cons, List.map_nil, List.nil_append, List.append_nil, List.cons_append, Xev_t, Xev_c, upd_app, lf_cons, lf_nil, Nat.reduceEqDiff, ↓reduceIte, hgc, Bool.false_eq_true, Bool.true_eq_false, reduceCtorEq]; done) | (revert hgc; simp +contextual [Xev_t, Xev_c, upd_app, lf_cons, lf_nil]; done) | simp [Xev_t, Xev_c, upd_app, lf_cons, lf_nil])); simp +contextual (maxSteps := 1000000) only [hw, go_sem, reduceCtorEq, ↓reduceIte, Nat.reduceAdd, Nat.reduceEqDiff, Nat.reduceLeDiff, Nat.reduceMul, Nat.reduceBEq, Int.reduceBEq, Int.reduceBNe, Int.reduceLT, Int.reduceLE, Int.reduceGT, Int.reduceGE, Int.reduceToNat, Int.natCast_one, Int.natCast_zero, Int.cast_ofNat_Int])
  cases h4 : (!decide (s.x.it = []) || !cr) with
  | true =>
    have e : s.x.behind c = (none, ({ s.x with k := 5, fi := c.toNat } : Pp).tell) := by simp only [Pp.behind, h1, h2, h3, hcr, h4, if_true, Bool.false_eq_true, if_false]
    have hz' : ({ s.x with k := 5, fi := c.toNat } : Pp).sz := ⟨hz.tx, hz.it, hz.da, ⟨by simp only; omega, hlt⟩, hz.ou⟩
    simp +contextual (maxSteps := 1000000) only [go_sem, reduceCtorEq, ↓reduceIte, Nat.reduceAdd, Nat.reduceEqDiff, Nat.reduceLeDiff, Nat.reduceMul, Nat.reduceBEq, Int.reduceBEq, Int.reduceBNe, Int.reduceLT, Int.reduceLE, Int.reduceGT, Int.reduceGE, Int.reduceToNat, Int.natCast_one, Int.natCast_zero, Int.cast_ofNat_Int]
    refine PR.call (s := ⟨{ s.x with k := 5, fi := c.toNat }, s.tt, s.dt, s.ot⟩) (fs_tell hst hp ⟨hok.nd, hok.t, hok.d, hok.o⟩ ht hz') hp (fun _ => rfl) hγ (fun _ h => h) (fun t h => ⟨ht t h, fun j => (htγ t h).2 _ _⟩) fun s' q1 q2 q3 => ?_
    simp +contextual (maxSteps := 1000000) only [go_sem, reduceCtorEq, ↓reduceIte, Nat.reduceAdd, Nat.reduceEqDiff, Nat.reduceLeDiff, Nat.reduceMul, Nat.reduceBEq, Int.reduceBEq, Int.reduceBNe, Int.reduceLT, Int.reduceLE, Int.reduceGT, Int.reduceGE, Int.reduceToNat, Int.natCast_one, Int.natCast_zero, Int.cast_ofNat_Int]
    rw [← hQ, e, ← q1]
    exact ⟨trivial, PR.behind rfl (fun _ => nxv_rn) (fun _ _ _ => nxv_ok) hp ht (by simp) q2 q3 fun _ h => h⟩
  | false =>
    have e : s.x.behind c = s.x.opened c.toNat := by simp only [Pp.behind, h1, h2, h3, hcr, h4, Bool.false_eq_true, if_false]
    simp +contextual (maxSteps := 1000000) only [go_sem, reduceCtorEq, ↓reduceIte, Nat.reduceAdd, Nat.reduceEqDiff, Nat.reduceLeDiff, Nat.reduceMul, Nat.reduceBEq, Int.reduceBEq, Int.reduceBNe, Int.reduceLT, Int.reduceLE, Int.reduceGT, Int.reduceGE, Int.reduceToNat, Int.natCast_one, Int.natCast_zero, Int.cast_ofNat_Int]
    refine PR.call (s := s) (fs_opened hst hp hok ht) hp (fun _ => nxv_rn) hγ (fun _ h => h) (fun t h => ⟨ht t h, fun j => (htγ t h).2 _ _⟩) fun s' q1 q2 q3 => ?_
    simp +contextual (maxSteps := 1000000) only [go_sem, reduceCtorEq, ↓reduceIte, Nat.reduceAdd, Nat.reduceEqDiff, Nat.reduceLeDiff, Nat.reduceMul, Nat.reduceBEq, Int.reduceBEq, Int.reduceBNe, Int.reduceLT, Int.reduceLE, Int.reduceGT, Int.reduceGE, Int.reduceToNat, Int.natCast_one, Int.natCast_zero, Int.cast_ofNat_Int]
    rw [← hQ, e, ← q1]
    exact ⟨trivial, PR.behind rfl (fun _ => nxv_rn) (fun _ _ _ => nxv_ok) hp ht (by simp) q2 q3 fun _ h => h⟩

def Pp.ending (x : Pp) (c : UInt8) : Option Nx × Pp :=
  if ((c.toNat : Int) == 92) = true then (none, x.tell) else x.drop.behind c

theorem drop_sz {x : Pp} (h : x.sz) : x.drop.sz := ⟨by simp [Pp.drop, Pp.zero], by simp [Pp.drop, Pp.zero], by simp [Pp.drop, Pp.zero], by simp [Pp.drop, Pp.zero], h.ou⟩
theorem fs_ending {Gl : Gh → Prop} (hst : Stays Gl) {p : Nm} (hp : 1 ≤ p.1) {s : Ps} (hok : s.ok) (ht : ∀ t ∈ s.toks, 1 ≤ t.1) (hz : s.x.sz) {c : UInt8} : FSR Tryd.prog Gl 19 [.ptr p 0, .int .u8 (c.toNat : Int)] [(p, .cells s.c)] s.toks (PR p s.toks (nxv (s.x.ending c).1) (s.x.ending c).2) := by
  refine FSR.of hm hst is_hostParserending (by simp) fun γ hγ hfr => ?_
  have htγ : ∀ t ∈ s.toks, 1 ≤ t.1 ∧ ∀ i j, t ≠ (γ, i, j) := fun t h => ⟨ht t h, fun i j e => hfr.2 t h (by rw [e])⟩
  clear hfr
  (generalize hQ : (fun (ex : Ex) (_ _ : Nat) (s : St) => _) = Q; unfold ir_hostParserending)
  simp +contextual (maxSteps := 1000000) only [go_sem, reduceCtorEq, ↓reduceIte, Nat.reduceAdd, Nat.reduceEqDiff, Nat.reduceLeDiff, Nat.reduceMul, Nat.reduceBEq, Int.reduceBEq, Int.reduceBNe, Int.reduceLT, Int.reduceLE, Int.reduceGT, Int.reduceGE, Int.reduceToNat, Int.natCast_one, Int.natCast_zero, Int.cast_ofNat_Int]
  cases h1 : ((c.toNat : Int) == 92) with
  | true =>
    have e : s.x.ending c = (none, s.x.tell) := by simp only [Pp.ending, h1, if_true]
    simp +contextual (maxSteps := 1000000) only [go_sem, reduceCtorEq, ↓reduceIte, Nat.reduceAdd, Nat.reduceEqDiff, Nat.reduceLeDiff, Nat.reduceMul, Nat.reduceBEq, Int.reduceBEq, Int.reduceBNe, Int.reduceLT, Int.reduceLE, Int.reduceGT, Int.reduceGE, Int.reduceToNat, Int.natCast_one, Int.natCast_zero, Int.cast_ofNat_Int]
    refine PR.call (s := s) (fs_tell hst hp hok ht hz) hp (fun _ => rfl) hγ (fun _ h => h) (fun t h => ⟨ht t h, fun j => (htγ t h).2 _ _⟩) fun s' q1 q2 q3 => ?_
    simp +contextual (maxSteps := 1000000) only [go_sem, reduceCtorEq, ↓reduceIte, Nat.reduceAdd, Nat.reduceEqDiff, Nat.reduceLeDiff, Nat.reduceMul, Nat.reduceBEq, Int.reduceBEq, Int.reduceBNe, Int.reduceLT, Int.reduceLE, Int.reduceGT, Int.reduceGE, Int.reduceToNat, Int.natCast_one, Int.natCast_zero, Int.cast_ofNat_Int]
    rw [← hQ, e, ← q1]
    exact ⟨trivial, PR.behind rfl (fun _ => nxv_rn) (fun _ _ _ => nxv_ok) hp ht (by simp) q2 q3 fun _ h => h⟩
  | false =>
    have e : s.x.ending c = s.x.drop.behind c := by simp only [Pp.ending, h1, Bool.false_eq_true, if_false]
    simp +contextual (maxSteps := 1000000) only [go_sem, reduceCtorEq, ↓reduceIte, Nat.reduceAdd, Nat.reduceEqDiff, Nat.reduceLeDiff, Nat.reduceMul, Nat.reduceBEq, Int.reduceBEq, Int.reduceBNe, Int.reduceLT, Int.reduceLE, Int.reduceGT, Int.reduceGE, Int.reduceToNat, Int.natCast_one, Int.natCast_zero, Int.cast_ofNat_Int]
    refine PR.callI (Ha := []) (s := s) (fs_drop hst hp hok ht) hp (fun _ => rfl) hγ (fun _ h => h) (fun t h => ⟨ht t h, fun j => (htγ t h).2 _ _⟩) (by simp) fun s1 q1 q2 q3 => ?_
    simp +contextual (maxSteps := 1000000) only [go_sem, reduceCtorEq, ↓reduceIte, Nat.reduceAdd, Nat.reduceEqDiff, Nat.reduceLeDiff, Nat.reduceMul, Nat.reduceBEq, Int.reduceBEq, Int.reduceBNe, Int.reduceLT, Int.reduceLE, Int.reduceGT, Int.reduceGE, Int.reduceToNat, Int.natCast_one, Int.natCast_zero, Int.cast_ofNat_Int]
    refine PR.call (s := s1) (fs_behind hst hp q2 (fun t h => (q3 t h).1) (by rw [q1]; exact drop_sz hz)) hp (fun _ => nxv_rn) hγ (fun _ h => h) (fun t h => ⟨(q3 t h).1, fun j e => ?_⟩) fun s' r1 r2 r3 => ?_
    · rcases (q3 t h).2 with h | ⟨_, h⟩
      · exact (htγ t h).2 _ _ e
      · rw [e] at h; simp at h
    simp +contextual (maxSteps := 1000000) only [go_sem, reduceCtorEq, ↓reduceIte, Nat.reduceAdd, Nat.reduceEqDiff, Nat.reduceLeDiff, Nat.reduceMul, Nat.reduceBEq, Int.reduceBEq, Int.reduceBNe, Int.reduceLT, Int.reduceLE, Int.reduceGT, Int.reduceGE, Int.reduceToNat, Int.natCast_one, Int.natCast_zero, Int.cast_ofNat_Int]
    rw [← hQ, e, ← q1, ← r1]
    refine ⟨trivial, PR.behind rfl (fun _ => nxv_rn) (fun _ _ _ => nxv_ok) hp ht (by simp) r2 (fun t h => ⟨(r3 t h).1, ?_⟩) fun _ h => h⟩
    rcases (r3 t h).2 with h | h
    · exact (q3 t h).2.imp _root_.id And.left
    · exact .inr h
end Go.Proofs.YtgdgfefojfgpaaaDoor

/- The parser of layer 5: a byte, and bytes. -/
set_option linter.unusedVariables false
set_option linter.unusedSimpArgs false
set_option maxRecDepth 100000
namespace Go.Proofs.YtgdgfefojfgpaaaDoor
open Go Go.Ab
/- (*clavier/host.Parser).Feed -/
def ir_hostParserFeed_l0 : ICode :=
 (.seq
        (.reg [⟨some 14, none, .bin .lss .none (.t 13) (.t 12)⟩] (some [0, 11, 12, 13, 14]))
        (.seq
         (.cond (.t 14)
          .skip
          (.exit 0))
         (.seq
          (.blk 1
           (.seq
            (.reg [⟨some 15, none, .ia 1 (.t 11) (.t 13)⟩,
              ⟨some 16, none, .ld none (.t 15)⟩,
              ⟨some 6, none, .mov (.t 16)⟩] (some [0, 6, 11, 12, 13]))
            (.seq
             (.reg [⟨some 17, none, .mov (.t 0)⟩,
               ⟨some 18, none, .mov (.t 6)⟩,
               ⟨some 19, none, .call (.c (.fn (.func 14) [] [])) [(.t 17), (.t 18)]⟩,
               ⟨some 7, none, .mov (.t 19)⟩] (some [0, 7, 11, 12, 13]))
             (.reg [⟨some 20, none, .mov (.t 0)⟩,
               ⟨some 21, none, .mov (.t 7)⟩,
               ⟨some 22, none, .nck (.t 20)⟩,
               ⟨some 23, none, .fa 0 (.t 22)⟩,
               ⟨none, none, .st 1 (.t 23) (.t 21)⟩] (some [0, 11, 12, 13])))))
          (.reg [⟨some 24, none, .bin .add .none (.t 13) (.c (.int .i64 1))⟩,
            ⟨some 13, none, .mov (.t 24)⟩] (some [0, 11, 12, 13])))))
def ir_hostParserFeed_t5 : ICode :=
 (.seq
  (.reg [⟨some 32, none, .mov (.t 8)⟩,
         ⟨some 4, none, .mov (.t 32)⟩] (some [4]))
  .ret)
def ir_hostParserFeed_t4 : ICode :=
 (.seq
  (.reg [⟨some 29, none, .mov (.t 0)⟩,
        ⟨some 30, none, .nck (.t 29)⟩,
        ⟨some 31, none, .fa 12 (.t 30)⟩,
        ⟨none, none, .st 1 (.t 31) (.c .nils)⟩] (some [8]))
  ir_hostParserFeed_t5)
def ir_hostParserFeed_t3 : ICode :=
 (.seq
  (.reg [⟨some 25, none, .mov (.t 0)⟩,
       ⟨some 26, none, .nck (.t 25)⟩,
       ⟨some 27, none, .fa 12 (.t 26)⟩,
       ⟨some 28, none, .ld none (.t 27)⟩,
       ⟨some 8, none, .mov (.t 28)⟩] (some [0, 8]))
  ir_hostParserFeed_t4)
def ir_hostParserFeed_t2 : ICode :=
 (.seq
  (.seq
     (.reg [⟨some 11, none, .mov (.t 1)⟩,
       ⟨some 12, none, .len (.t 11)⟩,
       ⟨some 13, none, .mov (.c (.int .i64 0))⟩] (some [0, 11, 12, 13]))
     (.blk 0
      (.loop
       ir_hostParserFeed_l0)))
  ir_hostParserFeed_t3)
def ir_hostParserFeed_t1 : ICode :=
 (.seq
  (.seq
    (.reg [⟨some 9, none, .mov (.t 0)⟩,
      ⟨some 10, none, .bin .eql .ptr (.t 9) (.c .nilp)⟩] (some [0, 1, 10]))
    (.cond (.t 10)
     (.seq
      (.reg [⟨some 4, none, .mov (.c .nils)⟩] (some [4]))
      .ret)
     .skip))
  ir_hostParserFeed_t2)
def ir_hostParserFeed : ICode :=
 (.seq
  (.reg [⟨some 4, none, .mov (.c .nils)⟩] (some [0, 1]))
  ir_hostParserFeed_t1)
theorem is_hostParserFeed : IrOf Tryd.prog 9 33 ir_hostParserFeed [.t 4] := ⟨_, Tryd.func9, rfl, by kernel_rfl, by kernel_rfl, by kernel_rfl⟩


def Pp.call (x : Pp) (n : Nx) (c : UInt8) : Option Nx × Pp := match n with
  | .behind => x.behind c
  | .head => x.head c
  | .inside => x.inside c
  | .unread => (some .unread, x)
  | .ending => x.ending c
theorem fs_call {Gl : Gh → Prop} (hst : Stays Gl) {p : Nm} (hp : 1 ≤ p.1) {s : Ps} (hok : s.ok) (ht : ∀ t ∈ s.toks, 1 ≤ t.1) (hz : s.x.sz) {c : UInt8} (n : Nx) : FSR Tryd.prog Gl n.f [.ptr p 0, .int .u8 (c.toNat : Int)] [(p, .cells s.c)] s.toks (PR p s.toks (nxv (s.x.call n c).1) (s.x.call n c).2) := by
  cases n with
  | behind => exact fs_behind hst hp hok ht hz
  | head => exact fs_head hst hp hok ht hz
  | inside => exact fs_inside hst hp hok ht hz
  | unread => exact fs_unread hst hp hok ht
  | ending => exact fs_ending hst hp hok ht hz
def Pp.one (x : Pp) (c : UInt8) : Option Nx × Pp :=
  if ((c.toNat : Int) == 24 || (c.toNat : Int) == 26) = true then (none, x.drop)
  else if ((c.toNat : Int) == 27 && x.r) = true then (some .ending, { x with r := false })
  else if ((c.toNat : Int) == 27) = true then (some .behind, x.drop)
  else match x.nx with
    | none => (none, x)
    | some n => x.call n c
theorem nxv_some (n : Nx) : nxv (some n) = .fn (.func n.f) [] [] := rfl

theorem fs_one {Gl : Gh → Prop} (hst : Stays Gl) {p : Nm} (hp : 1 ≤ p.1) {s : Ps} (hok : s.ok) (ht : ∀ t ∈ s.toks, 1 ≤ t.1) (hz : s.x.sz) {c : UInt8} : FSR Tryd.prog Gl 14 [.ptr p 0, .int .u8 (c.toNat : Int)] [(p, .cells s.c)] s.toks (PR p s.toks (nxv (s.x.one c).1) (s.x.one c).2) := by
  refine FSR.of hm hst is_hostParserone (by simp) fun γ hγ hfr => ?_
  have htγ : ∀ t ∈ s.toks, 1 ≤ t.1 ∧ ∀ i j, t ≠ (γ, i, j) := fun t h => ⟨ht t h, fun i j e => hfr.2 t h (by rw [e])⟩
  clear hfr
  (generalize hQ : (fun (ex : Ex) (_ _ : Nat) (s : St) => _) = Q; unfold ir_hostParserone)
  simp only [Ps.c]
  simp +contextual (maxSteps := 1000000) only [go_sem, reduceCtorEq, ↓reduceIte, Nat.reduceAdd, Nat.reduceEqDiff, Nat.reduceLeDiff, Nat.reduceMul, Nat.reduceBEq, Int.reduceBEq, Int.reduceBNe, Int.reduceLT, Int.reduceLE, Int.reduceGT, Int.reduceGE, Int.reduceToNat, Int.natCast_one, Int.natCast_zero, Int.cast_ofNat_Int]
  cases h1 : ((c.toNat : Int) == 24 || (c.toNat : Int) == 26) with
  | true =>
    have e : s.x.one c = (none, s.x.drop) := by simp only [Pp.one, h1, if_true]
    simp +contextual (maxSteps := 1000000) only [go_sem, reduceCtorEq, ↓reduceIte, Nat.reduceAdd, Nat.reduceEqDiff, Nat.reduceLeDiff, Nat.reduceMul, Nat.reduceBEq, Int.reduceBEq, Int.reduceBNe, Int.reduceLT, Int.reduceLE, Int.reduceGT, Int.reduceGE, Int.reduceToNat, Int.natCast_one, Int.natCast_zero, Int.cast_ofNat_Int]
    refine PR.call (s := s) (fs_drop hst hp hok ht) hp (fun _ => rfl) hγ (fun _ h => h) (fun t h => ⟨ht t h, fun j => (htγ t h).2 _ _⟩) fun s' q1 q2 q3 => ?_
    simp +contextual (maxSteps := 1000000) only [go_sem, reduceCtorEq, ↓reduceIte, Nat.reduceAdd, Nat.reduceEqDiff, Nat.reduceLeDiff, Nat.reduceMul, Nat.reduceBEq, Int.reduceBEq, Int.reduceBNe, Int.reduceLT, Int.reduceLE, Int.reduceGT, Int.reduceGE, Int.reduceToNat, Int.natCast_one, Int.natCast_zero, Int.cast_ofNat_Int]
    rw [← hQ, e, ← q1]
    exact ⟨trivial, PR.behind rfl (fun _ => nxv_rn) (fun _ _ _ => nxv_ok) hp ht (by simp) q2 q3 fun _ h => h⟩
  | false =>
  simp +contextual (maxSteps := 1000000) only [go_sem, reduceCtorEq, ↓reduceIte, Nat.reduceAdd, Nat.reduceEqDiff, Nat.reduceLeDiff, Nat.reduceMul, Nat.reduceBEq, Int.reduceBEq, Int.reduceBNe, Int.reduceLT, Int.reduceLE, Int.reduceGT, Int.reduceGE, Int.reduceToNat, Int.natCast_one, Int.natCast_zero, Int.cast_ofNat_Int]
  cases h2 : ((c.toNat : Int) == 27 && s.x.r) with
  | true =>
    have e : s.x.one c = (some .ending, { s.x with r := false }) := by simp only [Pp.one, h1, h2, if_true, Bool.false_eq_true, if_false]
    simp +contextual (maxSteps := 1000000) only [go_sem, reduceCtorEq, ↓reduceIte, Nat.reduceAdd, Nat.reduceEqDiff, Nat.reduceLeDiff, Nat.reduceMul, Nat.reduceBEq, Int.reduceBEq, Int.reduceBNe, Int.reduceLT, Int.reduceLE, Int.reduceGT, Int.reduceGE, Int.reduceToNat, Int.natCast_one, Int.natCast_zero, Int.cast_ofNat_Int]
    rw [← hQ, e]
    exact ⟨trivial, PR.same _ rfl (fun _ => nxv_rn) (fun _ _ _ => nxv_ok) hp hok ht (by simp [Ps.c]) rfl rfl rfl fun _ h => h⟩
  | false =>
  simp +contextual (maxSteps := 1000000) only [go_sem, reduceCtorEq, ↓reduceIte, Nat.reduceAdd, Nat.reduceEqDiff, Nat.reduceLeDiff, Nat.reduceMul, Nat.reduceBEq, Int.reduceBEq, Int.reduceBNe, Int.reduceLT, Int.reduceLE, Int.reduceGT, Int.reduceGE, Int.reduceToNat, Int.natCast_one, Int.natCast_zero, Int.cast_ofNat_Int]
  cases h3 : ((c.toNat : Int) == 27) with
  | true =>
    have e : s.x.one c = (some .behind, s.x.drop) := by
      have h2' : (true && s.x.r) = false := by rw [← h3]; exact h2
      simp only [Pp.one, h1, h3, h2', if_true, Bool.false_eq_true, if_false]
    simp +contextual (maxSteps := 1000000) only [go_sem, reduceCtorEq, ↓reduceIte, Nat.reduceAdd, Nat.reduceEqDiff, Nat.reduceLeDiff, Nat.reduceMul, Nat.reduceBEq, Int.reduceBEq, Int.reduceBNe, Int.reduceLT, Int.reduceLE, Int.reduceGT, Int.reduceGE, Int.reduceToNat, Int.natCast_one, Int.natCast_zero, Int.cast_ofNat_Int]
    refine PR.call (s := s) (fs_drop hst hp hok ht) hp (fun _ => rfl) hγ (fun _ h => h) (fun t h => ⟨ht t h, fun j => (htγ t h).2 _ _⟩) fun s' q1 q2 q3 => ?_
    simp +contextual (maxSteps := 1000000) only [go_sem, reduceCtorEq, ↓reduceIte, Nat.reduceAdd, Nat.reduceEqDiff, Nat.reduceLeDiff, Nat.reduceMul, Nat.reduceBEq, Int.reduceBEq, Int.reduceBNe, Int.reduceLT, Int.reduceLE, Int.reduceGT, Int.reduceGE, Int.reduceToNat, Int.natCast_one, Int.natCast_zero, Int.cast_ofNat_Int]
    rw [← hQ, e, ← q1]
    exact ⟨trivial, PR.behind rfl (fun _ => nxv_rn) (fun _ _ _ => nxv_ok) hp ht (by simp) q2 q3 fun _ h => h⟩
  | false =>
    cases hn : s.x.nx with
    | none =>
      have e : s.x.one c = (none, s.x) := by simp only [Pp.one, h1, h3, Bool.false_and, Bool.false_eq_true, if_false, hn]
      simp +contextual (maxSteps := 1000000) only [nxv_nil, go_sem, reduceCtorEq, ↓reduceIte, Nat.reduceAdd, Nat.reduceEqDiff, Nat.reduceLeDiff, Nat.reduceMul, Nat.reduceBEq, Int.reduceBEq, Int.reduceBNe, Int.reduceLT, Int.reduceLE, Int.reduceGT, Int.reduceGE, Int.reduceToNat, Int.natCast_one, Int.natCast_zero, Int.cast_ofNat_Int]
      rw [← hQ, e]
      exact ⟨trivial, PR.same _ rfl (fun _ => nxv_rn) (fun _ _ _ => nxv_ok) hp hok ht (by simp [Ps.c, hn, nxv_nil]) rfl rfl rfl fun _ h => h⟩
    | some n =>
      have e : s.x.one c = s.x.call n c := by simp only [Pp.one, h1, h3, Bool.false_and, Bool.false_eq_true, if_false, hn]
      have hc : s.c = [.fn (.func n.f) [] [], .int .i64 s.x.k, .int .u8 s.x.pr, .nils, .str s.x.it, .int .u8 s.x.fi, .str [], sv s.tt 1 (bytesAV s.x.tx), sv s.dt 1 (bytesAV s.x.da), .bool s.x.f, .bool s.x.b, .bool s.x.r, sv s.ot 6 (s.x.ou.map Sq.r)] := by simp only [Ps.c, hn, nxv_some]
      simp +contextual (maxSteps := 1000000) only [nxv_some, go_sem, reduceCtorEq, ↓reduceIte, Nat.reduceAdd, Nat.reduceEqDiff, Nat.reduceLeDiff, Nat.reduceMul, Nat.reduceBEq, Int.reduceBEq, Int.reduceBNe, Int.reduceLT, Int.reduceLE, Int.reduceGT, Int.reduceGE, Int.reduceToNat, Int.natCast_one, Int.natCast_zero, Int.cast_ofNat_Int]
      rw [← hc]
      refine PR.call (s := s) (fs_call hst hp hok ht hz n) hp (fun _ => nxv_rn) hγ (fun _ h => h) (fun t h => ⟨ht t h, fun j => (htγ t h).2 _ _⟩) fun s' q1 q2 q3 => ?_
      simp +contextual (maxSteps := 1000000) only [go_sem, reduceCtorEq, ↓reduceIte, Nat.reduceAdd, Nat.reduceEqDiff, Nat.reduceLeDiff, Nat.reduceMul, Nat.reduceBEq, Int.reduceBEq, Int.reduceBNe, Int.reduceLT, Int.reduceLE, Int.reduceGT, Int.reduceGE, Int.reduceToNat, Int.natCast_one, Int.natCast_zero, Int.cast_ofNat_Int]
      rw [← hQ, e, ← q1]
      exact ⟨trivial, PR.behind rfl (fun _ => nxv_rn) (fun _ _ _ => nxv_ok) hp ht (by simp) q2 q3 fun _ h => h⟩

/-- A byte. -/
def Pp.put (x : Pp) (c : UInt8) : Pp := { (x.one c).2 with nx := (x.one c).1 }
def Pp.puts (x : Pp) (b : List UInt8) : Pp := b.foldl Pp.put x
theorem fs_Feed {Gl : Gh → Prop} (hst : Stays Gl) {p : Nm} (hp : 1 ≤ p.1) {s : Ps} (hok : s.ok) (ht : ∀ t ∈ s.toks, 1 ≤ t.1) {b : List UInt8} {t0 : Option Nm} (hl : b.length < 4611686018427387904) (hz : ∀ i, i ≤ b.length → (s.x.puts (b.take i)).sz) :
    FSR Tryd.prog Gl 9 [.ptr p 0, .sl t0 1 (bytesAV b)] [(p, .cells s.c)] s.toks fun r H T => ∃ (s' : Ps) (o : Option Nm), s'.x = { s.x.puts b with ou := [] } ∧ s'.ok ∧ s'.ot = none ∧ H = [(p, .cells s'.c)] ∧ r = sv o 6 ((s.x.puts b).ou.map Sq.r) ∧ (o = none → (s.x.puts b).ou = []) ∧
      (s'.toks ++ o.toList).Nodup ∧ T = s'.toks ++ o.toList ∧ ∀ t ∈ s'.toks ++ o.toList, t ∈ s.toks ∨ (t.1 = 0 ∧ t.2.1 = 0) := by
  refine FSR.of hm hst is_hostParserFeed (by simp) fun γ hγ hfr => ?_
  (generalize hQ : (fun (ex : Ex) (_ _ : Nat) (s : St) => _) = Q; unfold ir_hostParserFeed)
  simp +contextual (maxSteps := 1000000) only [go_sem, reduceCtorEq, ↓reduceIte, Nat.reduceAdd, Nat.reduceEqDiff, Nat.reduceLeDiff, Nat.reduceMul, Nat.reduceBEq, Int.reduceBEq, Int.reduceBNe, Int.reduceLT, Int.reduceLE, Int.reduceGT, Int.reduceGE, Int.reduceToNat, Int.natCast_one, Int.natCast_zero, Int.cast_ofNat_Int]
  unfold ir_hostParserFeed_t1
  simp +contextual (maxSteps := 1000000) only [go_sem, reduceCtorEq, ↓reduceIte, Nat.reduceAdd, Nat.reduceEqDiff, Nat.reduceLeDiff, Nat.reduceMul, Nat.reduceBEq, Int.reduceBEq, Int.reduceBNe, Int.reduceLT, Int.reduceLE, Int.reduceGT, Int.reduceGE, Int.reduceToNat, Int.natCast_one, Int.natCast_zero, Int.cast_ofNat_Int]
  unfold ir_hostParserFeed_t2
  simp +contextual (maxSteps := 1000000) only [bytesAV_len, go_sem, reduceCtorEq, ↓reduceIte, Nat.reduceAdd, Nat.reduceEqDiff, Nat.reduceLeDiff, Nat.reduceMul, Nat.reduceBEq, Int.reduceBEq, Int.reduceBNe, Int.reduceLT, Int.reduceLE, Int.reduceGT, Int.reduceGE, Int.reduceToNat, Int.natCast_one, Int.natCast_zero, Int.cast_ofNat_Int]
  refine kLoop_ix (fun q : Ps × Nat => ⟨lf [(0, .ptr p 0), (11, .sl t0 1 (bytesAV b)), (12, .int .i64 b.length), (13, .int .i64 q.2)], [(p, .cells q.1.c)], (· ∈ q.1.toks)⟩)
    (fun q => q.2 ≤ b.length ∧ q.1.x = s.x.puts (b.take q.2) ∧ q.1.ok ∧ ∀ t ∈ q.1.toks, 1 ≤ t.1 ∧ (t ∈ s.toks ∨ γ ≤ t.1)) (fun q => b.length - q.2) 0 (s, 0) (Wk.same ?_) ⟨Nat.zero_le _, rfl, hok, fun t h => ⟨ht t h, .inl h⟩⟩ ?_
  · (simp only [lfOK, upd, initF]; repeat' first | exact AVle.refl _ _ | exact trivial | refine And.intro ?_ ?_ | exact AVle.int (by simp only [IntKind.wrap_i64]; omega))
  · rintro γ' ⟨q, i⟩ ⟨hle, hf⟩ ⟨hi, hqx, hqok, hqt⟩
    simp only at hi hqx hqok hqt
    generalize hQ' : kIt _ _ _ _ _ = Q'
    unfold ir_hostParserFeed_l0
    by_cases hlt : i < b.length
    · have hd : decide ((i : Int) < (b.length : Int)) = true := by simp; omega
      have hget : (bytesAV b).getD (i : Int).toNat [] = [.int .u8 ((b[i]).toNat : Int)] := by rw [Int.toNat_natCast]; exact bytesAV_get hlt
      have htk : b.take (i + 1) = b.take i ++ [b[i]] := by rw [List.take_add_one, List.getElem?_eq_getElem hlt]; rfl
      have hw : IntKind.i64.wrap ((i : Int) + 1) = ((i + 1 : Nat) : Int) := by rw [IntKind.wrap_i64]; omega
      simp +contextual (maxSteps := 1000000) only [hd, hget, bytesAV_len, go_sem, reduceCtorEq, ↓reduceIte, Nat.reduceAdd, Nat.reduceEqDiff, Nat.reduceLeDiff, Nat.reduceMul, Nat.reduceBEq, Int.reduceBEq, Int.reduceBNe, Int.reduceLT, Int.reduceLE, Int.reduceGT, Int.reduceGE, Int.reduceToNat, Int.natCast_one, Int.natCast_zero, Int.cast_ofNat_Int]
      refine ⟨by omega, ?_⟩
      refine PR.call (s := q) (fs_one hst hp hqok (fun t h => (hqt t h).1) (by rw [hqx]; exact hz i hi)) hp (fun _ => nxv_rn) (by omega) (fun _ h => h) (fun t h => ⟨(hqt t h).1, fun j e => hf.2 t h (by rw [e])⟩) fun s' q1 q2 q3 => ?_
      simp only [Ps.c]
      simp +contextual (maxSteps := 1000000) only [hw, go_sem, reduceCtorEq, ↓reduceIte, Nat.reduceAdd, Nat.reduceEqDiff, Nat.reduceLeDiff, Nat.reduceMul, Nat.reduceBEq, Int.reduceBEq, Int.reduceBNe, Int.reduceLT, Int.reduceLE, Int.reduceGT, Int.reduceGE, Int.reduceToNat, Int.natCast_one, Int.natCast_zero, Int.cast_ofNat_Int]
      rw [← hQ']
      simp only [w_kIt_n]
      refine ⟨0, (⟨{ s'.x with nx := (q.x.one b[i]).1 }, s'.tt, s'.dt, s'.ot⟩, i + 1), Wk.perm ?_ (fun u hu => ?_), ⟨by simp only; omega, ?_, ⟨q2.nd, q2.t, q2.d, q2.o⟩, fun t h => ⟨(q3 t h).1, ?_⟩⟩, by simp only; omega⟩
      · repeat' first | exact AVle.refl _ _ | exact trivial | refine And.intro ?_ ?_ | exact AVle.int (by simp only [IntKind.wrap_i64]; omega)
      · exact hu
      · simp only
        rw [htk, Pp.puts, List.foldl_append, List.foldl_cons, List.foldl_nil, ← Pp.puts, ← hqx, Pp.put, ← q1]
      · rcases (q3 t h).2 with h | h
        · exact (hqt t h).2
        · exact .inr (by rw [h]; exact hle)
    · have hd : decide ((i : Int) < (b.length : Int)) = false := by simp; omega
      simp +contextual (maxSteps := 1000000) only [hd, go_sem, reduceCtorEq, ↓reduceIte, Nat.reduceAdd, Nat.reduceEqDiff, Nat.reduceLeDiff, Nat.reduceMul, Nat.reduceBEq, Int.reduceBEq, Int.reduceBNe, Int.reduceLT, Int.reduceLE, Int.reduceGT, Int.reduceGE, Int.reduceToNat, Int.natCast_one, Int.natCast_zero, Int.cast_ofNat_Int]
      rw [← hQ']
      simp only [w_kIt_e, w_kBlk_e, ↓reduceIte]
      simp +contextual (maxSteps := 1000000) only [go_sem, reduceCtorEq, ↓reduceIte, Nat.reduceAdd, Nat.reduceEqDiff, Nat.reduceLeDiff, Nat.reduceMul, Nat.reduceBEq, Int.reduceBEq, Int.reduceBNe, Int.reduceLT, Int.reduceLE, Int.reduceGT, Int.reduceGE, Int.reduceToNat, Int.natCast_one, Int.natCast_zero, Int.cast_ofNat_Int]
      unfold ir_hostParserFeed_t3
      simp only [Ps.c]
      simp +contextual (maxSteps := 1000000) only [go_sem, reduceCtorEq, ↓reduceIte, Nat.reduceAdd, Nat.reduceEqDiff, Nat.reduceLeDiff, Nat.reduceMul, Nat.reduceBEq, Int.reduceBEq, Int.reduceBNe, Int.reduceLT, Int.reduceLE, Int.reduceGT, Int.reduceGE, Int.reduceToNat, Int.natCast_one, Int.natCast_zero, Int.cast_ofNat_Int]
      unfold ir_hostParserFeed_t4
      simp +contextual (maxSteps := 1000000) only [go_sem, reduceCtorEq, ↓reduceIte, Nat.reduceAdd, Nat.reduceEqDiff, Nat.reduceLeDiff, Nat.reduceMul, Nat.reduceBEq, Int.reduceBEq, Int.reduceBNe, Int.reduceLT, Int.reduceLE, Int.reduceGT, Int.reduceGE, Int.reduceToNat, Int.natCast_one, Int.natCast_zero, Int.cast_ofNat_Int]
      unfold ir_hostParserFeed_t5
      simp +contextual (maxSteps := 1000000) only [go_sem, reduceCtorEq, ↓reduceIte, Nat.reduceAdd, Nat.reduceEqDiff, Nat.reduceLeDiff, Nat.reduceMul, Nat.reduceBEq, Int.reduceBEq, Int.reduceBNe, Int.reduceLT, Int.reduceLE, Int.reduceGT, Int.reduceGE, Int.reduceToNat, Int.natCast_one, Int.natCast_zero, Int.cast_ofNat_Int]
      have hib : b.take i = b := List.take_of_length_le (by omega)
      rw [hib] at hqx
      obtain ⟨us, hus⟩ : ∃ us, us = q.toks.filter fun t => !s.toks.contains t := ⟨_, rfl⟩
      obtain ⟨r, r1, r2, r3, r4⟩ := Ps.told (us := us) (T0 := s.toks) ht q (fun t h => by
        by_cases h' : t ∈ s.toks
        · exact .inl h'
        · exact .inr (by rw [hus]; simp [h, h'])) hqok
      rw [← hQ]
      have e1 : r.tt.map (rnN fun j => us.getD j (0, 0, 0)) = q.tt := congrArg Ps.tt r3
      have e2 : r.dt.map (rnN fun j => us.getD j (0, 0, 0)) = q.dt := congrArg Ps.dt r3
      have e3 : r.ot.map (rnN fun j => us.getD j (0, 0, 0)) = q.ot := congrArg Ps.ot r3
      have etk : (⟨{ q.x with ou := [] }, r.tt, r.dt, none⟩ : Ps).toks ++ r.ot.toList = r.toks := by simp [Ps.toks]
      have hxq : r.x = s.x.puts b := r1.trans hqx
      have hin : ∀ t ∈ (⟨{ q.x with ou := [] }, r.tt, r.dt, none⟩ : Ps).toks, t ∈ r.toks := fun t h => by rw [← etk]; exact List.mem_append.2 (.inl h)
      have hok4 : ∀ t ∈ r.toks, nmOK us.length s.toks t := fun t h => by
        rcases r4 t h with h | ⟨h1, h2, h3⟩
        · exact real_ok (ht t h) h
        · unfold nmOK; rw [if_pos ⟨h1, h2⟩]; exact h3
      have hus2 : ∀ t ∈ r.toks, rnN (fun j => us.getD j (0, 0, 0)) t ∈ q.toks := fun t h => by
        rw [← r3, Ps.toks_rn]; exact List.mem_map.2 ⟨t, h, rfl⟩
      refine ⟨trivial, sv r.ot 6 ((s.x.puts b).ou.map Sq.r), [(p, .cells (⟨{ q.x with ou := [] }, r.tt, r.dt, none⟩ : Ps).c)], r.toks, ⟨⟨{ q.x with ou := [] }, r.tt, r.dt, none⟩, r.ot, by rw [← hqx], ⟨?_, fun h => ?_, fun h => ?_, fun _ => rfl⟩, rfl, rfl, rfl, fun h => ?_, by rw [etk]; exact r2.nd, etk.symm, fun t h => ?_⟩,
        us, by rw [hus]; exact hqok.nd.filter _, fun n hn => ?_, ?_, fun u hu => ?_, fun t h => hus2 t h, ?_, fun u hu => ?_, hok4⟩
      · have := r2.nd
        simp only [Ps.toks, Option.toList_none, List.append_nil] at this ⊢
        exact (List.nodup_append.1 this).1
      · have := r2.t h; rw [r1] at this; exact this
      · have := r2.d h; rw [r1] at this; exact this
      · have := r2.o h; rw [hxq] at this; exact this
      · rw [etk] at h
        exact (r4 t h).imp _root_.id fun h => ⟨h.1, h.2.1⟩
      · rw [hus] at hn
        obtain ⟨h1, h2⟩ := List.mem_filter.1 hn
        rcases (hqt n h1).2 with h3 | h3
        · simp [h3] at h2
        · exact h3
      · rw [sv_rn, e3, ← hqx]; rfl
      · simp only [rnH, List.map_cons, List.map_nil, List.mem_singleton] at hu
        subst hu
        rw [real_rn hp, Ps.c_rn]
        simp only [Ps.rn, e1, e2, Option.map_none]
        simp [Ps.c, sv]
      · exact sv_ok fun t h => hok4 t (by simp [Ps.toks, h])
      · simp only [List.mem_singleton] at hu
        subst hu
        exact ⟨real_ok hp (by simp), Ps.okc fun t h => hok4 t (hin t h)⟩
end Go.Proofs.YtgdgfefojfgpaaaDoor

/- Lists of numbers held against each other, walked. -/
set_option linter.unusedVariables false
set_option linter.unusedSimpArgs false
set_option maxRecDepth 100000
namespace Go.Proofs.YtgdgfefojfgpaaaDoor
open Go Go.Ab
/-- clavier/clavierref02.Ints -/
def ir_clavierref02Ints : ICode :=
 (.seq
  (.reg [⟨some 4, none, .mov (.c (.bool false))⟩] (some [0, 1]))
  (.seq
   (.seq
    (.reg [⟨some 6, none, .mov (.t 0)⟩,
      ⟨some 7, none, .len (.t 6)⟩,
      ⟨some 8, none, .mov (.t 1)⟩,
      ⟨some 9, none, .len (.t 8)⟩,
      ⟨some 10, none, .bin .neq .none (.t 7) (.t 9)⟩] (some [0, 1, 10]))
    (.cond (.t 10)
     (.seq
      (.reg [⟨some 4, none, .mov (.c (.bool false))⟩] (some [4]))
      .ret)
     .skip))
   (.seq
    (.seq
     (.reg [⟨some 5, none, .mov (.c (.int .i64 0))⟩] (some [0, 1, 5]))
     (.blk 0
      (.loop
       (.seq
        (.seq
         (.reg [⟨some 11, none, .mov (.t 5)⟩,
           ⟨some 12, none, .mov (.t 0)⟩,
           ⟨some 13, none, .len (.t 12)⟩,
           ⟨some 14, none, .bin .lss .none (.t 11) (.t 13)⟩] (some [0, 1, 5, 14]))
         (.cond (.t 14)
          .skip
          (.exit 0)))
        (.seq
         (.blk 1
          (.seq
           (.drw [⟨⟨some 17, none, .mov (.t 0)⟩, []⟩,
             ⟨⟨some 18, none, .mov (.t 5)⟩, []⟩,
             ⟨⟨some 19, none, .ia 1 (.t 17) (.t 18)⟩, [0, 1]⟩,
             ⟨⟨some 20, none, .ld none (.t 19)⟩, [2]⟩,
             ⟨⟨some 21, none, .mov (.t 1)⟩, []⟩,
             ⟨⟨some 22, none, .mov (.t 5)⟩, []⟩,
             ⟨⟨some 23, none, .ia 1 (.t 21) (.t 22)⟩, [4, 5]⟩,
             ⟨⟨some 24, none, .ld none (.t 23)⟩, [6]⟩,
             ⟨⟨some 25, none, .bin .neq .none (.t 20) (.t 24)⟩, [3, 7]⟩]
             [] (some [0, 1, 5, 25]))
           (.cond (.t 25)
            (.seq
             (.reg [⟨some 4, none, .mov (.c (.bool false))⟩] (some [4]))
             .ret)
            .skip)))
         (.reg [⟨some 15, none, .mov (.t 5)⟩,
           ⟨some 16, none, .bin .add .none (.t 15) (.c (.int .i64 1))⟩,
           ⟨some 5, none, .mov (.t 16)⟩] (some [0, 1, 5])))))))
    (.seq
     (.reg [⟨some 4, none, .mov (.c (.bool true))⟩] (some [4]))
     .ret))))
theorem is_clavierref02Ints : IrOf Tryd.prog 21 26 ir_clavierref02Ints [.t 4] := ⟨_, Tryd.func21, rfl, by kernel_rfl, by kernel_rfl, by kernel_rfl⟩


theorem fs_Ints {Gl : Gh → Prop} (hst : Stays Gl) {a b : List Int} {ta tb : Option Nm} (ha : a.length < 9223372036854775808) (hb : b.length < 9223372036854775808) : FS Tryd.prog Gl 21 [.sl ta 1 (intsAV a), .sl tb 1 (intsAV b)] [] [] (.bool (decide (a = b))) [] [] := by
  refine FS.of hm hst is_clavierref02Ints (by simp) fun γ hγ hfr => ?_
  generalize hQ : (fun (ex : Ex) (_ _ : Nat) (s : St) => _) = Q
  unfold ir_clavierref02Ints
  simp +contextual (maxSteps := 1000000) only [intsAV_length, go_sem, reduceCtorEq, ↓reduceIte, Nat.reduceAdd, Nat.reduceEqDiff, Nat.reduceLeDiff, Nat.reduceMul, Nat.reduceBEq, Int.reduceBEq, Int.reduceBNe, Int.reduceLT, Int.reduceLE, Int.reduceGT, Int.reduceGE, Int.reduceToNat, Int.natCast_one, Int.natCast_zero, Int.cast_ofNat_Int]
  refine kCond_split (fun h => ?_) (fun h => ?_)
  · simp +contextual (maxSteps := 1000000) only [go_sem, reduceCtorEq, ↓reduceIte, Nat.reduceAdd, Nat.reduceEqDiff, Nat.reduceLeDiff, Nat.reduceMul, Nat.reduceBEq, Int.reduceBEq, Int.reduceBNe, Int.reduceLT, Int.reduceLE, Int.reduceGT, Int.reduceGE, Int.reduceToNat, Int.natCast_one, Int.natCast_zero, Int.cast_ofNat_Int]
    rw [← hQ]
    have : decide (a = b) = false := by
      simp only [bne_iff_ne, ne_eq] at h
      rw [decide_eq_false_iff_not]; intro e; subst e; simp at h
    rw [this]
    exact ⟨trivial, Ret.flat rfl rfl⟩
  · have hl : a.length = b.length := by simp at h; omega
    simp +contextual (maxSteps := 1000000) only [intsAV_length, go_sem, reduceCtorEq, ↓reduceIte, Nat.reduceAdd, Nat.reduceEqDiff, Nat.reduceLeDiff, Nat.reduceMul, Nat.reduceBEq, Int.reduceBEq, Int.reduceBNe, Int.reduceLT, Int.reduceLE, Int.reduceGT, Int.reduceGE, Int.reduceToNat, Int.natCast_one, Int.natCast_zero, Int.cast_ofNat_Int]
    refine kLoop_ix (fun i : Nat => ⟨lf [(0, .sl ta 1 (intsAV a)), (1, .sl tb 1 (intsAV b)), (5, .int .i64 i)], [], fun x => x ∈ []⟩) (fun i => i ≤ a.length ∧ a.take i = b.take i) (fun i => a.length - i) 0 0 (Wk.same ?_) ?_ ?_
    · simp only [lfOK, upd, initF]
      repeat' first | exact AVle.refl _ _ | exact trivial | refine And.intro ?_ ?_
    · simp
    · rintro γ' i hf ⟨hi, hinv⟩
      generalize hQ' : kIt _ _ _ _ _ = Q'
      by_cases hlt : i < a.length
      · have hd : decide ((i : Int) < (a.length : Int)) = true := by simp; omega
        have g1 : (intsAV a).getD (i : Int).toNat [] = [.int .i64 a[i]] := by rw [Int.toNat_natCast]; exact intsAV_get hlt
        have g2 : (intsAV b).getD (i : Int).toNat [] = [.int .i64 (b[i]'(by omega))] := by rw [Int.toNat_natCast]; exact intsAV_get (by omega)
        simp +contextual (maxSteps := 1000000) only [intsAV_length, hd, g1, g2, go_sem, reduceCtorEq, ↓reduceIte, Nat.reduceAdd, Nat.reduceEqDiff, Nat.reduceLeDiff, Nat.reduceMul, Nat.reduceBEq, Int.reduceBEq, Int.reduceBNe, Int.reduceLT, Int.reduceLE, Int.reduceGT, Int.reduceGE, Int.reduceToNat, Int.natCast_one, Int.natCast_zero, Int.cast_ofNat_Int]
        refine ⟨by omega, by omega, kCond_split (fun h1 => ?_) (fun h1 => ?_)⟩
        · simp +contextual (maxSteps := 1000000) only [go_sem, reduceCtorEq, ↓reduceIte, Nat.reduceAdd, Nat.reduceEqDiff, Nat.reduceLeDiff, Nat.reduceMul, Nat.reduceBEq, Int.reduceBEq, Int.reduceBNe, Int.reduceLT, Int.reduceLE, Int.reduceGT, Int.reduceGE, Int.reduceToNat, Int.natCast_one, Int.natCast_zero, Int.cast_ofNat_Int]
          rw [← hQ']
          simp only [w_kIt_r, w_kBlk_r, w_kSeq_r]
          have e : decide (a = b) = false := by
            simp only [bne_iff_ne, ne_eq] at h1
            rw [decide_eq_false_iff_not]; intro e; subst e; exact h1 rfl
          rw [← hQ, e]
          exact ⟨trivial, Ret.flat rfl rfl⟩
        · simp +contextual (maxSteps := 1000000) only [go_sem, reduceCtorEq, ↓reduceIte, Nat.reduceAdd, Nat.reduceEqDiff, Nat.reduceLeDiff, Nat.reduceMul, Nat.reduceBEq, Int.reduceBEq, Int.reduceBNe, Int.reduceLT, Int.reduceLE, Int.reduceGT, Int.reduceGE, Int.reduceToNat, Int.natCast_one, Int.natCast_zero, Int.cast_ofNat_Int]
          rw [← hQ']
          simp only [w_kIt_n]
          refine ⟨0, i + 1, Wk.same ?_, ⟨by omega, ?_⟩, by omega⟩
          · repeat' first | exact AVle.refl _ _ | exact trivial | refine And.intro ?_ ?_ | exact AVle.int (by simp only [IntKind.wrap_i64]; omega)
          · have h2 : a[i] = b[i]'(by omega) := by simpa using h1
            rw [List.take_add_one, List.take_add_one, hinv, List.getElem?_eq_getElem hlt, List.getElem?_eq_getElem (show i < b.length by omega), h2]
      · have hd : decide ((i : Int) < (a.length : Int)) = false := by simp; omega
        simp +contextual (maxSteps := 1000000) only [intsAV_length, hd, go_sem, reduceCtorEq, ↓reduceIte, Nat.reduceAdd, Nat.reduceEqDiff, Nat.reduceLeDiff, Nat.reduceMul, Nat.reduceBEq, Int.reduceBEq, Int.reduceBNe, Int.reduceLT, Int.reduceLE, Int.reduceGT, Int.reduceGE, Int.reduceToNat, Int.natCast_one, Int.natCast_zero, Int.cast_ofNat_Int]
        rw [← hQ']
        simp only [w_kIt_e, w_kBlk_e, ↓reduceIte]
        simp +contextual (maxSteps := 1000000) only [go_sem, reduceCtorEq, ↓reduceIte, Nat.reduceAdd, Nat.reduceEqDiff, Nat.reduceLeDiff, Nat.reduceMul, Nat.reduceBEq, Int.reduceBEq, Int.reduceBNe, Int.reduceLT, Int.reduceLE, Int.reduceGT, Int.reduceGE, Int.reduceToNat, Int.natCast_one, Int.natCast_zero, Int.cast_ofNat_Int]
        have e : decide (a = b) = true := by
          rw [decide_eq_true_eq]
          have h1 : i = a.length := by omega
          have h2 : i = b.length := by omega
          have h3 := hinv
          rw [List.take_of_length_le (by omega), List.take_of_length_le (by omega)] at h3
          exact h3
        rw [← hQ, e]
        exact ⟨trivial, Ret.flat rfl rfl⟩
end Go.Proofs.YtgdgfefojfgpaaaDoor

/- A parser that is new, and whether it is amid something. -/
set_option linter.unusedVariables false
set_option linter.unusedSimpArgs false
set_option maxRecDepth 100000
namespace Go.Proofs.YtgdgfefojfgpaaaDoor
open Go Go.Ab

theorem fs_Idle {Gl : Gh → Prop} (hst : Stays Gl) {p : Nm} (hp : 1 ≤ p.1) {s : Ps} (hok : s.ok) (ht : ∀ t ∈ s.toks, 1 ≤ t.1) : FSR Tryd.prog Gl 11 [.ptr p 0] [(p, .cells s.c)] s.toks (PR p s.toks (.bool s.x.nx.isNone) s.x) := by
  refine FSR.of hm hst is_hostParserIdle (by simp) fun γ hγ hfr => ?_
  (generalize hQ : (fun (ex : Ex) (_ _ : Nat) (s : St) => _) = Q; unfold ir_hostParserIdle)
  cases hn : s.x.nx with
  | none =>
    have hc : s.c = [.nilf, .int .i64 s.x.k, .int .u8 s.x.pr, .nils, .str s.x.it, .int .u8 s.x.fi, .str [], sv s.tt 1 (bytesAV s.x.tx), sv s.dt 1 (bytesAV s.x.da), .bool s.x.f, .bool s.x.b, .bool s.x.r, sv s.ot 6 (s.x.ou.map Sq.r)] := by simp only [Ps.c, hn, nxv_nil]
    simp only [hc]
    simp +contextual (maxSteps := 1000000) only [go_sem, reduceCtorEq, ↓reduceIte, Nat.reduceAdd, Nat.reduceEqDiff, Nat.reduceLeDiff, Nat.reduceMul, Nat.reduceBEq, Int.reduceBEq, Int.reduceBNe, Int.reduceLT, Int.reduceLE, Int.reduceGT, Int.reduceGE, Int.reduceToNat, Int.natCast_one, Int.natCast_zero, Int.cast_ofNat_Int]
    rw [← hQ]
    exact ⟨trivial, PR.ret s (by simp only [hn]; rfl) (fun _ => rfl) (fun _ _ _ => trivial) hp ht (by simp [hc]) hok fun t h => ⟨h, .inl h⟩⟩
  | some n =>
    have hc : s.c = [.fn (.func n.f) [] [], .int .i64 s.x.k, .int .u8 s.x.pr, .nils, .str s.x.it, .int .u8 s.x.fi, .str [], sv s.tt 1 (bytesAV s.x.tx), sv s.dt 1 (bytesAV s.x.da), .bool s.x.f, .bool s.x.b, .bool s.x.r, sv s.ot 6 (s.x.ou.map Sq.r)] := by simp only [Ps.c, hn, nxv_some]
    simp only [hc]
    simp +contextual (maxSteps := 1000000) only [go_sem, reduceCtorEq, ↓reduceIte, Nat.reduceAdd, Nat.reduceEqDiff, Nat.reduceLeDiff, Nat.reduceMul, Nat.reduceBEq, Int.reduceBEq, Int.reduceBNe, Int.reduceLT, Int.reduceLE, Int.reduceGT, Int.reduceGE, Int.reduceToNat, Int.natCast_one, Int.natCast_zero, Int.cast_ofNat_Int]
    rw [← hQ]
    exact ⟨trivial, PR.ret s (by simp only [hn]; rfl) (fun _ => rfl) (fun _ _ _ => trivial) hp ht (by simp [hc]) hok fun t h => ⟨h, .inl h⟩⟩

theorem fs_New {Gl : Gh → Prop} (hst : Stays Gl) : FS Tryd.prog Gl 8 [] [] [] (.ptr (0, 0, 0) 0) [((0, 0, 0), .cells (⟨Pp.zero, none, none, none⟩ : Ps).c)] [] := by
  refine FS.of hm hst is_hostNew (by simp) fun γ hγ hfr => ?_
  (generalize hQ : (fun (ex : Ex) (_ _ : Nat) (s : St) => _) = Q; unfold ir_hostNew)
  simp +contextual (maxSteps := 1000000) only [go_sem, reduceCtorEq, ↓reduceIte, Nat.reduceAdd, Nat.reduceEqDiff, Nat.reduceLeDiff, Nat.reduceMul, Nat.reduceBEq, Int.reduceBEq, Int.reduceBNe, Int.reduceLT, Int.reduceLE, Int.reduceGT, Int.reduceGE, Int.reduceToNat, Int.natCast_one, Int.natCast_zero, Int.cast_ofNat_Int]
  rw [← hQ]
  exact ⟨trivial, [(γ, 2, 0)], by simp, fun n h => by simp only [List.mem_singleton] at h; subst h; exact Nat.le_refl _, rfl, fun n hn => by simp only [rnH, List.map_cons, List.map_nil, List.mem_singleton] at hn; subst hn; exact List.mem_singleton.2 rfl, by simp, (by simp [AV.okIn, nmOK]), fun u hu => by simp only [List.mem_singleton] at hu; subst hu; exact ⟨(by simp [nmOK]), Ps.okc (by simp [Ps.toks])⟩, by simp⟩
end Go.Proofs.YtgdgfefojfgpaaaDoor

/- Two rows of sequences held against each other. -/
set_option linter.unusedVariables false
set_option linter.unusedSimpArgs false
set_option maxRecDepth 100000
namespace Go.Proofs.YtgdgfefojfgpaaaDoor
open Go Go.Ab
/- clavier/clavierref03.Same -/
def ir_clavierref03Same_l0 : ICode :=
 (.seq
        (.seq
         (.reg [⟨some 48, none, .mov (.t 5)⟩,
           ⟨some 49, none, .fa 2 (.t 2)⟩,
           ⟨some 50, none, .ld none (.t 49)⟩,
           ⟨some 51, none, .len (.t 50)⟩,
           ⟨some 52, none, .bin .lss .none (.t 48) (.t 51)⟩] (some [2, 3, 5, 52]))
         (.cond (.t 52)
          .skip
          (.exit 0)))
        (.seq
         (.blk 1
          (.seq
           (.drw [⟨⟨some 55, none, .fa 2 (.t 2)⟩, []⟩,
             ⟨⟨some 56, none, .ld none (.t 55)⟩, [0]⟩,
             ⟨⟨some 57, none, .mov (.t 5)⟩, []⟩,
             ⟨⟨some 58, none, .ia 1 (.t 56) (.t 57)⟩, [1, 2]⟩,
             ⟨⟨some 59, none, .ld none (.t 58)⟩, [3]⟩,
             ⟨⟨some 60, none, .fa 2 (.t 3)⟩, []⟩,
             ⟨⟨some 61, none, .ld none (.t 60)⟩, [5]⟩,
             ⟨⟨some 62, none, .mov (.t 5)⟩, []⟩,
             ⟨⟨some 63, none, .ia 1 (.t 61) (.t 62)⟩, [6, 7]⟩,
             ⟨⟨some 64, none, .ld none (.t 63)⟩, [8]⟩,
             ⟨⟨some 65, none, .call (.c (.fn (.func 21) [] [])) [(.t 59), (.t 64)]⟩, [4, 9]⟩,
             ⟨⟨some 66, none, .un .not (.t 65)⟩, [10]⟩]
             [] (some [2, 3, 5, 66]))
           (.cond (.t 66)
            (.seq
             (.reg [⟨some 4, none, .mov (.c (.bool false))⟩] (some [4]))
             .ret)
            .skip)))
         (.reg [⟨some 53, none, .mov (.t 5)⟩,
           ⟨some 54, none, .bin .add .none (.t 53) (.c (.int .i64 1))⟩,
           ⟨some 5, none, .mov (.t 54)⟩] (some [2, 3, 5]))))
def ir_clavierref03Same_t3 : ICode :=
 (.seq
  (.reg [⟨some 4, none, .mov (.c (.bool true))⟩] (some [4]))
  .ret)
def ir_clavierref03Same_t2 : ICode :=
 (.seq
  (.seq
     (.reg [⟨some 5, none, .mov (.c (.int .i64 0))⟩] (some [2, 3, 5]))
     (.blk 0
      (.loop
       ir_clavierref03Same_l0)))
  ir_clavierref03Same_t3)
def ir_clavierref03Same_t1 : ICode :=
 (.seq
  (.seq
    (.reg [⟨some 6, none, .fa 0 (.t 2)⟩,
      ⟨some 7, none, .ld none (.t 6)⟩,
      ⟨some 8, none, .fa 0 (.t 3)⟩,
      ⟨some 9, none, .ld none (.t 8)⟩,
      ⟨some 10, none, .bin .neq .none (.t 7) (.t 9)⟩,
      ⟨some 11, none, .mov (.t 10)⟩,
      ⟨some 12, some (11, false), .fa 1 (.t 2)⟩,
      ⟨some 13, some (11, false), .ld none (.t 12)⟩,
      ⟨some 14, some (11, false), .fa 1 (.t 3)⟩,
      ⟨some 15, some (11, false), .ld none (.t 14)⟩,
      ⟨some 16, some (11, false), .bin .neq .none (.t 13) (.t 15)⟩,
      ⟨some 17, none, .pick (.t 11) (.c (.bool true)) (.t 16)⟩,
      ⟨some 18, none, .mov (.t 17)⟩,
      ⟨some 19, some (18, false), .fa 3 (.t 2)⟩,
      ⟨some 20, some (18, false), .ld none (.t 19)⟩,
      ⟨some 21, some (18, false), .fa 3 (.t 3)⟩,
      ⟨some 22, some (18, false), .ld none (.t 21)⟩,
      ⟨some 23, some (18, false), .bin .neq .none (.t 20) (.t 22)⟩,
      ⟨some 24, none, .pick (.t 18) (.c (.bool true)) (.t 23)⟩,
      ⟨some 25, none, .mov (.t 24)⟩,
      ⟨some 26, some (25, false), .fa 4 (.t 2)⟩,
      ⟨some 27, some (25, false), .ld none (.t 26)⟩,
      ⟨some 28, some (25, false), .fa 4 (.t 3)⟩,
      ⟨some 29, some (25, false), .ld none (.t 28)⟩,
      ⟨some 30, some (25, false), .bin .neq .none (.t 27) (.t 29)⟩,
      ⟨some 31, none, .pick (.t 25) (.c (.bool true)) (.t 30)⟩,
      ⟨some 32, none, .mov (.t 31)⟩,
      ⟨some 33, some (32, false), .fa 5 (.t 2)⟩,
      ⟨some 34, some (32, false), .ld none (.t 33)⟩,
      ⟨some 35, some (32, false), .fa 5 (.t 3)⟩,
      ⟨some 36, some (32, false), .ld none (.t 35)⟩,
      ⟨some 37, some (32, false), .bin .neq .none (.t 34) (.t 36)⟩,
      ⟨some 38, none, .pick (.t 32) (.c (.bool true)) (.t 37)⟩,
      ⟨some 39, none, .mov (.t 38)⟩,
      ⟨some 40, some (39, false), .fa 2 (.t 2)⟩,
      ⟨some 41, some (39, false), .ld none (.t 40)⟩,
      ⟨some 42, some (39, false), .len (.t 41)⟩,
      ⟨some 43, some (39, false), .fa 2 (.t 3)⟩,
      ⟨some 44, some (39, false), .ld none (.t 43)⟩,
      ⟨some 45, some (39, false), .len (.t 44)⟩,
      ⟨some 46, some (39, false), .bin .neq .none (.t 42) (.t 45)⟩,
      ⟨some 47, none, .pick (.t 39) (.c (.bool true)) (.t 46)⟩] (some [2, 3, 47]))
    (.cond (.t 47)
     (.seq
      (.reg [⟨some 4, none, .mov (.c (.bool false))⟩] (some [4]))
      .ret)
     .skip))
  ir_clavierref03Same_t2)
def ir_clavierref03Same : ICode :=
 (.seq
  (.reg [⟨some 2, none, .box 32 (.t 0)⟩,
    ⟨some 3, none, .box 32 (.t 1)⟩,
    ⟨some 4, none, .mov (.c (.bool false))⟩] (some [2, 3]))
  ir_clavierref03Same_t1)
theorem is_clavierref03Same : IrOf Tryd.prog 15 67 ir_clavierref03Same [.t 4] := ⟨_, Tryd.func15, rfl, by kernel_rfl, by kernel_rfl, by kernel_rfl⟩

/- clavier/clavierref05.Same -/
def ir_clavierref05Same_l0 : ICode :=
 (.seq
        (.seq
         (.reg [⟨some 11, none, .mov (.t 5)⟩,
           ⟨some 12, none, .mov (.t 0)⟩,
           ⟨some 13, none, .len (.t 12)⟩,
           ⟨some 14, none, .bin .lss .none (.t 11) (.t 13)⟩] (some [0, 1, 5, 14]))
         (.cond (.t 14)
          .skip
          (.exit 0)))
        (.seq
         (.blk 1
          (.seq
           (.drw [⟨⟨some 17, none, .mov (.t 0)⟩, []⟩,
             ⟨⟨some 18, none, .mov (.t 5)⟩, []⟩,
             ⟨⟨some 19, none, .ia 6 (.t 17) (.t 18)⟩, [0, 1]⟩,
             ⟨⟨some 20, none, .ld (some 6) (.t 19)⟩, [2]⟩,
             ⟨⟨some 21, none, .mov (.t 1)⟩, []⟩,
             ⟨⟨some 22, none, .mov (.t 5)⟩, []⟩,
             ⟨⟨some 23, none, .ia 6 (.t 21) (.t 22)⟩, [4, 5]⟩,
             ⟨⟨some 24, none, .ld (some 6) (.t 23)⟩, [6]⟩,
             ⟨⟨some 25, none, .call (.c (.fn (.func 15) [] [])) [(.t 20), (.t 24)]⟩, [3, 7]⟩,
             ⟨⟨some 26, none, .un .not (.t 25)⟩, [8]⟩]
             [] (some [0, 1, 5, 26]))
           (.cond (.t 26)
            (.seq
             (.reg [⟨some 4, none, .mov (.c (.bool false))⟩] (some [4]))
             .ret)
            .skip)))
         (.reg [⟨some 15, none, .mov (.t 5)⟩,
           ⟨some 16, none, .bin .add .none (.t 15) (.c (.int .i64 1))⟩,
           ⟨some 5, none, .mov (.t 16)⟩] (some [0, 1, 5]))))
def ir_clavierref05Same_t3 : ICode :=
 (.seq
  (.reg [⟨some 4, none, .mov (.c (.bool true))⟩] (some [4]))
  .ret)
def ir_clavierref05Same_t2 : ICode :=
 (.seq
  (.seq
     (.reg [⟨some 5, none, .mov (.c (.int .i64 0))⟩] (some [0, 1, 5]))
     (.blk 0
      (.loop
       ir_clavierref05Same_l0)))
  ir_clavierref05Same_t3)
def ir_clavierref05Same_t1 : ICode :=
 (.seq
  (.seq
    (.reg [⟨some 6, none, .mov (.t 0)⟩,
      ⟨some 7, none, .len (.t 6)⟩,
      ⟨some 8, none, .mov (.t 1)⟩,
      ⟨some 9, none, .len (.t 8)⟩,
      ⟨some 10, none, .bin .neq .none (.t 7) (.t 9)⟩] (some [0, 1, 10]))
    (.cond (.t 10)
     (.seq
      (.reg [⟨some 4, none, .mov (.c (.bool false))⟩] (some [4]))
      .ret)
     .skip))
  ir_clavierref05Same_t2)
def ir_clavierref05Same : ICode :=
 (.seq
  (.reg [⟨some 4, none, .mov (.c (.bool false))⟩] (some [0, 1]))
  ir_clavierref05Same_t1)
theorem is_clavierref05Same : IrOf Tryd.prog 10 27 ir_clavierref05Same [.t 4] := ⟨_, Tryd.func10, rfl, by kernel_rfl, by kernel_rfl, by kernel_rfl⟩

def Sq.eqb (a b : Sq) : Bool := decide (a = b)
theorem fs_Same {Gl : Gh → Prop} (hst : Stays Gl) {a b : Sq} (ha : a.ps.length < 9223372036854775808) (hb : b.ps.length < 9223372036854775808) (ha2 : ∀ p ∈ a.ps, p.length < 9223372036854775808) (hb2 : ∀ p ∈ b.ps, p.length < 9223372036854775808) : FS Tryd.prog Gl 15 [.agg a.c, .agg b.c] [] [] (.bool (decide (a = b))) [] [] := by
  obtain ⟨k, pr, ps, it, fi, da⟩ := a
  obtain ⟨k', pr', ps', it', fi', da'⟩ := b
  simp only at ha hb ha2 hb2
  refine FS.of hm hst is_clavierref03Same (by simp) fun γ hγ hfr => ?_
  simp only [Sq.c, parsV] at hfr ⊢
  have cl : AV.closedL [AV.int .i64 k, .int .u8 pr, .sl none 1 (parsAV ps), .str it, .int .u8 fi, .str da] = true := rfl
  have cl' : AV.closedL [AV.int .i64 k', .int .u8 pr', .sl none 1 (parsAV ps'), .str it', .int .u8 fi', .str da'] = true := rfl
  (generalize hQ : (fun (ex : Ex) (_ _ : Nat) (s : St) => _) = Q; unfold ir_clavierref03Same)
  simp +contextual (maxSteps := 1000000) only [parsAV_length, go_sem, reduceCtorEq, ↓reduceIte, Nat.reduceAdd, Nat.reduceEqDiff, Nat.reduceLeDiff, Nat.reduceMul, Nat.reduceBEq, Int.reduceBEq, Int.reduceBNe, Int.reduceLT, Int.reduceLE, Int.reduceGT, Int.reduceGE, Int.reduceToNat, Int.natCast_one, Int.natCast_zero, Int.cast_ofNat_Int]
  unfold ir_clavierref03Same_t1
  simp +contextual (maxSteps := 1000000) only [parsAV_length, go_sem, reduceCtorEq, ↓reduceIte, Nat.reduceAdd, Nat.reduceEqDiff, Nat.reduceLeDiff, Nat.reduceMul, Nat.reduceBEq, Int.reduceBEq, Int.reduceBNe, Int.reduceLT, Int.reduceLE, Int.reduceGT, Int.reduceGE, Int.reduceToNat, Int.natCast_one, Int.natCast_zero, Int.cast_ofNat_Int]
  refine kCond_split (fun h => ?_) (fun h => ?_)
  · simp +contextual (maxSteps := 1000000) only [go_sem, reduceCtorEq, ↓reduceIte, Nat.reduceAdd, Nat.reduceEqDiff, Nat.reduceLeDiff, Nat.reduceMul, Nat.reduceBEq, Int.reduceBEq, Int.reduceBNe, Int.reduceLT, Int.reduceLE, Int.reduceGT, Int.reduceGE, Int.reduceToNat, Int.natCast_one, Int.natCast_zero, Int.cast_ofNat_Int]
    rw [← hQ]
    have e : decide ((⟨k, pr, ps, it, fi, da⟩ : Sq) = ⟨k', pr', ps', it', fi', da'⟩) = false := by
      rw [decide_eq_false_iff_not]; intro e; injection e with e1 e2 e3 e4 e5 e6; subst e1 e2 e3 e4 e5 e6; simp at h
    rw [e]
    exact ⟨trivial, Ret.flat rfl rfl⟩
  · simp +contextual (maxSteps := 1000000) only [go_sem, reduceCtorEq, ↓reduceIte, Nat.reduceAdd, Nat.reduceEqDiff, Nat.reduceLeDiff, Nat.reduceMul, Nat.reduceBEq, Int.reduceBEq, Int.reduceBNe, Int.reduceLT, Int.reduceLE, Int.reduceGT, Int.reduceGE, Int.reduceToNat, Int.natCast_one, Int.natCast_zero, Int.cast_ofNat_Int]
    unfold ir_clavierref03Same_t2
    simp +contextual (maxSteps := 1000000) only [go_sem, reduceCtorEq, ↓reduceIte, Nat.reduceAdd, Nat.reduceEqDiff, Nat.reduceLeDiff, Nat.reduceMul, Nat.reduceBEq, Int.reduceBEq, Int.reduceBNe, Int.reduceLT, Int.reduceLE, Int.reduceGT, Int.reduceGE, Int.reduceToNat, Int.natCast_one, Int.natCast_zero, Int.cast_ofNat_Int]
    refine kLoop_ix (fun i : Nat => ⟨lf [(2, .ptr (γ, 0, 0) 0), (3, .ptr (γ, 1, 0) 0), (5, .int .i64 i)], [((γ, 1, 0), .cells [.int .i64 k', .int .u8 pr', .sl none 1 (parsAV ps'), .str it', .int .u8 fi', .str da']), ((γ, 0, 0), .cells [.int .i64 k, .int .u8 pr, .sl none 1 (parsAV ps), .str it, .int .u8 fi, .str da])], fun x => x ∈ []⟩) (fun i => i ≤ ps.length ∧ ps.take i = ps'.take i) (fun i => ps.length - i) 0 0 (Wk.same ?_) ?_ ?_
    · (simp only [lfOK, upd, initF]; repeat' first | exact AVle.refl _ _ | exact trivial | refine And.intro ?_ ?_ | exact AVle.int (by simp only [IntKind.wrap_i64]; omega))
    · simp
    · rintro γ' i hf ⟨hi, hinv⟩
      generalize hQ' : kIt _ _ _ _ _ = Q'
      unfold ir_clavierref03Same_l0
      by_cases hlt : i < ps.length
      · have hd : decide ((i : Int) < (ps.length : Int)) = true := by simp; omega
        have hlt' : i < ps'.length := by simp at h; omega
        have g1 : (parsAV ps).getD (i : Int).toNat [] = [intsV ps[i]] := by rw [Int.toNat_natCast]; exact parsAV_get hlt
        have g2 : (parsAV ps').getD (i : Int).toNat [] = [intsV ps'[i]] := by rw [Int.toNat_natCast]; exact parsAV_get hlt'
        simp +contextual (maxSteps := 1000000) only [parsAV_length, hd, g1, g2, go_sem, reduceCtorEq, ↓reduceIte, Nat.reduceAdd, Nat.reduceEqDiff, Nat.reduceLeDiff, Nat.reduceMul, Nat.reduceBEq, Int.reduceBEq, Int.reduceBNe, Int.reduceLT, Int.reduceLE, Int.reduceGT, Int.reduceGE, Int.reduceToNat, Int.natCast_one, Int.natCast_zero, Int.cast_ofNat_Int]
        refine ⟨by omega, by omega, DCall.new (fs_Ints hst (ha2 _ (List.getElem_mem hlt)) (hb2 _ (List.getElem_mem hlt'))) ?_⟩
        simp +contextual (maxSteps := 1000000) only [go_sem, reduceCtorEq, ↓reduceIte, Nat.reduceAdd, Nat.reduceEqDiff, Nat.reduceLeDiff, Nat.reduceMul, Nat.reduceBEq, Int.reduceBEq, Int.reduceBNe, Int.reduceLT, Int.reduceLE, Int.reduceGT, Int.reduceGE, Int.reduceToNat, Int.natCast_one, Int.natCast_zero, Int.cast_ofNat_Int]
        refine kCond_split (fun h1 => ?_) (fun h1 => ?_)
        · simp +contextual (maxSteps := 1000000) only [go_sem, reduceCtorEq, ↓reduceIte, Nat.reduceAdd, Nat.reduceEqDiff, Nat.reduceLeDiff, Nat.reduceMul, Nat.reduceBEq, Int.reduceBEq, Int.reduceBNe, Int.reduceLT, Int.reduceLE, Int.reduceGT, Int.reduceGE, Int.reduceToNat, Int.natCast_one, Int.natCast_zero, Int.cast_ofNat_Int]
          rw [← hQ']
          simp only [w_kIt_r, w_kBlk_r, w_kSeq_r]
          have e : decide ((⟨k, pr, ps, it, fi, da⟩ : Sq) = ⟨k', pr', ps', it', fi', da'⟩) = false := by
            rw [decide_eq_false_iff_not]; intro e; injection e with e1 e2 e3 e4 e5 e6; subst e3; simp at h1
          rw [← hQ, e]
          exact ⟨trivial, Ret.flat rfl rfl⟩
        · simp +contextual (maxSteps := 1000000) only [go_sem, reduceCtorEq, ↓reduceIte, Nat.reduceAdd, Nat.reduceEqDiff, Nat.reduceLeDiff, Nat.reduceMul, Nat.reduceBEq, Int.reduceBEq, Int.reduceBNe, Int.reduceLT, Int.reduceLE, Int.reduceGT, Int.reduceGE, Int.reduceToNat, Int.natCast_one, Int.natCast_zero, Int.cast_ofNat_Int]
          rw [← hQ']
          simp only [w_kIt_n]
          have h2 : ps[i] = ps'[i] := by simpa using h1
          refine ⟨0, i + 1, Wk.same ?_, ⟨by omega, ?_⟩, by omega⟩
          · repeat' first | exact AVle.refl _ _ | exact trivial | refine And.intro ?_ ?_ | exact AVle.int (by simp only [IntKind.wrap_i64]; omega)
          · rw [List.take_add_one, List.take_add_one, hinv, List.getElem?_eq_getElem hlt, List.getElem?_eq_getElem hlt', h2]
      · have hd : decide ((i : Int) < (ps.length : Int)) = false := by simp; omega
        simp +contextual (maxSteps := 1000000) only [parsAV_length, hd, go_sem, reduceCtorEq, ↓reduceIte, Nat.reduceAdd, Nat.reduceEqDiff, Nat.reduceLeDiff, Nat.reduceMul, Nat.reduceBEq, Int.reduceBEq, Int.reduceBNe, Int.reduceLT, Int.reduceLE, Int.reduceGT, Int.reduceGE, Int.reduceToNat, Int.natCast_one, Int.natCast_zero, Int.cast_ofNat_Int]
        rw [← hQ']
        simp only [w_kIt_e, w_kBlk_e, ↓reduceIte]
        unfold ir_clavierref03Same_t3
        simp +contextual (maxSteps := 1000000) only [go_sem, reduceCtorEq, ↓reduceIte, Nat.reduceAdd, Nat.reduceEqDiff, Nat.reduceLeDiff, Nat.reduceMul, Nat.reduceBEq, Int.reduceBEq, Int.reduceBNe, Int.reduceLT, Int.reduceLE, Int.reduceGT, Int.reduceGE, Int.reduceToNat, Int.natCast_one, Int.natCast_zero, Int.cast_ofNat_Int]
        have h4 : ps.length = ps'.length := by simp at h; omega
        have h3 := hinv
        rw [List.take_of_length_le (by omega), List.take_of_length_le (by omega)] at h3
        have e : decide ((⟨k, pr, ps, it, fi, da⟩ : Sq) = ⟨k', pr', ps', it', fi', da'⟩) = true := by
          subst h3; simp at h; simp [h]
        rw [← hQ, e]
        exact ⟨trivial, Ret.flat rfl rfl⟩
end Go.Proofs.YtgdgfefojfgpaaaDoor

/- Two rows of sequences held against each other. -/
set_option linter.unusedVariables false
set_option linter.unusedSimpArgs false
set_option maxRecDepth 100000
namespace Go.Proofs.YtgdgfefojfgpaaaDoor
open Go Go.Ab
def sqsAV (l : List Sq) : List (List AV) := l.map Sq.c
theorem sqsAV_length (l : List Sq) : (sqsAV l).length = l.length := by simp [sqsAV]
theorem sqsAV_get {l : List Sq} {i : Nat} (h : i < l.length) : (sqsAV l).getD i [] = l[i].c := by
  rw [List.getD_eq_getElem?_getD]; simp [sqsAV, h]
/-- No list of it is longer than there may be. -/
structure Sq.sm (s : Sq) : Prop where
  ps : s.ps.length < 9223372036854775808
  pp : ∀ p ∈ s.ps, p.length < 9223372036854775808
  it : s.it.length < 9223372036854775808
  da : s.da.length < 9223372036854775808
theorem c_len (s : Sq) : s.c.length = 6 := rfl
theorem fs_Sames {Gl : Gh → Prop} (hst : Stays Gl) {a b : List Sq} (ha : a.length < 9223372036854775808) (hb : b.length < 9223372036854775808) (ha2 : ∀ s ∈ a, s.sm) (hb2 : ∀ s ∈ b, s.sm) : FS Tryd.prog Gl 10 [.sl none 6 (sqsAV a), .sl none 6 (sqsAV b)] [] [] (.bool (decide (a = b))) [] [] := by
  refine FS.of hm hst is_clavierref05Same (by simp) fun γ hγ hfr => ?_
  (generalize hQ : (fun (ex : Ex) (_ _ : Nat) (s : St) => _) = Q; unfold ir_clavierref05Same)
  simp +contextual (maxSteps := 1000000) only [go_sem, reduceCtorEq, ↓reduceIte, Nat.reduceAdd, Nat.reduceEqDiff, Nat.reduceLeDiff, Nat.reduceMul, Nat.reduceBEq, Int.reduceBEq, Int.reduceBNe, Int.reduceLT, Int.reduceLE, Int.reduceGT, Int.reduceGE, Int.reduceToNat, Int.natCast_one, Int.natCast_zero, Int.cast_ofNat_Int]
  unfold ir_clavierref05Same_t1
  simp +contextual (maxSteps := 1000000) only [sqsAV_length, go_sem, reduceCtorEq, ↓reduceIte, Nat.reduceAdd, Nat.reduceEqDiff, Nat.reduceLeDiff, Nat.reduceMul, Nat.reduceBEq, Int.reduceBEq, Int.reduceBNe, Int.reduceLT, Int.reduceLE, Int.reduceGT, Int.reduceGE, Int.reduceToNat, Int.natCast_one, Int.natCast_zero, Int.cast_ofNat_Int]
  refine kCond_split (fun h => ?_) (fun h => ?_)
  · simp +contextual (maxSteps := 1000000) only [go_sem, reduceCtorEq, ↓reduceIte, Nat.reduceAdd, Nat.reduceEqDiff, Nat.reduceLeDiff, Nat.reduceMul, Nat.reduceBEq, Int.reduceBEq, Int.reduceBNe, Int.reduceLT, Int.reduceLE, Int.reduceGT, Int.reduceGE, Int.reduceToNat, Int.natCast_one, Int.natCast_zero, Int.cast_ofNat_Int]
    rw [← hQ]
    have e : decide (a = b) = false := by
      rw [decide_eq_false_iff_not]; intro e; subst e; simp at h
    rw [e]
    exact ⟨trivial, Ret.flat rfl rfl⟩
  · simp +contextual (maxSteps := 1000000) only [go_sem, reduceCtorEq, ↓reduceIte, Nat.reduceAdd, Nat.reduceEqDiff, Nat.reduceLeDiff, Nat.reduceMul, Nat.reduceBEq, Int.reduceBEq, Int.reduceBNe, Int.reduceLT, Int.reduceLE, Int.reduceGT, Int.reduceGE, Int.reduceToNat, Int.natCast_one, Int.natCast_zero, Int.cast_ofNat_Int]
    unfold ir_clavierref05Same_t2
    simp +contextual (maxSteps := 1000000) only [go_sem, reduceCtorEq, ↓reduceIte, Nat.reduceAdd, Nat.reduceEqDiff, Nat.reduceLeDiff, Nat.reduceMul, Nat.reduceBEq, Int.reduceBEq, Int.reduceBNe, Int.reduceLT, Int.reduceLE, Int.reduceGT, Int.reduceGE, Int.reduceToNat, Int.natCast_one, Int.natCast_zero, Int.cast_ofNat_Int]
    refine kLoop_ix (fun i : Nat => ⟨lf [(0, .sl none 6 (sqsAV a)), (1, .sl none 6 (sqsAV b)), (5, .int .i64 i)], [], fun x => x ∈ []⟩) (fun i => i ≤ a.length ∧ a.take i = b.take i) (fun i => a.length - i) 0 0 (Wk.same ?_) ?_ ?_
    · (simp only [lfOK, upd, initF]; repeat' first | exact AVle.refl _ _ | exact trivial | refine And.intro ?_ ?_ | exact AVle.int (by simp only [IntKind.wrap_i64]; omega))
    · simp
    · rintro γ' i hf ⟨hi, hinv⟩
      generalize hQ' : kIt _ _ _ _ _ = Q'
      unfold ir_clavierref05Same_l0
      by_cases hlt : i < a.length
      · have hd : decide ((i : Int) < (a.length : Int)) = true := by simp; omega
        have hlt' : i < b.length := by simp at h; omega
        have g1 : (sqsAV a).getD (i : Int).toNat [] = a[i].c := by rw [Int.toNat_natCast]; exact sqsAV_get hlt
        have g2 : (sqsAV b).getD (i : Int).toNat [] = b[i].c := by rw [Int.toNat_natCast]; exact sqsAV_get hlt'
        have t6 : ∀ s : Sq, s.c.take 6 = s.c := fun s => rfl
        have s1 := ha2 _ (List.getElem_mem hlt)
        have s2 := hb2 _ (List.getElem_mem hlt')
        simp +contextual (maxSteps := 1000000) only [sqsAV_length, hd, g1, g2, c_len, t6, go_sem, reduceCtorEq, ↓reduceIte, Nat.reduceAdd, Nat.reduceEqDiff, Nat.reduceLeDiff, Nat.reduceMul, Nat.reduceBEq, Int.reduceBEq, Int.reduceBNe, Int.reduceLT, Int.reduceLE, Int.reduceGT, Int.reduceGE, Int.reduceToNat, Int.natCast_one, Int.natCast_zero, Int.cast_ofNat_Int]
        refine ⟨by omega, by omega, DCall.new (fs_Same hst s1.ps s2.ps s1.pp s2.pp) ?_⟩
        simp +contextual (maxSteps := 1000000) only [go_sem, reduceCtorEq, ↓reduceIte, Nat.reduceAdd, Nat.reduceEqDiff, Nat.reduceLeDiff, Nat.reduceMul, Nat.reduceBEq, Int.reduceBEq, Int.reduceBNe, Int.reduceLT, Int.reduceLE, Int.reduceGT, Int.reduceGE, Int.reduceToNat, Int.natCast_one, Int.natCast_zero, Int.cast_ofNat_Int]
        refine kCond_split (fun h1 => ?_) (fun h1 => ?_)
        · simp +contextual (maxSteps := 1000000) only [go_sem, reduceCtorEq, ↓reduceIte, Nat.reduceAdd, Nat.reduceEqDiff, Nat.reduceLeDiff, Nat.reduceMul, Nat.reduceBEq, Int.reduceBEq, Int.reduceBNe, Int.reduceLT, Int.reduceLE, Int.reduceGT, Int.reduceGE, Int.reduceToNat, Int.natCast_one, Int.natCast_zero, Int.cast_ofNat_Int]
          rw [← hQ']
          simp only [w_kIt_r, w_kBlk_r, w_kSeq_r]
          have e : decide (a = b) = false := by
            rw [decide_eq_false_iff_not]; intro e; subst e; simp at h1
          rw [← hQ, e]
          exact ⟨trivial, Ret.flat rfl rfl⟩
        · simp +contextual (maxSteps := 1000000) only [go_sem, reduceCtorEq, ↓reduceIte, Nat.reduceAdd, Nat.reduceEqDiff, Nat.reduceLeDiff, Nat.reduceMul, Nat.reduceBEq, Int.reduceBEq, Int.reduceBNe, Int.reduceLT, Int.reduceLE, Int.reduceGT, Int.reduceGE, Int.reduceToNat, Int.natCast_one, Int.natCast_zero, Int.cast_ofNat_Int]
          rw [← hQ']
          simp only [w_kIt_n]
          have h2 : a[i] = b[i] := by simpa using h1
          refine ⟨0, i + 1, Wk.same ?_, ⟨by omega, ?_⟩, by omega⟩
          · repeat' first | exact AVle.refl _ _ | exact trivial | refine And.intro ?_ ?_ | exact AVle.int (by simp only [IntKind.wrap_i64]; omega)
          · rw [List.take_add_one, List.take_add_one, hinv, List.getElem?_eq_getElem hlt, List.getElem?_eq_getElem hlt', h2]
      · have hd : decide ((i : Int) < (a.length : Int)) = false := by simp; omega
        simp +contextual (maxSteps := 1000000) only [sqsAV_length, hd, go_sem, reduceCtorEq, ↓reduceIte, Nat.reduceAdd, Nat.reduceEqDiff, Nat.reduceLeDiff, Nat.reduceMul, Nat.reduceBEq, Int.reduceBEq, Int.reduceBNe, Int.reduceLT, Int.reduceLE, Int.reduceGT, Int.reduceGE, Int.reduceToNat, Int.natCast_one, Int.natCast_zero, Int.cast_ofNat_Int]
        rw [← hQ']
        simp only [w_kIt_e, w_kBlk_e, ↓reduceIte]
        unfold ir_clavierref05Same_t3
        simp +contextual (maxSteps := 1000000) only [go_sem, reduceCtorEq, ↓reduceIte, Nat.reduceAdd, Nat.reduceEqDiff, Nat.reduceLeDiff, Nat.reduceMul, Nat.reduceBEq, Int.reduceBEq, Int.reduceBNe, Int.reduceLT, Int.reduceLE, Int.reduceGT, Int.reduceGE, Int.reduceToNat, Int.natCast_one, Int.natCast_zero, Int.cast_ofNat_Int]
        have h4 : a.length = b.length := by simp at h; omega
        have h3 := hinv
        rw [List.take_of_length_le (by omega), List.take_of_length_le (by omega)] at h3
        have e : decide (a = b) = true := by simpa using h3
        rw [← hQ, e]
        exact ⟨trivial, Ret.flat rfl rfl⟩
end Go.Proofs.YtgdgfefojfgpaaaDoor

/- The parser of layer 5, as plain functions: how great its state grows, how it goes on behind parts. -/
set_option linter.unusedVariables false
set_option linter.unusedSimpArgs false
namespace Go.Proofs.YtgdgfefojfgpaaaDoor
open Go Go.Ab

theorem parsOk_len {l : List (List Int)} (h : parsOk l = true) : l.length ≤ 16 ∧ ∀ p ∈ l, p.length ≤ 8 := by
  simp only [parsOk, Bool.and_eq_true, Bool.not_eq_true', Bool.or_eq_false_iff, decide_eq_false_iff_not] at h
  obtain ⟨⟨h1, _⟩, h2⟩ := h
  refine ⟨by omega, fun p hp => ?_⟩
  have := List.any_eq_false.1 h2 p hp
  simp only [parBad, Bool.or_eq_true, decide_eq_true_eq, not_or] at this
  omega
theorem mayP_sm {s : Sq} (h : mayP s = 0) : s.sm ∧ s.ps.length ≤ 16 ∧ (∀ p ∈ s.ps, p.length ≤ 8) ∧ s.it.length ≤ 2 ∧ s.da.length ≤ 4096 := by
  simp only [mayP] at h
  split at h
  · cases h
  · rename_i h1
    split at h
    · cases h
    · rename_i h2
      simp only [Bool.or_eq_true, Bool.not_eq_true', not_or, Bool.not_eq_false, Bool.and_eq_true, decide_eq_true_eq] at h2 h1
      obtain ⟨⟨⟨⟨_, h3⟩, h4⟩, _⟩, _⟩ := h2
      obtain ⟨k1, k2⟩ := parsOk_len h4
      have k3 : s.it.length ≤ 2 := by have := h3.1; omega
      have k4 : s.da.length ≤ 4096 := by omega
      exact ⟨⟨by omega, fun p hp => by have := k2 p hp; omega, by omega, by omega⟩, k1, k2, k3, k4⟩

/-- What the parser holds, behind so many bytes. -/
structure Pp.w (n : Nat) (x : Pp) : Prop where
  tx : x.tx.length ≤ n
  it : x.it.length ≤ n
  da : x.da.length ≤ 4096
  fi : 0 ≤ x.fi ∧ x.fi < 128
  ou : x.ou.length ≤ n
  mo : ∀ s ∈ x.ou, mayP s = 0
theorem Pp.w.sz {n : Nat} {x : Pp} (h : x.w n) (hn : n < 4294967281) : x.sz := ⟨by have := h.tx; omega, by have := h.it; omega, h.da, h.fi, by have := h.ou; omega⟩
theorem Pp.w.le {n m : Nat} {x : Pp} (h : x.w n) (hn : n ≤ m) : x.w m := ⟨by have := h.tx; omega, by have := h.it; omega, h.da, h.fi, by have := h.ou; omega, h.mo⟩
theorem Pp.w.nx {n : Nat} {x : Pp} (h : x.w n) (k : Option Nx) : ({ x with nx := k } : Pp).w n := ⟨h.tx, h.it, h.da, h.fi, h.ou, h.mo⟩
theorem Pp.w.drop {n : Nat} {x : Pp} (h : x.w n) : x.drop.w n := ⟨Nat.zero_le _, Nat.zero_le _, by simp [Pp.drop, Pp.zero], by simp [Pp.drop, Pp.zero], h.ou, h.mo⟩
theorem Pp.w.tell {n : Nat} {x : Pp} (h : x.w n) : x.tell.w (n + 1) := by
  refine ⟨Nat.zero_le _, Nat.zero_le _, by simp [Pp.tell, Pp.zero], by simp [Pp.tell, Pp.zero], ?_, ?_⟩
  · simp only [Pp.tell]
    have := h.ou
    split
    · simp; omega
    · omega
  · simp only [Pp.tell]
    split
    · rename_i hc
      intro s hs
      rcases List.mem_append.1 hs with hs | hs
      · exact h.mo s hs
      · simp only [List.mem_singleton] at hs
        subst hs; exact hc.2
    · exact h.mo
theorem Pp.w.inter {n : Nat} {x : Pp} (h : x.w n) (c : UInt8) : (x.inter c).w (n + 1) := by
  refine ⟨Nat.le_succ_of_le h.tx, ?_, h.da, h.fi, Nat.le_succ_of_le h.ou, h.mo⟩
  simp only [Pp.inter]
  have := h.it
  split
  · omega
  · simp; omega
theorem Pp.w.opened {n : Nat} {x : Pp} (h : x.w n) (c : Int) : (x.opened c).2.w (n + 1) := by
  have h := h.le (Nat.le_succ n)
  unfold Pp.opened
  repeat' split
  all_goals exact ⟨h.tx, h.it, h.da, h.fi, h.ou, h.mo⟩
theorem Pp.w.behind {n : Nat} {x : Pp} (h : x.w n) (c : UInt8) : (x.behind c).2.w (n + 1) := by
  have h' := h.le (Nat.le_succ n)
  unfold Pp.behind
  split
  · exact h'
  split
  · exact h'.drop
  split
  · exact h.inter c
  split
  · rename_i h1 h2 h3 h4
    refine Pp.w.tell ⟨h.tx, h.it, h.da, ?_, h.ou, h.mo⟩
    simp at h2 ⊢; omega
  · exact h.opened _
theorem Pp.w.head {n : Nat} {x : Pp} (h : x.w n) (c : UInt8) : (x.head c).2.w (n + 1) := by
  have h' := h.le (Nat.le_succ n)
  unfold Pp.head
  split
  · exact h'
  split
  · exact h'.drop
  rename_i hc
  have hf : 0 ≤ (c.toNat : Int) ∧ (c.toNat : Int) < 128 := by simp at hc ⊢; omega
  split
  · have := h.inter c; exact ⟨this.tx, this.it, this.da, this.fi, this.ou, this.mo⟩
  split
  · exact ⟨by have := h.tx; simp; omega, h'.it, h.da, h.fi, h'.ou, h.mo⟩
  split
  · exact ⟨h'.tx, h'.it, h.da, h.fi, h'.ou, h.mo⟩
  split
  · exact ⟨h'.tx, h'.it, h.da, hf, h'.ou, h.mo⟩
  · exact Pp.w.tell ⟨h.tx, h.it, h.da, hf, h.ou, h.mo⟩
theorem Pp.w.inside {n : Nat} {x : Pp} (h : x.w n) (c : UInt8) : (x.inside c).2.w (n + 1) := by
  have h' := h.le (Nat.le_succ n)
  unfold Pp.inside
  split
  · exact h.tell
  split
  · exact h'
  split
  · exact ⟨h'.tx, h'.it, h.da, h.fi, h'.ou, h.mo⟩
  · rename_i hc
    refine ⟨h'.tx, h'.it, ?_, h.fi, h'.ou, h.mo⟩
    have := h.da
    simp at hc ⊢; omega
theorem Pp.w.ending {n : Nat} {x : Pp} (h : x.w n) (c : UInt8) : (x.ending c).2.w (n + 1) := by
  unfold Pp.ending
  split
  · exact h.tell
  · exact h.drop.behind c
theorem Pp.w.one {n : Nat} {x : Pp} (h : x.w n) (c : UInt8) : (x.one c).2.w (n + 1) := by
  have h' := h.le (Nat.le_succ n)
  unfold Pp.one
  split
  · exact h'.drop
  split
  · exact ⟨h'.tx, h'.it, h.da, h.fi, h'.ou, h.mo⟩
  split
  · exact h'.drop
  split
  · exact h'
  · rename_i k _
    cases k with
    | behind => exact h.behind c
    | head => exact h.head c
    | inside => exact h.inside c
    | unread => exact h'
    | ending => exact h.ending c
theorem Pp.w.put {n : Nat} {x : Pp} (h : x.w n) (c : UInt8) : (x.put c).w (n + 1) := (h.one c).nx _
theorem Pp.w.puts {x : Pp} : ∀ {b : List UInt8} {n : Nat}, x.w n → (x.puts b).w (n + b.length)
  | [], n, h => h
  | c :: b, n, h => by
    have := Pp.w.puts (b := b) (h.put c)
    simp only [Pp.puts, List.foldl_cons, List.length_cons] at this ⊢
    rwa [show n + (b.length + 1) = n + 1 + b.length by omega]
theorem Pp.w.zero : Pp.zero.w 0 := ⟨by simp [Pp.zero], by simp [Pp.zero], by simp [Pp.zero], by simp [Pp.zero], by simp [Pp.zero], by simp [Pp.zero]⟩
theorem Pp.puts_app (x : Pp) (a b : List UInt8) : x.puts (a ++ b) = (x.puts a).puts b := by simp only [Pp.puts, List.foldl_append]

/-! ### What was told goes its own way -/
/-- Told ahead. -/
def Pp.ah (l : List Sq) (x : Pp) : Pp := { x with ou := l ++ x.ou }
theorem ah_drop (l : List Sq) (x : Pp) : (x.ah l).drop = x.drop.ah l := rfl
theorem ah_tell (l : List Sq) (x : Pp) : (x.ah l).tell = x.tell.ah l := by
  show ({ Pp.zero with ou := if x.b = false ∧ mayP x.seq = 0 then (l ++ x.ou) ++ [x.seq] else l ++ x.ou } : Pp) = { Pp.zero with ou := l ++ if x.b = false ∧ mayP x.seq = 0 then x.ou ++ [x.seq] else x.ou }
  by_cases h : x.b = false ∧ mayP x.seq = 0
  · rw [if_pos h, if_pos h, List.append_assoc]
  · rw [if_neg h, if_neg h]
theorem ah_inter (l : List Sq) (x : Pp) (c : UInt8) : (x.ah l).inter c = (x.inter c).ah l := rfl
theorem ah_opened (l : List Sq) (x : Pp) (c : Int) : (x.ah l).opened c = ((x.opened c).1, (x.opened c).2.ah l) := by
  unfold Pp.opened
  repeat' split
  all_goals rfl
theorem ah_behind (l : List Sq) (x : Pp) (c : UInt8) : (x.ah l).behind c = ((x.behind c).1, (x.behind c).2.ah l) := by
  unfold Pp.behind
  split
  · rfl
  split
  · rfl
  split
  · rfl
  rw [show (x.ah l).it = x.it from rfl]
  split
  · show (none, (Pp.ah l { x with k := 5, fi := (c.toNat : Int) }).tell) = _
    rw [ah_tell]
  · exact ah_opened l x _
theorem ah_head (l : List Sq) (x : Pp) (c : UInt8) : (x.ah l).head c = ((x.head c).1, (x.head c).2.ah l) := by
  unfold Pp.head
  split
  · rfl
  split
  · rfl
  split
  · rfl
  split
  · rfl
  split
  · rfl
  rw [show (x.ah l).k = x.k from rfl]
  split
  · rfl
  · show (none, (Pp.ah l { x with fi := (c.toNat : Int) }).tell) = _
    rw [ah_tell]
theorem ah_inside (l : List Sq) (x : Pp) (c : UInt8) : (x.ah l).inside c = ((x.inside c).1, (x.inside c).2.ah l) := by
  unfold Pp.inside
  rw [show (x.ah l).k = x.k from rfl, show (x.ah l).b = x.b from rfl, show (x.ah l).da = x.da from rfl]
  split
  · rw [ah_tell]
  split
  · rfl
  split
  · rfl
  · rfl
theorem ah_ending (l : List Sq) (x : Pp) (c : UInt8) : (x.ah l).ending c = ((x.ending c).1, (x.ending c).2.ah l) := by
  unfold Pp.ending
  split
  · rw [ah_tell]
  · rw [ah_drop, ah_behind]
theorem ah_one (l : List Sq) (x : Pp) (c : UInt8) : (x.ah l).one c = ((x.one c).1, (x.one c).2.ah l) := by
  unfold Pp.one
  rw [show (x.ah l).r = x.r from rfl, show (x.ah l).nx = x.nx from rfl]
  split
  · rfl
  split
  · rfl
  split
  · rfl
  split
  · rfl
  · rename_i k _
    cases k with
    | behind => exact ah_behind l x c
    | head => exact ah_head l x c
    | inside => exact ah_inside l x c
    | unread => rfl
    | ending => exact ah_ending l x c
theorem ah_put (l : List Sq) (x : Pp) (c : UInt8) : (x.ah l).put c = (x.put c).ah l := by
  simp only [Pp.put, ah_one]; rfl
theorem ah_puts (l : List Sq) (x : Pp) : ∀ b : List UInt8, (x.ah l).puts b = (x.puts b).ah l := by
  intro b
  induction b generalizing x with
  | nil => rfl
  | cons c b ih =>
    show ((x.ah l).put c).puts b = ((x.put c).puts b).ah l
    rw [ah_put, ih]
/-- Without what was told. -/
def Pp.mt (x : Pp) : Pp := { x with ou := [] }
theorem mt_ah (x : Pp) : x = x.mt.ah x.ou := by simp [Pp.mt, Pp.ah]
theorem puts_mt (x : Pp) (b : List UInt8) : (x.puts b).mt = (x.mt.puts b).mt ∧ (x.puts b).ou = x.ou ++ (x.mt.puts b).ou := by
  have h : x.puts b = (x.mt.puts b).ah x.ou := by
    conv => lhs; rw [mt_ah x]
    rw [ah_puts]
  rw [h]
  exact ⟨rfl, rfl⟩
end Go.Proofs.YtgdgfefojfgpaaaDoor

/- The reference's layer 3: Put, walked. -/
set_option linter.unusedVariables false
set_option linter.unusedSimpArgs false
set_option maxRecDepth 100000
namespace Go.Proofs.YtgdgfefojfgpaaaDoor
open Go Go.Ab
/-- clavier/clavierref03.Put -/
def ir_clavierref03Put : ICode :=
 (.seq
  (.reg [⟨some 1, none, .box 32 (.t 0)⟩,
    ⟨some 2, none, .mov (.c .nils)⟩,
    ⟨some 3, none, .mov (.c (.int .i64 0))⟩] (some [1]))
  (.seq
   (.reg [⟨some 6, none, .ld (some 6) (.t 1)⟩,
     ⟨some 7, none, .call (.c (.fn (.func 16) [] [])) [(.t 6)]⟩,
     ⟨some 4, none, .mov (.t 7)⟩] (some [1, 4]))
   (.seq
    (.seq
     (.reg [⟨some 8, none, .mov (.t 4)⟩,
       ⟨some 9, none, .bin .neq .none (.t 8) (.c (.int .i64 0))⟩] (some [1, 4, 9]))
     (.cond (.t 9)
      (.seq
       (.reg [⟨some 10, none, .mov (.t 4)⟩,
         ⟨some 2, none, .mov (.c .nils)⟩,
         ⟨some 3, none, .mov (.t 10)⟩] (some [2, 3]))
       .ret)
      .skip))
    (.seq
     (.reg [⟨some 11, none, .fa 4 (.t 1)⟩,
       ⟨some 12, none, .ld none (.t 11)⟩,
       ⟨some 13, none, .row 5 1 [(.t 12)]⟩,
       ⟨some 14, none, .b2s (.t 13)⟩,
       ⟨some 5, none, .mov (.t 14)⟩] (some [1, 5]))
     (.seq
      (.seq
       (.reg [⟨some 15, none, .fa 0 (.t 1)⟩,
         ⟨some 16, none, .ld none (.t 15)⟩] (some [1, 5, 16]))
       (.blk 0
        (.seq
         (.reg [⟨some 18, none, .bin .eql .none (.t 16) (.c (.int .i64 1))⟩,
           ⟨some 17, none, .mov (.t 18)⟩] (some [1, 5, 16, 17]))
         (.cond (.t 17)
          (.seq
           (.reg [⟨some 19, none, .ld (some 6) (.t 1)⟩,
             ⟨some 20, none, .call (.c (.fn (.func 17) [] [])) [(.t 19)]⟩,
             ⟨some 21, none, .bin .add .none (.c (.str [27, 91])) (.t 20)⟩,
             ⟨some 22, none, .mov (.t 5)⟩,
             ⟨some 23, none, .bin .add .none (.t 21) (.t 22)⟩,
             ⟨some 24, none, .s2b 5 (.t 23)⟩,
             ⟨some 2, none, .mov (.t 24)⟩,
             ⟨some 3, none, .mov (.c (.int .i64 0))⟩] (some [2, 3]))
           .ret)
          (.seq
           (.reg [⟨some 26, none, .bin .eql .none (.t 16) (.c (.int .i64 2))⟩,
             ⟨some 25, none, .mov (.t 26)⟩] (some [1, 5, 16, 25]))
           (.cond (.t 25)
            (.seq
             (.reg [⟨some 27, none, .mov (.t 5)⟩,
               ⟨some 28, none, .bin .add .none (.c (.str [27, 79])) (.t 27)⟩,
               ⟨some 29, none, .s2b 5 (.t 28)⟩,
               ⟨some 2, none, .mov (.t 29)⟩,
               ⟨some 3, none, .mov (.c (.int .i64 0))⟩] (some [2, 3]))
             .ret)
            (.seq
             (.reg [⟨some 31, none, .bin .eql .none (.t 16) (.c (.int .i64 3))⟩,
               ⟨some 30, none, .mov (.t 31)⟩] (some [1, 5, 16, 30]))
             (.cond (.t 30)
              (.seq
               (.drw [⟨⟨some 32, none, .ld (some 6) (.t 1)⟩, []⟩,
                 ⟨⟨some 33, none, .call (.c (.fn (.func 17) [] [])) [(.t 32)]⟩, [0]⟩,
                 ⟨⟨some 34, none, .bin .add .none (.c (.str [27, 80])) (.t 33)⟩, [1]⟩,
                 ⟨⟨some 35, none, .mov (.t 5)⟩, []⟩,
                 ⟨⟨some 36, none, .bin .add .none (.t 34) (.t 35)⟩, [2, 3]⟩,
                 ⟨⟨some 37, none, .fa 5 (.t 1)⟩, []⟩,
                 ⟨⟨some 38, none, .ld none (.t 37)⟩, [5]⟩,
                 ⟨⟨some 39, none, .bin .add .none (.t 36) (.t 38)⟩, [4, 6]⟩,
                 ⟨⟨some 40, none, .bin .add .none (.t 39) (.c (.str [27, 92]))⟩, [7]⟩,
                 ⟨⟨some 41, none, .s2b 5 (.t 40)⟩, [8]⟩]
                 [⟨some 2, none, .mov (.t 41)⟩,
                 ⟨some 3, none, .mov (.c (.int .i64 0))⟩] (some [2, 3]))
               .ret)
              (.seq
               (.reg [⟨some 43, none, .bin .eql .none (.t 16) (.c (.int .i64 4))⟩,
                 ⟨some 42, none, .mov (.t 43)⟩] (some [1, 5, 42]))
               (.cond (.t 42)
                (.seq
                 (.reg [⟨some 44, none, .fa 5 (.t 1)⟩,
                   ⟨some 45, none, .ld none (.t 44)⟩,
                   ⟨some 46, none, .bin .add .none (.c (.str [27, 93])) (.t 45)⟩,
                   ⟨some 47, none, .bin .add .none (.t 46) (.c (.str [27, 92]))⟩,
                   ⟨some 48, none, .s2b 5 (.t 47)⟩,
                   ⟨some 2, none, .mov (.t 48)⟩,
                   ⟨some 3, none, .mov (.c (.int .i64 0))⟩] (some [2, 3]))
                 .ret)
                .skip))))))))))
      (.seq
       (.reg [⟨some 49, none, .fa 3 (.t 1)⟩,
         ⟨some 50, none, .ld none (.t 49)⟩,
         ⟨some 51, none, .bin .add .none (.c (.str [27])) (.t 50)⟩,
         ⟨some 52, none, .mov (.t 5)⟩,
         ⟨some 53, none, .bin .add .none (.t 51) (.t 52)⟩,
         ⟨some 54, none, .s2b 5 (.t 53)⟩,
         ⟨some 2, none, .mov (.t 54)⟩,
         ⟨some 3, none, .mov (.c (.int .i64 0))⟩] (some [2, 3]))
       .ret))))))
theorem is_clavierref03Put : IrOf Tryd.prog 13 55 ir_clavierref03Put [.t 2, .t 3] := ⟨_, Tryd.func13, rfl, by kernel_rfl, by kernel_rfl, by kernel_rfl⟩


/-- A sequence as bytes. -/
def putB (s : Sq) : List UInt8 :=
  let f := [s.fi.toNat.toUInt8]
  if (s.k == 1) = true then [27, 91] ++ bodyB s ++ f
  else if (s.k == 2) = true then [27, 79] ++ f
  else if (s.k == 3) = true then [27, 80] ++ bodyB s ++ f ++ s.da ++ [27, 92]
  else if (s.k == 4) = true then [27, 93] ++ s.da ++ [27, 92]
  else [27] ++ s.it ++ f
def putV (s : Sq) : AV := if (mayP s != 0) = true then .nils else .sl none 1 (bytesAV (putB s))
theorem bodyB_len {s : Sq} (h : mayP s = 0) : (bodyB s).length ≤ 3000 := by
  obtain ⟨_, h1, h2, h3, h4⟩ := mayP_sm h
  have h5 : parsOk s.ps = true := by
    simp only [mayP] at h
    split at h
    · cases h
    · split at h
      · cases h
      · rename_i h2
        simp only [Bool.or_eq_true, Bool.not_eq_true', not_or, Bool.not_eq_false] at h2
        exact h2.1.1.2
  have := parsText_len (ps := s.ps) fun p hp => ⟨((parsOk_iff h5).2.2 p hp).2.1, fun n hn => (((parsOk_iff h5).2.2 p hp).2.2 n hn).2⟩
  have h6 : (prB s.pr).length ≤ 1 := by unfold prB; split <;> simp
  simp only [bodyB, List.length_append]; omega
theorem may_pars {s : Sq} (h : mayP s = 0) : parsOk s.ps = true := by
  simp only [mayP] at h
  split at h
  · cases h
  · split at h
    · cases h
    · rename_i h2
      simp only [Bool.or_eq_true, Bool.not_eq_true', not_or, Bool.not_eq_false] at h2
      exact h2.1.1.2
set_option maxHeartbeats 1000000 in
theorem fs_rPut {Gl : Gh → Prop} (hst : Stays Gl) {s : Sq} (hp0 : 0 ≤ s.pr) (hp1 : s.pr < 256) (hf0 : 0 ≤ s.fi) (hf1 : s.fi < 256) (h : s.sm) : FS Tryd.prog Gl 13 [.agg s.c] [] [] (.tup [putV s, .int .i64 (mayP s)]) [] [] := by
  have c1 := fs_rMay hst hf0 hf1 h.ps h.pp h.it h.da
  refine FS.of hm hst is_clavierref03Put (by simp) fun γ hγ hfr => ?_
  have hbody : mayP s = 0 → FS Tryd.prog Gl 17 [.agg s.c] [] [] (.str (bodyB s)) [] [] := fun hz => by
    obtain ⟨_, a1, a2, a3, a4⟩ := mayP_sm hz
    exact fs_rBody hst hp0 hp1 (by omega) a1 fun p hp => ⟨a2 p hp, fun n hn => (((parsOk_iff (may_pars hz)).2.2 p hp).2.2 n hn).2⟩
  have hbl : mayP s = 0 → (bodyB s).length ≤ 3000 := bodyB_len
  have hda : mayP s = 0 → s.da.length ≤ 4096 := fun hz => (mayP_sm hz).2.2.2.2
  have hil : mayP s = 0 → s.it.length ≤ 2 := fun hz => (mayP_sm hz).2.2.2.1
  have hput : putB s = (if (s.k == 1) = true then [27, 91] ++ bodyB s ++ [s.fi.toNat.toUInt8]
    else if (s.k == 2) = true then [27, 79] ++ [s.fi.toNat.toUInt8]
    else if (s.k == 3) = true then [27, 80] ++ bodyB s ++ [s.fi.toNat.toUInt8] ++ s.da ++ [27, 92]
    else if (s.k == 4) = true then [27, 93] ++ s.da ++ [27, 92]
    else [27] ++ s.it ++ [s.fi.toNat.toUInt8]) := rfl
  have hpv : putV s = if (mayP s != 0) = true then .nils else .sl none 1 (bytesAV (putB s)) := rfl
  obtain ⟨k, pr, ps, it, fi, da⟩ := s
  simp only at hp0 hp1 hf0 hf1 hda hil hput
  obtain ⟨c, rfl⟩ := byteOf hf0 hf1
  have hcc : (c.toNat : Int).toNat.toUInt8 = c := by simp
  rw [hcc] at hput
  generalize mayP _ = e at *
  generalize putV _ = pvv at *
  generalize putB _ = pb at *
  generalize bodyB _ = bb at *
  simp only [Sq.c] at c1 hbody hfr ⊢
  (generalize hQ : (fun (ex : Ex) (_ _ : Nat) (s : St) => _) = Q; unfold ir_clavierref03Put)
  simp +contextual (maxSteps := 1000000) only [go_sem, reduceCtorEq, ↓reduceIte, Nat.reduceAdd, Nat.reduceEqDiff, Nat.reduceLeDiff, Nat.reduceMul, Nat.reduceBEq, Int.reduceBEq, Int.reduceBNe, Int.reduceLT, Int.reduceLE, Int.reduceGT, Int.reduceGE, Int.reduceToNat, Int.natCast_one, Int.natCast_zero, Int.cast_ofNat_Int]
  refine CallP.pure c1 (fun _ => rfl) ?_
  simp +contextual (maxSteps := 1000000) only [go_sem, reduceCtorEq, ↓reduceIte, Nat.reduceAdd, Nat.reduceEqDiff, Nat.reduceLeDiff, Nat.reduceMul, Nat.reduceBEq, Int.reduceBEq, Int.reduceBNe, Int.reduceLT, Int.reduceLE, Int.reduceGT, Int.reduceGE, Int.reduceToNat, Int.natCast_one, Int.natCast_zero, Int.cast_ofNat_Int]
  refine kCond_split (fun h1 => ?_) (fun h1 => ?_)
  · simp +contextual (maxSteps := 1000000) only [go_sem, reduceCtorEq, ↓reduceIte, Nat.reduceAdd, Nat.reduceEqDiff, Nat.reduceLeDiff, Nat.reduceMul, Nat.reduceBEq, Int.reduceBEq, Int.reduceBNe, Int.reduceLT, Int.reduceLE, Int.reduceGT, Int.reduceGE, Int.reduceToNat, Int.natCast_one, Int.natCast_zero, Int.cast_ofNat_Int]
    rw [← hQ, hpv, if_pos h1]
    exact ⟨trivial, Ret.flat2⟩
  have hz : e = 0 := by simpa using h1
  have c2 := hbody hz
  have hbl := hbl hz
  have hda := hda hz
  have hil := hil hz
  rw [if_neg (by rw [h1]; exact Bool.false_ne_true)] at hpv
  clear c1 hbody h1
  simp +contextual (maxSteps := 1000000) only [isByte_one, unbyte_c, go_sem, reduceCtorEq, ↓reduceIte, Nat.reduceAdd, Nat.reduceEqDiff, Nat.reduceLeDiff, Nat.reduceMul, Nat.reduceBEq, Int.reduceBEq, Int.reduceBNe, Int.reduceLT, Int.reduceLE, Int.reduceGT, Int.reduceGE, Int.reduceToNat, Int.natCast_one, Int.natCast_zero, Int.cast_ofNat_Int]
  refine kCond_split (fun h1 => ?_) (fun h1 => ?_)
  · rw [if_pos h1] at hput
    simp +contextual (maxSteps := 1000000) only [go_sem, reduceCtorEq, ↓reduceIte, Nat.reduceAdd, Nat.reduceEqDiff, Nat.reduceLeDiff, Nat.reduceMul, Nat.reduceBEq, Int.reduceBEq, Int.reduceBNe, Int.reduceLT, Int.reduceLE, Int.reduceGT, Int.reduceGE, Int.reduceToNat, Int.natCast_one, Int.natCast_zero, Int.cast_ofNat_Int]
    refine CallP.pure c2 (fun _ => rfl) ?_
    simp +contextual (maxSteps := 1000000) only [go_sem, reduceCtorEq, ↓reduceIte, Nat.reduceAdd, Nat.reduceEqDiff, Nat.reduceLeDiff, Nat.reduceMul, Nat.reduceBEq, Int.reduceBEq, Int.reduceBNe, Int.reduceLT, Int.reduceLE, Int.reduceGT, Int.reduceGE, Int.reduceToNat, Int.natCast_one, Int.natCast_zero, Int.cast_ofNat_Int]
    refine ⟨by omega, by omega, by simp only [maxLen, List.length_append, List.length_cons, List.length_nil]; omega, ?_⟩
    rw [← hQ, hpv, hput, hz]
    exact ⟨trivial, Ret.flat2⟩
  rw [if_neg (by rw [h1]; exact Bool.false_ne_true)] at hput
  simp +contextual (maxSteps := 1000000) only [go_sem, reduceCtorEq, ↓reduceIte, Nat.reduceAdd, Nat.reduceEqDiff, Nat.reduceLeDiff, Nat.reduceMul, Nat.reduceBEq, Int.reduceBEq, Int.reduceBNe, Int.reduceLT, Int.reduceLE, Int.reduceGT, Int.reduceGE, Int.reduceToNat, Int.natCast_one, Int.natCast_zero, Int.cast_ofNat_Int]
  refine kCond_split (fun h2 => ?_) (fun h2 => ?_)
  · rw [if_pos h2] at hput
    simp +contextual (maxSteps := 1000000) only [go_sem, reduceCtorEq, ↓reduceIte, Nat.reduceAdd, Nat.reduceEqDiff, Nat.reduceLeDiff, Nat.reduceMul, Nat.reduceBEq, Int.reduceBEq, Int.reduceBNe, Int.reduceLT, Int.reduceLE, Int.reduceGT, Int.reduceGE, Int.reduceToNat, Int.natCast_one, Int.natCast_zero, Int.cast_ofNat_Int]
    refine ⟨by decide, ?_⟩
    rw [← hQ, hpv, hput, hz]
    exact ⟨trivial, Ret.flat2⟩
  rw [if_neg (by rw [h2]; exact Bool.false_ne_true)] at hput
  simp +contextual (maxSteps := 1000000) only [go_sem, reduceCtorEq, ↓reduceIte, Nat.reduceAdd, Nat.reduceEqDiff, Nat.reduceLeDiff, Nat.reduceMul, Nat.reduceBEq, Int.reduceBEq, Int.reduceBNe, Int.reduceLT, Int.reduceLE, Int.reduceGT, Int.reduceGE, Int.reduceToNat, Int.natCast_one, Int.natCast_zero, Int.cast_ofNat_Int]
  refine kCond_split (fun h3 => ?_) (fun h3 => ?_)
  · rw [if_pos h3] at hput
    simp +contextual (maxSteps := 1000000) only [go_sem, reduceCtorEq, ↓reduceIte, Nat.reduceAdd, Nat.reduceEqDiff, Nat.reduceLeDiff, Nat.reduceMul, Nat.reduceBEq, Int.reduceBEq, Int.reduceBNe, Int.reduceLT, Int.reduceLE, Int.reduceGT, Int.reduceGE, Int.reduceToNat, Int.natCast_one, Int.natCast_zero, Int.cast_ofNat_Int]
    refine DCall.new c2 ?_
    simp +contextual (maxSteps := 1000000) only [go_sem, reduceCtorEq, ↓reduceIte, Nat.reduceAdd, Nat.reduceEqDiff, Nat.reduceLeDiff, Nat.reduceMul, Nat.reduceBEq, Int.reduceBEq, Int.reduceBNe, Int.reduceLT, Int.reduceLE, Int.reduceGT, Int.reduceGE, Int.reduceToNat, Int.natCast_one, Int.natCast_zero, Int.cast_ofNat_Int]
    refine ⟨by omega, by omega, by simp only [maxLen, List.length_append, List.length_cons, List.length_nil]; omega, by simp only [maxLen, List.length_append, List.length_cons, List.length_nil]; omega, by simp only [maxLen, List.length_append, List.length_cons, List.length_nil]; omega, ?_⟩
    rw [← hQ, hpv, hput, hz]
    exact ⟨trivial, Ret.flat2⟩
  rw [if_neg (by rw [h3]; exact Bool.false_ne_true)] at hput
  simp +contextual (maxSteps := 1000000) only [go_sem, reduceCtorEq, ↓reduceIte, Nat.reduceAdd, Nat.reduceEqDiff, Nat.reduceLeDiff, Nat.reduceMul, Nat.reduceBEq, Int.reduceBEq, Int.reduceBNe, Int.reduceLT, Int.reduceLE, Int.reduceGT, Int.reduceGE, Int.reduceToNat, Int.natCast_one, Int.natCast_zero, Int.cast_ofNat_Int]
  refine kCond_split (fun h4 => ?_) (fun h4 => ?_)
  · rw [if_pos h4] at hput
    simp +contextual (maxSteps := 1000000) only [go_sem, reduceCtorEq, ↓reduceIte, Nat.reduceAdd, Nat.reduceEqDiff, Nat.reduceLeDiff, Nat.reduceMul, Nat.reduceBEq, Int.reduceBEq, Int.reduceBNe, Int.reduceLT, Int.reduceLE, Int.reduceGT, Int.reduceGE, Int.reduceToNat, Int.natCast_one, Int.natCast_zero, Int.cast_ofNat_Int]
    refine ⟨by omega, by omega, by simp only [maxLen, List.length_append, List.length_cons, List.length_nil]; omega, ?_⟩
    rw [← hQ, hpv, hput, hz]
    exact ⟨trivial, Ret.flat2⟩
  rw [if_neg (by rw [h4]; exact Bool.false_ne_true)] at hput
  simp +contextual (maxSteps := 1000000) only [go_sem, reduceCtorEq, ↓reduceIte, Nat.reduceAdd, Nat.reduceEqDiff, Nat.reduceLeDiff, Nat.reduceMul, Nat.reduceBEq, Int.reduceBEq, Int.reduceBNe, Int.reduceLT, Int.reduceLE, Int.reduceGT, Int.reduceGE, Int.reduceToNat, Int.natCast_one, Int.natCast_zero, Int.cast_ofNat_Int]
  refine ⟨by omega, by omega, by simp only [maxLen, List.length_append, List.length_cons, List.length_nil]; omega, ?_⟩
  rw [← hQ, hpv, hput, hz]
  exact ⟨trivial, Ret.flat2⟩
end Go.Proofs.YtgdgfefojfgpaaaDoor

/- What is put as bytes is told by the parser, as plain functions. -/
set_option linter.unusedVariables false
set_option linter.unusedSimpArgs false
set_option maxRecDepth 100000
namespace Go.Proofs.YtgdgfefojfgpaaaDoor
open Go Go.Ab

/-- Amid nothing, with this told. -/
def Pp.E (l : List Sq) : Pp := { Pp.zero with ou := l }
theorem E_put {l : List Sq} {c : UInt8} (h : c ≠ 27) : (Pp.E l).put c = Pp.E l := by
  have h' : ((c.toNat : Int) == 27) = false := by
    rw [beq_eq_false_iff_ne]; intro e
    exact h (UInt8.toNat_inj.1 (by simpa using Int.ofNat_inj.1 e))
  simp only [Pp.put, Pp.one, h', Bool.false_and, Bool.false_eq_true, if_false]
  split
  · rfl
  · rfl
theorem E_text {l : List Sq} : ∀ {b : List UInt8}, (∀ c ∈ b, c ≠ 27) → (Pp.E l).puts b = Pp.E l
  | [], _ => rfl
  | c :: b, h => by
    show ((Pp.E l).put c).puts b = _
    rw [E_put (h c (by simp)), E_text fun d hd => h d (by simp [hd])]
theorem E_puts {b : List UInt8} {s : Sq} (h : Pp.zero.puts b = Pp.E [s]) (l : List Sq) : (Pp.E l).puts b = Pp.E (l ++ [s]) := by
  have e : Pp.E l = Pp.zero.ah l := by simp [Pp.E, Pp.ah, Pp.zero]
  rw [e, ah_puts, h]
  rfl

/-- In a head. -/
def Pp.hd (k pr : Int) (tx it : List UInt8) (f : Bool) : Pp := ⟨some .head, k, pr, it, 0, tx, [], f, false, false, []⟩
/-- In data. -/
def Pp.ins (k pr : Int) (it : List UInt8) (fi : Int) (tx da : List UInt8) (f : Bool) : Pp := ⟨some .inside, k, pr, it, fi, tx, da, f, false, true, []⟩
/-- Behind an escape byte. -/
def Pp.bh (it : List UInt8) : Pp := ⟨some .behind, 0, 0, it, 0, [], [], false, false, false, []⟩

theorem plain_one {c : UInt8} (h1 : 32 ≤ c.toNat) : ((c.toNat : Int) == 24 || (c.toNat : Int) == 26) = false ∧ ((c.toNat : Int) == 27) = false := by
  constructor
  · rw [Bool.or_eq_false_iff, beq_eq_false_iff_ne, beq_eq_false_iff_ne]; omega
  · rw [beq_eq_false_iff_ne]; omega
theorem put_plain {x : Pp} {n : Nx} {c : UInt8} (hx : x.nx = some n) (h1 : 32 ≤ c.toNat) : x.put c = { (x.call n c).2 with nx := (x.call n c).1 } := by
  obtain ⟨a, b⟩ := plain_one h1
  simp only [Pp.put, Pp.one, a, b, hx, Bool.false_and, Bool.false_eq_true, if_false]
theorem dec_f {p : Prop} [Decidable p] (h : ¬ p) : decide p = false := decide_eq_false h
theorem dec_t {p : Prop} [Decidable p] (h : p) : decide p = true := decide_eq_true h
theorem beq_f {a b : Int} (h : a ≠ b) : (a == b) = false := beq_eq_false_iff_ne.2 h

theorem hd_text1 {k pr : Int} {tx : List UInt8} {f : Bool} {c : UInt8} (h1 : 48 ≤ c.toNat) (h2 : c.toNat < 60) : (Pp.hd k pr tx [] f).put c = Pp.hd k pr (tx ++ [c]) [] false := by
  rw [put_plain (n := .head) rfl (by omega)]
  simp only [Pp.call, Pp.head, Pp.hd, dec_f (p := (c.toNat : Int) < 32) (by omega), beq_f (a := (c.toNat : Int)) (b := 127) (by omega), dec_f (p := (c.toNat : Int) ≥ 128) (by omega), dec_f (p := (c.toNat : Int) < 48) (by omega), dec_t (p := (c.toNat : Int) < 60) (by omega), Bool.or_false, Bool.false_eq_true, if_false, if_true, decide_true, Bool.not_true]
theorem hd_text {k pr : Int} : ∀ {b tx : List UInt8} {f : Bool}, (∀ c ∈ b, 48 ≤ c.toNat ∧ c.toNat < 60) → ∃ f', (Pp.hd k pr tx [] f).puts b = Pp.hd k pr (tx ++ b) [] f'
  | [], tx, f, _ => ⟨f, by simp [Pp.puts]⟩
  | c :: b, tx, f, h => by
    obtain ⟨f', e⟩ := hd_text (k := k) (pr := pr) (b := b) (tx := tx ++ [c]) (f := false) fun d hd => h d (by simp [hd])
    refine ⟨f', ?_⟩
    show ((Pp.hd k pr tx [] f).put c).puts b = _
    rw [hd_text1 (h c (by simp)).1 (h c (by simp)).2, e]; simp
theorem hd_inter1 {k pr : Int} {tx it : List UInt8} {f : Bool} {c : UInt8} (h1 : 32 ≤ c.toNat) (h2 : c.toNat < 48) (hl : it.length < 2) : (Pp.hd k pr tx it f).put c = Pp.hd k pr tx (it ++ [c]) false := by
  rw [put_plain (n := .head) rfl (by omega)]
  simp only [Pp.call, Pp.head, Pp.hd, Pp.inter, dec_f (p := (c.toNat : Int) < 32) (by omega), beq_f (a := (c.toNat : Int)) (b := 127) (by omega), dec_f (p := (c.toNat : Int) ≥ 128) (by omega), dec_t (p := (c.toNat : Int) < 48) (by omega), beq_f (a := (it.length : Int)) (b := 2) (by omega), Bool.or_false, Bool.false_eq_true, if_false, if_true]
theorem hd_inter {k pr : Int} {tx : List UInt8} : ∀ {b it : List UInt8} {f : Bool}, (∀ c ∈ b, 32 ≤ c.toNat ∧ c.toNat < 48) → it.length + b.length ≤ 2 → ∃ f', (Pp.hd k pr tx it f).puts b = Pp.hd k pr tx (it ++ b) f'
  | [], it, f, _, _ => ⟨f, by simp [Pp.puts]⟩
  | c :: b, it, f, h, hl => by
    simp only [List.length_cons] at hl
    obtain ⟨f', e⟩ := hd_inter (k := k) (pr := pr) (tx := tx) (b := b) (it := it ++ [c]) (f := false) (fun d hd => h d (by simp [hd])) (by simp; omega)
    refine ⟨f', ?_⟩
    show ((Pp.hd k pr tx it f).put c).puts b = _
    rw [hd_inter1 (h c (by simp)).1 (h c (by simp)).2 (by omega), e]; simp
theorem hd_priv {k pr : Int} (h : pr = 0 ∨ 60 ≤ pr ∧ pr ≤ 63) : ∃ f', (Pp.hd k 0 [] [] true).puts (prB pr) = Pp.hd k pr [] [] f' := by
  rcases h with rfl | ⟨h1, h2⟩
  · exact ⟨true, rfl⟩
  · obtain ⟨c, rfl⟩ := byteOf (n := pr) (by omega) (by omega)
    have e : prB (c.toNat : Int) = [c] := by
      have : ((c.toNat : Int) != 0) = true := by rw [bne_iff_ne]; omega
      simp only [prB, this, if_true]; simp
    rw [e]
    refine ⟨false, ?_⟩
    show (Pp.hd k 0 [] [] true).put c = _
    rw [put_plain (n := .head) rfl (by omega)]
    simp only [Pp.call, Pp.head, Pp.hd, dec_f (p := (c.toNat : Int) < 32) (by omega), beq_f (a := (c.toNat : Int)) (b := 127) (by omega), dec_f (p := (c.toNat : Int) ≥ 128) (by omega), dec_f (p := (c.toNat : Int) < 48) (by omega), dec_f (p := (c.toNat : Int) < 60) (by omega), dec_t (p := (c.toNat : Int) < 64) (by omega), Bool.or_false, Bool.false_eq_true, if_false, if_true, Bool.not_true]

/-- What a sequence that may be has. -/
structure MayF (s : Sq) : Prop where
  pr : s.pr = 0 ∨ 60 ≤ s.pr ∧ s.pr ≤ 63
  il : s.it.length ≤ 2
  it : ∀ c ∈ s.it, 32 ≤ c.toNat ∧ c.toNat < 48
  ps : parsOk s.ps = true
  dl : s.da.length ≤ 4096
  da : ∀ c ∈ s.da, 32 ≤ c.toNat ∧ c.toNat < 127
  sh : shapedP s = true
theorem mayF {s : Sq} (h : mayP s = 0) : MayF s := by
  simp only [mayP] at h
  split at h
  · cases h
  rename_i h1
  split at h
  · cases h
  rename_i h2
  simp only [Bool.or_eq_true, Bool.not_eq_true', not_or, Bool.not_eq_false, Bool.and_eq_true, decide_eq_true_eq, beq_iff_eq] at h2 h1
  obtain ⟨⟨⟨⟨h3, h4⟩, h5⟩, h6⟩, h7⟩ := h2
  refine ⟨by omega, by omega, fun c hc => ?_, h5, by omega, fun c hc => ?_, h7⟩
  · have := List.all_eq_true.1 h4.2 c hc
    simp only [Bool.and_eq_true, decide_eq_true_eq] at this; omega
  · have := List.all_eq_true.1 h6 c hc
    simp only [Bool.and_eq_true, decide_eq_true_eq] at this; omega
theorem pars_back {ps : List (List Int)} (h : parsOk ps = true) (h2 : ∀ p ∈ ps, ∀ n ∈ p, n ≤ 65535) : (if parsText ps = [] then [] else (splitB 59 (parsText ps)).map hostParts) = ps := by
  obtain ⟨a, b, c⟩ := parsOk_iff h
  have d : ∀ p ∈ ps, p ≠ [] ∧ ∀ n ∈ p, -1 ≤ n := fun p hp => ⟨(c p hp).1, fun n hn => ((c p hp).2.2 n hn).1⟩
  split
  · rename_i e
    rcases (parsText_nil d).1 e with e | e
    · exact e.symm
    · exact absurd e b
  · rename_i e
    have hne : ps ≠ [] := fun e' => e (by rw [e']; rfl)
    exact hostPars_text hne fun p hp => ⟨(d p hp).1, fun n hn => ⟨(d p hp).2 n hn, h2 p hp n hn⟩⟩
theorem hd_body {s : Sq} (h : MayF s) (k : Int) : ∃ f', (Pp.hd k 0 [] [] true).puts (bodyB s) = Pp.hd k s.pr (parsText s.ps) s.it f' := by
  obtain ⟨f1, e1⟩ := hd_priv (k := k) h.pr
  obtain ⟨f2, e2⟩ := hd_text (k := k) (pr := s.pr) (tx := []) (f := f1) (b := parsText s.ps) fun c hc => parsText_mem hc
  obtain ⟨f3, e3⟩ := hd_inter (k := k) (pr := s.pr) (tx := parsText s.ps) (it := []) (f := f2) (b := s.it) h.it (by simpa using h.il)
  refine ⟨f3, ?_⟩
  rw [bodyB, Pp.puts_app, Pp.puts_app, e1, e2, List.nil_append, e3, List.nil_append]
theorem tell_E {x : Pp} {s : Sq} (hb : x.b = false) (ho : x.ou = []) (hs : x.seq = s) (hm : mayP s = 0) (nx : Option Nx) (hn : nx = none) : ({ x.tell with nx := nx } : Pp) = Pp.E [s] := by
  subst hn
  simp only [Pp.tell, hs, hb, hm, ho, and_self, if_true, List.nil_append]; rfl
theorem ins_run {k pr fi : Int} {it tx : List UInt8} {f : Bool} : ∀ {b da : List UInt8}, (∀ c ∈ b, 32 ≤ c.toNat ∧ c.toNat < 127) → da.length + b.length ≤ 4096 → (Pp.ins k pr it fi tx da f).puts b = Pp.ins k pr it fi tx (da ++ b) f
  | [], da, _, _ => by simp [Pp.puts]
  | c :: b, da, h, hl => by
    simp only [List.length_cons] at hl
    obtain ⟨h1, h2⟩ := h c (by simp)
    show ((Pp.ins k pr it fi tx da f).put c).puts b = _
    have e : (Pp.ins k pr it fi tx da f).put c = Pp.ins k pr it fi tx (da ++ [c]) f := by
      rw [put_plain (n := .inside) rfl h1]
      simp only [Pp.call, Pp.inside, Pp.ins, beq_f (a := (c.toNat : Int)) (b := 7) (by omega), dec_f (p := (c.toNat : Int) < 32) (by omega), beq_f (a := (c.toNat : Int)) (b := 127) (by omega), dec_f (p := (c.toNat : Int) ≥ 128) (by omega), beq_f (a := (da.length : Int)) (b := 4096) (by omega), Bool.or_false, Bool.false_and, Bool.false_eq_true, if_false]
    rw [e, ins_run (fun d hd => h d (by simp [hd])) (by simp; omega)]; simp
theorem ins_end {k pr fi : Int} {it tx da : List UInt8} {f : Bool} {s : Sq} (hs : (Pp.ins k pr it fi tx da f).seq = s) (hm : mayP s = 0) : (Pp.ins k pr it fi tx da f).puts [27, 92] = Pp.E [s] := by
  have a1 : (Pp.ins k pr it fi tx da f).put 27 = { Pp.ins k pr it fi tx da f with r := false, nx := some .ending } := by
    simp [Pp.put, Pp.one, Pp.ins]
  have a2 : ({ Pp.ins k pr it fi tx da f with r := false, nx := some .ending } : Pp).put 92 = { (Pp.ins k pr it fi tx da f).tell with nx := none } := by
    simp [Pp.put, Pp.one, Pp.ins, Pp.call, Pp.ending, Pp.tell, Pp.seq, Pp.zero]
  show ((Pp.ins k pr it fi tx da f).put 27).put 92 = _
  rw [a1, a2]
  exact tell_E rfl rfl hs hm _ rfl
theorem bh_inter {b : List UInt8} : ∀ {it : List UInt8}, (∀ c ∈ b, 32 ≤ c.toNat ∧ c.toNat < 48) → it.length + b.length ≤ 2 → (Pp.bh it).puts b = Pp.bh (it ++ b) := by
  induction b with
  | nil => intro it _ _; simp [Pp.puts]
  | cons c b ih =>
    intro it h hl
    simp only [List.length_cons] at hl
    obtain ⟨h1, h2⟩ := h c (by simp)
    show ((Pp.bh it).put c).puts b = _
    have e : (Pp.bh it).put c = Pp.bh (it ++ [c]) := by
      rw [put_plain (n := .behind) rfl h1]
      simp only [Pp.call, Pp.behind, Pp.bh, Pp.inter, dec_f (p := (c.toNat : Int) < 32) (by omega), beq_f (a := (c.toNat : Int)) (b := 127) (by omega), dec_f (p := (c.toNat : Int) ≥ 128) (by omega), dec_t (p := (c.toNat : Int) < 48) (by omega), beq_f (a := (it.length : Int)) (b := 2) (by omega), Bool.or_false, Bool.false_eq_true, if_false, if_true]
    rw [e, ih (fun d hd => h d (by simp [hd])) (by simp; omega)]; simp

theorem put_told {s : Sq} (hm : mayP s = 0) (hk : s.k ≠ 2) (hp : ∀ p ∈ s.ps, ∀ n ∈ p, n ≤ 65535) : Pp.zero.puts (putB s) = Pp.E [s] := by
  have h := mayF hm
  have hb := pars_back h.ps hp
  have hsh := h.sh
  obtain ⟨k, pr, ps, it, fi, da⟩ := s
  simp only [shapedP] at hsh
  simp only at hk hb
  by_cases k1 : k = 1
  · subst k1
    simp only [if_true, Bool.and_eq_true, decide_eq_true_eq] at hsh
    obtain ⟨⟨rfl, h1⟩, h2⟩ := hsh
    obtain ⟨c, rfl⟩ := byteOf (n := fi) (by omega) (by omega)
    have hcc : (c.toNat : Int).toNat.toUInt8 = c := by simp
    obtain ⟨f', e⟩ := hd_body h 1
    have e0 : Pp.zero.puts [27, 91] = Pp.hd 1 0 [] [] true := rfl
    have ep : putB ⟨1, pr, ps, it, (c.toNat : Int), []⟩ = [27, 91] ++ bodyB ⟨1, pr, ps, it, (c.toNat : Int), []⟩ ++ [c] := by simp [putB]
    rw [ep, Pp.puts_app, Pp.puts_app, e0, e]
    show (Pp.hd 1 pr (parsText ps) it f').put c = _
    rw [put_plain (n := .head) rfl (by omega)]
    have hh : (Pp.hd 1 pr (parsText ps) it f').call .head c = (none, ({ Pp.hd 1 pr (parsText ps) it f' with fi := (c.toNat : Int) } : Pp).tell) := by
      simp only [Pp.call, Pp.head, dec_f (p := (c.toNat : Int) < 32) (by omega), beq_f (a := (c.toNat : Int)) (b := 127) (by omega), dec_f (p := (c.toNat : Int) ≥ 128) (by omega), dec_f (p := (c.toNat : Int) < 48) (by omega), dec_f (p := (c.toNat : Int) < 60) (by omega), dec_f (p := (c.toNat : Int) < 64) (by omega), Bool.or_false, Bool.false_eq_true, if_false, show ((Pp.hd 1 pr (parsText ps) it f').k == 3) = false from rfl]
    rw [hh]
    refine tell_E rfl rfl ?_ hm _ rfl
    exact congrArg (fun z => (⟨1, pr, z, it, (c.toNat : Int), []⟩ : Sq)) hb
  by_cases k3 : k = 3
  · subst k3
    simp only [Int.reduceEq, if_false, if_true, Bool.and_eq_true, decide_eq_true_eq] at hsh
    obtain ⟨h1, h2⟩ := hsh
    obtain ⟨c, rfl⟩ := byteOf (n := fi) (by omega) (by omega)
    obtain ⟨f', e⟩ := hd_body h 3
    have e0 : Pp.zero.puts [27, 80] = Pp.hd 3 0 [] [] true := rfl
    have ep : putB ⟨3, pr, ps, it, (c.toNat : Int), da⟩ = [27, 80] ++ bodyB ⟨3, pr, ps, it, (c.toNat : Int), da⟩ ++ [c] ++ da ++ [27, 92] := by simp [putB]
    rw [ep, Pp.puts_app, Pp.puts_app, Pp.puts_app, Pp.puts_app, e0, e]
    have hh : (Pp.hd 3 pr (parsText ps) it f').puts [c] = Pp.ins 3 pr it (c.toNat : Int) (parsText ps) [] f' := by
      show (Pp.hd 3 pr (parsText ps) it f').put c = _
      rw [put_plain (n := .head) rfl (by omega)]
      simp only [Pp.call, Pp.head, dec_f (p := (c.toNat : Int) < 32) (by omega), beq_f (a := (c.toNat : Int)) (b := 127) (by omega), dec_f (p := (c.toNat : Int) ≥ 128) (by omega), dec_f (p := (c.toNat : Int) < 48) (by omega), dec_f (p := (c.toNat : Int) < 60) (by omega), dec_f (p := (c.toNat : Int) < 64) (by omega), Bool.or_false, Bool.false_eq_true, if_false, show ((Pp.hd 3 pr (parsText ps) it f').k == 3) = true from rfl, if_true]
      rfl
    rw [hh, ins_run h.da (by simpa using h.dl), List.nil_append]
    refine ins_end ?_ hm
    exact congrArg (fun z => (⟨3, pr, z, it, (c.toNat : Int), da⟩ : Sq)) hb
  by_cases k4 : k = 4
  · subst k4
    simp only [Int.reduceEq, if_false, if_true, Bool.and_eq_true, decide_eq_true_eq, beq_iff_eq] at hsh
    obtain ⟨⟨⟨h1, h2⟩, h3⟩, h4⟩ := hsh
    have h2 : ps = [] := by simpa using h2
    subst h1 h2 h3 h4
    have e0 : Pp.zero.puts [27, 93] = Pp.ins 4 0 [] 0 [] [] false := rfl
    have ep : putB ⟨4, 0, [], [], 0, da⟩ = [27, 93] ++ da ++ [27, 92] := by simp [putB]
    rw [ep, Pp.puts_app, Pp.puts_app, e0, ins_run h.da (by simpa using h.dl), List.nil_append]
    exact ins_end rfl hm
  by_cases k5 : k = 5
  · subst k5
    simp only [Int.reduceEq, if_false, if_true, Bool.and_eq_true, decide_eq_true_eq, beq_iff_eq] at hsh
    obtain ⟨⟨⟨⟨⟨h1, h2⟩, h3⟩, h4⟩, h5⟩, h6⟩ := hsh
    have h2 : ps = [] := by simpa using h2
    subst h1 h2 h3
    obtain ⟨c, rfl⟩ := byteOf (n := fi) (by omega) (by omega)
    have hcc : (c.toNat : Int).toNat.toUInt8 = c := by simp
    have e0 : Pp.zero.puts [27] = Pp.bh [] := rfl
    have ep : putB ⟨5, 0, [], it, (c.toNat : Int), []⟩ = [27] ++ it ++ [c] := by simp [putB]
    rw [ep, Pp.puts_app, Pp.puts_app, e0, bh_inter h.it (by simpa using h.il), List.nil_append]
    show (Pp.bh it).put c = _
    rw [put_plain (n := .behind) rfl (by omega)]
    have h7 : (!decide (it = []) || !([91, 80, 93, 88, 94, 95] : List UInt8).contains c) = true := by
      rw [hcc] at h4
      simp only [Bool.or_eq_true, Bool.not_eq_true', decide_eq_false_iff_not, List.contains_cons, List.contains_nil, Bool.or_false, Bool.or_eq_false_iff, beq_eq_false_iff_ne, ne_eq] at h4 ⊢
      rcases h4 with h4 | h4
      · exact .inl h4
      · right; simp only [h4, not_false_eq_true, and_self]
    have hh : (Pp.bh it).call .behind c = (none, ({ Pp.bh it with k := 5, fi := (c.toNat : Int) } : Pp).tell) := by
      simp only [Pp.call, Pp.behind, dec_f (p := (c.toNat : Int) < 32) (by omega), beq_f (a := (c.toNat : Int)) (b := 127) (by omega), dec_f (p := (c.toNat : Int) ≥ 128) (by omega), dec_f (p := (c.toNat : Int) < 48) (by omega), Bool.or_false, Bool.false_eq_true, if_false, show (Pp.bh it).it = it from rfl, h7, if_true]
    rw [hh]
    exact tell_E (s := ⟨5, 0, [], it, (c.toNat : Int), []⟩) rfl rfl rfl hm _ rfl
  · simp [k1, hk, k3, k4, k5] at hsh
/-- What the host sends, by the statement: each sequence, and a letter behind it. -/
def toldB (l : List Sq) : List UInt8 := l.flatMap fun s => putB s ++ [120]
theorem told_all : ∀ (l m : List Sq), (∀ s ∈ l, mayP s = 0 ∧ s.k ≠ 2 ∧ ∀ p ∈ s.ps, ∀ n ∈ p, n ≤ 65535) → (Pp.E m).puts (toldB l) = Pp.E (m ++ l)
  | [], m, _ => by simp [toldB, Pp.puts]
  | s :: l, m, h => by
    obtain ⟨h1, h2, h3⟩ := h s (by simp)
    have ih := told_all l (m ++ [s]) fun t ht => h t (by simp [ht])
    rw [toldB, List.flatMap_cons, Pp.puts_app, Pp.puts_app, E_puts (put_told h1 h2 h3), E_text (by simp), ← toldB, ih]
    simp
end Go.Proofs.YtgdgfefojfgpaaaDoor

/- Calls of the parser, as the statements make them; the statements' first line. -/
set_option linter.unusedVariables false
set_option linter.unusedSimpArgs false
set_option maxRecDepth 100000
namespace Go.Proofs.YtgdgfefojfgpaaaDoor
open Go Go.Ab
/-- clavier/clavierlaw05.awake -/
def ir_clavierlaw05awake : ICode :=
 (.seq
  (.reg [⟨some 0, none, .mov (.c (.bool false))⟩] (some []))
  (.seq
   (.reg [⟨some 3, none, .call (.c (.fn (.func 8) [] [])) []⟩,
     ⟨some 1, none, .mov (.t 3)⟩] (some [1]))
   (.seq
    (.reg [⟨some 4, none, .mov (.t 1)⟩,
      ⟨some 5, none, .row 5 1 [(.c (.int .u8 27)), (.c (.int .u8 91)), (.c (.int .u8 49)), (.c (.int .u8 59)), (.c (.int .u8 55)), (.c (.int .u8 48)), (.c (.int .u8 48)), (.c (.int .u8 48)), (.c (.int .u8 48)), (.c (.int .u8 72)), (.c (.int .u8 27)), (.c (.int .u8 91)), (.c (.int .u8 49)), (.c (.int .u8 24)), (.c (.int .u8 99)), (.c (.int .u8 27)), (.c (.int .u8 93)), (.c (.int .u8 48)), (.c (.int .u8 59)), (.c (.int .u8 120)), (.c (.int .u8 7))]⟩,
      ⟨some 6, none, .cvs (.t 5)⟩,
      ⟨some 7, none, .call (.c (.fn (.func 9) [] [])) [(.t 4), (.t 6)]⟩,
      ⟨some 2, none, .mov (.t 7)⟩] (some [1, 2]))
    (.seq
     (.reg [⟨some 8, none, .mov (.t 2)⟩,
       ⟨some 9, none, .len (.t 8)⟩,
       ⟨some 10, none, .bin .eql .none (.t 9) (.c (.int .i64 2))⟩,
       ⟨some 11, none, .mov (.t 10)⟩,
       ⟨some 12, some (11, true), .mov (.t 2)⟩,
       ⟨some 13, some (11, true), .ia 6 (.t 12) (.c (.int .i64 0))⟩,
       ⟨some 14, some (11, true), .fa 4 (.t 13)⟩,
       ⟨some 15, some (11, true), .ld none (.t 14)⟩,
       ⟨some 16, some (11, true), .bin .eql .none (.t 15) (.c (.int .u8 72))⟩,
       ⟨some 17, none, .pick (.t 11) (.t 16) (.c (.bool false))⟩,
       ⟨some 18, none, .mov (.t 17)⟩,
       ⟨some 19, some (18, true), .mov (.t 2)⟩,
       ⟨some 20, some (18, true), .ia 6 (.t 19) (.c (.int .i64 0))⟩,
       ⟨some 21, some (18, true), .fa 2 (.t 20)⟩,
       ⟨some 22, some (18, true), .ld none (.t 21)⟩,
       ⟨some 23, some (18, true), .len (.t 22)⟩,
       ⟨some 24, some (18, true), .bin .eql .none (.t 23) (.c (.int .i64 2))⟩,
       ⟨some 25, none, .pick (.t 18) (.t 24) (.c (.bool false))⟩,
       ⟨some 26, none, .mov (.t 25)⟩,
       ⟨some 27, some (26, true), .mov (.t 2)⟩,
       ⟨some 28, some (26, true), .ia 6 (.t 27) (.c (.int .i64 0))⟩,
       ⟨some 29, some (26, true), .fa 2 (.t 28)⟩,
       ⟨some 30, some (26, true), .ld none (.t 29)⟩,
       ⟨some 31, some (26, true), .ia 1 (.t 30) (.c (.int .i64 1))⟩,
       ⟨some 32, some (26, true), .ld none (.t 31)⟩,
       ⟨some 33, some (26, true), .ia 1 (.t 32) (.c (.int .i64 0))⟩,
       ⟨some 34, some (26, true), .ld none (.t 33)⟩,
       ⟨some 35, some (26, true), .bin .eql .none (.t 34) (.c (.int .i64 65535))⟩,
       ⟨some 36, none, .pick (.t 26) (.t 35) (.c (.bool false))⟩,
       ⟨some 37, none, .mov (.t 36)⟩,
       ⟨some 38, some (37, true), .mov (.t 2)⟩,
       ⟨some 39, some (37, true), .ia 6 (.t 38) (.c (.int .i64 1))⟩,
       ⟨some 40, some (37, true), .fa 0 (.t 39)⟩,
       ⟨some 41, some (37, true), .ld none (.t 40)⟩,
       ⟨some 42, some (37, true), .bin .eql .none (.t 41) (.c (.int .i64 4))⟩,
       ⟨some 43, none, .pick (.t 37) (.t 42) (.c (.bool false))⟩,
       ⟨some 44, none, .mov (.t 43)⟩,
       ⟨some 45, some (44, true), .mov (.t 2)⟩,
       ⟨some 46, some (44, true), .ia 6 (.t 45) (.c (.int .i64 1))⟩,
       ⟨some 47, some (44, true), .fa 5 (.t 46)⟩,
       ⟨some 48, some (44, true), .ld none (.t 47)⟩,
       ⟨some 49, some (44, true), .bin .eql .none (.t 48) (.c (.str [48, 59, 120]))⟩,
       ⟨some 50, none, .pick (.t 44) (.t 49) (.c (.bool false))⟩,
       ⟨some 51, none, .mov (.t 50)⟩,
       ⟨some 52, some (51, true), .mov (.t 1)⟩,
       ⟨some 53, some (51, true), .call (.c (.fn (.func 11) [] [])) [(.t 52)]⟩,
       ⟨some 54, none, .pick (.t 51) (.t 53) (.c (.bool false))⟩,
       ⟨some 0, none, .mov (.t 54)⟩] (some [0]))
     .ret))))
theorem is_clavierlaw05awake : IrOf Tryd.prog 7 55 ir_clavierlaw05awake [.t 0] := ⟨_, Tryd.func7, rfl, by kernel_rfl, by kernel_rfl, by kernel_rfl⟩


theorem Feed.call {Gl : Gh → Prop} (hst : Stays Gl) {p : Nm} {H : Hp} {s : Ps} {b : List UInt8} {t0 : Option Nm} {T : Tk} {γ i : Nat} {K : AV → Hp → Tk → Prop} (hp : 1 ≤ p.1) (hok : s.ok) (hmem : (p, .cells s.c) ∈ H) (hγ : 1 ≤ γ) (hT : ∀ t ∈ s.toks, T t) (hr : ∀ t ∈ s.toks, 1 ≤ t.1 ∧ ∀ j, t ≠ (γ, i, j))
    (n : Nat) (hw : s.x.w n) (hn : n + b.length < 4294967281)
    (hK : ∀ (s' : Ps) (o : Option Nm), s'.x = (s.x.puts b).mt → s'.ok → s'.ot = none → (o = none → (s.x.puts b).ou.map Sq.r = []) → (s'.toks ++ o.toList).Nodup → (∀ t ∈ s'.toks ++ o.toList, 1 ≤ t.1 ∧ (t ∈ s.toks ∨ (t.1 = γ ∧ t.2.1 = i))) →
      K (sv o 6 ((s.x.puts b).ou.map Sq.r)) ((p, .cells s'.c) :: H.filter (fun q => q.1 ≠ p)) (fun t => t ∈ s'.toks ++ o.toList ∨ (T t ∧ t ∉ s.toks))) :
    CallP Tryd.prog Gl 9 [.ptr p 0, .sl t0 1 (bytesAV b)] H T (fun j => (γ, i, j)) K := by
  have hz : ∀ i, i ≤ b.length → (s.x.puts (b.take i)).sz := fun i hi => (Pp.w.puts hw).sz (by simp; omega)
  refine ⟨_, _, _, fs_Feed hst hp hok (fun t h => (hr t h).1) (by omega) hz, fun q hq => by simp only [List.mem_singleton] at hq; subst hq; exact hmem, hT, ?_⟩
  rintro r H1 T1 ⟨s', o, h1, h2, h3, rfl, rfl, h4, h5, rfl, h6⟩
  have hf : ∀ t ∈ s'.toks ++ o.toList, (t ∈ s.toks ∧ rnN (fun j => (γ, i, j)) t = t) ∨ (t.1 = 0 ∧ t.2.1 = 0 ∧ rnN (fun j => (γ, i, j)) t = (γ, i, t.2.2)) := fun t h => by
    rcases h6 t h with h | ⟨h1, h2⟩
    · exact .inl ⟨h, real_rn (hr t h).1⟩
    · exact .inr ⟨h1, h2, by simp only [rnN]; rw [if_pos ⟨h1, h2⟩]⟩
  have hl : (s'.rn fun j => (γ, i, j)).toks ++ (o.map (rnN fun j => (γ, i, j))).toList = (s'.toks ++ o.toList).map (rnN fun j => (γ, i, j)) := by
    rw [Ps.toks_rn, List.map_append]; cases o <;> rfl
  refine ⟨(p, .cells (s'.rn fun j => (γ, i, j)).c) :: H.filter (fun q => q.1 ≠ p), fun t => t ∈ (s'.toks ++ o.toList).map (rnN fun j => (γ, i, j)) ∨ (T t ∧ t ∉ s.toks), fun q hq => ?_, fun t h => h, ?_⟩
  · rcases List.mem_cons.1 hq with rfl | hq
    · refine List.mem_append.2 (.inl ?_)
      simp only [rnH, List.map_cons, List.map_nil, real_rn hp, Ps.c_rn, List.mem_singleton]
    · refine List.mem_append.2 (.inr ?_)
      obtain ⟨q1, q2⟩ := List.mem_filter.1 hq
      refine List.mem_filter.2 ⟨q1, ?_⟩
      simp only [List.all_cons, List.all_nil, Bool.and_true, decide_eq_true_eq] at q2 ⊢
      exact fun e => q2 e.symm
  · have := hK (s'.rn fun j => (γ, i, j)) (o.map (rnN fun j => (γ, i, j))) h1 ⟨?_, fun h => h2.t ?_, fun h => h2.d ?_, fun h => h2.o ?_⟩ (by simp [Ps.rn, h3]) (fun h => by rw [h4 (by simpa using h)]; rfl) ?_ ?_
    · rw [hl] at this
      rw [sv_rn]; exact this
    · have hnd := (List.nodup_append.1 h5).1
      rw [Ps.toks_rn]
      refine List.pairwise_map.2 (hnd.imp_of_mem fun {a c} ha hc hne e => ?_)
      rcases hf a (List.mem_append.2 (.inl ha)) with ⟨a1, a2⟩ | ⟨a1, a2, a3⟩ <;> rcases hf c (List.mem_append.2 (.inl hc)) with ⟨b1, b2⟩ | ⟨b1, b2, b3⟩
      · rw [a2, b2] at e; exact hne e
      · rw [a2, b3] at e; exact (hr a a1).2 _ e
      · rw [a3, b2] at e; exact (hr c b1).2 _ e.symm
      · rw [a3, b3] at e
        simp only [Prod.mk.injEq, true_and] at e
        exact hne (Prod.ext (a1.trans b1.symm) (Prod.ext (a2.trans b2.symm) e))
    · simpa [Ps.rn] using h
    · simpa [Ps.rn] using h
    · simpa [Ps.rn] using h
    · rw [hl]
      refine List.pairwise_map.2 (h5.imp_of_mem fun {a c} ha hc hne e => ?_)
      rcases hf a ha with ⟨a1, a2⟩ | ⟨a1, a2, a3⟩ <;> rcases hf c hc with ⟨b1, b2⟩ | ⟨b1, b2, b3⟩
      · rw [a2, b2] at e; exact hne e
      · rw [a2, b3] at e; exact (hr a a1).2 _ e
      · rw [a3, b2] at e; exact (hr c b1).2 _ e.symm
      · rw [a3, b3] at e
        simp only [Prod.mk.injEq, true_and] at e
        exact hne (Prod.ext (a1.trans b1.symm) (Prod.ext (a2.trans b2.symm) e))
    · rw [hl]
      intro t h
      obtain ⟨u, hu, rfl⟩ := List.mem_map.1 h
      rcases hf u hu with ⟨h1, h2⟩ | ⟨h1, h2, h3⟩
      · rw [h2]; exact ⟨(hr u h1).1, .inl h1⟩
      · rw [h3]; exact ⟨hγ, .inr ⟨rfl, rfl⟩⟩

/-- A call of Idle. -/
theorem Idle.call {Gl : Gh → Prop} (hst : Stays Gl) {p : Nm} {H : Hp} {s : Ps} {T : Tk} {γ i : Nat} {K : AV → Hp → Tk → Prop} (hp : 1 ≤ p.1) (hok : s.ok) (hmem : (p, .cells s.c) ∈ H) (hγ : 1 ≤ γ) (hT : ∀ t ∈ s.toks, T t) (hr : ∀ t ∈ s.toks, 1 ≤ t.1 ∧ ∀ j, t ≠ (γ, i, j))
    (hK : ∀ (s' : Ps), s'.x = s.x → s'.ok → (∀ t ∈ s'.toks, 1 ≤ t.1 ∧ (t ∈ s.toks ∨ (t.1 = γ ∧ t.2.1 = i))) → K (.bool s.x.nx.isNone) ((p, .cells s'.c) :: H.filter (fun q => q.1 ≠ p)) (fun t => t ∈ s'.toks ∨ (T t ∧ t ∉ s.toks))) :
    CallP Tryd.prog Gl 11 [.ptr p 0] H T (fun j => (γ, i, j)) K := by
  refine ⟨_, _, _, fs_Idle hst hp hok (fun t h => (hr t h).1), fun q hq => by simp only [List.mem_singleton] at hq; subst hq; exact hmem, hT, ?_⟩
  rintro r H1 T1 ⟨s', h1, h2, rfl, rfl, rfl, h6⟩
  have hf : ∀ t ∈ s'.toks, (t ∈ s.toks ∧ rnN (fun j => (γ, i, j)) t = t) ∨ (t.1 = 0 ∧ t.2.1 = 0 ∧ rnN (fun j => (γ, i, j)) t = (γ, i, t.2.2)) := fun t h => by
    rcases h6 t h with h | ⟨h1, h2⟩
    · exact .inl ⟨h, real_rn (hr t h).1⟩
    · exact .inr ⟨h1, h2, by simp only [rnN]; rw [if_pos ⟨h1, h2⟩]⟩
  refine ⟨(p, .cells (s'.rn fun j => (γ, i, j)).c) :: H.filter (fun q => q.1 ≠ p), fun t => t ∈ s'.toks.map (rnN fun j => (γ, i, j)) ∨ (T t ∧ t ∉ s.toks), fun q hq => ?_, fun t h => h, ?_⟩
  · rcases List.mem_cons.1 hq with rfl | hq
    · refine List.mem_append.2 (.inl ?_)
      simp only [rnH, List.map_cons, List.map_nil, real_rn hp, Ps.c_rn, List.mem_singleton]
    · refine List.mem_append.2 (.inr ?_)
      obtain ⟨q1, q2⟩ := List.mem_filter.1 hq
      refine List.mem_filter.2 ⟨q1, ?_⟩
      simp only [List.all_cons, List.all_nil, Bool.and_true, decide_eq_true_eq] at q2 ⊢
      exact fun e => q2 e.symm
  · have := hK (s'.rn fun j => (γ, i, j)) h1 ⟨?_, fun h => h2.t ?_, fun h => h2.d ?_, fun h => h2.o ?_⟩ ?_
    · rw [Ps.toks_rn] at this; exact this
    · rw [Ps.toks_rn]
      refine List.pairwise_map.2 (h2.nd.imp_of_mem fun {a c} ha hc hne e => ?_)
      rcases hf a ha with ⟨a1, a2⟩ | ⟨a1, a2, a3⟩ <;> rcases hf c hc with ⟨b1, b2⟩ | ⟨b1, b2, b3⟩
      · rw [a2, b2] at e; exact hne e
      · rw [a2, b3] at e; exact (hr a a1).2 _ e
      · rw [a3, b2] at e; exact (hr c b1).2 _ e.symm
      · rw [a3, b3] at e
        simp only [Prod.mk.injEq, true_and] at e
        exact hne (Prod.ext (a1.trans b1.symm) (Prod.ext (a2.trans b2.symm) e))
    · simpa [Ps.rn] using h
    · simpa [Ps.rn] using h
    · simpa [Ps.rn] using h
    · rw [Ps.toks_rn]
      intro t h
      obtain ⟨u, hu, rfl⟩ := List.mem_map.1 h
      rcases hf u hu with ⟨h1, h2⟩ | ⟨h1, h2, h3⟩
      · rw [h2]; exact ⟨(hr u h1).1, .inl h1⟩
      · rw [h3]; exact ⟨hγ, .inr ⟨rfl, rfl⟩⟩

def Ps.new : Ps := ⟨Pp.zero, none, none, none⟩
theorem Ps.new_ok : Ps.new.ok := ⟨by simp [Ps.new, Ps.toks], fun _ => rfl, fun _ => rfl, fun _ => rfl⟩
theorem Ps.new_toks : Ps.new.toks = [] := rfl
/-- A call of New. -/
theorem New.call {Gl : Gh → Prop} (hst : Stays Gl) {H : Hp} {T : Tk} {γ i : Nat} {K : AV → Hp → Tk → Prop} (hK : K (.ptr (γ, i, 0) 0) (((γ, i, 0), .cells Ps.new.c) :: H) T) : CallP Tryd.prog Gl 8 [] H T (fun j => (γ, i, j)) K := by
  refine CallP.of (fs_New hst) (by simp) (by simp) ?_
  have e1 : rnH (fun j => (γ, i, j)) [((0, 0, 0), .cells (⟨Pp.zero, none, none, none⟩ : Ps).c)] ++ H.filter (fun p => ([] : Hp).all fun q => q.1 ≠ p.1) = ((γ, i, 0), .cells Ps.new.c) :: H := by
    simp only [rnH, List.map_cons, List.map_nil, Ps.c_rn, rnN, List.all_nil]
    simp [Ps.rn, Ps.new]
  have e2 : (fun s => s ∈ ([] : List Nm).map (rnN fun j => (γ, i, j)) ∨ (T s ∧ s ∉ ([] : List Nm))) = T := by funext s; simp
  rw [e1, e2]
  exact hK

theorem fs_awake {Gl : Gh → Prop} (hst : Stays Gl) : FS Tryd.prog Gl 7 [] [] [] (.bool true) [] [] := by
  refine FS.of hm hst is_clavierlaw05awake (by simp) fun γ hγ hfr => ?_
  (generalize hQ : (fun (ex : Ex) (_ _ : Nat) (s : St) => _) = Q; unfold ir_clavierlaw05awake)
  simp +contextual (maxSteps := 1000000) only [go_sem, reduceCtorEq, ↓reduceIte, Nat.reduceAdd, Nat.reduceEqDiff, Nat.reduceLeDiff, Nat.reduceMul, Nat.reduceBEq, Int.reduceBEq, Int.reduceBNe, Int.reduceLT, Int.reduceLE, Int.reduceGT, Int.reduceGE, Int.reduceToNat, Int.natCast_one, Int.natCast_zero, Int.cast_ofNat_Int]
  refine New.call hst ?_
  simp +contextual (maxSteps := 1000000) only [go_sem, reduceCtorEq, ↓reduceIte, Nat.reduceAdd, Nat.reduceEqDiff, Nat.reduceLeDiff, Nat.reduceMul, Nat.reduceBEq, Int.reduceBEq, Int.reduceBNe, Int.reduceLT, Int.reduceLE, Int.reduceGT, Int.reduceGE, Int.reduceToNat, Int.natCast_one, Int.natCast_zero, Int.cast_ofNat_Int]
  have hou : (Ps.new.x.puts [27, 91, 49, 59, 55, 48, 48, 48, 48, 72, 27, 91, 49, 24, 99, 27, 93, 48, 59, 120, 7]).ou = [⟨1, 0, [[1], [65535]], [], 72, []⟩, ⟨4, 0, [], [], 0, [48, 59, 120]⟩] := by decide +kernel
  have hnx : (Ps.new.x.puts [27, 91, 49, 59, 55, 48, 48, 48, 48, 72, 27, 91, 49, 24, 99, 27, 93, 48, 59, 120, 7]).nx = none := by decide +kernel
  refine ⟨⟨.inl trivial, by simp⟩, ?_⟩
  refine Feed.call hst (s := Ps.new) (b := [27, 91, 49, 59, 55, 48, 48, 48, 48, 72, 27, 91, 49, 24, 99, 27, 93, 48, 59, 120, 7]) hγ Ps.new_ok (by simp) hγ (by simp [Ps.new_toks]) (by simp [Ps.new_toks]) 0 Pp.w.zero (by simp) fun s' o h1 h2 h3 h4 h5 h6 => ?_
  rw [hou] at h4 ⊢
  cases o with
  | none => have := h4 rfl; simp at this
  | some o =>
  have hn : s'.x.nx = none := by rw [h1]; exact hnx
  clear h1 hou hnx h4
  simp +contextual (maxSteps := 1000000) only [Sq.r, pv, parsV, parsAV, intsV, intsAV, go_sem, reduceCtorEq, ↓reduceIte, Nat.reduceAdd, Nat.reduceEqDiff, Nat.reduceLeDiff, Nat.reduceMul, Nat.reduceBEq, Int.reduceBEq, Int.reduceBNe, Int.reduceLT, Int.reduceLE, Int.reduceGT, Int.reduceGE, Int.reduceToNat, Int.natCast_one, Int.natCast_zero, Int.cast_ofNat_Int]
  refine Idle.call hst (s := s') hγ h2 (by simp) hγ (fun t h => .inl (List.mem_append.2 (.inl h))) (fun t h => ?_) fun s'' k1 k2 k3 => ?_
  · obtain ⟨a, b⟩ := h6 t (List.mem_append.2 (.inl h))
    refine ⟨a, fun j e => ?_⟩
    rcases b with b | ⟨_, b⟩
    · simp [Ps.new_toks] at b
    · rw [e] at b; simp at b
  · rw [hn]
    simp +contextual (maxSteps := 1000000) only [go_sem, reduceCtorEq, ↓reduceIte, Nat.reduceAdd, Nat.reduceEqDiff, Nat.reduceLeDiff, Nat.reduceMul, Nat.reduceBEq, Int.reduceBEq, Int.reduceBNe, Int.reduceLT, Int.reduceLE, Int.reduceGT, Int.reduceGE, Int.reduceToNat, Int.natCast_one, Int.natCast_zero, Int.cast_ofNat_Int]
    rw [← hQ]
    exact ⟨trivial, Ret.flat rfl rfl⟩

/-- What is appended to a slice with a token, or to nil, out of such a slice. -/
theorem app_sv {pt o : Option Nm} {e : TypeId} {sz b : Nat} {rows rows' : List (List AV)} {F : Nat → AV} {H : Hp} {T : Tk} {K : AV → Hp → Tk → Prop} {x y : X} {nm : Nm} (hx : x.ev F = sv pt sz rows) (hy : y.ev F = sv o sz rows') (hT : ∀ t ∈ pt.toList, T t) (hsz : (rows.length + rows'.length) * b ≤ 140737488355328)
    (hp : pt = none → rows = []) (ho : o = none → rows' = [])
    (hK : ∀ (nt : Option Nm) (T' : Tk), (nt = none → rows ++ rows' = []) → (∀ t ∈ nt.toList, T' t ∧ (t ∈ pt.toList ∨ t = nm)) → (∀ t, T t → t ∉ pt.toList → T' t) → K (sv nt sz (rows ++ rows')) H T') : kStep nm H T K (Ab.step (.app e sz b x y) F H T nm) := by
  cases pt with
  | none =>
    obtain rfl := hp rfl
    cases o with
    | none =>
      obtain rfl := ho rfl
      simp only [Ab.step, hx, hy, sv, kStep, Eff.H, Eff.T]
      exact ⟨trivial, hK none T (fun _ => rfl) (by simp) fun t h _ => h⟩
    | some o =>
      simp only [Ab.step, hx, hy, sv, kStep, Eff.H, Eff.T]
      refine ⟨by simpa using hsz, hK (some nm) _ (fun h => by cases h) ?_ fun t h _ => .inr h⟩
      simp
  | some p =>
    cases o with
    | none =>
      obtain rfl := ho rfl
      simp only [Ab.step, hx, hy, sv, kStep, Eff.H, Eff.T]
      refine ⟨hT p (by simp), ?_⟩
      have := hK (some p) T (fun h => by cases h) (by simp; exact hT p (by simp)) fun t h _ => h
      simpa [sv] using this
    | some o =>
      simp only [Ab.step, hx, hy, sv, kStep, Eff.H, Eff.T]
      refine ⟨by simpa using ⟨hT p (by simp), hsz⟩, hK (some nm) _ (fun h => by cases h) ?_ fun t h h' => .inr ⟨h, fun e => h' (by simp [e])⟩⟩
      simp
theorem app_run {Gl : Gh → Prop} {pt o : Option Nm} {e : TypeId} {sz b : Nat} {rows rows' : List (List AV)} {γ i d : Nat} {os : List IOper} {s : St} {K : St → Prop} {x y : X} (hx : x.ev s.F = sv pt sz rows) (hy : y.ev s.F = sv o sz rows') (hT : ∀ t ∈ pt.toList, s.T t) (hsz : (rows.length + rows'.length) * b ≤ 140737488355328)
    (hp : pt = none → rows = []) (ho : o = none → rows' = [])
    (hK : ∀ (nt : Option Nm) (T' : Tk), (nt = none → rows ++ rows' = []) → (∀ t ∈ nt.toList, T' t ∧ (t ∈ pt.toList ∨ t = (γ, i, 0))) → (∀ t, s.T t → t ∉ pt.toList → T' t) → awOps Tryd.prog Gl γ (i + 1) os ⟨upd s.F d (sv nt sz (rows ++ rows')), s.H, T'⟩ K) : awOps Tryd.prog Gl γ i (⟨some d, none, .app e sz b x y⟩ :: os) s K := by
  rw [w_cons, w_app]
  exact app_sv hx hy hT hsz hp ho hK
/-- What is appended out of any slice. -/
theorem app_runS {Gl : Gh → Prop} {pt : Option Nm} {o' : Option Nm} {e : TypeId} {sz b : Nat} {rows rows' : List (List AV)} {γ i d : Nat} {os : List IOper} {s : St} {K : St → Prop} {x y : X} (hx : x.ev s.F = sv pt sz rows) (hy : y.ev s.F = .sl o' sz rows') (hT : ∀ t ∈ pt.toList, s.T t) (hsz : (rows.length + rows'.length) * b ≤ 140737488355328)
    (hp : pt = none → rows = [])
    (hK : ∀ T' : Tk, T' (γ, i, 0) → (∀ t, s.T t → t ∉ pt.toList → T' t) → (∀ t, T' t → t = (γ, i, 0) ∨ s.T t) → awOps Tryd.prog Gl γ (i + 1) os ⟨upd s.F d (.sl (some (γ, i, 0)) sz (rows ++ rows')), s.H, T'⟩ K) : awOps Tryd.prog Gl γ i (⟨some d, none, .app e sz b x y⟩ :: os) s K := by
  rw [w_cons, w_app]
  cases pt with
  | none =>
    obtain rfl := hp rfl
    simp only [Ab.step, hx, hy, sv, kStep, Eff.H, Eff.T]
    exact ⟨by simpa using hsz, hK _ (.inl rfl) (fun t h _ => .inr h) fun t h => h⟩
  | some p =>
    simp only [Ab.step, hx, hy, sv, kStep, Eff.H, Eff.T]
    exact ⟨by simpa using ⟨hT p (by simp), hsz⟩, hK _ (.inl rfl) (fun t h h' => .inr ⟨h, fun e => h' (by simp [e])⟩) fun t h => h.imp _root_.id And.left⟩
theorem CallP.args {P : Program} {Gl : Gh → Prop} {k : FuncId} {args args' : List AV} {H : Hp} {T : Tk} {f : Nat → Nm} {K : AV → Hp → Tk → Prop} (h : CallP P Gl k args' H T f K) (ha : LeL args args') : CallP P Gl k args H T f K :=
  let ⟨H0, T0, R, h1, h2⟩ := h; ⟨H0, T0, R, FSR.args h1 ha, h2⟩
theorem svb_le {o : Option Nm} {b : List UInt8} (h : o = none → b = []) : RepLe (sv o 1 (bytesAV b)) (.sl none 1 (bytesAV b)) := by
  cases o with
  | none => rw [h rfl]; exact RepLe.nils 1
  | some o => exact RepLe.anon _ _ _
end Go.Proofs.YtgdgfefojfgpaaaDoor

/- HostCuts, walked. -/
set_option linter.unusedVariables false
set_option linter.unusedSimpArgs false
set_option maxRecDepth 100000
namespace Go.Proofs.YtgdgfefojfgpaaaDoor
open Go Go.Ab
/- clavier/clavierlaw05.HostCuts -/
def ir_clavierlaw05HostCuts_l0 : ICode :=
 (.seq
              (.seq
               (.reg [⟨some 29, none, .mov (.t 11)⟩,
                 ⟨some 30, none, .mov (.t 1)⟩,
                 ⟨some 31, none, .len (.t 30)⟩,
                 ⟨some 32, none, .bin .lss .none (.t 29) (.t 31)⟩] (some [1, 5, 6, 7, 8, 9, 10, 11, 32]))
               (.cond (.t 32)
                .skip
                (.exit 0)))
              (.seq
               (.blk 1
                (.seq
                 (.reg [⟨some 35, none, .mov (.t 1)⟩,
                   ⟨some 36, none, .mov (.t 11)⟩,
                   ⟨some 37, none, .ia 1 (.t 35) (.t 36)⟩,
                   ⟨some 38, none, .ld none (.t 37)⟩,
                   ⟨some 39, none, .cvi .i64 (.t 38)⟩,
                   ⟨some 40, none, .mov (.t 10)⟩,
                   ⟨some 41, none, .len (.t 40)⟩,
                   ⟨some 42, none, .bin .add .none (.t 41) (.c (.int .i64 1))⟩,
                   ⟨some 43, none, .bin .rem .none (.t 39) (.t 42)⟩,
                   ⟨some 12, none, .mov (.t 43)⟩] (some [1, 5, 6, 7, 8, 9, 10, 11, 12]))
                 (.seq
                  (.reg [⟨some 44, none, .mov (.t 9)⟩,
                    ⟨some 45, none, .mov (.t 8)⟩,
                    ⟨some 46, none, .mov (.t 10)⟩,
                    ⟨some 47, none, .mov (.t 12)⟩,
                    ⟨some 48, none, .sll 1 (.t 46) none (some (.t 47)) none⟩,
                    ⟨some 49, none, .call (.c (.fn (.func 9) [] [])) [(.t 45), (.t 48)]⟩,
                    ⟨some 50, none, .app 32 6 80 (.t 44) (.t 49)⟩,
                    ⟨some 9, none, .mov (.t 50)⟩] (some [1, 5, 6, 7, 8, 9, 10, 11, 12]))
                  (.reg [⟨some 51, none, .mov (.t 10)⟩,
                    ⟨some 52, none, .mov (.t 12)⟩,
                    ⟨some 53, none, .sll 1 (.t 51) (some (.t 52)) none none⟩,
                    ⟨some 10, none, .mov (.t 53)⟩] (some [1, 5, 6, 7, 8, 9, 10, 11])))))
               (.reg [⟨some 33, none, .mov (.t 11)⟩,
                 ⟨some 34, none, .bin .add .none (.t 33) (.c (.int .i64 1))⟩,
                 ⟨some 11, none, .mov (.t 34)⟩] (some [1, 5, 6, 7, 8, 9, 10, 11]))))
def ir_clavierlaw05HostCuts_t10 : ICode :=
 (.seq
  (.reg [⟨some 59, none, .mov (.t 5)⟩,
              ⟨some 60, none, .mov (.t 59)⟩,
              ⟨some 61, some (60, true), .mov (.t 7)⟩,
              ⟨some 62, some (60, true), .mov (.t 9)⟩,
              ⟨some 63, some (60, true), .call (.c (.fn (.func 10) [] [])) [(.t 61), (.t 62)]⟩,
              ⟨some 64, none, .pick (.t 60) (.t 63) (.c (.bool false))⟩,
              ⟨some 65, none, .mov (.t 64)⟩,
              ⟨some 66, some (65, true), .mov (.t 6)⟩,
              ⟨some 67, some (65, true), .call (.c (.fn (.func 11) [] [])) [(.t 66)]⟩,
              ⟨some 68, some (65, true), .mov (.t 8)⟩,
              ⟨some 69, some (65, true), .call (.c (.fn (.func 11) [] [])) [(.t 68)]⟩,
              ⟨some 70, some (65, true), .bin .eql .bool (.t 67) (.t 69)⟩,
              ⟨some 71, none, .pick (.t 65) (.t 70) (.c (.bool false))⟩,
              ⟨some 4, none, .mov (.t 71)⟩] (some [4]))
  .ret)
def ir_clavierlaw05HostCuts_t9 : ICode :=
 (.seq
  (.reg [⟨some 54, none, .mov (.t 9)⟩,
             ⟨some 55, none, .mov (.t 8)⟩,
             ⟨some 56, none, .mov (.t 10)⟩,
             ⟨some 57, none, .call (.c (.fn (.func 9) [] [])) [(.t 55), (.t 56)]⟩,
             ⟨some 58, none, .app 32 6 80 (.t 54) (.t 57)⟩,
             ⟨some 9, none, .mov (.t 58)⟩] (some [5, 6, 7, 8, 9]))
  ir_clavierlaw05HostCuts_t10)
def ir_clavierlaw05HostCuts_t8 : ICode :=
 (.seq
  (.seq
           (.reg [⟨some 11, none, .mov (.c (.int .i64 0))⟩] (some [1, 5, 6, 7, 8, 9, 10, 11]))
           (.blk 0
            (.loop
             ir_clavierlaw05HostCuts_l0)))
  ir_clavierlaw05HostCuts_t9)
def ir_clavierlaw05HostCuts_t7 : ICode :=
 (.seq
  (.reg [⟨some 28, none, .mov (.t 0)⟩,
           ⟨some 10, none, .mov (.t 28)⟩] (some [1, 5, 6, 7, 8, 9, 10]))
  ir_clavierlaw05HostCuts_t8)
def ir_clavierlaw05HostCuts_t6 : ICode :=
 (.seq
  (.reg [⟨some 9, none, .mov (.c .nils)⟩] (some [0, 1, 5, 6, 7, 8, 9]))
  ir_clavierlaw05HostCuts_t7)
def ir_clavierlaw05HostCuts_t5 : ICode :=
 (.seq
  (.reg [⟨some 27, none, .call (.c (.fn (.func 8) [] [])) []⟩,
         ⟨some 8, none, .mov (.t 27)⟩] (some [0, 1, 5, 6, 7, 8]))
  ir_clavierlaw05HostCuts_t6)
def ir_clavierlaw05HostCuts_t4 : ICode :=
 (.seq
  (.reg [⟨some 24, none, .mov (.t 6)⟩,
        ⟨some 25, none, .mov (.t 0)⟩,
        ⟨some 26, none, .call (.c (.fn (.func 9) [] [])) [(.t 24), (.t 25)]⟩,
        ⟨some 7, none, .mov (.t 26)⟩] (some [0, 1, 5, 6, 7]))
  ir_clavierlaw05HostCuts_t5)
def ir_clavierlaw05HostCuts_t3 : ICode :=
 (.seq
  (.reg [⟨some 23, none, .call (.c (.fn (.func 8) [] [])) []⟩,
       ⟨some 6, none, .mov (.t 23)⟩] (some [0, 1, 5, 6]))
  ir_clavierlaw05HostCuts_t4)
def ir_clavierlaw05HostCuts_t2 : ICode :=
 (.seq
  (.seq
     (.reg [⟨some 14, none, .mov (.t 0)⟩,
       ⟨some 15, none, .len (.t 14)⟩,
       ⟨some 16, none, .bin .gtr .none (.t 15) (.c (.int .i64 300))⟩,
       ⟨some 17, none, .mov (.t 16)⟩,
       ⟨some 18, some (17, false), .mov (.t 1)⟩,
       ⟨some 19, some (17, false), .len (.t 18)⟩,
       ⟨some 20, some (17, false), .bin .gtr .none (.t 19) (.c (.int .i64 20))⟩,
       ⟨some 21, none, .pick (.t 17) (.c (.bool true)) (.t 20)⟩] (some [0, 1, 5, 21]))
     (.cond (.t 21)
      (.seq
       (.reg [⟨some 22, none, .mov (.t 5)⟩,
         ⟨some 4, none, .mov (.t 22)⟩] (some [4]))
       .ret)
      .skip))
  ir_clavierlaw05HostCuts_t3)
def ir_clavierlaw05HostCuts_t1 : ICode :=
 (.seq
  (.reg [⟨some 13, none, .call (.c (.fn (.func 7) [] [])) []⟩,
     ⟨some 5, none, .mov (.t 13)⟩] (some [0, 1, 5]))
  ir_clavierlaw05HostCuts_t2)
def ir_clavierlaw05HostCuts : ICode :=
 (.seq
  (.reg [⟨some 4, none, .mov (.c (.bool false))⟩] (some [0, 1]))
  ir_clavierlaw05HostCuts_t1)
theorem is_clavierlaw05HostCuts : IrOf Tryd.prog 3 72 ir_clavierlaw05HostCuts [.t 4] := ⟨_, Tryd.func3, rfl, by kernel_rfl, by kernel_rfl, by kernel_rfl⟩


theorem bytesAV_take (l : List UInt8) (n : Nat) : (bytesAV l).take n = bytesAV (l.take n) := by simp only [bytesAV, List.map_take]
theorem bytesAV_drop (l : List UInt8) (n : Nat) : (bytesAV l).drop n = bytesAV (l.drop n) := by simp only [bytesAV, List.map_drop]

/-- What stands behind so many bytes, cut. -/
structure CutI (L : List Nm) (b : List UInt8) (k : Nat) (q : Ps) (pt : Option Nm) (T : Tk) : Prop where
  le : k ≤ b.length
  ok : q.ok
  x : q.x = (Pp.zero.puts (b.take k)).mt
  em : pt = none → (Pp.zero.puts (b.take k)).ou.map Sq.r = []
  nd : (L ++ q.toks ++ pt.toList).Nodup
  tT : ∀ t ∈ L ++ q.toks ++ pt.toList, 1 ≤ t.1 ∧ T t
theorem nodup3 {L A B : List Nm} : (L ++ A ++ B).Nodup ↔ L.Nodup ∧ A.Nodup ∧ B.Nodup ∧ (∀ t ∈ L, t ∉ A) ∧ (∀ t ∈ L, t ∉ B) ∧ (∀ t ∈ A, t ∉ B) := by
  simp only [List.nodup_append, List.mem_append]
  constructor
  · rintro ⟨⟨a, b, c⟩, d, e⟩
    exact ⟨a, b, d, fun t h h' => c t h t h' rfl, fun t h h' => e t (.inl h) t h' rfl, fun t h h' => e t (.inr h) t h' rfl⟩
  · rintro ⟨a, b, c, d, e, f⟩
    refine ⟨⟨a, b, fun t h u h' x => ?_⟩, c, fun t h u h' x => ?_⟩
    · subst x; exact d t h h'
    · subst x; exact h.elim (fun h => e t h h') (fun h => f t h h')
theorem rows_le : ∀ l : List Sq, RowsLe (l.map Sq.r) (sqsAV l)
  | [] => trivial
  | s :: l => ⟨⟨⟨rfl, .refl _⟩, ⟨rfl, .refl _⟩, ⟨rfl, pv_le _⟩, ⟨rfl, .refl _⟩, ⟨rfl, .refl _⟩, ⟨rfl, .refl _⟩, trivial⟩, rows_le l⟩
theorem sv_le {o : Option Nm} {l : List Sq} (h : o = none → l.map Sq.r = []) : RepLe (sv o 6 (l.map Sq.r)) (.sl none 6 (sqsAV l)) := by
  cases o with
  | none =>
    have := h rfl
    obtain rfl : l = [] := by simpa using this
    exact RepLe.nils 6
  | some o => exact (RepLe.anon _ _ _).trans (RepLe.rows (rows_le l))
theorem cut_step {Gl : Gh → Prop} (hst : Stays Gl) {L : List Nm} {b : List UInt8} {k m : Nat} {q : Ps} {pt : Option Nm} {T : Tk} (hI : CutI L b k q pt T) (hb : b.length ≤ 1000000) (hm : m ≤ b.length - k) {qn : Nm} {H : Hp} (hqn : 1 ≤ qn.1) (hmem : (qn, .cells q.c) ∈ H) {γ i : Nat} (hγ : 1 ≤ γ) (hf : ∀ t, T t → t.1 ≠ γ)
    {a dd d : Nat} {F : Nat → AV} {os : List IOper} {K : St → Prop} {e : TypeId} {t0 : Option Nm} (ha : a ≠ dd) (hFa : F a = sv pt 6 ((Pp.zero.puts (b.take k)).ou.map Sq.r))
    (hK : ∀ (q' : Ps) (nt : Option Nm) (T' : Tk) (v : AV), CutI L b (k + m) q' nt T' → (∀ t ∈ q'.toks, t ∈ q.toks ∨ t.2.1 = i) → awOps Tryd.prog Gl γ (i + 2) os ⟨upd (upd F dd v) d (sv nt 6 ((Pp.zero.puts (b.take (k + m))).ou.map Sq.r)), (qn, .cells q'.c) :: H.filter (fun q => q.1 ≠ qn), T'⟩ K) :
    CallP Tryd.prog Gl 9 [.ptr qn 0, .sl t0 1 (bytesAV ((b.drop k).take m))] H T (fun j => (γ, i, j)) (kOps Tryd.prog Gl γ (i + 1) (⟨some d, none, .app e 6 80 (.t a) (.t dd)⟩ :: os) (some dd) F K) := by
  obtain ⟨hk, hok, hx, hpt, hnd, htT⟩ := hI
  have hwk := Pp.w.puts (b := b.take k) Pp.w.zero
  have hqw : q.x.w k := by
    rw [hx]
    exact ⟨Nat.le_trans hwk.tx (by simp; omega), Nat.le_trans hwk.it (by simp; omega), hwk.da, hwk.fi, by simp [Pp.mt], by simp [Pp.mt]⟩
  have hqw2 := Pp.w.puts (b := (b.drop k).take m) hqw
  have hfq : ∀ t ∈ L ++ q.toks ++ pt.toList, 1 ≤ t.1 ∧ t.1 ≠ γ := fun t h => ⟨(htT t h).1, hf t (htT t h).2⟩
  have htk : b.take (k + m) = b.take k ++ (b.drop k).take m := by rw [List.take_add]
  have hpu := puts_mt (Pp.zero.puts (b.take k)) ((b.drop k).take m)
  rw [← Pp.puts_app, ← htk, ← hx] at hpu
  refine Feed.call hst (s := q) hqn hok hmem hγ (fun t h => (htT t (by simp [h])).2) (fun t h => ⟨(htT t (by simp [h])).1, fun j e => (hfq t (by simp [h])).2 (by rw [e])⟩) k hqw (by simp; omega) fun q' o k1 k2 k3 k4 k5 k6 => ?_
  obtain ⟨n1, n2, n3, n4, n5, n6⟩ := nodup3.1 hnd
  rw [w_kOps]
  refine app_run (pt := pt) (o := o) (sz := 6) (rows := (Pp.zero.puts (b.take k)).ou.map Sq.r) (rows' := (q.x.puts ((b.drop k).take m)).ou.map Sq.r) ?_ ?_ (fun t h => .inr ⟨(htT t (by simp only [List.mem_append]; exact .inr h)).2, fun h' => n6 t h' h⟩) ?_ hpt k4 fun nt T' m1 m2 m3 => ?_
  · simp only [X.ev, putF, upd, if_neg ha]; exact hFa
  · simp only [X.ev, putF, upd, if_true]
  · have h1 := hwk.ou
    have h2 := hqw2.ou
    simp only [List.length_map, List.length_take, List.length_drop] at h1 h2 ⊢
    omega
  · rw [show (Pp.zero.puts (b.take k)).ou.map Sq.r ++ (q.x.puts ((b.drop k).take m)).ou.map Sq.r = (Pp.zero.puts (b.take (k + m))).ou.map Sq.r by rw [hpu.2, List.map_append]] at m1 ⊢
    have hq' : ∀ t ∈ q'.toks, 1 ≤ t.1 ∧ (t ∈ q.toks ∨ (t.1 = γ ∧ t.2.1 = i)) := fun t h => k6 t (List.mem_append.2 (.inl h))
    have hL : ∀ t ∈ L, T t ∧ t.1 ≠ γ := fun t h => ⟨(htT t (by simp [h])).2, (hfq t (by simp [h])).2⟩
    have hqt : ∀ t ∈ q.toks, t.1 ≠ γ := fun t h => (hfq t (by simp [h])).2
    have hptt : ∀ t ∈ pt.toList, t.1 ≠ γ ∧ 1 ≤ t.1 := fun t h => ⟨(hfq t (by simp only [List.mem_append]; exact .inr h)).2, (hfq t (by simp only [List.mem_append]; exact .inr h)).1⟩
    refine hK q' nt T' _ ⟨by omega, k2, k1.trans hpu.1.symm, m1, nodup3.2 ⟨n1, (List.nodup_append.1 k5).1, ?_, fun t h h' => ?_, fun t h h' => ?_, fun t h h' => ?_⟩, fun t h => ?_⟩ fun t h => (hq' t h).2.imp _root_.id And.right
    · cases nt <;> simp
    · rcases (hq' t h').2 with h2 | h2
      · exact n4 t h h2
      · exact (hL t h).2 h2.1
    · rcases (m2 t h').2 with h2 | h2
      · exact n5 t h h2
      · exact (hL t h).2 (by rw [h2])
    · rcases (hq' t h).2 with h3 | h3 <;> rcases (m2 t h').2 with h2 | h2
      · exact n6 t h3 h2
      · exact hqt t h3 (by rw [h2])
      · exact (hptt t h2).1 h3.1
      · have : t.2.1 = i + 1 := by rw [h2]
        omega
    · rcases List.mem_append.1 h with h | h
      · rcases List.mem_append.1 h with h | h
        · exact ⟨(htT t (by simp [h])).1, m3 t (.inr ⟨(hL t h).1, n4 t h⟩) (n5 t h)⟩
        · refine ⟨(hq' t h).1, m3 t (.inl (List.mem_append.2 (.inl h))) fun h' => ?_⟩
          rcases (hq' t h).2 with h3 | h3
          · exact n6 t h3 h'
          · exact (hptt t h').1 h3.1
      · refine ⟨?_, (m2 t h).1⟩
        rcases (m2 t h).2 with h2 | h2
        · exact (hptt t h2).2
        · rw [h2]; exact hγ

theorem fs_HostCuts {Gl : Gh → Prop} (hst : Stays Gl) {b cuts : List UInt8} (hl0 : b.length ≤ maxLen) (hl20 : cuts.length ≤ maxLen) : FS Tryd.prog Gl 3 [.sl none 1 (bytesAV b), .sl none 1 (bytesAV cuts)] [] [] (.bool true) [] [] := by
  clear hl0 hl20
  refine FS.of hm hst is_clavierlaw05HostCuts (by simp) fun γ hγ hfr => ?_
  (generalize hQ : (fun (ex : Ex) (_ _ : Nat) (s : St) => _) = Q; unfold ir_clavierlaw05HostCuts)
  simp +contextual (maxSteps := 1000000) only [go_sem, reduceCtorEq, ↓reduceIte, Nat.reduceAdd, Nat.reduceEqDiff, Nat.reduceLeDiff, Nat.reduceMul, Nat.reduceBEq, Int.reduceBEq, Int.reduceBNe, Int.reduceLT, Int.reduceLE, Int.reduceGT, Int.reduceGE, Int.reduceToNat, Int.natCast_one, Int.natCast_zero, Int.cast_ofNat_Int]
  unfold ir_clavierlaw05HostCuts_t1
  simp +contextual (maxSteps := 1000000) only [go_sem, reduceCtorEq, ↓reduceIte, Nat.reduceAdd, Nat.reduceEqDiff, Nat.reduceLeDiff, Nat.reduceMul, Nat.reduceBEq, Int.reduceBEq, Int.reduceBNe, Int.reduceLT, Int.reduceLE, Int.reduceGT, Int.reduceGE, Int.reduceToNat, Int.natCast_one, Int.natCast_zero, Int.cast_ofNat_Int]
  refine CallP.pure (fs_awake hst) (fun _ => rfl) ?_
  simp +contextual (maxSteps := 1000000) only [go_sem, reduceCtorEq, ↓reduceIte, Nat.reduceAdd, Nat.reduceEqDiff, Nat.reduceLeDiff, Nat.reduceMul, Nat.reduceBEq, Int.reduceBEq, Int.reduceBNe, Int.reduceLT, Int.reduceLE, Int.reduceGT, Int.reduceGE, Int.reduceToNat, Int.natCast_one, Int.natCast_zero, Int.cast_ofNat_Int]
  unfold ir_clavierlaw05HostCuts_t2
  simp +contextual (maxSteps := 1000000) only [bytesAV_len, go_sem, reduceCtorEq, ↓reduceIte, Nat.reduceAdd, Nat.reduceEqDiff, Nat.reduceLeDiff, Nat.reduceMul, Nat.reduceBEq, Int.reduceBEq, Int.reduceBNe, Int.reduceLT, Int.reduceLE, Int.reduceGT, Int.reduceGE, Int.reduceToNat, Int.natCast_one, Int.natCast_zero, Int.cast_ofNat_Int]
  refine kCond_split (fun hg => ?_) (fun hg => ?_)
  · simp +contextual (maxSteps := 1000000) only [go_sem, reduceCtorEq, ↓reduceIte, Nat.reduceAdd, Nat.reduceEqDiff, Nat.reduceLeDiff, Nat.reduceMul, Nat.reduceBEq, Int.reduceBEq, Int.reduceBNe, Int.reduceLT, Int.reduceLE, Int.reduceGT, Int.reduceGE, Int.reduceToNat, Int.natCast_one, Int.natCast_zero, Int.cast_ofNat_Int]
    rw [← hQ]
    exact ⟨trivial, Ret.flat rfl rfl⟩
  have hg1 : b.length ≤ 300 ∧ cuts.length ≤ 20 := by simp at hg; omega
  clear hg
  simp +contextual (maxSteps := 1000000) only [go_sem, reduceCtorEq, ↓reduceIte, Nat.reduceAdd, Nat.reduceEqDiff, Nat.reduceLeDiff, Nat.reduceMul, Nat.reduceBEq, Int.reduceBEq, Int.reduceBNe, Int.reduceLT, Int.reduceLE, Int.reduceGT, Int.reduceGE, Int.reduceToNat, Int.natCast_one, Int.natCast_zero, Int.cast_ofNat_Int]
  unfold ir_clavierlaw05HostCuts_t3
  simp +contextual (maxSteps := 1000000) only [go_sem, reduceCtorEq, ↓reduceIte, Nat.reduceAdd, Nat.reduceEqDiff, Nat.reduceLeDiff, Nat.reduceMul, Nat.reduceBEq, Int.reduceBEq, Int.reduceBNe, Int.reduceLT, Int.reduceLE, Int.reduceGT, Int.reduceGE, Int.reduceToNat, Int.natCast_one, Int.natCast_zero, Int.cast_ofNat_Int]
  refine New.call hst ?_
  simp +contextual (maxSteps := 1000000) only [go_sem, reduceCtorEq, ↓reduceIte, Nat.reduceAdd, Nat.reduceEqDiff, Nat.reduceLeDiff, Nat.reduceMul, Nat.reduceBEq, Int.reduceBEq, Int.reduceBNe, Int.reduceLT, Int.reduceLE, Int.reduceGT, Int.reduceGE, Int.reduceToNat, Int.natCast_one, Int.natCast_zero, Int.cast_ofNat_Int]
  unfold ir_clavierlaw05HostCuts_t4
  simp +contextual (maxSteps := 1000000) only [go_sem, reduceCtorEq, ↓reduceIte, Nat.reduceAdd, Nat.reduceEqDiff, Nat.reduceLeDiff, Nat.reduceMul, Nat.reduceBEq, Int.reduceBEq, Int.reduceBNe, Int.reduceLT, Int.reduceLE, Int.reduceGT, Int.reduceGE, Int.reduceToNat, Int.natCast_one, Int.natCast_zero, Int.cast_ofNat_Int]
  refine Feed.call hst (s := Ps.new) hγ Ps.new_ok (by simp) hγ (by simp [Ps.new_toks]) (by simp [Ps.new_toks]) 0 Pp.w.zero (by omega) fun ps po h1 h2 h3 h4 h5 h6 => ?_
  simp +contextual (maxSteps := 1000000) only [go_sem, reduceCtorEq, ↓reduceIte, Nat.reduceAdd, Nat.reduceEqDiff, Nat.reduceLeDiff, Nat.reduceMul, Nat.reduceBEq, Int.reduceBEq, Int.reduceBNe, Int.reduceLT, Int.reduceLE, Int.reduceGT, Int.reduceGE, Int.reduceToNat, Int.natCast_one, Int.natCast_zero, Int.cast_ofNat_Int]
  unfold ir_clavierlaw05HostCuts_t5
  simp +contextual (maxSteps := 1000000) only [go_sem, reduceCtorEq, ↓reduceIte, Nat.reduceAdd, Nat.reduceEqDiff, Nat.reduceLeDiff, Nat.reduceMul, Nat.reduceBEq, Int.reduceBEq, Int.reduceBNe, Int.reduceLT, Int.reduceLE, Int.reduceGT, Int.reduceGE, Int.reduceToNat, Int.natCast_one, Int.natCast_zero, Int.cast_ofNat_Int]
  refine New.call hst ?_
  simp +contextual (maxSteps := 1000000) only [go_sem, reduceCtorEq, ↓reduceIte, Nat.reduceAdd, Nat.reduceEqDiff, Nat.reduceLeDiff, Nat.reduceMul, Nat.reduceBEq, Int.reduceBEq, Int.reduceBNe, Int.reduceLT, Int.reduceLE, Int.reduceGT, Int.reduceGE, Int.reduceToNat, Int.natCast_one, Int.natCast_zero, Int.cast_ofNat_Int]
  unfold ir_clavierlaw05HostCuts_t6
  simp +contextual (maxSteps := 1000000) only [go_sem, reduceCtorEq, ↓reduceIte, Nat.reduceAdd, Nat.reduceEqDiff, Nat.reduceLeDiff, Nat.reduceMul, Nat.reduceBEq, Int.reduceBEq, Int.reduceBNe, Int.reduceLT, Int.reduceLE, Int.reduceGT, Int.reduceGE, Int.reduceToNat, Int.natCast_one, Int.natCast_zero, Int.cast_ofNat_Int]
  unfold ir_clavierlaw05HostCuts_t7
  simp +contextual (maxSteps := 1000000) only [go_sem, reduceCtorEq, ↓reduceIte, Nat.reduceAdd, Nat.reduceEqDiff, Nat.reduceLeDiff, Nat.reduceMul, Nat.reduceBEq, Int.reduceBEq, Int.reduceBNe, Int.reduceLT, Int.reduceLE, Int.reduceGT, Int.reduceGE, Int.reduceToNat, Int.natCast_one, Int.natCast_zero, Int.cast_ofNat_Int]
  unfold ir_clavierlaw05HostCuts_t8
  simp +contextual (maxSteps := 1000000) only [go_sem, reduceCtorEq, ↓reduceIte, Nat.reduceAdd, Nat.reduceEqDiff, Nat.reduceLeDiff, Nat.reduceMul, Nat.reduceBEq, Int.reduceBEq, Int.reduceBNe, Int.reduceLT, Int.reduceLE, Int.reduceGT, Int.reduceGE, Int.reduceToNat, Int.natCast_one, Int.natCast_zero, Int.cast_ofNat_Int]
  have hz : Ps.new.x = Pp.zero := rfl
  have hnp : ∀ t ∈ ps.toks ++ po.toList, 1 ≤ t.1 ∧ t.1 = γ := fun t h => ⟨(h6 t h).1, (h6 t h).2.elim (fun h => by simp [Ps.new_toks] at h) And.left⟩
  refine kLoop_ix (fun q : (Nat × Nat) × Ps × Option Nm × Tk => ⟨lf [(1, .sl none 1 (bytesAV cuts)), (5, .bool true), (6, .ptr (γ, 11, 0) 0), (7, sv po 6 ((Ps.new.x.puts b).ou.map Sq.r)), (8, .ptr (γ, 17, 0) 0), (9, sv q.2.2.1 6 ((Pp.zero.puts (b.take q.1.2)).ou.map Sq.r)), (10, .sl none 1 (bytesAV (b.drop q.1.2))), (11, .int .i64 q.1.1)],
      [((γ, 17, 0), .cells q.2.1.c), ((γ, 11, 0), .cells ps.c)], q.2.2.2⟩)
    (fun q => q.1.1 ≤ cuts.length ∧ CutI ps.toks b q.1.2 q.2.1 q.2.2.1 q.2.2.2)
    (fun q => cuts.length - q.1.1) 0 ((0, 0), Ps.new, none, fun t => t ∈ ps.toks ++ po.toList) ?_ ⟨Nat.zero_le _, Nat.zero_le _, Ps.new_ok, rfl, fun _ => rfl, ?_, ?_⟩ ?_
  · refine Wk.perm' ?_ ?_ ?_
    · (simp only [lfOK, upd, initF]; repeat' first | exact AVle.refl _ _ | exact trivial | refine And.intro ?_ ?_ | exact AVle.int (by simp only [IntKind.wrap_i64]; omega))
    · simp
    · intro t h; exact .inl h
  · simp only [Ps.new_toks, Option.toList_none, List.append_nil]; exact (List.nodup_append.1 h5).1
  · simp only [Ps.new_toks, Option.toList_none, List.append_nil]
    exact fun t h => ⟨(hnp t (List.mem_append.2 (.inl h))).1, List.mem_append.2 (.inl h)⟩
  rintro γ' ⟨⟨i, k⟩, q, pt, T⟩ ⟨hle, hf⟩ ⟨hi, hI⟩
  simp only at hi hI hf
  generalize hQ' : kIt _ _ _ _ _ = Q'
  unfold ir_clavierlaw05HostCuts_l0
  by_cases hlt : i < cuts.length
  · have hd : decide ((i : Int) < (cuts.length : Int)) = true := by simp; omega
    have hget : (bytesAV cuts).getD i [] = [.int .u8 ((cuts[i]).toNat : Int)] := bytesAV_get hlt
    have hw1 : IntKind.i64.wrap ((cuts[i]).toNat : Int) = (cuts[i]).toNat := by rw [IntKind.wrap_i64]; have := (cuts[i]).toNat_lt; omega
    have hw2 : IntKind.i64.wrap (((b.drop k).length : Int) + 1) = (b.drop k).length + 1 := by rw [IntKind.wrap_i64]; simp; omega
    have hw3 : IntKind.i64.wrap ((i : Int) + 1) = ((i + 1 : Nat) : Int) := by rw [IntKind.wrap_i64]; omega
    obtain ⟨m, hm1⟩ : ∃ m, m = (cuts[i]).toNat % ((b.drop k).length + 1) := ⟨_, rfl⟩
    have hm2 : ((cuts[i]).toNat : Int).tmod (((b.drop k).length : Int) + 1) = (m : Int) := by rw [hm1]; exact (Int.ofNat_tmod _ _).symm
    have hm3 : m ≤ (b.drop k).length := by rw [hm1]; exact Nat.le_of_lt_succ (Nat.mod_lt _ (by omega))
    have hm4 : m ≤ b.length - k := by rw [List.length_drop] at hm3; exact hm3
    have hm5 : ((b.drop k).take (b.drop k).length).drop m = b.drop (k + m) := by rw [List.take_length, List.drop_drop]
    clear hm1
    simp +contextual (maxSteps := 1000000) only [hd, hget, bytesAV_len, hw1, hw2, hm2, Int.toNat_natCast, bytesAV_take, go_sem, reduceCtorEq, ↓reduceIte, Nat.reduceAdd, Nat.reduceEqDiff, Nat.reduceLeDiff, Nat.reduceMul, Nat.reduceBEq, Int.reduceBEq, Int.reduceBNe, Int.reduceLT, Int.reduceLE, Int.reduceGT, Int.reduceGE, Int.reduceToNat, Int.natCast_one, Int.natCast_zero, Int.cast_ofNat_Int]
    refine ⟨by omega, by omega, by omega, ?_⟩
    refine cut_step hst hI (by omega) hm4 hγ (by simp) (by omega) hf.2 (by decide) rfl fun q' nt T' v hI' hqn => ?_
    simp +contextual (maxSteps := 1000000) only [bytesAV_len, bytesAV_drop, bytesAV_take, Int.toNat_natCast, hm5, hw3, go_sem, reduceCtorEq, ↓reduceIte, Nat.reduceAdd, Nat.reduceEqDiff, Nat.reduceLeDiff, Nat.reduceMul, Nat.reduceBEq, Int.reduceBEq, Int.reduceBNe, Int.reduceLT, Int.reduceLE, Int.reduceGT, Int.reduceGE, Int.reduceToNat, Int.natCast_one, Int.natCast_zero, Int.cast_ofNat_Int]
    refine ⟨by omega, ?_⟩
    rw [← hQ']
    simp only [w_kIt_n]
    refine ⟨0, ((i + 1, k + m), q', nt, T'), Wk.perm' ?_ ?_ (fun _ h => h), ⟨by simp only; omega, hI'⟩, by simp only; omega⟩
    · repeat' first | exact AVle.refl _ _ | exact trivial | refine And.intro ?_ ?_ | exact AVle.int (by simp only [IntKind.wrap_i64]; omega)
    · simp
  · have hd : decide ((i : Int) < (cuts.length : Int)) = false := by simp; omega
    simp +contextual (maxSteps := 1000000) only [hd, bytesAV_len, go_sem, reduceCtorEq, ↓reduceIte, Nat.reduceAdd, Nat.reduceEqDiff, Nat.reduceLeDiff, Nat.reduceMul, Nat.reduceBEq, Int.reduceBEq, Int.reduceBNe, Int.reduceLT, Int.reduceLE, Int.reduceGT, Int.reduceGE, Int.reduceToNat, Int.natCast_one, Int.natCast_zero, Int.cast_ofNat_Int]
    rw [← hQ']
    simp only [w_kIt_e, w_kBlk_e, ↓reduceIte]
    unfold ir_clavierlaw05HostCuts_t9
    have hm6 : (b.drop k).take (b.length - k) = b.drop k := List.take_of_length_le (by simp)
    simp +contextual (maxSteps := 1000000) only [go_sem, reduceCtorEq, ↓reduceIte, Nat.reduceAdd, Nat.reduceEqDiff, Nat.reduceLeDiff, Nat.reduceMul, Nat.reduceBEq, Int.reduceBEq, Int.reduceBNe, Int.reduceLT, Int.reduceLE, Int.reduceGT, Int.reduceGE, Int.reduceToNat, Int.natCast_one, Int.natCast_zero, Int.cast_ofNat_Int]
    rw [← hm6]
    refine cut_step hst hI (by omega) (Nat.le_refl _) hγ (by simp) (by omega) hf.2 (by decide) rfl fun q' nt T' v hI' hqn => ?_
    simp +contextual (maxSteps := 1000000) only [go_sem, reduceCtorEq, ↓reduceIte, Nat.reduceAdd, Nat.reduceEqDiff, Nat.reduceLeDiff, Nat.reduceMul, Nat.reduceBEq, Int.reduceBEq, Int.reduceBNe, Int.reduceLT, Int.reduceLE, Int.reduceGT, Int.reduceGE, Int.reduceToNat, Int.natCast_one, Int.natCast_zero, Int.cast_ofNat_Int]
    unfold ir_clavierlaw05HostCuts_t10
    simp +contextual (maxSteps := 1000000) only [go_sem, reduceCtorEq, ↓reduceIte, Nat.reduceAdd, Nat.reduceEqDiff, Nat.reduceLeDiff, Nat.reduceMul, Nat.reduceBEq, Int.reduceBEq, Int.reduceBNe, Int.reduceLT, Int.reduceLE, Int.reduceGT, Int.reduceGE, Int.reduceToNat, Int.natCast_one, Int.natCast_zero, Int.cast_ofNat_Int]
    have hkm : b.take (k + (b.length - k)) = b := List.take_of_length_le (by have := hI.le; omega)
    have hI2 : CutI ps.toks b (k + (b.length - k)) q' nt T' := hI'
    obtain ⟨i1, i2, i3, i4, i5, i6⟩ := hI2
    rw [hkm] at i3 i4 ⊢
    have hwz := Pp.w.puts (b := b) Pp.w.zero
    have hsm : ∀ s ∈ (Pp.zero.puts b).ou, s.sm := fun s hs => (mayP_sm (hwz.mo s hs)).1
    have hln : (Pp.zero.puts b).ou.length < 9223372036854775808 := by have := hwz.ou; omega
    refine CallP.pure (FS.args (fs_Sames hst hln hln hsm hsm) ⟨sv_le h4, sv_le i4, trivial⟩) (fun _ => rfl) ?_
    simp +contextual (maxSteps := 1000000) only [go_sem, reduceCtorEq, ↓reduceIte, Nat.reduceAdd, Nat.reduceEqDiff, Nat.reduceLeDiff, Nat.reduceMul, Nat.reduceBEq, Int.reduceBEq, Int.reduceBNe, Int.reduceLT, Int.reduceLE, Int.reduceGT, Int.reduceGE, Int.reduceToNat, Int.natCast_one, Int.natCast_zero, Int.cast_ofNat_Int]
    refine Idle.call hst (s := ps) hγ h2 (by simp) (by omega) (fun t h => (i6 t (by simp [h])).2) (fun t h => ⟨(i6 t (by simp [h])).1, fun j e => ?_⟩) fun p' a1 a2 a3 => ?_
    · exact hf.2 t (hI.tT t (by simp [h])).2 (by rw [e])
    simp +contextual (maxSteps := 1000000) only [go_sem, reduceCtorEq, ↓reduceIte, Nat.reduceAdd, Nat.reduceEqDiff, Nat.reduceLeDiff, Nat.reduceMul, Nat.reduceBEq, Int.reduceBEq, Int.reduceBNe, Int.reduceLT, Int.reduceLE, Int.reduceGT, Int.reduceGE, Int.reduceToNat, Int.natCast_one, Int.natCast_zero, Int.cast_ofNat_Int]
    refine Idle.call hst (s := q') hγ i2 (by simp) (by omega) (fun t h => ?_) (fun t h => ⟨(i6 t (by simp [h])).1, fun j e => ?_⟩) fun q2 b1 b2 b3 => ?_
    · exact .inr ⟨(i6 t (by simp [h])).2, fun h' => (nodup3.1 i5).2.2.2.1 t h' h⟩
    · rcases hqn t h with h' | h'
      · exact hf.2 t (hI.tT t (by simp [h'])).2 (by rw [e])
      · rw [e] at h'; simp at h'
    rw [h1, i3]
    have e1 : decide ((Pp.zero.puts b).ou = (Pp.zero.puts b).ou) = true := by simp
    have e2 : ((Pp.zero.puts b).mt.nx.isNone == (Pp.zero.puts b).mt.nx.isNone) = true := by simp
    simp +contextual (maxSteps := 1000000) only [e1, e2, hz, go_sem, reduceCtorEq, ↓reduceIte, Nat.reduceAdd, Nat.reduceEqDiff, Nat.reduceLeDiff, Nat.reduceMul, Nat.reduceBEq, Int.reduceBEq, Int.reduceBNe, Int.reduceLT, Int.reduceLE, Int.reduceGT, Int.reduceGE, Int.reduceToNat, Int.natCast_one, Int.natCast_zero, Int.cast_ofNat_Int]
    rw [← hQ]
    exact ⟨trivial, Ret.flat rfl rfl⟩
end Go.Proofs.YtgdgfefojfgpaaaDoor

/- HostTells, walked. -/
set_option linter.unusedVariables false
set_option linter.unusedSimpArgs false
set_option maxRecDepth 100000
namespace Go.Proofs.YtgdgfefojfgpaaaDoor
open Go Go.Ab
/- clavier/clavierlaw05.great -/
def ir_clavierlaw05great_l0 : ICode :=
 (.seq
             (.seq
              (.reg [⟨some 12, none, .mov (.t 4)⟩,
                ⟨some 13, none, .fa 2 (.t 1)⟩,
                ⟨some 14, none, .ld none (.t 13)⟩,
                ⟨some 15, none, .mov (.t 3)⟩,
                ⟨some 16, none, .ia 1 (.t 14) (.t 15)⟩,
                ⟨some 17, none, .ld none (.t 16)⟩,
                ⟨some 18, none, .len (.t 17)⟩,
                ⟨some 19, none, .bin .lss .none (.t 12) (.t 18)⟩] (some [1, 3, 4, 19]))
              (.cond (.t 19)
               .skip
               (.exit 2)))
             (.seq
              (.blk 3
               (.seq
                (.reg [⟨some 22, none, .fa 2 (.t 1)⟩,
                  ⟨some 23, none, .ld none (.t 22)⟩,
                  ⟨some 24, none, .mov (.t 3)⟩,
                  ⟨some 25, none, .ia 1 (.t 23) (.t 24)⟩,
                  ⟨some 26, none, .ld none (.t 25)⟩,
                  ⟨some 27, none, .mov (.t 4)⟩,
                  ⟨some 28, none, .ia 1 (.t 26) (.t 27)⟩,
                  ⟨some 29, none, .ld none (.t 28)⟩,
                  ⟨some 30, none, .bin .gtr .none (.t 29) (.c (.int .i64 65535))⟩] (some [1, 3, 4, 30]))
                (.cond (.t 30)
                 (.seq
                  (.reg [⟨some 2, none, .mov (.c (.bool true))⟩] (some [2]))
                  .ret)
                 .skip)))
              (.reg [⟨some 20, none, .mov (.t 4)⟩,
                ⟨some 21, none, .bin .add .none (.t 20) (.c (.int .i64 1))⟩,
                ⟨some 4, none, .mov (.t 21)⟩] (some [1, 3, 4]))))
def ir_clavierlaw05great_l1 : ICode :=
 (.seq
       (.seq
        (.reg [⟨some 5, none, .mov (.t 3)⟩,
          ⟨some 6, none, .fa 2 (.t 1)⟩,
          ⟨some 7, none, .ld none (.t 6)⟩,
          ⟨some 8, none, .len (.t 7)⟩,
          ⟨some 9, none, .bin .lss .none (.t 5) (.t 8)⟩] (some [1, 3, 9]))
        (.cond (.t 9)
         .skip
         (.exit 0)))
       (.seq
        (.blk 1
         (.seq
          (.reg [⟨some 4, none, .mov (.c (.int .i64 0))⟩] (some [1, 3, 4]))
          (.blk 2
           (.loop
            ir_clavierlaw05great_l0))))
        (.reg [⟨some 10, none, .mov (.t 3)⟩,
          ⟨some 11, none, .bin .add .none (.t 10) (.c (.int .i64 1))⟩,
          ⟨some 3, none, .mov (.t 11)⟩] (some [1, 3]))))
def ir_clavierlaw05great_t2 : ICode :=
 (.seq
  (.reg [⟨some 2, none, .mov (.c (.bool false))⟩] (some [2]))
  .ret)
def ir_clavierlaw05great_t1 : ICode :=
 (.seq
  (.seq
    (.reg [⟨some 3, none, .mov (.c (.int .i64 0))⟩] (some [1, 3]))
    (.blk 0
     (.loop
      ir_clavierlaw05great_l1)))
  ir_clavierlaw05great_t2)
def ir_clavierlaw05great : ICode :=
 (.seq
  (.reg [⟨some 1, none, .box 32 (.t 0)⟩,
    ⟨some 2, none, .mov (.c (.bool false))⟩] (some [1]))
  ir_clavierlaw05great_t1)
theorem is_clavierlaw05great : IrOf Tryd.prog 12 31 ir_clavierlaw05great [.t 2] := ⟨_, Tryd.func12, rfl, by kernel_rfl, by kernel_rfl, by kernel_rfl⟩

/- clavier/clavierlaw05.HostTells -/
def ir_clavierlaw05HostTells_l0 : ICode :=
 (.seq
           (.seq
            (.reg [⟨some 40, none, .mov (.t 8)⟩,
              ⟨some 41, none, .mov (.t 0)⟩,
              ⟨some 42, none, .len (.t 41)⟩,
              ⟨some 43, none, .bin .lss .none (.t 40) (.t 42)⟩] (some [0, 5, 6, 8, 43]))
            (.cond (.t 43)
             .skip
             (.exit 2)))
           (.seq
            (.blk 3
             (.seq
              (.seq
               (.reg [⟨some 46, none, .mov (.t 0)⟩,
                 ⟨some 47, none, .mov (.t 8)⟩,
                 ⟨some 48, none, .ia 6 (.t 46) (.t 47)⟩,
                 ⟨some 49, none, .fa 0 (.t 48)⟩,
                 ⟨some 50, none, .ld none (.t 49)⟩,
                 ⟨some 51, none, .bin .eql .none (.t 50) (.c (.int .i64 2))⟩,
                 ⟨some 52, none, .mov (.t 51)⟩,
                 ⟨some 53, some (52, false), .mov (.t 0)⟩,
                 ⟨some 54, some (52, false), .mov (.t 8)⟩,
                 ⟨some 55, some (52, false), .ia 6 (.t 53) (.t 54)⟩,
                 ⟨some 56, some (52, false), .fa 5 (.t 55)⟩,
                 ⟨some 57, some (52, false), .ld none (.t 56)⟩,
                 ⟨some 58, some (52, false), .lns (.t 57)⟩,
                 ⟨some 59, some (52, false), .bin .gtr .none (.t 58) (.c (.int .i64 200))⟩,
                 ⟨some 60, none, .pick (.t 52) (.c (.bool true)) (.t 59)⟩,
                 ⟨some 61, none, .mov (.t 60)⟩,
                 ⟨some 62, some (61, false), .mov (.t 0)⟩,
                 ⟨some 63, some (61, false), .mov (.t 8)⟩,
                 ⟨some 64, some (61, false), .ia 6 (.t 62) (.t 63)⟩,
                 ⟨some 65, some (61, false), .fa 2 (.t 64)⟩,
                 ⟨some 66, some (61, false), .ld none (.t 65)⟩,
                 ⟨some 67, some (61, false), .len (.t 66)⟩,
                 ⟨some 68, some (61, false), .bin .gtr .none (.t 67) (.c (.int .i64 20))⟩,
                 ⟨some 69, none, .pick (.t 61) (.c (.bool true)) (.t 68)⟩,
                 ⟨some 70, none, .mov (.t 69)⟩,
                 ⟨some 71, some (70, false), .mov (.t 0)⟩,
                 ⟨some 72, some (70, false), .mov (.t 8)⟩,
                 ⟨some 73, some (70, false), .ia 6 (.t 71) (.t 72)⟩,
                 ⟨some 74, some (70, false), .ld (some 6) (.t 73)⟩,
                 ⟨some 75, some (70, false), .call (.c (.fn (.func 12) [] [])) [(.t 74)]⟩,
                 ⟨some 76, none, .pick (.t 70) (.c (.bool true)) (.t 75)⟩] (some [0, 5, 6, 8, 76]))
               (.cond (.t 76)
                (.seq
                 (.reg [⟨some 77, none, .mov (.t 5)⟩,
                   ⟨some 4, none, .mov (.t 77)⟩] (some [4]))
                 .ret)
                .skip))
              (.seq
               (.reg [⟨some 79, none, .mov (.t 0)⟩,
                 ⟨some 80, none, .mov (.t 8)⟩,
                 ⟨some 81, none, .ia 6 (.t 79) (.t 80)⟩,
                 ⟨some 82, none, .ld (some 6) (.t 81)⟩,
                 ⟨some 83, none, .call (.c (.fn (.func 13) [] [])) [(.t 82)]⟩,
                 ⟨some 78, none, .mov (.t 83)⟩,
                 ⟨some 84, none, .ext (.t 78) 0⟩,
                 ⟨some 85, none, .ext (.t 78) 1⟩,
                 ⟨some 9, none, .mov (.t 84)⟩,
                 ⟨some 10, none, .mov (.t 85)⟩] (some [0, 5, 6, 8, 9, 10]))
               (.seq
                (.seq
                 (.reg [⟨some 86, none, .mov (.t 10)⟩,
                   ⟨some 87, none, .bin .neq .none (.t 86) (.c (.int .i64 0))⟩] (some [0, 5, 6, 8, 9, 87]))
                 (.cond (.t 87)
                  (.seq
                   (.reg [⟨some 88, none, .mov (.t 5)⟩,
                     ⟨some 4, none, .mov (.t 88)⟩] (some [4]))
                   .ret)
                  .skip))
                (.seq
                 (.reg [⟨some 89, none, .mov (.t 6)⟩,
                   ⟨some 90, none, .mov (.t 9)⟩,
                   ⟨some 91, none, .app 5 1 1 (.t 89) (.t 90)⟩,
                   ⟨some 6, none, .mov (.t 91)⟩] (some [0, 5, 6, 8]))
                 (.reg [⟨some 92, none, .mov (.t 6)⟩,
                   ⟨some 93, none, .row 5 1 [(.c (.int .u8 120))]⟩,
                   ⟨some 94, none, .app 5 1 1 (.t 92) (.t 93)⟩,
                   ⟨some 6, none, .mov (.t 94)⟩] (some [0, 5, 6, 8])))))))
            (.reg [⟨some 44, none, .mov (.t 8)⟩,
              ⟨some 45, none, .bin .add .none (.t 44) (.c (.int .i64 1))⟩,
              ⟨some 8, none, .mov (.t 45)⟩] (some [0, 5, 6, 8]))))
def ir_clavierlaw05HostTells_l1 : ICode :=
 (.seq
          (.seq
           (.reg [⟨some 22, none, .mov (.t 7)⟩,
             ⟨some 23, none, .mov (.t 1)⟩,
             ⟨some 24, none, .len (.t 23)⟩,
             ⟨some 25, none, .bin .lss .none (.t 22) (.t 24)⟩] (some [0, 1, 5, 6, 7, 25]))
           (.cond (.t 25)
            .skip
            (.exit 0)))
          (.seq
           (.blk 1
            (.seq
             (.reg [⟨some 28, none, .mov (.t 1)⟩,
               ⟨some 29, none, .mov (.t 7)⟩,
               ⟨some 30, none, .ia 1 (.t 28) (.t 29)⟩,
               ⟨some 31, none, .ld none (.t 30)⟩,
               ⟨some 32, none, .bin .neq .none (.t 31) (.c (.int .u8 27))⟩] (some [0, 1, 5, 6, 7, 32]))
             (.cond (.t 32)
              (.reg [⟨some 33, none, .mov (.t 6)⟩,
                ⟨some 34, none, .mov (.t 1)⟩,
                ⟨some 35, none, .mov (.t 7)⟩,
                ⟨some 36, none, .ia 1 (.t 34) (.t 35)⟩,
                ⟨some 37, none, .ld none (.t 36)⟩,
                ⟨some 38, none, .row 5 1 [(.t 37)]⟩,
                ⟨some 39, none, .app 5 1 1 (.t 33) (.t 38)⟩,
                ⟨some 6, none, .mov (.t 39)⟩] (some [0, 1, 5, 6, 7]))
              .skip)))
           (.reg [⟨some 26, none, .mov (.t 7)⟩,
             ⟨some 27, none, .bin .add .none (.t 26) (.c (.int .i64 1))⟩,
             ⟨some 7, none, .mov (.t 27)⟩] (some [0, 1, 5, 6, 7]))))
def ir_clavierlaw05HostTells_t7 : ICode :=
 (.seq
  (.reg [⟨some 96, none, .mov (.t 5)⟩,
           ⟨some 97, none, .mov (.t 96)⟩,
           ⟨some 98, some (97, true), .mov (.t 11)⟩,
           ⟨some 99, some (97, true), .mov (.t 6)⟩,
           ⟨some 100, some (97, true), .call (.c (.fn (.func 9) [] [])) [(.t 98), (.t 99)]⟩,
           ⟨some 101, some (97, true), .mov (.t 0)⟩,
           ⟨some 102, some (97, true), .call (.c (.fn (.func 10) [] [])) [(.t 100), (.t 101)]⟩,
           ⟨some 103, none, .pick (.t 97) (.t 102) (.c (.bool false))⟩,
           ⟨some 104, none, .mov (.t 103)⟩,
           ⟨some 105, some (104, true), .mov (.t 11)⟩,
           ⟨some 106, some (104, true), .call (.c (.fn (.func 11) [] [])) [(.t 105)]⟩,
           ⟨some 107, none, .pick (.t 104) (.t 106) (.c (.bool false))⟩,
           ⟨some 4, none, .mov (.t 107)⟩] (some [4]))
  .ret)
def ir_clavierlaw05HostTells_t6 : ICode :=
 (.seq
  (.reg [⟨some 95, none, .call (.c (.fn (.func 8) [] [])) []⟩,
          ⟨some 11, none, .mov (.t 95)⟩] (some [0, 5, 6, 11]))
  ir_clavierlaw05HostTells_t7)
def ir_clavierlaw05HostTells_t5 : ICode :=
 (.seq
  (.seq
        (.reg [⟨some 8, none, .mov (.c (.int .i64 0))⟩] (some [0, 5, 6, 8]))
        (.blk 2
         (.loop
          ir_clavierlaw05HostTells_l0)))
  ir_clavierlaw05HostTells_t6)
def ir_clavierlaw05HostTells_t4 : ICode :=
 (.seq
  (.seq
       (.reg [⟨some 7, none, .mov (.c (.int .i64 0))⟩] (some [0, 1, 5, 6, 7]))
       (.blk 0
        (.loop
         ir_clavierlaw05HostTells_l1)))
  ir_clavierlaw05HostTells_t5)
def ir_clavierlaw05HostTells_t3 : ICode :=
 (.seq
  (.reg [⟨some 6, none, .mov (.c .nils)⟩] (some [0, 1, 5, 6]))
  ir_clavierlaw05HostTells_t4)
def ir_clavierlaw05HostTells_t2 : ICode :=
 (.seq
  (.seq
     (.reg [⟨some 13, none, .mov (.t 0)⟩,
       ⟨some 14, none, .len (.t 13)⟩,
       ⟨some 15, none, .bin .gtr .none (.t 14) (.c (.int .i64 6))⟩,
       ⟨some 16, none, .mov (.t 15)⟩,
       ⟨some 17, some (16, false), .mov (.t 1)⟩,
       ⟨some 18, some (16, false), .len (.t 17)⟩,
       ⟨some 19, some (16, false), .bin .gtr .none (.t 18) (.c (.int .i64 100))⟩,
       ⟨some 20, none, .pick (.t 16) (.c (.bool true)) (.t 19)⟩] (some [0, 1, 5, 20]))
     (.cond (.t 20)
      (.seq
       (.reg [⟨some 21, none, .mov (.t 5)⟩,
         ⟨some 4, none, .mov (.t 21)⟩] (some [4]))
       .ret)
      .skip))
  ir_clavierlaw05HostTells_t3)
def ir_clavierlaw05HostTells_t1 : ICode :=
 (.seq
  (.reg [⟨some 12, none, .call (.c (.fn (.func 7) [] [])) []⟩,
     ⟨some 5, none, .mov (.t 12)⟩] (some [0, 1, 5]))
  ir_clavierlaw05HostTells_t2)
def ir_clavierlaw05HostTells : ICode :=
 (.seq
  (.reg [⟨some 4, none, .mov (.c (.bool false))⟩] (some [0, 1]))
  ir_clavierlaw05HostTells_t1)
theorem is_clavierlaw05HostTells : IrOf Tryd.prog 4 108 ir_clavierlaw05HostTells [.t 4] := ⟨_, Tryd.func4, rfl, by kernel_rfl, by kernel_rfl, by kernel_rfl⟩


def bigN (n : Int) : Bool := decide (n > 65535)
def greatP (s : Sq) : Bool := s.ps.any fun p => p.any bigN
theorem fs_great {Gl : Gh → Prop} (hst : Stays Gl) {s : Sq} (h : s.sm) : FS Tryd.prog Gl 12 [.agg s.c] [] [] (.bool (greatP s)) [] [] := by
  refine FS.of hm hst is_clavierlaw05great (by simp) fun γ hγ hfr => ?_
  obtain ⟨k, pr, l, it, fi, da⟩ := s
  have ha := h.ps
  have hb := h.pp
  simp only at ha hb
  simp only [Sq.c, greatP, parsV]
  simp only [Sq.c, parsV] at hfr
  (generalize hQ : (fun (ex : Ex) (_ _ : Nat) (s : St) => _) = Q; unfold ir_clavierlaw05great)
  simp +contextual (maxSteps := 1000000) only [go_sem, reduceCtorEq, ↓reduceIte, Nat.reduceAdd, Nat.reduceEqDiff, Nat.reduceLeDiff, Nat.reduceMul, Nat.reduceBEq, Int.reduceBEq, Int.reduceBNe, Int.reduceLT, Int.reduceLE, Int.reduceGT, Int.reduceGE, Int.reduceToNat, Int.natCast_one, Int.natCast_zero, Int.cast_ofNat_Int]
  unfold ir_clavierlaw05great_t1
  simp +contextual (maxSteps := 1000000) only [go_sem, reduceCtorEq, ↓reduceIte, Nat.reduceAdd, Nat.reduceEqDiff, Nat.reduceLeDiff, Nat.reduceMul, Nat.reduceBEq, Int.reduceBEq, Int.reduceBNe, Int.reduceLT, Int.reduceLE, Int.reduceGT, Int.reduceGE, Int.reduceToNat, Int.natCast_one, Int.natCast_zero, Int.cast_ofNat_Int]
  obtain ⟨H, hH⟩ : ∃ H : Hp, H = [((γ, 0, 0), HB.cells [.int .i64 k, .int .u8 pr, .sl none 1 (parsAV l), .str it, .int .u8 fi, .str da])] := ⟨_, rfl⟩
  rw [← hH]
  have hget : getH H (γ, 0, 0) = some (HB.cells [.int .i64 k, .int .u8 pr, .sl none 1 (parsAV l), .str it, .int .u8 fi, .str da]) := by rw [hH, getH_cons, if_pos rfl]
  clear hH
  refine kLoop_ix (fun i : Nat => ⟨lf [(1, .ptr (γ, 0, 0) 0), (3, .int .i64 i)], H, fun x => x ∈ []⟩) (fun i => i ≤ l.length ∧ (l.any fun p => p.any bigN) = ((l.drop i).any fun p => p.any bigN)) (fun i => l.length - i) 0 0 (Wk.same ?_) (by simp) ?_
  · (simp only [lfOK, upd, initF]; repeat' first | exact AVle.refl _ _ | exact trivial | refine And.intro ?_ ?_ | exact AVle.int (by simp only [IntKind.wrap_i64]; omega))
  rintro γ' i hf ⟨hi, hinv⟩
  generalize hQ' : kIt _ _ _ _ _ = Q'
  unfold ir_clavierlaw05great_l1
  by_cases hlt : i < l.length
  · have hd : decide ((i : Int) < (l.length : Int)) = true := by simp; omega
    have hg1 : (parsAV l).getD i [] = [intsV l[i]] := parsAV_get hlt
    have hdrop : l.drop i = l[i] :: l.drop (i + 1) := List.drop_eq_getElem_cons hlt
    have hpl := hb _ (List.getElem_mem hlt)
    have hw : IntKind.i64.wrap ((i : Int) + 1) = ((i + 1 : Nat) : Int) := by rw [IntKind.wrap_i64]; omega
    rw [hdrop, List.any_cons] at hinv
    generalize l[i] = p at hg1 hinv hpl
    simp +contextual (maxSteps := 1000000) only [hget, hd, hg1, parsAV_length, Int.toNat_natCast, go_sem, reduceCtorEq, ↓reduceIte, Nat.reduceAdd, Nat.reduceEqDiff, Nat.reduceLeDiff, Nat.reduceMul, Nat.reduceBEq, Int.reduceBEq, Int.reduceBNe, Int.reduceLT, Int.reduceLE, Int.reduceGT, Int.reduceGE, Int.reduceToNat, Int.natCast_one, Int.natCast_zero, Int.cast_ofNat_Int]
    refine kLoop_ix (fun k2 : Nat => ⟨lf [(1, .ptr (γ, 0, 0) 0), (3, .int .i64 i), (4, .int .i64 k2)], H, fun x => x ∈ []⟩) (fun k2 => k2 ≤ p.length ∧ p.any bigN = (p.drop k2).any bigN) (fun k2 => p.length - k2) 0 0 (Wk.same ?_) (by simp) ?_
    · (simp only [lfOK, upd, initF]; repeat' first | exact AVle.refl _ _ | exact trivial | refine And.intro ?_ ?_ | exact AVle.int (by simp only [IntKind.wrap_i64]; omega))
    rintro γ2 k2 hf2 ⟨hk, hinv2⟩
    generalize hQ2 : kIt _ _ _ _ _ = Q2
    unfold ir_clavierlaw05great_l0
    by_cases hlt2 : k2 < p.length
    · have hd2 : decide ((k2 : Int) < (p.length : Int)) = true := by simp; omega
      have hg2 : (intsAV p).getD k2 [] = [.int .i64 p[k2]] := intsAV_get hlt2
      have hdrop2 : p.drop k2 = p[k2] :: p.drop (k2 + 1) := List.drop_eq_getElem_cons hlt2
      have hw2 : IntKind.i64.wrap ((k2 : Int) + 1) = ((k2 + 1 : Nat) : Int) := by rw [IntKind.wrap_i64]; omega
      rw [hdrop2, List.any_cons] at hinv2
      generalize p[k2] = x at hg2 hinv2
      simp +contextual (maxSteps := 1000000) only [hget, hd2, hg1, hg2, parsAV_length, Int.toNat_natCast, intsV, intsAV_length, go_sem, reduceCtorEq, ↓reduceIte, Nat.reduceAdd, Nat.reduceEqDiff, Nat.reduceLeDiff, Nat.reduceMul, Nat.reduceBEq, Int.reduceBEq, Int.reduceBNe, Int.reduceLT, Int.reduceLE, Int.reduceGT, Int.reduceGE, Int.reduceToNat, Int.natCast_one, Int.natCast_zero, Int.cast_ofNat_Int]
      refine ⟨by omega, by omega, by omega, ?_⟩
      refine kCond_split (fun h2 => ?_) (fun h2 => ?_)
      · simp +contextual (maxSteps := 1000000) only [go_sem, reduceCtorEq, ↓reduceIte, Nat.reduceAdd, Nat.reduceEqDiff, Nat.reduceLeDiff, Nat.reduceMul, Nat.reduceBEq, Int.reduceBEq, Int.reduceBNe, Int.reduceLT, Int.reduceLE, Int.reduceGT, Int.reduceGE, Int.reduceToNat, Int.natCast_one, Int.natCast_zero, Int.cast_ofNat_Int]
        rw [← hQ2]
        simp only [w_kIt_r, w_kBlk_r, w_kSeq_r]
        rw [← hQ']
        simp only [w_kIt_r, w_kBlk_r, w_kSeq_r]
        rw [← hQ]
        refine ⟨trivial, Ret.flat ?_ rfl⟩
        rw [hinv, hinv2, show bigN x = true from h2]; rfl
      · simp +contextual (maxSteps := 1000000) only [hw2, go_sem, reduceCtorEq, ↓reduceIte, Nat.reduceAdd, Nat.reduceEqDiff, Nat.reduceLeDiff, Nat.reduceMul, Nat.reduceBEq, Int.reduceBEq, Int.reduceBNe, Int.reduceLT, Int.reduceLE, Int.reduceGT, Int.reduceGE, Int.reduceToNat, Int.natCast_one, Int.natCast_zero, Int.cast_ofNat_Int]
        rw [← hQ2]
        simp only [w_kIt_n]
        refine ⟨0, k2 + 1, Wk.same ?_, ⟨by omega, ?_⟩, by omega⟩
        · repeat' first | exact AVle.refl _ _ | exact trivial | refine And.intro ?_ ?_ | exact AVle.int (by simp only [IntKind.wrap_i64]; omega)
        · rw [hinv2, show bigN x = false from h2, Bool.false_or]
    · have hd2 : decide ((k2 : Int) < (p.length : Int)) = false := by simp; omega
      simp +contextual (maxSteps := 1000000) only [hget, hd2, hg1, parsAV_length, Int.toNat_natCast, intsV, intsAV_length, go_sem, reduceCtorEq, ↓reduceIte, Nat.reduceAdd, Nat.reduceEqDiff, Nat.reduceLeDiff, Nat.reduceMul, Nat.reduceBEq, Int.reduceBEq, Int.reduceBNe, Int.reduceLT, Int.reduceLE, Int.reduceGT, Int.reduceGE, Int.reduceToNat, Int.natCast_one, Int.natCast_zero, Int.cast_ofNat_Int]
      refine ⟨by omega, ?_⟩
      rw [← hQ2]
      simp only [w_kIt_e, w_kBlk_e, ↓reduceIte]
      simp +contextual (maxSteps := 1000000) only [hw, go_sem, reduceCtorEq, ↓reduceIte, Nat.reduceAdd, Nat.reduceEqDiff, Nat.reduceLeDiff, Nat.reduceMul, Nat.reduceBEq, Int.reduceBEq, Int.reduceBNe, Int.reduceLT, Int.reduceLE, Int.reduceGT, Int.reduceGE, Int.reduceToNat, Int.natCast_one, Int.natCast_zero, Int.cast_ofNat_Int]
      rw [← hQ']
      simp only [w_kIt_n]
      refine ⟨0, i + 1, Wk.same ?_, ⟨by omega, ?_⟩, by omega⟩
      · repeat' first | exact AVle.refl _ _ | exact trivial | refine And.intro ?_ ?_ | exact AVle.int (by simp only [IntKind.wrap_i64]; omega)
      · rw [List.drop_of_length_le (by omega), List.any_nil] at hinv2
        rw [hinv, hinv2, Bool.false_or]
  · have hd : decide ((i : Int) < (l.length : Int)) = false := by simp; omega
    simp +contextual (maxSteps := 1000000) only [hget, hd, parsAV_length, go_sem, reduceCtorEq, ↓reduceIte, Nat.reduceAdd, Nat.reduceEqDiff, Nat.reduceLeDiff, Nat.reduceMul, Nat.reduceBEq, Int.reduceBEq, Int.reduceBNe, Int.reduceLT, Int.reduceLE, Int.reduceGT, Int.reduceGE, Int.reduceToNat, Int.natCast_one, Int.natCast_zero, Int.cast_ofNat_Int]
    rw [← hQ']
    simp only [w_kIt_e, w_kBlk_e, ↓reduceIte]
    simp +contextual (maxSteps := 1000000) only [go_sem, reduceCtorEq, ↓reduceIte, Nat.reduceAdd, Nat.reduceEqDiff, Nat.reduceLeDiff, Nat.reduceMul, Nat.reduceBEq, Int.reduceBEq, Int.reduceBNe, Int.reduceLT, Int.reduceLE, Int.reduceGT, Int.reduceGE, Int.reduceToNat, Int.natCast_one, Int.natCast_zero, Int.cast_ofNat_Int]
    unfold ir_clavierlaw05great_t2
    simp +contextual (maxSteps := 1000000) only [go_sem, reduceCtorEq, ↓reduceIte, Nat.reduceAdd, Nat.reduceEqDiff, Nat.reduceLeDiff, Nat.reduceMul, Nat.reduceBEq, Int.reduceBEq, Int.reduceBNe, Int.reduceLT, Int.reduceLE, Int.reduceGT, Int.reduceGE, Int.reduceToNat, Int.natCast_one, Int.natCast_zero, Int.cast_ofNat_Int]
    rw [← hQ]
    refine ⟨trivial, Ret.flat ?_ rfl⟩
    rw [List.drop_of_length_le (by omega)] at hinv
    rw [hinv]; rfl

/-- Bytes that are no escape bytes. -/
def noEsc (b : List UInt8) : List UInt8 := b.filter fun c => c != 27
structure Sq.ok (s : Sq) : Prop where
  sm : s.sm
  pr : 0 ≤ s.pr ∧ s.pr < 256
  fi : 0 ≤ s.fi ∧ s.fi < 256
theorem toldB_len : ∀ {l : List Sq}, (∀ s ∈ l, (putB s).length ≤ 8000) → (toldB l).length ≤ 8001 * l.length
  | [], _ => by simp [toldB]
  | s :: l, h => by
    have ih := toldB_len (l := l) fun t ht => h t (by simp [ht])
    have := h s (by simp)
    simp only [toldB, List.flatMap_cons, List.length_append, List.length_cons, List.length_nil] at ih ⊢
    omega
theorem putB_len {s : Sq} (h : mayP s = 0) : (putB s).length ≤ 8000 := by
  have h1 := bodyB_len h
  obtain ⟨_, _, _, h2, h3⟩ := mayP_sm h
  unfold putB
  repeat' split
  all_goals simp only [List.length_append, List.length_cons, List.length_nil]; omega
theorem fs_HostTells {Gl : Gh → Prop} (hst : Stays Gl) {l : List Sq} {ahead : List UInt8} (h0 : l.length ≤ maxLen ∧ ∀ s ∈ l, s.ok) (h1 : ahead.length ≤ maxLen) : FS Tryd.prog Gl 4 [.sl none 6 (sqsAV l), .sl none 1 (bytesAV ahead)] [] [] (.bool true) [] [] := by
  obtain ⟨_, hok⟩ := h0
  clear h1
  refine FS.of hm hst is_clavierlaw05HostTells (by simp) fun γ hγ hfr => ?_
  (generalize hQ : (fun (ex : Ex) (_ _ : Nat) (s : St) => _) = Q; unfold ir_clavierlaw05HostTells)
  simp +contextual (maxSteps := 1000000) only [go_sem, reduceCtorEq, ↓reduceIte, Nat.reduceAdd, Nat.reduceEqDiff, Nat.reduceLeDiff, Nat.reduceMul, Nat.reduceBEq, Int.reduceBEq, Int.reduceBNe, Int.reduceLT, Int.reduceLE, Int.reduceGT, Int.reduceGE, Int.reduceToNat, Int.natCast_one, Int.natCast_zero, Int.cast_ofNat_Int]
  unfold ir_clavierlaw05HostTells_t1
  simp +contextual (maxSteps := 1000000) only [go_sem, reduceCtorEq, ↓reduceIte, Nat.reduceAdd, Nat.reduceEqDiff, Nat.reduceLeDiff, Nat.reduceMul, Nat.reduceBEq, Int.reduceBEq, Int.reduceBNe, Int.reduceLT, Int.reduceLE, Int.reduceGT, Int.reduceGE, Int.reduceToNat, Int.natCast_one, Int.natCast_zero, Int.cast_ofNat_Int]
  refine CallP.pure (fs_awake hst) (fun _ => rfl) ?_
  simp +contextual (maxSteps := 1000000) only [go_sem, reduceCtorEq, ↓reduceIte, Nat.reduceAdd, Nat.reduceEqDiff, Nat.reduceLeDiff, Nat.reduceMul, Nat.reduceBEq, Int.reduceBEq, Int.reduceBNe, Int.reduceLT, Int.reduceLE, Int.reduceGT, Int.reduceGE, Int.reduceToNat, Int.natCast_one, Int.natCast_zero, Int.cast_ofNat_Int]
  unfold ir_clavierlaw05HostTells_t2
  simp +contextual (maxSteps := 1000000) only [bytesAV_len, sqsAV_length, go_sem, reduceCtorEq, ↓reduceIte, Nat.reduceAdd, Nat.reduceEqDiff, Nat.reduceLeDiff, Nat.reduceMul, Nat.reduceBEq, Int.reduceBEq, Int.reduceBNe, Int.reduceLT, Int.reduceLE, Int.reduceGT, Int.reduceGE, Int.reduceToNat, Int.natCast_one, Int.natCast_zero, Int.cast_ofNat_Int]
  refine kCond_split (fun hg => ?_) (fun hg => ?_)
  · simp +contextual (maxSteps := 1000000) only [go_sem, reduceCtorEq, ↓reduceIte, Nat.reduceAdd, Nat.reduceEqDiff, Nat.reduceLeDiff, Nat.reduceMul, Nat.reduceBEq, Int.reduceBEq, Int.reduceBNe, Int.reduceLT, Int.reduceLE, Int.reduceGT, Int.reduceGE, Int.reduceToNat, Int.natCast_one, Int.natCast_zero, Int.cast_ofNat_Int]
    rw [← hQ]
    exact ⟨trivial, Ret.flat rfl rfl⟩
  have hg1 : l.length ≤ 6 ∧ ahead.length ≤ 100 := by simp at hg; omega
  clear hg
  simp +contextual (maxSteps := 1000000) only [go_sem, reduceCtorEq, ↓reduceIte, Nat.reduceAdd, Nat.reduceEqDiff, Nat.reduceLeDiff, Nat.reduceMul, Nat.reduceBEq, Int.reduceBEq, Int.reduceBNe, Int.reduceLT, Int.reduceLE, Int.reduceGT, Int.reduceGE, Int.reduceToNat, Int.natCast_one, Int.natCast_zero, Int.cast_ofNat_Int]
  unfold ir_clavierlaw05HostTells_t3
  simp +contextual (maxSteps := 1000000) only [go_sem, reduceCtorEq, ↓reduceIte, Nat.reduceAdd, Nat.reduceEqDiff, Nat.reduceLeDiff, Nat.reduceMul, Nat.reduceBEq, Int.reduceBEq, Int.reduceBNe, Int.reduceLT, Int.reduceLE, Int.reduceGT, Int.reduceGE, Int.reduceToNat, Int.natCast_one, Int.natCast_zero, Int.cast_ofNat_Int]
  unfold ir_clavierlaw05HostTells_t4
  simp +contextual (maxSteps := 1000000) only [go_sem, reduceCtorEq, ↓reduceIte, Nat.reduceAdd, Nat.reduceEqDiff, Nat.reduceLeDiff, Nat.reduceMul, Nat.reduceBEq, Int.reduceBEq, Int.reduceBNe, Int.reduceLT, Int.reduceLE, Int.reduceGT, Int.reduceGE, Int.reduceToNat, Int.natCast_one, Int.natCast_zero, Int.cast_ofNat_Int]
  have hret : ∀ γ c F H T, F 4 = .bool true → Q .ret γ c ⟨F, H, T⟩ := fun γ' c F H T h4 => by
    rw [← hQ]
    exact ⟨trivial, Ret.flat (by simp only [resOf, getAll, IRes.get, h4]) rfl⟩
  refine kLoop_ix (fun q : Nat × Option Nm => ⟨lf [(0, .sl none 6 (sqsAV l)), (1, .sl none 1 (bytesAV ahead)), (5, .bool true), (6, sv q.2 1 (bytesAV (noEsc (ahead.take q.1)))), (7, .int .i64 q.1)], [], fun t => t ∈ q.2.toList⟩)
    (fun q => q.1 ≤ ahead.length ∧ (q.2 = none → noEsc (ahead.take q.1) = []) ∧ ∀ t ∈ q.2.toList, 1 ≤ t.1) (fun q => ahead.length - q.1) 0 (0, none) (Wk.perm' ?_ (by simp) (by simp)) ⟨Nat.zero_le _, fun _ => rfl, by simp⟩ ?_
  · (simp only [lfOK, upd, initF]; repeat' first | exact AVle.refl _ _ | exact trivial | refine And.intro ?_ ?_ | exact AVle.int (by simp only [IntKind.wrap_i64]; omega))
  rintro γ' ⟨i, pt⟩ ⟨hle, hf⟩ ⟨hi, hpt, htT⟩
  simp only at hi hpt htT hf
  generalize hQ' : kIt _ _ _ _ _ = Q'
  unfold ir_clavierlaw05HostTells_l1
  have hnl : (noEsc (ahead.take i)).length ≤ 100 := by
    have := List.length_filter_le (fun c : UInt8 => c != 27) (ahead.take i)
    rw [List.length_take] at this
    unfold noEsc; omega
  by_cases hlt : i < ahead.length
  · have hd : decide ((i : Int) < (ahead.length : Int)) = true := by simp; omega
    have hget : (bytesAV ahead).getD i [] = [.int .u8 ((ahead[i]).toNat : Int)] := bytesAV_get hlt
    have hw : IntKind.i64.wrap ((i : Int) + 1) = ((i + 1 : Nat) : Int) := by rw [IntKind.wrap_i64]; omega
    have htk : ahead.take (i + 1) = ahead.take i ++ [ahead[i]] := by rw [List.take_add_one, List.getElem?_eq_getElem hlt]; rfl
    generalize ahead[i] = c at hget htk
    have hc : ((c.toNat : Int) != 27) = (c != 27) := by
      rw [Bool.eq_iff_iff, bne_iff_ne, bne_iff_ne, ne_eq, ne_eq, ← UInt8.toNat_inj]
      simp only [UInt8.reduceToNat]; omega
    simp +contextual (maxSteps := 1000000) only [hd, hget, bytesAV_len, Int.toNat_natCast, hc, go_sem, reduceCtorEq, ↓reduceIte, Nat.reduceAdd, Nat.reduceEqDiff, Nat.reduceLeDiff, Nat.reduceMul, Nat.reduceBEq, Int.reduceBEq, Int.reduceBNe, Int.reduceLT, Int.reduceLE, Int.reduceGT, Int.reduceGE, Int.reduceToNat, Int.natCast_one, Int.natCast_zero, Int.cast_ofNat_Int]
    refine ⟨by omega, ?_⟩
    refine kCond_join (fun _ s' => s'.F 0 = .sl none 6 (sqsAV l) ∧ s'.F 1 = .sl none 1 (bytesAV ahead) ∧ s'.F 5 = .bool true ∧ s'.F 7 = .int .i64 i ∧ s'.H = [] ∧ ∃ nt, s'.F 6 = sv nt 1 (bytesAV (noEsc (ahead.take (i + 1)))) ∧ (nt = none → noEsc (ahead.take (i + 1)) = []) ∧ (∀ t ∈ nt.toList, 1 ≤ t.1 ∧ s'.T t)) (fun h => ?_) (fun h => ?_) fun c1 s' hs => ?_
    · have hne : noEsc (ahead.take (i + 1)) = noEsc (ahead.take i) ++ [c] := by simp only [noEsc, htk, List.filter_append, List.filter_cons, h, if_true, List.filter_nil]
      rw [hne]
      have hap : bytesAV (noEsc (ahead.take i)) ++ [[AV.int .u8 (c.toNat : Int)]] = bytesAV (noEsc (ahead.take i) ++ [c]) := by simp [bytesAV]
      cases pt with
      | none =>
        have hp0 : noEsc (ahead.take i) = [] := hpt rfl
        have hb1 : [[AV.int .u8 (c.toNat : Int)]] = bytesAV [c] := rfl
        rw [hp0]
        simp +contextual (maxSteps := 1000000) only [hget, bytesAV_len, Int.toNat_natCast, go_sem, reduceCtorEq, ↓reduceIte, Nat.reduceAdd, Nat.reduceEqDiff, Nat.reduceLeDiff, Nat.reduceMul, Nat.reduceBEq, Int.reduceBEq, Int.reduceBNe, Int.reduceLT, Int.reduceLE, Int.reduceGT, Int.reduceGE, Int.reduceToNat, Int.natCast_one, Int.natCast_zero, Int.cast_ofNat_Int]
        refine ⟨by omega, some (γ', 15, 0), rfl, fun h => by simp at h, fun t h => ?_⟩
        simp only [Option.toList_some, List.mem_singleton] at h
        subst h
        exact ⟨by simp only; omega, .inl rfl⟩
      | some p =>
        have hp1 := htT p (by simp)
        have hfit : ((noEsc (ahead.take i)).length + 1) * 1 ≤ 140737488355328 := by omega
        simp +contextual (maxSteps := 1000000) only [hget, bytesAV_len, Int.toNat_natCast, hap, hfit, Option.toList_some, go_sem, reduceCtorEq, ↓reduceIte, Nat.reduceAdd, Nat.reduceEqDiff, Nat.reduceLeDiff, Nat.reduceMul, Nat.reduceBEq, Int.reduceBEq, Int.reduceBNe, Int.reduceLT, Int.reduceLE, Int.reduceGT, Int.reduceGE, Int.reduceToNat, Int.natCast_one, Int.natCast_zero, Int.cast_ofNat_Int]
        refine ⟨by omega, by simp, some (γ', 15, 0), rfl, fun h => by simp at h, fun t h => ?_⟩
        simp only [Option.toList_some, List.mem_singleton] at h
        subst h
        exact ⟨by simp only; omega, .inl rfl⟩
    · have hne : noEsc (ahead.take (i + 1)) = noEsc (ahead.take i) := by simp only [noEsc, htk, List.filter_append, List.filter_cons, h, if_false, Bool.false_eq_true, List.filter_nil, List.append_nil]
      rw [hne]
      simp +contextual (maxSteps := 1000000) only [go_sem, reduceCtorEq, ↓reduceIte, Nat.reduceAdd, Nat.reduceEqDiff, Nat.reduceLeDiff, Nat.reduceMul, Nat.reduceBEq, Int.reduceBEq, Int.reduceBNe, Int.reduceLT, Int.reduceLE, Int.reduceGT, Int.reduceGE, Int.reduceToNat, Int.natCast_one, Int.natCast_zero, Int.cast_ofNat_Int]
      refine ⟨pt, rfl, hpt, fun t h => ⟨htT t h, h⟩⟩
    obtain ⟨F, H, T⟩ := s'
    simp only at hs
    obtain ⟨f0, f1, f5, f7, rfl, nt, f6, n1, n2⟩ := hs
    simp +contextual (maxSteps := 1000000) only [f0, f1, f5, f7, f6, hw, go_sem, reduceCtorEq, ↓reduceIte, Nat.reduceAdd, Nat.reduceEqDiff, Nat.reduceLeDiff, Nat.reduceMul, Nat.reduceBEq, Int.reduceBEq, Int.reduceBNe, Int.reduceLT, Int.reduceLE, Int.reduceGT, Int.reduceGE, Int.reduceToNat, Int.natCast_one, Int.natCast_zero, Int.cast_ofNat_Int]
    rw [← hQ']
    simp only [w_kIt_n]
    refine ⟨0, (i + 1, nt), Wk.perm' ?_ (by simp) (fun t h => (n2 t h).2), ⟨by simp only; omega, n1, fun t h => (n2 t h).1⟩, by simp only; omega⟩
    repeat' first | exact AVle.refl _ _ | exact trivial | refine And.intro ?_ ?_ | exact AVle.int (by simp only [IntKind.wrap_i64]; omega)
  · have hd : decide ((i : Int) < (ahead.length : Int)) = false := by simp; omega
    simp +contextual (maxSteps := 1000000) only [hd, bytesAV_len, go_sem, reduceCtorEq, ↓reduceIte, Nat.reduceAdd, Nat.reduceEqDiff, Nat.reduceLeDiff, Nat.reduceMul, Nat.reduceBEq, Int.reduceBEq, Int.reduceBNe, Int.reduceLT, Int.reduceLE, Int.reduceGT, Int.reduceGE, Int.reduceToNat, Int.natCast_one, Int.natCast_zero, Int.cast_ofNat_Int]
    rw [← hQ']
    simp only [w_kIt_e, w_kBlk_e, ↓reduceIte]
    unfold ir_clavierlaw05HostTells_t5
    simp +contextual (maxSteps := 1000000) only [go_sem, reduceCtorEq, ↓reduceIte, Nat.reduceAdd, Nat.reduceEqDiff, Nat.reduceLeDiff, Nat.reduceMul, Nat.reduceBEq, Int.reduceBEq, Int.reduceBNe, Int.reduceLT, Int.reduceLE, Int.reduceGT, Int.reduceGE, Int.reduceToNat, Int.natCast_one, Int.natCast_zero, Int.cast_ofNat_Int]
    have hA : noEsc (ahead.take i) = noEsc ahead := by rw [List.take_of_length_le (by omega)]
    rw [hA] at hpt hnl ⊢
    clear hA hQ'
    refine kLoop_ix (fun q : Nat × Option Nm => ⟨lf [(0, .sl none 6 (sqsAV l)), (5, .bool true), (6, sv q.2 1 (bytesAV (noEsc ahead ++ toldB (l.take q.1)))), (8, .int .i64 q.1)], [], fun t => t ∈ q.2.toList⟩)
      (fun q => q.1 ≤ l.length ∧ (q.2 = none → noEsc ahead ++ toldB (l.take q.1) = []) ∧ (∀ t ∈ q.2.toList, 1 ≤ t.1) ∧ ∀ s ∈ l.take q.1, mayP s = 0 ∧ s.k ≠ 2 ∧ ∀ p ∈ s.ps, ∀ n ∈ p, n ≤ 65535) (fun q => l.length - q.1) 0 (0, pt) (Wk.perm' ?_ (by simp) (fun t h => h)) ⟨Nat.zero_le _, fun h => by simp [toldB, hpt h], htT, by simp⟩ ?_
    · simp only [List.take_zero, toldB, List.flatMap_nil, List.append_nil]
      (simp only [lfOK, upd, initF]; repeat' first | exact AVle.refl _ _ | exact trivial | refine And.intro ?_ ?_ | exact AVle.int (by simp only [IntKind.wrap_i64]; omega))
    rintro γ2 ⟨j, pt2⟩ ⟨hle2, hf2⟩ ⟨hj, hpt2, htT2, hall⟩
    simp only at hj hpt2 htT2 hf2 hall
    generalize hQ2 : kIt _ _ _ _ _ = Q2
    unfold ir_clavierlaw05HostTells_l0
    have hbl : (noEsc ahead ++ toldB (l.take j)).length ≤ 50000 := by
      have := toldB_len (l := l.take j) fun s hs => putB_len (hall s hs).1
      rw [List.length_take] at this
      rw [List.length_append]; omega
    by_cases hlt2 : j < l.length
    · have hd2 : decide ((j : Int) < (l.length : Int)) = true := by simp; omega
      have hg2 : (sqsAV l).getD j [] = l[j].c := sqsAV_get hlt2
      have hw2 : IntKind.i64.wrap ((j : Int) + 1) = ((j + 1 : Nat) : Int) := by rw [IntKind.wrap_i64]; omega
      have htk : l.take (j + 1) = l.take j ++ [l[j]] := by rw [List.take_add_one, List.getElem?_eq_getElem hlt2]; rfl
      have hso := hok _ (List.getElem_mem hlt2)
      generalize l[j] = s at hg2 htk hso
      have c1 := fs_great hst hso.sm
      have c2 := fs_rPut hst hso.pr.1 hso.pr.2 hso.fi.1 hso.fi.2 hso.sm
      have hgr : greatP s = s.ps.any fun p => p.any bigN := rfl
      have hpv : putV s = if (mayP s != 0) = true then .nils else .sl none 1 (bytesAV (putB s)) := rfl
      have hpl : mayP s = 0 → (putB s).length ≤ 8000 := putB_len
      have hrn : ∀ f, Ab.rn f (putV s) = putV s := fun f => by unfold putV; split <;> rfl
      have hmo : mayP s = 0 → ∀ p ∈ s.ps, ∀ n ∈ p, -1 ≤ n := fun hz p hp n hn => (((parsOk_iff (may_pars hz)).2.2 p hp).2.2 n hn).1
      have hnew : toldB (l.take (j + 1)) = toldB (l.take j) ++ (putB s ++ [120]) := by simp [htk, toldB]
      obtain ⟨k, pr, ps, it, fi, da⟩ := s
      generalize putV _ = pvv at *
      generalize putB _ = pb at *
      simp only [Sq.c, parsV] at hg2 c1 c2
      simp +contextual (maxSteps := 1000000) only [hd2, hg2, sqsAV_length, Int.toNat_natCast, parsAV_length, go_sem, reduceCtorEq, ↓reduceIte, Nat.reduceAdd, Nat.reduceEqDiff, Nat.reduceLeDiff, Nat.reduceMul, Nat.reduceBEq, Int.reduceBEq, Int.reduceBNe, Int.reduceLT, Int.reduceLE, Int.reduceGT, Int.reduceGE, Int.reduceToNat, Int.natCast_one, Int.natCast_zero, Int.cast_ofNat_Int]
      refine ⟨by omega, fun _ => by omega, fun _ => by omega, fun _ => by omega, ?_⟩
      (refine kGc_call (c1) (fun _ => rfl) (fun hgc => ?_) ?_; (focus (first | (rw [Bool.not_eq_true'] at hgc; simp only [List.map_cons, List.map_nil, List.nil_append, List.append_nil, List.cons_append, Xev_t, Xev_c, upd_app, lf_cons, lf_nil, Nat.reduceEqDiff, ↓reduceIte, hgc, Bool.false_eq_true, Bool.true_eq_false, reduceCtorEq]; done) | (simp only [List.map_cons, List.map_nil, List.nil_append, List.append_nil, List.cons_append, Xev_t, Xev_c, upd_app, lf_cons, lf_nil, Nat.reduceEqDiff, ↓reduceIte, hgc, Bool.false_eq_true, Bool.true_eq_false, reduceCtorEq]; done) | (revert hgc; simp +contextual [Xev_t, Xev_c, upd_app, lf_cons, lf_nil]; done) | simp [Xev_t, Xev_c, upd_app, lf_cons, lf_nil])); simp +contextual (maxSteps := 1000000) only [go_sem, reduceCtorEq, ↓reduceIte, Nat.reduceAdd, Nat.reduceEqDiff, Nat.reduceLeDiff, Nat.reduceMul, Nat.reduceBEq, Int.reduceBEq, Int.reduceBNe, Int.reduceLT, Int.reduceLE, Int.reduceGT, Int.reduceGE, Int.reduceToNat, Int.natCast_one, Int.natCast_zero, Int.cast_ofNat_Int])
      refine kCond_split (fun h => ?_) (fun h => ?_)
      · simp +contextual (maxSteps := 1000000) only [go_sem, reduceCtorEq, ↓reduceIte, Nat.reduceAdd, Nat.reduceEqDiff, Nat.reduceLeDiff, Nat.reduceMul, Nat.reduceBEq, Int.reduceBEq, Int.reduceBNe, Int.reduceLT, Int.reduceLE, Int.reduceGT, Int.reduceGE, Int.reduceToNat, Int.natCast_one, Int.natCast_zero, Int.cast_ofNat_Int]
        rw [← hQ2]
        simp only [w_kIt_r, w_kBlk_r, w_kSeq_r]
        exact hret _ _ _ _ _ rfl
      simp +contextual (maxSteps := 1000000) only [hg2, sqsAV_length, Int.toNat_natCast, go_sem, reduceCtorEq, ↓reduceIte, Nat.reduceAdd, Nat.reduceEqDiff, Nat.reduceLeDiff, Nat.reduceMul, Nat.reduceBEq, Int.reduceBEq, Int.reduceBNe, Int.reduceLT, Int.reduceLE, Int.reduceGT, Int.reduceGE, Int.reduceToNat, Int.natCast_one, Int.natCast_zero, Int.cast_ofNat_Int]
      refine ⟨by omega, CallP.pure c2 (fun f => by simp only [Ab.rn, rnL, hrn]) ?_⟩
      simp +contextual (maxSteps := 1000000) only [go_sem, reduceCtorEq, ↓reduceIte, Nat.reduceAdd, Nat.reduceEqDiff, Nat.reduceLeDiff, Nat.reduceMul, Nat.reduceBEq, Int.reduceBEq, Int.reduceBNe, Int.reduceLT, Int.reduceLE, Int.reduceGT, Int.reduceGE, Int.reduceToNat, Int.natCast_one, Int.natCast_zero, Int.cast_ofNat_Int]
      refine kCond_split (fun he => ?_) (fun he => ?_)
      · simp +contextual (maxSteps := 1000000) only [go_sem, reduceCtorEq, ↓reduceIte, Nat.reduceAdd, Nat.reduceEqDiff, Nat.reduceLeDiff, Nat.reduceMul, Nat.reduceBEq, Int.reduceBEq, Int.reduceBNe, Int.reduceLT, Int.reduceLE, Int.reduceGT, Int.reduceGE, Int.reduceToNat, Int.natCast_one, Int.natCast_zero, Int.cast_ofNat_Int]
        rw [← hQ2]
        simp only [w_kIt_r, w_kBlk_r, w_kSeq_r]
        exact hret _ _ _ _ _ rfl
      have he0 : mayP ⟨k, pr, ps, it, fi, da⟩ = 0 := by simpa using he
      rw [if_neg (by rw [he]; exact Bool.false_ne_true)] at hpv
      have hpl := hpl he0
      have hstep : ∀ t ∈ l.take (j + 1), mayP t = 0 ∧ t.k ≠ 2 ∧ ∀ p ∈ t.ps, ∀ n ∈ p, n ≤ 65535 := by
        rw [htk]
        intro t ht
        rcases List.mem_append.1 ht with ht | ht
        · exact hall t ht
        · simp only [List.mem_singleton] at ht
          subst ht
          simp only [Bool.or_eq_false_iff, beq_eq_false_iff_ne] at h
          refine ⟨he0, h.1.1.1, fun p hp n hn => ?_⟩
          have h4 := h.2
          rw [hgr] at h4
          have h5 := List.any_eq_false.1 h4 p hp
          simp only [List.any_eq_true, not_exists, not_and] at h5
          have := h5 n hn
          simp only [bigN, decide_eq_true_eq] at this
          omega
      clear c1 c2 he h
      have hap : ∀ b : List UInt8, bytesAV b ++ [[AV.int .u8 120]] = bytesAV (b ++ [120]) := fun b => by simp [bytesAV]
      have hap2 : ∀ b b' : List UInt8, bytesAV b ++ bytesAV b' = bytesAV (b ++ b') := fun b b' => by simp [bytesAV]
      have hbig : (noEsc ahead ++ toldB (l.take j)).length + pb.length + 10 ≤ 140737488355328 := by omega
      have hfin : noEsc ahead ++ toldB (l.take j) ++ pb ++ [120] = noEsc ahead ++ toldB (l.take (j + 1)) := by rw [hnew]; simp
      cases pt2 with
      | none =>
        have hp0 := hpt2 rfl
        rw [hp0, List.nil_append] at hfin
        rw [hp0]
        rw [hpv]
        have hone : ((pb.length + 1) * 1 ≤ 140737488355328) = True := by simp; omega
        have htwo : (pb.length * 1 ≤ 140737488355328) = True := by simp; omega
        simp +contextual (maxSteps := 1000000) only [hap, bytesAV_len, hone, htwo, hw2, go_sem, reduceCtorEq, ↓reduceIte, Nat.reduceAdd, Nat.reduceEqDiff, Nat.reduceLeDiff, Nat.reduceMul, Nat.reduceBEq, Int.reduceBEq, Int.reduceBNe, Int.reduceLT, Int.reduceLE, Int.reduceGT, Int.reduceGE, Int.reduceToNat, Int.natCast_one, Int.natCast_zero, Int.cast_ofNat_Int]
        refine ⟨.inl trivial, ?_⟩
        rw [← hQ2]
        simp only [w_kIt_n]
        refine ⟨0, (j + 1, some (γ2, 53, 0)), Wk.perm' ?_ (by simp) (fun t h => ?_), ⟨by simp only; omega, fun h => by simp at h, fun t h => ?_, hstep⟩, by simp only; omega⟩
        · simp only [← hfin]
          repeat' first | exact AVle.refl _ _ | exact trivial | refine And.intro ?_ ?_ | exact AVle.int (by simp only [IntKind.wrap_i64]; omega)
        · simp only [Option.toList_some, List.mem_singleton] at h
          exact .inl h
        · simp only [Option.toList_some, List.mem_singleton] at h
          subst h; simp only; omega
      | some p =>
        have hl3 : (noEsc ahead ++ toldB (l.take j) ++ pb).length = (noEsc ahead ++ toldB (l.take j)).length + pb.length := List.length_append
        have hone : (((noEsc ahead ++ toldB (l.take j) ++ pb).length + 1) * 1 ≤ 140737488355328) = True := by simp only [eq_iff_iff, iff_true]; omega
        have htwo : (((noEsc ahead ++ toldB (l.take j)).length + pb.length) * 1 ≤ 140737488355328) = True := by simp only [eq_iff_iff, iff_true]; omega
        rw [hpv]
        simp +contextual (maxSteps := 1000000) only [hap, hap2, bytesAV_len, hone, htwo, hw2, Option.toList_some, go_sem, reduceCtorEq, ↓reduceIte, Nat.reduceAdd, Nat.reduceEqDiff, Nat.reduceLeDiff, Nat.reduceMul, Nat.reduceBEq, Int.reduceBEq, Int.reduceBNe, Int.reduceLT, Int.reduceLE, Int.reduceGT, Int.reduceGE, Int.reduceToNat, Int.natCast_one, Int.natCast_zero, Int.cast_ofNat_Int]
        refine ⟨.inl trivial, ?_⟩
        rw [← hQ2]
        simp only [w_kIt_n]
        refine ⟨0, (j + 1, some (γ2, 53, 0)), Wk.perm' ?_ (by simp) (fun t h => ?_), ⟨by simp only; omega, fun h => by simp at h, fun t h => ?_, hstep⟩, by simp only; omega⟩
        · simp only [← hfin]
          repeat' first | exact AVle.refl _ _ | exact trivial | refine And.intro ?_ ?_ | exact AVle.int (by simp only [IntKind.wrap_i64]; omega)
        · simp only [Option.toList_some, List.mem_singleton] at h
          exact .inl h
        · simp only [Option.toList_some, List.mem_singleton] at h
          subst h; simp only; omega
    · have hd2 : decide ((j : Int) < (l.length : Int)) = false := by simp; omega
      have hA : l.take j = l := List.take_of_length_le (by omega)
      rw [hA] at hpt2 hbl hall ⊢
      simp +contextual (maxSteps := 1000000) only [hd2, sqsAV_length, go_sem, reduceCtorEq, ↓reduceIte, Nat.reduceAdd, Nat.reduceEqDiff, Nat.reduceLeDiff, Nat.reduceMul, Nat.reduceBEq, Int.reduceBEq, Int.reduceBNe, Int.reduceLT, Int.reduceLE, Int.reduceGT, Int.reduceGE, Int.reduceToNat, Int.natCast_one, Int.natCast_zero, Int.cast_ofNat_Int]
      rw [← hQ2]
      simp only [w_kIt_e, w_kBlk_e, ↓reduceIte]
      simp +contextual (maxSteps := 1000000) only [go_sem, reduceCtorEq, ↓reduceIte, Nat.reduceAdd, Nat.reduceEqDiff, Nat.reduceLeDiff, Nat.reduceMul, Nat.reduceBEq, Int.reduceBEq, Int.reduceBNe, Int.reduceLT, Int.reduceLE, Int.reduceGT, Int.reduceGE, Int.reduceToNat, Int.natCast_one, Int.natCast_zero, Int.cast_ofNat_Int]
      unfold ir_clavierlaw05HostTells_t6
      simp +contextual (maxSteps := 1000000) only [go_sem, reduceCtorEq, ↓reduceIte, Nat.reduceAdd, Nat.reduceEqDiff, Nat.reduceLeDiff, Nat.reduceMul, Nat.reduceBEq, Int.reduceBEq, Int.reduceBNe, Int.reduceLT, Int.reduceLE, Int.reduceGT, Int.reduceGE, Int.reduceToNat, Int.natCast_one, Int.natCast_zero, Int.cast_ofNat_Int]
      refine New.call hst ?_
      simp +contextual (maxSteps := 1000000) only [go_sem, reduceCtorEq, ↓reduceIte, Nat.reduceAdd, Nat.reduceEqDiff, Nat.reduceLeDiff, Nat.reduceMul, Nat.reduceBEq, Int.reduceBEq, Int.reduceBNe, Int.reduceLT, Int.reduceLE, Int.reduceGT, Int.reduceGE, Int.reduceToNat, Int.natCast_one, Int.natCast_zero, Int.cast_ofNat_Int]
      unfold ir_clavierlaw05HostTells_t7
      simp +contextual (maxSteps := 1000000) only [go_sem, reduceCtorEq, ↓reduceIte, Nat.reduceAdd, Nat.reduceEqDiff, Nat.reduceLeDiff, Nat.reduceMul, Nat.reduceBEq, Int.reduceBEq, Int.reduceBNe, Int.reduceLT, Int.reduceLE, Int.reduceGT, Int.reduceGE, Int.reduceToNat, Int.natCast_one, Int.natCast_zero, Int.cast_ofNat_Int]
      refine CallP.args (Feed.call hst (s := Ps.new) (t0 := none) (b := noEsc ahead ++ toldB l) (by omega) Ps.new_ok (by simp) (by omega) (by simp [Ps.new_toks]) (by simp [Ps.new_toks]) 0 Pp.w.zero (by omega) fun ps po h1 h2 h3 h4 h5 h6 => ?_) ⟨RepLe.refl _, svb_le hpt2, trivial⟩
      have hE : Ps.new.x.puts (noEsc ahead ++ toldB l) = Pp.E l := by
        rw [Pp.puts_app, show Ps.new.x = Pp.E [] from rfl, E_text fun c hc => by simpa [noEsc] using (List.mem_filter.1 hc).2, told_all l [] hall, List.nil_append]
      rw [hE] at h1 h4 ⊢
      have hEo : (Pp.E l).ou = l := rfl
      rw [hEo] at h4 ⊢
      have hsm : ∀ s ∈ l, s.sm := fun s hs => (hok s hs).sm
      simp +contextual (maxSteps := 1000000) only [go_sem, reduceCtorEq, ↓reduceIte, Nat.reduceAdd, Nat.reduceEqDiff, Nat.reduceLeDiff, Nat.reduceMul, Nat.reduceBEq, Int.reduceBEq, Int.reduceBNe, Int.reduceLT, Int.reduceLE, Int.reduceGT, Int.reduceGE, Int.reduceToNat, Int.natCast_one, Int.natCast_zero, Int.cast_ofNat_Int]
      refine CallP.pure (FS.args (fs_Sames hst (by omega) (by omega) hsm hsm) ⟨sv_le h4, RepLe.refl _, trivial⟩) (fun _ => rfl) ?_
      have e1 : decide (l = l) = true := by simp
      simp +contextual (maxSteps := 1000000) only [e1, go_sem, reduceCtorEq, ↓reduceIte, Nat.reduceAdd, Nat.reduceEqDiff, Nat.reduceLeDiff, Nat.reduceMul, Nat.reduceBEq, Int.reduceBEq, Int.reduceBNe, Int.reduceLT, Int.reduceLE, Int.reduceGT, Int.reduceGE, Int.reduceToNat, Int.natCast_one, Int.natCast_zero, Int.cast_ofNat_Int]
      have hpt : ∀ t ∈ ps.toks, 1 ≤ t.1 ∧ t.2.1 = 10 := fun t h => ⟨(h6 t (by simp [h])).1, by
        have := (h6 t (by simp [h])).2; simp only [Ps.new_toks, List.not_mem_nil, false_or] at this; exact this.2⟩
      refine Idle.call hst (s := ps) (by omega) h2 (by simp) (by omega) (fun t h => .inl (by simp [h])) (fun t h => ⟨(hpt t h).1, fun j e => ?_⟩) fun p' a1 a2 a3 => ?_
      · have := (hpt t h).2; rw [e] at this; simp at this
      have e2 : ps.x.nx.isNone = true := by rw [h1]; rfl
      rw [e2]
      simp +contextual (maxSteps := 1000000) only [go_sem, reduceCtorEq, ↓reduceIte, Nat.reduceAdd, Nat.reduceEqDiff, Nat.reduceLeDiff, Nat.reduceMul, Nat.reduceBEq, Int.reduceBEq, Int.reduceBNe, Int.reduceLT, Int.reduceLE, Int.reduceGT, Int.reduceGE, Int.reduceToNat, Int.natCast_one, Int.natCast_zero, Int.cast_ofNat_Int]
      exact hret _ _ _ _ _ rfl
end Go.Proofs.YtgdgfefojfgpaaaDoor

/- The seat's facts that all rows want; arguments opened. -/
set_option linter.unusedVariables false
set_option linter.unusedSimpArgs false
set_option maxRecDepth 100000
namespace Go.Proofs.YtgdgfefojfgpaaaDoor
open Go Go.Ab Go.WideShapes Go.RowKit
theorem seat_own : ownKnob Tryd.prog.godebug = none := by kernel_rfl
theorem seat_laidOut : laidOutB Tryd.prog = true := by kernel_rfl
section
variable {H : Type} {enc : TypeId × Value → H} {W : World} {base : Nat} {v : Value} {d : DataW H} {p : List MemPlace}
theorem tr_bytes : TR enc Tryd.prog W 22 fun xs => ∃ l : List UInt8, xs = [.sl none 1 (bytesAV l)] ∧ l.length ≤ maxLen := by
  refine (TR.slice (e := 5) (sz := 1) (by kernel_rfl) (by kernel_rfl) (by omega) (TR.int (k := .u8) (by kernel_rfl))).mono ?_
  rintro xs ⟨rows, rfl, h1, h2⟩
  obtain ⟨l, rfl⟩ := bytesAV_of fun r hr => (h2 r hr).1
  exact ⟨l, rfl, by rwa [bytesAV_length] at h1⟩
theorem op_bytes (hv : Value.okWide Tryd.prog W .any base 22 v) (hd : DataW.Trod enc Tryd.prog W 0 (fun _ => true) true 22 v d p) : ∃ l : List UInt8, l.length ≤ maxLen ∧ Rep (gh0 W) (.sl none 1 (bytesAV l)) v := by
  obtain ⟨a, len, cap, rfl⟩ := okWide_slice (P := Tryd.prog) (e := 5) (by kernel_rfl) hv
  obtain ⟨x, ⟨l, h1, h2⟩, hr⟩ := tr_bytes.arg1 rfl hd
  simp only [List.cons.injEq, and_true] at h1
  subst h1
  exact ⟨l, h2, hr⟩
theorem u8_of {n : Int} (h1 : IntKind.u8.min ≤ n) (h2 : n ≤ IntKind.u8.max) : ∃ c : UInt8, (c.toNat : Int) = n := by
  have h1' : 0 ≤ n := by simpa [IntKind.min, IntKind.signed] using h1
  have h2' : n ≤ 255 := by simpa [IntKind.max, IntKind.signed, IntKind.bits] using h2
  refine ⟨UInt8.ofNat n.toNat, ?_⟩
  rw [UInt8.toNat_ofNat', Nat.mod_eq_of_lt (by omega)]; omega
theorem op_u8 (hv : Value.okWide Tryd.prog W .any base 5 v) (hd : DataW.Trod enc Tryd.prog W 0 (fun _ => true) true 5 v d p) : ∃ c : UInt8, True ∧ Rep (gh0 W) (.int .u8 (c.toNat : Int)) v := by
  obtain ⟨n, rfl⟩ := okWide_int (P := Tryd.prog) (k := .u8) (by kernel_rfl) hv
  obtain ⟨x, ⟨m, h1, h2, h3⟩, hr⟩ := (TR.int (P := Tryd.prog) (k := .u8) (by kernel_rfl)).arg1 rfl hd
  simp only [List.cons.injEq, and_true] at h1
  subst h1
  obtain ⟨c, rfl⟩ := u8_of h2 h3
  exact ⟨c, trivial, hr⟩
theorem op_int (hv : Value.okWide Tryd.prog W .any base 3 v) (hd : DataW.Trod enc Tryd.prog W 0 (fun _ => true) true 3 v d p) : ∃ n : Int, (-9223372036854775808 ≤ n ∧ n ≤ 9223372036854775807) ∧ Rep (gh0 W) (.int .i64 n) v := by
  obtain ⟨n, rfl⟩ := okWide_int (P := Tryd.prog) (k := .i64) (by kernel_rfl) hv
  obtain ⟨x, ⟨m, h1, h2, h3⟩, hr⟩ := (TR.int (P := Tryd.prog) (k := .i64) (by kernel_rfl)).arg1 rfl hd
  simp only [List.cons.injEq, and_true] at h1
  subst h1
  exact ⟨m, ⟨by simpa [IntKind.min, IntKind.signed, IntKind.bits] using h2, by simpa [IntKind.max, IntKind.signed, IntKind.bits] using h3⟩, hr⟩
theorem op_bool (hv : Value.okWide Tryd.prog W .any base 4 v) (hd : DataW.Trod enc Tryd.prog W 0 (fun _ => true) true 4 v d p) : ∃ b : Bool, True ∧ Rep (gh0 W) (.bool b) v := by
  obtain ⟨b, rfl⟩ := okWide_bool (P := Tryd.prog) (by kernel_rfl) hv
  obtain ⟨x, ⟨c, h1⟩, hr⟩ := (TR.bool (P := Tryd.prog) (by kernel_rfl)).arg1 rfl hd
  simp only [List.cons.injEq, and_true] at h1
  subst h1
  exact ⟨c, trivial, hr⟩
end
end Go.Proofs.YtgdgfefojfgpaaaDoor

/- Arguments that are sequences, opened. -/
set_option linter.unusedVariables false
set_option linter.unusedSimpArgs false
set_option maxRecDepth 100000
namespace Go.Proofs.YtgdgfefojfgpaaaDoor
open Go Go.Ab Go.WideShapes Go.RowKit
section
variable {H : Type} {enc : TypeId × Value → H} {W : World} {base : Nat} {v : Value} {d : DataW H} {p : List MemPlace}
theorem ints_of : ∀ {rows : List (List AV)}, (∀ r ∈ rows, ∃ n : Int, r = [.int .i64 n] ∧ IntKind.i64.min ≤ n ∧ n ≤ IntKind.i64.max) → ∃ l : List Int, rows = intsAV l
  | [], _ => ⟨[], rfl⟩
  | r :: rows, h => by
    obtain ⟨n, rfl, _⟩ := h r List.mem_cons_self
    obtain ⟨l, rfl⟩ := ints_of (rows := rows) fun r hr => h r (List.mem_cons_of_mem _ hr)
    exact ⟨n :: l, rfl⟩
theorem tr_ints : TR enc Tryd.prog W 39 fun xs => ∃ l : List Int, xs = [intsV l] ∧ l.length ≤ maxLen := by
  refine (TR.slice (e := 3) (sz := 1) (by kernel_rfl) (by kernel_rfl) (by omega) (TR.int (k := .i64) (by kernel_rfl))).mono ?_
  rintro xs ⟨rows, rfl, h1, h2⟩
  obtain ⟨l, rfl⟩ := ints_of fun r hr => (h2 r hr).1
  exact ⟨l, rfl, by rwa [intsAV_length] at h1⟩
theorem pars_of : ∀ {rows : List (List AV)}, (∀ r ∈ rows, ∃ l : List Int, r = [intsV l] ∧ l.length ≤ maxLen) → ∃ l : List (List Int), rows = parsAV l ∧ ∀ p ∈ l, p.length ≤ maxLen
  | [], _ => ⟨[], rfl, by simp⟩
  | r :: rows, h => by
    obtain ⟨n, rfl, h1⟩ := h r List.mem_cons_self
    obtain ⟨l, rfl, h2⟩ := pars_of (rows := rows) fun r hr => h r (List.mem_cons_of_mem _ hr)
    exact ⟨n :: l, rfl, fun p hp => (List.mem_cons.1 hp).elim (fun e => by rw [e]; exact h1) (h2 p)⟩
theorem tr_pars : TR enc Tryd.prog W 30 fun xs => ∃ l : List (List Int), xs = [parsV l] ∧ l.length ≤ maxLen ∧ ∀ p ∈ l, p.length ≤ maxLen := by
  refine (TR.slice (e := 39) (sz := 1) (by kernel_rfl) (by kernel_rfl) (by omega) tr_ints).mono ?_
  rintro xs ⟨rows, rfl, h1, h2⟩
  obtain ⟨l, rfl, h3⟩ := pars_of fun r hr => (h2 r hr).1
  exact ⟨l, rfl, by rwa [parsAV_length] at h1, h3⟩
theorem u8r {n : Int} (h : IntKind.u8.min ≤ n ∧ n ≤ IntKind.u8.max) : 0 ≤ n ∧ n < 256 := by
  have h1' : 0 ≤ n := by simpa [IntKind.min, IntKind.signed] using h.1
  have h2' : n ≤ 255 := by simpa [IntKind.max, IntKind.signed, IntKind.bits] using h.2
  omega
theorem seq_is : structIs Tryd.prog 32 [(0, 3), (1, 5), (2, 30), (3, 9), (4, 5), (5, 9)] = true := by kernel_rfl
theorem tr_Seq : TR enc Tryd.prog W 32 fun xs => ∃ s : Sq, xs = s.c ∧ s.ok := by
  refine (TR.structL (Rs := [fun xs => ∃ n, xs = [.int .i64 n] ∧ IntKind.i64.min ≤ n ∧ n ≤ IntKind.i64.max, fun xs => ∃ n, xs = [.int .u8 n] ∧ IntKind.u8.min ≤ n ∧ n ≤ IntKind.u8.max, fun xs => ∃ l : List (List Int), xs = [parsV l] ∧ l.length ≤ maxLen ∧ ∀ p ∈ l, p.length ≤ maxLen, fun xs => ∃ s, xs = [.str s] ∧ s.length ≤ maxLen, fun xs => ∃ n, xs = [.int .u8 n] ∧ IntKind.u8.min ≤ n ∧ n ≤ IntKind.u8.max, fun xs => ∃ s, xs = [.str s] ∧ s.length ≤ maxLen]) 6 seq_is (by kernel_rfl) ?_).mono ?_
  · exact ⟨rfl, TR.int (by kernel_rfl), 1, by kernel_rfl, rfl, TR.int (by kernel_rfl), 1, by kernel_rfl, rfl, tr_pars, 1, by kernel_rfl, rfl, TR.str (by kernel_rfl), 1, by kernel_rfl, rfl, TR.int (by kernel_rfl), 1, by kernel_rfl, rfl, TR.str (by kernel_rfl), 1, by kernel_rfl, rfl⟩
  · rintro xs ⟨_, _, ⟨k, rfl, _⟩, ⟨_, _, ⟨pr, rfl, hpr⟩, ⟨_, _, ⟨ps, rfl, hp1, hp2⟩, ⟨_, _, ⟨it, rfl, hi⟩, ⟨_, _, ⟨fi, rfl, hfi⟩, ⟨_, _, ⟨da, rfl, hd⟩, h, rfl⟩, rfl⟩, rfl⟩, rfl⟩, rfl⟩, rfl⟩
    have h : _ = [] := h
    subst h
    simp only [maxLen] at hp1 hp2 hi hd
    exact ⟨⟨k, pr, ps, it, fi, da⟩, rfl, ⟨⟨by simp only; omega, fun p hp => by have := hp2 p hp; omega, by simp only; omega, by simp only; omega⟩, u8r hpr, u8r hfi⟩⟩
theorem sqs_of : ∀ {rows : List (List AV)}, (∀ r ∈ rows, ∃ s : Sq, r = s.c ∧ s.ok) → ∃ l : List Sq, rows = sqsAV l ∧ ∀ s ∈ l, s.ok
  | [], _ => ⟨[], rfl, by simp⟩
  | r :: rows, h => by
    obtain ⟨n, rfl, h1⟩ := h r List.mem_cons_self
    obtain ⟨l, rfl, h2⟩ := sqs_of (rows := rows) fun r hr => h r (List.mem_cons_of_mem _ hr)
    exact ⟨n :: l, rfl, fun p hp => (List.mem_cons.1 hp).elim (fun e => by rw [e]; exact h1) (h2 p)⟩
theorem op_apiSeq (hv : Value.okWide Tryd.prog W .any base 32 v) (hd : DataW.Trod enc Tryd.prog W 0 (fun _ => true) true 32 v d p) : ∃ s : Sq, s.ok ∧ Rep (gh0 W) (.agg s.c) v := by
  obtain ⟨cs, rfl⟩ := okWide_struct seq_is hv
  obtain ⟨xs, ⟨s, rfl, h⟩, hr⟩ := tr_Seq.argN hd
  exact ⟨s, h, hr⟩
theorem op_apiSeqs (hv : Value.okWide Tryd.prog W .any base 26 v) (hd : DataW.Trod enc Tryd.prog W 0 (fun _ => true) true 26 v d p) : ∃ l : List Sq, (l.length ≤ maxLen ∧ ∀ s ∈ l, s.ok) ∧ Rep (gh0 W) (.sl none 6 (sqsAV l)) v := by
  obtain ⟨a, len, cap, rfl⟩ := okWide_slice (P := Tryd.prog) (e := 32) (by kernel_rfl) hv
  obtain ⟨x, ⟨rows, h1, h2, h3⟩, hr⟩ := (TR.slice (e := 32) (sz := 6) (by kernel_rfl) (by kernel_rfl) (by omega) tr_Seq).arg1 rfl hd
  simp only [List.cons.injEq, and_true] at h1
  subst h1
  obtain ⟨l, rfl, h4⟩ := sqs_of fun r hr => (h3 r hr).1
  exact ⟨l, ⟨by rwa [sqsAV_length] at h2, h4⟩, hr⟩
end
end Go.Proofs.YtgdgfefojfgpaaaDoor

