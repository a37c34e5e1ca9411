/- The parser of layer 5: what was begun is told. -/
import Derived.Test.YtgdgfefojfgpaaaDoorB2
set_option linter.unusedVariables false
set_option linter.unusedSimpArgs false
set_option maxRecDepth 100000
namespace Go.Proofs.YtgdgfefojfgpaaaDoor
open Go Go.Ab
/- (*clavier/host.Parser).tell -/
def ir_hostParsertell_b0 : ICode :=
 (.blk 1
           (.drw [⟨⟨some 25, none, .fa 2 (.t 2)⟩, []⟩,
             ⟨⟨some 26, none, .ld none (.t 25)⟩, [0]⟩,
             ⟨⟨some 27, none, .mov (.t 4)⟩, []⟩,
             ⟨⟨some 28, none, .call (.c (.fn (.func 32) [] [])) [(.t 27)]⟩, [2]⟩,
             ⟨⟨some 29, none, .row 39 1 [(.t 28)]⟩, [3]⟩,
             ⟨⟨some 30, none, .app 39 1 24 (.t 26) (.t 29)⟩, [1, 4, 3]⟩]
             [⟨some 31, none, .fa 2 (.t 2)⟩,
             ⟨none, none, .st 1 (.t 31) (.t 30)⟩] (some [])))
def ir_hostParsertell_t3 : ICode :=
 (.seq
  (.seq
      (.reg [⟨some 32, none, .mov (.t 0)⟩,
        ⟨some 33, none, .nck (.t 32)⟩,
        ⟨some 34, none, .fa 10 (.t 33)⟩,
        ⟨some 35, none, .ld none (.t 34)⟩,
        ⟨some 36, none, .un .not (.t 35)⟩,
        ⟨some 37, none, .mov (.t 36)⟩,
        ⟨some 38, some (37, true), .ld (some 6) (.t 2)⟩,
        ⟨some 39, some (37, true), .call (.c (.fn (.func 33) [] [])) [(.t 38)]⟩,
        ⟨some 40, some (37, true), .bin .eql .none (.t 39) (.c (.int .i64 0))⟩,
        ⟨some 41, none, .pick (.t 37) (.t 40) (.c (.bool false))⟩] (some [0, 2, 41]))
      (.cond (.t 41)
       (.drw [⟨⟨some 42, none, .mov (.t 0)⟩, []⟩,
         ⟨⟨some 43, none, .mov (.t 0)⟩, []⟩,
         ⟨⟨some 44, none, .nck (.t 43)⟩, [1]⟩,
         ⟨⟨some 45, none, .fa 12 (.t 44)⟩, [2]⟩,
         ⟨⟨some 46, none, .ld none (.t 45)⟩, [3]⟩,
         ⟨⟨some 47, none, .ld (some 6) (.t 2)⟩, []⟩,
         ⟨⟨some 48, none, .row 32 6 [(.t 47)]⟩, [5]⟩,
         ⟨⟨some 49, none, .app 32 6 80 (.t 46) (.t 48)⟩, [4, 6]⟩]
         [⟨some 50, none, .nck (.t 42)⟩,
         ⟨some 51, none, .fa 12 (.t 50)⟩,
         ⟨none, none, .st 1 (.t 51) (.t 49)⟩] (some [0]))
       .skip))
  (.reg [⟨some 52, none, .mov (.t 0)⟩,
       ⟨some 53, none, .call (.c (.fn (.func 18) [] [])) [(.t 52)]⟩] (some [])))
def ir_hostParsertell_t2 : ICode :=
 (.seq
  (.seq
     (.reg [⟨some 15, none, .mov (.t 0)⟩,
       ⟨some 16, none, .nck (.t 15)⟩,
       ⟨some 17, none, .fa 7 (.t 16)⟩,
       ⟨some 18, none, .ld none (.t 17)⟩,
       ⟨some 19, none, .b2s (.t 18)⟩,
       ⟨some 3, none, .mov (.t 19)⟩] (some [0, 2, 3]))
     (.seq
      (.reg [⟨some 20, none, .mov (.t 3)⟩,
        ⟨some 21, none, .bin .neq .none (.t 20) (.c (.str []))⟩] (some [0, 2, 3, 21]))
      (.cond (.t 21)
       (.seq
        (.reg [⟨some 22, none, .mov (.t 3)⟩,
          ⟨some 23, none, .call (.c (.fn (.func 31) [] [])) [(.t 22), (.c (.str [59]))]⟩] (some [0, 2, 23]))
        (.blk 0
         (.rgf (.t 23) [24]
          (.reg [⟨some 4, none, .mov (.t 24)⟩] (some [2, 4]))
          ir_hostParsertell_b0)))
       .skip)))
  ir_hostParsertell_t3)
def ir_hostParsertell_t1 : ICode :=
 (.seq
  (.reg [⟨some 9, none, .mov (.t 0)⟩,
     ⟨some 10, none, .nck (.t 9)⟩,
     ⟨some 11, none, .fa 8 (.t 10)⟩,
     ⟨some 12, none, .ld none (.t 11)⟩,
     ⟨some 13, none, .b2s (.t 12)⟩,
     ⟨some 14, none, .fa 5 (.t 2)⟩,
     ⟨none, none, .st 1 (.t 14) (.t 13)⟩] (some [0, 2]))
  ir_hostParsertell_t2)
def ir_hostParsertell : ICode :=
 (.seq
  (.reg [⟨some 5, none, .mov (.t 0)⟩,
    ⟨some 6, none, .nck (.t 5)⟩,
    ⟨some 7, none, .fa 1 (.t 6)⟩,
    ⟨some 8, none, .ld (some 6) (.t 7)⟩,
    ⟨some 2, none, .box 32 (.c (.agg [(.int .i64 0), (.int .u8 0), .nils, (.str []), (.int .u8 0), (.str [])]))⟩,
    ⟨none, none, .st 6 (.t 2) (.t 8)⟩] (some [0, 2]))
  ir_hostParsertell_t1)
theorem is_hostParsertell : IrOf Tryd.prog 27 54 ir_hostParsertell [] := ⟨_, Tryd.func27, rfl, by kernel_rfl, by kernel_rfl, by kernel_rfl⟩


/-- What was begun. -/
def Pp.seq (x : Pp) : Sq := ⟨x.k, x.pr, if x.tx = [] then [] else (splitB 59 x.tx).map hostParts, x.it, x.fi, x.da⟩
def Pp.tell (x : Pp) : Pp := { Pp.zero with ou := if x.b = false ∧ mayP x.seq = 0 then x.ou ++ [x.seq] else x.ou }

theorem bytes_un (l : List UInt8) : (bytesAV l).map unbyte = l := by
  simp only [bytesAV, List.map_map]
  conv => rhs; rw [← List.map_id l]
  refine List.map_congr_left fun c _ => ?_
  exact unbyte_byte c
theorem bytes_is (l : List UInt8) : (∀ r ∈ bytesAV l, isByte r) = True := by
  simp only [bytesAV, List.mem_map, eq_iff_iff, iff_true]
  rintro r ⟨c, _, rfl⟩
  rw [isByte_c]; trivial
/-- The size of what the parser holds. -/
structure Pp.sz (x : Pp) : Prop where
  tx : x.tx.length < 4294967281
  it : x.it.length < 4611686018427387904
  da : x.da.length ≤ 4096
  fi : 0 ≤ x.fi ∧ x.fi < 128
  ou : x.ou.length < 1000000000000

/-- A state with a new name for what it tells. -/
theorem Ps.newo {s : Ps} (hok : s.ok) {n : Nm} (hn : n ∉ s.toks) (x' : Pp) (h1 : x'.tx = s.x.tx) (h2 : x'.da = s.x.da) : (⟨x', s.tt, s.dt, some n⟩ : Ps).ok ∧ (∀ t ∈ (⟨x', s.tt, s.dt, some n⟩ : Ps).toks, (t ∈ s.toks ∧ s.ot ≠ some t) ∨ t = n) := by
  have hnd := hok.nd
  simp only [Ps.toks] at hnd hn ⊢
  obtain ⟨a1, a2, a3⟩ := List.nodup_append.1 hnd
  refine ⟨⟨List.nodup_append.2 ⟨a1, by simp, fun a ha b hb e => ?_⟩, fun h => h1.trans (hok.t h), fun h => h2.trans (hok.d h), fun h => by cases h⟩, fun t ht => ?_⟩
  · simp only [Option.toList_some, List.mem_singleton] at hb
    subst hb; subst e
    exact hn (List.mem_append.2 (.inl ha))
  · rcases List.mem_append.1 ht with ht | ht
    · exact .inl ⟨List.mem_append.2 (.inl ht), fun e => a3 t ht t (by rw [e]; simp) rfl⟩
    · simp only [Option.toList_some, List.mem_singleton] at ht
      exact .inr ht
theorem fits6 {n : Nat} (h : n < 1000000000000) : ((n + 1) * 80 ≤ 140737488355328) = True := by simp; omega
/-- The last part: it is told, if it may be; and dropped. -/
theorem aw_tell3 {Gl : Gh → Prop} (hst : Stays Gl) {p b : Nm} (hp : 1 ≤ p.1) (hbp : b ≠ p) {s : Ps} (hok : s.ok) (ht : ∀ t ∈ s.toks, 1 ≤ t.1) (hz : s.x.sz) {v : AV} (v1 : v.cells = [v]) (v2 : v.one = true) (v3 : v.strip = pv s.x.seq.ps) (v5 : RepLe v (parsV s.x.seq.ps))
    {γ c : Nat} {F : Nat → AV} {T : Tk} {Q : Ex → Nat → Nat → St → Prop} (hγ : 1 ≤ γ) (hn : ∀ t ∈ s.toks, ∀ i j, c ≤ i → t ≠ (γ, i, j)) (h0 : F 0 = .ptr p 0) (h2 : F 2 = .ptr b 0) (hT : ∀ t ∈ s.toks, T t)
    (hQ : ∀ (s' : Ps) (γ' c : Nat) (F : Nat → AV) (H : Hp), s'.x = s.x.tell → s'.ok → (p, .cells s'.c) ∈ H → (∀ t ∈ s'.toks, 1 ≤ t.1 ∧ (t ∈ s.toks ∨ t.1 = γ)) → Q .normal γ' c ⟨F, H, (· ∈ s'.toks)⟩) :
    aw Tryd.prog Gl ir_hostParsertell_t3 γ c ⟨F, [(b, .cells [.int .i64 s.x.k, .int .u8 s.x.pr, v, .str s.x.it, .int .u8 s.x.fi, .str s.x.da]), (p, .cells s.c)], T⟩ Q := by
  have hMay : FS Tryd.prog Gl 33 [.agg [.int .i64 s.x.k, .int .u8 s.x.pr, v, .str s.x.it, .int .u8 s.x.fi, .str s.x.da]] [] [] (.int .i64 (mayP s.x.seq)) [] [] := by
    refine FS.args (fs_May hst (s := s.x.seq) hz.fi.1 hz.fi.2 ?_ ?_ hz.it (Nat.lt_of_le_of_lt hz.da (by decide))) ⟨RepLe.agg ⟨.refl _, .refl _, v5, .refl _, .refl _, .refl _, trivial⟩, trivial⟩
    · simp only [Pp.seq]; split
      · simp
      · have := splitB_len (c := 59) (l := s.x.tx); have := hz.tx; simp; omega
    · intro q hq
      simp only [Pp.seq] at hq; split at hq
      · simp at hq
      · obtain ⟨w, hw, rfl⟩ := List.mem_map.1 hq
        have h1 := splitB_mem_len hw
        have h2 := splitB_len (c := 58) (l := w); have := hz.tx; simp [hostParts]; omega
  have hcall : ∀ (s1 : Ps), s1.x.ou = s.x.tell.ou → s1.ok → (∀ t ∈ s1.toks, 1 ≤ t.1 ∧ (t ∈ s.toks ∨ t.1 = γ)) → ∀ (c' : Nat) (F : Nat → AV) (T : Tk) (Hb : HB) (K : AV → Hp → Tk → Prop), (∀ t ∈ s1.toks, T t) → (∀ t ∈ s1.toks, ∀ j, t ≠ (γ, c', j)) → (∀ s' : Ps, s'.x = s.x.tell → s'.ok → (∀ t ∈ s'.toks, 1 ≤ t.1 ∧ (t ∈ s.toks ∨ t.1 = γ)) → K (.tup []) [(b, Hb), (p, .cells s'.c)] (· ∈ s'.toks)) →
      CallP Tryd.prog Gl 18 [.ptr p 0] [(b, Hb), (p, .cells s1.c)] T (fun j => (γ, c', j)) K := fun s1 e1 k1 k2 c' F T Hb K k3 k4 k5 =>
    PR.callA (Ha := [(b, Hb)]) (fs_drop hst hp k1 fun t h => (k2 t h).1) hp (fun _ => rfl) hγ k3 (fun t h => ⟨(k2 t h).1, k4 t h⟩) (by simpa using Ne.symm hbp) fun s' q1 q2 q3 => k5 s' (by rw [q1]; simp only [Pp.drop, Pp.tell, e1]) q2 fun t h => by
      refine ⟨(q3 t h).1, ?_⟩
      rcases (q3 t h).2 with h | h
      · exact (k2 t h).2
      · exact .inr h
  unfold ir_hostParsertell_t3
  simp only [Ps.c]
  simp +contextual (maxSteps := 1000000) only [hbp, (Ne.symm hbp), h0, h2, go_sem, reduceCtorEq, ↓reduceIte, Nat.reduceAdd, Nat.reduceEqDiff, Nat.reduceLeDiff, Nat.reduceMul, Nat.reduceBEq, Int.reduceBEq, Int.reduceBNe, Int.reduceLT, Int.reduceLE, Int.reduceGT, Int.reduceGE, Int.reduceToNat, Int.natCast_one, Int.natCast_zero, Int.cast_ofNat_Int]
  (refine kGc_call (hMay) (fun _ => rfl) ?_ ?_; (focus simp +contextual [Xev_t, Xev_c, upd_app, lf_cons, lf_nil]); simp +contextual (maxSteps := 1000000) only [hbp, (Ne.symm hbp), h0, h2, go_sem, reduceCtorEq, ↓reduceIte, Nat.reduceAdd, Nat.reduceEqDiff, Nat.reduceLeDiff, Nat.reduceMul, Nat.reduceBEq, Int.reduceBEq, Int.reduceBNe, Int.reduceLT, Int.reduceLE, Int.reduceGT, Int.reduceGE, Int.reduceToNat, Int.natCast_one, Int.natCast_zero, Int.cast_ofNat_Int])
  cases hc : (!s.x.b && mayP s.x.seq == 0) with
  | false =>
    have e : s.x.tell.ou = s.x.ou := by
      have h : ¬ (s.x.b = false ∧ mayP s.x.seq = 0) := fun h => by simp [h.1, h.2] at hc
      simp only [Pp.tell, if_neg h]
    simp +contextual (maxSteps := 1000000) only [go_sem, reduceCtorEq, ↓reduceIte, Nat.reduceAdd, Nat.reduceEqDiff, Nat.reduceLeDiff, Nat.reduceMul, Nat.reduceBEq, Int.reduceBEq, Int.reduceBNe, Int.reduceLT, Int.reduceLE, Int.reduceGT, Int.reduceGE, Int.reduceToNat, Int.natCast_one, Int.natCast_zero, Int.cast_ofNat_Int]
    refine hcall s e.symm hok (fun t h => ⟨ht t h, .inl h⟩) _ F T _ _ hT (fun t h j => hn t h _ j (by omega)) fun s' q1 q2 q3 => ?_
    simp +contextual (maxSteps := 1000000) only [go_sem, reduceCtorEq, ↓reduceIte, Nat.reduceAdd, Nat.reduceEqDiff, Nat.reduceLeDiff, Nat.reduceMul, Nat.reduceBEq, Int.reduceBEq, Int.reduceBNe, Int.reduceLT, Int.reduceLE, Int.reduceGT, Int.reduceGE, Int.reduceToNat, Int.natCast_one, Int.natCast_zero, Int.cast_ofNat_Int]
    exact hQ s' _ _ _ _ q1 q2 (by simp) q3
  | true =>
    have e : s.x.tell.ou = s.x.ou ++ [s.x.seq] := by
      have h : s.x.b = false ∧ mayP s.x.seq = 0 := by simpa using hc
      simp only [Pp.tell, if_pos h]
    have hf6 := fits6 hz.ou
    have hf1 : ((1 : Nat) * 80 ≤ 140737488355328) = True := by simp
    cases ho : s.ot with
    | none =>
      have ho0 := hok.o ho
      simp +contextual (maxSteps := 1000000) only [hbp, (Ne.symm hbp), v1, v2, v3, hf6, hf1, List.length_map, go_sem, reduceCtorEq, ↓reduceIte, Nat.reduceAdd, Nat.reduceEqDiff, Nat.reduceLeDiff, Nat.reduceMul, Nat.reduceBEq, Int.reduceBEq, Int.reduceBNe, Int.reduceLT, Int.reduceLE, Int.reduceGT, Int.reduceGE, Int.reduceToNat, Int.natCast_one, Int.natCast_zero, Int.cast_ofNat_Int]
      have hnn : ((γ, c + 10 + 7, 0) : Nm) ∉ s.toks := fun h => hn _ h _ _ (by omega) rfl
      obtain ⟨k1, k2⟩ := Ps.newo hok hnn { s.x with ou := s.x.ou ++ [s.x.seq] } rfl rfl
      rw [show AV.sl (some (γ, c + 10 + 7, 0)) 6 [[AV.int IntKind.i64 s.x.k, AV.int IntKind.u8 s.x.pr, pv s.x.seq.ps, AV.str s.x.it, AV.int IntKind.u8 s.x.fi, AV.str s.x.da]] = sv (some (γ, c + 10 + 7, 0)) 6 ((s.x.ou ++ [s.x.seq]).map Sq.r) from by rw [ho0]; rfl]
      refine hcall ⟨{ s.x with ou := s.x.ou ++ [s.x.seq] }, s.tt, s.dt, some (γ, c + 10 + 7, 0)⟩ e.symm k1 (fun t h => ?_) _ F _ _ _ (fun t h => ?_) (fun t h j => ?_) fun s' q1 q2 q3 => ?_
      · rcases k2 t h with ⟨h, _⟩ | rfl
        · exact ⟨ht t h, .inl h⟩
        · exact ⟨hγ, .inr rfl⟩
      · rcases k2 t h with ⟨h, h'⟩ | rfl
        · exact ⟨.inr (hT t h), by simp⟩
        · exact ⟨.inl (by simp), by simp⟩
      · rcases k2 t h with ⟨h, _⟩ | rfl
        · exact hn t h _ j (by omega)
        · intro e; simp only [Prod.mk.injEq] at e; omega
      · simp +contextual (maxSteps := 1000000) only [go_sem, reduceCtorEq, ↓reduceIte, Nat.reduceAdd, Nat.reduceEqDiff, Nat.reduceLeDiff, Nat.reduceMul, Nat.reduceBEq, Int.reduceBEq, Int.reduceBNe, Int.reduceLT, Int.reduceLE, Int.reduceGT, Int.reduceGE, Int.reduceToNat, Int.natCast_one, Int.natCast_zero, Int.cast_ofNat_Int]
        exact hQ s' _ _ _ _ q1 q2 (by simp) q3
    | some o1 =>
      simp +contextual (maxSteps := 1000000) only [hbp, (Ne.symm hbp), v1, v2, v3, hf6, hf1, List.length_map, go_sem, reduceCtorEq, ↓reduceIte, Nat.reduceAdd, Nat.reduceEqDiff, Nat.reduceLeDiff, Nat.reduceMul, Nat.reduceBEq, Int.reduceBEq, Int.reduceBNe, Int.reduceLT, Int.reduceLE, Int.reduceGT, Int.reduceGE, Int.reduceToNat, Int.natCast_one, Int.natCast_zero, Int.cast_ofNat_Int]
      have hnn : ((γ, c + 10 + 7, 0) : Nm) ∉ s.toks := fun h => hn _ h _ _ (by omega) rfl
      have hoT : o1 ∈ s.toks := by simp [Ps.toks, ho]
      obtain ⟨k1, k2⟩ := Ps.newo hok hnn { s.x with ou := s.x.ou ++ [s.x.seq] } rfl rfl
      refine ⟨.inl (hT o1 hoT), by simp, ?_⟩
      rw [show AV.sl (some (γ, c + 10 + 7, 0)) 6 (List.map Sq.r s.x.ou ++ [[AV.int IntKind.i64 s.x.k, AV.int IntKind.u8 s.x.pr, pv s.x.seq.ps, AV.str s.x.it, AV.int IntKind.u8 s.x.fi, AV.str s.x.da]]) = sv (some (γ, c + 10 + 7, 0)) 6 ((s.x.ou ++ [s.x.seq]).map Sq.r) from by rw [List.map_append]; rfl]
      refine hcall ⟨{ s.x with ou := s.x.ou ++ [s.x.seq] }, s.tt, s.dt, some (γ, c + 10 + 7, 0)⟩ e.symm k1 (fun t h => ?_) _ F _ _ _ (fun t h => ?_) (fun t h j => ?_) fun s' q1 q2 q3 => ?_
      · rcases k2 t h with ⟨h, _⟩ | rfl
        · exact ⟨ht t h, .inl h⟩
        · exact ⟨hγ, .inr rfl⟩
      · rcases k2 t h with ⟨h, h'⟩ | rfl
        · exact ⟨.inr (hT t h), fun e => h' (by rw [ho, e])⟩
        · exact ⟨.inl (by simp), fun e => hnn (by rw [e]; exact hoT)⟩
      · rcases k2 t h with ⟨h, _⟩ | rfl
        · exact hn t h _ j (by omega)
        · intro e; simp only [Prod.mk.injEq] at e; omega
      · simp +contextual (maxSteps := 1000000) only [go_sem, reduceCtorEq, ↓reduceIte, Nat.reduceAdd, Nat.reduceEqDiff, Nat.reduceLeDiff, Nat.reduceMul, Nat.reduceBEq, Int.reduceBEq, Int.reduceBNe, Int.reduceLT, Int.reduceLE, Int.reduceGT, Int.reduceGE, Int.reduceToNat, Int.natCast_one, Int.natCast_zero, Int.cast_ofNat_Int]
        exact hQ s' _ _ _ _ q1 q2 (by simp) q3
end Go.Proofs.YtgdgfefojfgpaaaDoor
