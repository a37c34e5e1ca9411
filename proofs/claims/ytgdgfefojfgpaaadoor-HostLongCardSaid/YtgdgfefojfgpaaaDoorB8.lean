/- The parser of layer 5: a byte, and bytes. -/
import Derived.Test.YtgdgfefojfgpaaaDoorB7
set_option linter.unusedVariables false
set_option linter.unusedSimpArgs false
set_option maxRecDepth 100000
namespace Go.Proofs.YtgdgfefojfgpaaaDoor
open Go Go.Ab
/- (*clavier/host.Parser).Feed -/
def ir_hostParserFeed_l0 : ICode :=
 (.seq
        (.reg [⟨some 14, none, .bin .lss .none (.t 13) (.t 12)⟩] (some [0, 11, 12, 13, 14]))
        (.seq
         (.cond (.t 14)
          .skip
          (.exit 0))
         (.seq
          (.blk 1
           (.seq
            (.reg [⟨some 15, none, .ia 1 (.t 11) (.t 13)⟩,
              ⟨some 16, none, .ld none (.t 15)⟩,
              ⟨some 6, none, .mov (.t 16)⟩] (some [0, 6, 11, 12, 13]))
            (.seq
             (.reg [⟨some 17, none, .mov (.t 0)⟩,
               ⟨some 18, none, .mov (.t 6)⟩,
               ⟨some 19, none, .call (.c (.fn (.func 14) [] [])) [(.t 17), (.t 18)]⟩,
               ⟨some 7, none, .mov (.t 19)⟩] (some [0, 7, 11, 12, 13]))
             (.reg [⟨some 20, none, .mov (.t 0)⟩,
               ⟨some 21, none, .mov (.t 7)⟩,
               ⟨some 22, none, .nck (.t 20)⟩,
               ⟨some 23, none, .fa 0 (.t 22)⟩,
               ⟨none, none, .st 1 (.t 23) (.t 21)⟩] (some [0, 11, 12, 13])))))
          (.reg [⟨some 24, none, .bin .add .none (.t 13) (.c (.int .i64 1))⟩,
            ⟨some 13, none, .mov (.t 24)⟩] (some [0, 11, 12, 13])))))
def ir_hostParserFeed_t5 : ICode :=
 (.seq
  (.reg [⟨some 32, none, .mov (.t 8)⟩,
         ⟨some 4, none, .mov (.t 32)⟩] (some [4]))
  .ret)
def ir_hostParserFeed_t4 : ICode :=
 (.seq
  (.reg [⟨some 29, none, .mov (.t 0)⟩,
        ⟨some 30, none, .nck (.t 29)⟩,
        ⟨some 31, none, .fa 12 (.t 30)⟩,
        ⟨none, none, .st 1 (.t 31) (.c .nils)⟩] (some [8]))
  ir_hostParserFeed_t5)
def ir_hostParserFeed_t3 : ICode :=
 (.seq
  (.reg [⟨some 25, none, .mov (.t 0)⟩,
       ⟨some 26, none, .nck (.t 25)⟩,
       ⟨some 27, none, .fa 12 (.t 26)⟩,
       ⟨some 28, none, .ld none (.t 27)⟩,
       ⟨some 8, none, .mov (.t 28)⟩] (some [0, 8]))
  ir_hostParserFeed_t4)
def ir_hostParserFeed_t2 : ICode :=
 (.seq
  (.seq
     (.reg [⟨some 11, none, .mov (.t 1)⟩,
       ⟨some 12, none, .len (.t 11)⟩,
       ⟨some 13, none, .mov (.c (.int .i64 0))⟩] (some [0, 11, 12, 13]))
     (.blk 0
      (.loop
       ir_hostParserFeed_l0)))
  ir_hostParserFeed_t3)
def ir_hostParserFeed_t1 : ICode :=
 (.seq
  (.seq
    (.reg [⟨some 9, none, .mov (.t 0)⟩,
      ⟨some 10, none, .bin .eql .ptr (.t 9) (.c .nilp)⟩] (some [0, 1, 10]))
    (.cond (.t 10)
     (.seq
      (.reg [⟨some 4, none, .mov (.c .nils)⟩] (some [4]))
      .ret)
     .skip))
  ir_hostParserFeed_t2)
def ir_hostParserFeed : ICode :=
 (.seq
  (.reg [⟨some 4, none, .mov (.c .nils)⟩] (some [0, 1]))
  ir_hostParserFeed_t1)
theorem is_hostParserFeed : IrOf Tryd.prog 9 33 ir_hostParserFeed [.t 4] := ⟨_, Tryd.func9, rfl, by kernel_rfl, by kernel_rfl, by kernel_rfl⟩


def Pp.call (x : Pp) (n : Nx) (c : UInt8) : Option Nx × Pp := match n with
  | .behind => x.behind c
  | .head => x.head c
  | .inside => x.inside c
  | .unread => (some .unread, x)
  | .ending => x.ending c
theorem fs_call {Gl : Gh → Prop} (hst : Stays Gl) {p : Nm} (hp : 1 ≤ p.1) {s : Ps} (hok : s.ok) (ht : ∀ t ∈ s.toks, 1 ≤ t.1) (hz : s.x.sz) {c : UInt8} (n : Nx) : FSR Tryd.prog Gl n.f [.ptr p 0, .int .u8 (c.toNat : Int)] [(p, .cells s.c)] s.toks (PR p s.toks (nxv (s.x.call n c).1) (s.x.call n c).2) := by
  cases n with
  | behind => exact fs_behind hst hp hok ht hz
  | head => exact fs_head hst hp hok ht hz
  | inside => exact fs_inside hst hp hok ht hz
  | unread => exact fs_unread hst hp hok ht
  | ending => exact fs_ending hst hp hok ht hz
def Pp.one (x : Pp) (c : UInt8) : Option Nx × Pp :=
  if ((c.toNat : Int) == 24 || (c.toNat : Int) == 26) = true then (none, x.drop)
  else if ((c.toNat : Int) == 27 && x.r) = true then (some .ending, { x with r := false })
  else if ((c.toNat : Int) == 27) = true then (some .behind, x.drop)
  else match x.nx with
    | none => (none, x)
    | some n => x.call n c
theorem nxv_some (n : Nx) : nxv (some n) = .fn (.func n.f) [] [] := rfl

theorem fs_one {Gl : Gh → Prop} (hst : Stays Gl) {p : Nm} (hp : 1 ≤ p.1) {s : Ps} (hok : s.ok) (ht : ∀ t ∈ s.toks, 1 ≤ t.1) (hz : s.x.sz) {c : UInt8} : FSR Tryd.prog Gl 14 [.ptr p 0, .int .u8 (c.toNat : Int)] [(p, .cells s.c)] s.toks (PR p s.toks (nxv (s.x.one c).1) (s.x.one c).2) := by
  refine FSR.of hm hst is_hostParserone (by simp) fun γ hγ hfr => ?_
  have htγ : ∀ t ∈ s.toks, 1 ≤ t.1 ∧ ∀ i j, t ≠ (γ, i, j) := fun t h => ⟨ht t h, fun i j e => hfr.2 t h (by rw [e])⟩
  clear hfr
  (generalize hQ : (fun (ex : Ex) (_ _ : Nat) (s : St) => _) = Q; unfold ir_hostParserone)
  simp only [Ps.c]
  simp +contextual (maxSteps := 1000000) only [go_sem, reduceCtorEq, ↓reduceIte, Nat.reduceAdd, Nat.reduceEqDiff, Nat.reduceLeDiff, Nat.reduceMul, Nat.reduceBEq, Int.reduceBEq, Int.reduceBNe, Int.reduceLT, Int.reduceLE, Int.reduceGT, Int.reduceGE, Int.reduceToNat, Int.natCast_one, Int.natCast_zero, Int.cast_ofNat_Int]
  cases h1 : ((c.toNat : Int) == 24 || (c.toNat : Int) == 26) with
  | true =>
    have e : s.x.one c = (none, s.x.drop) := by simp only [Pp.one, h1, if_true]
    simp +contextual (maxSteps := 1000000) only [go_sem, reduceCtorEq, ↓reduceIte, Nat.reduceAdd, Nat.reduceEqDiff, Nat.reduceLeDiff, Nat.reduceMul, Nat.reduceBEq, Int.reduceBEq, Int.reduceBNe, Int.reduceLT, Int.reduceLE, Int.reduceGT, Int.reduceGE, Int.reduceToNat, Int.natCast_one, Int.natCast_zero, Int.cast_ofNat_Int]
    refine PR.call (s := s) (fs_drop hst hp hok ht) hp (fun _ => rfl) hγ (fun _ h => h) (fun t h => ⟨ht t h, fun j => (htγ t h).2 _ _⟩) fun s' q1 q2 q3 => ?_
    simp +contextual (maxSteps := 1000000) only [go_sem, reduceCtorEq, ↓reduceIte, Nat.reduceAdd, Nat.reduceEqDiff, Nat.reduceLeDiff, Nat.reduceMul, Nat.reduceBEq, Int.reduceBEq, Int.reduceBNe, Int.reduceLT, Int.reduceLE, Int.reduceGT, Int.reduceGE, Int.reduceToNat, Int.natCast_one, Int.natCast_zero, Int.cast_ofNat_Int]
    rw [← hQ, e, ← q1]
    exact ⟨trivial, PR.behind rfl (fun _ => nxv_rn) (fun _ _ _ => nxv_ok) hp ht (by simp) q2 q3 fun _ h => h⟩
  | false =>
  simp +contextual (maxSteps := 1000000) only [go_sem, reduceCtorEq, ↓reduceIte, Nat.reduceAdd, Nat.reduceEqDiff, Nat.reduceLeDiff, Nat.reduceMul, Nat.reduceBEq, Int.reduceBEq, Int.reduceBNe, Int.reduceLT, Int.reduceLE, Int.reduceGT, Int.reduceGE, Int.reduceToNat, Int.natCast_one, Int.natCast_zero, Int.cast_ofNat_Int]
  cases h2 : ((c.toNat : Int) == 27 && s.x.r) with
  | true =>
    have e : s.x.one c = (some .ending, { s.x with r := false }) := by simp only [Pp.one, h1, h2, if_true, Bool.false_eq_true, if_false]
    simp +contextual (maxSteps := 1000000) only [go_sem, reduceCtorEq, ↓reduceIte, Nat.reduceAdd, Nat.reduceEqDiff, Nat.reduceLeDiff, Nat.reduceMul, Nat.reduceBEq, Int.reduceBEq, Int.reduceBNe, Int.reduceLT, Int.reduceLE, Int.reduceGT, Int.reduceGE, Int.reduceToNat, Int.natCast_one, Int.natCast_zero, Int.cast_ofNat_Int]
    rw [← hQ, e]
    exact ⟨trivial, PR.same _ rfl (fun _ => nxv_rn) (fun _ _ _ => nxv_ok) hp hok ht (by simp [Ps.c]) rfl rfl rfl fun _ h => h⟩
  | false =>
  simp +contextual (maxSteps := 1000000) only [go_sem, reduceCtorEq, ↓reduceIte, Nat.reduceAdd, Nat.reduceEqDiff, Nat.reduceLeDiff, Nat.reduceMul, Nat.reduceBEq, Int.reduceBEq, Int.reduceBNe, Int.reduceLT, Int.reduceLE, Int.reduceGT, Int.reduceGE, Int.reduceToNat, Int.natCast_one, Int.natCast_zero, Int.cast_ofNat_Int]
  cases h3 : ((c.toNat : Int) == 27) with
  | true =>
    have e : s.x.one c = (some .behind, s.x.drop) := by
      have h2' : (true && s.x.r) = false := by rw [← h3]; exact h2
      simp only [Pp.one, h1, h3, h2', if_true, Bool.false_eq_true, if_false]
    simp +contextual (maxSteps := 1000000) only [go_sem, reduceCtorEq, ↓reduceIte, Nat.reduceAdd, Nat.reduceEqDiff, Nat.reduceLeDiff, Nat.reduceMul, Nat.reduceBEq, Int.reduceBEq, Int.reduceBNe, Int.reduceLT, Int.reduceLE, Int.reduceGT, Int.reduceGE, Int.reduceToNat, Int.natCast_one, Int.natCast_zero, Int.cast_ofNat_Int]
    refine PR.call (s := s) (fs_drop hst hp hok ht) hp (fun _ => rfl) hγ (fun _ h => h) (fun t h => ⟨ht t h, fun j => (htγ t h).2 _ _⟩) fun s' q1 q2 q3 => ?_
    simp +contextual (maxSteps := 1000000) only [go_sem, reduceCtorEq, ↓reduceIte, Nat.reduceAdd, Nat.reduceEqDiff, Nat.reduceLeDiff, Nat.reduceMul, Nat.reduceBEq, Int.reduceBEq, Int.reduceBNe, Int.reduceLT, Int.reduceLE, Int.reduceGT, Int.reduceGE, Int.reduceToNat, Int.natCast_one, Int.natCast_zero, Int.cast_ofNat_Int]
    rw [← hQ, e, ← q1]
    exact ⟨trivial, PR.behind rfl (fun _ => nxv_rn) (fun _ _ _ => nxv_ok) hp ht (by simp) q2 q3 fun _ h => h⟩
  | false =>
    cases hn : s.x.nx with
    | none =>
      have e : s.x.one c = (none, s.x) := by simp only [Pp.one, h1, h3, Bool.false_and, Bool.false_eq_true, if_false, hn]
      simp +contextual (maxSteps := 1000000) only [nxv_nil, go_sem, reduceCtorEq, ↓reduceIte, Nat.reduceAdd, Nat.reduceEqDiff, Nat.reduceLeDiff, Nat.reduceMul, Nat.reduceBEq, Int.reduceBEq, Int.reduceBNe, Int.reduceLT, Int.reduceLE, Int.reduceGT, Int.reduceGE, Int.reduceToNat, Int.natCast_one, Int.natCast_zero, Int.cast_ofNat_Int]
      rw [← hQ, e]
      exact ⟨trivial, PR.same _ rfl (fun _ => nxv_rn) (fun _ _ _ => nxv_ok) hp hok ht (by simp [Ps.c, hn, nxv_nil]) rfl rfl rfl fun _ h => h⟩
    | some n =>
      have e : s.x.one c = s.x.call n c := by simp only [Pp.one, h1, h3, Bool.false_and, Bool.false_eq_true, if_false, hn]
      have hc : s.c = [.fn (.func n.f) [] [], .int .i64 s.x.k, .int .u8 s.x.pr, .nils, .str s.x.it, .int .u8 s.x.fi, .str [], sv s.tt 1 (bytesAV s.x.tx), sv s.dt 1 (bytesAV s.x.da), .bool s.x.f, .bool s.x.b, .bool s.x.r, sv s.ot 6 (s.x.ou.map Sq.r)] := by simp only [Ps.c, hn, nxv_some]
      simp +contextual (maxSteps := 1000000) only [nxv_some, go_sem, reduceCtorEq, ↓reduceIte, Nat.reduceAdd, Nat.reduceEqDiff, Nat.reduceLeDiff, Nat.reduceMul, Nat.reduceBEq, Int.reduceBEq, Int.reduceBNe, Int.reduceLT, Int.reduceLE, Int.reduceGT, Int.reduceGE, Int.reduceToNat, Int.natCast_one, Int.natCast_zero, Int.cast_ofNat_Int]
      rw [← hc]
      refine PR.call (s := s) (fs_call hst hp hok ht hz n) hp (fun _ => nxv_rn) hγ (fun _ h => h) (fun t h => ⟨ht t h, fun j => (htγ t h).2 _ _⟩) fun s' q1 q2 q3 => ?_
      simp +contextual (maxSteps := 1000000) only [go_sem, reduceCtorEq, ↓reduceIte, Nat.reduceAdd, Nat.reduceEqDiff, Nat.reduceLeDiff, Nat.reduceMul, Nat.reduceBEq, Int.reduceBEq, Int.reduceBNe, Int.reduceLT, Int.reduceLE, Int.reduceGT, Int.reduceGE, Int.reduceToNat, Int.natCast_one, Int.natCast_zero, Int.cast_ofNat_Int]
      rw [← hQ, e, ← q1]
      exact ⟨trivial, PR.behind rfl (fun _ => nxv_rn) (fun _ _ _ => nxv_ok) hp ht (by simp) q2 q3 fun _ h => h⟩

/-- A byte. -/
def Pp.put (x : Pp) (c : UInt8) : Pp := { (x.one c).2 with nx := (x.one c).1 }
def Pp.puts (x : Pp) (b : List UInt8) : Pp := b.foldl Pp.put x
theorem fs_Feed {Gl : Gh → Prop} (hst : Stays Gl) {p : Nm} (hp : 1 ≤ p.1) {s : Ps} (hok : s.ok) (ht : ∀ t ∈ s.toks, 1 ≤ t.1) {b : List UInt8} {t0 : Option Nm} (hl : b.length < 4611686018427387904) (hz : ∀ i, i ≤ b.length → (s.x.puts (b.take i)).sz) :
    FSR Tryd.prog Gl 9 [.ptr p 0, .sl t0 1 (bytesAV b)] [(p, .cells s.c)] s.toks fun r H T => ∃ (s' : Ps) (o : Option Nm), s'.x = { s.x.puts b with ou := [] } ∧ s'.ok ∧ s'.ot = none ∧ H = [(p, .cells s'.c)] ∧ r = sv o 6 ((s.x.puts b).ou.map Sq.r) ∧ (o = none → (s.x.puts b).ou = []) ∧
      (s'.toks ++ o.toList).Nodup ∧ T = s'.toks ++ o.toList ∧ ∀ t ∈ s'.toks ++ o.toList, t ∈ s.toks ∨ (t.1 = 0 ∧ t.2.1 = 0) := by
  refine FSR.of hm hst is_hostParserFeed (by simp) fun γ hγ hfr => ?_
  (generalize hQ : (fun (ex : Ex) (_ _ : Nat) (s : St) => _) = Q; unfold ir_hostParserFeed)
  simp +contextual (maxSteps := 1000000) only [go_sem, reduceCtorEq, ↓reduceIte, Nat.reduceAdd, Nat.reduceEqDiff, Nat.reduceLeDiff, Nat.reduceMul, Nat.reduceBEq, Int.reduceBEq, Int.reduceBNe, Int.reduceLT, Int.reduceLE, Int.reduceGT, Int.reduceGE, Int.reduceToNat, Int.natCast_one, Int.natCast_zero, Int.cast_ofNat_Int]
  unfold ir_hostParserFeed_t1
  simp +contextual (maxSteps := 1000000) only [go_sem, reduceCtorEq, ↓reduceIte, Nat.reduceAdd, Nat.reduceEqDiff, Nat.reduceLeDiff, Nat.reduceMul, Nat.reduceBEq, Int.reduceBEq, Int.reduceBNe, Int.reduceLT, Int.reduceLE, Int.reduceGT, Int.reduceGE, Int.reduceToNat, Int.natCast_one, Int.natCast_zero, Int.cast_ofNat_Int]
  unfold ir_hostParserFeed_t2
  simp +contextual (maxSteps := 1000000) only [bytesAV_len, go_sem, reduceCtorEq, ↓reduceIte, Nat.reduceAdd, Nat.reduceEqDiff, Nat.reduceLeDiff, Nat.reduceMul, Nat.reduceBEq, Int.reduceBEq, Int.reduceBNe, Int.reduceLT, Int.reduceLE, Int.reduceGT, Int.reduceGE, Int.reduceToNat, Int.natCast_one, Int.natCast_zero, Int.cast_ofNat_Int]
  refine kLoop_ix (fun q : Ps × Nat => ⟨lf [(0, .ptr p 0), (11, .sl t0 1 (bytesAV b)), (12, .int .i64 b.length), (13, .int .i64 q.2)], [(p, .cells q.1.c)], (· ∈ q.1.toks)⟩)
    (fun q => q.2 ≤ b.length ∧ q.1.x = s.x.puts (b.take q.2) ∧ q.1.ok ∧ ∀ t ∈ q.1.toks, 1 ≤ t.1 ∧ (t ∈ s.toks ∨ γ ≤ t.1)) (fun q => b.length - q.2) 0 (s, 0) (Wk.same ?_) ⟨Nat.zero_le _, rfl, hok, fun t h => ⟨ht t h, .inl h⟩⟩ ?_
  · (simp only [lfOK, upd, initF]; repeat' first | exact AVle.refl _ _ | exact trivial | refine And.intro ?_ ?_ | exact AVle.int (by simp only [IntKind.wrap_i64]; omega))
  · rintro γ' ⟨q, i⟩ ⟨hle, hf⟩ ⟨hi, hqx, hqok, hqt⟩
    simp only at hi hqx hqok hqt
    generalize hQ' : kIt _ _ _ _ _ = Q'
    unfold ir_hostParserFeed_l0
    by_cases hlt : i < b.length
    · have hd : decide ((i : Int) < (b.length : Int)) = true := by simp; omega
      have hget : (bytesAV b).getD (i : Int).toNat [] = [.int .u8 ((b[i]).toNat : Int)] := by rw [Int.toNat_natCast]; exact bytesAV_get hlt
      have htk : b.take (i + 1) = b.take i ++ [b[i]] := by rw [List.take_add_one, List.getElem?_eq_getElem hlt]; rfl
      have hw : IntKind.i64.wrap ((i : Int) + 1) = ((i + 1 : Nat) : Int) := by rw [IntKind.wrap_i64]; omega
      simp +contextual (maxSteps := 1000000) only [hd, hget, bytesAV_len, go_sem, reduceCtorEq, ↓reduceIte, Nat.reduceAdd, Nat.reduceEqDiff, Nat.reduceLeDiff, Nat.reduceMul, Nat.reduceBEq, Int.reduceBEq, Int.reduceBNe, Int.reduceLT, Int.reduceLE, Int.reduceGT, Int.reduceGE, Int.reduceToNat, Int.natCast_one, Int.natCast_zero, Int.cast_ofNat_Int]
      refine ⟨by omega, ?_⟩
      refine PR.call (s := q) (fs_one hst hp hqok (fun t h => (hqt t h).1) (by rw [hqx]; exact hz i hi)) hp (fun _ => nxv_rn) (by omega) (fun _ h => h) (fun t h => ⟨(hqt t h).1, fun j e => hf.2 t h (by rw [e])⟩) fun s' q1 q2 q3 => ?_
      simp only [Ps.c]
      simp +contextual (maxSteps := 1000000) only [hw, go_sem, reduceCtorEq, ↓reduceIte, Nat.reduceAdd, Nat.reduceEqDiff, Nat.reduceLeDiff, Nat.reduceMul, Nat.reduceBEq, Int.reduceBEq, Int.reduceBNe, Int.reduceLT, Int.reduceLE, Int.reduceGT, Int.reduceGE, Int.reduceToNat, Int.natCast_one, Int.natCast_zero, Int.cast_ofNat_Int]
      rw [← hQ']
      simp only [w_kIt_n]
      refine ⟨0, (⟨{ s'.x with nx := (q.x.one b[i]).1 }, s'.tt, s'.dt, s'.ot⟩, i + 1), Wk.perm ?_ (fun u hu => ?_), ⟨by simp only; omega, ?_, ⟨q2.nd, q2.t, q2.d, q2.o⟩, fun t h => ⟨(q3 t h).1, ?_⟩⟩, by simp only; omega⟩
      · repeat' first | exact AVle.refl _ _ | exact trivial | refine And.intro ?_ ?_ | exact AVle.int (by simp only [IntKind.wrap_i64]; omega)
      · exact hu
      · simp only
        rw [htk, Pp.puts, List.foldl_append, List.foldl_cons, List.foldl_nil, ← Pp.puts, ← hqx, Pp.put, ← q1]
      · rcases (q3 t h).2 with h | h
        · exact (hqt t h).2
        · exact .inr (by rw [h]; exact hle)
    · have hd : decide ((i : Int) < (b.length : Int)) = false := by simp; omega
      simp +contextual (maxSteps := 1000000) only [hd, go_sem, reduceCtorEq, ↓reduceIte, Nat.reduceAdd, Nat.reduceEqDiff, Nat.reduceLeDiff, Nat.reduceMul, Nat.reduceBEq, Int.reduceBEq, Int.reduceBNe, Int.reduceLT, Int.reduceLE, Int.reduceGT, Int.reduceGE, Int.reduceToNat, Int.natCast_one, Int.natCast_zero, Int.cast_ofNat_Int]
      rw [← hQ']
      simp only [w_kIt_e, w_kBlk_e, ↓reduceIte]
      simp +contextual (maxSteps := 1000000) only [go_sem, reduceCtorEq, ↓reduceIte, Nat.reduceAdd, Nat.reduceEqDiff, Nat.reduceLeDiff, Nat.reduceMul, Nat.reduceBEq, Int.reduceBEq, Int.reduceBNe, Int.reduceLT, Int.reduceLE, Int.reduceGT, Int.reduceGE, Int.reduceToNat, Int.natCast_one, Int.natCast_zero, Int.cast_ofNat_Int]
      unfold ir_hostParserFeed_t3
      simp only [Ps.c]
      simp +contextual (maxSteps := 1000000) only [go_sem, reduceCtorEq, ↓reduceIte, Nat.reduceAdd, Nat.reduceEqDiff, Nat.reduceLeDiff, Nat.reduceMul, Nat.reduceBEq, Int.reduceBEq, Int.reduceBNe, Int.reduceLT, Int.reduceLE, Int.reduceGT, Int.reduceGE, Int.reduceToNat, Int.natCast_one, Int.natCast_zero, Int.cast_ofNat_Int]
      unfold ir_hostParserFeed_t4
      simp +contextual (maxSteps := 1000000) only [go_sem, reduceCtorEq, ↓reduceIte, Nat.reduceAdd, Nat.reduceEqDiff, Nat.reduceLeDiff, Nat.reduceMul, Nat.reduceBEq, Int.reduceBEq, Int.reduceBNe, Int.reduceLT, Int.reduceLE, Int.reduceGT, Int.reduceGE, Int.reduceToNat, Int.natCast_one, Int.natCast_zero, Int.cast_ofNat_Int]
      unfold ir_hostParserFeed_t5
      simp +contextual (maxSteps := 1000000) only [go_sem, reduceCtorEq, ↓reduceIte, Nat.reduceAdd, Nat.reduceEqDiff, Nat.reduceLeDiff, Nat.reduceMul, Nat.reduceBEq, Int.reduceBEq, Int.reduceBNe, Int.reduceLT, Int.reduceLE, Int.reduceGT, Int.reduceGE, Int.reduceToNat, Int.natCast_one, Int.natCast_zero, Int.cast_ofNat_Int]
      have hib : b.take i = b := List.take_of_length_le (by omega)
      rw [hib] at hqx
      obtain ⟨us, hus⟩ : ∃ us, us = q.toks.filter fun t => !s.toks.contains t := ⟨_, rfl⟩
      obtain ⟨r, r1, r2, r3, r4⟩ := Ps.told (us := us) (T0 := s.toks) ht q (fun t h => by
        by_cases h' : t ∈ s.toks
        · exact .inl h'
        · exact .inr (by rw [hus]; simp [h, h'])) hqok
      rw [← hQ]
      have e1 : r.tt.map (rnN fun j => us.getD j (0, 0, 0)) = q.tt := congrArg Ps.tt r3
      have e2 : r.dt.map (rnN fun j => us.getD j (0, 0, 0)) = q.dt := congrArg Ps.dt r3
      have e3 : r.ot.map (rnN fun j => us.getD j (0, 0, 0)) = q.ot := congrArg Ps.ot r3
      have etk : (⟨{ q.x with ou := [] }, r.tt, r.dt, none⟩ : Ps).toks ++ r.ot.toList = r.toks := by simp [Ps.toks]
      have hxq : r.x = s.x.puts b := r1.trans hqx
      have hin : ∀ t ∈ (⟨{ q.x with ou := [] }, r.tt, r.dt, none⟩ : Ps).toks, t ∈ r.toks := fun t h => by rw [← etk]; exact List.mem_append.2 (.inl h)
      have hok4 : ∀ t ∈ r.toks, nmOK us.length s.toks t := fun t h => by
        rcases r4 t h with h | ⟨h1, h2, h3⟩
        · exact real_ok (ht t h) h
        · unfold nmOK; rw [if_pos ⟨h1, h2⟩]; exact h3
      have hus2 : ∀ t ∈ r.toks, rnN (fun j => us.getD j (0, 0, 0)) t ∈ q.toks := fun t h => by
        rw [← r3, Ps.toks_rn]; exact List.mem_map.2 ⟨t, h, rfl⟩
      refine ⟨trivial, sv r.ot 6 ((s.x.puts b).ou.map Sq.r), [(p, .cells (⟨{ q.x with ou := [] }, r.tt, r.dt, none⟩ : Ps).c)], r.toks, ⟨⟨{ q.x with ou := [] }, r.tt, r.dt, none⟩, r.ot, by rw [← hqx], ⟨?_, fun h => ?_, fun h => ?_, fun _ => rfl⟩, rfl, rfl, rfl, fun h => ?_, by rw [etk]; exact r2.nd, etk.symm, fun t h => ?_⟩,
        us, by rw [hus]; exact hqok.nd.filter _, fun n hn => ?_, ?_, fun u hu => ?_, fun t h => hus2 t h, ?_, fun u hu => ?_, hok4⟩
      · have := r2.nd
        simp only [Ps.toks, Option.toList_none, List.append_nil] at this ⊢
        exact (List.nodup_append.1 this).1
      · have := r2.t h; rw [r1] at this; exact this
      · have := r2.d h; rw [r1] at this; exact this
      · have := r2.o h; rw [hxq] at this; exact this
      · rw [etk] at h
        exact (r4 t h).imp _root_.id fun h => ⟨h.1, h.2.1⟩
      · rw [hus] at hn
        obtain ⟨h1, h2⟩ := List.mem_filter.1 hn
        rcases (hqt n h1).2 with h3 | h3
        · simp [h3] at h2
        · exact h3
      · rw [sv_rn, e3, ← hqx]; rfl
      · simp only [rnH, List.map_cons, List.map_nil, List.mem_singleton] at hu
        subst hu
        rw [real_rn hp, Ps.c_rn]
        simp only [Ps.rn, e1, e2, Option.map_none]
        simp [Ps.c, sv]
      · exact sv_ok fun t h => hok4 t (by simp [Ps.toks, h])
      · simp only [List.mem_singleton] at hu
        subst hu
        exact ⟨real_ok hp (by simp), Ps.okc fun t h => hok4 t (hin t h)⟩
end Go.Proofs.YtgdgfefojfgpaaaDoor
