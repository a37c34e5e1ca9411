/- Regions that draw their order: what stands ahead of the operations that wait for all others may come in any order that the region's edges allow, and answers alike. -/
import Derived.Test.YtjankibepgnbfaaGreatDoorPBackPlainAb9
set_option linter.unusedVariables false
set_option linter.unusedSimpArgs false
namespace Go.Ab

def X.sl : X → List Nat
  | .t n => [n]
  | .c _ => []
def slO : Option X → List Nat
  | none => []
  | some x => x.sl
def IOp.sl : IOp → List Nat
  | .mov x | .box _ x | .ld _ x | .fa _ x | .fld _ _ x | .un _ x | .cvi _ x | .b2s x | .s2b _ x | .cid x | .len x | .lns x | .ext x _ | .nck x | .rng x | .nxt x | .cvs x | .mks _ _ _ x | .mkc _ _ _ x | .mkr _ _ _ x => x.sl
  | .pick c a b => c.sl ++ a.sl ++ b.sl
  | .bld _ ps => ps.flatMap fun p => p.2.2.sl
  | .row _ _ xs => xs.flatMap X.sl
  | .st _ x v => x.sl ++ v.sl
  | .ia _ x i | .iar _ _ x i | .ixs x i | .ixa _ _ _ x i => x.sl ++ i.sl
  | .bin _ _ x y | .app _ _ _ x y | .aps _ x y | .mm _ x y | .lkp _ _ _ x y => x.sl ++ y.sl
  | .mkf _ a b => a.flatMap X.sl ++ b.flatMap X.sl
  | .mkm => []
  | .ins _ x k v => x.sl ++ k.sl ++ v.sl
  | .sls x lo hi => x.sl ++ slO lo ++ slO hi
  | .sll _ x lo hi mx => x.sl ++ slO lo ++ slO hi ++ slO mx
  | .call f xs => f.sl ++ xs.flatMap X.sl
def IOper.sl (o : IOper) : List Nat := (match o.g with | some (t, _) => [t] | none => []) ++ o.op.sl
def mask (l : List Nat) (F : Nat → AV) : Nat → AV := fun n => if l.contains n then F n else .und

def eats (op : IOp) (F : Nat → AV) : List Nm :=
  match op with
  | .app _ _ _ x _ | .aps _ x _ => match x.ev F with
    | .sl (some t) _ _ => [t]
    | _ => []
  | .cvs x => match x.ev F with
    | .sl (some t) _ _ => [t]
    | _ => []
  | _ => []

structure DR where
  v : AV
  A : Hp
  N : List Nm

def awD (P : Program) (Gl : Gh → Prop) (γ i : Nat) (op : IOp) (F : Nat → AV) (H : Hp) (L : List Nm) (K : DR → Prop) : Prop :=
  match op with
  | .call f args => match f.ev F with
    | .fn (.func k) first caps => ∃ H0 r H1 T1 A, FS P Gl k (first ++ args.map (X.ev F) ++ caps) H0 [] r H1 T1 ∧ (∀ p ∈ H0, p ∈ H) ∧ (∀ p ∈ H, ∀ q ∈ H0, p.1 = q.1 → p = q) ∧
        rnH (fun j => (γ, i, j)) H1 = A ++ H0 ∧ (∀ p ∈ A, ∃ j, p.1 = (γ, i, j)) ∧ K ⟨rn (fun j => (γ, i, j)) r, A, T1.map (rnN fun j => (γ, i, j))⟩
    | _ => False
  | op => match step op F H (· ∈ L) (γ, i, 0) with
    | some r => r.pre ∧ (match r.e with
      | .no => K ⟨r.v, [], []⟩
      | .blk hb => K ⟨r.v, [((γ, i, 0), hb)], []⟩
      | .own | .app _ => K ⟨r.v, [], [(γ, i, 0)]⟩
      | .eat _ => K ⟨r.v, [], []⟩
      | .set .. => False)
    | none => False

theorem awD_ex {P : Program} {Gl : Gh → Prop} {γ i : Nat} {op : IOp} {F : Nat → AV} {H : Hp} {L : List Nm} {K : DR → Prop} (h : awD P Gl γ i op F H L K) : ∃ d, awD P Gl γ i op F H L (· = d) ∧ K d := by
  unfold awD at h ⊢
  split at h
  · rename_i f args
    simp only
    split at h
    · rename_i k first caps hf
      obtain ⟨H0, r, H1, T1, A, h1, h2, h3, h4, h5, h6⟩ := h
      exact ⟨_, ⟨H0, r, H1, T1, A, h1, h2, h3, h4, h5, rfl⟩, h6⟩
    · exact h.elim
  · rename_i hop
    split at h
    · rename_i r hr
      obtain ⟨h1, h2⟩ := h
      split at h2
      · rename_i he; exact ⟨_, by simp only [hr]; exact ⟨h1, by first | trivial | rw [he]⟩, h2⟩
      · rename_i he; exact ⟨_, by simp only [hr]; exact ⟨h1, by first | trivial | rw [he]⟩, h2⟩
      · rename_i he; exact ⟨_, by simp only [hr]; exact ⟨h1, by first | trivial | rw [he]⟩, h2⟩
      · rename_i he; exact ⟨_, by simp only [hr]; exact ⟨h1, by first | trivial | rw [he]⟩, h2⟩
      · rename_i he; exact ⟨_, by simp only [hr]; exact ⟨h1, by first | trivial | rw [he]⟩, h2⟩
      · exact h2.elim
    · exact h.elim

theorem awD_op {P : Program} {Gl : Gh → Prop} {γ i : Nat} {op : IOp} {F : Nat → AV} {H : Hp} {L : List Nm} {d : DR} (h : awD P Gl γ i op F H L (· = d)) :
    awOp P Gl γ i op ⟨F, H, (· ∈ L)⟩ (fun v' H' T' => v' = d.v ∧ (∀ p, p ∈ d.A ∨ p ∈ H → p ∈ H') ∧ ∀ s ∈ d.N, T' s) ∧ ∀ p ∈ d.A, ∃ j, p.1 = (γ, i, j) := by
  unfold awD at h
  unfold awOp
  split at h
  · rename_i f args
    simp only
    split at h
    · rename_i k first caps hf
      obtain ⟨H0, r, H1, T1, A, h1, h2, h3, h4, h5, rfl⟩ := h
      simp only [hf]
      refine ⟨CallP.of h1 h2 (by simp) ⟨rfl, fun p hp => ?_, fun s hs => .inl hs⟩, h5⟩
      rw [h4]
      rcases hp with hp | hp
      · simp only [List.mem_append]; exact .inl (.inl hp)
      · by_cases hq : ∃ q ∈ H0, p.1 = q.1
        · obtain ⟨q, hq, e⟩ := hq
          rw [h3 p hp q hq e]
          simp only [List.mem_append]; exact .inl (.inr hq)
        · refine List.mem_append.2 (.inr (List.mem_filter.2 ⟨hp, ?_⟩))
          simp only [List.all_eq_true, decide_eq_true_eq]
          exact fun q hq' e => hq ⟨q, hq', e.symm⟩
    · exact h.elim
  · rename_i hop
    split at h
    · rename_i r hr
      obtain ⟨h1, h2⟩ := h
      have main : r.pre ∧ (r.v = d.v ∧ (∀ p, p ∈ d.A ∨ p ∈ H → p ∈ r.e.H (γ, i, 0) H) ∧ ∀ s ∈ d.N, r.e.T (γ, i, 0) (· ∈ L) s) := by
        refine ⟨h1, ?_⟩
        split at h2
        · rename_i he; subst h2; rw [he]; exact ⟨rfl, fun p hp => by rcases hp with hp | hp; simp at hp; exact hp, fun s hs => by simp at hs⟩
        · rename_i he; subst h2; rw [he]; exact ⟨rfl, fun p hp => by rcases hp with hp | hp; simp at hp; subst hp; exact List.mem_cons_self; exact List.mem_cons_of_mem _ hp, fun s hs => by simp at hs⟩
        · rename_i he; subst h2; rw [he]; exact ⟨rfl, fun p hp => by rcases hp with hp | hp; simp at hp; exact hp, fun s hs => by simp at hs; exact .inl hs⟩
        · rename_i t he; subst h2; rw [he]; exact ⟨rfl, fun p hp => by rcases hp with hp | hp; simp at hp; exact hp, fun s hs => by simp at hs; cases t <;> exact .inl hs⟩
        · rename_i t he; subst h2; rw [he]; exact ⟨rfl, fun p hp => by rcases hp with hp | hp; simp at hp; exact hp, fun s hs => by simp at hs⟩
        · exact h2.elim
      have hnm : ∀ p ∈ d.A, ∃ j, p.1 = (γ, i, j) := by
        split at h2
        · subst h2; intro p hp; simp at hp
        · subst h2; intro p hp; simp at hp; subst hp; exact ⟨0, rfl⟩
        · subst h2; intro p hp; simp at hp
        · subst h2; intro p hp; simp at hp
        · subst h2; intro p hp; simp at hp
        · exact h2.elim
      refine ⟨?_, hnm⟩
      split
      · exact absurd rfl (hop _ _)
      · simp only [hr]; exact main
    · exact h.elim

section
variable {P : Program} {Gl : Gh → Prop} {B : Base} {N : Nat} {R0 : RL}

theorem drw_one (hst : Stays Gl) {r : Option Nat} {o : Oper} {io : IOp} (hc : compOp P o = some io) {γ i : Nat} {F : Nat → AV} {H Hd : Hp} {Td : Tk} {L : List Nm} {d : DR} {g : Gh} {a : Act} {w : World}
    (h : awD P Gl γ i io F H L (· = d)) (hF : FOK g F a) (hW : WSD R0 B Hd Td g a.defers w) (hH : ∀ p ∈ H, p ∈ Hd) (hL : ∀ t ∈ L, Td t) (hnm : ∀ p ∈ Hd, p ∈ H ∨ ∀ q ∈ H, q.1 ≠ p.1) (hnew : ∀ j, g.free (γ, i, j)) (hgl : Gl g) {next : Act → World → Prop} {Q : Exit → Act → World → Prop}
    (hn : ∀ g' cv w', g.le g' → WSD R0 B (d.A ++ Hd) (fun s => s ∈ d.N ∨ (Td s ∧ s ∉ L)) g' a.defers w' → Rep g' d.v cv → Gl g' → (∀ n, g.free n → n.1 ≤ γ → (∀ j, n ≠ (γ, i, j)) → g'.free n) → next (a.put o.dst cv) w') : o.wpIn (Fr r) 0 P a w next Q := by
  refine awOp_sound (B := ⟨w, g, mutOf g H (· ∈ L), (· ∈ L)⟩) hst hc (awD_op h).1 hF (hW.local hH hL) hnew hgl ?_
  rintro v H' T' g' cv w' ⟨rfl, k2, k3⟩ hle hW' hrep hgl' hfree
  refine hn g' cv w' hle ((hW.framed hH hL hW').weaken (fun p hp => ?_) (fun t ht => ?_)) hrep hgl' hfree
  · rcases List.mem_append.1 hp with hp | hp
    · exact List.mem_append.2 (.inl (k2 p (.inl hp)))
    · rcases hnm p hp with h1 | h1
      · exact List.mem_append.2 (.inl (k2 p (.inr h1)))
      · refine List.mem_append.2 (.inr (List.mem_filter.2 ⟨hp, ?_⟩))
        simp only [List.all_eq_true, decide_eq_true_eq]
        exact h1
  · rcases ht with ht | ht
    · exact .inl (k3 t ht)
    · exact .inr ht

/-! ### The text's answer -/
structure PreOp where
  o : IOper
  bf : List Nat

def awPre (P : Program) (Gl : Gh → Prop) (γ c : Nat) (H : Hp) (T : Tk) : Nat → List PreOp → (Nat → AV) → Hp → List (List Nm) → List Nm → ((Nat → AV) → Hp → List Nm → List Nm → Prop) → Prop
  | _, [], F, A, acc, Ls, K => Ls.Nodup ∧ K F A acc.flatten Ls
  | i, p :: ps, F, A, acc, Ls, K =>
    match p.o.g with
    | none => (∀ t ∈ eats p.o.op F, T t ∨ ∃ j ∈ p.bf, t ∈ acc.getD j []) ∧
        awD P Gl γ (c + i) p.o.op (mask p.o.op.sl F) H (eats p.o.op F) fun d => awPre P Gl γ c H T (i + 1) ps (putF F p.o.d d.v) (d.A ++ A) (acc ++ [d.N]) (Ls ++ eats p.o.op F) K
    | some (t, b) => match F t with
      | .bool x => (x = b → (∀ t ∈ eats p.o.op F, T t ∨ ∃ j ∈ p.bf, t ∈ acc.getD j []) ∧
          awD P Gl γ (c + i) p.o.op (mask p.o.op.sl F) H (eats p.o.op F) fun d => awPre P Gl γ c H T (i + 1) ps (putF F p.o.d d.v) (d.A ++ A) (acc ++ [d.N]) (Ls ++ eats p.o.op F) K) ∧
        (x = !b → awPre P Gl γ c H T (i + 1) ps (putF F p.o.d (.tup [])) A (acc ++ [[]]) Ls K)
      | .tup [] => awPre P Gl γ c H T (i + 1) ps (putF F p.o.d (.tup [])) A (acc ++ [[]]) Ls K
      | _ => False

def awDrw (P : Program) (Gl : Gh → Prop) (γ c : Nat) (pre : List PreOp) (tail : List IOper) (s : St) (K : St → Prop) : Prop :=
  awPre P Gl γ c s.H s.T 0 pre s.F [] [] [] fun F A Ns Ls => awOps P Gl γ (c + pre.length) tail ⟨F, A ++ s.H, fun t => (t ∈ Ns ∨ s.T t) ∧ t ∉ Ls⟩ K

structure DQ where
  v : AV
  A : Hp
  N : List Nm
  L : List Nm

def OC (P : Program) (Gl : Gh → Prop) (γ c : Nat) (H : Hp) (T : Tk) (i : Nat) (p : PreOp) (F : Nat → AV) (acc : List (List Nm)) (d : DQ) : Prop :=
  (∀ t b, p.o.g = some (t, b) → (∃ x, F t = .bool x ∧ (x = !b → d = ⟨.tup [], [], [], []⟩)) ∨ (F t = .tup [] ∧ d = ⟨.tup [], [], [], []⟩)) ∧
  ((p.o.g = none ∨ ∃ t b, p.o.g = some (t, b) ∧ F t = .bool b) → (∀ t ∈ d.L, T t ∨ ∃ j ∈ p.bf, t ∈ acc.getD j []) ∧ awD P Gl γ (c + i) p.o.op (mask p.o.op.sl F) H d.L (· = ⟨d.v, d.A, d.N⟩))

def frD (F : Nat → AV) (pre : List PreOp) (ds : List DQ) : Nat → Nat → AV
  | 0 => F
  | n + 1 => match pre[n]?, ds[n]? with
    | some p, some d => putF (frD F pre ds n) p.o.d d.v
    | _, _ => frD F pre ds n

theorem awPre_ex {γ c : Nat} {H : Hp} {T : Tk} {F0 : Nat → AV} : ∀ (ps pre0 : List PreOp) (ds0 : List DQ) (A : Hp) (Ls : List Nm) (K : (Nat → AV) → Hp → List Nm → List Nm → Prop), pre0.length = ds0.length →
    awPre P Gl γ c H T ds0.length ps (frD F0 (pre0 ++ ps) ds0 ds0.length) A (ds0.map (·.N)) Ls K →
    ∃ ds, ds.length = ps.length ∧ (∀ i p d, ps[i]? = some p → ds[i]? = some d → OC P Gl γ c H T (ds0.length + i) p (frD F0 (pre0 ++ ps) (ds0 ++ ds) (ds0.length + i)) (((ds0 ++ ds).take (ds0.length + i)).map (·.N)) d) ∧
      (Ls ++ ds.flatMap (·.L)).Nodup ∧ K (frD F0 (pre0 ++ ps) (ds0 ++ ds) (ds0.length + ps.length)) ((ds.reverse.flatMap (·.A)) ++ A) ((ds0 ++ ds).map (·.N)).flatten (Ls ++ ds.flatMap (·.L))
  | [], pre0, ds0, A, Ls, K, hl, h => ⟨[], rfl, by simp, by simpa [awPre] using h.1, by simpa [awPre] using h.2⟩
  | p :: ps, pre0, ds0, A, Ls, K, hl, h => by
    have frz : ∀ (x y : List DQ) (n : Nat), n ≤ x.length → frD F0 (pre0 ++ p :: ps) (x ++ y) n = frD F0 (pre0 ++ p :: ps) x n := by
      intro x y n
      induction n with
      | zero => intro _; rfl
      | succ n ih =>
        intro hn
        simp only [frD]
        rw [ih (by omega), List.getElem?_append_left (by omega : n < x.length)]
    have hget : (pre0 ++ p :: ps)[ds0.length]? = some p := by rw [List.getElem?_append_right (by omega)]; simp [hl]
    have step1 : ∀ (d : DQ), OC P Gl γ c H T ds0.length p (frD F0 (pre0 ++ p :: ps) ds0 ds0.length) (ds0.map (·.N)) d → awPre P Gl γ c H T (ds0.length + 1) ps (putF (frD F0 (pre0 ++ p :: ps) ds0 ds0.length) p.o.d d.v) (d.A ++ A) (ds0.map (·.N) ++ [d.N]) (Ls ++ d.L) K →
        ∃ ds, ds.length = (p :: ps).length ∧ (∀ i p' d, (p :: ps)[i]? = some p' → ds[i]? = some d → OC P Gl γ c H T (ds0.length + i) p' (frD F0 (pre0 ++ p :: ps) (ds0 ++ ds) (ds0.length + i)) (((ds0 ++ ds).take (ds0.length + i)).map (·.N)) d) ∧
          (Ls ++ ds.flatMap (·.L)).Nodup ∧ K (frD F0 (pre0 ++ p :: ps) (ds0 ++ ds) (ds0.length + (p :: ps).length)) ((ds.reverse.flatMap (·.A)) ++ A) ((ds0 ++ ds).map (·.N)).flatten (Ls ++ ds.flatMap (·.L)) := by
      intro d hoc hnext
      have e1 : frD F0 (pre0 ++ p :: ps) (ds0 ++ [d]) (ds0.length + 1) = putF (frD F0 (pre0 ++ p :: ps) ds0 ds0.length) p.o.d d.v := by
        simp only [frD, hget]
        rw [List.getElem?_append_right (Nat.le_refl _), frz _ _ _ (Nat.le_refl _)]
        simp
      obtain ⟨ds, k1, k2, k3, k4⟩ := awPre_ex ps (pre0 ++ [p]) (ds0 ++ [d]) (d.A ++ A) (Ls ++ d.L) K (by simp [hl]) (by
        rw [show (ds0 ++ [d]).length = ds0.length + 1 by simp, List.append_assoc, List.singleton_append, e1]
        simpa using hnext)
      rw [List.append_assoc, List.singleton_append] at k2 k4
      rw [List.append_assoc, List.singleton_append] at k4
      refine ⟨d :: ds, by simp [k1], fun i p' d' hp hd => ?_, by simpa using k3, ?_⟩
      · cases i with
        | zero =>
          simp only [List.getElem?_cons_zero, Option.some.injEq] at hp hd
          subst hp hd
          rw [Nat.add_zero, frz _ _ _ (Nat.le_refl _), List.take_left]
          exact hoc
        | succ i =>
          simp only [List.getElem?_cons_succ] at hp hd
          have := k2 i p' d' hp hd
          rw [show (ds0 ++ [d]).length + i = ds0.length + (i + 1) by simp; omega, List.append_assoc, List.singleton_append] at this
          exact this
      · rw [show (ds0 ++ [d]).length + ps.length = ds0.length + (p :: ps).length by simp; omega] at k4
        simpa using k4
    simp only [awPre] at h
    split at h
    · rename_i hg
      obtain ⟨h1, h2⟩ := h
      obtain ⟨d, h3, h4⟩ := awD_ex h2
      exact step1 ⟨d.v, d.A, d.N, eats p.o.op (frD F0 (pre0 ++ p :: ps) ds0 ds0.length)⟩ ⟨fun t b e => (by rw [hg] at e; cases e), fun _ => ⟨h1, h3⟩⟩ h4
    · rename_i t b hg
      split at h
      · rename_i x hx
        by_cases hb : x = b
        · obtain ⟨h1, h2⟩ := h.1 hb
          obtain ⟨d, h3, h4⟩ := awD_ex h2
          exact step1 ⟨d.v, d.A, d.N, eats p.o.op (frD F0 (pre0 ++ p :: ps) ds0 ds0.length)⟩ ⟨fun t' b' e => (by rw [hg] at e; cases e; exact .inl ⟨x, hx, fun e => (by subst hb; cases x <;> cases e)⟩), fun _ => ⟨h1, h3⟩⟩ h4
        · have hb' : x = !b := by cases x <;> cases b <;> first | rfl | exact absurd rfl hb
          refine step1 ⟨.tup [], [], [], []⟩ ⟨fun t' b' e => (by rw [hg] at e; cases e; exact .inl ⟨x, hx, fun _ => rfl⟩), fun hh => ?_⟩ (by simpa using h.2 hb')
          rcases hh with hh | ⟨t', b', e, hh⟩
          · rw [hg] at hh; cases hh
          · rw [hg] at e; cases e; rw [hx] at hh; cases hh; exact absurd rfl hb
      · rename_i hx
        refine step1 ⟨.tup [], [], [], []⟩ ⟨fun t' b' e => (by rw [hg] at e; cases e; exact .inr ⟨hx, rfl⟩), fun hh => ?_⟩ (by simpa using h)
        rcases hh with hh | ⟨t', b', e, hh⟩
        · rw [hg] at hh; cases hh
        · rw [hg] at e; cases e; rw [hx] at hh; cases hh
      · exact h.elim
end
end Go.Ab

