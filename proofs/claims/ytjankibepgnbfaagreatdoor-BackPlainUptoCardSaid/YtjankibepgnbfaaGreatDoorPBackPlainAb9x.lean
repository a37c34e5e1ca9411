/- Regions that draw their order, one operation of which changes what the one ahead of it has made. -/
import Derived.Test.YtjankibepgnbfaaGreatDoorPBackPlainAb9g
set_option linter.unusedVariables false
set_option linter.unusedSimpArgs false
namespace Go.Ab

def awPreX (P : Program) (Gl : Gh → Prop) (γ c : Nat) (Hs : Hp) (T : Tk) : List Unit → Nat → List PreOp → (Nat → AV) → Hp → Hp → List (List Nm) → List Nm → ((Nat → AV) → Hp → List Nm → List Nm → Prop) → Prop
  | [], i, p :: ps, F, Hm, A, acc, Ls, K => p.o.g = none ∧ (0 < i ∧ i - 1 ∈ p.bf) ∧ awM P Gl γ (c + i) p.o.op (mask p.o.op.sl F) Hs Hm fun d => awPre P Gl γ c Hs T (i + 1) ps (putF F p.o.d d.v) (d.A ++ A) (acc ++ [d.N]) Ls K
  | _ :: m, i, p :: ps, F, Hm, A, acc, Ls, K => p.o.g = none ∧ (∀ t ∈ eats p.o.op F, T t ∨ ∃ j ∈ p.bf, t ∈ acc.getD j []) ∧
      awD P Gl γ (c + i) p.o.op (mask p.o.op.sl F) Hs (eats p.o.op F) fun d => awPreX P Gl γ c Hs T m (i + 1) ps (putF F p.o.d d.v) d.A (Hm ++ A) (acc ++ [d.N]) (Ls ++ eats p.o.op F) K
  | _, _, [], _, _, _, _, _, _ => False
def awDrwX (P : Program) (Gl : Gh → Prop) (γ c : Nat) (m : List Unit) (pre : List PreOp) (tail : List IOper) (s : St) (K : St → Prop) : Prop :=
  ∃ Hs, (∀ p ∈ Hs, p ∈ s.H) ∧ awPreX P Gl γ c Hs s.T m 0 pre s.F [] [] [] [] fun F A Ns Ls => awOps P Gl γ (c + pre.length) tail ⟨F, A ++ Hs, fun t => (t ∈ Ns ∨ s.T t) ∧ t ∉ Ls⟩ K

section
variable {P : Program} {Gl : Gh → Prop} {B : Base} {N : Nat} {R0 : RL} {lo : Nat} {ops : Array Oper} {pre : List PreOp} {tail : List IOper}

def prevA (ds : List DQ) (i : Nat) : Hp := match i with
  | 0 => []
  | i + 1 => match ds[i]? with | some d => d.A | none => []
theorem prevA_eq {ds : List DQ} {i : Nat} (h0 : 0 < i) (h : i - 1 < ds.length) : prevA ds i = ds[i - 1].A := by
  cases i with
  | zero => omega
  | succ e =>
    simp only [Nat.add_sub_cancel] at h
    simp only [prevA, Nat.add_sub_cancel]
    rw [List.getElem?_eq_getElem h]
theorem awPreX_ex {γ c : Nat} {Hs : Hp} {T : Tk} {F0 : Nat → AV} : ∀ (m : List Unit) (ps pre0 : List PreOp) (ds0 : List DQ) (Hm A : Hp) (Ls : List Nm) (K : (Nat → AV) → Hp → List Nm → List Nm → Prop), pre0.length = ds0.length → Hm = prevA ds0 ds0.length →
    awPreX P Gl γ c Hs T m ds0.length ps (frD F0 (pre0 ++ ps) ds0 ds0.length) Hm A (ds0.map (·.N)) Ls K →
    ∃ ds A1, ds.length = ps.length ∧ m.length < ps.length ∧ (∀ i p d, i ≠ m.length → ps[i]? = some p → ds[i]? = some d → OC P Gl γ c Hs T (ds0.length + i) p (frD F0 (pre0 ++ ps) (ds0 ++ ds) (ds0.length + i)) (((ds0 ++ ds).take (ds0.length + i)).map (·.N)) d) ∧
      (∀ p d, ps[m.length]? = some p → ds[m.length]? = some d → (0 < ds0.length + m.length ∧ ds0.length + m.length - 1 ∈ p.bf) ∧ OCm P Gl γ c Hs (prevA (ds0 ++ ds) (ds0.length + m.length)) (ds0.length + m.length) p (frD F0 (pre0 ++ ps) (ds0 ++ ds) (ds0.length + m.length)) d) ∧
      (Ls ++ ds.flatMap (·.L)).Nodup ∧ (∀ q ∈ A1, q ∈ A ∨ (m ≠ [] ∧ q ∈ Hm) ∨ ∃ (j : Nat) (d : DQ), j + 1 ≠ m.length ∧ ds[j]? = some d ∧ q ∈ d.A) ∧ K (frD F0 (pre0 ++ ps) (ds0 ++ ds) (ds0.length + ps.length)) A1 ((ds0 ++ ds).map (·.N)).flatten (Ls ++ ds.flatMap (·.L))
  | [], [], pre0, ds0, Hm, A, Ls, K, hl, hHm, h => by simp [awPreX] at h
  | _ :: m, [], pre0, ds0, Hm, A, Ls, K, hl, hHm, h => by simp [awPreX] at h
  | [], p :: ps, pre0, ds0, Hm, A, Ls, K, hl, hHm, h => by
    have prz : ∀ (x y : List DQ), prevA (x ++ y) x.length = prevA x x.length := by
      intro x y
      cases hx : x.length with
      | zero => rfl
      | succ n => simp only [prevA]; rw [List.getElem?_append_left (by omega)]
    have frz : ∀ (x y : List DQ) (n : Nat), n ≤ x.length → frD F0 (pre0 ++ p :: ps) (x ++ y) n = frD F0 (pre0 ++ p :: ps) x n := by
      intro x y n
      induction n with
      | zero => intro _; rfl
      | succ n ih =>
        intro hn
        simp only [frD]
        rw [ih (by omega), List.getElem?_append_left (by omega : n < x.length)]
    have hget : (pre0 ++ p :: ps)[ds0.length]? = some p := by rw [List.getElem?_append_right (by omega)]; simp [hl]
    simp only [awPreX] at h
    obtain ⟨hg, hbf, h⟩ := h
    obtain ⟨d', h3, h4⟩ := awM_ex h
    obtain ⟨d, hd⟩ : ∃ d : DQ, d = ⟨d'.v, d'.A, d'.N, []⟩ := ⟨_, rfl⟩
    have e1 : frD F0 (pre0 ++ p :: ps) (ds0 ++ [d]) (ds0.length + 1) = putF (frD F0 (pre0 ++ p :: ps) ds0 ds0.length) p.o.d d.v := by
      simp only [frD, hget]
      rw [List.getElem?_append_right (Nat.le_refl _), frz _ _ _ (Nat.le_refl _)]
      simp
    obtain ⟨ds, k1, k2, k3, k4⟩ := awPre_ex ps (pre0 ++ [p]) (ds0 ++ [d]) (d.A ++ A) Ls K (by simp [hl]) (by
      rw [show (ds0 ++ [d]).length = ds0.length + 1 by simp, List.append_assoc, List.singleton_append, e1]
      subst hd
      simpa using h4)
    rw [List.append_assoc, List.singleton_append] at k2 k4
    rw [List.append_assoc, List.singleton_append] at k4
    refine ⟨d :: ds, ds.reverse.flatMap (·.A) ++ (d.A ++ A), by simp [k1], by simp, fun i p' d' hi hp hd' => ?_, fun p' d' hp hd' => ?_, by subst hd; simpa using k3, fun q hq => ?_, ?_⟩
    · cases i with
      | zero => exact absurd rfl hi
      | succ i =>
        simp only [List.getElem?_cons_succ] at hp hd'
        have := k2 i p' d' hp hd'
        rw [show (ds0 ++ [d]).length + i = ds0.length + (i + 1) by simp; omega, List.append_assoc, List.singleton_append] at this
        exact this
    · simp only [List.length_nil, List.getElem?_cons_zero, Option.some.injEq] at hp hd'
      subst hp hd'
      subst hd
      rw [List.length_nil, Nat.add_zero, frz _ _ _ (Nat.le_refl _), prz, ← hHm]
      exact ⟨hbf, hg, rfl, h3⟩
    rotate_left
    · rw [show (ds0 ++ [d]).length + ps.length = ds0.length + (p :: ps).length by simp; omega] at k4
      subst hd
      simpa using k4
    · rcases List.mem_append.1 hq with hq | hq
      · obtain ⟨d', hd', hq⟩ := List.mem_flatMap.1 hq
        obtain ⟨j, hj⟩ := List.mem_iff_getElem?.1 (List.mem_reverse.1 hd')
        exact .inr (.inr ⟨j + 1, d', by simp, by simpa using hj, hq⟩)
      · rcases List.mem_append.1 hq with hq | hq
        · exact .inr (.inr ⟨0, d, by simp, rfl, hq⟩)
        · exact .inl hq
  | _ :: m, p :: ps, pre0, ds0, Hm, A, Ls, K, hl, hHm, h => by
    have frz : ∀ (x y : List DQ) (n : Nat), n ≤ x.length → frD F0 (pre0 ++ p :: ps) (x ++ y) n = frD F0 (pre0 ++ p :: ps) x n := by
      intro x y n
      induction n with
      | zero => intro _; rfl
      | succ n ih =>
        intro hn
        simp only [frD]
        rw [ih (by omega), List.getElem?_append_left (by omega : n < x.length)]
    have hget : (pre0 ++ p :: ps)[ds0.length]? = some p := by rw [List.getElem?_append_right (by omega)]; simp [hl]
    simp only [awPreX] at h
    obtain ⟨hg, h1, h⟩ := h
    obtain ⟨d', h3, h4⟩ := awD_ex h
    obtain ⟨d, hd⟩ : ∃ d : DQ, d = ⟨d'.v, d'.A, d'.N, eats p.o.op (frD F0 (pre0 ++ p :: ps) ds0 ds0.length)⟩ := ⟨_, rfl⟩
    have e1 : frD F0 (pre0 ++ p :: ps) (ds0 ++ [d]) (ds0.length + 1) = putF (frD F0 (pre0 ++ p :: ps) ds0 ds0.length) p.o.d d.v := by
      simp only [frD, hget]
      rw [List.getElem?_append_right (Nat.le_refl _), frz _ _ _ (Nat.le_refl _)]
      simp
    obtain ⟨ds, A1, k1, k0, k2, km, k3, kA, k4⟩ := awPreX_ex m ps (pre0 ++ [p]) (ds0 ++ [d]) d.A (Hm ++ A) (Ls ++ d.L) K (by simp [hl]) (by simp [prevA]) (by
      rw [show (ds0 ++ [d]).length = ds0.length + 1 by simp, List.append_assoc, List.singleton_append, e1]
      subst hd
      simpa using h4)
    rw [List.append_assoc, List.singleton_append] at k2 k4 km
    rw [List.append_assoc, List.singleton_append] at k4
    refine ⟨d :: ds, A1, by simp [k1], by simp; omega, fun i p' d' hi hp hd' => ?_, fun p' d' hp hd' => ?_, by simpa using k3, fun q hq => ?_, ?_⟩
    · cases i with
      | zero =>
        simp only [List.getElem?_cons_zero, Option.some.injEq] at hp hd'
        subst hp hd'
        rw [Nat.add_zero, frz _ _ _ (Nat.le_refl _), List.take_left]
        subst hd
        exact ⟨fun t b e => (by rw [hg] at e; cases e), fun _ => ⟨h1, h3⟩⟩
      | succ i =>
        simp only [List.getElem?_cons_succ] at hp hd'
        have := k2 i p' d' (fun e => hi (by simp [e])) hp hd'
        rw [show (ds0 ++ [d]).length + i = ds0.length + (i + 1) by simp; omega, List.append_assoc, List.singleton_append] at this
        exact this
    · simp only [List.length_cons, List.getElem?_cons_succ] at hp hd'
      have := km p' d' hp hd'
      rw [show (ds0 ++ [d]).length + m.length = ds0.length + (m.length + 1) by simp; omega, List.append_assoc, List.singleton_append] at this
      exact this
    · rcases kA q hq with hq | ⟨hm0, hq⟩ | ⟨j, d', hj, hd', hq⟩
      · rcases List.mem_append.1 hq with hq | hq
        · exact .inr (.inl ⟨by simp, hq⟩)
        · exact .inl hq
      · exact .inr (.inr ⟨0, d, by have := List.length_pos_iff.2 hm0; simp only [List.length_cons]; omega, rfl, hq⟩)
      · exact .inr (.inr ⟨j + 1, d', by simp only [List.length_cons]; omega, by simpa using hd', hq⟩)
    · rw [show (ds0 ++ [d]).length + ps.length = ds0.length + (p :: ps).length by simp; omega] at k4
      simpa using k4

structure ToldX (P : Program) (Gl : Gh → Prop) (γ c : Nat) (F : Nat → AV) (Hs : Hp) (m : Nat) (T : Tk) (pre : List PreOp) (ds : List DQ) : Prop where
  len : ds.length = pre.length
  lt : m < pre.length
  oc : ∀ (i : Nat) (p : PreOp) (d : DQ), i ≠ m → pre[i]? = some p → ds[i]? = some d → OC P Gl γ c Hs T i p (frD F pre ds i) ((ds.take i).map (·.N)) d
  om : ∀ (p : PreOp) (d : DQ), pre[m]? = some p → ds[m]? = some d → (0 < m ∧ m - 1 ∈ p.bf) ∧ OCm P Gl γ c Hs (prevA ds m) m p (frD F pre ds m) d
  nd : (ds.flatMap (·.L)).Nodup
def SX (m : Nat) (S : Nat → Bool) : Nat → Bool := fun j => S j && !(S m && j == m - 1)

structure DInvX (B : Base) (N : Nat) (R0 : RL) (lo : Nat) (Gl : Gh → Prop) (γ c : Nat) (F : Nat → AV) (Hs : Hp) (m : Nat) (T : Tk) (pre : List PreOp) (ds : List DQ) (S : Nat → Bool) (g : Gh) (a : Act) (w : World) : Prop where
  frame : FOK g (FD F pre ds S) a
  size : a.tmps.size = N
  ws : WSD R0 B (HD ds Hs (SX m S)) (TD ds T S) g a.defers w
  new : ∀ i j, S i = false → g.free (γ, c + i, j)
  gl : Gl g
  low : Lo B lo γ g
  ahead : S m = true → S (m - 1) = true

theorem pre_stepX (hst : Stays Gl) (hsp : DrwSpec P N ops pre tail) {r : Option Nat} {Q : Exit → Act → World → Prop} {next : Act → World → Prop} {γ c m : Nat} {F : Nat → AV} {Hs : Hp} {T : Tk} {ds : List DQ} (ht : ToldX P Gl γ c F Hs m T pre ds)
    (hNH : ∀ q ∈ Hs, ∀ j x, q.1 ≠ (γ, c + j, x)) {S S' : Nat → Bool} {g : Gh} {a : Act} {w : World} (hI : DInvX B N R0 lo Gl γ c F Hs m T pre ds S g a w) {i : Nat} (hi : i < pre.length) (hSi : S i = false) (hS' : ∀ j, S' j = (S j || j == i)) {o : Oper} (ho : ops[i]? = some o) (hed : ∀ j ∈ edgesOf o, S j = true)
    (hn : ∀ g' a' w', DInvX B N R0 lo Gl γ c F Hs m T pre ds S' g' a' w' → next a' w') : wpOpIn (Fr r) 0 P ops Q i next a w := by
  obtain ⟨o', p, ho', hp, hbf, hcp⟩ := hsp.op i hi
  rw [ho] at ho'; cases ho'
  have hdi : i < ds.length := by rw [ht.len]; exact hi
  obtain ⟨d, hd⟩ : ∃ d, ds[i]? = some d := ⟨_, List.getElem?_eq_getElem hdi⟩
  obtain ⟨ed, hio, hdst, hgd⟩ := compOper_dst hcp
  have hdlt : ∀ t, o.dst = some t → t < a.tmps.size := fun t ht => by rw [hI.size]; exact hdst t ht
  have agree : ∀ t ∈ p.o.sl, frD F pre ds i t = FD F pre ds S t := by
    intro t hts
    rw [frD_eq hsp ht.len i (by omega)]
    refine FD_agree fun j hj => ?_
    obtain ⟨q, hq, hqd⟩ := wr_spec hj
    by_cases e : j = i
    · subst e; simp [hSi]
    · have hjb := hsp.slot i j p q t hp hq hqd hts e
      have h1 := hsp.bf i p hp j hjb
      rw [hbf] at hjb
      simp [h1, hed j hjb]
  have hfr : ∀ t, Rep g (mask p.o.op.sl (frD F pre ds i) t) (a.tmps.getD t undef) := by
    intro t
    unfold mask
    by_cases hts : p.o.op.sl.contains t = true
    · rw [if_pos hts, agree t (List.mem_append.2 (.inr (by simpa using hts)))]
      exact hI.frame t
    · rw [if_neg hts]; trivial
  have ext : ∀ {Sb : Nat → Bool} {g' cv w'}, (∀ j, SX m S' j = true → j = i ∨ Sb j = true) → (S' m = true → S' (m - 1) = true) → g.le g' → WSD R0 B (d.A ++ HD ds Hs Sb) (fun t => t ∈ d.N ∨ (TD ds T S t ∧ t ∉ d.L)) g' a.defers w' → Rep g' d.v cv → Gl g' → (∀ n, g.free n → n.1 ≤ γ → (∀ j, n ≠ (γ, c + i, j)) → g'.free n) → next (a.put o.dst cv) w' := by
    intro Sb g' cv w' hSb hah hle hW hrep hgl hfree
    refine hn g' (a.put o.dst cv) w' ⟨?_, by rw [size_put]; exact hI.size, defers_put (a := a) (d := o.dst) (v := cv) ▸ hW.weaken (fun q hq => ?_) (fun t htt => ?_), fun k x hk => ?_, hgl, hI.low.step hfree, hah⟩
    · rw [FD_put hsp hp hd hS', ed]
      exact FOK.put hI.frame hle hrep hdlt
    · rw [List.mem_append]
      rcases mem_HD.1 hq with ⟨j, dj, hdj, hSj, hqj⟩ | hq
      · rcases hSb j hSj with rfl | h
        · rw [hd] at hdj; cases hdj; exact .inl hqj
        · exact .inr (mem_HD.2 (.inl ⟨j, dj, hdj, h, hqj⟩))
      · exact .inr (mem_HD.2 (.inr hq))
    · obtain ⟨h1, h2⟩ := htt
      have h2' : ∀ j dj, ds[j]? = some dj → S j = true → t ∉ dj.L := fun j dj hdj hSj => h2 j dj hdj (by rw [hS', hSj]; rfl)
      have h3 : t ∉ d.L := h2 i d hd (by rw [hS']; simp)
      rcases h1 with ⟨j, dj, hdj, hSj, hqj⟩ | h1
      · rw [hS'] at hSj
        simp only [Bool.or_eq_true, beq_iff_eq] at hSj
        rcases hSj with h | rfl
        · exact .inr ⟨⟨.inl ⟨j, dj, hdj, h, hqj⟩, h2'⟩, h3⟩
        · rw [hd] at hdj; cases hdj; exact .inl hqj
      · exact .inr ⟨⟨.inr h1, h2'⟩, h3⟩
    · rw [hS'] at hk
      simp only [Bool.or_eq_false_iff, beq_eq_false_iff_ne, ne_eq] at hk
      exact hfree _ (hI.new k x hk.1) (Nat.le_refl _) (fun j e => hk.2 (by simp only [Prod.mk.injEq] at e; omega))
  have nmA : ∀ (j : Nat) (dj : DQ), j ≠ m → ds[j]? = some dj → ∀ q ∈ dj.A, ∃ x, q.1 = (γ, c + j, x) := fun j dj hjm hdj => by
    have hjl : j < pre.length := by rw [← ht.len]; exact (List.getElem?_eq_some_iff.1 hdj).1
    exact (ht.oc j _ dj hjm (List.getElem?_eq_getElem hjl) hdj).names
  by_cases him : i = m
  · -- what changes
    subst him
    obtain ⟨⟨hi0, hbm⟩, hg0, hL0, hM⟩ := ht.om p d hp hd
    have hSe : S (i - 1) = true := hed _ (by rw [← hbf]; exact hbm)
    have hSi' : S' i = true := by rw [hS']; simp
    have hah : S' i = true → S' (i - 1) = true := fun _ => by rw [hS', hSe]; rfl
    have hme : (i - 1) + 1 = i := by omega
    have hde : (i - 1) < ds.length := by omega
    have hpv : prevA ds i = ds[i - 1].A := prevA_eq hi0 hde
    have run : o.wpIn (Fr r) 0 P a w next Q := by
      refine drw_oneM (Hd := HD ds Hs (fun j => S j && j != i - 1)) hst hio hM hfr (hI.ws.weaken (fun q hq => ?_) (fun _ h => h)) (fun q hq q' hq' => ?_) (fun j => hI.new i j hSi) hI.gl (fun g' cv w' k1 k2 k3 k4 k5 => ext (Sb := fun j => S j && j != i - 1) (fun j hj => ?_) hah k1 ?_ k3 k4 k5)
      · have hx : ∀ j, SX i S j = S j := fun j => by unfold SX; rw [hSi]; simp
        rcases List.mem_append.1 hq with hq | hq
        · rcases mem_HD.1 hq with ⟨j, dj, hdj, hSj, hqj⟩ | hq
          · simp only [Bool.and_eq_true] at hSj
            exact mem_HD.2 (.inl ⟨j, dj, hdj, by rw [hx]; exact hSj.1, hqj⟩)
          · exact mem_HD.2 (.inr hq)
        · rw [hpv] at hq
          exact mem_HD.2 (.inl ⟨i - 1, _, List.getElem?_eq_getElem hde, by rw [hx]; exact hSe, hq⟩)
      · rw [hpv] at hq'
        obtain ⟨x', hx'⟩ := nmA (i - 1) _ (by omega) (List.getElem?_eq_getElem hde) q' hq'
        rw [hx']
        rcases mem_HD.1 hq with ⟨j, dj, hdj, hSj, hqj⟩ | hq
        · simp only [Bool.and_eq_true, bne_iff_ne] at hSj
          have hji : j ≠ i := fun e => by subst e; rw [hSi] at hSj; cases hSj.1
          obtain ⟨x, hx⟩ := nmA j dj hji hdj q hqj
          rw [hx]
          intro e
          simp only [Prod.mk.injEq] at e
          omega
        · exact fun e => hNH q hq (i - 1) x' e.symm
      · simp only [SX, hSi', Bool.true_and, Bool.and_eq_true, Bool.not_eq_true', beq_eq_false_iff_ne, ne_eq] at hj
        rw [hS'] at hj
        simp only [Bool.or_eq_true, beq_iff_eq] at hj
        rcases hj.1 with h | h
        · exact .inr (by simp [h, hj.2])
        · exact .inl h
      · exact k2.weaken (fun _ h => h) (fun t ht' => ht'.imp _root_.id fun h => h.1)
    unfold wpOpIn
    rw [ho]
    rcases hgd with ⟨hg, hxg⟩ | ⟨j, b, t, hg, htj, hxg⟩
    · simp only [Region.wanted, hg, if_true]
      exact run
    · rw [hg0] at hxg; cases hxg
  · obtain ⟨oc1, oc2⟩ := ht.oc i p d him hp hd
    have hSm : S' m = S m := by rw [hS']; simp; exact fun e => absurd e.symm him
    have hah : S' m = true → S' (m - 1) = true := fun h => by rw [hSm] at h; rw [hS', hI.ahead h]; rfl
    have hsb : ∀ j, SX m S' j = true → j = i ∨ SX m S j = true := fun j hj => by
      unfold SX at hj ⊢
      rw [hSm, hS'] at hj
      cases hSj : S j with
      | true => rw [hSj] at hj; exact .inr (by simpa using hj)
      | false =>
        rw [hSj] at hj
        simp only [Bool.false_or, Bool.and_eq_true, beq_iff_eq] at hj
        exact .inl hj.1
    have run : (p.o.g = none ∨ ∃ t b, p.o.g = some (t, b) ∧ frD F pre ds i t = .bool b) → o.wpIn (Fr r) 0 P a w next Q := by
      intro hw
      obtain ⟨hL, hD⟩ := oc2 hw
      refine drw_one hst hio hD hfr hI.ws (fun q hq => mem_HD.2 (.inr hq)) (fun t htL => ?_) (fun q hq => ?_) (fun j => hI.new i j hSi) hI.gl (fun g' cv w' k1 k2 k3 k4 k5 => ext hsb hah k1 k2 k3 k4 k5)
      · refine ⟨?_, fun j dj hdj hSj => ?_⟩
        · rcases hL t htL with h | ⟨j, hj, htj⟩
          · exact .inr h
          · have hji := hsp.bf i p hp j hj
            rw [hbf] at hj
            have hjl : j < ds.length := by omega
            refine .inl ⟨j, ds[j], List.getElem?_eq_getElem hjl, hed j hj, ?_⟩
            rw [List.getD_eq_getElem?_getD, List.getElem?_map, List.getElem?_take_of_lt hji, List.getElem?_eq_getElem hjl] at htj
            exact htj
        · have hji : i ≠ j := fun e => by subst e; rw [hSi] at hSj; cases hSj
          exact nodup_apart ht.nd hji hd hdj t htL
      · rcases mem_HD.1 hq with ⟨j, dj, hdj, hSj, hqj⟩ | hq
        · have hjl : j < pre.length := by rw [← ht.len]; exact (List.getElem?_eq_some_iff.1 hdj).1
          by_cases hjm : j = m
          · subst hjm
            exact .inr ((awM_op (ht.om _ dj (List.getElem?_eq_getElem hjl) hdj).2.2.2).2 q hqj)
          · obtain ⟨x, hx⟩ := nmA j dj hjm hdj q hqj
            exact .inr fun q' hq' => by rw [hx]; exact hNH q' hq' j x
        · exact .inl hq
    unfold wpOpIn
    rw [ho]
    rcases hgd with ⟨hg, hxg⟩ | ⟨j, b, t, hg, htj, hxg⟩
    · simp only [Region.wanted, hg, if_true]
      exact run (.inl hxg)
    · have hts : t ∈ p.o.sl := by unfold IOper.sl; rw [hxg]; simp
      have hfr := hI.frame t
      rw [← agree t hts] at hfr
      have skip : d = ⟨.tup [], [], [], []⟩ → next (a.put o.dst undef) w := fun hdd => by
        refine ext hsb hah (.refl g) (hI.ws.weaken (fun q hq => ?_) (fun u hu => ?_)) (by rw [hdd]; exact rep_undef) hI.gl (fun n hn _ _ => hn)
        · rw [hdd] at hq; simpa using hq
        · rw [hdd] at hu
          rcases hu with hu | hu
          · cases hu
          · exact hu.1
      rcases oc1 t b hxg with ⟨x, hx, hx2⟩ | ⟨hx, hdd⟩
      · have hy : a.tmps.getD t undef = .bool x := by rw [hx] at hfr; exact hfr
        have hyi := yielded_of htj hy
        simp only [Region.wanted, hg, hyi]
        by_cases hb : x = b
        · subst hb
          simp only [beq_self_eq_true, if_true]
          exact run (.inr ⟨t, x, hxg, hx⟩)
        · have hb' : x = !b := by cases x <;> cases b <;> first | rfl | exact absurd rfl hb
          have hbb : (some x == some b) = false := by rw [hb']; cases b <;> rfl
          simp only [hbb, Bool.false_eq_true, if_false]
          exact ⟨fun _ _ => trivial, skip (hx2 hb')⟩
      · rw [hx] at hfr
        have hyi := yielded_undef (g := g) htj hfr
        simp only [Region.wanted, hg, hyi]
        exact ⟨fun _ _ => trivial, skip hdd⟩

theorem drw_anyX (hst : Stays Gl) (hsp : DrwSpec P N ops pre tail) {r : Option Nat} {Q : Exit → Act → World → Prop} {γ c m : Nat} {F : Nat → AV} {Hs : Hp} {T : Tk} {ds : List DQ} {K : St → Prop} (ht : ToldX P Gl γ c F Hs m T pre ds) (hγ : 1 ≤ γ)
    (hNH : ∀ q ∈ Hs, ∀ j x, q.1 ≠ (γ, c + j, x))
    {A' : Hp} {T' : Tk} (hA : ∀ q ∈ A', ∃ (j : Nat) (d : DQ), j + 1 ≠ m ∧ ds[j]? = some d ∧ q ∈ d.A) (hT : ∀ t, T' t → ((∃ (j : Nat) (d : DQ), ds[j]? = some d ∧ t ∈ d.N) ∨ T t) ∧ ∀ (j : Nat) (d : DQ), ds[j]? = some d → t ∉ d.L)
    (hK : awOps P Gl γ (c + pre.length) tail ⟨frD F pre ds pre.length, A' ++ Hs, T'⟩ K) (hQ : ∀ s' g' a' w', K s' → Sim B N R0 lo Gl γ (c + ops.size) s' g' a' w' → Q .normal a' w') :
    ∀ (fuel : Nat) (ls : Array Bool) (g : Gh) (a : Act) (w : World), ls.size = ops.size → (∀ j, pre.length ≤ j → ls.getD j false = false) → ((List.range ops.size).filter fun j => !ls.getD j false).length ≤ fuel →
      DInvX B N R0 lo Gl γ c F Hs m T pre ds (fun j => ls.getD j false) g a w → ClosedS ops (fun j => ls.getD j false) → wpAnyIn (Fr r) 0 P .any ops Q fuel ls a w := by
  intro fuel
  have last : ∀ {fuel : Nat} {ls : Array Bool} {g : Gh} {a : Act} {w : World}, ls.size = ops.size → (∀ j, pre.length ≤ j → ls.getD j false = false) → (∀ j, j < pre.length → ls.getD j false = true) → ops.size - pre.length ≤ fuel →
      DInvX B N R0 lo Gl γ c F Hs m T pre ds (fun j => ls.getD j false) g a w → wpAnyIn (Fr r) 0 P .any ops Q fuel ls a w := by
    intro fuel ls g a w hsz hup hall hf hI
    have hS : ∀ j d, ds[j]? = some d → ls.getD j false = true := fun j d hd => hall j (by rw [← ht.len]; exact (List.getElem?_eq_some_iff.1 hd).1)
    have hSm : ls.getD m false = true := hall m ht.lt
    refine tail_sound hst hsp.full hsp.lt hQ (ops.toList.drop pre.length) tail pre.length fuel ls _ g a w rfl hsp.le hsp.rest (Nat.le_refl _) hsz (fun j => ?_) hf hK ⟨?_, hI.size, hI.ws.weaken (fun q hq => ?_) (fun t htt => ?_), fun i j hi => ?_, hγ, hI.gl, hI.low⟩
    · rcases Nat.lt_or_ge j pre.length with h | h
      · rw [hall j h]; simp [h]
      · rw [hup j h]; simp; omega
    · show FOK g (frD F pre ds pre.length) a
      rw [frD_eq hsp ht.len pre.length (Nat.le_refl _)]
      intro t
      rw [FD_agree (S' := fun j => ls.getD j false)]
      · exact hI.frame t
      · intro j hj
        obtain ⟨q, hq, _⟩ := wr_spec hj
        have h1 := (List.getElem?_eq_some_iff.1 hq).1
        rw [hall j h1]; simp [h1]
    · rcases List.mem_append.1 hq with hq | hq
      · obtain ⟨j, d, hjm, hd, hqd⟩ := hA q hq
        obtain ⟨p, hp⟩ : ∃ p, pre[m]? = some p := ⟨_, List.getElem?_eq_getElem ht.lt⟩
        obtain ⟨d', hd'⟩ : ∃ d', ds[m]? = some d' := ⟨_, List.getElem?_eq_getElem (by rw [ht.len]; exact ht.lt)⟩
        have h0 := (ht.om p d' hp hd').1.1
        refine mem_HD.2 (.inl ⟨j, d, hd, ?_, hqd⟩)
        show (ls.getD j false && !(ls.getD m false && j == m - 1)) = true
        rw [hS j d hd, hSm]
        simp only [Bool.true_and, Bool.not_eq_true', beq_eq_false_iff_ne, ne_eq]
        omega
      · exact mem_HD.2 (.inr hq)
    · obtain ⟨h1, h2⟩ := hT t htt
      refine ⟨?_, fun j d hd _ => h2 j d hd⟩
      rcases h1 with ⟨j, d, hd, h⟩ | h
      · exact .inl ⟨j, d, hd, hS j d hd, h⟩
      · exact .inr h
    · have := hI.new (i - c) j (hup _ (by omega))
      rwa [show c + (i - c) = i by omega] at this
  induction fuel with
  | zero =>
    intro ls g a w hsz hup hf hI hcl
    have hall : ∀ j, j < ops.size → ls.getD j false = true := by
      intro j hj
      have h0 := List.length_eq_zero_iff.1 (Nat.le_zero.1 hf)
      have := List.filter_eq_nil_iff.1 h0 j (List.mem_range.2 hj)
      simpa using this
    refine last hsz hup (fun j hj => hall j (by have := hsp.le; omega)) (Nat.le_of_eq (by
      have : pre.length = ops.size := by
        have := hsp.le
        rcases Nat.lt_or_ge pre.length ops.size with h | h
        · have h1 := hall pre.length h; rw [hup _ (Nat.le_refl _)] at h1; cases h1
        · omega
      omega)) hI
  | succ fuel ih =>
    intro ls g a w hsz hup hf hI hcl
    by_cases hall : ∀ j, j < pre.length → ls.getD j false = true
    · refine last hsz hup hall ?_ hI
      have := unlisted_le hsz hup hall
      have := hsp.le
      omega
    · have hex : ∃ j, j < pre.length ∧ ls.getD j false = false := by
        have : ∃ j, ¬ (j < pre.length → ls.getD j false = true) := Classical.not_forall.1 hall
        obtain ⟨j, hj⟩ := this
        have hj1 : j < pre.length := Classical.byContradiction fun h => hj fun h' => absurd h' h
        exact ⟨j, hj1, by cases h : ls.getD j false with | false => rfl | true => exact absurd (fun _ => h) hj⟩
      refine ⟨fun h0 => ?_, fun i hi => ?_⟩
      · obtain ⟨j, hj1, hj2, hmin⟩ := first_of hex
        obtain ⟨o, p, ho, hp, hbf, _⟩ := hsp.op j hj1
        have : j ∈ Region.ready .any ops ls := ready_iff.2 ⟨⟨by have := hsp.le; omega, hj2⟩, o, ho, fun k hk => by
          have hkj := hsp.lt j o ho k hk
          cases h : ls.getD k false with
          | true => rfl
          | false => exact absurd (hmin k (by omega) h) (by omega)⟩
        rw [h0] at this
        cases this
      · obtain ⟨⟨h1, h2⟩, o, ho, h3⟩ := ready_iff.1 hi
        have hip : i < pre.length := by
          rcases Nat.lt_or_ge i pre.length with h | h
          · exact h
          · rcases hsp.full i o h ho with hf | ⟨h4, hf⟩
            · exact absurd (fun j hj => hf (fun j => ls.getD j false) hcl h3 j (by omega)) hall
            · have := h3 _ hf
              rw [hup _ (by omega)] at this
              cases this
        refine pre_stepX (S' := fun j => (ls.setIfInBounds i true).getD j false) hst hsp ht hNH hI hip h2 (fun j => listed_set h1) ho h3 fun g' a' w' hI' => ?_
        refine ih _ g' a' w' (by simp [hsz]) (fun j hj => by rw [listed_set h1, hup j hj]; simp; omega) ?_ hI' ?_
        rotate_left
        · intro j o' hj ho' k hk
          have hj : (ls.setIfInBounds i true).getD j false = true := hj
          show (ls.setIfInBounds i true).getD k false = true
          rw [listed_set h1] at hj ⊢
          simp only [Bool.or_eq_true, beq_iff_eq] at hj ⊢
          rcases hj with hj | rfl
          · exact .inl (hcl j o' hj ho' k hk)
          · rw [ho] at ho'; cases ho'
            exact .inl (h3 k hk)
        have := unlisted_set hsz h1 h2
        omega

theorem drwx_sound (hst : Stays Gl) (hm : P.follows .mixedOrders = true) (hc : compDrw P N ops = some (pre, tail)) {id : Nat} {r : Option Nat} {Q : Exit → Act → World → Prop} {γ c : Nat} {m : List Unit} {s : St} {K : St → Prop} {g : Gh} {a : Act} {w : World}
    (h : awDrwX P Gl γ c m pre tail s K) (hS : Sim B N R0 lo Gl γ c s g a w) (hQ : ∀ s' g' a' w', K s' → Sim B N R0 lo Gl γ (c + ops.size) s' g' a' w' → Q .normal a' w') : (Code.region id ops true).wpIn (Fr r) 0 P Q a w := by
  have hsp := drwSpec hc
  obtain ⟨Hs, hsub, h⟩ := h
  obtain ⟨ds, A1, k1, k0, k2, km, k3, kA, k4⟩ := awPreX_ex (F0 := s.F) m pre [] [] [] [] [] _ rfl rfl h
  simp only [List.nil_append, List.length_nil, Nat.zero_add] at k2 k3 k4 km
  have ht : ToldX P Gl γ c s.F Hs m.length s.T pre ds := ⟨k1, k0, k2, km, k3⟩
  have hrep : ∀ j, (Array.replicate ops.size false).getD j false = false := fun j => by
    rw [Array.getD_eq_getD_getElem?]
    by_cases hj : j < ops.size <;> simp [hj]
  have hnew : ∀ q ∈ Hs, ∀ j x, q.1 ≠ (γ, c + j, x) := fun q hq j x e => by
    obtain ⟨b, hb, _⟩ := hS.ws.heap q (hsub q hq)
    rw [e, (hS.new (c + j) x (by omega)).1] at hb
    cases hb
  refine wpIn_region_any hm ?_
  refine drw_anyX hst hsp ht hS.gam hnew (fun q hq => ?_) (fun t htt => ?_) k4 hQ ops.size _ g a _ (by simp) (fun j _ => hrep j) ?_ ⟨?_, hS.size, hS.ws.drew.weaken (fun q hq => ?_) (fun t htt => ?_), fun i j _ => hS.new _ _ (by omega), hS.gl, hS.low, fun h => absurd ((hrep _).symm.trans h) (by simp)⟩ (fun j o hj => absurd ((hrep j).symm.trans hj) (by simp))
  · rcases kA q hq with h | ⟨_, h⟩ | h
    · cases h
    · cases h
    · exact h
  · obtain ⟨h1, h2⟩ := htt
    refine ⟨?_, fun j d hd hL => h2 (List.mem_flatMap.2 ⟨d, List.mem_of_getElem? hd, hL⟩)⟩
    rcases h1 with h1 | h1
    · obtain ⟨l, hl, htl⟩ := List.mem_flatten.1 h1
      obtain ⟨d, hd, rfl⟩ := List.mem_map.1 hl
      obtain ⟨j, hj⟩ := List.mem_iff_getElem?.1 hd
      exact .inl ⟨j, d, hj, htl⟩
    · exact .inr h1
  · refine Nat.le_trans (List.length_filter_le _ _) (by simp)
  · rw [FD_empty (fun j _ => hrep j)]
    exact hS.frame
  · rcases mem_HD.1 hq with ⟨j, d, hd, hSj, _⟩ | hq
    · have hSj : ((Array.replicate ops.size false).getD j false && !((Array.replicate ops.size false).getD m.length false && j == m.length - 1)) = true := hSj
      rw [hrep] at hSj
      simp at hSj
    · exact hsub q hq
  · rcases htt.1 with ⟨j, d, hd, hSj, _⟩ | h
    · exact absurd ((hrep j).symm.trans hSj) (by simp)
    · exact h
end
end Go.Ab

