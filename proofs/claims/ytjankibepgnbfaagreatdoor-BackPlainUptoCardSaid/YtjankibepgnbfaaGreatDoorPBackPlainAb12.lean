/- Walking: frames as lists, pictures that say less, what a function leaves. -/
import Derived.Test.YtjankibepgnbfaaGreatDoorPBackPlainAb11
import Derived.KernelRfl
set_option linter.unusedVariables false
set_option linter.unusedSimpArgs false
namespace Go.Ab

def qA (d : Nat) (op : IOp) : IOper := ⟨some d, none, op⟩
def qN (op : IOp) : IOper := ⟨none, none, op⟩
def qG (d t : Nat) (b : Bool) (op : IOp) : IOper := ⟨some d, some (t, b), op⟩
def qM (d t : Nat) : IOper := ⟨some d, none, .mov (.t t)⟩
def qE (d t i : Nat) : IOper := ⟨some d, none, .ext (.t t) i⟩
def qL (d t : Nat) : IOper := ⟨some d, none, .ld none (.t t)⟩
def qF (d f t : Nat) : IOper := ⟨some d, none, .fa f (.t t)⟩
def qI (n : Int) : X := .c (.int .i64 n)
def qB (b : Bool) : X := .c (.bool b)
def qC (k : Nat) : X := .c (.fn (.func k) [] [])
theorem AVle.refl (L : List Nm) (x : AV) : AVle L x x := .inl rfl
theorem AVle.und (L : List Nm) (x : AV) : AVle L x .und := .inr (.inl rfl)
theorem AVle.nils (L : List Nm) (sz : Nat) : AVle L .nils (.sl none sz []) := .inr (.inr (.inl ⟨rfl, none, sz, .inl rfl, rfl⟩))

theorem AVle.int {L : List Nm} {k : IntKind} {a b : Int} (h : a = b) : AVle L (.int k a) (.int k b) := by rw [h]; exact .refl _ _

theorem AVle.le {L : List Nm} {x y : AV} (h : RepLe x y) : AVle L x y := .inr (.inr (.inr h))
theorem RepLe.refl (x : AV) : RepLe x x := fun _ _ h => h
theorem RepLe.trans {x y z : AV} (h : RepLe x y) (k : RepLe y z) : RepLe x z := fun g v r => k g v (h g v r)
theorem RepLe.und (x : AV) : RepLe x .und := fun _ _ _ => trivial
theorem RepLe.nils (sz : Nat) : RepLe .nils (.sl none sz []) := fun g v h => by
  have h : v = .slice none 0 0 := h
  subst h
  exact ⟨none, 0, rfl, .inl ⟨.inl rfl, rfl, rfl⟩, fun t' ht => by cases ht⟩
theorem RepLe.anon (t : Option Nm) (sz : Nat) (rows : List (List AV)) : RepLe (.sl t sz rows) (.sl none sz rows) := fun g v ⟨A, cap, e, k, kt⟩ => ⟨A, cap, e, k.imp (fun ⟨_, x⟩ => ⟨.inr rfl, x⟩) _root_.id, fun t' ht => by cases ht⟩
def CellsLe : List AV → List AV → Prop
  | [], [] => True
  | x :: xs, y :: ys => (y.closed = true ∧ RepLe x y) ∧ CellsLe xs ys
  | _, _ => False
def RowsLe : List (List AV) → List (List AV) → Prop
  | [], [] => True
  | x :: xs, y :: ys => CellsLe x y ∧ RowsLe xs ys
  | _, _ => False
theorem CellsLe.rep {imm : Nat → Nat → Option Value} {b : Nat} : ∀ {xs ys : List AV} {o : Nat}, CellsLe xs ys → RepCells imm b o xs → RepCells imm b o ys ∧ ys.length = xs.length
  | [], [], _, _, _ => ⟨trivial, rfl⟩
  | x :: xs, y :: ys, o, ⟨⟨h1, h2⟩, h3⟩, ⟨⟨v, e, k0, k1⟩, k2⟩ => by
    obtain ⟨r1, r2⟩ := h3.rep k2
    exact ⟨⟨⟨v, e, h1, h2 _ _ k1⟩, r1⟩, by simp [r2]⟩
  | [], _ :: _, _, h, _ => h.elim
  | _ :: _, [], _, h, _ => h.elim
theorem RowsLe.rep {imm : Nat → Nat → Option Value} {b sz : Nat} : ∀ {xs ys : List (List AV)} {o : Nat}, RowsLe xs ys → RepRow imm b sz o xs → RepRow imm b sz o ys
  | [], [], _, _, _ => trivial
  | x :: xs, y :: ys, o, ⟨h1, h2⟩, ⟨k1, k2, k3⟩ => by
    obtain ⟨r1, r2⟩ := h1.rep k1
    exact ⟨r1, by rw [r2]; exact k2, h2.rep k3⟩
  | [], _ :: _, _, h, _ => h.elim
  | _ :: _, [], _, h, _ => h.elim
theorem RowsLe.length : ∀ {xs ys : List (List AV)}, RowsLe xs ys → ys.length = xs.length
  | [], [], _ => rfl
  | x :: xs, y :: ys, ⟨_, h⟩ => by simp [h.length]
  | [], _ :: _, h => h.elim
  | _ :: _, [], h => h.elim
theorem RepLe.rows {t : Option Nm} {sz : Nat} {xs ys : List (List AV)} (h : RowsLe xs ys) : RepLe (.sl t sz xs) (.sl t sz ys) := fun g v ⟨A, cap, e, k, kt⟩ => by
  refine ⟨A, cap, by rw [h.length]; exact e, ?_, fun t' ht => by rw [h.length]; exact kt t' ht⟩
  rcases k with ⟨k1, k2, k3⟩ | ⟨b, o, k1, k2, k3, k4, k5⟩
  · subst k3
    cases ys with
    | nil => exact .inl ⟨k1, k2, rfl⟩
    | cons _ _ => exact h.elim
  · exact .inr ⟨b, o, k1, k2, by rw [h.length]; exact k3, k4, h.rep k5⟩
def LeL : List AV → List AV → Prop
  | [], [] => True
  | x :: xs, y :: ys => RepLe x y ∧ LeL xs ys
  | _, _ => False
theorem LeL.rep {g : Gh} : ∀ {xs ys : List AV} {vs : List Value}, LeL xs ys → RepL g xs vs → RepL g ys vs
  | [], [], _, _, e => e
  | x :: xs, y :: ys, _, ⟨h1, h2⟩, ⟨v, rest, e, k1, k2⟩ => ⟨v, rest, e, h1 _ _ k1, h2.rep k2⟩
  | [], _ :: _, _, h, _ => h.elim
  | _ :: _, [], _, h, _ => h.elim
theorem RepLe.agg {xs ys : List AV} (h : LeL xs ys) : RepLe (.agg xs) (.agg ys) := fun g v ⟨vs, e, k⟩ => ⟨vs, e, h.rep k⟩
theorem FSR.args {P : Program} {Gl : Gh → Prop} {k : FuncId} {args args' : List AV} {H0 : Hp} {T0 : List Nm} {R : AV → Hp → List Nm → Prop} (h : FSR P Gl k args' H0 T0 R) (ha : LeL args args') : FSR P Gl k args H0 T0 R :=
  ⟨h.1, fun g w vs f a b c d e i j => h.2 g w vs f a b c d (ha.rep e) i j⟩
theorem FS.args {P : Program} {Gl : Gh → Prop} {k : FuncId} {args args' : List AV} {H0 : Hp} {T0 : List Nm} {r : AV} {H1 : Hp} {T1 : List Nm} (h : FS P Gl k args' H0 T0 r H1 T1) (ha : LeL args args') : FS P Gl k args H0 T0 r H1 T1 := FSR.args h ha
theorem HBle.refl (L : List Nm) : ∀ x : HB, HBle L x x
  | .cells xs => ⟨rfl, fun i x y h1 h2 => by rw [h1] at h2; cases h2; exact .refl _ _⟩
  | .mapp _ => rfl
  | .obj _ => rfl

def lfOK (L : List Nm) (F : Nat → AV) : List (Nat × AV) → Prop
  | [] => True
  | p :: l => AVle L (F p.1) p.2 ∧ lfOK L F l

theorem lfOK.le {L : List Nm} {F : Nat → AV} : ∀ {l : List (Nat × AV)}, lfOK L F l → ∀ t, AVle L (F t) (lf l t)
  | [], _, t => .und _ _
  | p :: l, ⟨h1, h2⟩, t => by
    simp only [lf]
    split
    · rename_i e; subst e; exact h1
    · exact lfOK.le h2 t

theorem Wk.same {γ c n : Nat} {s : St} {l : List (Nat × AV)} (h : lfOK ((List.range n).map fun j => (γ, c, j)) s.F l) : Wk γ c n s ⟨lf l, s.H, s.T⟩ :=
  ⟨h.le, fun p hp => ⟨p, hp, rfl, .refl _ _⟩, fun t ht => .inl ht⟩

theorem c_und  : AV.cells .und = [.und] := rfl
theorem c_int (k : IntKind) (n : Int) : AV.cells (.int k n) = [(.int k n)] := rfl
theorem o_int (k : IntKind) (n : Int) : AV.one (.int k n) = true := rfl
theorem c_bool (b : Bool) : AV.cells (.bool b) = [(.bool b)] := rfl
theorem o_bool (b : Bool) : AV.one (.bool b) = true := rfl
theorem c_str (s : List UInt8) : AV.cells (.str s) = [(.str s)] := rfl
theorem o_str (s : List UInt8) : AV.one (.str s) = true := rfl
theorem c_nilp  : AV.cells .nilp = [.nilp] := rfl
theorem o_nilp  : AV.one .nilp = true := rfl
theorem c_ptr (id : Nm) (off : Nat) : AV.cells (.ptr id off) = [(.ptr id off)] := rfl
theorem o_ptr (id : Nm) (off : Nat) : AV.one (.ptr id off) = true := rfl
theorem c_el (cs : List AV) : AV.cells (.el cs) = [(.el cs)] := rfl
theorem o_el (cs : List AV) : AV.one (.el cs) = true := rfl
theorem c_nils  : AV.cells .nils = [.nils] := rfl
theorem o_nils  : AV.one .nils = true := rfl
theorem c_sl (t : Option Nm) (sz : Nat) (rows : List (List AV)) : AV.cells (.sl t sz rows) = [(.sl t sz rows)] := rfl
theorem o_sl (t : Option Nm) (sz : Nat) (rows : List (List AV)) : AV.one (.sl t sz rows) = true := rfl
theorem s_int (k : IntKind) (n : Int) : AV.strip (.int k n) = .int k n := rfl
theorem s_bool (b : Bool) : AV.strip (.bool b) = .bool b := rfl
theorem s_str (s : List UInt8) : AV.strip (.str s) = .str s := rfl
theorem s_nilp : AV.strip .nilp = .nilp := rfl
theorem s_nils : AV.strip .nils = .nils := rfl
theorem s_nilf : AV.strip .nilf = .nilf := rfl
theorem s_sl (t : Option Nm) (sz : Nat) (rows : List (List AV)) : AV.strip (.sl t sz rows) = .sl none sz rows := rfl
theorem s_fn (f : Fn) (a b : List AV) : AV.strip (.fn f a b) = .fn f (AV.stripL a) (AV.stripL b) := rfl
theorem s_el (cs : List AV) : AV.strip (.el cs) = .el cs := rfl
theorem cl_nil : AV.closedL [] = true := rfl
theorem cl_cons (x : AV) (xs : List AV) : AV.closedL (x :: xs) = (x.closed && AV.closedL xs) := rfl
theorem cl_int (k : IntKind) (n : Int) : AV.closed (.int k n) = true := rfl
theorem cl_bool (b : Bool) : AV.closed (.bool b) = true := rfl
theorem cl_str (s : List UInt8) : AV.closed (.str s) = true := rfl
theorem cl_nilp : AV.closed .nilp = true := rfl
theorem cl_nils : AV.closed .nils = true := rfl
theorem cl_nilf : AV.closed .nilf = true := rfl
theorem cl_sl (sz : Nat) (rows : List (List AV)) : AV.closed (.sl none sz rows) = true := rfl
theorem cl_fn (f : Fn) (a b : List AV) : AV.closed (.fn f a b) = (AV.closedL a && AV.closedL b) := rfl
theorem cl_el (cs : List AV) : AV.closed (.el cs) = true := rfl
theorem c_nilf  : AV.cells .nilf = [.nilf] := rfl
theorem o_nilf  : AV.one .nilf = true := rfl
theorem c_fn (f : Fn) (a b : List AV) : AV.cells (.fn f a b) = [(.fn f a b)] := rfl
theorem o_fn (f : Fn) (a b : List AV) : AV.one (.fn f a b) = true := rfl
theorem c_mp (id : Nm) : AV.cells (.mp id) = [(.mp id)] := rfl
theorem o_mp (id : Nm) : AV.one (.mp id) = true := rfl
theorem c_yl (id : Nm) : AV.cells (.yl id) = [(.yl id)] := rfl
theorem o_yl (id : Nm) : AV.one (.yl id) = true := rfl
theorem c_ms (id : Nm) (sz n : Nat) : AV.cells (.ms id sz n) = [.ms id sz n] := rfl
theorem o_ms (id : Nm) (sz n : Nat) : AV.one (.ms id sz n) = true := rfl
theorem c_slr (k sz : Nat) (rows : List (List AV)) : AV.cells (.slr k sz rows) = [.slr k sz rows] := rfl
theorem o_slr (k sz : Nat) (rows : List (List AV)) : AV.one (.slr k sz rows) = true := rfl
theorem s_slr (k sz : Nat) (rows : List (List AV)) : AV.strip (.slr k sz rows) = .slr k sz rows := rfl
theorem cl_slr (k sz : Nat) (rows : List (List AV)) : AV.closed (.slr k sz rows) = true := rfl
theorem RepLe.slr (k sz : Nat) (rows : List (List AV)) : RepLe (.slr k sz rows) (.sl none sz rows) := fun g v h => slr_sl h
theorem RepLe.room {t : Option Nm} {sz : Nat} {rows : List (List AV)} (h : rows ≠ []) : RepLe (.sl t sz rows) (.slr 0 sz rows) := fun g v ⟨A, cap, e, k, _⟩ => by
  rcases k with ⟨_, _, k⟩ | ⟨b, o, k1, k2, k3, k4, k5⟩
  · exact absurd k h
  · exact ⟨A, cap, e, by rw [k1]; simp, k3, .inr ⟨b, o, k1, k2, k4, k5⟩⟩
theorem Rep.empty {g : Gh} {t : Option Nm} {sz : Nat} {v : Value} (h : Rep g (.sl t sz []) v) : Rep g .nils v ∨ Rep g (.slr 0 sz []) v := by
  obtain ⟨A, cap, e, k, _⟩ := h
  cases A with
  | none =>
    rcases k with ⟨_, k, _⟩ | ⟨b, o, k1, _⟩
    · subst k; exact .inl e
    · cases k1
  | some A =>
    refine .inr ⟨some A, cap, e, by simp, by simp, ?_⟩
    rcases k with ⟨_, k, _⟩ | ⟨b, o, k1, k2, k3, k4, k5⟩
    · exact .inl k
    · exact .inr ⟨b, o, k1, k2, k4, trivial⟩
theorem oneL_nil : oneL [] = True := by simp [oneL]
theorem oneL_cons {x : AV} {xs : List AV} : oneL (x :: xs) = (x.one = true ∧ oneL xs) := by simp [oneL]
theorem c_agg (cs : List AV) : AV.cells (.agg cs) = cs := rfl

theorem Ret.plain {rs : List IRes} {H0 : Hp} {T0 : List Nm} {r : AV} {H1 : Hp} {T1 : List Nm} {γ : Nat} {s : St} (h : resOf s rs = some r) (h1 : rn (fun _ => (0, 0, 0)) r = r) (h2 : ∀ p ∈ H1, p ∈ s.H ∧ rnN (fun _ => (0, 0, 0)) p.1 = p.1 ∧ rnHB (fun _ => (0, 0, 0)) p.2 = p.2) (h3 : ∀ t ∈ T1, s.T t ∧ rnN (fun _ => (0, 0, 0)) t = t)
    (o1 : AV.okIn 0 (H0.map (·.1)) T0 r) (o2 : ∀ p ∈ H1, nmOK 0 (H0.map (·.1)) p.1 ∧ p.2.okIn 0 (H0.map (·.1)) T0) (o3 : ∀ t ∈ T1, nmOK 0 T0 t) : Ret rs H0 T0 r H1 T1 γ s := by
  have e : (fun j => ([] : List Nm).getD j (0, 0, 0)) = fun _ => (0, 0, 0) := by funext j; simp
  refine ⟨[], List.nodup_nil, by simp, ?_, fun p hp => ?_, fun t ht => ?_, o1, o2, o3⟩
  · rw [e, h1, h]
  · rw [e] at hp
    obtain ⟨q, hq, rfl⟩ := List.mem_map.1 hp
    obtain ⟨k1, k2, k3⟩ := h2 q hq
    rw [k2, k3]; exact k1
  · rw [e, (h3 t ht).2]; exact (h3 t ht).1

def AV.flat : AV → Bool
  | .int .. | .bool _ | .str _ | .nilp | .nilf | .nils | .sl none .. | .und | .raw _ | .el _ | .slr .. => true
  | _ => false
theorem flat_rn {f : Nat → Nm} : ∀ {x : AV}, x.flat = true → rn f x = x
  | .int .., _ | .bool _, _ | .str _, _ | .nilp, _ | .nilf, _ | .nils, _ | .sl none .., _ | .und, _ | .raw _, _ | .el _, _ | .slr .., _ => rfl
theorem flat_ok {m : Nat} {L T : List Nm} : ∀ {x : AV}, x.flat = true → x.okIn m L T
  | .int .., _ | .bool _, _ | .str _, _ | .nilp, _ | .nilf, _ | .nils, _ | .sl none .., _ | .und, _ | .raw _, _ | .el _, _ | .slr .., _ => trivial

theorem Ret.flat {rs : List IRes} {r : AV} {γ : Nat} {s : St} (h : resOf s rs = some r) (hr : r.flat = true) : Ret rs [] [] r [] [] γ s :=
  Ret.plain h (flat_rn hr) (by simp) (by simp) (flat_ok hr) (by simp) (by simp)

def AV.flatA : AV → Bool
  | .agg cs => cs.all AV.flat
  | x => x.flat
def AV.flatT : AV → Bool
  | .tup cs => cs.all AV.flatA
  | x => x.flatA
theorem flatL_rn {f : Nat → Nm} : ∀ {cs : List AV}, cs.all AV.flat = true → rnL f cs = cs
  | [], _ => rfl
  | x :: xs, h => by
    simp only [List.all_cons, Bool.and_eq_true] at h
    rw [rnL, flat_rn h.1, flatL_rn h.2]
theorem flatL_ok {m : Nat} {L T : List Nm} : ∀ {cs : List AV}, cs.all AV.flat = true → AV.okInL m L T cs
  | [], _ => trivial
  | x :: xs, h => by
    simp only [List.all_cons, Bool.and_eq_true] at h
    exact ⟨flat_ok h.1, flatL_ok h.2⟩
theorem flatA_rn {f : Nat → Nm} {x : AV} (h : x.flatA = true) : rn f x = x := by
  cases x <;> first | exact flat_rn h | exact congrArg AV.agg (flatL_rn h)
theorem flatA_ok {m : Nat} {L T : List Nm} {x : AV} (h : x.flatA = true) : x.okIn m L T := by
  cases x <;> first | exact flat_ok h | exact flatL_ok h
theorem flatAL_rn {f : Nat → Nm} : ∀ {cs : List AV}, cs.all AV.flatA = true → rnL f cs = cs
  | [], _ => rfl
  | x :: xs, h => by
    simp only [List.all_cons, Bool.and_eq_true] at h
    rw [rnL, flatA_rn h.1, flatAL_rn h.2]
theorem flatAL_ok {m : Nat} {L T : List Nm} : ∀ {cs : List AV}, cs.all AV.flatA = true → AV.okInL m L T cs
  | [], _ => trivial
  | x :: xs, h => by
    simp only [List.all_cons, Bool.and_eq_true] at h
    exact ⟨flatA_ok h.1, flatAL_ok h.2⟩
theorem flatT_rn {f : Nat → Nm} {x : AV} (h : x.flatT = true) : rn f x = x := by
  cases x <;> first | exact flatA_rn h | exact congrArg AV.tup (flatAL_rn h)
theorem flatT_ok {m : Nat} {L T : List Nm} {x : AV} (h : x.flatT = true) : x.okIn m L T := by
  cases x <;> first | exact flatA_ok h | exact flatAL_ok h
theorem Ret.flatT {rs : List IRes} {r : AV} {γ : Nat} {s : St} (h : resOf s rs = some r) (hr : r.flatT = true) : Ret rs [] [] r [] [] γ s :=
  Ret.plain h (flatT_rn hr) (by simp) (by simp) (flatT_ok hr) (by simp) (by simp)
theorem RepLe.anon' {t : Option Nm} {sz : Nat} {rows rows' : List (List AV)} (h : rows = rows') : RepLe (.sl t sz rows) (.sl none sz rows') := by
  subst h; exact RepLe.anon t sz rows

theorem FS.ofW {P : Program} {Gl : Gh → Prop} (hm : P.follows .mixedOrders = true) (hst : Stays Gl) {k : FuncId} {n : Nat} {ic : ICode} {rs : List IRes} (hi : IrOf P k n ic rs)
    {args : List AV} {H0 : Hp} {T0 : List Nm} {r : AV} (hr : r.flatT = true) (hn : args.length ≤ n)
    (h : ∀ γ, 1 ≤ γ → freshFor γ ⟨initF args, H0, (· ∈ T0)⟩ → aw P Gl ic γ 0 ⟨initF args, H0, (· ∈ T0)⟩ fun ex _ _ s => (match ex with | .normal | .ret => True | _ => False) ∧ ((∃ x, resOf s rs = some x ∧ RepLe x r) ∨ ∃ sz rows, r = .sl none sz rows ∧ Frz rs sz rows γ s)) :
    FS P Gl k args H0 T0 r [] [] :=
  FS.ofF hm hst hi hn fun γ a b => aw_mono (h γ a b) fun ex γ c s hh => ⟨hh.1, .inr (hh.2.elim (fun ⟨x, h1, h2⟩ => .inr ⟨rfl, rfl, x, h1, h2, fun _ => flatT_rn hr, flatT_ok hr⟩) fun ⟨sz, rows, h1, h2⟩ => .inl ⟨sz, rows, h1, rfl, rfl, h2⟩)⟩

theorem Ret.flat2 {a b : Nat} {x y : AV} {γ : Nat} {s : St} (hx : x.flat = true := by rfl) (hy : y.flat = true := by rfl) (h1 : s.F a = x := by rfl) (h2 : s.F b = y := by rfl) : Ret [.t a, .t b] [] [] (.tup [x, y]) [] [] γ s := by
  refine Ret.plain (by simp only [resOf, getAll, IRes.get, h1, h2]) (by simp only [rn, rnL, flat_rn hx, flat_rn hy]) (by simp) (by simp) ⟨flat_ok hx, flat_ok hy, trivial⟩ (by simp) (by simp)
theorem getH_nil {id : Nm} : getH [] id = none := rfl
theorem getH_cons {p : Nm × HB} {H : Hp} {id : Nm} : getH (p :: H) id = if p.1 = id then some p.2 else getH H id := rfl
theorem setH_nil {id : Nm} {hb : HB} : setH [] id hb = [] := rfl
theorem setH_cons {p : Nm × HB} {H : Hp} {id : Nm} {hb : HB} : setH (p :: H) id hb = (if p.1 = id then (p.1, hb) else p) :: setH H id hb := rfl
theorem beq_tt : (true == true) = true := rfl
theorem beq_ft : (false == true) = false := rfl
theorem beq_tf : (true == false) = false := rfl
theorem beq_ff : (false == false) = true := rfl
def bldOK (F : Nat → AV) : List (Nat × Nat × X) → Prop
  | [] => True
  | p :: ps => oneL (p.2.2.ev F).cells ∧ bldOK F ps
theorem bldOK_eq {F : Nat → AV} : ∀ {ps : List (Nat × Nat × X)}, bldOK F ps = ∀ p ∈ ps, oneL (p.2.2.ev F).cells
  | [] => by simp [bldOK]
  | p :: ps => by simp only [bldOK, bldOK_eq (ps := ps), List.mem_cons, forall_eq_or_imp]
def rowOK (sz : Nat) : List (List AV) → Prop
  | [] => True
  | x :: xs => (x.length = sz ∧ AV.closedL x = true) ∧ rowOK sz xs
theorem rowOK_eq {sz : Nat} : ∀ {xs : List (List AV)}, rowOK sz xs = ∀ x ∈ xs, x.length = sz ∧ AV.closedL x = true
  | [] => by simp [rowOK]
  | x :: xs => by simp only [rowOK, rowOK_eq (xs := xs), List.mem_cons, forall_eq_or_imp]

/-! ### The walk, as rules: what comes later is a name, not a function's text -/
section
variable (P : Program) (Gl : Gh → Prop)
def kSeq (b : ICode) (Q : Ex → Nat → Nat → St → Prop) : Ex → Nat → Nat → St → Prop := fun ex γ c s => match ex with
  | .normal => aw P Gl b γ c s Q
  | ex => Q ex γ c s
def kBlk (id : Nat) (Q : Ex → Nat → Nat → St → Prop) : Ex → Nat → Nat → St → Prop := fun ex γ c s => match ex with
  | .exit id' => if id' = id then Q .normal γ c s else Q (.exit id') γ c s
  | ex => Q ex γ c s
def kReg (γ c : Nat) (k : Option (List Nat)) (Q : Ex → Nat → Nat → St → Prop) : St → Prop := fun s => Q .normal γ c (s.keep k)
def kLoop (k : ICode) (γ c : Nat) (s : St) (Q : Ex → Nat → Nat → St → Prop) : Prop := LoopP (aw P Gl k) γ c s Q
def kOps (γ i : Nat) (os : List IOper) (d : Option Nat) (F : Nat → AV) (K : St → Prop) : AV → Hp → Tk → Prop := fun v H T => awOps P Gl γ i os ⟨putF F d v, H, T⟩ K
def kRun (γ i : Nat) (o : IOper) (os : List IOper) (s : St) (K : St → Prop) : Prop := awOp P Gl γ i o.op s (kOps P Gl γ (i + 1) os o.d s.F K)
def kSkip (γ i : Nat) (o : IOper) (os : List IOper) (s : St) (K : St → Prop) : Prop := awOps P Gl γ (i + 1) os ⟨putF s.F o.d (.tup []), s.H, s.T⟩ K
def kGp (γ i : Nat) (o : IOper) (os : List IOper) (s : St) (K : St → Prop) : Option Bool → Prop
  | some c => (c = true → stepP o.op s.F s.H s.T (γ, i, 0)) ∧ awOps P Gl γ (i + 1) os ⟨putF s.F o.d (if c = true then stepV o.op s.F s.H s.T (γ, i, 0) else .tup []), s.H, s.T⟩ K
  | none => False
def kGc (γ i : Nat) (o : IOper) (os : List IOper) (s : St) (K : St → Prop) : Option Bool → Prop
  | some c => ((c = true → kRun P Gl γ i o os s K) ∧ (c = false → kSkip P Gl γ i o os s K)) ∨
            ∃ r, (c = true → awOp P Gl γ i o.op s fun v H T => v = r ∧ H = s.H ∧ T = s.T) ∧ awOps P Gl γ (i + 1) os ⟨putF s.F o.d (if c = true then r else .tup []), s.H, s.T⟩ K
  | none => False
def kGuard (γ i : Nat) (o : IOper) (os : List IOper) (s : St) (K : St → Prop) (c : Option Bool) : Prop := if o.op.pure = true then kGp P Gl γ i o os s K c else kGc P Gl γ i o os s K c
def kCond (a b : ICode) (γ c : Nat) (s : St) (Q : Ex → Nat → Nat → St → Prop) (v : AV) : Prop := match v with
  | .bool t => (t = true → aw P Gl a γ c s Q) ∧ (t = false → aw P Gl b γ c s Q)
  | _ => False
def kStep (nm : Nm) (H : Hp) (T : Tk) (K : AV → Hp → Tk → Prop) : Option SR → Prop
  | some r => r.pre ∧ K r.v (r.e.H nm H) (r.e.T nm T)
  | none => False
def kCall (γ i : Nat) (args : List AV) (H : Hp) (T : Tk) (K : AV → Hp → Tk → Prop) : AV → Prop
  | .fn (.func k) first caps => CallP P Gl k (first ++ args ++ caps) H T (fun j => (γ, i, j)) K
  | .yl id => CallY P Gl id args H T K
  | _ => False
variable {P Gl}
variable {γ c i : Nat} {s : St} {Q : Ex → Nat → Nat → St → Prop} {K : St → Prop}
theorem w_skip : aw P Gl .skip γ c s Q = Q .normal γ c s := _root_.id rfl
theorem w_reg {ops : List IOper} {k : Option (List Nat)} : aw P Gl (.reg ops k) γ c s Q = awOps P Gl γ c ops s (kReg γ (c + ops.length) k Q) := _root_.id rfl
theorem w_seq {a b : ICode} : aw P Gl (.seq a b) γ c s Q = aw P Gl a γ c s (kSeq P Gl b Q) := _root_.id rfl
theorem w_cond {x : X} {a b : ICode} : aw P Gl (.cond x a b) γ c s Q = kCond P Gl a b γ c s Q (x.ev s.F) := _root_.id rfl
theorem w_blk {id : Nat} {k : ICode} : aw P Gl (.blk id k) γ c s Q = aw P Gl k γ c s (kBlk id Q) := _root_.id rfl
theorem w_loop {k : ICode} : aw P Gl (.loop k) γ c s Q = kLoop P Gl k γ c s Q := _root_.id rfl
theorem w_exit {id : Nat} : aw P Gl (.exit id) γ c s Q = Q (.exit id) γ c s := _root_.id rfl
theorem w_ret : aw P Gl .ret γ c s Q = Q .ret γ c s := _root_.id rfl
theorem w_kSeq_n {b : ICode} : kSeq P Gl b Q .normal γ c s = aw P Gl b γ c s Q := _root_.id rfl
theorem w_kSeq_e {b : ICode} {id : Nat} : kSeq P Gl b Q (.exit id) γ c s = Q (.exit id) γ c s := _root_.id rfl
theorem w_kSeq_r {b : ICode} : kSeq P Gl b Q .ret γ c s = Q .ret γ c s := _root_.id rfl
theorem w_kBlk_n {id : Nat} : kBlk id Q .normal γ c s = Q .normal γ c s := _root_.id rfl
theorem w_kBlk_e {id id' : Nat} : kBlk id Q (.exit id') γ c s = if id' = id then Q .normal γ c s else Q (.exit id') γ c s := _root_.id rfl
theorem w_kBlk_r {id : Nat} : kBlk id Q .ret γ c s = Q .ret γ c s := _root_.id rfl
theorem w_kReg : kReg γ c none Q s = Q .normal γ c s := _root_.id rfl
theorem w_kRegK {l : List Nat} : kReg γ c (some l) Q s = Q .normal γ c ⟨lf (keepL l s.F), s.H, s.T⟩ := _root_.id rfl
theorem keepL_nil {F : Nat → AV} : keepL [] F = [] := rfl
theorem keepL_cons {k : Nat} {l : List Nat} {F : Nat → AV} : keepL (k :: l) F = (k, F k) :: keepL l F := rfl
theorem w_nil : awOps P Gl γ i [] s K = K s := _root_.id rfl
theorem w_cons {d : Option Nat} {op : IOp} {os : List IOper} : awOps P Gl γ i (⟨d, none, op⟩ :: os) s K = awOp P Gl γ i op s (kOps P Gl γ (i + 1) os d s.F K) := _root_.id rfl
theorem w_consG {d : Option Nat} {t : Nat} {b : Bool} {op : IOp} {os : List IOper} : awOps P Gl γ i (⟨d, some (t, b), op⟩ :: os) s K = kGuard P Gl γ i ⟨d, some (t, b), op⟩ os s K (gcond (s.F t) b) := by
  simp only [awOps, kGuard]
  cases gcond (s.F t) b with
  | none => simp only [kGp, kGc, ite_self]
  | some c => rfl
theorem w_kGuard {d : Option Nat} {g : Option (Nat × Bool)} {op : IOp} {os : List IOper} {c : Option Bool} : kGuard P Gl γ i ⟨d, g, op⟩ os s K c = if op.pure = true then kGp P Gl γ i ⟨d, g, op⟩ os s K c else kGc P Gl γ i ⟨d, g, op⟩ os s K c := _root_.id rfl
theorem w_kGp {d : Option Nat} {g : Option (Nat × Bool)} {op : IOp} {os : List IOper} {c : Bool} : kGp P Gl γ i ⟨d, g, op⟩ os s K (some c) = ((c = true → stepP op s.F s.H s.T (γ, i, 0)) ∧ awOps P Gl γ (i + 1) os ⟨putF s.F d (if c = true then stepV op s.F s.H s.T (γ, i, 0) else .tup []), s.H, s.T⟩ K) := _root_.id rfl
theorem kGc_join {d : Option Nat} {g : Option (Nat × Bool)} {op : IOp} {os : List IOper} {c : Bool} (r : AV) (h1 : c = true → awOp P Gl γ i op s fun v H T => v = r ∧ H = s.H ∧ T = s.T) (h2 : awOps P Gl γ (i + 1) os ⟨putF s.F d (if c = true then r else .tup []), s.H, s.T⟩ K) : kGc P Gl γ i ⟨d, g, op⟩ os s K (some c) := .inr ⟨r, h1, h2⟩
theorem kGc_split {o : IOper} {os : List IOper} {c : Bool} (h1 : c = true → kRun P Gl γ i o os s K) (h2 : c = false → kSkip P Gl γ i o os s K) : kGc P Gl γ i o os s K (some c) := .inl ⟨h1, h2⟩
theorem w_kGc_t {o : IOper} {os : List IOper} : kGc P Gl γ i o os s K (some true) = kRun P Gl γ i o os s K := by
  refine propext ⟨fun h => ?_, fun h => .inl ⟨fun _ => h, fun h => (by cases h)⟩⟩
  rcases h with h | ⟨r, h1, h2⟩
  · exact h.1 rfl
  · rw [if_pos rfl] at h2
    refine awOp_mono (h1 rfl) ?_
    rintro v H T ⟨rfl, rfl, rfl⟩
    exact h2
theorem w_kGc_f {o : IOper} {os : List IOper} : kGc P Gl γ i o os s K (some false) = kSkip P Gl γ i o os s K := by
  refine propext ⟨fun h => ?_, fun h => .inl ⟨fun h => (by cases h), fun _ => h⟩⟩
  rcases h with h | ⟨r, h1, h2⟩
  · exact h.2 rfl
  · simp only [Bool.false_eq_true, if_false] at h2; exact h2
theorem kGc_call {d : Option Nat} {g : Option (Nat × Bool)} {as : List X} {os : List IOper} {c : Bool} {k : FuncId} {first args caps : List AV} {r : AV}
    (h : FS P Gl k args [] [] r [] []) (hr : ∀ f, rn f r = r) (hf : c = true → first ++ as.map (X.ev s.F) ++ caps = args) (h2 : awOps P Gl γ (i + 1) os ⟨putF s.F d (if c = true then r else .tup []), s.H, s.T⟩ K) : kGc P Gl γ i ⟨d, g, .call (.c (.fn (.func k) first caps)) as⟩ os s K (some c) := by
  refine kGc_join r (fun hc => ?_) h2
  simp only [awOp, X.ev, hf hc]
  refine CallP.of h (by simp) (by simp) ⟨hr _, ?_, ?_⟩
  · simp [rnH]
  · funext t; simp
theorem w_kRun {d : Option Nat} {g : Option (Nat × Bool)} {op : IOp} {os : List IOper} : kRun P Gl γ i ⟨d, g, op⟩ os s K = awOp P Gl γ i op s (kOps P Gl γ (i + 1) os d s.F K) := _root_.id rfl
theorem w_kSkip {d : Option Nat} {g : Option (Nat × Bool)} {op : IOp} {os : List IOper} : kSkip P Gl γ i ⟨d, g, op⟩ os s K = awOps P Gl γ (i + 1) os ⟨putF s.F d (.tup []), s.H, s.T⟩ K := _root_.id rfl
theorem w_kOps {os : List IOper} {d : Option Nat} {F : Nat → AV} {v : AV} {H : Hp} {T : Tk} : kOps P Gl γ i os d F K v H T = awOps P Gl γ i os ⟨putF F d v, H, T⟩ K := _root_.id rfl
theorem w_kCond_t {a b : ICode} : kCond P Gl a b γ c s Q (.bool true) = aw P Gl a γ c s Q := by simp [kCond]
theorem w_kCond_f {a b : ICode} : kCond P Gl a b γ c s Q (.bool false) = aw P Gl b γ c s Q := by simp [kCond]
theorem kCond_split {a b : ICode} {x : Bool} (h1 : x = true → kCond P Gl a b γ c s Q (.bool true)) (h2 : x = false → kCond P Gl a b γ c s Q (.bool false)) : kCond P Gl a b γ c s Q (.bool x) := by
  cases x
  · exact h2 rfl
  · exact h1 rfl
theorem w_kStep {nm : Nm} {H : Hp} {T : Tk} {K : AV → Hp → Tk → Prop} {p : Prop} {v : AV} {e : Eff} : kStep nm H T K (some ⟨p, v, e⟩) = (p ∧ K v (e.H nm H) (e.T nm T)) := _root_.id rfl
theorem w_call {f : X} {args : List X} {K : AV → Hp → Tk → Prop} : awOp P Gl γ i (.call f args) s K = kCall P Gl γ i (args.map (X.ev s.F)) s.H s.T K (f.ev s.F) := by
  simp only [awOp, kCall]
  generalize f.ev s.F = fv
  cases fv <;> first | rfl | (rename_i fk _ _; cases fk <;> rfl)
theorem w_kCall_f {k : FuncId} {first args caps : List AV} {H : Hp} {T : Tk} {K : AV → Hp → Tk → Prop} : kCall P Gl γ i args H T K (.fn (.func k) first caps) = CallP P Gl k (first ++ args ++ caps) H T (fun j => (γ, i, j)) K := _root_.id rfl
theorem w_kCall_y {id : Nm} {args : List AV} {H : Hp} {T : Tk} {K : AV → Hp → Tk → Prop} : kCall P Gl γ i args H T K (.yl id) = CallY P Gl id args H T K := _root_.id rfl
theorem w_op {op : IOp} {K : AV → Hp → Tk → Prop} (h : ∀ f a, op ≠ .call f a) : awOp P Gl γ i op s K = kStep (γ, i, 0) s.H s.T K (Ab.step op s.F s.H s.T (γ, i, 0)) := by
  cases op <;> first | exact absurd rfl (h _ _) | (simp only [awOp]; generalize Ab.step _ s.F s.H s.T (γ, i, 0) = r; cases r <;> rfl)
theorem w_rng (x : X) {K : AV → Hp → Tk → Prop} : awOp P Gl γ i (.rng x) s K = kStep (γ, i, 0) s.H s.T K (Ab.step (.rng x) s.F s.H s.T (γ, i, 0)) := w_op (fun _ _ e => by cases e)
theorem w_nxt (x : X) {K : AV → Hp → Tk → Prop} : awOp P Gl γ i (.nxt x) s K = kStep (γ, i, 0) s.H s.T K (Ab.step (.nxt x) s.F s.H s.T (γ, i, 0)) := w_op (fun _ _ e => by cases e)
theorem w_mks (e : TypeId) (b : Nat) (z : AV) (x : X) {K : AV → Hp → Tk → Prop} : awOp P Gl γ i (.mks e b z x) s K = kStep (γ, i, 0) s.H s.T K (Ab.step (.mks e b z x) s.F s.H s.T (γ, i, 0)) := w_op (fun _ _ e => by cases e)
theorem w_mkr (e : TypeId) (b : Nat) (z : AV) (x : X) {K : AV → Hp → Tk → Prop} : awOp P Gl γ i (.mkr e b z x) s K = kStep (γ, i, 0) s.H s.T K (Ab.step (.mkr e b z x) s.F s.H s.T (γ, i, 0)) := w_op (fun _ _ e => by cases e)
theorem w_mkc (e : TypeId) (sz b : Nat) (x : X) {K : AV → Hp → Tk → Prop} : awOp P Gl γ i (.mkc e sz b x) s K = kStep (γ, i, 0) s.H s.T K (Ab.step (.mkc e sz b x) s.F s.H s.T (γ, i, 0)) := w_op (fun _ _ e => by cases e)
theorem w_cvs (x : X) {K : AV → Hp → Tk → Prop} : awOp P Gl γ i (.cvs x) s K = kStep (γ, i, 0) s.H s.T K (Ab.step (.cvs x) s.F s.H s.T (γ, i, 0)) := w_op (fun _ _ e => by cases e)
theorem w_mov (x : X) {K : AV → Hp → Tk → Prop} : awOp P Gl γ i (.mov x) s K = kStep (γ, i, 0) s.H s.T K (Ab.step (.mov x) s.F s.H s.T (γ, i, 0)) := w_op (fun _ _ e => by cases e)
theorem w_pick (c a b : X) {K : AV → Hp → Tk → Prop} : awOp P Gl γ i (.pick c a b) s K = kStep (γ, i, 0) s.H s.T K (Ab.step (.pick c a b) s.F s.H s.T (γ, i, 0)) := w_op (fun _ _ e => by cases e)
theorem w_box (ty : TypeId) (x : X) {K : AV → Hp → Tk → Prop} : awOp P Gl γ i (.box ty x) s K = kStep (γ, i, 0) s.H s.T K (Ab.step (.box ty x) s.F s.H s.T (γ, i, 0)) := w_op (fun _ _ e => by cases e)
theorem w_bld (z : List AV) (ps : List (Nat × Nat × X)) {K : AV → Hp → Tk → Prop} : awOp P Gl γ i (.bld z ps) s K = kStep (γ, i, 0) s.H s.T K (match fillA z (ps.map fun p => (p.1, p.2.1, p.2.2.ev s.F)) with | some cs => some ⟨bldOK s.F ps, .agg cs, .no⟩ | none => none) := by
  rw [w_op (fun _ _ e => by cases e), bldOK_eq]; rfl
theorem w_row (e : TypeId) (sz : Nat) (xs : List X) {K : AV → Hp → Tk → Prop} : awOp P Gl γ i (.row e sz xs) s K = kStep (γ, i, 0) s.H s.T K (some ⟨rowOK sz (xs.map fun x => AV.stripL (x.ev s.F).cells), .sl (some (γ, i, 0)) sz (xs.map fun x => AV.stripL (x.ev s.F).cells), .own⟩) := by
  rw [w_op (fun _ _ e => by cases e), rowOK_eq]; rfl
theorem w_ld (n : Option Nat) (x : X) {K : AV → Hp → Tk → Prop} : awOp P Gl γ i (.ld n x) s K = kStep (γ, i, 0) s.H s.T K (Ab.step (.ld n x) s.F s.H s.T (γ, i, 0)) := w_op (fun _ _ e => by cases e)
theorem w_st (n : Nat) (x v : X) {K : AV → Hp → Tk → Prop} : awOp P Gl γ i (.st n x v) s K = kStep (γ, i, 0) s.H s.T K (Ab.step (.st n x v) s.F s.H s.T (γ, i, 0)) := w_op (fun _ _ e => by cases e)
theorem w_fa (o : Nat) (x : X) {K : AV → Hp → Tk → Prop} : awOp P Gl γ i (.fa o x) s K = kStep (γ, i, 0) s.H s.T K (Ab.step (.fa o x) s.F s.H s.T (γ, i, 0)) := w_op (fun _ _ e => by cases e)
theorem w_fld (o : Nat) (n : Option Nat) (x : X) {K : AV → Hp → Tk → Prop} : awOp P Gl γ i (.fld o n x) s K = kStep (γ, i, 0) s.H s.T K (Ab.step (.fld o n x) s.F s.H s.T (γ, i, 0)) := w_op (fun _ _ e => by cases e)
theorem w_ia (sz : Nat) (x j : X) {K : AV → Hp → Tk → Prop} : awOp P Gl γ i (.ia sz x j) s K = kStep (γ, i, 0) s.H s.T K (Ab.step (.ia sz x j) s.F s.H s.T (γ, i, 0)) := w_op (fun _ _ e => by cases e)
theorem w_iar (l sz : Nat) (x j : X) {K : AV → Hp → Tk → Prop} : awOp P Gl γ i (.iar l sz x j) s K = kStep (γ, i, 0) s.H s.T K (Ab.step (.iar l sz x j) s.F s.H s.T (γ, i, 0)) := w_op (fun _ _ e => by cases e)
theorem w_ixs (x j : X) {K : AV → Hp → Tk → Prop} : awOp P Gl γ i (.ixs x j) s K = kStep (γ, i, 0) s.H s.T K (Ab.step (.ixs x j) s.F s.H s.T (γ, i, 0)) := w_op (fun _ _ e => by cases e)
theorem w_ixa (l sz : Nat) (n : Option Nat) (x j : X) {K : AV → Hp → Tk → Prop} : awOp P Gl γ i (.ixa l sz n x j) s K = kStep (γ, i, 0) s.H s.T K (Ab.step (.ixa l sz n x j) s.F s.H s.T (γ, i, 0)) := w_op (fun _ _ e => by cases e)
theorem w_bin (op : BinOp) (cl : Cls) (x y : X) {K : AV → Hp → Tk → Prop} : awOp P Gl γ i (.bin op cl x y) s K = kStep (γ, i, 0) s.H s.T K (Ab.step (.bin op cl x y) s.F s.H s.T (γ, i, 0)) := w_op (fun _ _ e => by cases e)
theorem w_un (op : UnOp) (x : X) {K : AV → Hp → Tk → Prop} : awOp P Gl γ i (.un op x) s K = kStep (γ, i, 0) s.H s.T K (Ab.step (.un op x) s.F s.H s.T (γ, i, 0)) := w_op (fun _ _ e => by cases e)
theorem w_cvi (k : IntKind) (x : X) {K : AV → Hp → Tk → Prop} : awOp P Gl γ i (.cvi k x) s K = kStep (γ, i, 0) s.H s.T K (Ab.step (.cvi k x) s.F s.H s.T (γ, i, 0)) := w_op (fun _ _ e => by cases e)
theorem w_b2s (x : X) {K : AV → Hp → Tk → Prop} : awOp P Gl γ i (.b2s x) s K = kStep (γ, i, 0) s.H s.T K (Ab.step (.b2s x) s.F s.H s.T (γ, i, 0)) := w_op (fun _ _ e => by cases e)
theorem w_s2b (e : TypeId) (x : X) {K : AV → Hp → Tk → Prop} : awOp P Gl γ i (.s2b e x) s K = kStep (γ, i, 0) s.H s.T K (Ab.step (.s2b e x) s.F s.H s.T (γ, i, 0)) := w_op (fun _ _ e => by cases e)
theorem w_cid (x : X) {K : AV → Hp → Tk → Prop} : awOp P Gl γ i (.cid x) s K = kStep (γ, i, 0) s.H s.T K (Ab.step (.cid x) s.F s.H s.T (γ, i, 0)) := w_op (fun _ _ e => by cases e)
theorem w_mkf (f : Fn) (a b : List X) {K : AV → Hp → Tk → Prop} : awOp P Gl γ i (.mkf f a b) s K = kStep (γ, i, 0) s.H s.T K (Ab.step (.mkf f a b) s.F s.H s.T (γ, i, 0)) := w_op (fun _ _ e => by cases e)
theorem w_mkm  {K : AV → Hp → Tk → Prop} : awOp P Gl γ i (.mkm ) s K = kStep (γ, i, 0) s.H s.T K (Ab.step (.mkm ) s.F s.H s.T (γ, i, 0)) := w_op (fun _ _ e => by cases e)
theorem w_ins (kc : KC) (x k v : X) {K : AV → Hp → Tk → Prop} : awOp P Gl γ i (.ins kc x k v) s K = kStep (γ, i, 0) s.H s.T K (Ab.step (.ins kc x k v) s.F s.H s.T (γ, i, 0)) := w_op (fun _ _ e => by cases e)
theorem w_lkp (kc : KC) (z : AV) (ok : Bool) (x k : X) {K : AV → Hp → Tk → Prop} : awOp P Gl γ i (.lkp kc z ok x k) s K = kStep (γ, i, 0) s.H s.T K (Ab.step (.lkp kc z ok x k) s.F s.H s.T (γ, i, 0)) := w_op (fun _ _ e => by cases e)
theorem w_sls (x : X) (lo hi : Option X) {K : AV → Hp → Tk → Prop} : awOp P Gl γ i (.sls x lo hi) s K = kStep (γ, i, 0) s.H s.T K (Ab.step (.sls x lo hi) s.F s.H s.T (γ, i, 0)) := w_op (fun _ _ e => by cases e)
theorem w_sll (sz : Nat) (x : X) (lo hi mx : Option X) {K : AV → Hp → Tk → Prop} : awOp P Gl γ i (.sll sz x lo hi mx) s K = kStep (γ, i, 0) s.H s.T K (Ab.step (.sll sz x lo hi mx) s.F s.H s.T (γ, i, 0)) := w_op (fun _ _ e => by cases e)
theorem w_len (x : X) {K : AV → Hp → Tk → Prop} : awOp P Gl γ i (.len x) s K = kStep (γ, i, 0) s.H s.T K (Ab.step (.len x) s.F s.H s.T (γ, i, 0)) := w_op (fun _ _ e => by cases e)
theorem w_lns (x : X) {K : AV → Hp → Tk → Prop} : awOp P Gl γ i (.lns x) s K = kStep (γ, i, 0) s.H s.T K (Ab.step (.lns x) s.F s.H s.T (γ, i, 0)) := w_op (fun _ _ e => by cases e)
theorem w_app (e : TypeId) (sz b : Nat) (x y : X) {K : AV → Hp → Tk → Prop} : awOp P Gl γ i (.app e sz b x y) s K = kStep (γ, i, 0) s.H s.T K (Ab.step (.app e sz b x y) s.F s.H s.T (γ, i, 0)) := w_op (fun _ _ e => by cases e)
theorem w_aps (e : TypeId) (x y : X) {K : AV → Hp → Tk → Prop} : awOp P Gl γ i (.aps e x y) s K = kStep (γ, i, 0) s.H s.T K (Ab.step (.aps e x y) s.F s.H s.T (γ, i, 0)) := w_op (fun _ _ e => by cases e)
theorem w_mm (b : Bool) (x y : X) {K : AV → Hp → Tk → Prop} : awOp P Gl γ i (.mm b x y) s K = kStep (γ, i, 0) s.H s.T K (Ab.step (.mm b x y) s.F s.H s.T (γ, i, 0)) := w_op (fun _ _ e => by cases e)
theorem w_ext (x : X) (n : Nat) {K : AV → Hp → Tk → Prop} : awOp P Gl γ i (.ext x n) s K = kStep (γ, i, 0) s.H s.T K (Ab.step (.ext x n) s.F s.H s.T (γ, i, 0)) := w_op (fun _ _ e => by cases e)
theorem w_nck (x : X) {K : AV → Hp → Tk → Prop} : awOp P Gl γ i (.nck x) s K = kStep (γ, i, 0) s.H s.T K (Ab.step (.nck x) s.F s.H s.T (γ, i, 0)) := w_op (fun _ _ e => by cases e)

end
def eatOK (T : Tk) (bf : List Nat) (acc : List (List Nm)) : List Nm → Prop
  | [] => True
  | t :: ts => (T t ∨ ∃ j ∈ bf, t ∈ acc.getD j []) ∧ eatOK T bf acc ts
theorem eatOK_eq {T : Tk} {bf : List Nat} {acc : List (List Nm)} : ∀ {l : List Nm}, (∀ t ∈ l, T t ∨ ∃ j ∈ bf, t ∈ acc.getD j []) = eatOK T bf acc l
  | [] => by simp [eatOK]
  | t :: ts => by simp only [eatOK, ← eatOK_eq (l := ts), List.mem_cons, forall_eq_or_imp]
section
variable (P : Program) (Gl : Gh → Prop)
def kTail (γ c : Nat) (tail : List IOper) (H : Hp) (T : Tk) (K : St → Prop) : (Nat → AV) → Hp → List Nm → List Nm → Prop := fun F A Ns Ls => awOps P Gl γ c tail ⟨F, A ++ H, fun t => (t ∈ Ns ∨ T t) ∧ t ∉ Ls⟩ K
def kPre (γ c : Nat) (H : Hp) (T : Tk) (i : Nat) (ps : List PreOp) (F : Nat → AV) (d : Option Nat) (A : Hp) (acc : List (List Nm)) (Ls : List Nm) (K : (Nat → AV) → Hp → List Nm → List Nm → Prop) : DR → Prop := fun x => awPre P Gl γ c H T i ps (putF F d x.v) (x.A ++ A) (acc ++ [x.N]) Ls K
def kPreG (γ c : Nat) (H : Hp) (T : Tk) (i : Nat) (p : PreOp) (b : Bool) (ps : List PreOp) (F : Nat → AV) (A : Hp) (acc : List (List Nm)) (Ls : List Nm) (K : (Nat → AV) → Hp → List Nm → List Nm → Prop) (v : AV) : Prop := match v with
  | .bool x => (x = b → (∀ t ∈ eats p.o.op F, T t ∨ ∃ j ∈ p.bf, t ∈ acc.getD j []) ∧
      awD P Gl γ (c + i) p.o.op (mask p.o.op.sl F) H (eats p.o.op F) (kPre P Gl γ c H T (i + 1) ps F p.o.d A acc (Ls ++ eats p.o.op F) K)) ∧
    (x = !b → awPre P Gl γ c H T (i + 1) ps (putF F p.o.d (.tup [])) A (acc ++ [[]]) Ls K)
  | .tup [] => awPre P Gl γ c H T (i + 1) ps (putF F p.o.d (.tup [])) A (acc ++ [[]]) Ls K
  | _ => False
def kDr (nm : Nm) (K : DR → Prop) : Option SR → Prop
  | some r => r.pre ∧ (match r.e with
    | .no => K ⟨r.v, [], []⟩
    | .blk hb => K ⟨r.v, [(nm, hb)], []⟩
    | .own | .app _ => K ⟨r.v, [], [nm]⟩
    | .eat _ => K ⟨r.v, [], []⟩
    | .set .. => False)
  | none => False
variable {P Gl}
variable {γ c i : Nat} {s : St} {Q : Ex → Nat → Nat → St → Prop} {K : St → Prop}
theorem w_drw {pre : List PreOp} {tail : List IOper} {k : Option (List Nat)} : aw P Gl (.drw pre tail k) γ c s Q = awPre P Gl γ c s.H s.T 0 pre s.F [] [] [] (kTail P Gl γ (c + pre.length) tail s.H s.T (kReg γ (c + (pre.length + tail.length)) k Q)) := _root_.id rfl
theorem w_kTail {tail : List IOper} {H A : Hp} {T : Tk} {F : Nat → AV} {Ns Ls : List Nm} : kTail P Gl γ c tail H T K F A Ns Ls = awOps P Gl γ c tail ⟨F, A ++ H, fun t => (t ∈ Ns ∨ T t) ∧ t ∉ Ls⟩ K := _root_.id rfl
theorem w_kTail0 {tail : List IOper} {H A : Hp} {T : Tk} {F : Nat → AV} : kTail P Gl γ c tail H T K F A [] [] = awOps P Gl γ c tail ⟨F, A ++ H, T⟩ K := by
  have e : (fun t => (t ∈ ([] : List Nm) ∨ T t) ∧ t ∉ ([] : List Nm)) = T := by funext t; simp
  rw [w_kTail, e]
theorem w_kTailN {tail : List IOper} {H A : Hp} {T : Tk} {F : Nat → AV} {n : Nm} {Ns Ls : List Nm} : kTail P Gl γ c tail H T K F A (n :: Ns) Ls = awOps P Gl γ c tail ⟨F, A ++ H, fun t => (t ∈ n :: Ns ∨ T t) ∧ t ∉ Ls⟩ K := _root_.id rfl
theorem w_kTailL {tail : List IOper} {H A : Hp} {T : Tk} {F : Nat → AV} {n : Nm} {Ls : List Nm} : kTail P Gl γ c tail H T K F A [] (n :: Ls) = awOps P Gl γ c tail ⟨F, A ++ H, fun t => T t ∧ t ∉ n :: Ls⟩ K := by
  have e : (fun t => (t ∈ ([] : List Nm) ∨ T t) ∧ t ∉ n :: Ls) = fun t => T t ∧ t ∉ n :: Ls := by funext t; simp
  rw [w_kTail, e]
theorem w_pnil {H A : Hp} {T : Tk} {F : Nat → AV} {acc : List (List Nm)} {Ls : List Nm} {K : (Nat → AV) → Hp → List Nm → List Nm → Prop} : awPre P Gl γ c H T i [] F A acc Ls K = (Ls.Nodup ∧ K F A acc.flatten Ls) := _root_.id rfl
theorem w_pcons {d : Option Nat} {op : IOp} {bf : List Nat} {ps : List PreOp} {H A : Hp} {T : Tk} {F : Nat → AV} {acc : List (List Nm)} {Ls : List Nm} {K : (Nat → AV) → Hp → List Nm → List Nm → Prop} : awPre P Gl γ c H T i (⟨⟨d, none, op⟩, bf⟩ :: ps) F A acc Ls K =
    (eatOK T bf acc (eats op F) ∧ awD P Gl γ (c + i) op (mask op.sl F) H (eats op F) (kPre P Gl γ c H T (i + 1) ps F d A acc (Ls ++ eats op F) K)) := by rw [← eatOK_eq]; rfl
theorem w_pconsG {d : Option Nat} {t : Nat} {b : Bool} {op : IOp} {bf : List Nat} {ps : List PreOp} {H A : Hp} {T : Tk} {F : Nat → AV} {acc : List (List Nm)} {Ls : List Nm} {K : (Nat → AV) → Hp → List Nm → List Nm → Prop} : awPre P Gl γ c H T i (⟨⟨d, some (t, b), op⟩, bf⟩ :: ps) F A acc Ls K =
    kPreG P Gl γ c H T i ⟨⟨d, some (t, b), op⟩, bf⟩ b ps F A acc Ls K (F t) := _root_.id rfl
theorem w_kPreG_tt {d : Option Nat} {g : Option (Nat × Bool)} {op : IOp} {bf : List Nat} {ps : List PreOp} {H A : Hp} {T : Tk} {F : Nat → AV} {acc : List (List Nm)} {Ls : List Nm} {K : (Nat → AV) → Hp → List Nm → List Nm → Prop} : kPreG P Gl γ c H T i ⟨⟨d, g, op⟩, bf⟩ true ps F A acc Ls K (.bool true) = (eatOK T bf acc (eats op F) ∧ awD P Gl γ (c + i) op (mask op.sl F) H (eats op F) (kPre P Gl γ c H T (i + 1) ps F d A acc (Ls ++ eats op F) K)) := by simp [kPreG, ← eatOK_eq]
theorem w_kPreG_tf {d : Option Nat} {g : Option (Nat × Bool)} {op : IOp} {bf : List Nat} {ps : List PreOp} {H A : Hp} {T : Tk} {F : Nat → AV} {acc : List (List Nm)} {Ls : List Nm} {K : (Nat → AV) → Hp → List Nm → List Nm → Prop} : kPreG P Gl γ c H T i ⟨⟨d, g, op⟩, bf⟩ true ps F A acc Ls K (.bool false) = awPre P Gl γ c H T (i + 1) ps (putF F d (.tup [])) A (acc ++ [[]]) Ls K := by simp [kPreG]
theorem w_kPreG_ft {d : Option Nat} {g : Option (Nat × Bool)} {op : IOp} {bf : List Nat} {ps : List PreOp} {H A : Hp} {T : Tk} {F : Nat → AV} {acc : List (List Nm)} {Ls : List Nm} {K : (Nat → AV) → Hp → List Nm → List Nm → Prop} : kPreG P Gl γ c H T i ⟨⟨d, g, op⟩, bf⟩ false ps F A acc Ls K (.bool true) = awPre P Gl γ c H T (i + 1) ps (putF F d (.tup [])) A (acc ++ [[]]) Ls K := by simp [kPreG]
theorem w_kPreG_ff {d : Option Nat} {g : Option (Nat × Bool)} {op : IOp} {bf : List Nat} {ps : List PreOp} {H A : Hp} {T : Tk} {F : Nat → AV} {acc : List (List Nm)} {Ls : List Nm} {K : (Nat → AV) → Hp → List Nm → List Nm → Prop} : kPreG P Gl γ c H T i ⟨⟨d, g, op⟩, bf⟩ false ps F A acc Ls K (.bool false) = (eatOK T bf acc (eats op F) ∧ awD P Gl γ (c + i) op (mask op.sl F) H (eats op F) (kPre P Gl γ c H T (i + 1) ps F d A acc (Ls ++ eats op F) K)) := by simp [kPreG, ← eatOK_eq]
theorem kPreG_split {p : PreOp} {b x : Bool} {ps : List PreOp} {H A : Hp} {T : Tk} {F : Nat → AV} {acc : List (List Nm)} {Ls : List Nm} {K : (Nat → AV) → Hp → List Nm → List Nm → Prop} (h1 : x = true → kPreG P Gl γ c H T i p b ps F A acc Ls K (.bool true)) (h2 : x = false → kPreG P Gl γ c H T i p b ps F A acc Ls K (.bool false)) : kPreG P Gl γ c H T i p b ps F A acc Ls K (.bool x) := by
  cases x
  · exact h2 rfl
  · exact h1 rfl
theorem w_kPreG0 {p : PreOp} {b : Bool} {ps : List PreOp} {H A : Hp} {T : Tk} {F : Nat → AV} {acc : List (List Nm)} {Ls : List Nm} {K : (Nat → AV) → Hp → List Nm → List Nm → Prop} : kPreG P Gl γ c H T i p b ps F A acc Ls K (.tup []) = awPre P Gl γ c H T (i + 1) ps (putF F p.o.d (.tup [])) A (acc ++ [[]]) Ls K := _root_.id rfl
theorem w_kPre {ps : List PreOp} {H A : Hp} {T : Tk} {F : Nat → AV} {d : Option Nat} {acc : List (List Nm)} {Ls : List Nm} {K : (Nat → AV) → Hp → List Nm → List Nm → Prop} {v : AV} {A' : Hp} {N : List Nm} : kPre P Gl γ c H T i ps F d A acc Ls K ⟨v, A', N⟩ = awPre P Gl γ c H T i ps (putF F d v) (A' ++ A) (acc ++ [N]) Ls K := _root_.id rfl
theorem w_dr_no {nm : Nm} {K : DR → Prop} {p : Prop} {v : AV} : kDr nm K (some ⟨p, v, .no⟩) = (p ∧ K ⟨v, [], []⟩) := _root_.id rfl
theorem w_dr_blk {nm : Nm} {K : DR → Prop} {p : Prop} {v : AV} {hb : HB} : kDr nm K (some ⟨p, v, .blk hb⟩) = (p ∧ K ⟨v, [(nm, hb)], []⟩) := _root_.id rfl
theorem w_dr_own {nm : Nm} {K : DR → Prop} {p : Prop} {v : AV} : kDr nm K (some ⟨p, v, .own⟩) = (p ∧ K ⟨v, [], [nm]⟩) := _root_.id rfl
theorem w_dr_app {nm : Nm} {K : DR → Prop} {p : Prop} {v : AV} {t : Option Nm} : kDr nm K (some ⟨p, v, .app t⟩) = (p ∧ K ⟨v, [], [nm]⟩) := _root_.id rfl
theorem w_dr_eat {nm : Nm} {K : DR → Prop} {p : Prop} {v : AV} {t : Nm} : kDr nm K (some ⟨p, v, .eat t⟩) = (p ∧ K ⟨v, [], []⟩) := _root_.id rfl
theorem w_d {op : IOp} {F : Nat → AV} {H : Hp} {L : List Nm} {K : DR → Prop} (h : ∀ f a, op ≠ .call f a) : awD P Gl γ i op F H L K = kDr (γ, i, 0) K (Ab.step op F H (· ∈ L) (γ, i, 0)) := by
  cases op <;> first | exact absurd rfl (h _ _) | (simp only [awD]; generalize Ab.step _ F H (· ∈ L) (γ, i, 0) = r; cases r <;> rfl)
theorem d_mov (x : X) {F : Nat → AV} {H : Hp} {L : List Nm} {K : DR → Prop} : awD P Gl γ i (.mov x) F H L K = kDr (γ, i, 0) K (Ab.step (.mov x) F H (· ∈ L) (γ, i, 0)) := w_d (fun _ _ e => by cases e)
theorem d_pick (c a b : X) {F : Nat → AV} {H : Hp} {L : List Nm} {K : DR → Prop} : awD P Gl γ i (.pick c a b) F H L K = kDr (γ, i, 0) K (Ab.step (.pick c a b) F H (· ∈ L) (γ, i, 0)) := w_d (fun _ _ e => by cases e)
theorem d_box (ty : TypeId) (x : X) {F : Nat → AV} {H : Hp} {L : List Nm} {K : DR → Prop} : awD P Gl γ i (.box ty x) F H L K = kDr (γ, i, 0) K (Ab.step (.box ty x) F H (· ∈ L) (γ, i, 0)) := w_d (fun _ _ e => by cases e)
theorem d_bld (z : List AV) (ps : List (Nat × Nat × X)) {F : Nat → AV} {H : Hp} {L : List Nm} {K : DR → Prop} : awD P Gl γ i (.bld z ps) F H L K = kDr (γ, i, 0) K (Ab.step (.bld z ps) F H (· ∈ L) (γ, i, 0)) := w_d (fun _ _ e => by cases e)
theorem d_row (e : TypeId) (sz : Nat) (xs : List X) {F : Nat → AV} {H : Hp} {L : List Nm} {K : DR → Prop} : awD P Gl γ i (.row e sz xs) F H L K = kDr (γ, i, 0) K (Ab.step (.row e sz xs) F H (· ∈ L) (γ, i, 0)) := w_d (fun _ _ e => by cases e)
theorem d_ld (n : Option Nat) (x : X) {F : Nat → AV} {H : Hp} {L : List Nm} {K : DR → Prop} : awD P Gl γ i (.ld n x) F H L K = kDr (γ, i, 0) K (Ab.step (.ld n x) F H (· ∈ L) (γ, i, 0)) := w_d (fun _ _ e => by cases e)
theorem d_fa (o : Nat) (x : X) {F : Nat → AV} {H : Hp} {L : List Nm} {K : DR → Prop} : awD P Gl γ i (.fa o x) F H L K = kDr (γ, i, 0) K (Ab.step (.fa o x) F H (· ∈ L) (γ, i, 0)) := w_d (fun _ _ e => by cases e)
theorem d_fld (o : Nat) (n : Option Nat) (x : X) {F : Nat → AV} {H : Hp} {L : List Nm} {K : DR → Prop} : awD P Gl γ i (.fld o n x) F H L K = kDr (γ, i, 0) K (Ab.step (.fld o n x) F H (· ∈ L) (γ, i, 0)) := w_d (fun _ _ e => by cases e)
theorem d_ia (sz : Nat) (x j : X) {F : Nat → AV} {H : Hp} {L : List Nm} {K : DR → Prop} : awD P Gl γ i (.ia sz x j) F H L K = kDr (γ, i, 0) K (Ab.step (.ia sz x j) F H (· ∈ L) (γ, i, 0)) := w_d (fun _ _ e => by cases e)
theorem d_iar (l sz : Nat) (x j : X) {F : Nat → AV} {H : Hp} {L : List Nm} {K : DR → Prop} : awD P Gl γ i (.iar l sz x j) F H L K = kDr (γ, i, 0) K (Ab.step (.iar l sz x j) F H (· ∈ L) (γ, i, 0)) := w_d (fun _ _ e => by cases e)
theorem d_ixs (x j : X) {F : Nat → AV} {H : Hp} {L : List Nm} {K : DR → Prop} : awD P Gl γ i (.ixs x j) F H L K = kDr (γ, i, 0) K (Ab.step (.ixs x j) F H (· ∈ L) (γ, i, 0)) := w_d (fun _ _ e => by cases e)
theorem d_ixa (l sz : Nat) (n : Option Nat) (x j : X) {F : Nat → AV} {H : Hp} {L : List Nm} {K : DR → Prop} : awD P Gl γ i (.ixa l sz n x j) F H L K = kDr (γ, i, 0) K (Ab.step (.ixa l sz n x j) F H (· ∈ L) (γ, i, 0)) := w_d (fun _ _ e => by cases e)
theorem d_bin (op : BinOp) (cl : Cls) (x y : X) {F : Nat → AV} {H : Hp} {L : List Nm} {K : DR → Prop} : awD P Gl γ i (.bin op cl x y) F H L K = kDr (γ, i, 0) K (Ab.step (.bin op cl x y) F H (· ∈ L) (γ, i, 0)) := w_d (fun _ _ e => by cases e)
theorem d_un (op : UnOp) (x : X) {F : Nat → AV} {H : Hp} {L : List Nm} {K : DR → Prop} : awD P Gl γ i (.un op x) F H L K = kDr (γ, i, 0) K (Ab.step (.un op x) F H (· ∈ L) (γ, i, 0)) := w_d (fun _ _ e => by cases e)
theorem d_cvi (k : IntKind) (x : X) {F : Nat → AV} {H : Hp} {L : List Nm} {K : DR → Prop} : awD P Gl γ i (.cvi k x) F H L K = kDr (γ, i, 0) K (Ab.step (.cvi k x) F H (· ∈ L) (γ, i, 0)) := w_d (fun _ _ e => by cases e)
theorem d_b2s (x : X) {F : Nat → AV} {H : Hp} {L : List Nm} {K : DR → Prop} : awD P Gl γ i (.b2s x) F H L K = kDr (γ, i, 0) K (Ab.step (.b2s x) F H (· ∈ L) (γ, i, 0)) := w_d (fun _ _ e => by cases e)
theorem d_s2b (e : TypeId) (x : X) {F : Nat → AV} {H : Hp} {L : List Nm} {K : DR → Prop} : awD P Gl γ i (.s2b e x) F H L K = kDr (γ, i, 0) K (Ab.step (.s2b e x) F H (· ∈ L) (γ, i, 0)) := w_d (fun _ _ e => by cases e)
theorem d_cid (x : X) {F : Nat → AV} {H : Hp} {L : List Nm} {K : DR → Prop} : awD P Gl γ i (.cid x) F H L K = kDr (γ, i, 0) K (Ab.step (.cid x) F H (· ∈ L) (γ, i, 0)) := w_d (fun _ _ e => by cases e)
theorem d_mkf (f : Fn) (a b : List X) {F : Nat → AV} {H : Hp} {L : List Nm} {K : DR → Prop} : awD P Gl γ i (.mkf f a b) F H L K = kDr (γ, i, 0) K (Ab.step (.mkf f a b) F H (· ∈ L) (γ, i, 0)) := w_d (fun _ _ e => by cases e)
theorem d_mkm  {F : Nat → AV} {H : Hp} {L : List Nm} {K : DR → Prop} : awD P Gl γ i (.mkm ) F H L K = kDr (γ, i, 0) K (Ab.step (.mkm ) F H (· ∈ L) (γ, i, 0)) := w_d (fun _ _ e => by cases e)
theorem d_lkp (kc : KC) (z : AV) (ok : Bool) (x k : X) {F : Nat → AV} {H : Hp} {L : List Nm} {K : DR → Prop} : awD P Gl γ i (.lkp kc z ok x k) F H L K = kDr (γ, i, 0) K (Ab.step (.lkp kc z ok x k) F H (· ∈ L) (γ, i, 0)) := w_d (fun _ _ e => by cases e)
theorem d_sls (x : X) (lo hi : Option X) {F : Nat → AV} {H : Hp} {L : List Nm} {K : DR → Prop} : awD P Gl γ i (.sls x lo hi) F H L K = kDr (γ, i, 0) K (Ab.step (.sls x lo hi) F H (· ∈ L) (γ, i, 0)) := w_d (fun _ _ e => by cases e)
theorem d_sll (sz : Nat) (x : X) (lo hi mx : Option X) {F : Nat → AV} {H : Hp} {L : List Nm} {K : DR → Prop} : awD P Gl γ i (.sll sz x lo hi mx) F H L K = kDr (γ, i, 0) K (Ab.step (.sll sz x lo hi mx) F H (· ∈ L) (γ, i, 0)) := w_d (fun _ _ e => by cases e)
theorem d_len (x : X) {F : Nat → AV} {H : Hp} {L : List Nm} {K : DR → Prop} : awD P Gl γ i (.len x) F H L K = kDr (γ, i, 0) K (Ab.step (.len x) F H (· ∈ L) (γ, i, 0)) := w_d (fun _ _ e => by cases e)
theorem d_lns (x : X) {F : Nat → AV} {H : Hp} {L : List Nm} {K : DR → Prop} : awD P Gl γ i (.lns x) F H L K = kDr (γ, i, 0) K (Ab.step (.lns x) F H (· ∈ L) (γ, i, 0)) := w_d (fun _ _ e => by cases e)
theorem d_app (e : TypeId) (sz b : Nat) (x y : X) {F : Nat → AV} {H : Hp} {L : List Nm} {K : DR → Prop} : awD P Gl γ i (.app e sz b x y) F H L K = kDr (γ, i, 0) K (Ab.step (.app e sz b x y) F H (· ∈ L) (γ, i, 0)) := w_d (fun _ _ e => by cases e)
theorem d_aps (e : TypeId) (x y : X) {F : Nat → AV} {H : Hp} {L : List Nm} {K : DR → Prop} : awD P Gl γ i (.aps e x y) F H L K = kDr (γ, i, 0) K (Ab.step (.aps e x y) F H (· ∈ L) (γ, i, 0)) := w_d (fun _ _ e => by cases e)
theorem d_mm (b : Bool) (x y : X) {F : Nat → AV} {H : Hp} {L : List Nm} {K : DR → Prop} : awD P Gl γ i (.mm b x y) F H L K = kDr (γ, i, 0) K (Ab.step (.mm b x y) F H (· ∈ L) (γ, i, 0)) := w_d (fun _ _ e => by cases e)
theorem d_ext (x : X) (n : Nat) {F : Nat → AV} {H : Hp} {L : List Nm} {K : DR → Prop} : awD P Gl γ i (.ext x n) F H L K = kDr (γ, i, 0) K (Ab.step (.ext x n) F H (· ∈ L) (γ, i, 0)) := w_d (fun _ _ e => by cases e)
theorem d_nck (x : X) {F : Nat → AV} {H : Hp} {L : List Nm} {K : DR → Prop} : awD P Gl γ i (.nck x) F H L K = kDr (γ, i, 0) K (Ab.step (.nck x) F H (· ∈ L) (γ, i, 0)) := w_d (fun _ _ e => by cases e)
theorem d_rng (x : X) {F : Nat → AV} {H : Hp} {L : List Nm} {K : DR → Prop} : awD P Gl γ i (.rng x) F H L K = kDr (γ, i, 0) K (Ab.step (.rng x) F H (· ∈ L) (γ, i, 0)) := w_d (fun _ _ e => by cases e)
theorem d_mks (e : TypeId) (b : Nat) (z : AV) (x : X) {F : Nat → AV} {H : Hp} {L : List Nm} {K : DR → Prop} : awD P Gl γ i (.mks e b z x) F H L K = kDr (γ, i, 0) K (Ab.step (.mks e b z x) F H (· ∈ L) (γ, i, 0)) := w_d (fun _ _ e => by cases e)
theorem d_mkr (e : TypeId) (b : Nat) (z : AV) (x : X) {F : Nat → AV} {H : Hp} {L : List Nm} {K : DR → Prop} : awD P Gl γ i (.mkr e b z x) F H L K = kDr (γ, i, 0) K (Ab.step (.mkr e b z x) F H (· ∈ L) (γ, i, 0)) := w_d (fun _ _ e => by cases e)
theorem d_mkc (e : TypeId) (sz b : Nat) (x : X) {F : Nat → AV} {H : Hp} {L : List Nm} {K : DR → Prop} : awD P Gl γ i (.mkc e sz b x) F H L K = kDr (γ, i, 0) K (Ab.step (.mkc e sz b x) F H (· ∈ L) (γ, i, 0)) := w_d (fun _ _ e => by cases e)
theorem d_cvs (x : X) {F : Nat → AV} {H : Hp} {L : List Nm} {K : DR → Prop} : awD P Gl γ i (.cvs x) F H L K = kDr (γ, i, 0) K (Ab.step (.cvs x) F H (· ∈ L) (γ, i, 0)) := w_d (fun _ _ e => by cases e)
def DCall (P : Program) (Gl : Gh → Prop) (k : FuncId) (args : List AV) (γ i : Nat) (H : Hp) (K : DR → Prop) : Prop :=
  ∃ H0 r H1 T1 A, FS P Gl k args H0 [] r H1 T1 ∧ (∀ p ∈ H0, p ∈ H) ∧ (∀ p ∈ H, ∀ q ∈ H0, p.1 = q.1 → p = q) ∧
    rnH (fun j => (γ, i, j)) H1 = A ++ H0 ∧ (∀ p ∈ A, ∃ j, p.1 = (γ, i, j)) ∧ K ⟨rn (fun j => (γ, i, j)) r, A, T1.map (rnN fun j => (γ, i, j))⟩
def kDCall (P : Program) (Gl : Gh → Prop) (γ i : Nat) (args : List AV) (H : Hp) (K : DR → Prop) : AV → Prop
  | .fn (.func k) first caps => DCall P Gl k (first ++ args ++ caps) γ i H K
  | _ => False
theorem d_call {f : X} {args : List X} {F : Nat → AV} {H : Hp} {L : List Nm} {K : DR → Prop} : awD P Gl γ i (.call f args) F H L K = kDCall P Gl γ i (args.map (X.ev F)) H K (f.ev F) := by
  simp only [awD, kDCall]
  generalize f.ev F = fv
  cases fv <;> first | rfl | (rename_i fk _ _; cases fk <;> rfl)
theorem kDCall_f {k : FuncId} {first args caps : List AV} {H : Hp} {K : DR → Prop} : kDCall P Gl γ i args H K (.fn (.func k) first caps) = DCall P Gl k (first ++ args ++ caps) γ i H K := _root_.id rfl
theorem DCall.new {k : FuncId} {args : List AV} {H : Hp} {K : DR → Prop} {r : AV} {T1 : List Nm} (h : FS P Gl k args [] [] r [] T1) (hK : K ⟨rn (fun j => (γ, i, j)) r, [], T1.map (rnN fun j => (γ, i, j))⟩) : DCall P Gl k args γ i H K :=
  ⟨[], r, [], T1, [], h, by simp, by simp, rfl, by simp, hK⟩

/-! ### A drawn region with one call that changes its part of the heap -/
def kPreM (P : Program) (Gl : Gh → Prop) (γ c : Nat) (Hs Hm : Hp) (T : Tk) (m : List Unit) (i : Nat) (ps : List PreOp) (F : Nat → AV) (d : Option Nat) (A : Hp) (acc : List (List Nm)) (Ls : List Nm) (K : (Nat → AV) → Hp → List Nm → List Nm → Prop) : DR → Prop := fun x => awPreM P Gl γ c Hs Hm T m i ps (putF F d x.v) (x.A ++ A) (acc ++ [x.N]) Ls K
def kDrwM (P : Program) (Gl : Gh → Prop) (m : List Unit) (pre : List PreOp) (tail : List IOper) (k : Option (List Nat)) (γ c : Nat) (s : St) (Q : Ex → Nat → Nat → St → Prop) : Prop := aw P Gl (.drwm m pre tail k) γ c s Q
def MCall (P : Program) (Gl : Gh → Prop) (k : FuncId) (args : List AV) (γ i : Nat) (Hs Hm : Hp) (K : DR → Prop) : Prop :=
  ∃ r H1 T1, FS P Gl k args Hm [] r H1 T1 ∧ (∀ p ∈ rnH (fun j => (γ, i, j)) H1, ∀ q ∈ Hs, q.1 ≠ p.1) ∧ K ⟨rn (fun j => (γ, i, j)) r, rnH (fun j => (γ, i, j)) H1, T1.map (rnN fun j => (γ, i, j))⟩
def kMCall (P : Program) (Gl : Gh → Prop) (γ i : Nat) (args : List AV) (Hs Hm : Hp) (K : DR → Prop) : AV → Prop
  | .fn (.func k) first caps => MCall P Gl k (first ++ args ++ caps) γ i Hs Hm K
  | _ => False
theorem m_call {f : X} {args : List X} {F : Nat → AV} {Hs Hm : Hp} {K : DR → Prop} : awM P Gl γ i (.call f args) F Hs Hm K = kMCall P Gl γ i (args.map (X.ev F)) Hs Hm K (f.ev F) := by
  simp only [awM, kMCall]
  generalize f.ev F = fv
  cases fv <;> first | rfl | (rename_i fk _ _; cases fk <;> rfl)
def kMs (Hs Hm : Hp) (K : DR → Prop) : Option SR → Prop
  | some r => r.pre ∧ (match r.e with
    | .set id hb => (∀ p ∈ setH Hm id hb, ∀ q ∈ Hs, q.1 ≠ p.1) ∧ K ⟨r.v, setH Hm id hb, []⟩
    | _ => False)
  | none => False
theorem m_st (n : Nat) (x v : X) {F : Nat → AV} {Hs Hm : Hp} {K : DR → Prop} : awM P Gl γ i (.st n x v) F Hs Hm K = kMs Hs Hm K (Ab.step (.st n x v) F Hm (· ∈ ([] : List Nm)) (γ, i, 0)) := by
  simp only [awM]; generalize Ab.step _ F Hm (· ∈ ([] : List Nm)) (γ, i, 0) = r; cases r <;> rfl
theorem kMs_set {Hs Hm : Hp} {K : DR → Prop} {p : Prop} {v : AV} {id : Nm} {hb : HB} : kMs Hs Hm K (some ⟨p, v, .set id hb⟩) = (p ∧ (∀ p ∈ setH Hm id hb, ∀ q ∈ Hs, q.1 ≠ p.1) ∧ K ⟨v, setH Hm id hb, []⟩) := _root_.id rfl
theorem kMCall_f {k : FuncId} {first args caps : List AV} {Hs Hm : Hp} {K : DR → Prop} : kMCall P Gl γ i args Hs Hm K (.fn (.func k) first caps) = MCall P Gl k (first ++ args ++ caps) γ i Hs Hm K := _root_.id rfl
theorem w_pconsM {u : Unit} {m : List Unit} {d : Option Nat} {op : IOp} {bf : List Nat} {ps : List PreOp} {Hs Hm A : Hp} {T : Tk} {F : Nat → AV} {acc : List (List Nm)} {Ls : List Nm} {K : (Nat → AV) → Hp → List Nm → List Nm → Prop} : awPreM P Gl γ c Hs Hm T (u :: m) i (⟨⟨d, none, op⟩, bf⟩ :: ps) F A acc Ls K =
    (eatOK T bf acc (eats op F) ∧ awD P Gl γ (c + i) op (mask op.sl F) Hs (eats op F) (kPreM P Gl γ c Hs Hm T m (i + 1) ps F d A acc (Ls ++ eats op F) K)) := by rw [← eatOK_eq]; simp only [awPreM, true_and]; rfl
theorem w_pconsM0 {d : Option Nat} {op : IOp} {bf : List Nat} {ps : List PreOp} {Hs Hm A : Hp} {T : Tk} {F : Nat → AV} {acc : List (List Nm)} {Ls : List Nm} {K : (Nat → AV) → Hp → List Nm → List Nm → Prop} : awPreM P Gl γ c Hs Hm T [] i (⟨⟨d, none, op⟩, bf⟩ :: ps) F A acc Ls K =
    awM P Gl γ (c + i) op (mask op.sl F) Hs Hm (kPre P Gl γ c Hs T (i + 1) ps F d A acc Ls K) := by simp only [awPreM, true_and]; rfl
theorem w_kPreM {m : List Unit} {ps : List PreOp} {Hs Hm A : Hp} {T : Tk} {F : Nat → AV} {d : Option Nat} {acc : List (List Nm)} {Ls : List Nm} {K : (Nat → AV) → Hp → List Nm → List Nm → Prop} {v : AV} {A' : Hp} {N : List Nm} : kPreM P Gl γ c Hs Hm T m i ps F d A acc Ls K ⟨v, A', N⟩ = awPreM P Gl γ c Hs Hm T m i ps (putF F d v) (A' ++ A) (acc ++ [N]) Ls K := _root_.id rfl
theorem w_drwm {m : List Unit} {pre : List PreOp} {tail : List IOper} {k : Option (List Nat)} : aw P Gl (.drwm m pre tail k) γ c s Q = kDrwM P Gl m pre tail k γ c s Q := _root_.id rfl
theorem kDrwM_of {m : List Unit} {pre : List PreOp} {tail : List IOper} {k : Option (List Nat)} (Hs Hm : Hp) (h1 : ∀ p ∈ Hs ++ Hm, p ∈ s.H) (h2 : ∀ p ∈ Hs, ∀ q ∈ Hm, q.1 ≠ p.1)
    (h : awPreM P Gl γ c Hs Hm s.T m 0 pre s.F [] [] [] (kTail P Gl γ (c + pre.length) tail Hs s.T (kReg γ (c + (pre.length + tail.length)) k Q))) : kDrwM P Gl m pre tail k γ c s Q :=
  .inl ⟨Hs, Hm, h1, h2, h⟩
def kPreX (P : Program) (Gl : Gh → Prop) (γ c : Nat) (Hs : Hp) (T : Tk) (m : List Unit) (i : Nat) (ps : List PreOp) (F : Nat → AV) (d : Option Nat) (Hm A : Hp) (acc : List (List Nm)) (Ls : List Nm) (K : (Nat → AV) → Hp → List Nm → List Nm → Prop) : DR → Prop := fun x => awPreX P Gl γ c Hs T m i ps (putF F d x.v) x.A (Hm ++ A) (acc ++ [x.N]) Ls K
def XOK (i : Nat) (bf : List Nat) : Prop := 0 < i ∧ i - 1 ∈ bf
theorem w_pconsX {u : Unit} {m : List Unit} {d : Option Nat} {op : IOp} {bf : List Nat} {ps : List PreOp} {Hs Hm A : Hp} {T : Tk} {F : Nat → AV} {acc : List (List Nm)} {Ls : List Nm} {K : (Nat → AV) → Hp → List Nm → List Nm → Prop} : awPreX P Gl γ c Hs T (u :: m) i (⟨⟨d, none, op⟩, bf⟩ :: ps) F Hm A acc Ls K =
    (eatOK T bf acc (eats op F) ∧ awD P Gl γ (c + i) op (mask op.sl F) Hs (eats op F) (kPreX P Gl γ c Hs T m (i + 1) ps F d Hm A acc (Ls ++ eats op F) K)) := by rw [← eatOK_eq]; simp only [awPreX, true_and]; rfl
theorem w_pconsX0 {d : Option Nat} {op : IOp} {bf : List Nat} {ps : List PreOp} {Hs Hm A : Hp} {T : Tk} {F : Nat → AV} {acc : List (List Nm)} {Ls : List Nm} {K : (Nat → AV) → Hp → List Nm → List Nm → Prop} : awPreX P Gl γ c Hs T [] i (⟨⟨d, none, op⟩, bf⟩ :: ps) F Hm A acc Ls K =
    (XOK i bf ∧ awM P Gl γ (c + i) op (mask op.sl F) Hs Hm (kPre P Gl γ c Hs T (i + 1) ps F d A acc Ls K)) := by simp only [awPreX, true_and]; rfl
theorem w_kPreX {m : List Unit} {ps : List PreOp} {Hs Hm A : Hp} {T : Tk} {F : Nat → AV} {d : Option Nat} {acc : List (List Nm)} {Ls : List Nm} {K : (Nat → AV) → Hp → List Nm → List Nm → Prop} {v : AV} {A' : Hp} {N : List Nm} : kPreX P Gl γ c Hs T m i ps F d Hm A acc Ls K ⟨v, A', N⟩ = awPreX P Gl γ c Hs T m i ps (putF F d v) A' (Hm ++ A) (acc ++ [N]) Ls K := _root_.id rfl
theorem kDrwX_of {m : List Unit} {pre : List PreOp} {tail : List IOper} {k : Option (List Nat)} (Hs : Hp) (h1 : ∀ p ∈ Hs, p ∈ s.H)
    (h : awPreX P Gl γ c Hs s.T m 0 pre s.F [] [] [] [] (kTail P Gl γ (c + pre.length) tail Hs s.T (kReg γ (c + (pre.length + tail.length)) k Q))) : kDrwM P Gl m pre tail k γ c s Q :=
  .inr ⟨Hs, h1, h⟩
theorem MCall.of {k : FuncId} {args : List AV} {Hs Hm H1 : Hp} {K : DR → Prop} {r : AV} (h : FS P Gl k args Hm [] r H1 []) (hr : ∀ f, rn f r = r) (hH : ∀ f, rnH f H1 = H1) (hap : ∀ p ∈ H1, ∀ q ∈ Hs, q.1 ≠ p.1) (hK : K ⟨r, H1, []⟩) : MCall P Gl k args γ i Hs Hm K :=
  ⟨r, H1, [], h, by rw [hH]; exact hap, by rw [hr, hH]; exact hK⟩

def kIt {α : Type} (S : α → St) (inv : α → Prop) (m : α → Nat) (i : α) (Q : Ex → Nat → Nat → St → Prop) : Ex → Nat → Nat → St → Prop := fun ex γ c s => match ex with
  | .normal => ∃ (n : Nat) (j : α), Wk γ c n s (S j) ∧ inv j ∧ m j < m i
  | ex => Q ex γ c s
theorem w_kIt_n {α : Type} {S : α → St} {inv : α → Prop} {m : α → Nat} {i : α} : kIt S inv m i Q .normal γ c s = ∃ (n : Nat) (j : α), Wk γ c n s (S j) ∧ inv j ∧ m j < m i := _root_.id rfl
theorem w_kIt_e {α : Type} {S : α → St} {inv : α → Prop} {m : α → Nat} {i : α} {id : Nat} : kIt S inv m i Q (.exit id) γ c s = Q (.exit id) γ c s := _root_.id rfl
theorem w_kIt_r {α : Type} {S : α → St} {inv : α → Prop} {m : α → Nat} {i : α} : kIt S inv m i Q .ret γ c s = Q .ret γ c s := _root_.id rfl

theorem least {p : Nat → Prop} : ∀ k, p k → ∃ k, p k ∧ ∀ j, p j → k ≤ j := by
  intro k
  induction k using Nat.strongRecOn with
  | ind k ih =>
    intro hk
    by_cases h : ∃ j, j < k ∧ p j
    · obtain ⟨j, h1, h2⟩ := h; exact ih j h1 h2
    · exact ⟨k, hk, fun j hj => Classical.byContradiction fun hn => h ⟨j, by omega, hj⟩⟩

theorem kLoop_ix {α : Type} {k : ICode} (S : α → St) (inv : α → Prop) (m : α → Nat) (n : Nat) (i0 : α) (h0 : Wk γ c n s (S i0)) (hi : inv i0)
    (h : ∀ γ' i, γ ≤ γ' ∧ freshFor γ' (S i) → inv i → aw P Gl k γ' 0 (S i) (kIt S inv m i Q)) : kLoop P Gl k γ c s Q := by
  have hex : ∀ s' : St, ∃ k : Nat, (∃ i, inv i ∧ s' = S i) → (∃ i, inv i ∧ s' = S i ∧ m i = k) ∧ ∀ i, inv i → s' = S i → k ≤ m i := by
    intro s'
    by_cases hs : ∃ i, inv i ∧ s' = S i
    · obtain ⟨i, h1, h2⟩ := hs
      obtain ⟨k, ⟨i', a1, a2, a3⟩, hk⟩ := least (p := fun k => ∃ i, inv i ∧ s' = S i ∧ m i = k) (m i) ⟨i, h1, h2, rfl⟩
      exact ⟨k, fun _ => ⟨⟨i', a1, a2, a3⟩, fun j b1 b2 => hk _ ⟨j, b1, b2, rfl⟩⟩⟩
    · exact ⟨0, fun h => absurd h hs⟩
  refine ⟨fun s' => ∃ i, inv i ∧ s' = S i, fun s' => Classical.choose (hex s'), ⟨n, S i0, h0, i0, hi, rfl⟩, fun γ' s' hf hs => ?_⟩
  obtain ⟨⟨i, h1, h2, h3⟩, _⟩ := Classical.choose_spec (hex s') hs
  subst h2
  refine aw_mono (h γ' i hf h1) fun ex γ₁ c₁ s₁ hh => ?_
  cases ex with
  | normal =>
    obtain ⟨n, j, k1, k2, k3⟩ := hh
    refine ⟨n, S j, k1, ⟨j, k2, rfl⟩, ?_⟩
    have h4 : Classical.choose (hex (S j)) ≤ m j := (Classical.choose_spec (hex (S j)) ⟨j, k2, rfl⟩).2 j k2 rfl
    have h5 : m i = Classical.choose (hex (S i)) := h3
    show Classical.choose (hex (S j)) < Classical.choose (hex (S i))
    omega
  | exit _ => exact hh
  | ret => exact hh
end

def kJ (γ : Nat) (R : Nat → St → Prop) : Ex → Nat → Nat → St → Prop := fun ex γ' c' s' => ex = .normal ∧ γ' = γ ∧ R c' s'
theorem w_kJ {γ c : Nat} {R : Nat → St → Prop} {s : St} : kJ γ R .normal γ c s = R c s := by simp [kJ]
theorem CallP.pure {P : Program} {Gl : Gh → Prop} {k : FuncId} {args : List AV} {H : Hp} {T : Tk} {f : Nat → Nm} {K : AV → Hp → Tk → Prop} {r : AV} (h : FS P Gl k args [] [] r [] []) (hr : ∀ f, rn f r = r) (hK : K r H T) : CallP P Gl k args H T f K := by
  refine CallP.of h (by simp) (by simp) ?_
  have e1 : rnH f [] ++ H.filter (fun p => ([] : Hp).all fun q => q.1 ≠ p.1) = H := by simp [rnH]
  have e2 : (fun s => s ∈ ([] : List Nm).map (rnN f) ∨ (T s ∧ s ∉ ([] : List Nm))) = T := by funext s; simp
  rw [hr, e1, e2]
  exact hK
theorem AVle.str {L : List Nm} {a b : List UInt8} (h : a = b) : AVle L (.str a) (.str b) := by rw [h]; exact .refl _ _
theorem AVle.bool {L : List Nm} {a b : Bool} (h : a = b) : AVle L (.bool a) (.bool b) := by rw [h]; exact .refl _ _

theorem CallP.read {P : Program} {Gl : Gh → Prop} {k : FuncId} {args : List AV} {H0 Hr : Hp} {T : Tk} {f : Nat → Nm} {K : AV → Hp → Tk → Prop} {r : AV} (h : FS P Gl k args H0 [] r H0 []) (hr : ∀ f, rn f r = r) (h0 : ∀ f, rnH f H0 = H0) (hap : ∀ p ∈ Hr, ∀ q ∈ H0, q.1 ≠ p.1) (hK : K r (H0 ++ Hr) T) : CallP P Gl k args (H0 ++ Hr) T f K := by
  refine CallP.of h (fun p hp => List.mem_append.2 (.inl hp)) (by simp) ?_
  have e1 : rnH f H0 ++ (H0 ++ Hr).filter (fun p => H0.all fun q => q.1 ≠ p.1) = H0 ++ Hr := by
    rw [h0, List.filter_append]
    have a1 : H0.filter (fun p => H0.all fun q => q.1 ≠ p.1) = [] := by
      rw [List.filter_eq_nil_iff]
      intro p hp
      simp only [List.all_eq_true, decide_eq_true_eq]
      exact fun hh => hh p hp rfl
    have a2 : Hr.filter (fun p => H0.all fun q => q.1 ≠ p.1) = Hr := by
      rw [List.filter_eq_self]
      intro p hp
      simp only [List.all_eq_true, decide_eq_true_eq]
      exact fun q hq => hap p hp q hq
    rw [a1, a2, List.nil_append]
  have e2 : (fun s => s ∈ ([] : List Nm).map (rnN f) ∨ (T s ∧ s ∉ ([] : List Nm))) = T := by funext s; simp
  rw [hr, e1, e2]
  exact hK
theorem getH_last {H : Hp} {nm : Nm} {hb : HB} (h : ∀ q ∈ H, q.1 ≠ nm) : getH (H ++ [(nm, hb)]) nm = some hb := by
  induction H with
  | nil => simp [getH]
  | cons p H ih => simp only [List.cons_append, getH, if_neg (h p List.mem_cons_self)]; exact ih fun q hq => h q (List.mem_cons_of_mem _ hq)
theorem setH_last {H : Hp} {nm : Nm} {hb hb' : HB} (h : ∀ q ∈ H, q.1 ≠ nm) : setH (H ++ [(nm, hb)]) nm hb' = H ++ [(nm, hb')] := by
  unfold setH
  rw [List.map_append]
  congr 1
  · conv => rhs; rw [← List.map_id H]
    refine List.map_congr_left fun p hp => ?_
    rw [if_neg (h p hp)]; rfl
  · simp
theorem setH_ne {H : Hp} {nm : Nm} {hb : HB} (h : ∀ q ∈ H, q.1 ≠ nm) : setH H nm hb = H := by
  unfold setH
  conv => rhs; rw [← List.map_id H]
  refine List.map_congr_left fun p hp => ?_
  rw [if_neg (h p hp)]; rfl
theorem Wk.perm {γ c n : Nat} {s : St} {l : List (Nat × AV)} {H : Hp} (h : lfOK ((List.range n).map fun j => (γ, c, j)) s.F l) (hH : ∀ p ∈ H, p ∈ s.H) : Wk γ c n s ⟨lf l, H, s.T⟩ :=
  ⟨h.le, fun p hp => ⟨p, hH p hp, rfl, .refl _ _⟩, fun t ht => .inl ht⟩

theorem Wk.perm' {γ c n : Nat} {s : St} {l : List (Nat × AV)} {H : Hp} {T : Tk} (h : lfOK ((List.range n).map fun j => (γ, c, j)) s.F l) (hH : ∀ p ∈ H, p ∈ s.H) (hT : ∀ t, T t → s.T t) : Wk γ c n s ⟨lf l, H, T⟩ :=
  ⟨h.le, fun p hp => ⟨p, hH p hp, rfl, HBle.refl _ _⟩, fun t ht => .inl (hT t ht)⟩

theorem CallP.all {P : Program} {Gl : Gh → Prop} {k : FuncId} {args : List AV} {H0 : Hp} {T : Tk} {f : Nat → Nm} {K : AV → Hp → Tk → Prop} {r : AV} (h : FS P Gl k args H0 [] r H0 []) (hr : ∀ f, rn f r = r) (h0 : ∀ f, rnH f H0 = H0) (hK : K r H0 T) : CallP P Gl k args H0 T f K := by
  have := CallP.read (Hr := []) (T := T) (f := f) (K := K) h hr h0 (by simp) (by simpa using hK)
  simpa using this
theorem rnH_mem {f : Nat → Nm} : ∀ {H : Hp}, rnH f H = H → ∀ p ∈ H, rnN f p.1 = p.1 ∧ rnHB f p.2 = p.2
  | [], _, p, hp => by cases hp
  | a :: H, e, p, hp => by
    simp only [rnH, List.map_cons, List.cons.injEq] at e
    rcases List.mem_cons.1 hp with rfl | hp
    · exact ⟨congrArg Prod.fst e.1, congrArg Prod.snd e.1⟩
    · exact rnH_mem (H := H) e.2 p hp
structure Rd (H : Hp) : Prop where
  rn : ∀ f, rnH f H = H
  ok : ∀ p ∈ H, nmOK 0 (H.map (·.1)) p.1 ∧ p.2.okIn 0 (H.map (·.1)) []
theorem Ret.reads {a : Nat} {r : AV} {H : Hp} {γ : Nat} {s : St} (h : Rd H) (hr : r.flat = true) (hF : s.F a = r) (hm : ∀ p ∈ H, p ∈ s.H) : Ret [.t a] H [] r H [] γ s :=
  Ret.plain (by simp only [resOf, getAll, IRes.get, hF]) (flat_rn hr) (fun p hp => ⟨hm p hp, rnH_mem (h.rn _) p hp⟩) (by simp) (flat_ok hr) h.ok (by simp)

theorem keep_ahead {Ha H0 : Hp} (hap : ∀ p ∈ Ha, ∀ q ∈ H0, q.1 ≠ p.1) : ∀ p ∈ Ha, p ∈ (Ha ++ H0).filter fun p => H0.all fun q => q.1 ≠ p.1 := fun p hp => by
  refine List.mem_filter.2 ⟨List.mem_append.2 (.inl hp), ?_⟩
  simp only [List.all_eq_true, decide_eq_true_eq]
  exact hap p hp
theorem CallG.split {C : Hp → List Nm → (AV → Hp → List Nm → Prop) → Prop} {Ha H0 : Hp} {T : Tk} {T0 : List Nm} {f : Nat → Nm} {K : AV → Hp → Tk → Prop} {R : AV → Hp → List Nm → Prop} (h : C H0 T0 R) (hT : ∀ t ∈ T0, T t) (hap : ∀ p ∈ Ha, ∀ q ∈ H0, q.1 ≠ p.1)
    (hK : ∀ r H1 T1, R r H1 T1 → K (rn f r) (Ha ++ rnH f H1) (fun s => s ∈ T1.map (rnN f) ∨ (T s ∧ s ∉ T0))) : CallG C (Ha ++ H0) T f K := by
  refine ⟨H0, T0, R, h, fun p hp => List.mem_append.2 (.inr hp), hT, fun r H1 T1 hr => ⟨Ha ++ rnH f H1, _, fun p hp => ?_, fun _ h => h, hK r H1 T1 hr⟩⟩
  rcases List.mem_append.1 hp with hp | hp
  · exact List.mem_append.2 (.inr (keep_ahead hap p hp))
  · exact List.mem_append.2 (.inl hp)
theorem CallY.split {P : Program} {Gl : Gh → Prop} {id : Nm} {args : List AV} {Ha H0 : Hp} {T T0 : Tk} {K : AV → Hp → Tk → Prop} {R : AV → Hp → Tk → Prop} (h : YS P Gl id args H0 T0 R) (hT : ∀ t, T0 t → T t) (hap : ∀ p ∈ Ha, ∀ q ∈ H0, q.1 ≠ p.1)
    (hK : ∀ r H1 T1, R r H1 T1 → K r (Ha ++ H1) (fun s => T1 s ∨ (T s ∧ ¬ T0 s))) : CallY P Gl id args (Ha ++ H0) T K := by
  refine ⟨H0, T0, R, h, fun p hp => List.mem_append.2 (.inr hp), hT, fun r H1 T1 hr _ => ⟨Ha ++ H1, _, fun p hp => ?_, fun _ h => h, hK r H1 T1 hr⟩⟩
  rcases List.mem_append.1 hp with hp | hp
  · exact List.mem_append.2 (.inr (keep_ahead hap p hp))
  · exact List.mem_append.2 (.inl hp)
theorem CallY.splitT {P : Program} {Gl : Gh → Prop} {id : Nm} {args : List AV} {Ha H0 : Hp} {T : Tk} {K : AV → Hp → Tk → Prop} {R : AV → Hp → Tk → Prop} (h : YS P Gl id args H0 T R) (hap : ∀ p ∈ Ha, ∀ q ∈ H0, q.1 ≠ p.1)
    (hK : ∀ r H1 T1, R r H1 T1 → K r (Ha ++ H1) T1) : CallY P Gl id args (Ha ++ H0) T K := by
  refine ⟨H0, T, R, h, fun p hp => List.mem_append.2 (.inr hp), fun _ h => h, fun r H1 T1 hr _ => ⟨Ha ++ H1, T1, fun p hp => ?_, fun _ h => .inl h, hK r H1 T1 hr⟩⟩
  rcases List.mem_append.1 hp with hp | hp
  · exact List.mem_append.2 (.inr (keep_ahead hap p hp))
  · exact List.mem_append.2 (.inl hp)

theorem CallY.splitN {P : Program} {Gl : Gh → Prop} {id : Nm} {args : List AV} {Ha H0 : Hp} {T : Tk} {K : AV → Hp → Tk → Prop} {R : AV → Hp → Tk → Prop} (h : YS P Gl id args H0 T R) (hap : ∀ p ∈ Ha, ∀ q ∈ H0, q.1 ≠ p.1)
    (hK : ∀ r H1 T1, R r H1 T1 → (∀ p ∈ Ha, ∀ q ∈ H1, q.1 ≠ p.1) → K r (Ha ++ H1) T1) : CallY P Gl id args (Ha ++ H0) T K := by
  refine ⟨H0, T, R, h, fun p hp => List.mem_append.2 (.inr hp), fun _ h => h, fun r H1 T1 hr hn => ⟨Ha ++ H1, T1, fun p hp => ?_, fun _ h => .inl h, hK r H1 T1 hr fun p hp => hn p (List.mem_append.2 (.inl hp)) (hap p hp)⟩⟩
  rcases List.mem_append.1 hp with hp | hp
  · exact List.mem_append.2 (.inr (keep_ahead hap p hp))
  · exact List.mem_append.2 (.inl hp)

/-! ### Contracts of the kit's, as contracts here -/
theorem IrOf.enters {P : Program} {k : FuncId} {n : Nat} {ic : ICode} {rs : List IRes} (h : IrOf P k n ic rs) : enters P k := by
  obtain ⟨fn, h1, h2, h3, h4, h5⟩ := h
  obtain ⟨c, hc, _⟩ := Option.bind_eq_some_iff.1 h4
  exact ⟨fn, h1, by rw [hc]; rfl, h3⟩
theorem enters.of {P : Program} {k : FuncId} {fn : Func} (h : P.funcs[k]? = some fn) (h2 : fn.body.isSome = true) (h3 : (fn.name == "runtime.NumGoroutine") = false) : enters P k := ⟨fn, h, h2, h3⟩
theorem WS.start {g : Gh} {w : World} (h : HInv g w) : WS ⟨w, g, mutOf g [] (· ∈ ([] : List Nm)), (· ∈ ([] : List Nm))⟩ [] (· ∈ ([] : List Nm)) g w :=
  ⟨h, fun p hp => absurd hp List.not_mem_nil, fun t ht => absurd ht List.not_mem_nil, ⟨rfl, rfl, rfl, Nat.le_refl _, fun _ _ _ => rfl, fun _ _ _ _ => rfl, fun _ _ h _ => h, fun _ _ _ => rfl⟩, fun p hp => absurd hp List.not_mem_nil, fun t ht => absurd ht List.not_mem_nil, fun t ht => absurd ht List.not_mem_nil, .refl g⟩
theorem FS.of_calls {P : Program} {Gl : Gh → Prop} {k : FuncId} {args : List AV} {r : AV} (he : enters P k) (hr : ∀ f, rn f r = r)
    (h : ∀ (g : Gh) (w : World) (vs : List Value), HInv g w → Gl g → RepL g args vs → ∃ v, Rep g r v ∧ Calls P k vs.toArray w fun e w' => e = .returned v ∧ w' = w) : FS P Gl k args [] [] r [] [] := by
  refine ⟨he, fun g w vs f hinv hgl _ _ hargs hfr _ => ?_⟩
  obtain ⟨v, hv, hc⟩ := h g w vs hinv hgl hargs
  refine CallsIn.mono (callsIn_wide.2 hc) ?_
  rintro e w' ⟨rfl, rfl⟩
  exact ⟨v, g, r, [], [], ⟨rfl, rfl, rfl⟩, rfl, ⟨WS.start hinv, by rw [hr]; exact hv, fun n hn _ => hn⟩⟩

theorem HInv.later {g : Gh} {w w' : World} (h : HInv g w) (hb : RowKit.Below w.heap.size w w') : HInv g w' :=
  ⟨fun b o v e => by rw [World.cell?_of_block (w := w) (hb.block b (h.imm_lt e))]; exact h.imm b o v e,
   fun i b e => ⟨Nat.lt_of_lt_of_le (h.mu i b e).1 hb.size, (h.mu i b e).2⟩, h.inj,
   fun t b e sz n cap x => by
    obtain ⟨⟨cur, fr, h1, h2⟩, h3⟩ := h.own t b e sz n cap x
    exact ⟨⟨cur, fr, by rw [hb.block b (lt_of_some h1)]; exact h1, h2⟩, h3⟩,
   h.inj2, h.top, fun p hp => by
    obtain ⟨⟨e, fr, h1⟩, h2⟩ := h.fix p hp
    exact ⟨⟨e, fr, by rw [hb.block p.1 (lt_of_some h1)]; exact h1⟩, h2⟩⟩
theorem FS.of_below {P : Program} {Gl : Gh → Prop} {k : FuncId} {args : List AV} {r : AV} (he : enters P k) (hr : ∀ f, rn f r = r)
    (h : ∀ (g : Gh) (w : World) (vs : List Value), HInv g w → Gl g → RepL g args vs → ∃ v, Rep g r v ∧ Calls P k vs.toArray w fun e w' => e = .returned v ∧ RowKit.Below w.heap.size w w') : FS P Gl k args [] [] r [] [] := by
  refine ⟨he, fun g w vs f hinv hgl _ _ hargs hfr _ => ?_⟩
  obtain ⟨v, hv, hc⟩ := h g w vs hinv hgl hargs
  refine CallsIn.mono (callsIn_wide.2 hc) ?_
  rintro e w' ⟨rfl, hb⟩
  exact ⟨v, g, r, [], [], ⟨rfl, rfl, rfl⟩, rfl, ⟨⟨hinv.later hb, fun p hp => absurd hp List.not_mem_nil, fun t ht => absurd ht List.not_mem_nil, ⟨hb.os, hb.tape, hb.output, hb.size, fun b h1 _ => hb.block b h1, fun _ _ _ _ => rfl, fun _ _ h _ => h, fun _ _ _ => rfl⟩, fun p hp => absurd hp List.not_mem_nil, fun t ht => absurd ht List.not_mem_nil, fun t ht => absurd ht List.not_mem_nil, .refl g⟩, by rw [hr]; exact hv, fun n hn _ => hn⟩⟩

/-! ### Ranges over functions, as rules -/
section
variable (P : Program) (Gl : Gh → Prop)
def kBd (J : Nat → Hp → Tk → Prop) (Jx : Ex → Hp → Tk → Prop) (i : Nat) : Ex → Nat → Nat → St → Prop := fun ex _ _ s₂ => match ex with
  | .normal => J (i + 1) s₂.H s₂.T
  | ex => Jx ex s₂.H s₂.T
def kAs (bd : ICode) (k : Ex → Nat → Nat → St → Prop) : Ex → Nat → Nat → St → Prop := fun ex γ c s => match ex with
  | .normal => aw P Gl bd γ c s k
  | _ => False
def kRgf (x : X) (ps : List Nat) (as bd : ICode) (γ c : Nat) (s : St) (Q : Ex → Nat → Nat → St → Prop) : Prop := aw P Gl (.rgf x ps as bd) γ c s Q
variable {P Gl}
variable {γ c i : Nat} {s : St} {Q : Ex → Nat → Nat → St → Prop}
theorem w_rgf {x : X} {ps : List Nat} {as bd : ICode} : aw P Gl (.rgf x ps as bd) γ c s Q = kRgf P Gl x ps as bd γ c s Q := _root_.id rfl
theorem w_kAs {bd : ICode} {k : Ex → Nat → Nat → St → Prop} : kAs P Gl bd k .normal γ c s = aw P Gl bd γ c s k := _root_.id rfl
theorem w_kBd_n {J : Nat → Hp → Tk → Prop} {Jx : Ex → Hp → Tk → Prop} : kBd J Jx i .normal γ c s = J (i + 1) s.H s.T := _root_.id rfl
theorem w_kBd_r {J : Nat → Hp → Tk → Prop} {Jx : Ex → Hp → Tk → Prop} : kBd J Jx i .ret γ c s = Jx .ret s.H s.T := _root_.id rfl
theorem w_kBd_e {J : Nat → Hp → Tk → Prop} {Jx : Ex → Hp → Tk → Prop} {id : Nat} : kBd J Jx i (.exit id) γ c s = Jx (.exit id) s.H s.T := _root_.id rfl
theorem rgf_of {x : X} {ps : List Nat} {as bd : ICode} {k : FuncId} {caps : List AV} (hx : x.ev s.F = .fn (.func k) [] caps) (items : List (List AV)) (J : Nat → Hp → Tk → Prop) (Jx : Ex → Hp → Tk → Prop) (Hc H0 : Hp) (T0 : Tk)
    (h1 : IterS P Gl k caps Hc items) (h2 : ∀ p ∈ Hc, p ∈ s.H) (h4 : ∀ p ∈ H0, ∀ q ∈ Hc, p.1 ≠ q.1)
    (h7 : ∀ p ∈ H0, p ∈ s.H) (h8 : ∀ t, T0 t → s.T t) (h9 : J 0 H0 T0) (h10 : ∀ x ∈ items, x.length = ps.length)
    (hr : ∀ (Gl' : Gh → Prop), Stays Gl' → (∀ g, Gl' g → Gl g) → ∀ (i : Nat) (x : List AV) (H : Hp) (T : Tk) (γ' : Nat), items[i]? = some x → J i H T → γ < γ' → freshFor γ' ⟨s.F, H, T⟩ →
      aw P Gl' as γ' 0 ⟨putPs s.F ps x, H, T⟩ (kAs P Gl' bd (kBd J Jx i)))
    (hd : ∀ H1 T1, J items.length H1 T1 → ∃ H' T', (∀ p ∈ H', p ∈ H1 ++ s.H.filter fun p => (Hc ++ H0).all fun q => q.1 ≠ p.1) ∧ (∀ t, T' t → T1 t ∨ (s.T t ∧ ¬ T0 t)) ∧ Q .normal γ (c + 1) ⟨s.F, H', T'⟩)
    (hs : ∀ ex H1 T1, Jx ex H1 T1 → ∃ H' T', (∀ p ∈ H', p ∈ H1 ++ s.H.filter fun p => (Hc ++ H0).all fun q => q.1 ≠ p.1) ∧ (∀ t, T' t → T1 t ∨ (s.T t ∧ ¬ T0 t)) ∧ Q ex γ (c + 1) ⟨s.F, H', T'⟩) : kRgf P Gl x ps as bd γ c s Q := by
  simp only [kRgf, aw, hx]
  refine ⟨items, J, Jx, Hc, H0, T0, h1, h2, h4, h7, h8, h9, h10, fun Gl' a b i x H T γ' e1 e2 e3 e4 => ?_, hd, hs⟩
  refine aw_mono (hr Gl' a b i x H T γ' e1 e2 e3 e4) fun ex γ₁ c₁ s₁ hh => ?_
  cases ex with
  | normal => exact hh
  | exit _ => exact hh
  | ret => exact hh
end
theorem isByte_c (c : UInt8) : isByte [AV.int .u8 (c.toNat : Int)] = True := by
  have := c.toNat_lt
  simp only [isByte, eq_iff_iff, iff_true]
  omega
theorem mask_app (l : List Nat) (F : Nat → AV) (n : Nat) : mask l F n = if l.contains n = true then F n else .und := rfl
theorem Xev_t (F : Nat → AV) (n : Nat) : X.ev F (.t n) = F n := rfl
theorem Xev_c (F : Nat → AV) (x : AV) : X.ev F (.c x) = x := rfl
theorem lf_nil (t : Nat) : lf [] t = .und := rfl
theorem lf_cons (k : Nat) (v : AV) (l : List (Nat × AV)) (t : Nat) : lf ((k, v) :: l) t = if t = k then v else lf l t := rfl
theorem upd_app (F : Nat → AV) (d : Nat) (v : AV) (t : Nat) : upd F d v t = if t = d then v else F t := rfl
theorem initF_app (args : List AV) (t : Nat) : initF args t = args.getD t .und := rfl
theorem putF_some (F : Nat → AV) (d : Nat) (v : AV) : putF F (some d) v = upd F d v := rfl
theorem putF_none (F : Nat → AV) (v : AV) : putF F none v = F := rfl
theorem gcond_bool (x b : Bool) : gcond (.bool x) b = some (x == b) := rfl
theorem gcond_tup (b : Bool) : gcond (.tup []) b = some false := rfl
theorem gcond_ite {p : Prop} [Decidable p] (x y : AV) (b : Bool) : gcond (if p then x else y) b = if p then gcond x b else gcond y b := by split <;> rfl
theorem bt_not (b : Bool) : ((!b) = true) = ¬ (b = true) := by cases b <;> simp
theorem bt_false (b : Bool) : (b = false) = ¬ (b = true) := by cases b <;> simp
theorem ite_some_f {p : Prop} [Decidable p] (x : Bool) : (if p then some x else some false) = some (decide (p ∧ x = true)) := by
  by_cases h : p <;> cases x <;> simp [h]
theorem ite_some_t {p : Prop} [Decidable p] (x : Bool) : (if p then some false else some x) = some (decide (¬ p ∧ x = true)) := by
  by_cases h : p <;> cases x <;> simp [h]
theorem ite_boolAV {p : Prop} [Decidable p] (x y : Bool) : (if p then AV.bool x else AV.bool y) = .bool (if p then x else y) := by split <;> rfl
/-! ### The walk's rules, under one name -/
attribute [go_sem] w_pconsX w_pconsX0 w_kPreX qC qB qI qF qL qE qM qG qN qA c_slr o_slr s_slr cl_slr eqCells eqRes Cls.eqs m_st kMs_set w_pconsM w_pconsM0 w_kPreM w_drwm m_call kMCall_f c_ms o_ms w_mks w_mkc d_mks d_mkc w_mkr d_mkr w_kJ kDCall_f d_call isByte_c forall_eq List.mem_singleton w_kTailL w_kTailN bt_not bt_false ite_not ite_some_f ite_some_t Bool.not_not decide_eq_true_eq decide_not beq_true beq_false Bool.if_true_left Bool.if_false_left Bool.if_true_right Bool.if_false_right Bool.decide_eq_true Bool.decide_eq_false decide_true decide_false s_int s_bool s_str s_nilp s_nils s_nilf s_sl s_fn s_el cl_nil cl_cons cl_int cl_bool cl_str cl_nilp cl_nils cl_nilf cl_sl cl_fn cl_el Bool.and_self Bool.and_true Bool.true_and List.filter_nil List.all_nil List.flatten_nil rnH rnHB rnN rnL Ab.rn w_kIt_n w_kIt_e w_kIt_r w_skip w_reg w_seq w_cond w_blk w_loop w_exit w_ret w_kSeq_n w_kSeq_e w_kSeq_r w_kBlk_n w_kBlk_e w_kBlk_r w_kReg w_kRegK keepL_nil keepL_cons w_nil w_cons w_consG w_kGuard w_kGp w_kGc_t w_kGc_f Bool.decide_and Bool.decide_or gcond_bool gcond_tup stepP stepV IOp.pure gcond_ite ite_boolAV w_kRun w_kSkip w_kOps w_kCond_t w_kCond_f w_kStep w_call w_kCall_f w_kCall_y w_mov w_pick w_box w_bld w_row w_ld w_st w_fa w_fld w_ia w_iar w_ixs w_ixa w_bin w_un w_cvi w_b2s w_s2b w_cid w_mkf w_mkm w_ins w_lkp w_sls w_sll w_len w_lns w_app w_aps w_mm w_ext w_nck w_rng w_nxt w_cvs Ab.step Xev_t Xev_c initF_app putF_some putF_none upd_app lf_nil lf_cons aggv binStep intOp loX hiX Eff.H Eff.T and_true true_and Bool.not_true Bool.not_false List.getD_cons_zero List.getD_cons_succ List.getD_nil forall_const Prod.mk.injEq List.drop_zero or_self or_false false_or Bool.true_eq_false Bool.false_eq_true false_implies implies_true List.length_cons List.length_nil List.map_cons List.map_nil List.append_nil List.nil_append List.cons_append List.drop_succ_cons List.take_succ_cons List.take_zero fillA Nat.le_refl and_self c_und c_int o_int c_bool o_bool c_str o_str c_nilp o_nilp c_ptr o_ptr c_el o_el c_nils o_nils c_sl o_sl c_nilf o_nilf c_fn o_fn c_mp o_mp c_yl o_yl c_agg oneL_nil oneL_cons bldOK rowOK AV.stripL List.getElem?_cons_zero List.getElem?_cons_succ List.getElem?_nil getH_nil getH_cons setH_nil setH_cons beq_tt beq_ft beq_tf beq_ff w_rgf w_kAs w_kBd_n w_kBd_r w_kBd_e putPs List.zip_cons_cons List.zip_nil_left List.zip_nil_right List.foldl_cons List.foldl_nil w_drw w_pnil w_pcons w_pconsG w_kPreG_tt w_kPreG_tf w_kPreG_ft w_kPreG_ff w_kPreG0 w_kPre w_dr_no w_dr_blk w_dr_own w_dr_app w_dr_eat d_mov d_pick d_box d_bld d_row d_ld d_fa d_fld d_ia d_iar d_ixs d_ixa d_bin d_un d_cvi d_b2s d_s2b d_cid d_mkf d_mkm d_lkp d_sls d_sll d_len d_lns d_app d_aps d_mm d_ext d_nck d_rng d_cvs eats mask_app IOp.sl X.sl slO List.flatMap_cons List.flatMap_nil List.flatten_cons List.flatten_nil List.nodup_nil w_kTail0 eatOK List.contains_cons List.contains_nil Bool.or_true Bool.or_false Bool.true_or Bool.false_or beq_self_eq_true
end Go.Ab

