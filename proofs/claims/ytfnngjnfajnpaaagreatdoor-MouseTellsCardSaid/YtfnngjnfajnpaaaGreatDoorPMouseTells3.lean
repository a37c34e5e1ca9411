/- Part 3 of 4 of a proof: the given statement MouseTells, whatever the input that its row lets in. Conditions: those of the given row and card alone. -/
import Derived.Test.YtfnngjnfajnpaaaGreatDoorPMouseTells2
set_option linter.unusedVariables false
set_option linter.unusedSimpArgs false
set_option maxRecDepth 100000
namespace Go.Proofs.YtfnngjnfajnpaaaGreatDoor
open Go Go.Ab
def ir_wirecursorpeek : ICode :=
 (.seq
 (.reg [⟨some 2, none, .mov (.c (.int .u8 0))⟩] (some [0]))
 (.seq
 (.seq
 (.drw [⟨⟨some 3, none, .mov (.t 0)⟩, []⟩,
 ⟨⟨some 4, none, .nck (.t 3)⟩, [0]⟩,
 ⟨⟨some 5, none, .fa 1 (.t 4)⟩, [1]⟩,
 ⟨⟨some 6, none, .ld none (.t 5)⟩, [2]⟩,
 ⟨⟨some 7, none, .mov (.t 0)⟩, []⟩,
 ⟨⟨some 8, none, .nck (.t 7)⟩, [4]⟩,
 ⟨⟨some 9, none, .fa 0 (.t 8)⟩, [5]⟩,
 ⟨⟨some 10, none, .ld none (.t 9)⟩, [6]⟩,
 ⟨⟨some 11, none, .len (.t 10)⟩, [7]⟩,
 ⟨⟨some 12, none, .bin .geq .none (.t 6) (.t 11)⟩, [3, 8]⟩]
 [] (some [0, 12]))
 (.cond (.t 12)
 (.seq
 (.reg [⟨some 2, none, .mov (.c (.int .u8 0))⟩] (some [2]))
 .ret)
 .skip))
 (.seq
 (.drw [⟨⟨some 13, none, .mov (.t 0)⟩, []⟩,
 ⟨⟨some 14, none, .nck (.t 13)⟩, [0]⟩,
 ⟨⟨some 15, none, .fa 0 (.t 14)⟩, [1]⟩,
 ⟨⟨some 16, none, .ld none (.t 15)⟩, [2]⟩,
 ⟨⟨some 17, none, .mov (.t 0)⟩, []⟩,
 ⟨⟨some 18, none, .nck (.t 17)⟩, [4]⟩,
 ⟨⟨some 19, none, .fa 1 (.t 18)⟩, [5]⟩,
 ⟨⟨some 20, none, .ld none (.t 19)⟩, [6]⟩,
 ⟨⟨some 21, none, .ia 1 (.t 16) (.t 20)⟩, [3, 7]⟩,
 ⟨⟨some 22, none, .ld none (.t 21)⟩, [8]⟩]
 [⟨some 2, none, .mov (.t 22)⟩] (some [2]))
 .ret)))
theorem is_wirecursorpeek : IrOf Tryz.prog 51 23 ir_wirecursorpeek [.t 2] := ⟨_, Tryz.func51, rfl, by kernel_rfl, by kernel_rfl, by kernel_rfl⟩

def ir_wirecursornext : ICode :=
 (.seq
 (.reg [⟨some 2, none, .mov (.c (.int .u8 0))⟩] (some [0]))
 (.seq
 (.reg [⟨some 4, none, .mov (.t 0)⟩,
 ⟨some 5, none, .call (.c (.fn (.func 51) [] [])) [(.t 4)]⟩,
 ⟨some 3, none, .mov (.t 5)⟩] (some [0, 3]))
 (.seq
 (.reg [⟨some 6, none, .mov (.t 0)⟩,
 ⟨some 7, none, .nck (.t 6)⟩,
 ⟨some 8, none, .fa 1 (.t 7)⟩,
 ⟨some 9, none, .ld none (.t 8)⟩,
 ⟨some 10, none, .bin .add .none (.t 9) (.c (.int .i64 1))⟩,
 ⟨some 11, none, .nck (.t 6)⟩,
 ⟨some 12, none, .fa 1 (.t 11)⟩,
 ⟨none, none, .st 1 (.t 12) (.t 10)⟩] (some [3]))
 (.seq
 (.reg [⟨some 13, none, .mov (.t 3)⟩,
 ⟨some 2, none, .mov (.t 13)⟩] (some [2]))
 .ret))))
theorem is_wirecursornext : IrOf Tryz.prog 50 14 ir_wirecursornext [.t 2] := ⟨_, Tryz.func50, rfl, by kernel_rfl, by kernel_rfl, by kernel_rfl⟩

/- (*clavier/wire.cursor).run -/
def ir_wirecursorrun_l0 : ICode :=
 (.seq
 (.seq
 (.drw [⟨⟨some 12, none, .mov (.t 0)⟩, []⟩,
 ⟨⟨some 13, none, .nck (.t 12)⟩, [0]⟩,
 ⟨⟨some 14, none, .fa 1 (.t 13)⟩, [1]⟩,
 ⟨⟨some 15, none, .ld none (.t 14)⟩, [2]⟩,
 ⟨⟨some 16, none, .mov (.t 0)⟩, []⟩,
 ⟨⟨some 17, none, .nck (.t 16)⟩, [4]⟩,
 ⟨⟨some 18, none, .fa 0 (.t 17)⟩, [5]⟩,
 ⟨⟨some 19, none, .ld none (.t 18)⟩, [6]⟩,
 ⟨⟨some 20, none, .len (.t 19)⟩, [7]⟩,
 ⟨⟨some 21, none, .bin .lss .none (.t 15) (.t 20)⟩, [3, 8]⟩,
 ⟨⟨some 22, none, .mov (.t 21)⟩, [9]⟩,
 ⟨⟨some 23, some (22, true), .mov (.t 0)⟩, [10]⟩,
 ⟨⟨some 24, some (22, true), .nck (.t 23)⟩, [11, 10]⟩,
 ⟨⟨some 25, some (22, true), .fa 0 (.t 24)⟩, [12, 10]⟩,
 ⟨⟨some 26, some (22, true), .ld none (.t 25)⟩, [13, 10]⟩,
 ⟨⟨some 27, some (22, true), .mov (.t 0)⟩, [10]⟩,
 ⟨⟨some 28, some (22, true), .nck (.t 27)⟩, [15, 10]⟩,
 ⟨⟨some 29, some (22, true), .fa 1 (.t 28)⟩, [16, 10]⟩,
 ⟨⟨some 30, some (22, true), .ld none (.t 29)⟩, [17, 10]⟩,
 ⟨⟨some 31, some (22, true), .ia 1 (.t 26) (.t 30)⟩, [14, 18, 10]⟩,
 ⟨⟨some 32, some (22, true), .ld none (.t 31)⟩, [19, 10]⟩,
 ⟨⟨some 33, some (22, true), .mov (.t 1)⟩, [10]⟩,
 ⟨⟨some 34, some (22, true), .bin .geq .none (.t 32) (.t 33)⟩, [20, 21, 10]⟩,
 ⟨⟨some 35, none, .pick (.t 22) (.t 34) (.c (.bool false))⟩, [10, 22]⟩,
 ⟨⟨some 36, none, .mov (.t 35)⟩, [23, 10]⟩,
 ⟨⟨some 37, some (36, true), .mov (.t 0)⟩, [24]⟩,
 ⟨⟨some 38, some (36, true), .nck (.t 37)⟩, [25, 24]⟩,
 ⟨⟨some 39, some (36, true), .fa 0 (.t 38)⟩, [26, 24]⟩,
 ⟨⟨some 40, some (36, true), .ld none (.t 39)⟩, [27, 24]⟩,
 ⟨⟨some 41, some (36, true), .mov (.t 0)⟩, [24]⟩,
 ⟨⟨some 42, some (36, true), .nck (.t 41)⟩, [29, 24]⟩,
 ⟨⟨some 43, some (36, true), .fa 1 (.t 42)⟩, [30, 24]⟩,
 ⟨⟨some 44, some (36, true), .ld none (.t 43)⟩, [31, 24]⟩,
 ⟨⟨some 45, some (36, true), .ia 1 (.t 40) (.t 44)⟩, [28, 32, 24]⟩,
 ⟨⟨some 46, some (36, true), .ld none (.t 45)⟩, [33, 24]⟩,
 ⟨⟨some 47, some (36, true), .mov (.t 2)⟩, [24]⟩,
 ⟨⟨some 48, some (36, true), .bin .leq .none (.t 46) (.t 47)⟩, [34, 35, 24]⟩,
 ⟨⟨some 49, none, .pick (.t 36) (.t 48) (.c (.bool false))⟩, [24, 36]⟩]
 [] (some [0, 1, 2, 7, 49]))
 (.cond (.t 49)
 .skip
 (.exit 0)))
 (.blk 1
 (.reg [⟨some 50, none, .mov (.t 0)⟩,
 ⟨some 51, none, .nck (.t 50)⟩,
 ⟨some 52, none, .fa 1 (.t 51)⟩,
 ⟨some 53, none, .ld none (.t 52)⟩,
 ⟨some 54, none, .bin .add .none (.t 53) (.c (.int .i64 1))⟩,
 ⟨some 55, none, .nck (.t 50)⟩,
 ⟨some 56, none, .fa 1 (.t 55)⟩,
 ⟨none, none, .st 1 (.t 56) (.t 54)⟩] (some [0, 1, 2, 7]))))
def ir_wirecursorrun : ICode :=
 (.seq
 (.reg [⟨some 6, none, .mov (.c (.str []))⟩] (some [0, 1, 2]))
 (.seq
 (.reg [⟨some 8, none, .mov (.t 0)⟩,
 ⟨some 9, none, .nck (.t 8)⟩,
 ⟨some 10, none, .fa 1 (.t 9)⟩,
 ⟨some 11, none, .ld none (.t 10)⟩,
 ⟨some 7, none, .mov (.t 11)⟩] (some [0, 1, 2, 7]))
 (.seq
 (.blk 0
 (.loop
 ir_wirecursorrun_l0))
 (.seq
 (.drw [⟨⟨some 57, none, .mov (.t 0)⟩, []⟩,
 ⟨⟨some 58, none, .nck (.t 57)⟩, [0]⟩,
 ⟨⟨some 59, none, .fa 0 (.t 58)⟩, [1]⟩,
 ⟨⟨some 60, none, .ld none (.t 59)⟩, [2]⟩,
 ⟨⟨some 61, none, .mov (.t 7)⟩, []⟩,
 ⟨⟨some 62, none, .mov (.t 0)⟩, []⟩,
 ⟨⟨some 63, none, .nck (.t 62)⟩, [5]⟩,
 ⟨⟨some 64, none, .fa 1 (.t 63)⟩, [6]⟩,
 ⟨⟨some 65, none, .ld none (.t 64)⟩, [7]⟩,
 ⟨⟨some 66, none, .sll 1 (.t 60) (some (.t 61)) (some (.t 65)) none⟩, [3, 4, 8]⟩,
 ⟨⟨some 67, none, .b2s (.t 66)⟩, [9]⟩]
 [⟨some 6, none, .mov (.t 67)⟩] (some [6]))
 .ret))))
theorem is_wirecursorrun : IrOf Tryz.prog 54 68 ir_wirecursorrun [.t 6] := ⟨_, Tryz.func54, rfl, by kernel_rfl, by kernel_rfl, by kernel_rfl⟩

def pw (ps : List (List Int)) : AV := match ps with
  | [] => .nils
  | p :: l => parsV (p :: l)
theorem pw_le (ps : List (List Int)) : RepLe (pw ps) (parsV ps) := by
  cases ps with
  | nil => exact RepLe.nils 1
  | cons p l => exact RepLe.refl _
theorem pw_one (ps : List (List Int)) : (pw ps).one = true := by cases ps <;> rfl
theorem pw_cells (ps : List (List Int)) : (pw ps).cells = [pw ps] := by cases ps <;> rfl
theorem pw_rn {f : Nat → Nm} (ps : List (List Int)) : Ab.rn f (pw ps) = pw ps := by cases ps <;> rfl
theorem pw_ok {m : Nat} {L T : List Nm} (ps : List (List Int)) : (pw ps).okIn m L T := by cases ps <;> trivial
def rdC (b : List UInt8) (n : Nat) (s : Sq) : List AV := [.sl none 1 (bytesAV b), .int .i64 n, .int .i64 s.k, .int .u8 s.pr, pw s.ps, .str s.it, .int .u8 s.fi, .str s.da]
theorem rdC_rn {f : Nat → Nm} {b : List UInt8} {n : Nat} {s : Sq} : rnHB f (.cells (rdC b n s)) = .cells (rdC b n s) := by
  simp only [rnHB, rdC, rnL, Ab.rn, pw_rn]
theorem rdC_ok {m : Nat} {L T : List Nm} {b : List UInt8} {n : Nat} {s : Sq} : HB.okIn m L T (.cells (rdC b n s)) :=
  ⟨trivial, trivial, trivial, trivial, pw_ok _, trivial, trivial, trivial, trivial⟩
theorem nm_real {f : Nat → Nm} {n : Nm} (h : 1 ≤ n.1) : rnN f n = n := by unfold rnN; rw [if_neg]; omega
theorem nm_ok {m : Nat} {L : List Nm} {n : Nm} (h : 1 ≤ n.1) (hL : n ∈ L) : nmOK m L n := by unfold nmOK; rw [if_neg (by omega)]; exact hL
theorem Ret.rd {rs : List IRes} {p : Nm} {hb : HB} {y : AV} {b : List UInt8} {n : Nat} {s : Sq} {γ : Nat} {st : St} (h : resOf st rs = some y) (hy : y.flatT = true) (hp : 1 ≤ p.1) (hH : (p, .cells (rdC b n s)) ∈ st.H) : Ret rs [(p, hb)] [] y [(p, .cells (rdC b n s))] [] γ st := by
  refine Ret.plain h (flatT_rn hy) (fun q hq => ?_) (by simp) (flatT_ok hy) (fun q hq => ?_) (by simp)
  · simp only [List.mem_singleton] at hq; subst hq
    exact ⟨hH, nm_real hp, rdC_rn⟩
  · simp only [List.mem_singleton] at hq; subst hq
    exact ⟨nm_ok hp (by simp), rdC_ok⟩
theorem CallP.rd {Gl : Gh → Prop} {k : FuncId} {args : List AV} {p : Nm} {Ha : Hp} {b : List UInt8} {n n' : Nat} {s s' : Sq} {y : AV} {T : Tk} {f : Nat → Nm} {K : AV → Hp → Tk → Prop} (h : FS Tryz.prog Gl k args [(p, .cells (rdC b n s))] [] y [(p, .cells (rdC b n' s'))] []) (hp : 1 ≤ p.1) (hy : y.flatT = true) (hap : ∀ q ∈ Ha, p ≠ q.1)
    (hK : K y (Ha ++ [(p, .cells (rdC b n' s'))]) T) : CallP Tryz.prog Gl k args (Ha ++ [(p, .cells (rdC b n s))]) T f K := by
  refine CallG.split h (by simp) (fun q hq u hu => by simp only [List.mem_singleton] at hu; subst hu; exact hap q hq) ?_
  rintro r H1 T1 ⟨rfl, rfl, rfl⟩
  have e2 : (fun s => s ∈ ([] : List Nm).map (rnN f) ∨ (T s ∧ s ∉ ([] : List Nm))) = T := by funext s; simp
  rw [flatT_rn hy, e2]
  simp only [rnH, List.map_cons, List.map_nil, nm_real hp, rdC_rn]
  exact hK

def peekW (b : List UInt8) (n : Nat) : UInt8 := (b.drop n).headD 0
theorem peek_lt {b : List UInt8} {n : Nat} (h : n < b.length) : peekW b n = b[n] := by
  unfold peekW; rw [List.drop_eq_getElem_cons h]; rfl
theorem peek_ge {b : List UInt8} {n : Nat} (h : b.length ≤ n) : peekW b n = 0 := by
  unfold peekW; rw [List.drop_eq_nil_of_le h]; rfl
theorem fs_peek {Gl : Gh → Prop} (hst : Stays Gl) {p : Nm} (hp : 1 ≤ p.1) {b : List UInt8} {n : Nat} {s : Sq} : FS Tryz.prog Gl 51 [.ptr p 0] [(p, .cells (rdC b n s))] [] (.int .u8 (peekW b n).toNat) [(p, .cells (rdC b n s))] [] := by
  refine FS.of hm hst is_wirecursorpeek (by simp) fun γ hγ hfr => ?_
  (generalize hQ : (fun (ex : Ex) (_ _ : Nat) (s : St) => _) = Q; unfold ir_wirecursorpeek)
  by_cases hlt : n < b.length
  · have hd : decide ((n : Int) ≥ (b.length : Int)) = false := by simp; omega
    have hget := bb_get hlt
    simp only [rdC]
    simp +contextual (maxSteps := 1000000) only [hd, bytesAV_length', hget, Int.toNat_natCast, go_sem, reduceCtorEq, ↓reduceIte, Nat.reduceAdd, Nat.reduceEqDiff]
    refine ⟨by omega, ?_⟩
    rw [← hQ, peek_lt hlt]
    exact ⟨trivial, Ret.rd rfl rfl hp (by simp [rdC])⟩
  · have hd : decide ((n : Int) ≥ (b.length : Int)) = true := by simp; omega
    simp only [rdC]
    simp +contextual (maxSteps := 1000000) only [hd, bytesAV_length', go_sem, reduceCtorEq, ↓reduceIte, Nat.reduceAdd, Nat.reduceEqDiff]
    rw [← hQ, peek_ge (by omega)]
    exact ⟨trivial, Ret.rd rfl rfl hp (by simp [rdC])⟩
theorem fs_next {Gl : Gh → Prop} (hst : Stays Gl) {p : Nm} (hp : 1 ≤ p.1) {b : List UInt8} {n : Nat} {s : Sq} (hn : n < 4611686018427387904) : FS Tryz.prog Gl 50 [.ptr p 0] [(p, .cells (rdC b n s))] [] (.int .u8 (peekW b n).toNat) [(p, .cells (rdC b (n + 1) s))] [] := by
  refine FS.of hm hst is_wirecursornext (by simp) fun γ hγ hfr => ?_
  have hw : IntKind.i64.wrap ((n : Int) + 1) = ((n + 1 : Nat) : Int) := by rw [IntKind.wrap_i64]; omega
  (generalize hQ : (fun (ex : Ex) (_ _ : Nat) (s : St) => _) = Q; unfold ir_wirecursornext)
  simp +contextual (maxSteps := 1000000) only [go_sem, reduceCtorEq, ↓reduceIte, Nat.reduceAdd, Nat.reduceEqDiff, Nat.reduceLeDiff, Nat.reduceMul, Nat.reduceBEq, Int.reduceBEq, Int.reduceBNe, Int.reduceLT, Int.reduceLE, Int.reduceGT, Int.reduceGE, Int.reduceToNat]
  refine CallP.rd (Ha := []) (fs_peek hst hp) hp rfl (by simp) ?_
  simp only [rdC]
  simp +contextual (maxSteps := 1000000) only [hw, go_sem, reduceCtorEq, ↓reduceIte, Nat.reduceAdd, Nat.reduceEqDiff, Nat.reduceLeDiff, Nat.reduceMul, Nat.reduceBEq, Int.reduceBEq, Int.reduceBNe, Int.reduceLT, Int.reduceLE, Int.reduceGT, Int.reduceGE, Int.reduceToNat]
  rw [← hQ]
  exact ⟨trivial, Ret.rd rfl rfl hp (by simp [rdC])⟩
theorem runL_cons {x y : Nat} {c : UInt8} {l : List UInt8} (h : x ≤ c.toNat ∧ c.toNat ≤ y) : runL x y (c :: l) = c :: runL x y l := by
  unfold runL
  rw [List.takeWhile_cons, if_pos (by simpa using h)]
theorem fs_run {Gl : Gh → Prop} (hst : Stays Gl) {p : Nm} (hp : 1 ≤ p.1) {b : List UInt8} {n : Nat} {s : Sq} {x y : Nat} (hn : n ≤ b.length) (hb : b.length < 4611686018427387904) : FS Tryz.prog Gl 54 [.ptr p 0, .int .u8 x, .int .u8 y] [(p, .cells (rdC b n s))] [] (.str (runL x y (b.drop n))) [(p, .cells (rdC b (n + (runL x y (b.drop n)).length) s))] [] := by
  refine FS.of hm hst is_wirecursorrun (by simp) fun γ hγ hfr => ?_
  (generalize hQ : (fun (ex : Ex) (_ _ : Nat) (s : St) => _) = Q; unfold ir_wirecursorrun)
  simp only [rdC]
  simp +contextual (maxSteps := 1000000) only [go_sem, reduceCtorEq, ↓reduceIte, Nat.reduceAdd, Nat.reduceEqDiff, Nat.reduceLeDiff, Nat.reduceMul, Nat.reduceBEq, Int.reduceBEq, Int.reduceBNe, Int.reduceLT, Int.reduceLE, Int.reduceGT, Int.reduceGE, Int.reduceToNat]
  refine kLoop_ix (fun i : Nat => ⟨lf [(0, .ptr p 0), (1, .int .u8 x), (2, .int .u8 y), (7, .int .i64 n)], [(p, .cells (rdC b (n + i) s))], fun x => x ∈ []⟩) (fun i => n + i ≤ b.length ∧ runL x y (b.drop n) = (b.drop n).take i ++ runL x y (b.drop (n + i))) (fun i => b.length - (n + i)) 0 0 ?_ ⟨by omega, by simp⟩ ?_
  · refine Wk.same ?_
    (simp only [lfOK, upd, initF]; repeat' first | exact AVle.refl _ _ | exact trivial | refine And.intro ?_ ?_ | exact AVle.int (by simp only [IntKind.wrap_i64]; omega))
  rintro γ' i hf ⟨hi, hr⟩
  generalize hQ' : kIt _ _ _ _ _ = Q'
  have fin : runL x y (b.drop (n + i)) = [] → ∀ γ c F, F 0 = .ptr p 0 → F 7 = .int .i64 n → Q' (.exit 0) γ c ⟨F, [(p, .cells [.sl none 1 (bytesAV b), .int .i64 ((n + i : Nat) : Int), .int .i64 s.k, .int .u8 s.pr, pw s.ps, .str s.it, .int .u8 s.fi, .str s.da])], fun x => x ∈ []⟩ := by
    intro h0 γ c F h1 h2
    rw [h0, List.append_nil] at hr
    have hl : (runL x y (b.drop n)).length = i := by rw [hr, List.length_take, List.length_drop]; omega
    have e1 : ((b.take (n + i)).drop n).take i = (b.drop n).take i := by rw [List.drop_take, List.take_take]; congr 1; omega
    have e2 : (b.take (n + i)).drop n = runL x y (b.drop n) := by rw [hr, List.drop_take]; congr 1; omega
    rw [← hQ']
    simp only [w_kIt_e, w_kBlk_e, ↓reduceIte]
    simp +contextual (maxSteps := 1000000) only [h1, h2, bytesAV_take, bytesAV_drop, Int.toNat_natCast, bb_un, bb_is, bytesAV_length', go_sem, reduceCtorEq, ↓reduceIte, Nat.reduceAdd, Nat.reduceEqDiff, Nat.reduceLeDiff, Nat.reduceMul, Nat.reduceBEq, Int.reduceBEq, Int.reduceBNe, Int.reduceLT, Int.reduceLE, Int.reduceGT, Int.reduceGE, Int.reduceToNat]
    refine ⟨⟨by omega, by omega, by omega⟩, ?_⟩
    rw [← hQ, hl]
    refine ⟨trivial, Ret.rd (by simp only [resOf, getAll, IRes.get, lf_cons, ↓reduceIte, e2]) rfl hp (by simp [rdC])⟩
  unfold ir_wirecursorrun_l0
  simp only [rdC]
  by_cases hlt : n + i < b.length
  · have hd : decide (((n + i : Nat) : Int) < (b.length : Int)) = true := by simp; omega
    have hget := bb_get hlt
    have hdrop : b.drop (n + i) = b[n + i] :: b.drop (n + i + 1) := List.drop_eq_getElem_cons hlt
    have hw : IntKind.i64.wrap (((n + i : Nat) : Int) + 1) = ((n + (i + 1) : Nat) : Int) := by rw [IntKind.wrap_i64]; omega
    by_cases hx : x ≤ (b[n + i]).toNat
    · have hx' : decide (((b[n + i]).toNat : Int) ≥ (x : Int)) = true := by simp; omega
      by_cases hy : (b[n + i]).toNat ≤ y
      · have hy' : decide (((b[n + i]).toNat : Int) ≤ (y : Int)) = true := by simp; omega
        simp +contextual (maxSteps := 1000000) only [hd, bytesAV_length', hget, hx', hy', hw, Int.toNat_natCast, go_sem, reduceCtorEq, ↓reduceIte, Nat.reduceAdd, Nat.reduceEqDiff, Nat.reduceLeDiff, Nat.reduceMul, Nat.reduceBEq, Int.reduceBEq, Int.reduceBNe, Int.reduceLT, Int.reduceLE, Int.reduceGT, Int.reduceGE, Int.reduceToNat]
        refine ⟨by omega, by omega, ?_⟩
        rw [← hQ']
        simp only [w_kIt_n]
        refine ⟨0, i + 1, Wk.same ?_, ⟨by omega, ?_⟩, by omega⟩
        · repeat' first | exact AVle.refl _ _ | exact trivial | refine And.intro ?_ ?_ | exact AVle.int (by simp only [IntKind.wrap_i64]; omega)
        · rw [hr, hdrop, runL_cons ⟨hx, hy⟩, List.take_add_one, List.getElem?_drop, List.getElem?_eq_getElem hlt, List.append_assoc]
          rfl
      · have hy' : decide (((b[n + i]).toNat : Int) ≤ (y : Int)) = false := by simp; omega
        simp +contextual (maxSteps := 1000000) only [hd, bytesAV_length', hget, hx', hy', Int.toNat_natCast, go_sem, reduceCtorEq, ↓reduceIte, Nat.reduceAdd, Nat.reduceEqDiff, Nat.reduceLeDiff, Nat.reduceMul, Nat.reduceBEq, Int.reduceBEq, Int.reduceBNe, Int.reduceLT, Int.reduceLE, Int.reduceGT, Int.reduceGE, Int.reduceToNat]
        refine ⟨by omega, by omega, ?_⟩
        exact fin (runL_nil fun c hc => by rw [hdrop, List.head?_cons] at hc; cases hc; omega) _ _ _ rfl rfl
    · have hx' : decide (((b[n + i]).toNat : Int) ≥ (x : Int)) = false := by simp; omega
      simp +contextual (maxSteps := 1000000) only [hd, bytesAV_length', hget, hx', Int.toNat_natCast, go_sem, reduceCtorEq, ↓reduceIte, Nat.reduceAdd, Nat.reduceEqDiff, Nat.reduceLeDiff, Nat.reduceMul, Nat.reduceBEq, Int.reduceBEq, Int.reduceBNe, Int.reduceLT, Int.reduceLE, Int.reduceGT, Int.reduceGE, Int.reduceToNat]
      refine ⟨by omega, ?_⟩
      exact fin (runL_nil fun c hc => by rw [hdrop, List.head?_cons] at hc; cases hc; omega) _ _ _ rfl rfl
  · have hd : decide (((n + i : Nat) : Int) < (b.length : Int)) = false := by simp; omega
    simp +contextual (maxSteps := 1000000) only [hd, bytesAV_length', go_sem, reduceCtorEq, ↓reduceIte, Nat.reduceAdd, Nat.reduceEqDiff, Nat.reduceLeDiff, Nat.reduceMul, Nat.reduceBEq, Int.reduceBEq, Int.reduceBNe, Int.reduceLT, Int.reduceLE, Int.reduceGT, Int.reduceGE, Int.reduceToNat]
    exact fin (by rw [List.drop_eq_nil_of_le (by omega)]; rfl) _ _ _ rfl rfl
end Go.Proofs.YtfnngjnfajnpaaaGreatDoor

namespace Go.Proofs.YtfnngjnfajnpaaaGreatDoor
open Go Go.Ab
theorem splitB_mem_len {c : UInt8} : ∀ {l : List UInt8} {p : List UInt8}, p ∈ splitB c l → p.length ≤ l.length
  | [], p, h => by simp [splitB] at h; simp [h]
  | d :: l, p, h => by
    simp only [splitB] at h
    split at h
    · rcases List.mem_cons.1 h with rfl | h
      · simp
      · have := splitB_mem_len h; simp; omega
    · split at h
      · rename_i q qs e
        rcases List.mem_cons.1 h with rfl | h
        · have := splitB_mem_len (c := c) (l := l) (p := q) (by rw [e]; simp); simp; omega
        · have := splitB_mem_len (c := c) (l := l) (p := p) (by rw [e]; simp [h]); simp; omega
      · simp at h; simp [h]
theorem splitB_len {c : UInt8} : ∀ {l : List UInt8}, (splitB c l).length ≤ l.length + 1
  | [] => by simp [splitB]
  | d :: l => by
    have ih := splitB_len (c := c) (l := l)
    simp only [splitB]
    split
    · simp; omega
    · split
      · rename_i q qs e; rw [e] at ih; simp at ih ⊢; omega
      · simp

end Go.Proofs.YtfnngjnfajnpaaaGreatDoor

namespace Go.Proofs.YtfnngjnfajnpaaaGreatDoor
open Go Go.Ab
def ir_wirenumber : ICode :=
 (.seq
 (.reg [⟨some 2, none, .mov (.c (.int .i64 0))⟩] (some [0]))
 (.seq
 (.seq
 (.reg [⟨some 5, none, .mov (.t 0)⟩,
 ⟨some 6, none, .bin .eql .none (.t 5) (.c (.str []))⟩] (some [0, 6]))
 (.cond (.t 6)
 (.seq
 (.reg [⟨some 2, none, .mov (.c (.int .i64 (-1)))⟩] (some [2]))
 .ret)
 .skip))
 (.seq
 (.reg [⟨some 8, none, .mov (.t 0)⟩,
 ⟨some 9, none, .s2b 5 (.t 8)⟩,
 ⟨some 10, none, .call (.c (.fn (.func 79) [] [])) [(.t 9)]⟩,
 ⟨some 7, none, .mov (.t 10)⟩,
 ⟨some 11, none, .ext (.t 7) 0⟩,
 ⟨some 12, none, .ext (.t 7) 1⟩,
 ⟨some 3, none, .mov (.t 11)⟩,
 ⟨some 4, none, .mov (.t 12)⟩] (some [3]))
 (.seq
 (.reg [⟨some 13, none, .mov (.t 3)⟩,
 ⟨some 2, none, .mov (.t 13)⟩] (some [2]))
 .ret))))
theorem is_wirenumber : IrOf Tryz.prog 71 14 ir_wirenumber [.t 2] := ⟨_, Tryz.func71, rfl, by kernel_rfl, by kernel_rfl, by kernel_rfl⟩

/- (*clavier/wire.reader).params -/
def ir_wirereaderparams_b0 : ICode :=
 (.blk 3
 (.drw [⟨⟨some 37, none, .ld none (.t 5)⟩, []⟩,
 ⟨⟨some 38, none, .mov (.t 6)⟩, []⟩,
 ⟨⟨some 39, none, .call (.c (.fn (.func 71) [] [])) [(.t 38)]⟩, [1]⟩,
 ⟨⟨some 40, none, .row 3 1 [(.t 39)]⟩, [2]⟩,
 ⟨⟨some 41, none, .app 3 1 8 (.t 37) (.t 40)⟩, [0, 3, 2]⟩]
 [⟨none, none, .st 1 (.t 5) (.t 41)⟩] (some [])))
def ir_wirereaderparams_b1 : ICode :=
 (.blk 1
 (.seq
 (.reg [⟨some 5, none, .box 44 (.c .nils)⟩] (some [1, 4, 5]))
 (.seq
 (.seq
 (.reg [⟨some 34, none, .mov (.t 4)⟩,
 ⟨some 35, none, .call (.c (.fn (.func 70) [] [])) [(.t 34), (.c (.str [58]))]⟩] (some [1, 5, 35]))
 (.blk 2
 (.rgf (.t 35) [36]
 (.reg [⟨some 6, none, .mov (.t 36)⟩] (some [5, 6]))
 ir_wirereaderparams_b0)))
 (.drw [⟨⟨some 42, none, .ld none (.t 1)⟩, []⟩,
 ⟨⟨some 43, none, .ld none (.t 1)⟩, []⟩,
 ⟨⟨some 44, none, .nck (.t 43)⟩, [1]⟩,
 ⟨⟨some 45, none, .fa 2 (.t 44)⟩, [2]⟩,
 ⟨⟨some 46, none, .fa 2 (.t 45)⟩, [3]⟩,
 ⟨⟨some 47, none, .ld none (.t 46)⟩, [4]⟩,
 ⟨⟨some 48, none, .ld none (.t 5)⟩, []⟩,
 ⟨⟨some 49, none, .row 44 1 [(.t 48)]⟩, [6]⟩,
 ⟨⟨some 50, none, .app 44 1 24 (.t 47) (.t 49)⟩, [5, 7]⟩]
 [⟨some 51, none, .nck (.t 42)⟩,
 ⟨some 52, none, .fa 2 (.t 51)⟩,
 ⟨some 53, none, .fa 2 (.t 52)⟩,
 ⟨none, none, .st 1 (.t 53) (.t 50)⟩] (some [])))))
def ir_wirereaderparams_t4 : ICode :=
 (.seq
 (.reg [⟨some 31, none, .mov (.t 3)⟩,
 ⟨some 32, none, .call (.c (.fn (.func 70) [] [])) [(.t 31), (.c (.str [59]))]⟩] (some [1, 32]))
 (.blk 0
 (.rgf (.t 32) [33]
 (.reg [⟨some 4, none, .mov (.t 33)⟩] (some [1, 4]))
 ir_wirereaderparams_b1)))
def ir_wirereaderparams_t3 : ICode :=
 (.seq
 (.seq
 (.reg [⟨some 29, none, .mov (.t 3)⟩,
 ⟨some 30, none, .bin .eql .none (.t 29) (.c (.str []))⟩] (some [1, 3, 30]))
 (.cond (.t 30)
 .ret
 .skip))
 ir_wirereaderparams_t4)
def ir_wirereaderparams_t2 : ICode :=
 (.seq
 (.reg [⟨some 25, none, .ld none (.t 1)⟩,
 ⟨some 26, none, .nck (.t 25)⟩,
 ⟨some 27, none, .fa 0 (.t 26)⟩,
 ⟨some 28, none, .call (.c (.fn (.func 54) [] [])) [(.t 27), (.c (.int .u8 48)), (.c (.int .u8 59))]⟩,
 ⟨some 3, none, .mov (.t 28)⟩] (some [1, 3]))
 ir_wirereaderparams_t3)
def ir_wirereaderparams_t1 : ICode :=
 (.seq
 (.seq
 (.reg [⟨some 7, none, .ld none (.t 1)⟩,
 ⟨some 8, none, .nck (.t 7)⟩,
 ⟨some 9, none, .fa 0 (.t 8)⟩,
 ⟨some 10, none, .call (.c (.fn (.func 51) [] [])) [(.t 9)]⟩,
 ⟨some 2, none, .mov (.t 10)⟩] (some [1, 2]))
 (.seq
 (.reg [⟨some 11, none, .mov (.t 2)⟩,
 ⟨some 12, none, .bin .geq .none (.t 11) (.c (.int .u8 60))⟩,
 ⟨some 13, none, .mov (.t 12)⟩,
 ⟨some 14, some (13, true), .mov (.t 2)⟩,
 ⟨some 15, some (13, true), .bin .leq .none (.t 14) (.c (.int .u8 63))⟩,
 ⟨some 16, none, .pick (.t 13) (.t 15) (.c (.bool false))⟩] (some [1, 16]))
 (.cond (.t 16)
 (.drwm [(), (), (), ()] [⟨⟨some 17, none, .ld none (.t 1)⟩, []⟩,
 ⟨⟨some 18, none, .ld none (.t 1)⟩, []⟩,
 ⟨⟨some 19, none, .nck (.t 18)⟩, [1]⟩,
 ⟨⟨some 20, none, .fa 0 (.t 19)⟩, [2]⟩,
 ⟨⟨some 21, none, .call (.c (.fn (.func 50) [] [])) [(.t 20)]⟩, [3]⟩]
 [⟨some 22, none, .nck (.t 17)⟩,
 ⟨some 23, none, .fa 2 (.t 22)⟩,
 ⟨some 24, none, .fa 1 (.t 23)⟩,
 ⟨none, none, .st 1 (.t 24) (.t 21)⟩] (some [1]))
 .skip)))
 ir_wirereaderparams_t2)
def ir_wirereaderparams : ICode :=
 (.seq
 (.reg [⟨some 1, none, .box 77 (.t 0)⟩] (some [1]))
 ir_wirereaderparams_t1)
theorem is_wirereaderparams : IrOf Tryz.prog 52 54 ir_wirereaderparams [] := ⟨_, Tryz.func52, rfl, by kernel_rfl, by kernel_rfl, by kernel_rfl⟩

theorem fs_wNumber {Gl : Gh → Prop} (hst : Stays Gl) {t : List UInt8} (ht : t.length ≤ maxLen) : FS Tryz.prog Gl 71 [.str t] [] [] (.int .i64 (numW t)) [] [] := by
  refine FS.of hm hst is_wirenumber (by simp) fun γ hγ hfr => ?_
  (generalize hQ : (fun (ex : Ex) (_ _ : Nat) (s : St) => _) = Q; unfold ir_wirenumber)
  cases t with
  | nil =>
    simp +contextual (maxSteps := 1000000) only [go_sem, reduceCtorEq, ↓reduceIte, Nat.reduceAdd, Nat.reduceEqDiff]
    rw [← hQ]
    exact ⟨trivial, Ret.flat rfl rfl⟩
  | cons c l =>
    have hl : (c :: l).length < 9223372036854775808 := Nat.lt_of_le_of_lt ht (by decide)
    simp +contextual (maxSteps := 1000000) only [ht, go_sem, reduceCtorEq, ↓reduceIte, Nat.reduceAdd, Nat.reduceEqDiff]
    refine ⟨ht, ?_⟩
    (refine CallP.pure (fs_take hst hl) (fun _ => rfl) ?_; simp +contextual (maxSteps := 1000000) only [go_sem, reduceCtorEq, ↓reduceIte, Nat.reduceAdd, Nat.reduceEqDiff])
    rw [← hQ]
    have : numW (c :: l) = ((takeN (c :: l) 0 0).1 : Int) := by unfold numW; rw [if_neg (by simp)]
    rw [this]
    exact ⟨trivial, Ret.flat rfl rfl⟩
theorem CallP.rdX {Gl : Gh → Prop} {k : FuncId} {args : List AV} {p : Nm} {H Ha : Hp} {b : List UInt8} {n n' : Nat} {s s' : Sq} {y : AV} {T : Tk} {f : Nat → Nm} {K : AV → Hp → Tk → Prop} (h : FS Tryz.prog Gl k args [(p, .cells (rdC b n s))] [] y [(p, .cells (rdC b n' s'))] []) (hp : 1 ≤ p.1) (hy : y.flatT = true) (hap : ∀ q ∈ Ha, p ≠ q.1)
    (hH : ∀ q ∈ (p, HB.cells (rdC b n s)) :: Ha, q ∈ H) (hK : K y ((p, .cells (rdC b n' s')) :: Ha) T) : CallP Tryz.prog Gl k args H T f K := by
  refine ⟨_, _, _, h, fun q hq => hH q (by simp only [List.mem_singleton] at hq; subst hq; exact List.mem_cons_self), by simp, ?_⟩
  rintro r H1 T1 ⟨rfl, rfl, rfl⟩
  refine ⟨(p, .cells (rdC b n' s')) :: Ha, T, fun q hq => ?_, fun t ht => .inr ⟨ht, by simp⟩, by rw [flatT_rn hy]; exact hK⟩
  rcases List.mem_cons.1 hq with rfl | hq
  · refine List.mem_append.2 (.inl ?_)
    simp only [rnH, List.map_cons, List.map_nil, nm_real hp, rdC_rn, List.mem_singleton]
  · refine List.mem_append.2 (.inr (List.mem_filter.2 ⟨hH q (List.mem_cons_of_mem _ hq), ?_⟩))
    simp only [List.all_cons, List.all_nil, Bool.and_true, decide_eq_true_eq]
    exact hap q hq
theorem rdC_rnH {f : Nat → Nm} {p : Nm} (hp : 1 ≤ p.1) {b : List UInt8} {n : Nat} {s : Sq} : rnH f [(p, .cells (rdC b n s))] = [(p, .cells (rdC b n s))] := by
  simp only [rnH, List.map_cons, List.map_nil, nm_real hp, rdC_rn]

set_option maxHeartbeats 4000000 in
theorem fs_wParams {Gl : Gh → Prop} (hst : Stays Gl) {p : Nm} (hp : 1 ≤ p.1) {b : List UInt8} {n : Nat} {s : Sq} (hn : n ≤ b.length) (hb : b.length ≤ 4000000000) (h1 : s.pr = 0) (h2 : s.ps = []) :
    FS Tryz.prog Gl 52 [.ptr p 0] [(p, .cells (rdC b n s))] [] (.tup []) [(p, .cells (rdC b (n + (headW (b.drop n)).2.2) { s with pr := (headW (b.drop n)).1, ps := (headW (b.drop n)).2.1 }))] [] := by
  obtain ⟨sk, spr, sps, sit, sfi, sda⟩ := s
  simp only at h1 h2
  subst h1 h2
  refine FS.ofK hm hst is_wirereaderparams (by simp) fun γ hγ hfr => ?_
  have hpg : p.1 ≠ γ := hfr.1 _ List.mem_cons_self
  have hne : ∀ i j, (p = (γ, i, j)) = False := fun i j => eq_false fun e => hpg (by rw [e])
  have hne2 : ∀ i j, ((γ, i, j) = p) = False := fun i j => eq_false fun e => hpg (by rw [← e])
  have hap : ∀ q ∈ ([((γ, 0, 0), .cells [.ptr p 0])] : Hp), p ≠ q.1 := fun q hq e => by simp only [List.mem_singleton] at hq; subst hq; exact hpg (by rw [e])
  (generalize hQ : (fun (ex : Ex) (_ _ : Nat) (s : St) => _) = Q; unfold ir_wirereaderparams)
  simp only [rdC]
  simp +contextual (maxSteps := 1000000) only [hne, hne2, go_sem, reduceCtorEq, ↓reduceIte, Nat.reduceAdd, Nat.reduceEqDiff, Nat.reduceLeDiff, Nat.reduceMul, Nat.reduceBEq, Int.reduceBEq, Int.reduceBNe, Int.reduceLT, Int.reduceLE, Int.reduceGT, Int.reduceGE, Int.reduceToNat]
  unfold ir_wirereaderparams_t1
  simp +contextual (maxSteps := 1000000) only [hne, hne2, go_sem, reduceCtorEq, ↓reduceIte, Nat.reduceAdd, Nat.reduceEqDiff, Nat.reduceLeDiff, Nat.reduceMul, Nat.reduceBEq, Int.reduceBEq, Int.reduceBNe, Int.reduceLT, Int.reduceLE, Int.reduceGT, Int.reduceGE, Int.reduceToNat]
  refine CallP.rdX (Ha := [((γ, 0, 0), .cells [.ptr p 0])]) (fs_peek (b := b) (n := n) (s := ⟨sk, 0, [], sit, sfi, sda⟩) hst hp) hp rfl hap (by simp [rdC]) ?_
  simp only [rdC]
  generalize hc : peekW b n = c
  have hcond : (decide ((c.toNat : Int) ≥ 60) && decide ((c.toNat : Int) ≤ 63)) = isPr c := by
    unfold isPr; rw [Bool.eq_iff_iff]; simp; omega
  have go2 : ∀ (m : Nat) (pr : Int) (c' : Nat) (F : Nat → AV), F 1 = .ptr (γ, 0, 0) 0 → m ≤ b.length → headW (b.drop n) = (pr, numsW (runL 48 59 (b.drop m)), (m - n) + (runL 48 59 (b.drop m)).length) → n ≤ m →
      aw Tryz.prog Gl ir_wirereaderparams_t2 γ c' ⟨F, [(p, .cells [.sl none 1 (bytesAV b), .int .i64 m, .int .i64 sk, .int .u8 pr, pw [], .str sit, .int .u8 sfi, .str sda]), ((γ, 0, 0), .cells [.ptr p 0])], fun x => x ∈ []⟩ Q := by
    intro m pr c' F hF hm' hw hnm
    have cr : FS Tryz.prog Gl 54 [.ptr p 0, .int .u8 48, .int .u8 59] [(p, .cells (rdC b m ⟨sk, pr, [], sit, sfi, sda⟩))] [] (.str (runL 48 59 (b.drop m))) [(p, .cells (rdC b (m + (runL 48 59 (b.drop m)).length) ⟨sk, pr, [], sit, sfi, sda⟩))] [] := fs_run hst hp (x := 48) (y := 59) hm' (by omega)
    have htl := runL_le 48 59 (b.drop m)
    rw [List.length_drop] at htl
    generalize runL 48 59 (b.drop m) = t at cr htl hw
    unfold ir_wirereaderparams_t2
    simp +contextual (maxSteps := 1000000) only [hne, hne2, hF, go_sem, reduceCtorEq, ↓reduceIte, Nat.reduceAdd, Nat.reduceEqDiff, Nat.reduceLeDiff, Nat.reduceMul, Nat.reduceBEq, Int.reduceBEq, Int.reduceBNe, Int.reduceLT, Int.reduceLE, Int.reduceGT, Int.reduceGE, Int.reduceToNat]
    refine CallP.rdX (Ha := [((γ, 0, 0), .cells [.ptr p 0])]) cr hp rfl hap (by simp [rdC]) ?_
    unfold ir_wirereaderparams_t3
    simp only [rdC]
    have hfin : n + ((m - n) + t.length) = m + t.length := by omega
    by_cases hte : t = []
    · have hd : decide (t = []) = true := decide_eq_true hte
      simp +contextual (maxSteps := 1000000) only [hne, hne2, hd, go_sem, reduceCtorEq, ↓reduceIte, Nat.reduceAdd, Nat.reduceEqDiff, Nat.reduceLeDiff, Nat.reduceMul, Nat.reduceBEq, Int.reduceBEq, Int.reduceBNe, Int.reduceLT, Int.reduceLE, Int.reduceGT, Int.reduceGE, Int.reduceToNat]
      rw [← hQ, hw]
      refine ⟨trivial, 0, _, Wk.refl _ _ _, Ret.rd rfl rfl hp ?_⟩
      rw [hfin, hte]
      simp [rdC, numsW, pw]
    · have hd : decide (t = []) = false := decide_eq_false hte
      have hnums : numsW t = (splitB 59 t).map subsW := by unfold numsW; rw [if_neg hte]
      simp +contextual (maxSteps := 1000000) only [hne, hne2, hd, go_sem, reduceCtorEq, ↓reduceIte, Nat.reduceAdd, Nat.reduceEqDiff, Nat.reduceLeDiff, Nat.reduceMul, Nat.reduceBEq, Int.reduceBEq, Int.reduceBNe, Int.reduceLT, Int.reduceLE, Int.reduceGT, Int.reduceGE, Int.reduceToNat]
      unfold ir_wirereaderparams_t4
      simp +contextual (maxSteps := 1000000) only [hne, hne2, go_sem, reduceCtorEq, ↓reduceIte, Nat.reduceAdd, Nat.reduceEqDiff, Nat.reduceLeDiff, Nat.reduceMul, Nat.reduceBEq, Int.reduceBEq, Int.reduceBNe, Int.reduceLT, Int.reduceLE, Int.reduceGT, Int.reduceGE, Int.reduceToNat]
      refine CallP.of (fs_SplitSeq hst) (by simp) (by simp) ?_
      simp only [rnH, hpSplit, rnN, rnHB, rnL, Ab.rn]
      simp +contextual (maxSteps := 1000000) only [hne, hne2, go_sem, reduceCtorEq, ↓reduceIte, Nat.reduceAdd, Nat.reduceEqDiff, Nat.reduceLeDiff, Nat.reduceMul, Nat.reduceBEq, Int.reduceBEq, Int.reduceBNe, Int.reduceLT, Int.reduceLE, Int.reduceGT, Int.reduceGE, Int.reduceToNat]
      refine rgf_of rfl ((splitB 59 t).map fun q => [.str q])
        (fun i H T => ∃ (tk : Option Nm) (Hx : Hp), (tk = none → i = 0) ∧ (∀ x, tk = some x → γ ≤ x.1 ∧ T x) ∧ H = (p, .cells [.sl none 1 (bytesAV b), .int .i64 ((m + t.length : Nat) : Int), .int .i64 sk, .int .u8 pr, sv tk 1 (parsAV (((splitB 59 t).take i).map subsW)), .str sit, .int .u8 sfi, .str sda]) :: ((γ, 0, 0), .cells [.ptr p 0]) :: Hx)
        (fun _ _ _ => False) (hpSplit t 59 (γ, c' + 5 + 2 + 1, 0) (γ, c' + 5 + 2 + 1, 1) (γ, c' + 5 + 2 + 1, 2)) [(p, .cells [.sl none 1 (bytesAV b), .int .i64 ((m + t.length : Nat) : Int), .int .i64 sk, .int .u8 pr, .nils, .str sit, .int .u8 sfi, .str sda]), ((γ, 0, 0), .cells [.ptr p 0])] (fun _ => False)
        (it_split (by simp) (by simp) (by simp) (by omega)) (by simp [hpSplit]) (by simp [hpSplit, hne]) (by simp [pw]) (by simp) ⟨none, [], by simp, by simp, rfl⟩ (by simp) ?_ ?_ (fun _ _ _ h => h.elim)
      · rintro Gl' hst' hG i x H T γ' hx ⟨tk, Hx, hk1, hk2, rfl⟩ hlt hfr'
        simp only [List.getElem?_map, Option.map_eq_some_iff] at hx
        obtain ⟨q, hq, rfl⟩ := hx
        have hqm : q ∈ splitB 59 t := List.mem_of_getElem? hq
        have hql := splitB_mem_len hqm
        have hil : i < (splitB 59 t).length := (List.getElem?_eq_some_iff.1 hq).1
        have hsl := splitB_len (c := 59) (l := t)
        have hpg' : p.1 ≠ γ' := hfr'.1 _ List.mem_cons_self
        have mne : ∀ i j, (p = (γ', i, j)) = False := fun i j => eq_false fun e => hpg' (by rw [e])
        have mne2 : ∀ i j, ((γ', i, j) = p) = False := fun i j => eq_false fun e => hpg' (by rw [← e])
        have gne : (γ = γ') = False := eq_false (by omega)
        have gne2 : (γ' = γ) = False := eq_false (by omega)
        generalize hK : kBd _ _ _ = K
        unfold ir_wirereaderparams_b1
        simp +contextual (maxSteps := 1000000) only [hne, hne2, mne, mne2, gne, gne2, hF, go_sem, reduceCtorEq, ↓reduceIte, Nat.reduceAdd, Nat.reduceEqDiff, Nat.reduceLeDiff, Nat.reduceMul, Nat.reduceBEq, Int.reduceBEq, Int.reduceBNe, Int.reduceLT, Int.reduceLE, Int.reduceGT, Int.reduceGE, Int.reduceToNat]
        refine CallP.of (fs_SplitSeq hst') (by simp) (by simp) ?_
        simp only [rnH, hpSplit, rnN, rnHB, rnL, Ab.rn]
        simp +contextual (maxSteps := 1000000) only [hne, hne2, mne, mne2, gne, gne2, go_sem, reduceCtorEq, ↓reduceIte, Nat.reduceAdd, Nat.reduceEqDiff, Nat.reduceLeDiff, Nat.reduceMul, Nat.reduceBEq, Int.reduceBEq, Int.reduceBNe, Int.reduceLT, Int.reduceLE, Int.reduceGT, Int.reduceGE, Int.reduceToNat]
        refine rgf_of rfl ((splitB 58 q).map fun r => [.str r])
          (fun j H T => ∃ tj : Option Nm, (tj = none → j = 0) ∧ (∀ x, tj = some x → γ' ≤ x.1 ∧ T x) ∧ H = [((γ', 1, 0), .cells [sv tj 1 (intsAV (((splitB 58 q).take j).map numW))])])
          (fun _ _ _ => False) (hpSplit q 58 (γ', 3, 0) (γ', 3, 1) (γ', 3, 2)) [((γ', 1, 0), .cells [.nils])] (fun _ => False)
          (it_split (by simp) (by simp) (by simp) (by omega)) (by simp [hpSplit]) (by simp [hpSplit]) (by simp) (by simp) ⟨none, by simp, by simp, rfl⟩ (by simp) ?_ ?_ (fun _ _ _ h => h.elim)
        · rintro Gl'' hst'' hG' j x H T' γ'' hx ⟨tj, hj1, hj2, rfl⟩ hlt' hfr''
          simp only [List.getElem?_map, Option.map_eq_some_iff] at hx
          obtain ⟨r, hr, rfl⟩ := hx
          have hrl := splitB_mem_len (List.mem_of_getElem? hr)
          have hjl := (List.getElem?_eq_some_iff.1 hr).1
          have hsl' := splitB_len (c := 58) (l := q)
          have hts : (splitB 58 q).take (j + 1) = (splitB 58 q).take j ++ [r] := by rw [List.take_add_one, hr]; rfl
          have hln : (intsAV (((splitB 58 q).take j).map numW)).length ≤ q.length + 1 := by simp [intsAV]; omega
          generalize hK' : kBd _ _ _ = K'
          unfold ir_wirereaderparams_b0
          cases tj with
          | none =>
            obtain rfl := hj1 rfl
            simp +contextual (maxSteps := 1000000) only [go_sem, reduceCtorEq, ↓reduceIte, Nat.reduceAdd, Nat.reduceEqDiff, Nat.reduceLeDiff, Nat.reduceMul, Nat.reduceBEq, Int.reduceBEq, Int.reduceBNe, Int.reduceLT, Int.reduceLE, Int.reduceGT, Int.reduceGE, Int.reduceToNat]
            refine DCall.new (fs_wNumber hst'' (by simp only [maxLen]; omega)) ?_
            simp +contextual (maxSteps := 1000000) only [go_sem, reduceCtorEq, ↓reduceIte, Nat.reduceAdd, Nat.reduceEqDiff, Nat.reduceLeDiff, Nat.reduceMul, Nat.reduceBEq, Int.reduceBEq, Int.reduceBNe, Int.reduceLT, Int.reduceLE, Int.reduceGT, Int.reduceGE, Int.reduceToNat]
            rw [← hK']
            refine ⟨some (γ'', 5, 0), by simp, fun x hx => ?_, ?_⟩
            · cases hx
              exact ⟨by simp only; omega, by simp⟩
            · rw [hts]
              simp [sv, intsAV]
          | some t0 =>
            simp +contextual (maxSteps := 1000000) only [go_sem, reduceCtorEq, ↓reduceIte, Nat.reduceAdd, Nat.reduceEqDiff, Nat.reduceLeDiff, Nat.reduceMul, Nat.reduceBEq, Int.reduceBEq, Int.reduceBNe, Int.reduceLT, Int.reduceLE, Int.reduceGT, Int.reduceGE, Int.reduceToNat]
            refine DCall.new (fs_wNumber hst'' (by simp only [maxLen]; omega)) ?_
            simp +contextual (maxSteps := 1000000) only [go_sem, reduceCtorEq, ↓reduceIte, Nat.reduceAdd, Nat.reduceEqDiff, Nat.reduceLeDiff, Nat.reduceMul, Nat.reduceBEq, Int.reduceBEq, Int.reduceBNe, Int.reduceLT, Int.reduceLE, Int.reduceGT, Int.reduceGE, Int.reduceToNat]
            refine ⟨.inl (hj2 t0 rfl).2, by omega, by simp, ?_⟩
            rw [← hK']
            refine ⟨some (γ'', 5, 0), by simp, fun x hx => ?_, ?_⟩
            · cases hx
              exact ⟨by simp only; omega, .inl (by simp), fun e => hfr''.2 t0 (hj2 t0 rfl).2 (by rw [← e])⟩
            · rw [hts]
              simp [sv, intsAV]
        · rintro H1 T1 ⟨tj, hj1, hj2, rfl⟩
          have hlen' : ((splitB 58 q).map fun r => [AV.str r]).length = (splitB 58 q).length := by simp
          rw [hlen'] at hj1 ⊢
          rw [List.take_length]
          cases tj with
          | none => exact absurd (List.length_eq_zero_iff.1 (hj1 rfl)) (splitB_ne _ _)
          | some u0 =>
            refine ⟨[(p, .cells [.sl none 1 (bytesAV b), .int .i64 ((m + t.length : Nat) : Int), .int .i64 sk, .int .u8 pr, sv tk 1 (parsAV (((splitB 59 t).take i).map subsW)), .str sit, .int .u8 sfi, .str sda]), ((γ, 0, 0), .cells [.ptr p 0]), ((γ', 1, 0), .cells [.sl (some u0) 1 (intsAV (subsW q))])], fun x => x = u0 ∨ T x, fun z hz => ?_, fun x hx => ?_, ?_⟩
            · simp only [List.mem_cons, List.not_mem_nil, or_false] at hz
              rcases hz with rfl | rfl | rfl
              · exact List.mem_append.2 (.inr (List.mem_filter.2 ⟨by simp, by simp [hpSplit, mne2]⟩))
              · exact List.mem_append.2 (.inr (List.mem_filter.2 ⟨by simp, by simp [hpSplit, gne2]⟩))
              · exact List.mem_append.2 (.inl (by simp [sv, subsW]))
            · rcases hx with rfl | hx
              · exact .inl (hj2 _ rfl).2
              · exact .inr ⟨.inr ⟨hx, by simp⟩, by simp⟩
            have hts : (splitB 59 t).take (i + 1) = (splitB 59 t).take i ++ [q] := by rw [List.take_add_one, hq]; rfl
            have hln : (parsAV (((splitB 59 t).take i).map subsW)).length ≤ t.length + 1 := by simp [parsAV]; omega
            cases tk with
            | none =>
              obtain rfl := hk1 rfl
              simp +contextual (maxSteps := 1000000) only [hne, hne2, mne, mne2, gne, gne2, go_sem, reduceCtorEq, ↓reduceIte, Nat.reduceAdd, Nat.reduceEqDiff, Nat.reduceLeDiff, Nat.reduceMul, Nat.reduceBEq, Int.reduceBEq, Int.reduceBNe, Int.reduceLT, Int.reduceLE, Int.reduceGT, Int.reduceGE, Int.reduceToNat]
              rw [← hK]
              refine ⟨some (γ', 13, 0), [((γ', 1, 0), .cells [.sl (some u0) 1 (intsAV (subsW q))])], by simp, fun x hx => ?_, ?_⟩
              · cases hx
                exact ⟨by simp only; omega, by simp⟩
              · rw [hts]
                simp [sv, parsAV, intsV]
            | some t0 =>
              simp +contextual (maxSteps := 1000000) only [hne, hne2, mne, mne2, gne, gne2, go_sem, reduceCtorEq, ↓reduceIte, Nat.reduceAdd, Nat.reduceEqDiff, Nat.reduceLeDiff, Nat.reduceMul, Nat.reduceBEq, Int.reduceBEq, Int.reduceBNe, Int.reduceLT, Int.reduceLE, Int.reduceGT, Int.reduceGE, Int.reduceToNat]
              refine ⟨.inl (.inr (hk2 t0 rfl).2), by omega, by simp, ?_⟩
              rw [← hK]
              refine ⟨some (γ', 13, 0), [((γ', 1, 0), .cells [.sl (some u0) 1 (intsAV (subsW q))])], by simp, fun x hx => ?_, ?_⟩
              · cases hx
                exact ⟨by simp only; omega, .inl (by simp), fun e => hfr'.2 t0 (hk2 t0 rfl).2 (by rw [← e])⟩
              · rw [hts]
                simp [sv, parsAV, intsV]
      · rintro H1 T1 ⟨tk, Hx, hk1, hk2, rfl⟩
        refine ⟨_, fun t => tk = some t, fun p hp => List.mem_append.2 (.inl hp), fun t ht => .inl (hk2 t ht).2, ?_⟩
        have hlen : ((splitB 59 t).map fun p => [AV.str p]).length = (splitB 59 t).length := by simp
        rw [hlen] at hk1 ⊢
        rw [List.take_length]
        cases tk with
        | none => exact absurd (List.length_eq_zero_iff.1 (hk1 rfl)) (splitB_ne _ _)
        | some t0 =>
          simp +contextual (maxSteps := 1000000) only [go_sem, reduceCtorEq, ↓reduceIte, Nat.reduceAdd, Nat.reduceEqDiff, Nat.reduceLeDiff, Nat.reduceMul, Nat.reduceBEq, Int.reduceBEq, Int.reduceBNe, Int.reduceLT, Int.reduceLE, Int.reduceGT, Int.reduceGE, Int.reduceToNat]
          rw [← hQ, hw]
          refine ⟨trivial, 0, ⟨fun _ => .und, [(p, .cells (rdC b (m + t.length) ⟨sk, pr, (splitB 59 t).map subsW, sit, sfi, sda⟩))], fun x => x ∈ []⟩, ⟨fun _ => .und _ _, ?_, by simp⟩, Ret.rd rfl rfl hp ?_⟩
          · intro r hr
            simp only [List.mem_singleton] at hr
            subst hr
            refine ⟨_, List.mem_cons_self, rfl, rfl, fun i x y hx hy => ?_⟩
            have hpw : pw ((splitB 59 t).map subsW) = .sl none 1 (parsAV ((splitB 59 t).map subsW)) := by
              have := splitB_ne 59 t
              cases hs : splitB 59 t with
              | nil => exact absurd hs this
              | cons a l => rfl
            simp only [rdC, hpw] at hy
            rcases i with _ | _ | _ | _ | _ | _ | _ | _ | i <;> simp only [List.getElem?_cons_zero, List.getElem?_cons_succ, List.getElem?_nil, Option.some.injEq, reduceCtorEq] at hx hy <;> subst hx hy <;> first | exact AVle.refl _ _ | exact AVle.le (RepLe.anon' rfl)
          · rw [hfin, hnums]
            exact List.mem_singleton.2 rfl
  cases hpr : isPr c with
  | true =>
    rw [hpr] at hcond
    have hlt : n < b.length := by
      rcases Nat.lt_or_ge n b.length with h | h
      · exact h
      · rw [peek_ge h] at hc
        subst hc
        simp [isPr] at hpr
    have hh : headW (b.drop n) = ((c.toNat : Int), numsW (runL 48 59 (b.drop (n + 1))), (n + 1 - n) + (runL 48 59 (b.drop (n + 1))).length) := by
      unfold headW
      have : (b.drop n).headD 0 = c := hc
      rw [this, hpr]
      simp only [if_true, List.drop_drop]
      rw [show n + 1 - n = 1 by omega]
    simp +contextual (maxSteps := 1000000) only [hne, hne2, hcond, go_sem, reduceCtorEq, ↓reduceIte, Nat.reduceAdd, Nat.reduceEqDiff, Nat.reduceLeDiff, Nat.reduceMul, Nat.reduceBEq, Int.reduceBEq, Int.reduceBNe, Int.reduceLT, Int.reduceLE, Int.reduceGT, Int.reduceGE, Int.reduceToNat]
    refine kDrwM_of [((γ, 0, 0), .cells [.ptr p 0])] [(p, .cells (rdC b n ⟨sk, 0, [], sit, sfi, sda⟩))] (by simp [rdC]) (fun q hq q' hq' => ?_) ?_
    · simp only [List.mem_singleton] at hq hq'
      subst hq hq'
      exact fun e => hpg (by rw [show p = (γ, 0, 0) from e])
    simp +contextual (maxSteps := 1000000) only [hne, hne2, go_sem, reduceCtorEq, ↓reduceIte, Nat.reduceAdd, Nat.reduceEqDiff, Nat.reduceLeDiff, Nat.reduceMul, Nat.reduceBEq, Int.reduceBEq, Int.reduceBNe, Int.reduceLT, Int.reduceLE, Int.reduceGT, Int.reduceGE, Int.reduceToNat]
    refine MCall.of (fs_next hst hp (by omega)) (fun _ => rfl) (fun _ => rdC_rnH hp) (fun q hq q' hq' => ?_) ?_
    · simp only [List.mem_singleton] at hq hq'
      subst hq hq'
      exact fun e => hpg (by rw [← show (γ, 0, 0) = p from e])
    rw [hc]
    simp only [rdC]
    simp +contextual (maxSteps := 1000000) only [hne, hne2, go_sem, reduceCtorEq, ↓reduceIte, Nat.reduceAdd, Nat.reduceEqDiff, Nat.reduceLeDiff, Nat.reduceMul, Nat.reduceBEq, Int.reduceBEq, Int.reduceBNe, Int.reduceLT, Int.reduceLE, Int.reduceGT, Int.reduceGE, Int.reduceToNat]
    exact go2 (n + 1) c.toNat _ _ rfl hlt hh (by omega)
  | false =>
    rw [hpr] at hcond
    simp +contextual (maxSteps := 1000000) only [hne, hne2, hcond, go_sem, reduceCtorEq, ↓reduceIte, Nat.reduceAdd, Nat.reduceEqDiff, Nat.reduceLeDiff, Nat.reduceMul, Nat.reduceBEq, Int.reduceBEq, Int.reduceBNe, Int.reduceLT, Int.reduceLE, Int.reduceGT, Int.reduceGE, Int.reduceToNat]
    refine go2 n 0 _ _ rfl hn ?_ (Nat.le_refl n)
    unfold headW
    have : (b.drop n).headD 0 = c := hc
    rw [this, hpr]
    simp
end Go.Proofs.YtfnngjnfajnpaaaGreatDoor

namespace Go.Proofs.YtfnngjnfajnpaaaGreatDoor
open Go Go.Ab
def ir_wirereaderrest : ICode :=
 (.seq
 (.reg [⟨some 2, none, .mov (.t 0)⟩,
 ⟨some 3, none, .mov (.t 0)⟩,
 ⟨some 4, none, .nck (.t 3)⟩,
 ⟨some 5, none, .fa 0 (.t 4)⟩,
 ⟨some 6, none, .call (.c (.fn (.func 54) [] [])) [(.t 5), (.c (.int .u8 32)), (.c (.int .u8 47))]⟩,
 ⟨some 7, none, .nck (.t 2)⟩,
 ⟨some 8, none, .fa 2 (.t 7)⟩,
 ⟨some 9, none, .fa 3 (.t 8)⟩,
 ⟨none, none, .st 1 (.t 9) (.t 6)⟩] (some [0]))
 (.reg [⟨some 10, none, .mov (.t 0)⟩,
 ⟨some 11, none, .mov (.t 0)⟩,
 ⟨some 12, none, .nck (.t 11)⟩,
 ⟨some 13, none, .fa 0 (.t 12)⟩,
 ⟨some 14, none, .call (.c (.fn (.func 50) [] [])) [(.t 13)]⟩,
 ⟨some 15, none, .nck (.t 10)⟩,
 ⟨some 16, none, .fa 2 (.t 15)⟩,
 ⟨some 17, none, .fa 4 (.t 16)⟩,
 ⟨none, none, .st 1 (.t 17) (.t 14)⟩] (some [])))
theorem is_wirereaderrest : IrOf Tryz.prog 53 18 ir_wirereaderrest [] := ⟨_, Tryz.func53, rfl, by kernel_rfl, by kernel_rfl, by kernel_rfl⟩

def ir_wirereaderread : ICode :=
 (.seq
 (.seq
 (.reg [⟨some 2, none, .mov (.t 0)⟩,
 ⟨some 3, none, .nck (.t 2)⟩,
 ⟨some 4, none, .fa 0 (.t 3)⟩,
 ⟨some 5, none, .call (.c (.fn (.func 50) [] [])) [(.t 4)]⟩,
 ⟨some 6, none, .bin .neq .none (.t 5) (.c (.int .u8 27))⟩] (some [0, 6]))
 (.cond (.t 6)
 .ret
 .skip))
 (.seq
 (.reg [⟨some 7, none, .mov (.t 0)⟩,
 ⟨some 8, none, .nck (.t 7)⟩,
 ⟨some 9, none, .fa 0 (.t 8)⟩,
 ⟨some 10, none, .call (.c (.fn (.func 51) [] [])) [(.t 9)]⟩] (some [0, 10]))
 (.blk 0
 (.seq
 (.reg [⟨some 18, none, .bin .eql .none (.t 10) (.c (.int .u8 91))⟩,
 ⟨some 17, none, .mov (.t 18)⟩] (some [0, 10, 17]))
 (.cond (.t 17)
 (.seq
 (.reg [⟨some 19, none, .mov (.t 0)⟩,
 ⟨some 20, none, .nck (.t 19)⟩,
 ⟨some 21, none, .fa 2 (.t 20)⟩,
 ⟨some 22, none, .fa 0 (.t 21)⟩,
 ⟨none, none, .st 1 (.t 22) (.c (.int .i64 1))⟩] (some [0]))
 (.seq
 (.reg [⟨some 23, none, .mov (.t 0)⟩,
 ⟨some 24, none, .nck (.t 23)⟩,
 ⟨some 25, none, .fa 0 (.t 24)⟩,
 ⟨some 26, none, .fa 1 (.t 25)⟩,
 ⟨some 27, none, .ld none (.t 26)⟩,
 ⟨some 28, none, .bin .add .none (.t 27) (.c (.int .i64 1))⟩,
 ⟨some 29, none, .nck (.t 23)⟩,
 ⟨some 30, none, .fa 0 (.t 29)⟩,
 ⟨some 31, none, .fa 1 (.t 30)⟩,
 ⟨none, none, .st 1 (.t 31) (.t 28)⟩] (some [0]))
 (.seq
 (.reg [⟨some 32, none, .mov (.t 0)⟩,
 ⟨some 33, none, .call (.c (.fn (.func 52) [] [])) [(.t 32)]⟩] (some [0]))
 (.reg [⟨some 34, none, .mov (.t 0)⟩,
 ⟨some 35, none, .call (.c (.fn (.func 53) [] [])) [(.t 34)]⟩] (some [])))))
 (.seq
 (.reg [⟨some 37, none, .bin .eql .none (.t 10) (.c (.int .u8 79))⟩,
 ⟨some 36, none, .mov (.t 37)⟩] (some [0, 10, 36]))
 (.cond (.t 36)
 (.seq
 (.reg [⟨some 38, none, .mov (.t 0)⟩,
 ⟨some 39, none, .nck (.t 38)⟩,
 ⟨some 40, none, .fa 2 (.t 39)⟩,
 ⟨some 41, none, .fa 0 (.t 40)⟩,
 ⟨none, none, .st 1 (.t 41) (.c (.int .i64 2))⟩] (some [0]))
 (.seq
 (.reg [⟨some 42, none, .mov (.t 0)⟩,
 ⟨some 43, none, .nck (.t 42)⟩,
 ⟨some 44, none, .fa 0 (.t 43)⟩,
 ⟨some 45, none, .fa 1 (.t 44)⟩,
 ⟨some 46, none, .ld none (.t 45)⟩,
 ⟨some 47, none, .bin .add .none (.t 46) (.c (.int .i64 1))⟩,
 ⟨some 48, none, .nck (.t 42)⟩,
 ⟨some 49, none, .fa 0 (.t 48)⟩,
 ⟨some 50, none, .fa 1 (.t 49)⟩,
 ⟨none, none, .st 1 (.t 50) (.t 47)⟩] (some [0]))
 (.reg [⟨some 51, none, .mov (.t 0)⟩,
 ⟨some 52, none, .mov (.t 0)⟩,
 ⟨some 53, none, .nck (.t 52)⟩,
 ⟨some 54, none, .fa 0 (.t 53)⟩,
 ⟨some 55, none, .call (.c (.fn (.func 50) [] [])) [(.t 54)]⟩,
 ⟨some 56, none, .nck (.t 51)⟩,
 ⟨some 57, none, .fa 2 (.t 56)⟩,
 ⟨some 58, none, .fa 4 (.t 57)⟩,
 ⟨none, none, .st 1 (.t 58) (.t 55)⟩] (some []))))
 (.seq
 (.reg [⟨some 60, none, .bin .eql .none (.t 10) (.c (.int .u8 80))⟩,
 ⟨some 59, none, .mov (.t 60)⟩] (some [0, 10, 59]))
 (.cond (.t 59)
 (.seq
 (.reg [⟨some 61, none, .mov (.t 0)⟩,
 ⟨some 62, none, .nck (.t 61)⟩,
 ⟨some 63, none, .fa 2 (.t 62)⟩,
 ⟨some 64, none, .fa 0 (.t 63)⟩,
 ⟨none, none, .st 1 (.t 64) (.c (.int .i64 3))⟩] (some [0]))
 (.seq
 (.reg [⟨some 65, none, .mov (.t 0)⟩,
 ⟨some 66, none, .nck (.t 65)⟩,
 ⟨some 67, none, .fa 0 (.t 66)⟩,
 ⟨some 68, none, .fa 1 (.t 67)⟩,
 ⟨some 69, none, .ld none (.t 68)⟩,
 ⟨some 70, none, .bin .add .none (.t 69) (.c (.int .i64 1))⟩,
 ⟨some 71, none, .nck (.t 65)⟩,
 ⟨some 72, none, .fa 0 (.t 71)⟩,
 ⟨some 73, none, .fa 1 (.t 72)⟩,
 ⟨none, none, .st 1 (.t 73) (.t 70)⟩] (some [0]))
 (.seq
 (.reg [⟨some 74, none, .mov (.t 0)⟩,
 ⟨some 75, none, .call (.c (.fn (.func 52) [] [])) [(.t 74)]⟩] (some [0]))
 (.seq
 (.reg [⟨some 76, none, .mov (.t 0)⟩,
 ⟨some 77, none, .call (.c (.fn (.func 53) [] [])) [(.t 76)]⟩] (some [0]))
 (.seq
 (.reg [⟨some 78, none, .mov (.t 0)⟩,
 ⟨some 79, none, .mov (.t 0)⟩,
 ⟨some 80, none, .nck (.t 79)⟩,
 ⟨some 81, none, .fa 0 (.t 80)⟩,
 ⟨some 82, none, .call (.c (.fn (.func 54) [] [])) [(.t 81), (.c (.int .u8 32)), (.c (.int .u8 126))]⟩,
 ⟨some 83, none, .nck (.t 78)⟩,
 ⟨some 84, none, .fa 2 (.t 83)⟩,
 ⟨some 85, none, .fa 5 (.t 84)⟩,
 ⟨none, none, .st 1 (.t 85) (.t 82)⟩] (some [0]))
 (.reg [⟨some 86, none, .mov (.t 0)⟩,
 ⟨some 87, none, .nck (.t 86)⟩,
 ⟨some 88, none, .fa 0 (.t 87)⟩,
 ⟨some 89, none, .fa 1 (.t 88)⟩,
 ⟨some 90, none, .ld none (.t 89)⟩,
 ⟨some 91, none, .bin .add .none (.t 90) (.c (.int .i64 2))⟩,
 ⟨some 92, none, .nck (.t 86)⟩,
 ⟨some 93, none, .fa 0 (.t 92)⟩,
 ⟨some 94, none, .fa 1 (.t 93)⟩,
 ⟨none, none, .st 1 (.t 94) (.t 91)⟩] (some [])))))))
 (.seq
 (.reg [⟨some 96, none, .bin .eql .none (.t 10) (.c (.int .u8 93))⟩,
 ⟨some 95, none, .mov (.t 96)⟩] (some [0, 95]))
 (.cond (.t 95)
 (.seq
 (.reg [⟨some 97, none, .mov (.t 0)⟩,
 ⟨some 98, none, .nck (.t 97)⟩,
 ⟨some 99, none, .fa 2 (.t 98)⟩,
 ⟨some 100, none, .fa 0 (.t 99)⟩,
 ⟨none, none, .st 1 (.t 100) (.c (.int .i64 4))⟩] (some [0]))
 (.seq
 (.reg [⟨some 101, none, .mov (.t 0)⟩,
 ⟨some 102, none, .nck (.t 101)⟩,
 ⟨some 103, none, .fa 0 (.t 102)⟩,
 ⟨some 104, none, .fa 1 (.t 103)⟩,
 ⟨some 105, none, .ld none (.t 104)⟩,
 ⟨some 106, none, .bin .add .none (.t 105) (.c (.int .i64 1))⟩,
 ⟨some 107, none, .nck (.t 101)⟩,
 ⟨some 108, none, .fa 0 (.t 107)⟩,
 ⟨some 109, none, .fa 1 (.t 108)⟩,
 ⟨none, none, .st 1 (.t 109) (.t 106)⟩] (some [0]))
 (.seq
 (.reg [⟨some 110, none, .mov (.t 0)⟩,
 ⟨some 111, none, .mov (.t 0)⟩,
 ⟨some 112, none, .nck (.t 111)⟩,
 ⟨some 113, none, .fa 0 (.t 112)⟩,
 ⟨some 114, none, .call (.c (.fn (.func 54) [] [])) [(.t 113), (.c (.int .u8 32)), (.c (.int .u8 126))]⟩,
 ⟨some 115, none, .nck (.t 110)⟩,
 ⟨some 116, none, .fa 2 (.t 115)⟩,
 ⟨some 117, none, .fa 5 (.t 116)⟩,
 ⟨none, none, .st 1 (.t 117) (.t 114)⟩] (some [0]))
 (.reg [⟨some 118, none, .mov (.t 0)⟩,
 ⟨some 119, none, .nck (.t 118)⟩,
 ⟨some 120, none, .fa 0 (.t 119)⟩,
 ⟨some 121, none, .fa 1 (.t 120)⟩,
 ⟨some 122, none, .ld none (.t 121)⟩,
 ⟨some 123, none, .bin .add .none (.t 122) (.c (.int .i64 2))⟩,
 ⟨some 124, none, .nck (.t 118)⟩,
 ⟨some 125, none, .fa 0 (.t 124)⟩,
 ⟨some 126, none, .fa 1 (.t 125)⟩,
 ⟨none, none, .st 1 (.t 126) (.t 123)⟩] (some [])))))
 (.seq
 (.reg [⟨some 11, none, .mov (.t 0)⟩,
 ⟨some 12, none, .nck (.t 11)⟩,
 ⟨some 13, none, .fa 2 (.t 12)⟩,
 ⟨some 14, none, .fa 0 (.t 13)⟩,
 ⟨none, none, .st 1 (.t 14) (.c (.int .i64 5))⟩] (some [0]))
 (.reg [⟨some 15, none, .mov (.t 0)⟩,
 ⟨some 16, none, .call (.c (.fn (.func 53) [] [])) [(.t 15)]⟩] (some []))))))))))))))
theorem is_wirereaderread : IrOf Tryz.prog 41 127 ir_wirereaderread [] := ⟨_, Tryz.func41, rfl, by kernel_rfl, by kernel_rfl, by kernel_rfl⟩

theorem peek_drop {b : List UInt8} {n k : Nat} : ((b.drop n).drop k).headD 0 = peekW b (n + k) := by unfold peekW; rw [List.drop_drop]
theorem headW_le (l : List UInt8) : (headW l).2.2 ≤ l.length := by
  unfold headW
  simp only
  split
  · rename_i h
    have h1 := runL_le 48 59 (l.drop 1)
    rw [List.length_drop] at h1
    cases l with
    | nil => simp [isPr] at h
    | cons c l => simp only [List.length_cons] at h1 ⊢; omega
  · have h1 := runL_le 48 59 (l.drop 0)
    rw [List.drop_zero] at h1 ⊢
    omega
theorem fs_wRest {Gl : Gh → Prop} (hst : Stays Gl) {p : Nm} (hp : 1 ≤ p.1) {b : List UInt8} {n : Nat} {s : Sq} (hn : n ≤ b.length) (hb : b.length ≤ 4000000000) :
    FS Tryz.prog Gl 53 [.ptr p 0] [(p, .cells (rdC b n s))] [] (.tup []) [(p, .cells (rdC b (n + (restW (b.drop n)).2.2) { s with it := (restW (b.drop n)).1, fi := (restW (b.drop n)).2.1 }))] [] := by
  refine FS.of hm hst is_wirereaderrest (by simp) fun γ hγ hfr => ?_
  have c1 : FS Tryz.prog Gl 54 [.ptr p 0, .int .u8 32, .int .u8 47] [(p, .cells (rdC b n s))] [] (.str (runL 32 47 (b.drop n))) [(p, .cells (rdC b (n + (runL 32 47 (b.drop n)).length) s))] [] := fs_run hst hp (x := 32) (y := 47) hn (by omega)
  have hle := runL_le 32 47 (b.drop n)
  rw [List.length_drop] at hle
  have hw : restW (b.drop n) = (runL 32 47 (b.drop n), ((peekW b (n + (runL 32 47 (b.drop n)).length)).toNat : Int), (runL 32 47 (b.drop n)).length + 1) := by
    unfold restW; simp only [peek_drop]
  rw [hw]
  generalize runL 32 47 (b.drop n) = t at c1 hle
  have c2 := fs_next (Gl := Gl) hst hp (b := b) (n := n + t.length) (s := { s with it := t }) (by omega)
  (generalize hQ : (fun (ex : Ex) (_ _ : Nat) (s : St) => _) = Q; unfold ir_wirereaderrest)
  simp only [rdC]
  simp +contextual (maxSteps := 1000000) only [go_sem, reduceCtorEq, ↓reduceIte, Nat.reduceAdd, Nat.reduceEqDiff, Nat.reduceLeDiff, Nat.reduceMul, Nat.reduceBEq, Int.reduceBEq, Int.reduceBNe, Int.reduceLT, Int.reduceLE, Int.reduceGT, Int.reduceGE, Int.reduceToNat]
  refine CallP.rdX (Ha := []) c1 hp rfl (by simp) (by simp [rdC]) ?_
  simp only [rdC]
  simp +contextual (maxSteps := 1000000) only [go_sem, reduceCtorEq, ↓reduceIte, Nat.reduceAdd, Nat.reduceEqDiff, Nat.reduceLeDiff, Nat.reduceMul, Nat.reduceBEq, Int.reduceBEq, Int.reduceBNe, Int.reduceLT, Int.reduceLE, Int.reduceGT, Int.reduceGE, Int.reduceToNat]
  refine CallP.rdX (Ha := []) c2 hp rfl (by simp) (by simp [rdC]) ?_
  simp only [rdC]
  simp +contextual (maxSteps := 1000000) only [go_sem, reduceCtorEq, ↓reduceIte, Nat.reduceAdd, Nat.reduceEqDiff, Nat.reduceLeDiff, Nat.reduceMul, Nat.reduceBEq, Int.reduceBEq, Int.reduceBNe, Int.reduceLT, Int.reduceLE, Int.reduceGT, Int.reduceGE, Int.reduceToNat]
  rw [← hQ]
  exact ⟨trivial, Ret.rd rfl rfl hp (by simp [rdC, Nat.add_assoc])⟩

def dcsOk (b : List UInt8) : Prop := b.headD 0 = 27 → (b.drop 1).headD 0 = 80 → 2 + (headW (b.drop 2)).2.2 + (restW (b.drop (2 + (headW (b.drop 2)).2.2))).2.2 ≤ b.length
theorem u8_eq {c : UInt8} {k : Nat} (hk : k < 256) : ((c.toNat : Int) == (k : Int)) = decide (c = UInt8.ofNat k) := by
  rw [Bool.eq_iff_iff, beq_iff_eq, decide_eq_true_eq]
  constructor
  · intro h
    have h : c.toNat = k := by omega
    rw [← h, UInt8.ofNat_toNat]
  · rintro rfl
    rw [UInt8.toNat_ofNat', Nat.mod_eq_of_lt hk]
theorem u8_ne {c : UInt8} {k : Nat} (hk : k < 256) : ((c.toNat : Int) != (k : Int)) = !decide (c = UInt8.ofNat k) := by
  rw [bne, u8_eq hk]
set_option maxHeartbeats 4000000 in
theorem fs_wRead {Gl : Gh → Prop} (hst : Stays Gl) {p : Nm} (hp : 1 ≤ p.1) {b : List UInt8} (hb : b.length ≤ 4000000000) (hd : dcsOk b) :
    FS Tryz.prog Gl 41 [.ptr p 0] [(p, .cells (rdC b 0 zeroSq))] [] (.tup []) [(p, .cells (rdC b (readW b).2 (readW b).1))] [] := by
  refine FS.of hm hst is_wirereaderread (by simp) fun γ hγ hfr => ?_
  have w2 : IntKind.i64.wrap 2 = 2 := by decide
  (generalize hQ : (fun (ex : Ex) (_ _ : Nat) (s : St) => _) = Q; unfold ir_wirereaderread)
  simp +contextual (maxSteps := 1000000) only [go_sem, reduceCtorEq, ↓reduceIte, Nat.reduceAdd, Nat.reduceEqDiff, Nat.reduceLeDiff, Nat.reduceMul, Nat.reduceBEq, Int.reduceBEq, Int.reduceBNe, Int.reduceLT, Int.reduceLE, Int.reduceGT, Int.reduceGE, Int.reduceToNat]
  refine CallP.rdX (Ha := []) (fs_next (b := b) (n := 0) (s := zeroSq) hst hp (by omega)) hp rfl (by simp) (by simp) ?_
  have hpk : peekW b 0 = b.headD 0 := by unfold peekW; rw [List.drop_zero]
  rw [hpk]
  have n1 : (((b.headD 0).toNat : Int) != 27) = !decide (b.headD 0 = 27) := u8_ne (k := 27) (by omega)
  by_cases h27 : b.headD 0 = 27
  · have n1 : (((b.headD 0).toNat : Int) != 27) = false := by rw [n1, decide_eq_true h27]; rfl
    have hl1 : 1 ≤ b.length := by
      cases b with
      | nil => simp at h27
      | cons c l => simp
    simp +contextual (maxSteps := 1000000) only [n1, go_sem, reduceCtorEq, ↓reduceIte, Nat.reduceAdd, Nat.reduceEqDiff, Nat.reduceLeDiff, Nat.reduceMul, Nat.reduceBEq, Int.reduceBEq, Int.reduceBNe, Int.reduceLT, Int.reduceLE, Int.reduceGT, Int.reduceGE, Int.reduceToNat]
    refine CallP.rdX (Ha := []) (fs_peek (b := b) (n := 1) (s := zeroSq) hst hp) hp rfl (by simp) (by simp) ?_
    have hpk1 : peekW b 1 = (b.drop 1).headD 0 := rfl
    rw [hpk1]
    generalize hc : (b.drop 1).headD 0 = c
    have k2 : c ≠ 0 → 2 ≤ b.length := fun h => by
      rcases Nat.lt_or_ge 1 b.length with h' | h'
      · omega
      · rw [List.drop_eq_nil_of_le (by omega)] at hc
        exact absurd hc.symm h
    have g1 : ((c.toNat : Int) == 91) = decide (c = 91) := u8_eq (k := 91) (by omega)
    have g2 : ((c.toNat : Int) == 79) = decide (c = 79) := u8_eq (k := 79) (by omega)
    have g3 : ((c.toNat : Int) == 80) = decide (c = 80) := u8_eq (k := 80) (by omega)
    have g4 : ((c.toNat : Int) == 93) = decide (c = 93) := u8_eq (k := 93) (by omega)
    have hz : zeroSq = ⟨0, 0, [], [], 0, []⟩ := rfl
    have hl2 := headW_le (b.drop 2)
    rw [List.length_drop] at hl2
    have hrd : readW b = (if c = 91 then
        (⟨1, (headW (b.drop 2)).1, (headW (b.drop 2)).2.1, (restW (b.drop (2 + (headW (b.drop 2)).2.2))).1, (restW (b.drop (2 + (headW (b.drop 2)).2.2))).2.1, []⟩, 2 + (headW (b.drop 2)).2.2 + (restW (b.drop (2 + (headW (b.drop 2)).2.2))).2.2)
      else if c = 79 then (⟨2, 0, [], [], ((b.drop 2).headD 0).toNat, []⟩, 3)
      else if c = 80 then
        (⟨3, (headW (b.drop 2)).1, (headW (b.drop 2)).2.1, (restW (b.drop (2 + (headW (b.drop 2)).2.2))).1, (restW (b.drop (2 + (headW (b.drop 2)).2.2))).2.1, runL 32 126 (b.drop (2 + (headW (b.drop 2)).2.2 + (restW (b.drop (2 + (headW (b.drop 2)).2.2))).2.2))⟩, 2 + (headW (b.drop 2)).2.2 + (restW (b.drop (2 + (headW (b.drop 2)).2.2))).2.2 + (runL 32 126 (b.drop (2 + (headW (b.drop 2)).2.2 + (restW (b.drop (2 + (headW (b.drop 2)).2.2))).2.2))).length + 2)
      else if c = 93 then (⟨4, 0, [], [], 0, runL 32 126 (b.drop 2)⟩, 2 + (runL 32 126 (b.drop 2)).length + 2)
      else (⟨5, 0, [], (restW (b.drop 1)).1, (restW (b.drop 1)).2.1, []⟩, 1 + (restW (b.drop 1)).2.2)) := by
      unfold readW
      rw [if_neg (not_not_intro h27)]
      simp only [hc]
    have cp : ∀ k, 2 ≤ b.length → FS Tryz.prog Gl 52 [.ptr p 0] [(p, .cells (rdC b 2 ⟨k, 0, [], [], 0, []⟩))] [] (.tup []) [(p, .cells (rdC b (2 + (headW (b.drop 2)).2.2) ⟨k, (headW (b.drop 2)).1, (headW (b.drop 2)).2.1, [], 0, []⟩))] [] := fun k h => fs_wParams hst hp (s := ⟨k, 0, [], [], 0, []⟩) h hb rfl rfl
    have cq : ∀ k, 2 ≤ b.length → FS Tryz.prog Gl 53 [.ptr p 0] [(p, .cells (rdC b (2 + (headW (b.drop 2)).2.2) ⟨k, (headW (b.drop 2)).1, (headW (b.drop 2)).2.1, [], 0, []⟩))] [] (.tup []) [(p, .cells (rdC b (2 + (headW (b.drop 2)).2.2 + (restW (b.drop (2 + (headW (b.drop 2)).2.2))).2.2) ⟨k, (headW (b.drop 2)).1, (headW (b.drop 2)).2.1, (restW (b.drop (2 + (headW (b.drop 2)).2.2))).1, (restW (b.drop (2 + (headW (b.drop 2)).2.2))).2.1, []⟩))] [] := fun k h => fs_wRest hst hp (s := ⟨k, (headW (b.drop 2)).1, (headW (b.drop 2)).2.1, [], 0, []⟩) (by omega) hb
    simp only [rdC, hz]
    by_cases e1 : c = 91
    · have g1 : ((c.toNat : Int) == 91) = true := by rw [g1]; exact decide_eq_true e1
      rw [if_pos e1] at hrd
      have h2 := k2 (by rw [e1]; decide)
      simp +contextual (maxSteps := 1000000) only [g1, w2, go_sem, reduceCtorEq, ↓reduceIte, Nat.reduceAdd, Nat.reduceEqDiff, Nat.reduceLeDiff, Nat.reduceMul, Nat.reduceBEq, Int.reduceBEq, Int.reduceBNe, Int.reduceLT, Int.reduceLE, Int.reduceGT, Int.reduceGE, Int.reduceToNat]
      refine CallP.rdX (Ha := []) (cp 1 h2) hp rfl (by simp) (by simp [rdC, pw, w2]) ?_
      simp +contextual (maxSteps := 1000000) only [go_sem, reduceCtorEq, ↓reduceIte, Nat.reduceAdd, Nat.reduceEqDiff, Nat.reduceLeDiff, Nat.reduceMul, Nat.reduceBEq, Int.reduceBEq, Int.reduceBNe, Int.reduceLT, Int.reduceLE, Int.reduceGT, Int.reduceGE, Int.reduceToNat]
      refine CallP.rdX (Ha := []) (cq 1 h2) hp rfl (by simp) (by simp) ?_
      simp +contextual (maxSteps := 1000000) only [go_sem, reduceCtorEq, ↓reduceIte, Nat.reduceAdd, Nat.reduceEqDiff, Nat.reduceLeDiff, Nat.reduceMul, Nat.reduceBEq, Int.reduceBEq, Int.reduceBNe, Int.reduceLT, Int.reduceLE, Int.reduceGT, Int.reduceGE, Int.reduceToNat]
      rw [← hQ, hrd]
      exact ⟨trivial, Ret.rd rfl rfl hp (by simp)⟩
    · have g1 : ((c.toNat : Int) == 91) = false := by rw [g1]; exact decide_eq_false e1
      rw [if_neg e1] at hrd
      by_cases e2 : c = 79
      · have g2 : ((c.toNat : Int) == 79) = true := by rw [g2]; exact decide_eq_true e2
        rw [if_pos e2] at hrd
        simp +contextual (maxSteps := 1000000) only [g1, g2, w2, go_sem, reduceCtorEq, ↓reduceIte, Nat.reduceAdd, Nat.reduceEqDiff, Nat.reduceLeDiff, Nat.reduceMul, Nat.reduceBEq, Int.reduceBEq, Int.reduceBNe, Int.reduceLT, Int.reduceLE, Int.reduceGT, Int.reduceGE, Int.reduceToNat]
        refine CallP.rdX (Ha := []) (fs_next hst hp (b := b) (n := 2) (s := ⟨2, 0, [], [], 0, []⟩) (by omega)) hp rfl (by simp) (by simp [rdC, pw, w2]) ?_
        simp only [rdC]
        simp +contextual (maxSteps := 1000000) only [go_sem, reduceCtorEq, ↓reduceIte, Nat.reduceAdd, Nat.reduceEqDiff, Nat.reduceLeDiff, Nat.reduceMul, Nat.reduceBEq, Int.reduceBEq, Int.reduceBNe, Int.reduceLT, Int.reduceLE, Int.reduceGT, Int.reduceGE, Int.reduceToNat]
        rw [← hQ, hrd]
        exact ⟨trivial, Ret.rd rfl rfl hp (by simp [rdC, peekW])⟩
      · have g2 : ((c.toNat : Int) == 79) = false := by rw [g2]; exact decide_eq_false e2
        rw [if_neg e2] at hrd
        by_cases e3 : c = 80
        · have g3 : ((c.toNat : Int) == 80) = true := by rw [g3]; exact decide_eq_true e3
          rw [if_pos e3] at hrd
          have h2 := k2 (by rw [e3]; decide)
          have hdd := hd h27 (by rw [hc]; exact e3)
          simp +contextual (maxSteps := 1000000) only [g1, g2, g3, w2, go_sem, reduceCtorEq, ↓reduceIte, Nat.reduceAdd, Nat.reduceEqDiff, Nat.reduceLeDiff, Nat.reduceMul, Nat.reduceBEq, Int.reduceBEq, Int.reduceBNe, Int.reduceLT, Int.reduceLE, Int.reduceGT, Int.reduceGE, Int.reduceToNat]
          refine CallP.rdX (Ha := []) (cp 3 h2) hp rfl (by simp) (by simp [rdC, pw, w2]) ?_
          simp +contextual (maxSteps := 1000000) only [go_sem, reduceCtorEq, ↓reduceIte, Nat.reduceAdd, Nat.reduceEqDiff, Nat.reduceLeDiff, Nat.reduceMul, Nat.reduceBEq, Int.reduceBEq, Int.reduceBNe, Int.reduceLT, Int.reduceLE, Int.reduceGT, Int.reduceGE, Int.reduceToNat]
          refine CallP.rdX (Ha := []) (cq 3 h2) hp rfl (by simp) (by simp) ?_
          generalize 2 + (headW (b.drop 2)).2.2 + (restW (b.drop (2 + (headW (b.drop 2)).2.2))).2.2 = n at hdd hrd ⊢
          have cr : ∀ s, FS Tryz.prog Gl 54 [.ptr p 0, .int .u8 32, .int .u8 126] [(p, .cells (rdC b n s))] [] (.str (runL 32 126 (b.drop n))) [(p, .cells (rdC b (n + (runL 32 126 (b.drop n)).length) s))] [] := fun s => fs_run hst hp (x := 32) (y := 126) hdd (by omega)
          have hrl := runL_le 32 126 (b.drop n)
          rw [List.length_drop] at hrl
          have hw : IntKind.i64.wrap (((n + (runL 32 126 (b.drop n)).length : Nat) : Int) + 2) = ((n + (runL 32 126 (b.drop n)).length + 2 : Nat) : Int) := by rw [IntKind.wrap_i64]; omega
          generalize runL 32 126 (b.drop n) = dt at cr hrl hw hrd
          simp +contextual (maxSteps := 1000000) only [go_sem, reduceCtorEq, ↓reduceIte, Nat.reduceAdd, Nat.reduceEqDiff, Nat.reduceLeDiff, Nat.reduceMul, Nat.reduceBEq, Int.reduceBEq, Int.reduceBNe, Int.reduceLT, Int.reduceLE, Int.reduceGT, Int.reduceGE, Int.reduceToNat]
          refine CallP.rdX (Ha := []) (cr ⟨3, (headW (b.drop 2)).1, (headW (b.drop 2)).2.1, (restW (b.drop (2 + (headW (b.drop 2)).2.2))).1, (restW (b.drop (2 + (headW (b.drop 2)).2.2))).2.1, []⟩) hp rfl (by simp) (by simp) ?_
          simp only [rdC]
          simp +contextual (maxSteps := 1000000) only [hw, go_sem, reduceCtorEq, ↓reduceIte, Nat.reduceAdd, Nat.reduceEqDiff, Nat.reduceLeDiff, Nat.reduceMul, Nat.reduceBEq, Int.reduceBEq, Int.reduceBNe, Int.reduceLT, Int.reduceLE, Int.reduceGT, Int.reduceGE, Int.reduceToNat]
          rw [← hQ, hrd]
          exact ⟨trivial, Ret.rd rfl rfl hp (by simp [rdC])⟩
        · have g3 : ((c.toNat : Int) == 80) = false := by rw [g3]; exact decide_eq_false e3
          rw [if_neg e3] at hrd
          by_cases e4 : c = 93
          · have g4 : ((c.toNat : Int) == 93) = true := by rw [g4]; exact decide_eq_true e4
            rw [if_pos e4] at hrd
            have h2 := k2 (by rw [e4]; decide)
            have cr : ∀ s, FS Tryz.prog Gl 54 [.ptr p 0, .int .u8 32, .int .u8 126] [(p, .cells (rdC b 2 s))] [] (.str (runL 32 126 (b.drop 2))) [(p, .cells (rdC b (2 + (runL 32 126 (b.drop 2)).length) s))] [] := fun s => fs_run hst hp (x := 32) (y := 126) h2 (by omega)
            have hrl := runL_le 32 126 (b.drop 2)
            rw [List.length_drop] at hrl
            have hw : IntKind.i64.wrap (((2 + (runL 32 126 (b.drop 2)).length : Nat) : Int) + 2) = ((2 + (runL 32 126 (b.drop 2)).length + 2 : Nat) : Int) := by rw [IntKind.wrap_i64]; omega
            generalize runL 32 126 (b.drop 2) = dt at cr hrl hw hrd
            simp +contextual (maxSteps := 1000000) only [g1, g2, g3, g4, w2, go_sem, reduceCtorEq, ↓reduceIte, Nat.reduceAdd, Nat.reduceEqDiff, Nat.reduceLeDiff, Nat.reduceMul, Nat.reduceBEq, Int.reduceBEq, Int.reduceBNe, Int.reduceLT, Int.reduceLE, Int.reduceGT, Int.reduceGE, Int.reduceToNat]
            refine CallP.rdX (Ha := []) (cr ⟨4, 0, [], [], 0, []⟩) hp rfl (by simp) (by simp [rdC, pw, w2]) ?_
            simp only [rdC]
            simp +contextual (maxSteps := 1000000) only [hw, go_sem, reduceCtorEq, ↓reduceIte, Nat.reduceAdd, Nat.reduceEqDiff, Nat.reduceLeDiff, Nat.reduceMul, Nat.reduceBEq, Int.reduceBEq, Int.reduceBNe, Int.reduceLT, Int.reduceLE, Int.reduceGT, Int.reduceGE, Int.reduceToNat]
            rw [← hQ, hrd]
            exact ⟨trivial, Ret.rd rfl rfl hp (by simp [rdC])⟩
          · have g4 : ((c.toNat : Int) == 93) = false := by rw [g4]; exact decide_eq_false e4
            rw [if_neg e4] at hrd
            simp +contextual (maxSteps := 1000000) only [g1, g2, g3, g4, go_sem, reduceCtorEq, ↓reduceIte, Nat.reduceAdd, Nat.reduceEqDiff, Nat.reduceLeDiff, Nat.reduceMul, Nat.reduceBEq, Int.reduceBEq, Int.reduceBNe, Int.reduceLT, Int.reduceLE, Int.reduceGT, Int.reduceGE, Int.reduceToNat]
            refine CallP.rdX (Ha := []) (fs_wRest hst hp (b := b) (n := 1) (s := ⟨5, 0, [], [], 0, []⟩) hl1 hb) hp rfl (by simp) (by simp [rdC, pw, w2]) ?_
            simp +contextual (maxSteps := 1000000) only [go_sem, reduceCtorEq, ↓reduceIte, Nat.reduceAdd, Nat.reduceEqDiff, Nat.reduceLeDiff, Nat.reduceMul, Nat.reduceBEq, Int.reduceBEq, Int.reduceBNe, Int.reduceLT, Int.reduceLE, Int.reduceGT, Int.reduceGE, Int.reduceToNat]
            rw [← hQ, hrd]
            exact ⟨trivial, Ret.rd rfl rfl hp (by simp)⟩
  · have n1 : (((b.headD 0).toNat : Int) != 27) = true := by rw [n1, decide_eq_false h27]; rfl
    simp +contextual (maxSteps := 1000000) only [n1, go_sem, reduceCtorEq, ↓reduceIte, Nat.reduceAdd, Nat.reduceEqDiff, Nat.reduceLeDiff, Nat.reduceMul, Nat.reduceBEq, Int.reduceBEq, Int.reduceBNe, Int.reduceLT, Int.reduceLE, Int.reduceGT, Int.reduceGE, Int.reduceToNat]
    rw [← hQ]
    refine ⟨trivial, Ret.rd rfl rfl hp ?_⟩
    unfold readW
    rw [if_pos h27]
    exact List.mem_singleton.2 rfl
end Go.Proofs.YtfnngjnfajnpaaaGreatDoor

namespace Go.Proofs.YtfnngjnfajnpaaaGreatDoor
open Go Go.Ab
def ir_bytesEqual : ICode :=
 (.seq
 (.reg [⟨some 4, none, .mov (.c (.bool false))⟩] (some [0, 1]))
 (.seq
 (.reg [⟨some 5, none, .mov (.t 0)⟩,
 ⟨some 6, none, .b2s (.t 5)⟩,
 ⟨some 7, none, .mov (.t 1)⟩,
 ⟨some 8, none, .b2s (.t 7)⟩,
 ⟨some 9, none, .bin .eql .none (.t 6) (.t 8)⟩,
 ⟨some 4, none, .mov (.t 9)⟩] (some [4]))
 .ret))
theorem is_bytesEqual : IrOf Tryz.prog 30 10 ir_bytesEqual [.t 4] := ⟨_, Tryz.func30, rfl, by kernel_rfl, by kernel_rfl, by kernel_rfl⟩

def ir_bytesHasPrefix : ICode :=
 (.seq
 (.reg [⟨some 4, none, .mov (.c (.bool false))⟩] (some [0, 1]))
 (.seq
 (.reg [⟨some 5, none, .mov (.t 0)⟩,
 ⟨some 6, none, .len (.t 5)⟩,
 ⟨some 7, none, .mov (.t 1)⟩,
 ⟨some 8, none, .len (.t 7)⟩,
 ⟨some 9, none, .bin .geq .none (.t 6) (.t 8)⟩,
 ⟨some 10, none, .mov (.t 9)⟩,
 ⟨some 11, some (10, true), .mov (.t 0)⟩,
 ⟨some 12, some (10, true), .mov (.t 1)⟩,
 ⟨some 13, some (10, true), .len (.t 12)⟩,
 ⟨some 14, some (10, true), .sll 1 (.t 11) none (some (.t 13)) none⟩,
 ⟨some 15, some (10, true), .mov (.t 1)⟩,
 ⟨some 16, some (10, true), .call (.c (.fn (.func 30) [] [])) [(.t 14), (.t 15)]⟩,
 ⟨some 17, none, .pick (.t 10) (.t 16) (.c (.bool false))⟩,
 ⟨some 4, none, .mov (.t 17)⟩] (some [4]))
 .ret))
theorem is_bytesHasPrefix : IrOf Tryz.prog 42 18 ir_bytesHasPrefix [.t 4] := ⟨_, Tryz.func42, rfl, by kernel_rfl, by kernel_rfl, by kernel_rfl⟩

def ir_wireTake : ICode :=
 (.seq
 (.reg [⟨some 2, none, .box 37 (.c (.agg [(.int .i64 0), (.int .u8 0), .nils, (.str []), (.int .u8 0), (.str [])]))⟩,
 ⟨some 3, none, .mov (.c (.int .i64 0))⟩,
 ⟨some 4, none, .mov (.c (.int .i64 0))⟩] (some [0, 2]))
 (.seq
 (.reg [⟨some 8, none, .mov (.t 0)⟩,
 ⟨some 9, none, .bld [.nils, (.int .i64 0)] [(0, 1, (.t 8))]⟩,
 ⟨some 10, none, .bld [.nils, (.int .i64 0), (.int .i64 0), (.int .u8 0), .nils, (.str []), (.int .u8 0), (.str [])] [(0, 2, (.t 9))]⟩,
 ⟨some 5, none, .box 69 (.c (.agg [.nils, (.int .i64 0), (.int .i64 0), (.int .u8 0), .nils, (.str []), (.int .u8 0), (.str [])]))⟩,
 ⟨none, none, .st 8 (.t 5) (.t 10)⟩] (some [0, 2, 5]))
 (.seq
 (.reg [⟨some 11, none, .call (.c (.fn (.func 41) [] [])) [(.t 5)]⟩] (some [0, 2, 5]))
 (.seq
 (.reg [⟨some 13, none, .fa 2 (.t 5)⟩,
 ⟨some 14, none, .ld (some 6) (.t 13)⟩,
 ⟨some 15, none, .call (.c (.fn (.func 13) [] [])) [(.t 14)]⟩,
 ⟨some 12, none, .mov (.t 15)⟩,
 ⟨some 16, none, .ext (.t 12) 0⟩,
 ⟨some 17, none, .ext (.t 12) 1⟩,
 ⟨some 6, none, .mov (.t 16)⟩,
 ⟨some 7, none, .mov (.t 17)⟩] (some [0, 2, 5, 6, 7]))
 (.seq
 (.seq
 (.reg [⟨some 18, none, .mov (.t 7)⟩,
 ⟨some 19, none, .bin .neq .none (.t 18) (.c (.int .i64 0))⟩,
 ⟨some 20, none, .mov (.t 19)⟩,
 ⟨some 21, some (20, false), .mov (.t 0)⟩,
 ⟨some 22, some (20, false), .mov (.t 6)⟩,
 ⟨some 23, some (20, false), .call (.c (.fn (.func 42) [] [])) [(.t 21), (.t 22)]⟩,
 ⟨some 24, some (20, false), .un .not (.t 23)⟩,
 ⟨some 25, none, .pick (.t 20) (.c (.bool true)) (.t 24)⟩,
 ⟨some 26, none, .mov (.t 25)⟩,
 ⟨some 27, some (26, false), .mov (.t 6)⟩,
 ⟨some 28, some (26, false), .len (.t 27)⟩,
 ⟨some 29, some (26, false), .fa 0 (.t 5)⟩,
 ⟨some 30, some (26, false), .fa 1 (.t 29)⟩,
 ⟨some 31, some (26, false), .ld none (.t 30)⟩,
 ⟨some 32, some (26, false), .bin .neq .none (.t 28) (.t 31)⟩,
 ⟨some 33, none, .pick (.t 26) (.c (.bool true)) (.t 32)⟩] (some [2, 5, 33]))
 (.cond (.t 33)
 (.seq
 (.reg [⟨some 34, none, .bld [(.int .i64 0), (.int .u8 0), .nils, (.str []), (.int .u8 0), (.str [])] []⟩,
 ⟨none, none, .st 6 (.t 2) (.t 34)⟩,
 ⟨some 3, none, .mov (.c (.int .i64 0))⟩,
 ⟨some 4, none, .mov (.c (.int .i64 2))⟩] (some [2, 3, 4]))
 .ret)
 .skip))
 (.seq
 (.drwm [(), (), (), (), ()] [⟨⟨some 35, none, .fa 2 (.t 5)⟩, []⟩,
 ⟨⟨some 36, none, .ld (some 6) (.t 35)⟩, [0]⟩,
 ⟨⟨some 37, none, .fa 0 (.t 5)⟩, []⟩,
 ⟨⟨some 38, none, .fa 1 (.t 37)⟩, [2]⟩,
 ⟨⟨some 39, none, .ld none (.t 38)⟩, [3]⟩,
 ⟨⟨none, none, .st 6 (.t 2) (.t 36)⟩, [1, 0, 1]⟩]
 [⟨some 3, none, .mov (.t 39)⟩,
 ⟨some 4, none, .mov (.c (.int .i64 0))⟩] (some [2, 3, 4]))
 .ret))))))
theorem is_wireTake : IrOf Tryz.prog 27 40 ir_wireTake [.cell 2 (some 6), .t 3, .t 4] := ⟨_, Tryz.func27, rfl, by kernel_rfl, by kernel_rfl, by kernel_rfl⟩

theorem fs_BEqual {Gl : Gh → Prop} (hst : Stays Gl) {a b : List UInt8} {ta tb : Option Nm} : FS Tryz.prog Gl 30 [.sl ta 1 (bytesAV a), .sl tb 1 (bytesAV b)] [] [] (.bool (decide (a = b))) [] [] := by
  refine FS.of hm hst is_bytesEqual (by simp) fun γ hγ hfr => ?_
  (generalize hQ : (fun (ex : Ex) (_ _ : Nat) (s : St) => _) = Q; unfold ir_bytesEqual)
  simp +contextual (maxSteps := 1000000) only [bb_un, bb_is, implies_true, go_sem, reduceCtorEq, ↓reduceIte, Nat.reduceAdd, Nat.reduceEqDiff]
  rw [← hQ]
  exact ⟨trivial, Ret.flat rfl rfl⟩
theorem fs_BHasPrefix {Gl : Gh → Prop} (hst : Stays Gl) {a b : List UInt8} {ta tb : Option Nm} : FS Tryz.prog Gl 42 [.sl ta 1 (bytesAV a), .sl tb 1 (bytesAV b)] [] [] (.bool (decide (b <+: a))) [] [] := by
  refine FS.of hm hst is_bytesHasPrefix (by simp) fun γ hγ hfr => ?_
  (generalize hQ : (fun (ex : Ex) (_ _ : Nat) (s : St) => _) = Q; unfold ir_bytesHasPrefix)
  by_cases h : b.length ≤ a.length
  · have hd : decide ((a.length : Int) ≥ (b.length : Int)) = true := by simp; omega
    have e : decide (b <+: a) = decide (a.take b.length = b) := by
      rw [decide_eq_decide]
      constructor
      · rintro ⟨r, rfl⟩; simp
      · intro h'; rw [← h']; exact List.take_prefix _ _
    simp +contextual (maxSteps := 1000000) only [hd, bytesAV_length', bytesAV_take, Int.toNat_natCast, Int.toNat_zero, go_sem, reduceCtorEq, ↓reduceIte, Nat.reduceAdd, Nat.reduceEqDiff]
    refine ⟨by omega, ?_⟩
    (refine CallP.pure (fs_BEqual hst) (fun _ => rfl) ?_; simp +contextual (maxSteps := 1000000) only [go_sem, reduceCtorEq, ↓reduceIte, Nat.reduceAdd, Nat.reduceEqDiff])
    rw [← hQ, e]
    exact ⟨trivial, Ret.flat rfl rfl⟩
  · have hd : decide ((a.length : Int) ≥ (b.length : Int)) = false := by simp; omega
    simp +contextual (maxSteps := 1000000) only [hd, bytesAV_length', go_sem, reduceCtorEq, ↓reduceIte, Nat.reduceAdd, Nat.reduceEqDiff]
    rw [← hQ]
    have e : decide (b <+: a) = false := decide_eq_false fun hh => h hh.length_le
    rw [e]
    exact ⟨trivial, Ret.flat rfl rfl⟩
theorem pw_args {k pr fi : Int} {ps : List (List Int)} {it da : List UInt8} : LeL [.agg [.int .i64 k, .int .u8 pr, pw ps, .str it, .int .u8 fi, .str da]] [.agg (Sq.c ⟨k, pr, ps, it, fi, da⟩)] :=
  ⟨RepLe.agg ⟨.refl _, .refl _, pw_le _, .refl _, .refl _, .refl _, trivial⟩, trivial⟩
theorem RepLe.tupL {xs ys : List AV} (h : LeL xs ys) : RepLe (.tup xs) (.tup ys) := fun g v ⟨vs, e, k⟩ => ⟨vs, e, h.rep k⟩
theorem zero_le : RepLe (.tup [.agg [.int .i64 0, .int .u8 0, .nils, .str [], .int .u8 0, .str []], .int .i64 0, .int .i64 2]) (.tup [.agg zeroSq.c, .int .i64 0, .int .i64 2]) :=
  RepLe.tupL ⟨RepLe.agg ⟨.refl _, .refl _, .nils 1, .refl _, .refl _, .refl _, trivial⟩, .refl _, .refl _, trivial⟩
def takeV (b : List UInt8) : AV := match takeW b with
  | some (s, n) => .tup [.agg s.c, .int .i64 (n : Int), .int .i64 0]
  | none => .tup [.agg zeroSq.c, .int .i64 0, .int .i64 2]
theorem headD_range (l : List UInt8) : 0 ≤ ((l.headD 0).toNat : Int) ∧ ((l.headD 0).toNat : Int) < 256 := by
  have := (l.headD 0).toNat_lt; omega
theorem headW_sz (l : List UInt8) : (0 ≤ (headW l).1 ∧ (headW l).1 < 256) ∧ (headW l).2.1.length ≤ l.length + 1 ∧ ∀ p ∈ (headW l).2.1, p.length ≤ l.length + 1 := by
  unfold headW
  simp only
  have hh := headD_range l
  refine ⟨by split <;> omega, ?_⟩
  generalize (if isPr (l.headD 0) = true then 1 else 0) = k
  have h1 := runL_le 48 59 (l.drop k)
  rw [List.length_drop] at h1
  generalize runL 48 59 (l.drop k) = t at h1
  unfold numsW
  split
  · simp
  · have h2 := splitB_len (c := 59) (l := t)
    refine ⟨by simp; omega, fun p hp => ?_⟩
    obtain ⟨q, hq, rfl⟩ := List.mem_map.1 hp
    have h3 := splitB_mem_len hq
    have h4 := splitB_len (c := 58) (l := q)
    simp [subsW]; omega
theorem restW_sz (l : List UInt8) : (restW l).1.length ≤ l.length ∧ 0 ≤ (restW l).2.1 ∧ (restW l).2.1 < 256 := by
  unfold restW
  exact ⟨runL_le _ _ _, headD_range _⟩
theorem readW_sz {b : List UInt8} (hb : b.length ≤ 4000000000) : (0 ≤ (readW b).1.pr ∧ (readW b).1.pr < 256) ∧ 0 ≤ (readW b).1.fi ∧ (readW b).1.fi < 256 ∧ (readW b).1.sm := by
  have a1 := headW_sz (b.drop 2)
  have a2 := fun n => restW_sz (b.drop n)
  have a3 := fun n => runL_le 32 126 (b.drop n)
  simp only [List.length_drop] at a1 a2 a3
  unfold readW
  split
  · exact ⟨by simp [zeroSq], by simp [zeroSq], by simp [zeroSq], ⟨by simp [zeroSq], by simp [zeroSq], by simp [zeroSq], by simp [zeroSq]⟩⟩
  · simp only
    split
    · have := a2 (2 + (headW (b.drop 2)).2.2)
      exact ⟨a1.1, this.2.1, this.2.2, ⟨by have := a1.2.1; simp only; omega, fun p hp => by have := a1.2.2 p hp; omega, by have := this.1; simp only; omega, by simp⟩⟩
    · split
      · have := headD_range (b.drop 2)
        exact ⟨by simp, this.1, this.2, ⟨by simp, by simp, by simp, by simp⟩⟩
      · split
        · have := a2 (2 + (headW (b.drop 2)).2.2)
          exact ⟨a1.1, this.2.1, this.2.2, ⟨by have := a1.2.1; simp only; omega, fun p hp => by have := a1.2.2 p hp; omega, by have := this.1; simp only; omega, Nat.lt_of_le_of_lt (a3 _) (by omega)⟩⟩
        · split
          · exact ⟨by simp, by simp, by simp, ⟨by simp, by simp, by simp, Nat.lt_of_le_of_lt (a3 _) (by omega)⟩⟩
          · have := a2 1
            exact ⟨by simp, this.2.1, this.2.2, ⟨by simp, by simp, by have := this.1; simp only; omega, by simp⟩⟩
set_option maxHeartbeats 4000000 in
theorem fs_wTakeA {Gl : Gh → Prop} (hst : Stays Gl) {b : List UInt8} {tb : Option Nm} (hb : b.length ≤ 4000000000) (hd : dcsOk b) :
    FS Tryz.prog Gl 27 [.sl tb 1 (bytesAV b)] [] [] (takeV b) [] [] := by
  refine FS.args (args' := [.sl none 1 (bytesAV b)]) ?_ ⟨RepLe.anon _ _ _, trivial⟩
  have hfl : (takeV b).flatT = true := by
    unfold takeV; split <;> rfl
  obtain ⟨⟨p0, p1⟩, f0, hf, hsm⟩ := readW_sz hb
  have c2 : FS Tryz.prog Gl 13 [.agg [.int .i64 (readW b).1.k, .int .u8 (readW b).1.pr, pw (readW b).1.ps, .str (readW b).1.it, .int .u8 (readW b).1.fi, .str (readW b).1.da]] [] [] (.tup [putV (readW b).1, .int .i64 (mayP (readW b).1)]) [] [] := FS.args (fs_wPut hst p0 p1 f0 hf hsm) pw_args
  refine FS.ofW hm hst is_wireTake hfl (by simp) fun γ hγ hfr => ?_
  (generalize hQ : (fun (ex : Ex) (_ _ : Nat) (s : St) => _) = Q; unfold ir_wireTake)
  simp +contextual (maxSteps := 1000000) only [go_sem, reduceCtorEq, ↓reduceIte, Nat.reduceAdd, Nat.reduceEqDiff, Nat.reduceLeDiff, Nat.reduceMul, Nat.reduceBEq, Int.reduceBEq, Int.reduceBNe, Int.reduceLT, Int.reduceLE, Int.reduceGT, Int.reduceGE, Int.reduceToNat]
  refine CallP.rdX (Ha := [((γ, 0, 0), .cells [.int .i64 0, .int .u8 0, .nils, .str [], .int .u8 0, .str []])]) (fs_wRead (p := (γ, 6, 0)) hst hγ hb hd) hγ rfl (by simp) (by simp [rdC, pw, zeroSq]) ?_
  have htk : takeW b = if mayP (readW b).1 = 0 ∧ putB (readW b).1 <+: b ∧ (putB (readW b).1).length = (readW b).2 then some (readW b) else none := rfl
  have htv : takeV b = match takeW b with | some (s, n) => .tup [.agg s.c, .int .i64 (n : Int), .int .i64 0] | none => .tup [.agg zeroSq.c, .int .i64 0, .int .i64 2] := rfl
  generalize readW b = r at *
  obtain ⟨⟨k, pr, ps, it, fi, da⟩, n⟩ := r
  simp only at *
  have hpv : putV ⟨k, pr, ps, it, fi, da⟩ = if (mayP ⟨k, pr, ps, it, fi, da⟩ != 0) = true then .nils else .sl none 1 (bytesAV (putB ⟨k, pr, ps, it, fi, da⟩)) := rfl
  simp only [rdC]
  by_cases hmy : mayP ⟨k, pr, ps, it, fi, da⟩ = 0
  · rw [hmy] at hpv c2
    rw [show ((0 : Int) != 0) = false from rfl, if_neg (by simp)] at hpv
    rw [hpv] at c2
    rw [hmy] at htk
    simp +contextual (maxSteps := 1000000) only [go_sem, reduceCtorEq, ↓reduceIte, Nat.reduceAdd, Nat.reduceEqDiff, Nat.reduceLeDiff, Nat.reduceMul, Nat.reduceBEq, Int.reduceBEq, Int.reduceBNe, Int.reduceLT, Int.reduceLE, Int.reduceGT, Int.reduceGE, Int.reduceToNat]
    (refine CallP.pure (c2) (fun _ => rfl) ?_; simp +contextual (maxSteps := 1000000) only [go_sem, reduceCtorEq, ↓reduceIte, Nat.reduceAdd, Nat.reduceEqDiff, Nat.reduceLeDiff, Nat.reduceMul, Nat.reduceBEq, Int.reduceBEq, Int.reduceBNe, Int.reduceLT, Int.reduceLE, Int.reduceGT, Int.reduceGE, Int.reduceToNat])
    cases hpx : decide (putB ⟨k, pr, ps, it, fi, da⟩ <+: b) with
    | false =>
      have c3 := fs_BHasPrefix (Gl := Gl) hst (a := b) (b := putB ⟨k, pr, ps, it, fi, da⟩) (ta := none) (tb := none)
      rw [hpx] at c3
      (refine CallP.pure (c3) (fun _ => rfl) ?_; simp +contextual (maxSteps := 1000000) only [go_sem, reduceCtorEq, ↓reduceIte, Nat.reduceAdd, Nat.reduceEqDiff, Nat.reduceLeDiff, Nat.reduceMul, Nat.reduceBEq, Int.reduceBEq, Int.reduceBNe, Int.reduceLT, Int.reduceLE, Int.reduceGT, Int.reduceGE, Int.reduceToNat])
      have hn0 : takeW b = none := by rw [htk, if_neg (fun h => of_decide_eq_false hpx h.2.1)]
      rw [← hQ, htv, hn0]
      refine ⟨trivial, .inl ⟨.tup [.agg [.int .i64 0, .int .u8 0, .nils, .str [], .int .u8 0, .str []], .int .i64 0, .int .i64 2], ?_, zero_le⟩⟩
      simp [resOf, getAll, IRes.get, lf, getH]
    | true =>
      have c3 := fs_BHasPrefix (Gl := Gl) hst (a := b) (b := putB ⟨k, pr, ps, it, fi, da⟩) (ta := none) (tb := none)
      rw [hpx] at c3
      by_cases hln : (putB ⟨k, pr, ps, it, fi, da⟩).length = n
      · have hq : (((putB ⟨k, pr, ps, it, fi, da⟩).length : Int) != (n : Int)) = false := by rw [bne_eq_false_iff_eq]; omega
        (refine CallP.pure (c3) (fun _ => rfl) ?_; simp +contextual (maxSteps := 1000000) only [bytesAV_length', hq, go_sem, reduceCtorEq, ↓reduceIte, Nat.reduceAdd, Nat.reduceEqDiff, Nat.reduceLeDiff, Nat.reduceMul, Nat.reduceBEq, Int.reduceBEq, Int.reduceBNe, Int.reduceLT, Int.reduceLE, Int.reduceGT, Int.reduceGE, Int.reduceToNat])
        refine kDrwM_of [((γ, 6, 0), .cells [.sl none 1 (bytesAV b), .int .i64 n, .int .i64 k, .int .u8 pr, pw ps, .str it, .int .u8 fi, .str da])] [((γ, 0, 0), .cells [.int .i64 0, .int .u8 0, .nils, .str [], .int .u8 0, .str []])] (by simp) (by simp) ?_
        simp +contextual (maxSteps := 1000000) only [pw_cells, pw_one, go_sem, reduceCtorEq, ↓reduceIte, Nat.reduceAdd, Nat.reduceEqDiff, Nat.reduceLeDiff, Nat.reduceMul, Nat.reduceBEq, Int.reduceBEq, Int.reduceBNe, Int.reduceLT, Int.reduceLE, Int.reduceGT, Int.reduceGE, Int.reduceToNat]
        refine ⟨by simp, ?_⟩
        have hs0 : takeW b = some (⟨k, pr, ps, it, fi, da⟩, n) := by rw [htk, if_pos ⟨rfl, of_decide_eq_true hpx, hln⟩]
        rw [← hQ, htv, hs0]
        refine ⟨trivial, .inl ⟨.tup [.agg [.int .i64 k, .int .u8 pr, pw ps, .str it, .int .u8 fi, .str da], .int .i64 n, .int .i64 0], ?_, RepLe.tupL ⟨RepLe.agg ⟨.refl _, .refl _, pw_le _, .refl _, .refl _, .refl _, trivial⟩, .refl _, .refl _, trivial⟩⟩⟩
        simp [resOf, getAll, IRes.get, lf, getH]
      · have hq : (((putB ⟨k, pr, ps, it, fi, da⟩).length : Int) != (n : Int)) = true := by rw [bne_iff_ne]; omega
        have hn0 : takeW b = none := by rw [htk, if_neg (fun h => hln h.2.2)]
        (refine CallP.pure (c3) (fun _ => rfl) ?_; simp +contextual (maxSteps := 1000000) only [bytesAV_length', hq, go_sem, reduceCtorEq, ↓reduceIte, Nat.reduceAdd, Nat.reduceEqDiff, Nat.reduceLeDiff, Nat.reduceMul, Nat.reduceBEq, Int.reduceBEq, Int.reduceBNe, Int.reduceLT, Int.reduceLE, Int.reduceGT, Int.reduceGE, Int.reduceToNat])
        rw [← hQ, htv, hn0]
        refine ⟨trivial, .inl ⟨.tup [.agg [.int .i64 0, .int .u8 0, .nils, .str [], .int .u8 0, .str []], .int .i64 0, .int .i64 2], ?_, zero_le⟩⟩
        simp [resOf, getAll, IRes.get, lf, getH]
  · have hmb : (mayP ⟨k, pr, ps, it, fi, da⟩ != 0) = true := by rw [bne_iff_ne]; exact hmy
    rw [hmb, if_pos rfl] at hpv
    rw [hpv] at c2
    have hn0 : takeW b = none := by rw [htk, if_neg (fun h => hmy h.1)]
    simp +contextual (maxSteps := 1000000) only [go_sem, reduceCtorEq, ↓reduceIte, Nat.reduceAdd, Nat.reduceEqDiff, Nat.reduceLeDiff, Nat.reduceMul, Nat.reduceBEq, Int.reduceBEq, Int.reduceBNe, Int.reduceLT, Int.reduceLE, Int.reduceGT, Int.reduceGE, Int.reduceToNat]
    (refine CallP.pure (c2) (fun _ => rfl) ?_; simp +contextual (maxSteps := 1000000) only [hmb, go_sem, reduceCtorEq, ↓reduceIte, Nat.reduceAdd, Nat.reduceEqDiff, Nat.reduceLeDiff, Nat.reduceMul, Nat.reduceBEq, Int.reduceBEq, Int.reduceBNe, Int.reduceLT, Int.reduceLE, Int.reduceGT, Int.reduceGE, Int.reduceToNat])
    rw [← hQ, htv, hn0]
    refine ⟨trivial, .inl ⟨.tup [.agg [.int .i64 0, .int .u8 0, .nils, .str [], .int .u8 0, .str []], .int .i64 0, .int .i64 2], ?_, zero_le⟩⟩
    simp [resOf, getAll, IRes.get, lf, getH]
theorem fs_wTake {Gl : Gh → Prop} (hst : Stays Gl) {b : List UInt8} {tb : Option Nm} (hb : b.length ≤ 4000000000) (hd : dcsOk b) (hf : (readW b).1.fi < 128) :
    FS Tryz.prog Gl 27 [.sl tb 1 (bytesAV b)] [] [] (takeV b) [] [] := fs_wTakeA hst hb hd
end Go.Proofs.YtfnngjnfajnpaaaGreatDoor

namespace Go.Proofs.YtfnngjnfajnpaaaGreatDoor
open Go Go.Ab
def ir_wireArg : ICode :=
 (.seq
 (.reg [⟨some 3, none, .box 37 (.t 0)⟩,
 ⟨some 6, none, .mov (.c (.int .i64 0))⟩] (some [1, 2, 3]))
 (.seq
 (.seq
 (.reg [⟨some 7, none, .mov (.t 1)⟩,
 ⟨some 8, none, .bin .lss .none (.t 7) (.c (.int .i64 0))⟩,
 ⟨some 9, none, .mov (.t 8)⟩,
 ⟨some 10, some (9, false), .mov (.t 1)⟩,
 ⟨some 11, some (9, false), .fa 2 (.t 3)⟩,
 ⟨some 12, some (9, false), .ld none (.t 11)⟩,
 ⟨some 13, some (9, false), .len (.t 12)⟩,
 ⟨some 14, some (9, false), .bin .geq .none (.t 10) (.t 13)⟩,
 ⟨some 15, none, .pick (.t 9) (.c (.bool true)) (.t 14)⟩,
 ⟨some 16, none, .mov (.t 15)⟩,
 ⟨some 17, some (16, false), .fa 2 (.t 3)⟩,
 ⟨some 18, some (16, false), .ld none (.t 17)⟩,
 ⟨some 19, some (16, false), .mov (.t 1)⟩,
 ⟨some 20, some (16, false), .ia 1 (.t 18) (.t 19)⟩,
 ⟨some 21, some (16, false), .ld none (.t 20)⟩,
 ⟨some 22, some (16, false), .len (.t 21)⟩,
 ⟨some 23, some (16, false), .bin .eql .none (.t 22) (.c (.int .i64 0))⟩,
 ⟨some 24, none, .pick (.t 16) (.c (.bool true)) (.t 23)⟩,
 ⟨some 25, none, .mov (.t 24)⟩,
 ⟨some 26, some (25, false), .fa 2 (.t 3)⟩,
 ⟨some 27, some (25, false), .ld none (.t 26)⟩,
 ⟨some 28, some (25, false), .mov (.t 1)⟩,
 ⟨some 29, some (25, false), .ia 1 (.t 27) (.t 28)⟩,
 ⟨some 30, some (25, false), .ld none (.t 29)⟩,
 ⟨some 31, some (25, false), .ia 1 (.t 30) (.c (.int .i64 0))⟩,
 ⟨some 32, some (25, false), .ld none (.t 31)⟩,
 ⟨some 33, some (25, false), .bin .lss .none (.t 32) (.c (.int .i64 0))⟩,
 ⟨some 34, none, .pick (.t 25) (.c (.bool true)) (.t 33)⟩] (some [1, 2, 3, 34]))
 (.cond (.t 34)
 (.seq
 (.reg [⟨some 35, none, .mov (.t 2)⟩,
 ⟨some 6, none, .mov (.t 35)⟩] (some [6]))
 .ret)
 .skip))
 (.seq
 (.reg [⟨some 36, none, .fa 2 (.t 3)⟩,
 ⟨some 37, none, .ld none (.t 36)⟩,
 ⟨some 38, none, .mov (.t 1)⟩,
 ⟨some 39, none, .ia 1 (.t 37) (.t 38)⟩,
 ⟨some 40, none, .ld none (.t 39)⟩,
 ⟨some 41, none, .ia 1 (.t 40) (.c (.int .i64 0))⟩,
 ⟨some 42, none, .ld none (.t 41)⟩,
 ⟨some 6, none, .mov (.t 42)⟩] (some [6]))
 .ret)))
theorem is_wireArg : IrOf Tryz.prog 28 43 ir_wireArg [.t 6] := ⟨_, Tryz.func28, rfl, by kernel_rfl, by kernel_rfl, by kernel_rfl⟩

theorem dcs_of_len {b : List UInt8} (h : (readW b).2 ≤ b.length) : dcsOk b := by
  intro h1 h2
  unfold readW at h
  rw [if_neg (not_not_intro h1)] at h
  simp only at h
  rw [h2] at h
  rw [if_neg (by decide), if_neg (by decide), if_pos rfl] at h
  simp only at h
  omega
theorem fi_may {s : Sq} (h : mayP s = 0) : s.fi < 128 := by
  have h1 := (mayF h).sh
  unfold shapedP at h1
  repeat' split at h1
  all_goals simp only [Bool.and_eq_true, decide_eq_true_eq, beq_iff_eq, Bool.false_eq_true] at h1
  all_goals omega
theorem take_may {s : Sq} (h : mayP s = 0) (more : List UInt8) : dcsOk (putB s ++ more) ∧ (readW (putB s ++ more)).1.fi < 128 ∧ takeV (putB s ++ more) = .tup [.agg s.c, .int .i64 (putB s).length, .int .i64 0] := by
  have h1 := readW_put h more
  refine ⟨dcs_of_len (by rw [h1]; simp), by rw [h1]; exact fi_may h, ?_⟩
  unfold takeV
  rw [takeW_put h]
def argW (ps : List (List Int)) (i : Nat) (o : Int) : Int := match ps[i]? with
  | some (x :: _) => if x < 0 then o else x
  | _ => o
theorem fs_wArg {Gl : Gh → Prop} (hst : Stays Gl) {k pr fi o : Int} {ps : List (List Int)} {it da : List UInt8} {i : Nat} : FS Tryz.prog Gl 28 [.agg [.int .i64 k, .int .u8 pr, .sl none 1 (parsAV ps), .str it, .int .u8 fi, .str da], .int .i64 (i : Int), .int .i64 o] [] [] (.int .i64 (argW ps i o)) [] [] := by
  refine FS.of hm hst is_wireArg (by simp) fun γ hγ hfr => ?_
  (generalize hQ : (fun (ex : Ex) (_ _ : Nat) (s : St) => _) = Q; unfold ir_wireArg)
  have h0 : decide ((i : Int) < 0) = false := by simp
  by_cases hlt : i < ps.length
  · have h1 : decide ((i : Int) ≥ (ps.length : Int)) = false := by simp; omega
    have hg : (parsAV ps).getD i [] = [intsV ps[i]] := by
      rw [List.getD_eq_getElem?_getD]; simp [parsAV, hlt]
    have hi : intsV ps[i] = .sl none 1 (intsAV ps[i]) := rfl
    cases hp : ps[i] with
    | nil =>
      rw [hi, hp] at hg
      have ha : argW ps i o = o := by unfold argW; rw [List.getElem?_eq_getElem hlt, hp]
      have hl : (((intsAV ([] : List Int)).length : Int) == 0) = true := rfl
      simp +contextual (maxSteps := 1000000) only [h0, h1, hg, hl, parsAV_length, Int.toNat_natCast, go_sem, reduceCtorEq, ↓reduceIte, Nat.reduceAdd, Nat.reduceEqDiff, Nat.reduceLeDiff, Nat.reduceMul, Nat.reduceBEq, Int.reduceBEq, Int.reduceBNe, Int.reduceLT, Int.reduceLE, Int.reduceGT, Int.reduceGE, Int.reduceToNat]
      refine ⟨by omega, ?_⟩
      rw [← hQ, ha]
      exact ⟨trivial, Ret.flat rfl rfl⟩
    | cons x l =>
      rw [hi, hp] at hg
      have hg0 : (intsAV (x :: l)).getD 0 [] = [.int .i64 x] := rfl
      have hl : (((intsAV (x :: l)).length : Int) == 0) = false := by simp [intsAV]; omega
      have hl0 : (0 : Int) < ((intsAV (x :: l)).length : Int) := by rw [intsAV_length, List.length_cons]; omega
      by_cases hx : x < 0
      · have hd : decide (x < 0) = true := decide_eq_true hx
        have ha : argW ps i o = o := by unfold argW; rw [List.getElem?_eq_getElem hlt, hp]; exact if_pos hx
        simp +contextual (maxSteps := 1000000) only [h0, h1, hg, hg0, hl, hd, parsAV_length, Int.toNat_natCast, Int.toNat_zero, go_sem, reduceCtorEq, ↓reduceIte, Nat.reduceAdd, Nat.reduceEqDiff, Nat.reduceLeDiff, Nat.reduceMul, Nat.reduceBEq, Int.reduceBEq, Int.reduceBNe, Int.reduceLT, Int.reduceLE, Int.reduceGT, Int.reduceGE, Int.reduceToNat]
        refine ⟨⟨by omega, by omega⟩, ⟨by omega, by omega⟩, hl0, ?_⟩
        rw [← hQ, ha]
        exact ⟨trivial, Ret.flat rfl rfl⟩
      · have hd : decide (x < 0) = false := decide_eq_false hx
        have ha : argW ps i o = x := by unfold argW; rw [List.getElem?_eq_getElem hlt, hp]; exact if_neg hx
        simp +contextual (maxSteps := 1000000) only [h0, h1, hg, hg0, hl, hd, parsAV_length, Int.toNat_natCast, Int.toNat_zero, go_sem, reduceCtorEq, ↓reduceIte, Nat.reduceAdd, Nat.reduceEqDiff, Nat.reduceLeDiff, Nat.reduceMul, Nat.reduceBEq, Int.reduceBEq, Int.reduceBNe, Int.reduceLT, Int.reduceLE, Int.reduceGT, Int.reduceGE, Int.reduceToNat]
        refine ⟨⟨by omega, by omega⟩, ⟨by omega, by omega⟩, hl0, ⟨by omega, by omega⟩, hl0, ?_⟩
        rw [← hQ, ha]
        exact ⟨trivial, Ret.flat rfl rfl⟩
  · have h1 : decide ((i : Int) ≥ (ps.length : Int)) = true := by simp; omega
    have ha : argW ps i o = o := by unfold argW; rw [List.getElem?_eq_none (by omega)]
    simp +contextual (maxSteps := 1000000) only [h0, h1, parsAV_length, go_sem, reduceCtorEq, ↓reduceIte, Nat.reduceAdd, Nat.reduceEqDiff, Nat.reduceLeDiff, Nat.reduceMul, Nat.reduceBEq, Int.reduceBEq, Int.reduceBNe, Int.reduceLT, Int.reduceLE, Int.reduceGT, Int.reduceGE, Int.reduceToNat]
    rw [← hQ, ha]
    exact ⟨trivial, Ret.flat rfl rfl⟩
end Go.Proofs.YtfnngjnfajnpaaaGreatDoor

namespace Go.Proofs.YtfnngjnfajnpaaaGreatDoor
open Go Go.Ab

theorem bits_and64 (a b : Int) : bits .and .i64 a b = IntKind.i64.wrap (((BitVec.ofInt 64 a &&& BitVec.ofInt 64 b).toNat : Nat) : Int) := rfl
theorem bits_or8 (a b : Int) : bits .or .u8 a b = IntKind.u8.wrap (((BitVec.ofInt 8 a ||| BitVec.ofInt 8 b).toNat : Nat) : Int) := rfl
theorem and_i64 {a b : Nat} (ha : a < 9223372036854775808) (hb : b < 9223372036854775808) : bits .and .i64 (a : Int) (b : Int) = ((a &&& b : Nat) : Int) := by
  have h : a &&& b ≤ a := Nat.and_le_left
  rw [bits_and64, BitVec.ofInt_natCast, BitVec.ofInt_natCast, BitVec.toNat_and, BitVec.toNat_ofNat, BitVec.toNat_ofNat, Nat.mod_eq_of_lt (by omega), Nat.mod_eq_of_lt (by omega), IntKind.wrap_i64]
  omega
theorem or_u8 {a b : Nat} (ha : a < 256) (hb : b < 256) : bits .or .u8 (a : Int) (b : Int) = ((a ||| b : Nat) : Int) := by
  have h : a ||| b < 2 ^ 8 := Nat.or_lt_two_pow (by omega) (by omega)
  rw [bits_or8, BitVec.ofInt_natCast, BitVec.ofInt_natCast, BitVec.toNat_or, BitVec.toNat_ofNat, BitVec.toNat_ofNat, Nat.mod_eq_of_lt (by omega), Nat.mod_eq_of_lt (by omega), IntKind.wrap_u8]
  omega
theorem and63 {a : Nat} (ha : a < 9223372036854775808) : bits .and .i64 (a : Int) 63 = ((a % 64 : Nat) : Int) := by
  rw [show (63 : Int) = ((63 : Nat) : Int) from rfl, and_i64 ha (by omega), show (63 : Nat) = 2 ^ 6 - 1 from rfl, Nat.and_two_pow_sub_one_eq_mod]
theorem or_put {a b k : Nat} (hb : b < 2 ^ k) (h : 2 ^ k * a + b < 256) : bits .or .u8 ((2 ^ k * a : Nat) : Int) (b : Int) = ((2 ^ k * a + b : Nat) : Int) := by
  rw [or_u8 (by omega) (by omega), Nat.two_pow_add_eq_or_of_lt hb]
theorem or_tail {b : Nat} (hb : b < 64) : bits .or .u8 128 (b : Int) = ((128 + b : Nat) : Int) := by
  have := or_put (a := 2) (b := b) (k := 6) (by omega) (by omega)
  simpa using this
/-! ### Code points -/
def isCP (r : Int) : Bool := decide (0 ≤ r) && decide (r ≤ 1114111) && (decide (r < 55296) || decide (57343 < r))
def putN (r : Nat) : List Nat :=
  if r < 128 then [r]
  else if r < 2048 then [192 + r / 64, 128 + r % 64]
  else if r < 65536 then [224 + r / 4096, 128 + r / 64 % 64, 128 + r % 64]
  else [240 + r / 262144, 128 + r / 4096 % 64, 128 + r / 64 % 64, 128 + r % 64]
def putU (r : Int) : List UInt8 := if isCP r = true then (putN r.toNat).map UInt8.ofNat else []
theorem putN_len (r : Nat) : 1 ≤ (putN r).length ∧ (putN r).length ≤ 4 := by
  unfold putN
  split
  · simp
  · split
    · simp
    · split <;> simp
theorem putU_len (r : Int) : (putU r).length ≤ 4 := by
  unfold putU
  split
  · simpa using (putN_len r.toNat).2
  · simp
theorem isCP_spec {r : Int} (h : isCP r = true) : ∃ n : Nat, r = n ∧ n ≤ 1114111 ∧ (n < 55296 ∨ 57343 < n) := by
  simp only [isCP, Bool.and_eq_true, Bool.or_eq_true, decide_eq_true_eq] at h
  exact ⟨r.toNat, by omega, by omega, by omega⟩
theorem putN_lt {n : Nat} (h : n ≤ 1114111) : ∀ x ∈ putN n, x < 256 := by
  unfold putN
  split
  · simp; omega
  · split
    · simp; omega
    · split <;> (simp; omega)
end Go.Proofs.YtfnngjnfajnpaaaGreatDoor

namespace Go.Proofs.YtfnngjnfajnpaaaGreatDoor
open Go Go.Ab

structure Ent where
  kind : Int
  final : UInt8
  num : Int
  char : Int
  keys : Bool
  deriving DecidableEq, Inhabited
structure RowK where
  lo : Nat
  many : Nat
  kind : Nat
  finals : List UInt8
  nums : List Nat
  chars : List UInt8
def RowK.ent (r : RowK) (i : Nat) : Ent :=
  ⟨r.kind, r.finals.getD i 0, ((r.nums.getD i 0 : Nat) : Int), ((r.chars.getD i 0).toNat : Int), decide (57399 ≤ r.lo) && (decide (r.kind ≠ 6) && decide (r.kind ≠ 7))⟩
def RowK.all (r : RowK) : List (Nat × Ent) := (List.range r.many).map fun i => (r.lo + i, r.ent i)
structure Ky where
  code : Int
  mods : Int
  type : Int
  shifted : Int
  base : Int
  text : List UInt8
end Go.Proofs.YtfnngjnfajnpaaaGreatDoor

namespace Go.Proofs.YtfnngjnfajnpaaaGreatDoor
open Go Go.Ab
def ir_utfis : ICode :=
 (.seq
 (.reg [⟨some 2, none, .mov (.c (.bool false))⟩] (some [0]))
 (.seq
 (.reg [⟨some 3, none, .mov (.t 0)⟩,
 ⟨some 4, none, .bin .geq .none (.t 3) (.c (.int .i64 0))⟩,
 ⟨some 5, none, .mov (.t 4)⟩,
 ⟨some 6, some (5, true), .mov (.t 0)⟩,
 ⟨some 7, some (5, true), .bin .leq .none (.t 6) (.c (.int .i64 1114111))⟩,
 ⟨some 8, none, .pick (.t 5) (.t 7) (.c (.bool false))⟩,
 ⟨some 9, none, .mov (.t 8)⟩,
 ⟨some 10, some (9, true), .mov (.t 0)⟩,
 ⟨some 11, some (9, true), .bin .lss .none (.t 10) (.c (.int .i64 55296))⟩,
 ⟨some 12, some (9, true), .mov (.t 11)⟩,
 ⟨some 13, some (12, false), .mov (.t 0)⟩,
 ⟨some 14, some (12, false), .bin .gtr .none (.t 13) (.c (.int .i64 57343))⟩,
 ⟨some 15, some (9, true), .pick (.t 12) (.c (.bool true)) (.t 14)⟩,
 ⟨some 16, none, .pick (.t 9) (.t 15) (.c (.bool false))⟩,
 ⟨some 2, none, .mov (.t 16)⟩] (some [2]))
 .ret))
theorem is_utfis : IrOf Tryz.prog 36 17 ir_utfis [.t 2] := ⟨_, Tryz.func36, rfl, by kernel_rfl, by kernel_rfl, by kernel_rfl⟩

def ir_clavierref02Is : ICode :=
 (.seq
 (.reg [⟨some 2, none, .mov (.c (.bool false))⟩] (some [0]))
 (.seq
 (.reg [⟨some 3, none, .mov (.t 0)⟩,
 ⟨some 4, none, .bin .geq .none (.t 3) (.c (.int .i64 0))⟩,
 ⟨some 5, none, .mov (.t 4)⟩,
 ⟨some 6, some (5, true), .mov (.t 0)⟩,
 ⟨some 7, some (5, true), .bin .leq .none (.t 6) (.c (.int .i64 1114111))⟩,
 ⟨some 8, none, .pick (.t 5) (.t 7) (.c (.bool false))⟩,
 ⟨some 9, none, .mov (.t 8)⟩,
 ⟨some 10, some (9, true), .mov (.t 0)⟩,
 ⟨some 11, some (9, true), .bin .lss .none (.t 10) (.c (.int .i64 55296))⟩,
 ⟨some 12, some (9, true), .mov (.t 11)⟩,
 ⟨some 13, some (12, false), .mov (.t 0)⟩,
 ⟨some 14, some (12, false), .bin .gtr .none (.t 13) (.c (.int .i64 57343))⟩,
 ⟨some 15, some (9, true), .pick (.t 12) (.c (.bool true)) (.t 14)⟩,
 ⟨some 16, none, .pick (.t 9) (.t 15) (.c (.bool false))⟩,
 ⟨some 2, none, .mov (.t 16)⟩] (some [2]))
 .ret))
theorem is_clavierref02Is : IrOf Tryz.prog 40 17 ir_clavierref02Is [.t 2] := ⟨_, Tryz.func40, rfl, by kernel_rfl, by kernel_rfl, by kernel_rfl⟩

def ir_utfsizes : ICode :=
 (.seq
 (.reg [⟨some 0, none, .box 61 (.c (.agg [(.int .i64 0), (.int .i64 0), (.int .u8 0), (.int .u8 0), (.int .i64 0), (.int .i64 0), (.int .u8 0), (.int .u8 0), (.int .i64 0), (.int .i64 0), (.int .u8 0), (.int .u8 0), (.int .i64 0), (.int .i64 0), (.int .u8 0), (.int .u8 0)]))⟩] (some [0]))
 (.seq
 (.reg [⟨some 1, none, .bld [(.int .i64 0), (.int .i64 0), (.int .u8 0), (.int .u8 0)] [(0, 1, (.c (.int .i64 1))), (1, 1, (.c (.int .i64 127))), (2, 1, (.c (.int .u8 0))), (3, 1, (.c (.int .u8 127)))]⟩,
 ⟨some 2, none, .bld [(.int .i64 0), (.int .i64 0), (.int .u8 0), (.int .u8 0)] [(0, 1, (.c (.int .i64 2))), (1, 1, (.c (.int .i64 2047))), (2, 1, (.c (.int .u8 192))), (3, 1, (.c (.int .u8 31)))]⟩,
 ⟨some 3, none, .bld [(.int .i64 0), (.int .i64 0), (.int .u8 0), (.int .u8 0)] [(0, 1, (.c (.int .i64 3))), (1, 1, (.c (.int .i64 65535))), (2, 1, (.c (.int .u8 224))), (3, 1, (.c (.int .u8 15)))]⟩,
 ⟨some 4, none, .bld [(.int .i64 0), (.int .i64 0), (.int .u8 0), (.int .u8 0)] [(0, 1, (.c (.int .i64 4))), (1, 1, (.c (.int .i64 1114111))), (2, 1, (.c (.int .u8 240))), (3, 1, (.c (.int .u8 7)))]⟩,
 ⟨some 5, none, .bld [(.int .i64 0), (.int .i64 0), (.int .u8 0), (.int .u8 0), (.int .i64 0), (.int .i64 0), (.int .u8 0), (.int .u8 0), (.int .i64 0), (.int .i64 0), (.int .u8 0), (.int .u8 0), (.int .i64 0), (.int .i64 0), (.int .u8 0), (.int .u8 0)] [(0, 4, (.t 1)), (4, 4, (.t 2)), (8, 4, (.t 3)), (12, 4, (.t 4))]⟩,
 ⟨none, none, .st 16 (.t 0) (.t 5)⟩] (some [0]))
 .ret))
theorem is_utfsizes : IrOf Tryz.prog 37 6 ir_utfsizes [.cell 0 (some 16)] := ⟨_, Tryz.func37, rfl, by kernel_rfl, by kernel_rfl, by kernel_rfl⟩

/- clavier/utf.Put -/
def ir_utfPut_l0 : ICode :=
 (.seq
 (.seq
 (.reg [⟨some 24, none, .mov (.t 6)⟩,
 ⟨some 25, none, .bin .gtr .none (.t 24) (.c (.int .i64 0))⟩] (some [0, 4, 5, 6, 25]))
 (.cond (.t 25)
 .skip
 (.exit 2)))
 (.seq
 (.blk 3
 (.seq
 (.reg [⟨some 28, none, .mov (.t 5)⟩,
 ⟨some 29, none, .mov (.t 6)⟩,
 ⟨some 30, none, .mov (.t 0)⟩,
 ⟨some 31, none, .bin .and .none (.t 30) (.c (.int .i64 63))⟩,
 ⟨some 32, none, .cvi .u8 (.t 31)⟩,
 ⟨some 33, none, .bin .or .none (.c (.int .u8 128)) (.t 32)⟩,
 ⟨some 34, none, .ia 1 (.t 28) (.t 29)⟩,
 ⟨none, none, .st 1 (.t 34) (.t 33)⟩] (some [0, 4, 5, 6]))
 (.reg [⟨some 35, none, .mov (.t 0)⟩,
 ⟨some 36, none, .bin .shr .none (.t 35) (.c (.int .u64 6))⟩,
 ⟨some 0, none, .mov (.t 36)⟩] (some [0, 4, 5, 6]))))
 (.reg [⟨some 26, none, .mov (.t 6)⟩,
 ⟨some 27, none, .bin .sub .none (.t 26) (.c (.int .i64 1))⟩,
 ⟨some 6, none, .mov (.t 27)⟩] (some [0, 4, 5, 6]))))
def ir_utfPut_l1 : ICode :=
 (.seq
 (.reg [⟨some 12, none, .bin .lss .none (.t 11) (.c (.int .i64 4))⟩] (some [0, 10, 11, 12]))
 (.seq
 (.cond (.t 12)
 .skip
 (.exit 0))
 (.seq
 (.blk 1
 (.seq
 (.reg [⟨some 13, none, .ixa 4 4 (some 4) (.t 10) (.t 11)⟩,
 ⟨some 4, none, .box 60 (.c (.agg [(.int .i64 0), (.int .i64 0), (.int .u8 0), (.int .u8 0)]))⟩,
 ⟨none, none, .st 4 (.t 4) (.t 13)⟩] (some [0, 4, 10, 11]))
 (.seq
 (.seq
 (.reg [⟨some 14, none, .mov (.t 0)⟩,
 ⟨some 15, none, .fa 1 (.t 4)⟩,
 ⟨some 16, none, .ld none (.t 15)⟩,
 ⟨some 17, none, .bin .gtr .none (.t 14) (.t 16)⟩] (some [0, 4, 10, 11, 17]))
 (.cond (.t 17)
 (.exit 1)
 .skip))
 (.seq
 (.reg [⟨some 18, none, .fa 0 (.t 4)⟩,
 ⟨some 19, none, .ld none (.t 18)⟩,
 ⟨some 20, none, .mks 5 1 (.agg [(.int .u8 0)]) (.t 19)⟩,
 ⟨some 5, none, .mov (.t 20)⟩] (some [0, 4, 5]))
 (.seq
 (.seq
 (.reg [⟨some 21, none, .fa 0 (.t 4)⟩,
 ⟨some 22, none, .ld none (.t 21)⟩,
 ⟨some 23, none, .bin .sub .none (.t 22) (.c (.int .i64 1))⟩,
 ⟨some 6, none, .mov (.t 23)⟩] (some [0, 4, 5, 6]))
 (.blk 2
 (.loop
 ir_utfPut_l0)))
 (.seq
 (.reg [⟨some 37, none, .mov (.t 5)⟩,
 ⟨some 38, none, .fa 2 (.t 4)⟩,
 ⟨some 39, none, .ld none (.t 38)⟩,
 ⟨some 40, none, .mov (.t 0)⟩,
 ⟨some 41, none, .cvi .u8 (.t 40)⟩,
 ⟨some 42, none, .bin .or .none (.t 39) (.t 41)⟩,
 ⟨some 43, none, .ia 1 (.t 37) (.c (.int .i64 0))⟩,
 ⟨none, none, .st 1 (.t 43) (.t 42)⟩] (some [5]))
 (.seq
 (.reg [⟨some 44, none, .mov (.t 5)⟩,
 ⟨some 2, none, .mov (.t 44)⟩] (some [2]))
 .ret)))))))
 (.reg [⟨some 45, none, .bin .add .none (.t 11) (.c (.int .i64 1))⟩,
 ⟨some 11, none, .mov (.t 45)⟩] (some [0, 10, 11])))))
def ir_utfPut : ICode :=
 (.seq
 (.reg [⟨some 2, none, .mov (.c .nils)⟩] (some [0]))
 (.seq
 (.seq
 (.reg [⟨some 7, none, .mov (.t 0)⟩,
 ⟨some 8, none, .call (.c (.fn (.func 36) [] [])) [(.t 7)]⟩,
 ⟨some 9, none, .un .not (.t 8)⟩] (some [0, 9]))
 (.cond (.t 9)
 (.seq
 (.reg [⟨some 2, none, .mov (.c .nils)⟩] (some [2]))
 .ret)
 .skip))
 (.seq
 (.seq
 (.reg [⟨some 10, none, .call (.c (.fn (.func 37) [] [])) []⟩,
 ⟨some 11, none, .mov (.c (.int .i64 0))⟩] (some [0, 10, 11]))
 (.blk 0
 (.loop
 ir_utfPut_l1)))
 (.seq
 (.reg [⟨some 2, none, .mov (.c .nils)⟩] (some [2]))
 .ret))))
theorem is_utfPut : IrOf Tryz.prog 18 46 ir_utfPut [.t 2] := ⟨_, Tryz.func18, rfl, by kernel_rfl, by kernel_rfl, by kernel_rfl⟩

def ir_clavierref02Put : ICode :=
 (.seq
 (.reg [⟨some 2, none, .mov (.c .nils)⟩] (some [0]))
 (.seq
 (.seq
 (.reg [⟨some 3, none, .mov (.t 0)⟩,
 ⟨some 4, none, .call (.c (.fn (.func 40) [] [])) [(.t 3)]⟩,
 ⟨some 5, none, .un .not (.t 4)⟩] (some [0, 5]))
 (.cond (.t 5)
 (.seq
 (.reg [⟨some 2, none, .mov (.c .nils)⟩] (some [2]))
 .ret)
 .skip))
 (.seq
 (.seq
 (.reg [⟨some 6, none, .mov (.t 0)⟩,
 ⟨some 7, none, .bin .lss .none (.t 6) (.c (.int .i64 128))⟩] (some [0, 7]))
 (.cond (.t 7)
 (.seq
 (.reg [⟨some 8, none, .mov (.t 0)⟩,
 ⟨some 9, none, .cvi .u8 (.t 8)⟩,
 ⟨some 10, none, .row 5 1 [(.t 9)]⟩,
 ⟨some 2, none, .mov (.t 10)⟩] (some [2]))
 .ret)
 .skip))
 (.seq
 (.seq
 (.reg [⟨some 11, none, .mov (.t 0)⟩,
 ⟨some 12, none, .bin .lss .none (.t 11) (.c (.int .i64 2048))⟩] (some [0, 12]))
 (.cond (.t 12)
 (.seq
 (.reg [⟨some 13, none, .mov (.t 0)⟩,
 ⟨some 14, none, .bin .quo .none (.t 13) (.c (.int .i64 64))⟩,
 ⟨some 15, none, .bin .add .none (.c (.int .i64 192)) (.t 14)⟩,
 ⟨some 16, none, .cvi .u8 (.t 15)⟩,
 ⟨some 17, none, .mov (.t 0)⟩,
 ⟨some 18, none, .bin .rem .none (.t 17) (.c (.int .i64 64))⟩,
 ⟨some 19, none, .bin .add .none (.c (.int .i64 128)) (.t 18)⟩,
 ⟨some 20, none, .cvi .u8 (.t 19)⟩,
 ⟨some 21, none, .row 5 1 [(.t 16), (.t 20)]⟩,
 ⟨some 2, none, .mov (.t 21)⟩] (some [2]))
 .ret)
 .skip))
 (.seq
 (.seq
 (.reg [⟨some 22, none, .mov (.t 0)⟩,
 ⟨some 23, none, .bin .lss .none (.t 22) (.c (.int .i64 65536))⟩] (some [0, 23]))
 (.cond (.t 23)
 (.seq
 (.reg [⟨some 24, none, .mov (.t 0)⟩,
 ⟨some 25, none, .bin .quo .none (.t 24) (.c (.int .i64 4096))⟩,
 ⟨some 26, none, .bin .add .none (.c (.int .i64 224)) (.t 25)⟩,
 ⟨some 27, none, .cvi .u8 (.t 26)⟩,
 ⟨some 28, none, .mov (.t 0)⟩,
 ⟨some 29, none, .bin .quo .none (.t 28) (.c (.int .i64 64))⟩,
 ⟨some 30, none, .bin .rem .none (.t 29) (.c (.int .i64 64))⟩,
 ⟨some 31, none, .bin .add .none (.c (.int .i64 128)) (.t 30)⟩,
 ⟨some 32, none, .cvi .u8 (.t 31)⟩,
 ⟨some 33, none, .mov (.t 0)⟩,
 ⟨some 34, none, .bin .rem .none (.t 33) (.c (.int .i64 64))⟩,
 ⟨some 35, none, .bin .add .none (.c (.int .i64 128)) (.t 34)⟩,
 ⟨some 36, none, .cvi .u8 (.t 35)⟩,
 ⟨some 37, none, .row 5 1 [(.t 27), (.t 32), (.t 36)]⟩,
 ⟨some 2, none, .mov (.t 37)⟩] (some [2]))
 .ret)
 .skip))
 (.seq
 (.reg [⟨some 38, none, .mov (.t 0)⟩,
 ⟨some 39, none, .bin .quo .none (.t 38) (.c (.int .i64 262144))⟩,
 ⟨some 40, none, .bin .add .none (.c (.int .i64 240)) (.t 39)⟩,
 ⟨some 41, none, .cvi .u8 (.t 40)⟩,
 ⟨some 42, none, .mov (.t 0)⟩,
 ⟨some 43, none, .bin .quo .none (.t 42) (.c (.int .i64 4096))⟩,
 ⟨some 44, none, .bin .rem .none (.t 43) (.c (.int .i64 64))⟩,
 ⟨some 45, none, .bin .add .none (.c (.int .i64 128)) (.t 44)⟩,
 ⟨some 46, none, .cvi .u8 (.t 45)⟩,
 ⟨some 47, none, .mov (.t 0)⟩,
 ⟨some 48, none, .bin .quo .none (.t 47) (.c (.int .i64 64))⟩,
 ⟨some 49, none, .bin .rem .none (.t 48) (.c (.int .i64 64))⟩,
 ⟨some 50, none, .bin .add .none (.c (.int .i64 128)) (.t 49)⟩,
 ⟨some 51, none, .cvi .u8 (.t 50)⟩,
 ⟨some 52, none, .mov (.t 0)⟩,
 ⟨some 53, none, .bin .rem .none (.t 52) (.c (.int .i64 64))⟩,
 ⟨some 54, none, .bin .add .none (.c (.int .i64 128)) (.t 53)⟩,
 ⟨some 55, none, .cvi .u8 (.t 54)⟩,
 ⟨some 56, none, .row 5 1 [(.t 41), (.t 46), (.t 51), (.t 55)]⟩,
 ⟨some 2, none, .mov (.t 56)⟩] (some [2]))
 .ret))))))
theorem is_clavierref02Put : IrOf Tryz.prog 23 57 ir_clavierref02Put [.t 2] := ⟨_, Tryz.func23, rfl, by kernel_rfl, by kernel_rfl, by kernel_rfl⟩

theorem fs_is {Gl : Gh → Prop} (hst : Stays Gl) {r : Int} : FS Tryz.prog Gl 36 [.int .i64 r] [] [] (.bool (isCP r)) [] [] := by
  refine FS.of hm hst is_utfis (by simp) fun γ hγ hfr => ?_
  (generalize hQ : (fun (ex : Ex) (_ _ : Nat) (s : St) => _) = Q; unfold ir_utfis)
  (simp +contextual (maxSteps := 1000000) only [go_sem, reduceCtorEq, ↓reduceIte, Nat.reduceAdd, Nat.reduceEqDiff]; repeat' first | ((first | refine kCond_split (fun hg => ?_) (fun hg => ?_) | refine kGc_split (fun hg => ?_) (fun hg => ?_) | refine kPreG_split (fun hg => ?_) (fun hg => ?_)) <;> (try rw [hg]) <;> simp +contextual (maxSteps := 1000000) only [go_sem, reduceCtorEq, ↓reduceIte, Nat.reduceAdd, Nat.reduceEqDiff]) | refine And.intro (by omega) ?_)
  all_goals (rw [← hQ]; clear hQ hfr; refine ⟨trivial, Ret.flat ?_ rfl⟩; first | (simp only [resOf, getAll, IRes.get, lf_cons, lf_nil, ↓reduceIte, Bool.false_eq_true, Option.some.injEq, AV.bool.injEq, AV.int.injEq, AV.tup.injEq, List.cons.injEq, true_and, and_true, isCP, *]; done) | (simp [resOf, getAll, IRes.get, lf_cons, lf_nil, ↓reduceIte, Bool.false_eq_true, Option.some.injEq, AV.bool.injEq, AV.int.injEq, AV.tup.injEq, List.cons.injEq, true_and, and_true, isCP, *]; done) | (simp_all [resOf, getAll, IRes.get, lf_cons, lf_nil, ↓reduceIte, Bool.false_eq_true, Option.some.injEq, AV.bool.injEq, AV.int.injEq, AV.tup.injEq, List.cons.injEq, true_and, and_true, isCP]; done) | (simp_all [resOf, getAll, IRes.get, lf_cons, lf_nil, ↓reduceIte, Bool.false_eq_true, Option.some.injEq, AV.bool.injEq, AV.int.injEq, AV.tup.injEq, List.cons.injEq, true_and, and_true, isCP]; omega))
theorem fs_rIs {Gl : Gh → Prop} (hst : Stays Gl) {r : Int} : FS Tryz.prog Gl 40 [.int .i64 r] [] [] (.bool (isCP r)) [] [] := by
  refine FS.of hm hst is_clavierref02Is (by simp) fun γ hγ hfr => ?_
  (generalize hQ : (fun (ex : Ex) (_ _ : Nat) (s : St) => _) = Q; unfold ir_clavierref02Is)
  (simp +contextual (maxSteps := 1000000) only [go_sem, reduceCtorEq, ↓reduceIte, Nat.reduceAdd, Nat.reduceEqDiff, Nat.reduceLeDiff, Nat.reduceMul, Nat.reduceBEq, Int.reduceBEq, Int.reduceBNe, Int.reduceLT, Int.reduceLE, Int.reduceGT, Int.reduceGE, Int.reduceToNat]; repeat' first | ((first | refine kCond_split (fun hg => ?_) (fun hg => ?_) | refine kGc_split (fun hg => ?_) (fun hg => ?_) | refine kPreG_split (fun hg => ?_) (fun hg => ?_)) <;> (try rw [hg]) <;> simp +contextual (maxSteps := 1000000) only [go_sem, reduceCtorEq, ↓reduceIte, Nat.reduceAdd, Nat.reduceEqDiff, Nat.reduceLeDiff, Nat.reduceMul, Nat.reduceBEq, Int.reduceBEq, Int.reduceBNe, Int.reduceLT, Int.reduceLE, Int.reduceGT, Int.reduceGE, Int.reduceToNat]) | refine And.intro (by omega) ?_)
  all_goals (rw [← hQ]; clear hQ hfr; refine ⟨trivial, Ret.flat ?_ rfl⟩; first | (simp only [resOf, getAll, IRes.get, lf_cons, lf_nil, ↓reduceIte, Bool.false_eq_true, Option.some.injEq, AV.bool.injEq, AV.int.injEq, AV.tup.injEq, List.cons.injEq, true_and, and_true, isCP, *]; done) | (simp [resOf, getAll, IRes.get, lf_cons, lf_nil, ↓reduceIte, Bool.false_eq_true, Option.some.injEq, AV.bool.injEq, AV.int.injEq, AV.tup.injEq, List.cons.injEq, true_and, and_true, isCP, *]; done) | (simp_all [resOf, getAll, IRes.get, lf_cons, lf_nil, ↓reduceIte, Bool.false_eq_true, Option.some.injEq, AV.bool.injEq, AV.int.injEq, AV.tup.injEq, List.cons.injEq, true_and, and_true, isCP]; done) | (simp_all [resOf, getAll, IRes.get, lf_cons, lf_nil, ↓reduceIte, Bool.false_eq_true, Option.some.injEq, AV.bool.injEq, AV.int.injEq, AV.tup.injEq, List.cons.injEq, true_and, and_true, isCP]; omega))
def szMost (i : Nat) : Nat := [127, 2047, 65535, 1114111].getD i 0
def szMark (i : Nat) : Nat := [0, 192, 224, 240].getD i 0
def szRest (i : Nat) : Nat := [127, 31, 15, 7].getD i 0
def szAV (i : Nat) : List AV := [.int .i64 ((i + 1 : Nat) : Int), .int .i64 (szMost i : Int), .int .u8 (szMark i : Int), .int .u8 (szRest i : Int)]
def szsAV : List AV := szAV 0 ++ szAV 1 ++ szAV 2 ++ szAV 3
theorem fs_sizes {Gl : Gh → Prop} (hst : Stays Gl) : FS Tryz.prog Gl 37 [] [] [] (.agg szsAV) [] [] := by
  refine FS.of hm hst is_utfsizes (by simp) fun γ hγ hfr => ?_
  (generalize hQ : (fun (ex : Ex) (_ _ : Nat) (s : St) => _) = Q; unfold ir_utfsizes)
  (simp +contextual (maxSteps := 1000000) only [go_sem, reduceCtorEq, ↓reduceIte, Nat.reduceAdd, Nat.reduceEqDiff, Nat.reduceLeDiff, Nat.reduceMul, Nat.reduceBEq, Int.reduceBEq, Int.reduceBNe, Int.reduceLT, Int.reduceLE, Int.reduceGT, Int.reduceGE, Int.reduceToNat]; repeat' first | ((first | refine kCond_split (fun hg => ?_) (fun hg => ?_) | refine kGc_split (fun hg => ?_) (fun hg => ?_) | refine kPreG_split (fun hg => ?_) (fun hg => ?_)) <;> (try rw [hg]) <;> simp +contextual (maxSteps := 1000000) only [go_sem, reduceCtorEq, ↓reduceIte, Nat.reduceAdd, Nat.reduceEqDiff, Nat.reduceLeDiff, Nat.reduceMul, Nat.reduceBEq, Int.reduceBEq, Int.reduceBNe, Int.reduceLT, Int.reduceLE, Int.reduceGT, Int.reduceGE, Int.reduceToNat]) | refine And.intro (by omega) ?_)
  rw [← hQ]
  refine ⟨trivial, Ret.flatT (by simp [resOf, getAll, IRes.get, lf, getH, szsAV, szAV, szMost, szMark, szRest]) rfl⟩
theorem u8v {x : Int} {k : Nat} (h : x = k) (hk : k < 256) : IntKind.u8.wrap x = ((UInt8.ofNat k).toNat : Int) := by
  rw [h, UInt8.toNat_ofNat', Nat.mod_eq_of_lt (by omega), IntKind.wrap_u8]; omega
theorem fs_rPutU {Gl : Gh → Prop} (hst : Stays Gl) {r : Int} : FS Tryz.prog Gl 23 [.int .i64 r] [] [] (.sl none 1 (bytesAV (putU r))) [] [] := by
  refine FS.ofW hm hst is_clavierref02Put rfl (by simp) fun γ hγ hfr => ?_
  (generalize hQ : (fun (ex : Ex) (_ _ : Nat) (s : St) => _) = Q; unfold ir_clavierref02Put)
  ((try simp +contextual (maxSteps := 1000000) only [go_sem, reduceCtorEq, ↓reduceIte, Nat.reduceAdd, Nat.reduceEqDiff, Nat.reduceLeDiff, Nat.reduceMul, Nat.reduceBEq, Int.reduceBEq, Int.reduceBNe, Int.reduceLT, Int.reduceLE, Int.reduceGT, Int.reduceGE, Int.reduceToNat]); repeat' first | ((first | refine kCond_split (fun hg => ?_) (fun hg => ?_) | refine kGc_split (fun hg => ?_) (fun hg => ?_) | refine kPreG_split (fun hg => ?_) (fun hg => ?_)) <;> (try rw [hg]) <;> simp +contextual (maxSteps := 1000000) only [go_sem, reduceCtorEq, ↓reduceIte, Nat.reduceAdd, Nat.reduceEqDiff, Nat.reduceLeDiff, Nat.reduceMul, Nat.reduceBEq, Int.reduceBEq, Int.reduceBNe, Int.reduceLT, Int.reduceLE, Int.reduceGT, Int.reduceGE, Int.reduceToNat]) | ((first | refine CallP.pure (fs_rIs hst) (fun _ => rfl) ?_) <;> simp +contextual (maxSteps := 1000000) only [go_sem, reduceCtorEq, ↓reduceIte, Nat.reduceAdd, Nat.reduceEqDiff, Nat.reduceLeDiff, Nat.reduceMul, Nat.reduceBEq, Int.reduceBEq, Int.reduceBNe, Int.reduceLT, Int.reduceLE, Int.reduceGT, Int.reduceGE, Int.reduceToNat]) | refine And.intro (by omega) ?_)
  · rw [← hQ]
    refine ⟨trivial, .inl ⟨_, rfl, ?_⟩⟩
    have : putU r = [] := by rw [putU, if_neg (by simpa using hg)]
    rw [this]; exact RepLe.nils 1
  all_goals
    rw [← hQ]
    refine ⟨trivial, .inl ⟨_, rfl, RepLe.anon' ?_⟩⟩
    have hcp : isCP r = true := by rcases Bool.eq_false_or_eq_true (isCP r) with h | h; exact h; simp_all
    clear hQ hfr
    obtain ⟨n, rfl, h1, h2⟩ := isCP_spec hcp
    have hq1 : IntKind.i64.wrap ((n : Int).tdiv 64) = ((n / 64 : Nat) : Int) := by rw [Int.tdiv_eq_ediv_of_nonneg (by omega), IntKind.wrap_i64]; omega
    have hq2 : IntKind.i64.wrap ((n : Int).tdiv 4096) = ((n / 4096 : Nat) : Int) := by rw [Int.tdiv_eq_ediv_of_nonneg (by omega), IntKind.wrap_i64]; omega
    have hq3 : IntKind.i64.wrap ((n : Int).tdiv 262144) = ((n / 262144 : Nat) : Int) := by rw [Int.tdiv_eq_ediv_of_nonneg (by omega), IntKind.wrap_i64]; omega
    have hm : ∀ m : Nat, (m : Int).tmod 64 = ((m % 64 : Nat) : Int) := fun m => by rw [Int.tmod_eq_emod_of_nonneg (by omega)]; omega
    simp only [decide_eq_true_eq, decide_eq_false_iff_not] at *
    simp only [hq1, hq2, hq3, hm, putU, hcp, if_true, Int.toNat_natCast, putN]
  · rw [if_pos (by omega)]
    simp only [bytesAV, List.map_cons, List.map_nil, List.cons.injEq, AV.int.injEq, true_and, and_true]
    exact u8v rfl (by omega)
  · rw [if_neg (by omega), if_pos (by omega)]
    simp only [bytesAV, List.map_cons, List.map_nil, List.cons.injEq, AV.int.injEq, true_and, and_true]
    refine ⟨u8v ?_ ?_, u8v ?_ ?_⟩ <;> first | omega | (rw [IntKind.wrap_i64]; omega)
  · rw [if_neg (by omega), if_neg (by omega), if_pos (by omega)]
    simp only [bytesAV, List.map_cons, List.map_nil, List.cons.injEq, AV.int.injEq, true_and, and_true]
    refine ⟨u8v ?_ ?_, u8v ?_ ?_, u8v ?_ ?_⟩ <;> first | omega | (rw [IntKind.wrap_i64]; omega)
  · rw [if_neg (by omega), if_neg (by omega), if_neg (by omega)]
    simp only [bytesAV, List.map_cons, List.map_nil, List.cons.injEq, AV.int.injEq, true_and, and_true]
    refine ⟨u8v ?_ ?_, u8v ?_ ?_, u8v ?_ ?_, u8v ?_ ?_⟩ <;> first | omega | (rw [IntKind.wrap_i64]; omega)

def tailB (n : Nat) : Nat → List Nat
  | 0 => []
  | j + 1 => (128 + n / 64 ^ j % 64) :: tailB n j
def cellsB (l : List Nat) : List AV := l.map fun c : Nat => AV.int .u8 (c : Int)
theorem tailB_len (n : Nat) : ∀ j, (tailB n j).length = j
  | 0 => rfl
  | j + 1 => by simp [tailB, tailB_len n j]
theorem bytes_cells : ∀ {l : List Nat}, (∀ x ∈ l, x < 256) → (bytesAV (l.map UInt8.ofNat)).flatten = cellsB l
  | [], _ => rfl
  | x :: xs, h => by
    have h1 := h x (by simp)
    have h2 := bytes_cells (l := xs) fun y hy => h y (by simp [hy])
    simp only [bytesAV, cellsB, List.map_cons, List.flatten_cons] at h2 ⊢
    rw [h2, UInt8.toNat_ofNat', Nat.mod_eq_of_lt (by omega)]; rfl
theorem cellsB_closed : ∀ l : List Nat, AV.closedL (cellsB l) = true
  | [] => rfl
  | x :: xs => by
    show (true && AV.closedL (cellsB xs)) = true
    rw [cellsB_closed xs]; rfl
theorem cellsB_len (l : List Nat) : (cellsB l).length = l.length := by simp [cellsB]
theorem cells_set {k : Nat} {t : List Nat} {x : Nat} : List.take k (cellsB (List.replicate (k + 1) 0 ++ t)) ++ [AV.int .u8 (x : Int)] ++ List.drop (k + 1) (cellsB (List.replicate (k + 1) 0 ++ t)) = cellsB (List.replicate k 0 ++ x :: t) := by
  have h1 : cellsB (List.replicate (k + 1) 0 ++ t) = List.replicate (k + 1) (AV.int .u8 0) ++ cellsB t := by simp [cellsB]
  have h2 : cellsB (List.replicate k 0 ++ x :: t) = List.replicate k (AV.int .u8 0) ++ AV.int .u8 (x : Int) :: cellsB t := by simp [cellsB]
  rw [h1, h2, List.take_append_of_le_length (by simp), List.drop_append_of_le_length (by simp)]
  simp
theorem pow64_succ (n j : Nat) : n / 64 ^ (j + 1) = n / 64 ^ j / 64 := by rw [Nat.pow_succ, Nat.div_div_eq_div_mul]
theorem sh6 (n j : Nat) : shOp .shr .i64 ((n / 64 ^ j : Nat) : Int) 6 = some (True, .int .i64 ((n / 64 ^ (j + 1) : Nat) : Int)) := by
  rw [pow64_succ]
  show some ((0 : Int) ≤ 6 ∧ (6 : Int) ≤ IntKind.i64.bits, AV.int .i64 (((n / 64 ^ j : Nat) : Int) / 2 ^ (6 : Int).toNat)) = _
  have h1 : ((0 : Int) ≤ 6 ∧ (6 : Int) ≤ IntKind.i64.bits) = True := by simp [IntKind.bits]
  have h2 : ((n / 64 ^ j : Nat) : Int) / 2 ^ (6 : Int).toNat = ((n / 64 ^ j / 64 : Nat) : Int) := rfl
  rw [h1, h2]
theorem putN_eq {n i : Nat} (h1 : n ≤ szMost i) (h2 : i = 0 ∨ i = 1 ∧ 127 < n ∨ i = 2 ∧ 2047 < n ∨ i = 3 ∧ 65535 < n) : putN n = (szMark i + n / 64 ^ i) :: tailB n i := by
  rcases h2 with rfl | ⟨rfl, h⟩ | ⟨rfl, h⟩ | ⟨rfl, h⟩ <;> simp only [szMost, List.getD_cons_zero, List.getD_cons_succ] at h1
  · rw [putN, if_pos (by omega)]; simp [szMark, tailB]
  · rw [putN, if_neg (by omega), if_pos (by omega)]; simp [szMark, tailB]
  · rw [putN, if_neg (by omega), if_neg (by omega), if_pos (by omega)]; simp [szMark, tailB]
  · rw [putN, if_neg (by omega), if_neg (by omega), if_neg (by omega)]; simp [szMark, tailB]
theorem mark_or {n i : Nat} (h1 : n ≤ szMost i) (h2 : i = 0 ∨ i = 1 ∧ 127 < n ∨ i = 2 ∧ 2047 < n ∨ i = 3 ∧ 65535 < n) : IntKind.u8.wrap ((n / 64 ^ i : Nat) : Int) = ((n / 64 ^ i : Nat) : Int) ∧ bits .or .u8 (szMark i : Int) ((n / 64 ^ i : Nat) : Int) = ((szMark i + n / 64 ^ i : Nat) : Int) := by
  rcases h2 with rfl | ⟨rfl, h⟩ | ⟨rfl, h⟩ | ⟨rfl, h⟩ <;> simp only [szMost, List.getD_cons_zero, List.getD_cons_succ] at h1
  · exact ⟨by rw [IntKind.wrap_u8]; omega, or_put (a := 0) (k := 7) (b := n / 64 ^ 0) (by omega) (by omega)⟩
  · exact ⟨by rw [IntKind.wrap_u8]; omega, or_put (a := 6) (k := 5) (b := n / 64 ^ 1) (by omega) (by omega)⟩
  · exact ⟨by rw [IntKind.wrap_u8]; omega, or_put (a := 14) (k := 4) (b := n / 64 ^ 2) (by omega) (by omega)⟩
  · exact ⟨by rw [IntKind.wrap_u8]; omega, or_put (a := 30) (k := 3) (b := n / 64 ^ 3) (by omega) (by omega)⟩
set_option maxHeartbeats 2000000 in
theorem fs_putU {Gl : Gh → Prop} (hst : Stays Gl) {r : Int} : FS Tryz.prog Gl 18 [.int .i64 r] [] [] (.sl none 1 (bytesAV (putU r))) [] [] := by
  refine FS.ofW hm hst is_utfPut rfl (by simp) fun γ hγ hfr => ?_
  (generalize hQ : (fun (ex : Ex) (_ _ : Nat) (s : St) => _) = Q; unfold ir_utfPut)
  simp +contextual (maxSteps := 1000000) only [go_sem, reduceCtorEq, ↓reduceIte, Nat.reduceAdd, Nat.reduceEqDiff, Nat.reduceLeDiff, Nat.reduceMul, Nat.reduceBEq, Int.reduceBEq, Int.reduceBNe, Int.reduceLT, Int.reduceLE, Int.reduceGT, Int.reduceGE, Int.reduceToNat]
  (refine CallP.pure (fs_is hst) (fun _ => rfl) ?_; simp +contextual (maxSteps := 1000000) only [go_sem, reduceCtorEq, ↓reduceIte, Nat.reduceAdd, Nat.reduceEqDiff, Nat.reduceLeDiff, Nat.reduceMul, Nat.reduceBEq, Int.reduceBEq, Int.reduceBNe, Int.reduceLT, Int.reduceLE, Int.reduceGT, Int.reduceGE, Int.reduceToNat])
  refine kCond_split (fun h => ?_) (fun h => ?_)
  · simp +contextual (maxSteps := 1000000) only [go_sem, reduceCtorEq, ↓reduceIte, Nat.reduceAdd, Nat.reduceEqDiff, Nat.reduceLeDiff, Nat.reduceMul, Nat.reduceBEq, Int.reduceBEq, Int.reduceBNe, Int.reduceLT, Int.reduceLE, Int.reduceGT, Int.reduceGE, Int.reduceToNat]
    rw [← hQ]
    refine ⟨trivial, .inl ⟨_, rfl, ?_⟩⟩
    have : putU r = [] := by rw [putU, if_neg (by simpa using h)]
    rw [this]; exact RepLe.nils 1
  have hcp : isCP r = true := by simpa using h
  obtain ⟨n, rfl, h1, h2⟩ := isCP_spec hcp
  simp +contextual (maxSteps := 1000000) only [go_sem, reduceCtorEq, ↓reduceIte, Nat.reduceAdd, Nat.reduceEqDiff, Nat.reduceLeDiff, Nat.reduceMul, Nat.reduceBEq, Int.reduceBEq, Int.reduceBNe, Int.reduceLT, Int.reduceLE, Int.reduceGT, Int.reduceGE, Int.reduceToNat]
  (refine CallP.pure (fs_sizes hst) (fun _ => rfl) ?_; simp +contextual (maxSteps := 1000000) only [go_sem, reduceCtorEq, ↓reduceIte, Nat.reduceAdd, Nat.reduceEqDiff, Nat.reduceLeDiff, Nat.reduceMul, Nat.reduceBEq, Int.reduceBEq, Int.reduceBNe, Int.reduceLT, Int.reduceLE, Int.reduceGT, Int.reduceGE, Int.reduceToNat])
  refine kLoop_ix (fun i : Nat => ⟨lf [(0, .int .i64 (n : Int)), (10, .agg szsAV), (11, .int .i64 (i : Int))], [], fun x => x ∈ []⟩) (fun i => i = 0 ∨ i = 1 ∧ 127 < n ∨ i = 2 ∧ 2047 < n ∨ i = 3 ∧ 65535 < n) (fun i => 4 - i) 0 0 ?_ (.inl rfl) ?_
  · refine Wk.same ?_
    (simp only [lfOK, upd, initF]; repeat' first | exact AVle.refl _ _ | exact trivial | refine And.intro ?_ ?_ | exact AVle.int (by simp only [IntKind.wrap_i64]; omega))
  · rintro γ' i hf hi
    generalize hQ' : kIt _ _ _ _ _ = Q'
    unfold ir_utfPut_l1
    have hd : decide ((i : Int) < 4) = true := by rcases hi with h | h | h | h <;> simp <;> omega
    have hx : List.take 4 (List.drop (i * 4) szsAV) = [.int .i64 ((i + 1 : Nat) : Int), .int .i64 (szMost i : Int), .int .u8 (szMark i : Int), .int .u8 (szRest i : Int)] := by
      rcases hi with rfl | ⟨rfl, _⟩ | ⟨rfl, _⟩ | ⟨rfl, _⟩ <;> rfl
    have hl : 4 ≤ (List.drop (i * 4) szsAV).length := by
      rcases hi with rfl | ⟨rfl, _⟩ | ⟨rfl, _⟩ | ⟨rfl, _⟩ <;> decide
    simp +contextual (maxSteps := 1000000) only [hd, Int.toNat_natCast, hx, hl, go_sem, reduceCtorEq, ↓reduceIte, Nat.reduceAdd, Nat.reduceEqDiff, Nat.reduceLeDiff, Nat.reduceMul, Nat.reduceBEq, Int.reduceBEq, Int.reduceBNe, Int.reduceLT, Int.reduceLE, Int.reduceGT, Int.reduceGE, Int.reduceToNat]
    refine ⟨⟨by omega, by rcases hi with h | h | h | h <;> omega⟩, ?_⟩
    refine kCond_split (fun hg => ?_) (fun hg => ?_)
    · simp +contextual (maxSteps := 1000000) only [go_sem, reduceCtorEq, ↓reduceIte, Nat.reduceAdd, Nat.reduceEqDiff, Nat.reduceLeDiff, Nat.reduceMul, Nat.reduceBEq, Int.reduceBEq, Int.reduceBNe, Int.reduceLT, Int.reduceLE, Int.reduceGT, Int.reduceGE, Int.reduceToNat]
      rw [← hQ']
      simp only [w_kIt_n]
      have hg : szMost i < n := by simpa using hg
      refine ⟨0, i + 1, Wk.perm ?_ (fun p hp => by cases hp), ?_, by rcases hi with h | h | h | h <;> omega⟩
      · repeat' first | exact AVle.refl _ _ | exact trivial | refine And.intro ?_ ?_ | exact AVle.int (by simp only [IntKind.wrap_i64]; omega)
      · rcases hi with rfl | ⟨rfl, h⟩ | ⟨rfl, h⟩ | ⟨rfl, h⟩ <;> simp only [szMost, List.getD_cons_zero, List.getD_cons_succ] at hg <;> omega
    · have hle : n ≤ szMost i := by simpa using hg
      have hi3 : i ≤ 3 := by rcases hi with h | h | h | h <;> omega
      have hz : (List.replicate ((i + 1 : Nat) : Int).toNat [AV.int .u8 0]).flatten = cellsB (List.replicate (i + 1) 0) := by
        rw [Int.toNat_natCast, cellsB, List.map_replicate, List.flatten_replicate_singleton]; rfl
      simp +contextual (maxSteps := 1000000) only [hz, go_sem, reduceCtorEq, ↓reduceIte, Nat.reduceAdd, Nat.reduceEqDiff, Nat.reduceLeDiff, Nat.reduceMul, Nat.reduceBEq, Int.reduceBEq, Int.reduceBNe, Int.reduceLT, Int.reduceLE, Int.reduceGT, Int.reduceGE, Int.reduceToNat]
      refine ⟨⟨by omega, by omega⟩, ?_⟩
      refine kLoop_ix (fun j : Nat => ⟨lf [(0, .int .i64 ((n / 64 ^ j : Nat) : Int)), (4, .ptr (γ', 2, 0) 0), (5, .ms (γ', 10, 0) 1 (i + 1)), (6, .int .i64 ((i : Int) - (j : Int)))], [((γ', 10, 0), .cells (cellsB (List.replicate (i + 1 - j) 0 ++ tailB n j))), ((γ', 2, 0), .cells [.int .i64 ((i + 1 : Nat) : Int), .int .i64 (szMost i : Int), .int .u8 (szMark i : Int), .int .u8 (szRest i : Int)])], fun x => x ∈ []⟩) (fun j => j ≤ i) (fun j => i - j) 0 0 ?_ (Nat.zero_le _) ?_
      · refine Wk.perm ?_ (fun p hp => by simpa [tailB] using hp)
        simp only [lfOK, upd]
        repeat' first | exact AVle.refl _ _ | exact trivial | refine And.intro ?_ ?_ | exact AVle.int (by simp only [IntKind.wrap_i64, Nat.pow_zero, Nat.div_one] <;> omega)
      · rintro γ'' j hf2 hj
        generalize hQ2 : kIt _ _ _ _ _ = Q2
        unfold ir_utfPut_l0
        by_cases hij : j < i
        · have hd : decide ((i : Int) - (j : Int) > 0) = true := by simp; omega
          have hm1 : bits .and .i64 ((n / 64 ^ j : Nat) : Int) 63 = ((n / 64 ^ j % 64 : Nat) : Int) := and63 (Nat.lt_of_le_of_lt (Nat.div_le_self _ _) (by omega))
          have hw : IntKind.u8.wrap ((n / 64 ^ j % 64 : Nat) : Int) = ((n / 64 ^ j % 64 : Nat) : Int) := by rw [IntKind.wrap_u8]; omega
          have hor := or_tail (b := n / 64 ^ j % 64) (by omega)
          have he : ((i : Int) - (j : Int)).toNat = i - j := by omega
          have hc : List.take (i - j) (cellsB (List.replicate (i + 1 - j) 0 ++ tailB n j)) ++ [AV.int .u8 ((128 + n / 64 ^ j % 64 : Nat) : Int)] ++ List.drop (i - j + 1) (cellsB (List.replicate (i + 1 - j) 0 ++ tailB n j)) = cellsB (List.replicate (i - j) 0 ++ tailB n (j + 1)) := by
            rw [show i + 1 - j = i - j + 1 by omega]; exact cells_set
          simp +contextual (maxSteps := 1000000) only [hd, hm1, hw, hor, he, hc, Nat.mul_one, cellsB_len, sh6, go_sem, reduceCtorEq, ↓reduceIte, Nat.reduceAdd, Nat.reduceEqDiff, Nat.reduceLeDiff, Nat.reduceMul, Nat.reduceBEq, Int.reduceBEq, Int.reduceBNe, Int.reduceLT, Int.reduceLE, Int.reduceGT, Int.reduceGE, Int.reduceToNat]
          refine ⟨⟨by omega, by omega⟩, by simp [tailB_len] <;> omega, ?_⟩
          rw [← hQ2]
          simp only [w_kIt_n]
          refine ⟨0, j + 1, Wk.perm ?_ (fun p hp => ?_), by omega, by omega⟩
          · repeat' first | exact AVle.refl _ _ | exact trivial | refine And.intro ?_ ?_ | exact AVle.int (by simp only [IntKind.wrap_i64]; omega)
          · rwa [show i + 1 - (j + 1) = i - j by omega] at hp
        · have hd : decide ((i : Int) - (j : Int) > 0) = false := by simp; omega
          have hji : j = i := by omega
          subst hji
          obtain ⟨hk1, hk2⟩ := mark_or hle hi
          have hc : AV.int .u8 ((szMark j + n / 64 ^ j : Nat) : Int) :: List.drop 1 (cellsB (List.replicate (j + 1 - j) 0 ++ tailB n j)) = cellsB (putN n) := by
            rw [show j + 1 - j = 0 + 1 by omega, putN_eq hle hi]
            simpa using cells_set (k := 0) (t := tailB n j) (x := szMark j + n / 64 ^ j)
          simp +contextual (maxSteps := 1000000) only [hd, go_sem, reduceCtorEq, ↓reduceIte, Nat.reduceAdd, Nat.reduceEqDiff, Nat.reduceLeDiff, Nat.reduceMul, Nat.reduceBEq, Int.reduceBEq, Int.reduceBNe, Int.reduceLT, Int.reduceLE, Int.reduceGT, Int.reduceGE, Int.reduceToNat]
          rw [← hQ2]
          simp +contextual (maxSteps := 1000000) only [hk1, hk2, hc, cellsB_len, go_sem, reduceCtorEq, ↓reduceIte, Nat.reduceAdd, Nat.reduceEqDiff, Nat.reduceLeDiff, Nat.reduceMul, Nat.reduceBEq, Int.reduceBEq, Int.reduceBNe, Int.reduceLT, Int.reduceLE, Int.reduceGT, Int.reduceGE, Int.reduceToNat]
          refine ⟨by omega, by simp [tailB_len] <;> omega, ?_⟩
          rw [← hQ']
          simp only [w_kIt_r, w_kBlk_r, w_kSeq_r]
          rw [← hQ]
          have hpu : putU (n : Int) = (putN n).map UInt8.ofNat := by rw [putU, if_pos hcp, Int.toNat_natCast]
          have hlen : (putN n).length = j + 1 := by rw [putN_eq hle hi]; simp [tailB_len]
          refine ⟨trivial, .inr ⟨1, bytesAV (putU n), rfl, 2, (γ', 10, 0), rfl, ?_, hf.1, ?_, ?_, ?_, by omega, ?_⟩⟩
          · show AV.ms _ 1 (j + 1) = _
            rw [bytesAV_length', hpu, List.length_map, hlen]
          · rw [hpu, bytes_cells (putN_lt h1)]; exact List.mem_cons_self
          · rw [hpu, bytes_cells (putN_lt h1)]; exact cellsB_closed _
          · intro x hx
            obtain ⟨c, _, rfl⟩ := List.mem_map.1 hx
            rfl
          · rw [bytesAV_length', hpu, List.length_map, hlen]
            simp only [maxLen]; omega
end Go.Proofs.YtfnngjnfajnpaaaGreatDoor

namespace Go.Proofs.YtfnngjnfajnpaaaGreatDoor
open Go Go.Ab

structure Mo where
  button : Int
  type : Int
  x : Int
  y : Int
  mods : Int
  deriving DecidableEq
def moAV (e : Mo) : List AV := [.int .i64 e.button, .int .i64 e.type, .int .i64 e.x, .int .i64 e.y, .int .i64 e.mods]
def btnM (n : Int) : Bool := (decide (n ≥ 1) && decide (n ≤ 3)) || (decide (n ≥ 8) && decide (n ≤ 11))
def kindM (e : Mo) : Bool := if e.type = 1 then decide (e.button ≥ 1) && decide (e.button ≤ 11) else if e.type = 3 then btnM e.button else (e.type == 4) && ((e.button == 0) || btnM e.button)
def cellM (e : Mo) : Bool := decide (1 ≤ e.x) && decide (e.x ≤ 65535) && decide (1 ≤ e.y) && decide (e.y ≤ 65535) && decide (0 ≤ e.mods) && decide (e.mods ≤ 255)
def mayM (e : Mo) : Bool := cellM e && kindM e
structure MayM (e : Mo) : Prop where
  x0 : 1 ≤ e.x
  x1 : e.x ≤ 65535
  y0 : 1 ≤ e.y
  y1 : e.y ≤ 65535
  m0 : 0 ≤ e.mods
  m1 : e.mods ≤ 255
  kd : (e.type = 1 ∧ 1 ≤ e.button ∧ e.button ≤ 11) ∨ (e.type = 3 ∧ (1 ≤ e.button ∧ e.button ≤ 3 ∨ 8 ≤ e.button ∧ e.button ≤ 11)) ∨ (e.type = 4 ∧ (e.button = 0 ∨ 1 ≤ e.button ∧ e.button ≤ 3 ∨ 8 ≤ e.button ∧ e.button ≤ 11))
theorem mayM_iff {e : Mo} : mayM e = true ↔ MayM e := by
  unfold mayM cellM kindM btnM
  simp only [Bool.and_eq_true, decide_eq_true_eq]
  constructor
  · rintro ⟨⟨⟨⟨⟨⟨a, b⟩, c⟩, d⟩, f⟩, g⟩, h⟩
    refine ⟨a, b, c, d, f, g, ?_⟩
    split at h
    · simp only [Bool.and_eq_true, decide_eq_true_eq] at h; omega
    · split at h
      · simp only [Bool.and_eq_true, Bool.or_eq_true, decide_eq_true_eq] at h; omega
      · simp only [Bool.and_eq_true, Bool.or_eq_true, decide_eq_true_eq, beq_iff_eq] at h; omega
  · rintro ⟨a, b, c, d, f, g, h⟩
    refine ⟨⟨⟨⟨⟨⟨a, b⟩, c⟩, d⟩, f⟩, g⟩, ?_⟩
    split
    · simp only [Bool.and_eq_true, decide_eq_true_eq]; omega
    · split
      · simp only [Bool.and_eq_true, Bool.or_eq_true, decide_eq_true_eq]; omega
      · simp only [Bool.and_eq_true, Bool.or_eq_true, decide_eq_true_eq, beq_iff_eq]; omega
def numM (n : Int) : Int := if n = 0 then 3 else if n ≤ 3 then n - 1 else if n ≤ 7 then 60 + n else 120 + n
def marksM (mode : Int) (e : Mo) : Int := (if e.type = 4 then 32 else 0) + (if mode = 9 then 0 else 4 * (e.mods % 8))
def codeM (mode : Int) (e : Mo) : Int := if mayM e = true then numM e.button + marksM mode e else 0
def blindM (mode : Int) (e : Mo) : Int := if e.type = 3 then 3 + marksM mode e else codeM mode e
def byteM (n : Int) : UInt8 := UInt8.ofNat (n % 256).toNat
def exactQ (mode : Int) (e : Mo) : Sq := numSq 1 60 (if e.type = 3 then 109 else 77) [codeM mode e, e.x, e.y]
def wordsQ (mode : Int) (e : Mo) : Sq := numSq 1 0 77 [32 + blindM mode e, e.x, e.y]
def wideB (mode : Int) (e : Mo) : List UInt8 := if e.x > 2015 ∨ e.y > 2015 then [] else [27, 91, 77] ++ (putU (32 + blindM mode e) ++ (putU (32 + e.x) ++ putU (32 + e.y)))
def plainM (mode : Int) (e : Mo) : List UInt8 := if e.x > 223 ∨ e.y > 223 then [] else [27, 91, 77, byteM (32 + blindM mode e), byteM (32 + e.x), byteM (32 + e.y)]
def encM (mode coding : Int) (e : Mo) : List UInt8 :=
  if mayM e = false then [] else if coding = 1006 then putB (exactQ mode e) else if coding = 1015 then putB (wordsQ mode e) else if coding = 1005 then wideB mode e else plainM mode e
theorem num_range {e : Mo} (M : MayM e) : 0 ≤ numM e.button ∧ numM e.button ≤ 131 := by
  have := M.kd
  unfold numM
  repeat' split
  all_goals omega
theorem marks_range (mode : Int) (e : Mo) : 0 ≤ marksM mode e ∧ marksM mode e ≤ 60 := by
  unfold marksM
  repeat' split
  all_goals omega
theorem code_range {mode : Int} {e : Mo} (M : MayM e) : codeM mode e = numM e.button + marksM mode e ∧ 0 ≤ codeM mode e ∧ codeM mode e ≤ 191 := by
  have h1 := num_range M
  have h2 := marks_range mode e
  have h : codeM mode e = numM e.button + marksM mode e := by unfold codeM; rw [mayM_iff.2 M]; rfl
  omega
theorem blind_range {mode : Int} {e : Mo} (M : MayM e) : 0 ≤ blindM mode e ∧ blindM mode e ≤ 191 := by
  have h1 := code_range (mode := mode) M
  have h2 := marks_range mode e
  unfold blindM
  split <;> omega
theorem may3q {pr fi a b c : Int} (hpr : pr = 0 ∨ pr = 60) (hfi : fi = 77 ∨ fi = 109) (ha : 0 ≤ a ∧ a ≤ 1114111) (hb : 0 ≤ b ∧ b ≤ 1114111) (hc : 0 ≤ c ∧ c ≤ 1114111) : mayP (numSq 1 pr fi [a, b, c]) = 0 := by
  have hp : parsOk (([a, b, c] : List Int).map fun n => [n]) = true := by
    simp only [parsOk, List.map_cons, List.map_nil, List.any_cons, List.any_nil, parBad, List.length_cons, List.length_nil]
    have q : ∀ {x : Int}, 0 ≤ x ∧ x ≤ 1114111 → (decide (x < -1) || decide (x > 1114111)) = false := fun h => by
      rw [decide_eq_false (by omega), decide_eq_false (by omega)]; rfl
    rw [q ha, q hb, q hc]
    simp
  unfold mayP numSq
  rw [hp]
  rcases hpr with rfl | rfl <;> rcases hfi with rfl | rfl <;> simp [within, shapedP]
theorem exact_may {mode : Int} {e : Mo} (M : MayM e) : mayP (exactQ mode e) = 0 := by
  have h1 := code_range (mode := mode) M
  have hx0 := M.x0
  have hx1 := M.x1
  have hy0 := M.y0
  have hy1 := M.y1
  exact may3q (.inr rfl) (by split; exact .inr rfl; exact .inl rfl) (by omega) (by omega) (by omega)
theorem words_may {mode : Int} {e : Mo} (M : MayM e) : mayP (wordsQ mode e) = 0 := by
  have h1 := blind_range (mode := mode) M
  have hx0 := M.x0
  have hx1 := M.x1
  have hy0 := M.y0
  have hy1 := M.y1
  exact may3q (.inl rfl) (.inl rfl) (by omega) (by omega) (by omega)
theorem code_inj {e f : Mo} (M : MayM e) (N : MayM f) (h3 : e.type = 3 ↔ f.type = 3) (h : codeM 1003 e = codeM 1003 f) : e.button = f.button ∧ e.type = f.type ∧ e.mods % 8 = f.mods % 8 := by
  rw [(code_range M).1, (code_range N).1] at h
  have h1 := M.kd
  have h2 := N.kd
  have n9 : ¬ (1003 : Int) = 9 := by omega
  unfold marksM at h
  rw [if_neg n9, if_neg n9] at h
  have key : ∀ b : Int, 0 ≤ b → b ≤ 11 → ∃ k j : Int, numM b = 64 * k + j ∧ 0 ≤ j ∧ j < 4 ∧ 0 ≤ k ∧ k ≤ 2 ∧ b = (if k = 0 then (if j = 3 then 0 else j + 1) else 4 * k + j) := by
    intro b b0 b1
    unfold numM
    by_cases c0 : b = 0
    · exact ⟨0, 3, by rw [if_pos c0]; rfl, by omega, by omega, by omega, by omega, by simp [c0]⟩
    · by_cases c1 : b ≤ 3
      · exact ⟨0, b - 1, by rw [if_neg c0, if_pos c1]; omega, by omega, by omega, by omega, by omega, by rw [if_pos rfl, if_neg (by omega)]; omega⟩
      · by_cases c2 : b ≤ 7
        · exact ⟨1, b - 4, by rw [if_neg c0, if_neg c1, if_pos c2]; omega, by omega, by omega, by omega, by omega, by rw [if_neg (by omega)]; omega⟩
        · exact ⟨2, b - 8, by rw [if_neg c0, if_neg c1, if_neg c2]; omega, by omega, by omega, by omega, by omega, by rw [if_neg (by omega)]; omega⟩
  obtain ⟨k1, j1, e1, a1, a2, a3, a4, a5⟩ := key e.button (by omega) (by omega)
  obtain ⟨k2, j2, e2, b1, b2, b3, b4, b5⟩ := key f.button (by omega) (by omega)
  rw [e1, e2] at h
  have r1 : 0 ≤ e.mods % 8 ∧ e.mods % 8 < 8 := by omega
  have r2 : 0 ≤ f.mods % 8 ∧ f.mods % 8 < 8 := by omega
  generalize e.mods % 8 = r at *
  generalize f.mods % 8 = s at *
  have hh : k1 = k2 ∧ j1 = j2 ∧ r = s ∧ (e.type = 4 ↔ f.type = 4) := by
    clear a5 b5 key
    split at h <;> split at h <;> omega
  obtain ⟨rfl, rfl, rfl, h4⟩ := hh
  exact ⟨by rw [a5, b5], by omega, rfl⟩
end Go.Proofs.YtfnngjnfajnpaaaGreatDoor

namespace Go.Proofs.YtfnngjnfajnpaaaGreatDoor
open Go Go.Ab
def ir_trackMay : ICode :=
 (.seq
 (.reg [⟨some 1, none, .box 23 (.t 0)⟩,
 ⟨some 2, none, .mov (.c (.bool false))⟩] (some [1]))
 (.seq
 (.seq
 (.reg [⟨some 7, none, .fa 2 (.t 1)⟩,
 ⟨some 8, none, .ld none (.t 7)⟩,
 ⟨some 9, none, .fa 3 (.t 1)⟩,
 ⟨some 10, none, .ld none (.t 9)⟩,
 ⟨some 11, none, .mm true (.t 8) (.t 10)⟩,
 ⟨some 12, none, .bin .lss .none (.t 11) (.c (.int .i64 1))⟩,
 ⟨some 13, none, .mov (.t 12)⟩,
 ⟨some 14, some (13, false), .fa 2 (.t 1)⟩,
 ⟨some 15, some (13, false), .ld none (.t 14)⟩,
 ⟨some 16, some (13, false), .fa 3 (.t 1)⟩,
 ⟨some 17, some (13, false), .ld none (.t 16)⟩,
 ⟨some 18, some (13, false), .mm false (.t 15) (.t 17)⟩,
 ⟨some 19, some (13, false), .bin .gtr .none (.t 18) (.c (.int .i64 65535))⟩,
 ⟨some 20, none, .pick (.t 13) (.c (.bool true)) (.t 19)⟩,
 ⟨some 21, none, .mov (.t 20)⟩,
 ⟨some 22, some (21, false), .fa 4 (.t 1)⟩,
 ⟨some 23, some (21, false), .ld none (.t 22)⟩,
 ⟨some 24, some (21, false), .bin .lss .none (.t 23) (.c (.int .i64 0))⟩,
 ⟨some 25, none, .pick (.t 21) (.c (.bool true)) (.t 24)⟩,
 ⟨some 26, none, .mov (.t 25)⟩,
 ⟨some 27, some (26, false), .fa 4 (.t 1)⟩,
 ⟨some 28, some (26, false), .ld none (.t 27)⟩,
 ⟨some 29, some (26, false), .bin .gtr .none (.t 28) (.c (.int .i64 255))⟩,
 ⟨some 30, none, .pick (.t 26) (.c (.bool true)) (.t 29)⟩] (some [1, 30]))
 (.cond (.t 30)
 (.seq
 (.reg [⟨some 2, none, .mov (.c (.bool false))⟩] (some [2]))
 .ret)
 .skip))
 (.seq
 (.reg [⟨some 31, none, .fa 0 (.t 1)⟩,
 ⟨some 32, none, .ld none (.t 31)⟩,
 ⟨some 33, none, .bin .gtr .none (.t 32) (.c (.int .i64 3))⟩,
 ⟨some 34, none, .mov (.t 33)⟩,
 ⟨some 35, some (34, true), .fa 0 (.t 1)⟩,
 ⟨some 36, some (34, true), .ld none (.t 35)⟩,
 ⟨some 37, some (34, true), .bin .lss .none (.t 36) (.c (.int .i64 8))⟩,
 ⟨some 38, none, .pick (.t 34) (.t 37) (.c (.bool false))⟩,
 ⟨some 3, none, .mov (.t 38)⟩] (some [1, 3]))
 (.seq
 (.reg [⟨some 39, none, .mkm⟩,
 ⟨none, none, .ins .int (.t 39) (.c (.int .i64 1)) (.c (.int .i64 1))⟩,
 ⟨none, none, .ins .int (.t 39) (.c (.int .i64 3)) (.c (.int .i64 1))⟩,
 ⟨none, none, .ins .int (.t 39) (.c (.int .i64 4)) (.c (.int .i64 0))⟩,
 ⟨some 40, none, .mov (.t 39)⟩,
 ⟨some 4, none, .mov (.t 40)⟩] (some [1, 3, 4]))
 (.seq
 (.reg [⟨some 42, none, .mov (.t 4)⟩,
 ⟨some 43, none, .fa 1 (.t 1)⟩,
 ⟨some 44, none, .ld none (.t 43)⟩,
 ⟨some 45, none, .lkp .int (.int .i64 0) true (.t 42) (.t 44)⟩,
 ⟨some 41, none, .mov (.t 45)⟩,
 ⟨some 46, none, .ext (.t 41) 0⟩,
 ⟨some 47, none, .ext (.t 41) 1⟩,
 ⟨some 5, none, .mov (.t 46)⟩,
 ⟨some 6, none, .mov (.t 47)⟩] (some [1, 3, 5, 6]))
 (.seq
 (.reg [⟨some 48, none, .mov (.t 6)⟩,
 ⟨some 49, none, .mov (.t 48)⟩,
 ⟨some 50, some (49, true), .fa 0 (.t 1)⟩,
 ⟨some 51, some (49, true), .ld none (.t 50)⟩,
 ⟨some 52, some (49, true), .mov (.t 5)⟩,
 ⟨some 53, some (49, true), .bin .geq .none (.t 51) (.t 52)⟩,
 ⟨some 54, none, .pick (.t 49) (.t 53) (.c (.bool false))⟩,
 ⟨some 55, none, .mov (.t 54)⟩,
 ⟨some 56, some (55, true), .fa 0 (.t 1)⟩,
 ⟨some 57, some (55, true), .ld none (.t 56)⟩,
 ⟨some 58, some (55, true), .bin .leq .none (.t 57) (.c (.int .i64 11))⟩,
 ⟨some 59, none, .pick (.t 55) (.t 58) (.c (.bool false))⟩,
 ⟨some 60, none, .mov (.t 59)⟩,
 ⟨some 61, some (60, true), .mov (.t 3)⟩,
 ⟨some 62, some (60, true), .un .not (.t 61)⟩,
 ⟨some 63, some (60, true), .mov (.t 62)⟩,
 ⟨some 64, some (63, false), .fa 1 (.t 1)⟩,
 ⟨some 65, some (63, false), .ld none (.t 64)⟩,
 ⟨some 66, some (63, false), .bin .eql .none (.t 65) (.c (.int .i64 1))⟩,
 ⟨some 67, some (60, true), .pick (.t 63) (.c (.bool true)) (.t 66)⟩,
 ⟨some 68, none, .pick (.t 60) (.t 67) (.c (.bool false))⟩,
 ⟨some 2, none, .mov (.t 68)⟩] (some [2]))
 .ret))))))
theorem is_trackMay : IrOf Tryz.prog 10 69 ir_trackMay [.t 2] := ⟨_, Tryz.func10, rfl, by kernel_rfl, by kernel_rfl, by kernel_rfl⟩

def ir_mousebutton : ICode :=
 (.seq
 (.reg [⟨some 2, none, .mov (.c (.int .i64 0))⟩] (some [0]))
 (.seq
 (.blk 0
 (.seq
 (.reg [⟨some 4, none, .mov (.t 0)⟩,
 ⟨some 5, none, .bin .eql .none (.t 4) (.c (.int .i64 0))⟩,
 ⟨some 3, none, .mov (.t 5)⟩] (some [0, 3]))
 (.cond (.t 3)
 (.seq
 (.reg [⟨some 2, none, .mov (.c (.int .i64 3))⟩] (some [2]))
 .ret)
 (.seq
 (.reg [⟨some 7, none, .mov (.t 0)⟩,
 ⟨some 8, none, .bin .leq .none (.t 7) (.c (.int .i64 3))⟩,
 ⟨some 6, none, .mov (.t 8)⟩] (some [0, 6]))
 (.cond (.t 6)
 (.seq
 (.reg [⟨some 9, none, .mov (.t 0)⟩,
 ⟨some 10, none, .bin .sub .none (.t 9) (.c (.int .i64 1))⟩,
 ⟨some 2, none, .mov (.t 10)⟩] (some [2]))
 .ret)
 (.seq
 (.reg [⟨some 12, none, .mov (.t 0)⟩,
 ⟨some 13, none, .bin .leq .none (.t 12) (.c (.int .i64 7))⟩,
 ⟨some 11, none, .mov (.t 13)⟩] (some [0, 11]))
 (.cond (.t 11)
 (.seq
 (.reg [⟨some 14, none, .mov (.t 0)⟩,
 ⟨some 15, none, .bin .add .none (.c (.int .i64 64)) (.t 14)⟩,
 ⟨some 16, none, .bin .sub .none (.t 15) (.c (.int .i64 3))⟩,
 ⟨some 17, none, .bin .sub .none (.t 16) (.c (.int .i64 1))⟩,
 ⟨some 2, none, .mov (.t 17)⟩] (some [2]))
 .ret)
 .skip)))))))
 (.seq
 (.reg [⟨some 18, none, .mov (.t 0)⟩,
 ⟨some 19, none, .bin .add .none (.c (.int .i64 128)) (.t 18)⟩,
 ⟨some 20, none, .bin .sub .none (.t 19) (.c (.int .i64 7))⟩,
 ⟨some 21, none, .bin .sub .none (.t 20) (.c (.int .i64 1))⟩,
 ⟨some 2, none, .mov (.t 21)⟩] (some [2]))
 .ret)))
theorem is_mousebutton : IrOf Tryz.prog 24 22 ir_mousebutton [.t 2] := ⟨_, Tryz.func24, rfl, by kernel_rfl, by kernel_rfl, by kernel_rfl⟩

def ir_mousewhenint : ICode :=
 (.seq
 (.reg [⟨some 4, none, .mov (.c (.int .i64 0))⟩] (some [0, 1]))
 (.seq
 (.reg [⟨some 5, none, .mov (.c (.int .i64 0))⟩] (some [0, 1, 5]))
 (.seq
 (.seq
 (.reg [⟨some 6, none, .mov (.t 0)⟩] (some [1, 5, 6]))
 (.cond (.t 6)
 (.seq
 (.reg [⟨some 7, none, .mov (.t 1)⟩,
 ⟨some 4, none, .mov (.t 7)⟩] (some [4]))
 .ret)
 .skip))
 (.seq
 (.reg [⟨some 8, none, .mov (.t 5)⟩,
 ⟨some 4, none, .mov (.t 8)⟩] (some [4]))
 .ret))))
theorem is_mousewhenint : IrOf Tryz.prog 31 9 ir_mousewhenint [.t 4] := ⟨_, Tryz.func31, rfl, by kernel_rfl, by kernel_rfl, by kernel_rfl⟩

/- clavier/mouse.sum -/
def ir_mousesum_l0 : ICode :=
 (.seq
 (.reg [⟨some 9, none, .bin .lss .none (.t 8) (.t 7)⟩] (some [3, 6, 7, 8, 9]))
 (.seq
 (.cond (.t 9)
 .skip
 (.exit 0))
 (.seq
 (.blk 1
 (.seq
 (.reg [⟨some 10, none, .ia 1 (.t 6) (.t 8)⟩,
 ⟨some 11, none, .ld none (.t 10)⟩,
 ⟨some 5, none, .mov (.t 11)⟩] (some [3, 5, 6, 7, 8]))
 (.reg [⟨some 12, none, .mov (.t 3)⟩,
 ⟨some 13, none, .mov (.t 5)⟩,
 ⟨some 14, none, .bin .add .none (.t 12) (.t 13)⟩,
 ⟨some 3, none, .mov (.t 14)⟩] (some [3, 6, 7, 8]))))
 (.reg [⟨some 15, none, .bin .add .none (.t 8) (.c (.int .i64 1))⟩,
 ⟨some 8, none, .mov (.t 15)⟩] (some [3, 6, 7, 8])))))
def ir_mousesum : ICode :=
 (.seq
 (.reg [⟨some 2, none, .mov (.c (.int .i64 0))⟩] (some [0]))
 (.seq
 (.reg [⟨some 3, none, .mov (.c (.int .i64 0))⟩] (some [0, 3]))
 (.seq
 (.seq
 (.reg [⟨some 6, none, .mov (.t 0)⟩,
 ⟨some 7, none, .len (.t 6)⟩,
 ⟨some 8, none, .mov (.c (.int .i64 0))⟩] (some [3, 6, 7, 8]))
 (.blk 0
 (.loop
 ir_mousesum_l0)))
 (.seq
 (.reg [⟨some 16, none, .mov (.t 3)⟩,
 ⟨some 2, none, .mov (.t 16)⟩] (some [2]))
 .ret))))
theorem is_mousesum : IrOf Tryz.prog 32 17 ir_mousesum [.t 2] := ⟨_, Tryz.func32, rfl, by kernel_rfl, by kernel_rfl, by kernel_rfl⟩

def ir_mousemarks : ICode :=
 (.seq
 (.reg [⟨some 3, none, .box 23 (.t 1)⟩,
 ⟨some 4, none, .mov (.c (.int .i64 0))⟩] (some [0, 3]))
 (.seq
 (.reg [⟨some 6, none, .fa 1 (.t 3)⟩,
 ⟨some 7, none, .ld none (.t 6)⟩,
 ⟨some 8, none, .bin .eql .none (.t 7) (.c (.int .i64 4))⟩,
 ⟨some 9, none, .call (.c (.fn (.func 31) [] [])) [(.t 8), (.c (.int .i64 32))]⟩,
 ⟨some 5, none, .mov (.t 9)⟩] (some [0, 3, 5]))
 (.seq
 (.seq
 (.reg [⟨some 10, none, .mov (.t 0)⟩,
 ⟨some 11, none, .bin .eql .none (.t 10) (.c (.int .i64 9))⟩] (some [3, 5, 11]))
 (.cond (.t 11)
 (.seq
 (.reg [⟨some 12, none, .mov (.t 5)⟩,
 ⟨some 4, none, .mov (.t 12)⟩] (some [4]))
 .ret)
 .skip))
 (.seq
 (.drw [⟨⟨some 13, none, .mov (.t 5)⟩, []⟩,
 ⟨⟨some 14, none, .fa 4 (.t 3)⟩, []⟩,
 ⟨⟨some 15, none, .ld none (.t 14)⟩, [1]⟩,
 ⟨⟨some 16, none, .bin .and .none (.t 15) (.c (.int .i64 1))⟩, [2]⟩,
 ⟨⟨some 17, none, .bin .neq .none (.t 16) (.c (.int .i64 0))⟩, [3]⟩,
 ⟨⟨some 18, none, .call (.c (.fn (.func 31) [] [])) [(.t 17), (.c (.int .i64 4))]⟩, [4]⟩,
 ⟨⟨some 19, none, .fa 4 (.t 3)⟩, []⟩,
 ⟨⟨some 20, none, .ld none (.t 19)⟩, [6]⟩,
 ⟨⟨some 21, none, .bin .and .none (.t 20) (.c (.int .i64 2))⟩, [7]⟩,
 ⟨⟨some 22, none, .bin .neq .none (.t 21) (.c (.int .i64 0))⟩, [8]⟩,
 ⟨⟨some 23, none, .call (.c (.fn (.func 31) [] [])) [(.t 22), (.c (.int .i64 8))]⟩, [9, 5]⟩,
 ⟨⟨some 24, none, .fa 4 (.t 3)⟩, []⟩,
 ⟨⟨some 25, none, .ld none (.t 24)⟩, [11]⟩,
 ⟨⟨some 26, none, .bin .and .none (.t 25) (.c (.int .i64 4))⟩, [12]⟩,
 ⟨⟨some 27, none, .bin .neq .none (.t 26) (.c (.int .i64 0))⟩, [13]⟩,
 ⟨⟨some 28, none, .call (.c (.fn (.func 31) [] [])) [(.t 27), (.c (.int .i64 16))]⟩, [14, 10]⟩,
 ⟨⟨some 29, none, .row 3 1 [(.t 13), (.t 18), (.t 23), (.t 28)]⟩, [0, 5, 10, 15]⟩,
 ⟨⟨some 30, none, .call (.c (.fn (.func 32) [] [])) [(.t 29)]⟩, [16, 15]⟩]
 [⟨some 4, none, .mov (.t 30)⟩] (some [4]))
 .ret))))
theorem is_mousemarks : IrOf Tryz.prog 11 31 ir_mousemarks [.t 4] := ⟨_, Tryz.func11, rfl, by kernel_rfl, by kernel_rfl, by kernel_rfl⟩

def ir_mouseCode : ICode :=
 (.seq
 (.reg [⟨some 3, none, .box 23 (.t 1)⟩,
 ⟨some 4, none, .mov (.c (.int .i64 0))⟩] (some [0, 3]))
 (.seq
 (.seq
 (.reg [⟨some 5, none, .ld (some 5) (.t 3)⟩,
 ⟨some 6, none, .call (.c (.fn (.func 10) [] [])) [(.t 5)]⟩,
 ⟨some 7, none, .un .not (.t 6)⟩] (some [0, 3, 7]))
 (.cond (.t 7)
 (.seq
 (.reg [⟨some 4, none, .mov (.c (.int .i64 0))⟩] (some [4]))
 .ret)
 .skip))
 (.seq
 (.drw [⟨⟨some 8, none, .fa 0 (.t 3)⟩, []⟩,
 ⟨⟨some 9, none, .ld none (.t 8)⟩, [0]⟩,
 ⟨⟨some 10, none, .call (.c (.fn (.func 24) [] [])) [(.t 9)]⟩, [1]⟩,
 ⟨⟨some 11, none, .mov (.t 0)⟩, []⟩,
 ⟨⟨some 12, none, .ld (some 5) (.t 3)⟩, []⟩,
 ⟨⟨some 13, none, .call (.c (.fn (.func 11) [] [])) [(.t 11), (.t 12)]⟩, [3, 4, 2]⟩,
 ⟨⟨some 14, none, .bin .add .none (.t 10) (.t 13)⟩, [2, 5]⟩]
 [⟨some 4, none, .mov (.t 14)⟩] (some [4]))
 .ret)))
theorem is_mouseCode : IrOf Tryz.prog 7 15 ir_mouseCode [.t 4] := ⟨_, Tryz.func7, rfl, by kernel_rfl, by kernel_rfl, by kernel_rfl⟩

theorem fe_nil' {kc : KC} {k : AV} : findE kc k [] = some none := rfl
theorem fe_int' {k : IntKind} {a b : Int} {v : AV} {es : List (AV × AV)} : findE .int (.int k a) ((.int k b, v) :: es) = if (a == b) = true then some (some v) else findE .int (.int k a) es := by
  simp only [findE, keyEq, if_true]
  cases (a == b) <;> rfl
theorem isKey_int' {k : IntKind} {a : Int} : (isKey .int (.int k a) = true) = True := by simp [isKey]
theorem cell_prog (e : Mo) : cellM e = !(((decide ((if e.y < e.x then e.y else e.x) < 1) || decide ((if e.y > e.x then e.y else e.x) > 65535)) || decide (e.mods < 0)) || decide (e.mods > 255)) := by
  unfold cellM
  rw [Bool.eq_iff_iff]
  simp only [Bool.and_eq_true, Bool.not_eq_true', Bool.or_eq_false_iff, decide_eq_true_eq, decide_eq_false_iff_not]
  constructor
  · intro h
    split <;> split <;> omega
  · intro h
    split at h <;> split at h <;> omega
theorem fs_tMay {Gl : Gh → Prop} (hst : Stays Gl) {e : Mo} : FS Tryz.prog Gl 10 [.agg (moAV e)] [] [] (.bool (mayM e)) [] [] := by
  refine FS.of hm hst is_trackMay (by simp) fun γ hγ hfr => ?_
  have hmo : moAV e = [.int .i64 e.button, .int .i64 e.type, .int .i64 e.x, .int .i64 e.y, .int .i64 e.mods] := rfl
  have hz : mayM e = (cellM e && kindM e) := rfl
  simp only [hmo]
  (generalize hQ : (fun (ex : Ex) (_ _ : Nat) (s : St) => _) = Q; unfold ir_trackMay)
  simp +contextual (maxSteps := 1000000) only [fe_nil', fe_int', isKey_int', go_sem, reduceCtorEq, ↓reduceIte, Nat.reduceAdd, Nat.reduceEqDiff, Nat.reduceLeDiff, Nat.reduceMul, Nat.reduceBEq, Int.reduceBEq, Int.reduceBNe, Int.reduceLT, Int.reduceLE, Int.reduceGT, Int.reduceGE, Int.reduceToNat]
  have hcp := cell_prog e
  cases hC : (((decide ((if e.y < e.x then e.y else e.x) < 1) || decide ((if e.y > e.x then e.y else e.x) > 65535)) || decide (e.mods < 0)) || decide (e.mods > 255)) with
  | true =>
    rw [hC] at hcp
    simp +contextual (maxSteps := 1000000) only [hC, go_sem, reduceCtorEq, ↓reduceIte, Nat.reduceAdd, Nat.reduceEqDiff, Nat.reduceLeDiff, Nat.reduceMul, Nat.reduceBEq, Int.reduceBEq, Int.reduceBNe, Int.reduceLT, Int.reduceLE, Int.reduceGT, Int.reduceGE, Int.reduceToNat]
    rw [← hQ, hz, hcp]
    exact ⟨trivial, Ret.flat rfl rfl⟩
  | false =>
    rw [hC] at hcp
    have hz : mayM e = kindM e := by rw [hz, hcp]; rfl
    have fin : ∀ {b : Bool} {γ' c' : Nat} {st : St}, st.F 2 = .bool b → b = kindM e → Q .ret γ' c' st := by
      intro b γ' c' st h hb
      rw [← hQ, hz, ← hb]
      exact ⟨trivial, Ret.flat (by simp only [resOf, getAll, IRes.get, h]) rfl⟩
    by_cases t1 : e.type = 1
    · have q1 : (e.type == 1) = true := beq_iff_eq.2 t1
      simp +contextual (maxSteps := 1000000) only [hC, q1, fe_nil', fe_int', isKey_int', go_sem, reduceCtorEq, ↓reduceIte, Nat.reduceAdd, Nat.reduceEqDiff, Nat.reduceLeDiff, Nat.reduceMul, Nat.reduceBEq, Int.reduceBEq, Int.reduceBNe, Int.reduceLT, Int.reduceLE, Int.reduceGT, Int.reduceGE, Int.reduceToNat]
      refine fin rfl ?_
      unfold kindM
      rw [if_pos t1]
    · have q1 : (e.type == 1) = false := beq_eq_false_iff_ne.2 t1
      by_cases t3 : e.type = 3
      · have q3 : (e.type == 3) = true := beq_iff_eq.2 t3
        simp +contextual (maxSteps := 1000000) only [hC, q1, q3, fe_nil', fe_int', isKey_int', go_sem, reduceCtorEq, ↓reduceIte, Nat.reduceAdd, Nat.reduceEqDiff, Nat.reduceLeDiff, Nat.reduceMul, Nat.reduceBEq, Int.reduceBEq, Int.reduceBNe, Int.reduceLT, Int.reduceLE, Int.reduceGT, Int.reduceGE, Int.reduceToNat]
        refine fin rfl ?_
        unfold kindM btnM
        rw [if_neg t1, if_pos t3, Bool.eq_iff_iff]
        simp only [Bool.and_eq_true, Bool.or_eq_true, Bool.not_eq_true', Bool.and_eq_false_iff, decide_eq_true_eq, decide_eq_false_iff_not]
        omega
      · have q3 : (e.type == 3) = false := beq_eq_false_iff_ne.2 t3
        by_cases t4 : e.type = 4
        · have q4 : (e.type == 4) = true := beq_iff_eq.2 t4
          simp +contextual (maxSteps := 1000000) only [hC, q1, q3, q4, fe_nil', fe_int', isKey_int', go_sem, reduceCtorEq, ↓reduceIte, Nat.reduceAdd, Nat.reduceEqDiff, Nat.reduceLeDiff, Nat.reduceMul, Nat.reduceBEq, Int.reduceBEq, Int.reduceBNe, Int.reduceLT, Int.reduceLE, Int.reduceGT, Int.reduceGE, Int.reduceToNat]
          refine fin rfl ?_
          unfold kindM btnM
          rw [if_neg t1, if_neg t3, q4, Bool.eq_iff_iff]
          simp only [Bool.and_eq_true, Bool.or_eq_true, Bool.not_eq_true', Bool.and_eq_false_iff, decide_eq_true_eq, decide_eq_false_iff_not, beq_iff_eq, true_and]
          omega
        · have q4 : (e.type == 4) = false := beq_eq_false_iff_ne.2 t4
          simp +contextual (maxSteps := 1000000) only [hC, q1, q3, q4, fe_nil', fe_int', isKey_int', go_sem, reduceCtorEq, ↓reduceIte, Nat.reduceAdd, Nat.reduceEqDiff, Nat.reduceLeDiff, Nat.reduceMul, Nat.reduceBEq, Int.reduceBEq, Int.reduceBNe, Int.reduceLT, Int.reduceLE, Int.reduceGT, Int.reduceGE, Int.reduceToNat]
          refine fin rfl ?_
          unfold kindM
          rw [if_neg t1, if_neg t3, q4]
          rfl
theorem fs_button {Gl : Gh → Prop} (hst : Stays Gl) {n : Int} (h0 : 0 ≤ n) (h1 : n ≤ 1000) : FS Tryz.prog Gl 24 [.int .i64 n] [] [] (.int .i64 (numM n)) [] [] := by
  refine FS.of hm hst is_mousebutton (by simp) fun γ hγ hfr => ?_
  have hz : numM n = if n = 0 then 3 else if n ≤ 3 then n - 1 else if n ≤ 7 then 60 + n else 120 + n := rfl
  have w1 : IntKind.i64.wrap (n - 1) = n - 1 := by rw [IntKind.wrap_i64]; omega
  have w2 : IntKind.i64.wrap (IntKind.i64.wrap (IntKind.i64.wrap (64 + n) - 3) - 1) = 60 + n := by rw [IntKind.wrap_i64, IntKind.wrap_i64, IntKind.wrap_i64]; omega
  have w3 : IntKind.i64.wrap (IntKind.i64.wrap (IntKind.i64.wrap (128 + n) - 7) - 1) = 120 + n := by rw [IntKind.wrap_i64, IntKind.wrap_i64, IntKind.wrap_i64]; omega
  (generalize hQ : (fun (ex : Ex) (_ _ : Nat) (s : St) => _) = Q; unfold ir_mousebutton)
  by_cases c0 : n = 0
  · have q0 : (n == 0) = true := beq_iff_eq.2 c0
    simp +contextual (maxSteps := 1000000) only [q0, go_sem, reduceCtorEq, ↓reduceIte, Nat.reduceAdd, Nat.reduceEqDiff, Nat.reduceLeDiff, Nat.reduceMul, Nat.reduceBEq, Int.reduceBEq, Int.reduceBNe, Int.reduceLT, Int.reduceLE, Int.reduceGT, Int.reduceGE, Int.reduceToNat]
    rw [← hQ, hz, if_pos c0]
    exact ⟨trivial, Ret.flat rfl rfl⟩
  · have q0 : (n == 0) = false := beq_eq_false_iff_ne.2 c0
    by_cases c1 : n ≤ 3
    · have q1 : decide (n ≤ 3) = true := decide_eq_true c1
      simp +contextual (maxSteps := 1000000) only [q0, q1, w1, go_sem, reduceCtorEq, ↓reduceIte, Nat.reduceAdd, Nat.reduceEqDiff, Nat.reduceLeDiff, Nat.reduceMul, Nat.reduceBEq, Int.reduceBEq, Int.reduceBNe, Int.reduceLT, Int.reduceLE, Int.reduceGT, Int.reduceGE, Int.reduceToNat]
      rw [← hQ, hz, if_neg c0, if_pos c1]
      exact ⟨trivial, Ret.flat rfl rfl⟩
    · have q1 : decide (n ≤ 3) = false := decide_eq_false c1
      by_cases c2 : n ≤ 7
      · have q2 : decide (n ≤ 7) = true := decide_eq_true c2
        simp +contextual (maxSteps := 1000000) only [q0, q1, q2, w2, go_sem, reduceCtorEq, ↓reduceIte, Nat.reduceAdd, Nat.reduceEqDiff, Nat.reduceLeDiff, Nat.reduceMul, Nat.reduceBEq, Int.reduceBEq, Int.reduceBNe, Int.reduceLT, Int.reduceLE, Int.reduceGT, Int.reduceGE, Int.reduceToNat]
        rw [← hQ, hz, if_neg c0, if_neg c1, if_pos c2]
        exact ⟨trivial, Ret.flat rfl rfl⟩
      · have q2 : decide (n ≤ 7) = false := decide_eq_false c2
        simp +contextual (maxSteps := 1000000) only [q0, q1, q2, w3, go_sem, reduceCtorEq, ↓reduceIte, Nat.reduceAdd, Nat.reduceEqDiff, Nat.reduceLeDiff, Nat.reduceMul, Nat.reduceBEq, Int.reduceBEq, Int.reduceBNe, Int.reduceLT, Int.reduceLE, Int.reduceGT, Int.reduceGE, Int.reduceToNat]
        rw [← hQ, hz, if_neg c0, if_neg c1, if_neg c2]
        exact ⟨trivial, Ret.flat rfl rfl⟩
theorem fs_when {Gl : Gh → Prop} (hst : Stays Gl) {b : Bool} {n : Int} : FS Tryz.prog Gl 31 [.bool b, .int .i64 n] [] [] (.int .i64 (if b = true then n else 0)) [] [] := by
  refine FS.of hm hst is_mousewhenint (by simp) fun γ hγ hfr => ?_
  (generalize hQ : (fun (ex : Ex) (_ _ : Nat) (s : St) => _) = Q; unfold ir_mousewhenint)
  cases b with
  | true =>
    simp +contextual (maxSteps := 1000000) only [go_sem, reduceCtorEq, ↓reduceIte, Nat.reduceAdd, Nat.reduceEqDiff, Nat.reduceLeDiff, Nat.reduceMul, Nat.reduceBEq, Int.reduceBEq, Int.reduceBNe, Int.reduceLT, Int.reduceLE, Int.reduceGT, Int.reduceGE, Int.reduceToNat]
    rw [← hQ]
    exact ⟨trivial, Ret.flat rfl rfl⟩
  | false =>
    simp +contextual (maxSteps := 1000000) only [go_sem, reduceCtorEq, ↓reduceIte, Nat.reduceAdd, Nat.reduceEqDiff, Nat.reduceLeDiff, Nat.reduceMul, Nat.reduceBEq, Int.reduceBEq, Int.reduceBNe, Int.reduceLT, Int.reduceLE, Int.reduceGT, Int.reduceGE, Int.reduceToNat]
    rw [← hQ]
    exact ⟨trivial, Ret.flat rfl rfl⟩
theorem fs_sum {Gl : Gh → Prop} (hst : Stays Gl) {l : List Int} {t : Option Nm} (hl : l.length ≤ 100) (hb : ∀ n ∈ l, 0 ≤ n ∧ n ≤ 1000) : FS Tryz.prog Gl 32 [.sl t 1 (intsAV l)] [] [] (.int .i64 l.sum) [] [] := by
  refine FS.of hm hst is_mousesum (by simp) fun γ hγ hfr => ?_
  have hs : ∀ k : Nat, k ≤ l.length → 0 ≤ (l.take k).sum ∧ (l.take k).sum ≤ 1000 * k := by
    intro k
    induction k with
    | zero => intro _; simp
    | succ k ih =>
      intro hk
      have := ih (by omega)
      have hm := hb l[k] (List.getElem_mem _)
      rw [List.take_add_one, List.getElem?_eq_getElem (by omega), List.sum_append]
      simp only [Option.toList_some, List.sum_cons, List.sum_nil]
      omega
  (generalize hQ : (fun (ex : Ex) (_ _ : Nat) (s : St) => _) = Q; unfold ir_mousesum)
  simp +contextual (maxSteps := 1000000) only [go_sem, reduceCtorEq, ↓reduceIte, Nat.reduceAdd, Nat.reduceEqDiff, Nat.reduceLeDiff, Nat.reduceMul, Nat.reduceBEq, Int.reduceBEq, Int.reduceBNe, Int.reduceLT, Int.reduceLE, Int.reduceGT, Int.reduceGE, Int.reduceToNat]
  refine kLoop_ix (fun i : Nat => ⟨lf [(3, .int .i64 (l.take i).sum), (6, .sl t 1 (intsAV l)), (7, .int .i64 l.length), (8, .int .i64 i)], [], fun x => x ∈ []⟩) (fun i => i ≤ l.length) (fun i => l.length - i) 0 0 (Wk.same ?_) (by simp) ?_
  · simp only [lfOK, intsAV_length]
    repeat' first | exact AVle.refl _ _ | exact trivial | refine And.intro ?_ ?_ | exact AVle.int (by simp only [IntKind.wrap_i64]; omega)
  rintro γ' i hf hi
  generalize hQ' : kIt _ _ _ _ _ = Q'
  unfold ir_mousesum_l0
  by_cases hlt : i < l.length
  · have hd : decide ((i : Int) < (l.length : Int)) = true := decide_eq_true (by omega)
    have hg : (intsAV l).getD i [] = [.int .i64 l[i]] := intsAV_get hlt
    have hw : IntKind.i64.wrap ((i : Int) + 1) = ((i + 1 : Nat) : Int) := by rw [IntKind.wrap_i64]; omega
    have h1 := hs i hi
    have h2 := hb l[i] (List.getElem_mem _)
    have hw2 : IntKind.i64.wrap ((l.take i).sum + l[i]) = (l.take (i + 1)).sum := by
      rw [List.take_add_one, List.getElem?_eq_getElem hlt, List.sum_append]
      simp only [Option.toList_some, List.sum_cons, List.sum_nil]
      rw [IntKind.wrap_i64]; omega
    simp +contextual (maxSteps := 1000000) only [hd, hg, Int.toNat_natCast, intsAV_length, hw, hw2, go_sem, reduceCtorEq, ↓reduceIte, Nat.reduceAdd, Nat.reduceEqDiff, Nat.reduceLeDiff, Nat.reduceMul, Nat.reduceBEq, Int.reduceBEq, Int.reduceBNe, Int.reduceLT, Int.reduceLE, Int.reduceGT, Int.reduceGE, Int.reduceToNat]
    refine ⟨by omega, ?_⟩
    rw [← hQ']
    simp only [w_kIt_n]
    refine ⟨0, i + 1, Wk.same ?_, by omega, by omega⟩
    repeat' first | exact AVle.refl _ _ | exact trivial | refine And.intro ?_ ?_ | exact AVle.int (by simp only [IntKind.wrap_i64]; omega)
  · have hd : decide ((i : Int) < (l.length : Int)) = false := decide_eq_false (by omega)
    simp +contextual (maxSteps := 1000000) only [hd, go_sem, reduceCtorEq, ↓reduceIte, Nat.reduceAdd, Nat.reduceEqDiff, Nat.reduceLeDiff, Nat.reduceMul, Nat.reduceBEq, Int.reduceBEq, Int.reduceBNe, Int.reduceLT, Int.reduceLE, Int.reduceGT, Int.reduceGE, Int.reduceToNat]
    rw [← hQ']
    simp only [w_kIt_e, w_kBlk_e, ↓reduceIte]
    simp +contextual (maxSteps := 1000000) only [go_sem, reduceCtorEq, ↓reduceIte, Nat.reduceAdd, Nat.reduceEqDiff, Nat.reduceLeDiff, Nat.reduceMul, Nat.reduceBEq, Int.reduceBEq, Int.reduceBNe, Int.reduceLT, Int.reduceLE, Int.reduceGT, Int.reduceGE, Int.reduceToNat]
    have : l.take i = l := List.take_of_length_le (by omega)
    rw [← hQ, this]
    exact ⟨trivial, Ret.flat rfl rfl⟩
theorem marks_bits : ∀ m : Fin 256, (if (bits .and .i64 ((m.val : Nat) : Int) 1 != 0) = true then (4 : Int) else 0) + ((if (bits .and .i64 ((m.val : Nat) : Int) 2 != 0) = true then (8 : Int) else 0) + (if (bits .and .i64 ((m.val : Nat) : Int) 4 != 0) = true then (16 : Int) else 0)) = 4 * (((m.val : Nat) : Int) % 8) := by decide +kernel
set_option maxHeartbeats 2000000 in
theorem fs_marks {Gl : Gh → Prop} (hst : Stays Gl) {mode : Int} {e : Mo} (h0 : 0 ≤ e.mods) (h1 : e.mods ≤ 255) : FS Tryz.prog Gl 11 [.int .i64 mode, .agg (moAV e)] [] [] (.int .i64 (marksM mode e)) [] [] := by
  refine FS.of hm hst is_mousemarks (by simp) fun γ hγ hfr => ?_
  have hmo : moAV e = [.int .i64 e.button, .int .i64 e.type, .int .i64 e.x, .int .i64 e.y, .int .i64 e.mods] := rfl
  have hz : marksM mode e = (if e.type = 4 then 32 else 0) + (if mode = 9 then 0 else 4 * (e.mods % 8)) := rfl
  obtain ⟨n0, hn0⟩ : ∃ n : Int, n = if (e.type == 4) = true then 32 else 0 := ⟨_, rfl⟩
  have hb := marks_bits ⟨e.mods.toNat, by omega⟩
  simp only at hb
  rw [show ((e.mods.toNat : Nat) : Int) = e.mods by omega] at hb
  obtain ⟨n1, hn1⟩ : ∃ n : Int, n = if (bits .and .i64 e.mods 1 != 0) = true then 4 else 0 := ⟨_, rfl⟩
  obtain ⟨n2, hn2⟩ : ∃ n : Int, n = if (bits .and .i64 e.mods 2 != 0) = true then 8 else 0 := ⟨_, rfl⟩
  obtain ⟨n3, hn3⟩ : ∃ n : Int, n = if (bits .and .i64 e.mods 4 != 0) = true then 16 else 0 := ⟨_, rfl⟩
  have c0 := fs_when (Gl := Gl) hst (b := e.type == 4) (n := 32)
  have c1 := fs_when (Gl := Gl) hst (b := bits .and .i64 e.mods 1 != 0) (n := 4)
  have c2 := fs_when (Gl := Gl) hst (b := bits .and .i64 e.mods 2 != 0) (n := 8)
  have c3 := fs_when (Gl := Gl) hst (b := bits .and .i64 e.mods 4 != 0) (n := 16)
  rw [← hn0] at c0
  rw [← hn1] at c1
  rw [← hn2] at c2
  rw [← hn3] at c3
  rw [← hn1, ← hn2, ← hn3] at hb
  have r0 : n0 = (if e.type = 4 then 32 else 0) := by rw [hn0]; simp
  have b0 : 0 ≤ n0 ∧ n0 ≤ 32 := by rw [hn0]; split <;> omega
  have b1 : 0 ≤ n1 ∧ n1 ≤ 4 := by rw [hn1]; split <;> omega
  have b2 : 0 ≤ n2 ∧ n2 ≤ 8 := by rw [hn2]; split <;> omega
  have b3 : 0 ≤ n3 ∧ n3 ≤ 16 := by rw [hn3]; split <;> omega
  have c4 := fun t : Option Nm => fs_sum (Gl := Gl) hst (l := [n0, n1, n2, n3]) (t := t) (by simp) (by simp; omega)
  have hi : intsAV [n0, n1, n2, n3] = [[.int .i64 n0], [.int .i64 n1], [.int .i64 n2], [.int .i64 n3]] := rfl
  rw [hi] at c4
  clear hn0 hn1 hn2 hn3
  simp only [hmo]
  (generalize hQ : (fun (ex : Ex) (_ _ : Nat) (s : St) => _) = Q; unfold ir_mousemarks)
  simp +contextual (maxSteps := 1000000) only [go_sem, reduceCtorEq, ↓reduceIte, Nat.reduceAdd, Nat.reduceEqDiff, Nat.reduceLeDiff, Nat.reduceMul, Nat.reduceBEq, Int.reduceBEq, Int.reduceBNe, Int.reduceLT, Int.reduceLE, Int.reduceGT, Int.reduceGE, Int.reduceToNat]
  (refine CallP.pure (c0) (fun _ => rfl) ?_; simp +contextual (maxSteps := 1000000) only [go_sem, reduceCtorEq, ↓reduceIte, Nat.reduceAdd, Nat.reduceEqDiff, Nat.reduceLeDiff, Nat.reduceMul, Nat.reduceBEq, Int.reduceBEq, Int.reduceBNe, Int.reduceLT, Int.reduceLE, Int.reduceGT, Int.reduceGE, Int.reduceToNat])
  by_cases h9 : mode = 9
  · have q : (mode == 9) = true := beq_iff_eq.2 h9
    simp +contextual (maxSteps := 1000000) only [q, go_sem, reduceCtorEq, ↓reduceIte, Nat.reduceAdd, Nat.reduceEqDiff, Nat.reduceLeDiff, Nat.reduceMul, Nat.reduceBEq, Int.reduceBEq, Int.reduceBNe, Int.reduceLT, Int.reduceLE, Int.reduceGT, Int.reduceGE, Int.reduceToNat]
    rw [← hQ, hz, if_pos h9, ← r0, Int.add_zero]
    exact ⟨trivial, Ret.flat rfl rfl⟩
  · have q : (mode == 9) = false := beq_eq_false_iff_ne.2 h9
    simp +contextual (maxSteps := 1000000) only [q, go_sem, reduceCtorEq, ↓reduceIte, Nat.reduceAdd, Nat.reduceEqDiff, Nat.reduceLeDiff, Nat.reduceMul, Nat.reduceBEq, Int.reduceBEq, Int.reduceBNe, Int.reduceLT, Int.reduceLE, Int.reduceGT, Int.reduceGE, Int.reduceToNat]
    refine DCall.new c1 ?_
    simp +contextual (maxSteps := 1000000) only [go_sem, reduceCtorEq, ↓reduceIte, Nat.reduceAdd, Nat.reduceEqDiff, Nat.reduceLeDiff, Nat.reduceMul, Nat.reduceBEq, Int.reduceBEq, Int.reduceBNe, Int.reduceLT, Int.reduceLE, Int.reduceGT, Int.reduceGE, Int.reduceToNat]
    refine DCall.new c2 ?_
    simp +contextual (maxSteps := 1000000) only [go_sem, reduceCtorEq, ↓reduceIte, Nat.reduceAdd, Nat.reduceEqDiff, Nat.reduceLeDiff, Nat.reduceMul, Nat.reduceBEq, Int.reduceBEq, Int.reduceBNe, Int.reduceLT, Int.reduceLE, Int.reduceGT, Int.reduceGE, Int.reduceToNat]
    refine DCall.new c3 ?_
    simp +contextual (maxSteps := 1000000) only [go_sem, reduceCtorEq, ↓reduceIte, Nat.reduceAdd, Nat.reduceEqDiff, Nat.reduceLeDiff, Nat.reduceMul, Nat.reduceBEq, Int.reduceBEq, Int.reduceBNe, Int.reduceLT, Int.reduceLE, Int.reduceGT, Int.reduceGE, Int.reduceToNat]
    refine ⟨by simp [AV.closedL, AV.closed], DCall.new (c4 _) ?_⟩
    simp +contextual (maxSteps := 1000000) only [go_sem, reduceCtorEq, ↓reduceIte, Nat.reduceAdd, Nat.reduceEqDiff, Nat.reduceLeDiff, Nat.reduceMul, Nat.reduceBEq, Int.reduceBEq, Int.reduceBNe, Int.reduceLT, Int.reduceLE, Int.reduceGT, Int.reduceGE, Int.reduceToNat]
    have hs : marksM mode e = ([n0, n1, n2, n3] : List Int).sum := by
      rw [hz, if_neg h9, ← r0, ← hb]; simp
    rw [← hQ, hs]
    exact ⟨trivial, Ret.flat rfl rfl⟩
theorem fs_mCode {Gl : Gh → Prop} (hst : Stays Gl) {mode : Int} {e : Mo} : FS Tryz.prog Gl 7 [.int .i64 mode, .agg (moAV e)] [] [] (.int .i64 (codeM mode e)) [] [] := by
  refine FS.of hm hst is_mouseCode (by simp) fun γ hγ hfr => ?_
  have hmo : moAV e = [.int .i64 e.button, .int .i64 e.type, .int .i64 e.x, .int .i64 e.y, .int .i64 e.mods] := rfl
  have hz : codeM mode e = if mayM e = true then numM e.button + marksM mode e else 0 := rfl
  have c1 := fs_tMay (Gl := Gl) hst (e := e)
  rw [hmo] at c1
  simp only [hmo]
  (generalize hQ : (fun (ex : Ex) (_ _ : Nat) (s : St) => _) = Q; unfold ir_mouseCode)
  simp +contextual (maxSteps := 1000000) only [go_sem, reduceCtorEq, ↓reduceIte, Nat.reduceAdd, Nat.reduceEqDiff, Nat.reduceLeDiff, Nat.reduceMul, Nat.reduceBEq, Int.reduceBEq, Int.reduceBNe, Int.reduceLT, Int.reduceLE, Int.reduceGT, Int.reduceGE, Int.reduceToNat]
  (refine CallP.pure (c1) (fun _ => rfl) ?_; simp +contextual (maxSteps := 1000000) only [go_sem, reduceCtorEq, ↓reduceIte, Nat.reduceAdd, Nat.reduceEqDiff, Nat.reduceLeDiff, Nat.reduceMul, Nat.reduceBEq, Int.reduceBEq, Int.reduceBNe, Int.reduceLT, Int.reduceLE, Int.reduceGT, Int.reduceGE, Int.reduceToNat])
  cases hM : mayM e with
  | false =>
    simp +contextual (maxSteps := 1000000) only [hM, go_sem, reduceCtorEq, ↓reduceIte, Nat.reduceAdd, Nat.reduceEqDiff, Nat.reduceLeDiff, Nat.reduceMul, Nat.reduceBEq, Int.reduceBEq, Int.reduceBNe, Int.reduceLT, Int.reduceLE, Int.reduceGT, Int.reduceGE, Int.reduceToNat]
    rw [← hQ, hz, hM]
    exact ⟨trivial, Ret.flat rfl rfl⟩
  | true =>
    have M := mayM_iff.1 hM
    have hk := M.kd
    have c2 := fs_button (Gl := Gl) hst (n := e.button) (by omega) (by omega)
    have c3 := fs_marks (Gl := Gl) hst (mode := mode) (e := e) M.m0 M.m1
    have r1 := num_range M
    have r2 := marks_range mode e
    have hw : IntKind.i64.wrap (numM e.button + marksM mode e) = numM e.button + marksM mode e := by rw [IntKind.wrap_i64]; omega
    rw [hmo] at c3
    simp +contextual (maxSteps := 1000000) only [hM, go_sem, reduceCtorEq, ↓reduceIte, Nat.reduceAdd, Nat.reduceEqDiff, Nat.reduceLeDiff, Nat.reduceMul, Nat.reduceBEq, Int.reduceBEq, Int.reduceBNe, Int.reduceLT, Int.reduceLE, Int.reduceGT, Int.reduceGE, Int.reduceToNat]
    refine DCall.new c2 ?_
    simp +contextual (maxSteps := 1000000) only [go_sem, reduceCtorEq, ↓reduceIte, Nat.reduceAdd, Nat.reduceEqDiff, Nat.reduceLeDiff, Nat.reduceMul, Nat.reduceBEq, Int.reduceBEq, Int.reduceBNe, Int.reduceLT, Int.reduceLE, Int.reduceGT, Int.reduceGE, Int.reduceToNat]
    refine DCall.new c3 ?_
    simp +contextual (maxSteps := 1000000) only [hw, go_sem, reduceCtorEq, ↓reduceIte, Nat.reduceAdd, Nat.reduceEqDiff, Nat.reduceLeDiff, Nat.reduceMul, Nat.reduceBEq, Int.reduceBEq, Int.reduceBNe, Int.reduceLT, Int.reduceLE, Int.reduceGT, Int.reduceGE, Int.reduceToNat]
    rw [← hQ, hz, hM, if_pos rfl]
    exact ⟨trivial, Ret.flat rfl rfl⟩
end Go.Proofs.YtfnngjnfajnpaaaGreatDoor

namespace Go.Proofs.YtfnngjnfajnpaaaGreatDoor
open Go Go.Ab
def ir_mouseone : ICode :=
 (.seq
 (.reg [⟨some 2, none, .mov (.c .nils)⟩] (some [0]))
 (.seq
 (.reg [⟨some 3, none, .mov (.t 0)⟩,
 ⟨some 4, none, .cvi .u8 (.t 3)⟩,
 ⟨some 5, none, .row 5 1 [(.t 4)]⟩,
 ⟨some 2, none, .mov (.t 5)⟩] (some [2]))
 .ret))
theorem is_mouseone : IrOf Tryz.prog 19 6 ir_mouseone [.t 2] := ⟨_, Tryz.func19, rfl, by kernel_rfl, by kernel_rfl, by kernel_rfl⟩

/- clavier/mouse.cells -/
def ir_mousecells_l0 : ICode :=
 (.seq
 (.reg [⟨some 31, none, .bin .lss .none (.t 30) (.t 29)⟩] (some [1, 11, 28, 29, 30, 31]))
 (.seq
 (.cond (.t 31)
 .skip
 (.exit 0))
 (.seq
 (.blk 1
 (.seq
 (.reg [⟨some 32, none, .ia 1 (.t 28) (.t 30)⟩,
 ⟨some 33, none, .ld none (.t 32)⟩,
 ⟨some 14, none, .mov (.t 33)⟩] (some [1, 11, 14, 28, 29, 30]))
 (.reg [⟨some 34, none, .mov (.t 11)⟩,
 ⟨some 35, none, .mov (.t 1)⟩,
 ⟨some 36, none, .mov (.t 14)⟩,
 ⟨some 37, none, .bin .add .none (.t 36) (.c (.int .i64 32))⟩,
 ⟨some 38, none, .call (.t 35) [(.t 37)]⟩,
 ⟨some 39, none, .app 5 1 1 (.t 34) (.t 38)⟩,
 ⟨some 11, none, .mov (.t 39)⟩] (some [1, 11, 28, 29, 30]))))
 (.reg [⟨some 40, none, .bin .add .none (.t 30) (.c (.int .i64 1))⟩,
 ⟨some 30, none, .mov (.t 40)⟩] (some [1, 11, 28, 29, 30])))))
def ir_mousecells : ICode :=
 (.seq
 (.reg [⟨some 10, none, .mov (.c .nils)⟩] (some [0, 1, 2, 3, 4]))
 (.seq
 (.seq
 (.reg [⟨some 15, none, .mov (.t 3)⟩,
 ⟨some 16, none, .mov (.t 4)⟩,
 ⟨some 17, none, .mm false (.t 15) (.t 16)⟩,
 ⟨some 18, none, .mov (.t 0)⟩,
 ⟨some 19, none, .bin .gtr .none (.t 17) (.t 18)⟩] (some [1, 2, 3, 4, 19]))
 (.cond (.t 19)
 (.seq
 (.reg [⟨some 10, none, .mov (.c .nils)⟩] (some [10]))
 .ret)
 .skip))
 (.seq
 (.reg [⟨some 21, none, .call (.c (.fn (.func 14) [] [])) [(.c (.int .u8 0)), (.c (.int .u8 77)), (.c .nils)]⟩,
 ⟨some 22, none, .call (.c (.fn (.func 13) [] [])) [(.t 21)]⟩,
 ⟨some 20, none, .mov (.t 22)⟩,
 ⟨some 23, none, .ext (.t 20) 0⟩,
 ⟨some 24, none, .ext (.t 20) 1⟩,
 ⟨some 11, none, .mov (.t 23)⟩,
 ⟨some 12, none, .mov (.t 24)⟩] (some [1, 2, 3, 4, 11]))
 (.seq
 (.seq
 (.reg [⟨some 25, none, .mov (.t 2)⟩,
 ⟨some 26, none, .mov (.t 3)⟩,
 ⟨some 27, none, .mov (.t 4)⟩,
 ⟨some 28, none, .row 3 1 [(.t 25), (.t 26), (.t 27)]⟩,
 ⟨some 29, none, .len (.t 28)⟩,
 ⟨some 30, none, .mov (.c (.int .i64 0))⟩] (some [1, 11, 28, 29, 30]))
 (.blk 0
 (.loop
 ir_mousecells_l0)))
 (.seq
 (.reg [⟨some 41, none, .mov (.t 11)⟩,
 ⟨some 10, none, .mov (.t 41)⟩] (some [10]))
 .ret)))))
theorem is_mousecells : IrOf Tryz.prog 17 42 ir_mousecells [.t 10] := ⟨_, Tryz.func17, rfl, by kernel_rfl, by kernel_rfl, by kernel_rfl⟩

theorem fs_glueT {Gl : Gh → Prop} (hst : Stays Gl) {xs : List (List UInt8)} {t : Option Nm} (hN : xs.length ≤ 100) (hl : xs.flatten.length ≤ 1000000) : FS Tryz.prog Gl 34 [.sl t 1 (strsAV xs)] [] [] (.sl (some (0, 0, 0)) 1 (bytesAV (27 :: xs.flatten))) [] [(0, 0, 0)] := by
  refine FS.of hm hst is_wireglue (by simp) fun γ hγ hfr => ?_
  have c1 := fs_Join (Gl := Gl) (xs := xs) (sep := []) (t := t) (by omega) (by rw [join_flat]; omega)
  rw [join_flat] at c1
  (generalize hQ : (fun (ex : Ex) (_ _ : Nat) (s : St) => _) = Q; unfold ir_wireglue)
  simp +contextual (maxSteps := 1000000) only [go_sem, reduceCtorEq, ↓reduceIte, Nat.reduceAdd, Nat.reduceEqDiff, Nat.reduceLeDiff, Nat.reduceMul, Nat.reduceBEq, Int.reduceBEq, Int.reduceBNe, Int.reduceLT, Int.reduceLE, Int.reduceGT, Int.reduceGE, Int.reduceToNat]
  (refine CallP.pure (c1) (fun _ => rfl) ?_; simp +contextual (maxSteps := 1000000) only [go_sem, reduceCtorEq, ↓reduceIte, Nat.reduceAdd, Nat.reduceEqDiff, Nat.reduceLeDiff, Nat.reduceMul, Nat.reduceBEq, Int.reduceBEq, Int.reduceBNe, Int.reduceLT, Int.reduceLE, Int.reduceGT, Int.reduceGE, Int.reduceToNat])
  refine ⟨⟨.inl trivial, by omega⟩, ?_⟩
  rw [← hQ]
  exact ⟨trivial, [(γ, 4, 0)], by simp, by simp, rfl, by simp [rnH], by simp [rnN], by simp [AV.okIn, nmOK], by simp, by simp [nmOK]⟩
theorem fs_wPutT {Gl : Gh → Prop} (hst : Stays Gl) : FS Tryz.prog Gl 13 [.agg [.int .i64 1, .int .u8 0, .sl none 1 (parsAV []), .str [], .int .u8 77, .str []]] [] [] (.tup [.sl (some (0, 0, 0)) 1 (bytesAV [27, 91, 77]), .int .i64 0]) [] [(0, 0, 0)] := by
  refine FS.of hm hst is_wirePut (by simp) fun γ hγ hfr => ?_
  have c1 := fs_May (Gl := Gl) hst (s := ⟨1, 0, [], [], 77, []⟩) (by simp) (by simp) (by simp) (by simp) (by simp) (by simp)
  rw [show mayP ⟨1, 0, [], [], 77, []⟩ = 0 by decide +kernel] at c1
  have hcc : Sq.c ⟨1, 0, [], [], 77, []⟩ = [.int .i64 1, .int .u8 0, .sl none 1 (parsAV []), .str [], .int .u8 77, .str []] := rfl
  have c2 := fs_body (Gl := Gl) hst (k := 1) (ps := []) (it := []) (da := []) (pr := 0) (fi := 77) (by simp) (by simp) (by simp)
  rw [show prB (((0 : UInt8).toNat : Nat) : Int) ++ (parsText [] ++ [] ++ [(77 : UInt8)]) = [77] by decide] at c2
  have hcc2 : Sq.c ⟨1, (((0 : UInt8).toNat : Nat) : Int), [], [], (((77 : UInt8).toNat : Nat) : Int), []⟩ = [.int .i64 1, .int .u8 0, .sl none 1 (parsAV []), .str [], .int .u8 77, .str []] := rfl
  rw [hcc] at c1
  rw [hcc2] at c2
  have c3 := fun t : Option Nm => fs_glueT (Gl := Gl) hst (xs := [[91], [77]]) (t := t) (by simp) (by simp)
  have hs : strsAV [[91], [77]] = [[.str [91]], [.str [77]]] := rfl
  rw [hs] at c3
  (generalize hQ : (fun (ex : Ex) (_ _ : Nat) (s : St) => _) = Q; unfold ir_wirePut)
  simp +contextual (maxSteps := 1000000) only [go_sem, reduceCtorEq, ↓reduceIte, Nat.reduceAdd, Nat.reduceEqDiff, Nat.reduceLeDiff, Nat.reduceMul, Nat.reduceBEq, Int.reduceBEq, Int.reduceBNe, Int.reduceLT, Int.reduceLE, Int.reduceGT, Int.reduceGE, Int.reduceToNat]
  (refine CallP.pure (c1) (fun _ => rfl) ?_; simp +contextual (maxSteps := 1000000) only [go_sem, reduceCtorEq, ↓reduceIte, Nat.reduceAdd, Nat.reduceEqDiff, Nat.reduceLeDiff, Nat.reduceMul, Nat.reduceBEq, Int.reduceBEq, Int.reduceBNe, Int.reduceLT, Int.reduceLE, Int.reduceGT, Int.reduceGE, Int.reduceToNat])
  (refine CallP.pure (c2) (fun _ => rfl) ?_; simp +contextual (maxSteps := 1000000) only [go_sem, reduceCtorEq, ↓reduceIte, Nat.reduceAdd, Nat.reduceEqDiff, Nat.reduceLeDiff, Nat.reduceMul, Nat.reduceBEq, Int.reduceBEq, Int.reduceBNe, Int.reduceLT, Int.reduceLE, Int.reduceGT, Int.reduceGE, Int.reduceToNat])
  refine CallP.of (c3 _) (by simp) (by simp) ?_
  simp only [rnH, rnN, Ab.rn]
  simp +contextual (maxSteps := 1000000) only [go_sem, reduceCtorEq, ↓reduceIte, Nat.reduceAdd, Nat.reduceEqDiff, Nat.reduceLeDiff, Nat.reduceMul, Nat.reduceBEq, Int.reduceBEq, Int.reduceBNe, Int.reduceLT, Int.reduceLE, Int.reduceGT, Int.reduceGE, Int.reduceToNat]
  rw [← hQ]
  exact ⟨trivial, [(γ, 15, 0)], by simp, by simp, rfl, by simp [rnH], by simp [rnN], by simp [AV.okIn, AV.okInL, nmOK], by simp, by simp [nmOK]⟩
theorem fs_mOne {Gl : Gh → Prop} (hst : Stays Gl) {n : Int} : FS Tryz.prog Gl 19 [.int .i64 n] [] [] (.sl none 1 (bytesAV [byteM n])) [] [] := by
  refine FS.ofW hm hst is_mouseone rfl (by simp) fun γ hγ hfr => ?_
  have hrow : [[AV.int IntKind.u8 (IntKind.u8.wrap n)]] = bytesAV [byteM n] := by
    have : ((byteM n).toNat : Int) = IntKind.u8.wrap n := by
      unfold byteM
      rw [IntKind.wrap_u8, UInt8.toNat_ofNat', Nat.mod_eq_of_lt (by omega)]; omega
    simp only [bytesAV, List.map_cons, List.map_nil, this]
  (generalize hQ : (fun (ex : Ex) (_ _ : Nat) (s : St) => _) = Q; unfold ir_mouseone)
  simp +contextual (maxSteps := 1000000) only [go_sem, reduceCtorEq, ↓reduceIte, Nat.reduceAdd, Nat.reduceEqDiff, Nat.reduceLeDiff, Nat.reduceMul, Nat.reduceBEq, Int.reduceBEq, Int.reduceBNe, Int.reduceLT, Int.reduceLE, Int.reduceGT, Int.reduceGE, Int.reduceToNat]
  rw [← hQ]
  exact ⟨trivial, .inl ⟨_, rfl, RepLe.anon' hrow⟩⟩
def cellsMo (p : Int → List UInt8) (most code x y : Int) : List UInt8 := if max x y > most then [] else [27, 91, 77] ++ ([code + 32, x + 32, y + 32] : List Int).flatMap p
set_option maxHeartbeats 2000000 in
theorem fs_cells {Gl : Gh → Prop} (hst : Stays Gl) {k : Nat} {p : Int → List UInt8} (hk : ∀ n, FS Tryz.prog Gl k [.int .i64 n] [] [] (.sl none 1 (bytesAV (p n))) [] []) (hp : ∀ n, (p n).length ≤ 4) {most code x y : Int}
    (hc : 0 ≤ code ∧ code ≤ 1000) (hx : 0 ≤ x ∧ x ≤ 70000) (hy : 0 ≤ y ∧ y ≤ 70000) : FS Tryz.prog Gl 17 [.int .i64 most, .fn (.func k) [] [], .int .i64 code, .int .i64 x, .int .i64 y] [] [] (.sl none 1 (bytesAV (cellsMo p most code x y))) [] [] := by
  refine FS.ofW hm hst is_mousecells rfl (by simp) fun γ hγ hfr => ?_
  have hz : cellsMo p most code x y = if max x y > most then [] else [27, 91, 77] ++ ([code + 32, x + 32, y + 32] : List Int).flatMap p := rfl
  have hmx : (if y > x then y else x) = max x y := by split <;> omega
  have c1 : FS Tryz.prog Gl 14 [.int .u8 0, .int .u8 77, .nils] [] [] (.agg [.int .i64 1, .int .u8 0, .sl none 1 (parsAV []), .str [], .int .u8 77, .str []]) [] [] := (fs_Num (Gl := Gl) hst (pr := 0) (fi := 77) (nums := []) (tn := none) (by simp)).args ⟨.refl _, .refl _, .nils 1, trivial⟩
  have c2 := fs_wPutT (Gl := Gl) hst
  have hns : [code + 32, x + 32, y + 32] = ([code, x, y] : List Int).map (· + 32) := rfl
  obtain ⟨ns, hns2⟩ : ∃ ns : List Int, ns = [code, x, y] := ⟨_, rfl⟩
  have hnl : ns.length = 3 := by rw [hns2]; rfl
  have hnb : ∀ n ∈ ns, 0 ≤ n ∧ n ≤ 70000 := by rw [hns2]; simp; omega
  have hrow : [[AV.int IntKind.i64 code], [AV.int IntKind.i64 x], [AV.int IntKind.i64 y]] = intsAV ns := by rw [hns2]; rfl
  rw [hns, ← hns2] at hz
  (generalize hQ : (fun (ex : Ex) (_ _ : Nat) (s : St) => _) = Q; unfold ir_mousecells)
  by_cases hm' : max x y > most
  · have q : decide (max x y > most) = true := decide_eq_true hm'
    simp +contextual (maxSteps := 1000000) only [hmx, q, go_sem, reduceCtorEq, ↓reduceIte, Nat.reduceAdd, Nat.reduceEqDiff, Nat.reduceLeDiff, Nat.reduceMul, Nat.reduceBEq, Int.reduceBEq, Int.reduceBNe, Int.reduceLT, Int.reduceLE, Int.reduceGT, Int.reduceGE, Int.reduceToNat]
    rw [← hQ, hz, if_pos hm']
    exact ⟨trivial, .inl ⟨_, rfl, RepLe.nils 1⟩⟩
  · have q : decide (max x y > most) = false := decide_eq_false hm'
    rw [if_neg hm'] at hz
    simp +contextual (maxSteps := 1000000) only [hmx, q, go_sem, reduceCtorEq, ↓reduceIte, Nat.reduceAdd, Nat.reduceEqDiff, Nat.reduceLeDiff, Nat.reduceMul, Nat.reduceBEq, Int.reduceBEq, Int.reduceBNe, Int.reduceLT, Int.reduceLE, Int.reduceGT, Int.reduceGE, Int.reduceToNat]
    (refine CallP.pure (c1) (fun _ => rfl) ?_; simp +contextual (maxSteps := 1000000) only [go_sem, reduceCtorEq, ↓reduceIte, Nat.reduceAdd, Nat.reduceEqDiff, Nat.reduceLeDiff, Nat.reduceMul, Nat.reduceBEq, Int.reduceBEq, Int.reduceBNe, Int.reduceLT, Int.reduceLE, Int.reduceGT, Int.reduceGE, Int.reduceToNat])
    refine CallP.of c2 (by simp) (by simp) ?_
    simp only [rnH, rnN, Ab.rn, rnL]
    simp +contextual (maxSteps := 1000000) only [go_sem, reduceCtorEq, ↓reduceIte, Nat.reduceAdd, Nat.reduceEqDiff, Nat.reduceLeDiff, Nat.reduceMul, Nat.reduceBEq, Int.reduceBEq, Int.reduceBNe, Int.reduceLT, Int.reduceLE, Int.reduceGT, Int.reduceGE, Int.reduceToNat]
    rw [hrow]
    have hl3 : (3 : Int) = (ns.length : Int) := by rw [hnl]; rfl
    have hpre : ∀ i : Nat, i ≤ 3 → ((((ns.take i).map (· + 32)).flatMap p).length : Int) ≤ 4 * i := by
      intro i
      induction i with
      | zero => intro _; simp
      | succ i ih =>
        intro hi
        have := ih (by omega)
        have hp' := hp (ns[i] + 32)
        rw [List.take_add_one, List.getElem?_eq_getElem (by omega), List.map_append, List.flatMap_append, List.length_append]
        simp only [Option.toList_some, List.map_cons, List.map_nil, List.flatMap_cons, List.flatMap_nil, List.append_nil]
        omega
    refine kLoop_ix (fun q : Nat × Nm => ⟨lf [(1, .fn (.func k) [] []), (11, .sl (some q.2) 1 (bytesAV ([27, 91, 77] ++ ((ns.take q.1).map (· + 32)).flatMap p))), (28, .sl none 1 (intsAV ns)), (29, .int .i64 3), (30, .int .i64 q.1)], [], fun s => s = q.2⟩) (fun q => q.1 ≤ 3) (fun q => 3 - q.1) 0 (0, (γ, 7, 0)) (Wk.perm' ?_ (fun _ h => h) (fun t ht => by simp only at ht; subst ht; exact .inr (.inl rfl))) (by simp) ?_
    · simp only [lfOK]
      refine ⟨AVle.refl _ _, AVle.refl _ _, AVle.le (RepLe.anon _ _ _), AVle.refl _ _, AVle.refl _ _, trivial⟩
    rintro γ' ⟨i, tk⟩ hf hi
    simp only at hi hf
    generalize hQ' : kIt _ _ _ _ _ = Q'
    unfold ir_mousecells_l0
    by_cases hlt : i < 3
    · have hd : decide ((i : Int) < 3) = true := decide_eq_true (by omega)
      have hg : (intsAV ns).getD i [] = [.int .i64 (ns[i]'(by omega))] := intsAV_get (by omega)
      have hw : IntKind.i64.wrap ((i : Int) + 1) = ((i + 1 : Nat) : Int) := by rw [IntKind.wrap_i64]; omega
      have hb := hnb (ns[i]'(by omega)) (List.getElem_mem _)
      have hw2 : IntKind.i64.wrap ((ns[i]'(by omega)) + 32) = (ns[i]'(by omega)) + 32 := by rw [IntKind.wrap_i64]; omega
      have hpi := hpre i (by omega)
      have hpn := hp ((ns[i]'(by omega)) + 32)
      have hnx : ((ns.take (i + 1)).map (· + 32)).flatMap p = ((ns.take i).map (· + 32)).flatMap p ++ p ((ns[i]'(by omega)) + 32) := by
        rw [List.take_add_one, List.getElem?_eq_getElem (by omega), List.map_append, List.flatMap_append]
        simp
      simp +contextual (maxSteps := 1000000) only [hd, hg, Int.toNat_natCast, intsAV_length, hnl, hw2, go_sem, reduceCtorEq, ↓reduceIte, Nat.reduceAdd, Nat.reduceEqDiff, Nat.reduceLeDiff, Nat.reduceMul, Nat.reduceBEq, Int.reduceBEq, Int.reduceBNe, Int.reduceLT, Int.reduceLE, Int.reduceGT, Int.reduceGE, Int.reduceToNat]
      refine ⟨by omega, ?_⟩
      (refine CallP.pure (hk _) (fun _ => rfl) ?_; simp +contextual (maxSteps := 1000000) only [bytesAV_length', List.length_append, go_sem, reduceCtorEq, ↓reduceIte, Nat.reduceAdd, Nat.reduceEqDiff, Nat.reduceLeDiff, Nat.reduceMul, Nat.reduceBEq, Int.reduceBEq, Int.reduceBNe, Int.reduceLT, Int.reduceLE, Int.reduceGT, Int.reduceGE, Int.reduceToNat])
      refine ⟨by omega, ?_⟩
      rw [← hQ']
      simp only [w_kIt_n]
      refine ⟨0, (i + 1, (γ', 9, 0)), Wk.perm' ?_ (fun _ h => h) (fun t ht => .inl ht), by simp only; omega, by simp only; omega⟩
      have e : bytesAV (27 :: 91 :: 77 :: ((ns.take i).map (· + 32)).flatMap p) ++ bytesAV (p ((ns[i]'(by omega)) + 32)) = bytesAV ([27, 91, 77] ++ ((ns.take (i + 1)).map (· + 32)).flatMap p) := by
        rw [hnx]; simp [bytesAV]
      simp only [lfOK, lf_cons, ↓reduceIte, Nat.reduceEqDiff]
      refine ⟨AVle.refl _ _, ?_, AVle.refl _ _, AVle.refl _ _, AVle.int hw, trivial⟩
      rw [e]
      exact AVle.refl _ _
    · have hd : decide ((i : Int) < 3) = false := decide_eq_false (by omega)
      obtain rfl : i = 3 := by omega
      simp +contextual (maxSteps := 1000000) only [hd, go_sem, reduceCtorEq, ↓reduceIte, Nat.reduceAdd, Nat.reduceEqDiff, Nat.reduceLeDiff, Nat.reduceMul, Nat.reduceBEq, Int.reduceBEq, Int.reduceBNe, Int.reduceLT, Int.reduceLE, Int.reduceGT, Int.reduceGE, Int.reduceToNat]
      rw [← hQ']
      simp only [w_kIt_e, w_kBlk_e, ↓reduceIte]
      simp +contextual (maxSteps := 1000000) only [go_sem, reduceCtorEq, ↓reduceIte, Nat.reduceAdd, Nat.reduceEqDiff, Nat.reduceLeDiff, Nat.reduceMul, Nat.reduceBEq, Int.reduceBEq, Int.reduceBNe, Int.reduceLT, Int.reduceLE, Int.reduceGT, Int.reduceGE, Int.reduceToNat]
      have : ns.take 3 = ns := List.take_of_length_le (by omega)
      rw [← hQ, hz, this]
      exact ⟨trivial, .inl ⟨_, rfl, RepLe.anon _ _ _⟩⟩
end Go.Proofs.YtfnngjnfajnpaaaGreatDoor

namespace Go.Proofs.YtfnngjnfajnpaaaGreatDoor
open Go Go.Ab

def stripM (e : Mo) : Mo := { e with mods := e.mods % 8 }
theorem strip_eq {e f : Mo} : stripM e = stripM f ↔ e.button = f.button ∧ e.type = f.type ∧ e.x = f.x ∧ e.y = f.y ∧ e.mods % 8 = f.mods % 8 := by
  unfold stripM
  simp only [Mo.mk.injEq]
theorem enc_exact {mode : Int} {e : Mo} (M : MayM e) : encM mode 1006 e = putB (exactQ mode e) := by
  unfold encM; rw [mayM_iff.2 M]; rfl
theorem back_iff {e f : Mo} (M : MayM e) (N : MayM f) : encM 1003 1006 e = encM 1003 1006 f ↔ stripM e = stripM f := by
  rw [enc_exact M, enc_exact N, strip_eq]
  constructor
  · intro h
    have := putB_inj (exact_may M) (exact_may N) h
    simp only [exactQ, numSq, Sq.mk.injEq, List.map_cons, List.map_nil, List.cons.injEq, and_true, true_and] at this
    obtain ⟨⟨a, b, c⟩, d⟩ := this
    have h3 : e.type = 3 ↔ f.type = 3 := by
      by_cases p : e.type = 3 <;> by_cases q : f.type = 3
      · simp [p, q]
      · rw [if_pos p, if_neg q] at d; omega
      · rw [if_neg p, if_pos q] at d; omega
      · simp [p, q]
    obtain ⟨x, y, z⟩ := code_inj M N h3 a
    exact ⟨x, y, b, c, z⟩
  · rintro ⟨a, b, c, d, z⟩
    unfold exactQ
    rw [(code_range M).1, (code_range N).1]
    unfold marksM
    rw [a, b, c, d, z]
end Go.Proofs.YtfnngjnfajnpaaaGreatDoor

namespace Go.Proofs.YtfnngjnfajnpaaaGreatDoor
open Go Go.Ab
def ir_mouseEncode1 : ICode :=
 (.seq
 (.reg [⟨some 3, none, .mov (.c .nils)⟩] (some [0, 1, 2]))
 (.seq
 (.reg [⟨some 7, none, .ld none (.t 0)⟩,
 ⟨some 8, none, .ld none (.t 1)⟩,
 ⟨some 9, none, .fa 2 (.t 2)⟩,
 ⟨some 10, none, .ld none (.t 9)⟩,
 ⟨some 11, none, .fa 3 (.t 2)⟩,
 ⟨some 12, none, .ld none (.t 11)⟩,
 ⟨some 13, none, .row 3 1 [(.t 8), (.t 10), (.t 12)]⟩,
 ⟨some 14, none, .call (.c (.fn (.func 14) [] [])) [(.c (.int .u8 60)), (.t 7), (.t 13)]⟩,
 ⟨some 15, none, .call (.c (.fn (.func 13) [] [])) [(.t 14)]⟩,
 ⟨some 6, none, .mov (.t 15)⟩,
 ⟨some 16, none, .ext (.t 6) 0⟩,
 ⟨some 17, none, .ext (.t 6) 1⟩,
 ⟨some 4, none, .mov (.t 16)⟩,
 ⟨some 5, none, .mov (.t 17)⟩] (some [4]))
 (.seq
 (.reg [⟨some 18, none, .mov (.t 4)⟩,
 ⟨some 3, none, .mov (.t 18)⟩] (some [3]))
 .ret)))
theorem is_mouseEncode1 : IrOf Tryz.prog 12 19 ir_mouseEncode1 [.t 3] := ⟨_, Tryz.func12, rfl, by kernel_rfl, by kernel_rfl, by kernel_rfl⟩

def ir_mouseEncode2 : ICode :=
 (.seq
 (.reg [⟨some 2, none, .mov (.c .nils)⟩] (some [0, 1]))
 (.seq
 (.reg [⟨some 6, none, .ld none (.t 0)⟩,
 ⟨some 7, none, .bin .add .none (.t 6) (.c (.int .i64 32))⟩,
 ⟨some 8, none, .fa 2 (.t 1)⟩,
 ⟨some 9, none, .ld none (.t 8)⟩,
 ⟨some 10, none, .fa 3 (.t 1)⟩,
 ⟨some 11, none, .ld none (.t 10)⟩,
 ⟨some 12, none, .row 3 1 [(.t 7), (.t 9), (.t 11)]⟩,
 ⟨some 13, none, .call (.c (.fn (.func 14) [] [])) [(.c (.int .u8 0)), (.c (.int .u8 77)), (.t 12)]⟩,
 ⟨some 14, none, .call (.c (.fn (.func 13) [] [])) [(.t 13)]⟩,
 ⟨some 5, none, .mov (.t 14)⟩,
 ⟨some 15, none, .ext (.t 5) 0⟩,
 ⟨some 16, none, .ext (.t 5) 1⟩,
 ⟨some 3, none, .mov (.t 15)⟩,
 ⟨some 4, none, .mov (.t 16)⟩] (some [3]))
 (.seq
 (.reg [⟨some 17, none, .mov (.t 3)⟩,
 ⟨some 2, none, .mov (.t 17)⟩] (some [2]))
 .ret)))
theorem is_mouseEncode2 : IrOf Tryz.prog 15 18 ir_mouseEncode2 [.t 2] := ⟨_, Tryz.func15, rfl, by kernel_rfl, by kernel_rfl, by kernel_rfl⟩

def ir_mouseEncode3 : ICode :=
 (.seq
 (.reg [⟨some 2, none, .mov (.c .nils)⟩] (some [0, 1]))
 (.seq
 (.reg [⟨some 3, none, .ld none (.t 0)⟩,
 ⟨some 4, none, .fa 2 (.t 1)⟩,
 ⟨some 5, none, .ld none (.t 4)⟩,
 ⟨some 6, none, .fa 3 (.t 1)⟩,
 ⟨some 7, none, .ld none (.t 6)⟩,
 ⟨some 8, none, .call (.c (.fn (.func 17) [] [])) [(.c (.int .i64 2015)), (.c (.fn (.func 18) [] [])), (.t 3), (.t 5), (.t 7)]⟩,
 ⟨some 2, none, .mov (.t 8)⟩] (some [2]))
 .ret))
theorem is_mouseEncode3 : IrOf Tryz.prog 16 9 ir_mouseEncode3 [.t 2] := ⟨_, Tryz.func16, rfl, by kernel_rfl, by kernel_rfl, by kernel_rfl⟩

def ir_mouseEncode : ICode :=
 (.seq
 (.reg [⟨some 5, none, .box 23 (.t 2)⟩,
 ⟨some 6, none, .mov (.c .nils)⟩] (some [0, 1, 5]))
 (.seq
 (.seq
 (.reg [⟨some 12, none, .ld (some 5) (.t 5)⟩,
 ⟨some 13, none, .call (.c (.fn (.func 10) [] [])) [(.t 12)]⟩,
 ⟨some 14, none, .un .not (.t 13)⟩] (some [0, 1, 5, 14]))
 (.cond (.t 14)
 (.seq
 (.reg [⟨some 6, none, .mov (.c .nils)⟩] (some [6]))
 .ret)
 .skip))
 (.seq
 (.reg [⟨some 15, none, .mov (.t 0)⟩,
 ⟨some 16, none, .ld (some 5) (.t 5)⟩,
 ⟨some 17, none, .call (.c (.fn (.func 7) [] [])) [(.t 15), (.t 16)]⟩,
 ⟨some 7, none, .box 3 (.c (.int .i64 0))⟩,
 ⟨none, none, .st 1 (.t 7) (.t 17)⟩] (some [0, 1, 5, 7]))
 (.seq
 (.reg [⟨some 8, none, .box 5 (.c (.int .u8 0))⟩,
 ⟨none, none, .st 1 (.t 8) (.c (.int .u8 77))⟩] (some [0, 1, 5, 7, 8]))
 (.seq
 (.reg [⟨some 18, none, .ld none (.t 7)⟩,
 ⟨some 9, none, .box 3 (.c (.int .i64 0))⟩,
 ⟨none, none, .st 1 (.t 9) (.t 18)⟩] (some [0, 1, 5, 7, 8, 9]))
 (.seq
 (.seq
 (.reg [⟨some 19, none, .fa 1 (.t 5)⟩,
 ⟨some 20, none, .ld none (.t 19)⟩,
 ⟨some 21, none, .bin .eql .none (.t 20) (.c (.int .i64 3))⟩] (some [0, 1, 5, 7, 8, 9, 21]))
 (.cond (.t 21)
 (.seq
 (.reg [⟨none, none, .st 1 (.t 8) (.c (.int .u8 109))⟩] (some [0, 1, 5, 7, 8, 9]))
 (.reg [⟨some 22, none, .mov (.t 0)⟩,
 ⟨some 23, none, .ld (some 5) (.t 5)⟩,
 ⟨some 24, none, .call (.c (.fn (.func 11) [] [])) [(.t 22), (.t 23)]⟩,
 ⟨some 25, none, .bin .add .none (.c (.int .i64 3)) (.t 24)⟩,
 ⟨none, none, .st 1 (.t 9) (.t 25)⟩] (some [1, 5, 7, 8, 9])))
 .skip))
 (.seq
 (.reg [⟨some 26, none, .mkm⟩,
 ⟨some 27, none, .mkf (.func 12) [] [(.t 8), (.t 7), (.t 5)]⟩,
 ⟨none, none, .ins .int (.t 26) (.c (.int .i64 1006)) (.t 27)⟩,
 ⟨some 28, none, .mkf (.func 15) [] [(.t 9), (.t 5)]⟩,
 ⟨none, none, .ins .int (.t 26) (.c (.int .i64 1015)) (.t 28)⟩,
 ⟨some 29, none, .mkf (.func 16) [] [(.t 9), (.t 5)]⟩,
 ⟨none, none, .ins .int (.t 26) (.c (.int .i64 1005)) (.t 29)⟩,
 ⟨some 30, none, .mov (.t 26)⟩,
 ⟨some 10, none, .mov (.t 30)⟩] (some [1, 5, 9, 10]))
 (.seq
 (.seq
 (.reg [⟨some 31, none, .mov (.t 10)⟩,
 ⟨some 32, none, .mov (.t 1)⟩,
 ⟨some 33, none, .lkp .int .nilf false (.t 31) (.t 32)⟩,
 ⟨some 11, none, .mov (.t 33)⟩] (some [5, 9, 11]))
 (.seq
 (.reg [⟨some 34, none, .mov (.t 11)⟩,
 ⟨some 35, none, .bin .neq .func (.t 34) (.c .nilf)⟩] (some [5, 9, 11, 35]))
 (.cond (.t 35)
 (.seq
 (.reg [⟨some 36, none, .mov (.t 11)⟩,
 ⟨some 37, none, .call (.t 36) []⟩,
 ⟨some 6, none, .mov (.t 37)⟩] (some [6]))
 .ret)
 .skip)))
 (.seq
 (.reg [⟨some 38, none, .ld none (.t 9)⟩,
 ⟨some 39, none, .fa 2 (.t 5)⟩,
 ⟨some 40, none, .ld none (.t 39)⟩,
 ⟨some 41, none, .fa 3 (.t 5)⟩,
 ⟨some 42, none, .ld none (.t 41)⟩,
 ⟨some 43, none, .call (.c (.fn (.func 17) [] [])) [(.c (.int .i64 223)), (.c (.fn (.func 19) [] [])), (.t 38), (.t 40), (.t 42)]⟩,
 ⟨some 6, none, .mov (.t 43)⟩] (some [6]))
 .ret)))))))))
theorem is_mouseEncode : IrOf Tryz.prog 5 44 ir_mouseEncode [.t 6] := ⟨_, Tryz.func5, rfl, by kernel_rfl, by kernel_rfl, by kernel_rfl⟩

theorem fs_NumM {Gl : Gh → Prop} (hst : Stays Gl) {pr fi a b c : Int} {t : Option Nm} : FS Tryz.prog Gl 14 [.int .u8 pr, .int .u8 fi, .sl t 1 [[.int .i64 a], [.int .i64 b], [.int .i64 c]]] [] [] (.agg (numSq 1 pr fi [a, b, c]).c) [] [] := fs_Num (nums := [a, b, c]) hst (by simp)
theorem fs_wPutM {Gl : Gh → Prop} (hst : Stays Gl) {pr fi a b c : Int} (hpr : pr = 0 ∨ pr = 60) (hfi : fi = 77 ∨ fi = 109) (h : mayP (numSq 1 pr fi [a, b, c]) = 0) : FS Tryz.prog Gl 13 [.agg (numSq 1 pr fi [a, b, c]).c] [] [] (.tup [.sl none 1 (bytesAV (putB (numSq 1 pr fi [a, b, c]))), .int .i64 0]) [] [] := by
  have := fs_wPut (Gl := Gl) hst (s := numSq 1 pr fi [a, b, c]) (by simp only [numSq]; omega) (by simp only [numSq]; omega) (by simp only [numSq]; omega) (by simp only [numSq]; omega) ⟨by simp [numSq], by simp [numSq], by simp [numSq], by simp [numSq]⟩
  rw [show putV (numSq 1 pr fi [a, b, c]) = .sl none 1 (bytesAV (putB (numSq 1 pr fi [a, b, c]))) by unfold putV; rw [h]; rfl, h] at this
  exact this
theorem ne3 {a b c : Nm} (hab : a ≠ b) (hac : a ≠ c) (hbc : b ≠ c) : ((a = b) = False ∧ (b = a) = False) ∧ ((a = c) = False ∧ (c = a) = False) ∧ ((b = c) = False ∧ (c = b) = False) :=
  ⟨⟨eq_false hab, eq_false fun e => hab e.symm⟩, ⟨eq_false hac, eq_false fun e => hac e.symm⟩, ⟨eq_false hbc, eq_false fun e => hbc e.symm⟩⟩
theorem fs_enc1 {Gl : Gh → Prop} (hst : Stays Gl) {mode : Int} {e : Mo} (M : MayM e) {a b c : Nm} (ha : 1 ≤ a.1) (hb : 1 ≤ b.1) (hc : 1 ≤ c.1) (hab : a ≠ b) (hac : a ≠ c) (hbc : b ≠ c) :
    FS Tryz.prog Gl 12 [.ptr a 0, .ptr b 0, .ptr c 0] [(a, .cells [.int .u8 (if e.type = 3 then 109 else 77)]), (b, .cells [.int .i64 (codeM mode e)]), (c, .cells (moAV e))] [] (.sl none 1 (bytesAV (putB (exactQ mode e)))) [(a, .cells [.int .u8 (if e.type = 3 then 109 else 77)]), (b, .cells [.int .i64 (codeM mode e)]), (c, .cells (moAV e))] [] := by
  refine FS.of hm hst is_mouseEncode1 (by simp) fun γ hγ hfr => ?_
  have hmo : moAV e = [.int .i64 e.button, .int .i64 e.type, .int .i64 e.x, .int .i64 e.y, .int .i64 e.mods] := rfl
  obtain ⟨⟨n1, n2⟩, ⟨n3, n4⟩, n5, n6⟩ := ne3 hab hac hbc
  have hq : exactQ mode e = numSq 1 60 (if e.type = 3 then 109 else 77) [codeM mode e, e.x, e.y] := rfl
  have hmay := exact_may (mode := mode) M
  have hfi : (if e.type = 3 then (109 : Int) else 77) = 77 ∨ (if e.type = 3 then (109 : Int) else 77) = 109 := by split <;> simp
  have hrd : Rd [(a, .cells [.int .u8 (if e.type = 3 then 109 else 77)]), (b, .cells [.int .i64 (codeM mode e)]), (c, .cells (moAV e))] := Rd.of fun p hp => by
    simp only [List.mem_cons, List.not_mem_nil, or_false] at hp
    rcases hp with rfl | rfl | rfl
    · exact ⟨ha, _, rfl, rfl⟩
    · exact ⟨hb, _, rfl, rfl⟩
    · exact ⟨hc, _, rfl, rfl⟩
  rw [hq] at hmay ⊢
  generalize (if e.type = 3 then (109 : Int) else 77) = fi at *
  have c1 := fun t : Option Nm => fs_NumM (Gl := Gl) hst (pr := 60) (fi := fi) (a := codeM mode e) (b := e.x) (c := e.y) (t := t)
  have c2 := fs_wPutM (Gl := Gl) hst (pr := 60) (.inr rfl) hfi hmay
  (generalize hQ : (fun (ex : Ex) (_ _ : Nat) (s : St) => _) = Q; unfold ir_mouseEncode1)
  simp +contextual (maxSteps := 1000000) only [hmo, n1, n2, n3, n4, n5, n6, go_sem, reduceCtorEq, ↓reduceIte, Nat.reduceAdd, Nat.reduceEqDiff, Nat.reduceLeDiff, Nat.reduceMul, Nat.reduceBEq, Int.reduceBEq, Int.reduceBNe, Int.reduceLT, Int.reduceLE, Int.reduceGT, Int.reduceGE, Int.reduceToNat]
  (refine CallP.pure (c1 _) (fun _ => rfl) ?_; simp +contextual (maxSteps := 1000000) only [go_sem, reduceCtorEq, ↓reduceIte, Nat.reduceAdd, Nat.reduceEqDiff, Nat.reduceLeDiff, Nat.reduceMul, Nat.reduceBEq, Int.reduceBEq, Int.reduceBNe, Int.reduceLT, Int.reduceLE, Int.reduceGT, Int.reduceGE, Int.reduceToNat])
  (refine CallP.pure (c2) (fun _ => rfl) ?_; simp +contextual (maxSteps := 1000000) only [go_sem, reduceCtorEq, ↓reduceIte, Nat.reduceAdd, Nat.reduceEqDiff, Nat.reduceLeDiff, Nat.reduceMul, Nat.reduceBEq, Int.reduceBEq, Int.reduceBNe, Int.reduceLT, Int.reduceLE, Int.reduceGT, Int.reduceGE, Int.reduceToNat])
  rw [← hQ]
  exact ⟨trivial, Ret.reads hrd rfl rfl (by simp [hmo])⟩
theorem fs_enc2 {Gl : Gh → Prop} (hst : Stays Gl) {mode : Int} {e : Mo} (M : MayM e) {a c : Nm} (ha : 1 ≤ a.1) (hc : 1 ≤ c.1) (hac : a ≠ c) :
    FS Tryz.prog Gl 15 [.ptr a 0, .ptr c 0] [(a, .cells [.int .i64 (blindM mode e)]), (c, .cells (moAV e))] [] (.sl none 1 (bytesAV (putB (wordsQ mode e)))) [(a, .cells [.int .i64 (blindM mode e)]), (c, .cells (moAV e))] [] := by
  refine FS.of hm hst is_mouseEncode2 (by simp) fun γ hγ hfr => ?_
  have hmo : moAV e = [.int .i64 e.button, .int .i64 e.type, .int .i64 e.x, .int .i64 e.y, .int .i64 e.mods] := rfl
  have n1 : (a = c) = False := eq_false hac
  have n2 : (c = a) = False := eq_false fun e => hac e.symm
  have hq : wordsQ mode e = numSq 1 0 77 [32 + blindM mode e, e.x, e.y] := rfl
  have hmay := words_may (mode := mode) M
  have hbl := blind_range (mode := mode) M
  have hw : IntKind.i64.wrap (blindM mode e + 32) = 32 + blindM mode e := by rw [IntKind.wrap_i64]; omega
  have hrd : Rd [(a, .cells [.int .i64 (blindM mode e)]), (c, .cells (moAV e))] := Rd.of fun p hp => by
    simp only [List.mem_cons, List.not_mem_nil, or_false] at hp
    rcases hp with rfl | rfl
    · exact ⟨ha, _, rfl, rfl⟩
    · exact ⟨hc, _, rfl, rfl⟩
  rw [hq] at hmay ⊢
  have c1 := fun t : Option Nm => fs_NumM (Gl := Gl) hst (pr := 0) (fi := 77) (a := 32 + blindM mode e) (b := e.x) (c := e.y) (t := t)
  have c2 := fs_wPutM (Gl := Gl) hst (pr := 0) (.inl rfl) (.inl rfl) hmay
  (generalize hQ : (fun (ex : Ex) (_ _ : Nat) (s : St) => _) = Q; unfold ir_mouseEncode2)
  simp +contextual (maxSteps := 1000000) only [hmo, n1, n2, hw, go_sem, reduceCtorEq, ↓reduceIte, Nat.reduceAdd, Nat.reduceEqDiff, Nat.reduceLeDiff, Nat.reduceMul, Nat.reduceBEq, Int.reduceBEq, Int.reduceBNe, Int.reduceLT, Int.reduceLE, Int.reduceGT, Int.reduceGE, Int.reduceToNat]
  (refine CallP.pure (c1 _) (fun _ => rfl) ?_; simp +contextual (maxSteps := 1000000) only [go_sem, reduceCtorEq, ↓reduceIte, Nat.reduceAdd, Nat.reduceEqDiff, Nat.reduceLeDiff, Nat.reduceMul, Nat.reduceBEq, Int.reduceBEq, Int.reduceBNe, Int.reduceLT, Int.reduceLE, Int.reduceGT, Int.reduceGE, Int.reduceToNat])
  (refine CallP.pure (c2) (fun _ => rfl) ?_; simp +contextual (maxSteps := 1000000) only [go_sem, reduceCtorEq, ↓reduceIte, Nat.reduceAdd, Nat.reduceEqDiff, Nat.reduceLeDiff, Nat.reduceMul, Nat.reduceBEq, Int.reduceBEq, Int.reduceBNe, Int.reduceLT, Int.reduceLE, Int.reduceGT, Int.reduceGE, Int.reduceToNat])
  rw [← hQ]
  exact ⟨trivial, Ret.reads hrd rfl rfl (by simp [hmo])⟩
theorem wide_cells {mode : Int} {e : Mo} : cellsMo putU 2015 (blindM mode e) e.x e.y = wideB mode e := by
  unfold cellsMo wideB
  by_cases h : e.x > 2015 ∨ e.y > 2015
  · rw [if_pos h, if_pos (by omega)]
  · rw [if_neg h, if_neg (by omega)]
    simp only [List.flatMap_cons, List.flatMap_nil, List.append_nil]
    rw [Int.add_comm (blindM mode e), Int.add_comm e.x, Int.add_comm e.y]
theorem plain_cells {mode : Int} {e : Mo} : cellsMo (fun n => [byteM n]) 223 (blindM mode e) e.x e.y = plainM mode e := by
  unfold cellsMo plainM
  by_cases h : e.x > 223 ∨ e.y > 223
  · rw [if_pos h, if_pos (by omega)]
  · rw [if_neg h, if_neg (by omega)]
    simp only [List.flatMap_cons, List.flatMap_nil, List.append_nil]
    rw [Int.add_comm (blindM mode e), Int.add_comm e.x, Int.add_comm e.y]
    rfl
theorem fs_enc3 {Gl : Gh → Prop} (hst : Stays Gl) {mode : Int} {e : Mo} (M : MayM e) {a c : Nm} (ha : 1 ≤ a.1) (hc : 1 ≤ c.1) (hac : a ≠ c) :
    FS Tryz.prog Gl 16 [.ptr a 0, .ptr c 0] [(a, .cells [.int .i64 (blindM mode e)]), (c, .cells (moAV e))] [] (.sl none 1 (bytesAV (wideB mode e))) [(a, .cells [.int .i64 (blindM mode e)]), (c, .cells (moAV e))] [] := by
  refine FS.of hm hst is_mouseEncode3 (by simp) fun γ hγ hfr => ?_
  have hmo : moAV e = [.int .i64 e.button, .int .i64 e.type, .int .i64 e.x, .int .i64 e.y, .int .i64 e.mods] := rfl
  have n1 : (a = c) = False := eq_false hac
  have n2 : (c = a) = False := eq_false fun e => hac e.symm
  have hbl := blind_range (mode := mode) M
  have hx0 := M.x0
  have hx1 := M.x1
  have hy0 := M.y0
  have hy1 := M.y1
  have hrd : Rd [(a, .cells [.int .i64 (blindM mode e)]), (c, .cells (moAV e))] := Rd.of fun p hp => by
    simp only [List.mem_cons, List.not_mem_nil, or_false] at hp
    rcases hp with rfl | rfl
    · exact ⟨ha, _, rfl, rfl⟩
    · exact ⟨hc, _, rfl, rfl⟩
  have c1 := fs_cells (Gl := Gl) hst (k := 18) (p := putU) (fun n => fs_putU hst) (fun n => putU_len n) (most := 2015) (code := blindM mode e) (x := e.x) (y := e.y) (by omega) (by omega) (by omega)
  rw [wide_cells] at c1
  (generalize hQ : (fun (ex : Ex) (_ _ : Nat) (s : St) => _) = Q; unfold ir_mouseEncode3)
  simp +contextual (maxSteps := 1000000) only [hmo, n1, n2, go_sem, reduceCtorEq, ↓reduceIte, Nat.reduceAdd, Nat.reduceEqDiff, Nat.reduceLeDiff, Nat.reduceMul, Nat.reduceBEq, Int.reduceBEq, Int.reduceBNe, Int.reduceLT, Int.reduceLE, Int.reduceGT, Int.reduceGE, Int.reduceToNat]
  (refine CallP.pure (c1) (fun _ => rfl) ?_; simp +contextual (maxSteps := 1000000) only [go_sem, reduceCtorEq, ↓reduceIte, Nat.reduceAdd, Nat.reduceEqDiff, Nat.reduceLeDiff, Nat.reduceMul, Nat.reduceBEq, Int.reduceBEq, Int.reduceBNe, Int.reduceLT, Int.reduceLE, Int.reduceGT, Int.reduceGE, Int.reduceToNat])
  rw [← hQ]
  exact ⟨trivial, Ret.reads hrd rfl rfl (by simp [hmo])⟩
set_option maxHeartbeats 8000000 in
theorem fs_Enc {Gl : Gh → Prop} (hst : Stays Gl) {mode coding : Int} {e : Mo} : FS Tryz.prog Gl 5 [.int .i64 mode, .int .i64 coding, .agg (moAV e)] [] [] (.sl none 1 (bytesAV (encM mode coding e))) [] [] := by
  refine FS.ofW hm hst is_mouseEncode rfl (by simp) fun γ hγ hfr => ?_
  have hmo : moAV e = [.int .i64 e.button, .int .i64 e.type, .int .i64 e.x, .int .i64 e.y, .int .i64 e.mods] := rfl
  have hz : encM mode coding e = if mayM e = false then [] else if coding = 1006 then putB (exactQ mode e) else if coding = 1015 then putB (wordsQ mode e) else if coding = 1005 then wideB mode e else plainM mode e := rfl
  have c1 := fs_tMay (Gl := Gl) hst (e := e)
  have c2 := fs_mCode (Gl := Gl) hst (mode := mode) (e := e)
  rw [hmo] at c1 c2
  simp only [hmo]
  (generalize hQ : (fun (ex : Ex) (_ _ : Nat) (s : St) => _) = Q; unfold ir_mouseEncode)
  simp +contextual (maxSteps := 1000000) only [go_sem, reduceCtorEq, ↓reduceIte, Nat.reduceAdd, Nat.reduceEqDiff, Nat.reduceLeDiff, Nat.reduceMul, Nat.reduceBEq, Int.reduceBEq, Int.reduceBNe, Int.reduceLT, Int.reduceLE, Int.reduceGT, Int.reduceGE, Int.reduceToNat]
  (refine CallP.pure (c1) (fun _ => rfl) ?_; simp +contextual (maxSteps := 1000000) only [go_sem, reduceCtorEq, ↓reduceIte, Nat.reduceAdd, Nat.reduceEqDiff, Nat.reduceLeDiff, Nat.reduceMul, Nat.reduceBEq, Int.reduceBEq, Int.reduceBNe, Int.reduceLT, Int.reduceLE, Int.reduceGT, Int.reduceGE, Int.reduceToNat])
  cases hM : mayM e with
  | false =>
    simp +contextual (maxSteps := 1000000) only [hM, go_sem, reduceCtorEq, ↓reduceIte, Nat.reduceAdd, Nat.reduceEqDiff, Nat.reduceLeDiff, Nat.reduceMul, Nat.reduceBEq, Int.reduceBEq, Int.reduceBNe, Int.reduceLT, Int.reduceLE, Int.reduceGT, Int.reduceGE, Int.reduceToNat]
    rw [← hQ, hz, if_pos hM]
    exact ⟨trivial, .inl ⟨_, rfl, RepLe.nils 1⟩⟩
  | true =>
    rw [if_neg (by rw [hM]; simp)] at hz
    have M := mayM_iff.1 hM
    have hbl := blind_range (mode := mode) M
    have hx0 := M.x0
    have hx1 := M.x1
    have hy0 := M.y0
    have hy1 := M.y1
    have c3 := fs_marks (Gl := Gl) hst (mode := mode) (e := e) M.m0 M.m1
    have d1 := fun (a b c : Nm) ha hb hc h1 h2 h3 => fs_enc1 (Gl := Gl) hst (mode := mode) (e := e) M (a := a) (b := b) (c := c) ha hb hc h1 h2 h3
    have d2 := fun (a c : Nm) ha hc h1 => fs_enc2 (Gl := Gl) hst (mode := mode) (e := e) M (a := a) (c := c) ha hc h1
    have d3 := fun (a c : Nm) ha hc h1 => fs_enc3 (Gl := Gl) hst (mode := mode) (e := e) M (a := a) (c := c) ha hc h1
    have d4 := fs_cells (Gl := Gl) hst (k := 19) (p := fun n => [byteM n]) (fun n => fs_mOne hst) (fun n => by simp) (most := 223) (code := blindM mode e) (x := e.x) (y := e.y) (by omega) (by omega) (by omega)
    rw [plain_cells] at d4
    rw [hmo] at c3
    simp only [hmo] at d1 d2 d3
    have fin : ∀ {l : List UInt8} {γ' c' : Nat} {st : St}, st.F 6 = .sl none 1 (bytesAV l) → encM mode coding e = l → Q .ret γ' c' st := by
      intro l γ' c' st h hl
      rw [← hQ, hl]
      exact ⟨trivial, .inl ⟨_, by simp only [resOf, getAll, IRes.get, h], RepLe.refl _⟩⟩
    simp +contextual (maxSteps := 1000000) only [hM, go_sem, reduceCtorEq, ↓reduceIte, Nat.reduceAdd, Nat.reduceEqDiff, Nat.reduceLeDiff, Nat.reduceMul, Nat.reduceBEq, Int.reduceBEq, Int.reduceBNe, Int.reduceLT, Int.reduceLE, Int.reduceGT, Int.reduceGE, Int.reduceToNat]
    (refine CallP.pure (c2) (fun _ => rfl) ?_; simp +contextual (maxSteps := 1000000) only [go_sem, reduceCtorEq, ↓reduceIte, Nat.reduceAdd, Nat.reduceEqDiff, Nat.reduceLeDiff, Nat.reduceMul, Nat.reduceBEq, Int.reduceBEq, Int.reduceBNe, Int.reduceLT, Int.reduceLE, Int.reduceGT, Int.reduceGE, Int.reduceToNat])
    by_cases t3 : e.type = 3
    · have q3 : (e.type == 3) = true := beq_iff_eq.2 t3
      have hb : blindM mode e = 3 + marksM mode e := if_pos t3
      have hw : IntKind.i64.wrap (3 + marksM mode e) = blindM mode e := by rw [hb, IntKind.wrap_i64]; omega
      simp only [if_pos t3] at d1
      simp +contextual (maxSteps := 1000000) only [q3, go_sem, reduceCtorEq, ↓reduceIte, Nat.reduceAdd, Nat.reduceEqDiff, Nat.reduceLeDiff, Nat.reduceMul, Nat.reduceBEq, Int.reduceBEq, Int.reduceBNe, Int.reduceLT, Int.reduceLE, Int.reduceGT, Int.reduceGE, Int.reduceToNat]
      (refine CallP.pure (c3) (fun _ => rfl) ?_; simp +contextual (maxSteps := 1000000) only [hw, go_sem, reduceCtorEq, ↓reduceIte, Nat.reduceAdd, Nat.reduceEqDiff, Nat.reduceLeDiff, Nat.reduceMul, Nat.reduceBEq, Int.reduceBEq, Int.reduceBNe, Int.reduceLT, Int.reduceLE, Int.reduceGT, Int.reduceGE, Int.reduceToNat])
      by_cases e6 : coding = 1006
      · have q6 : (coding == 1006) = true := beq_iff_eq.2 e6
        simp +contextual (maxSteps := 1000000) only [fe_nil', fe_int', isKey_int', q6, go_sem, reduceCtorEq, ↓reduceIte, Nat.reduceAdd, Nat.reduceEqDiff, Nat.reduceLeDiff, Nat.reduceMul, Nat.reduceBEq, Int.reduceBEq, Int.reduceBNe, Int.reduceLT, Int.reduceLE, Int.reduceGT, Int.reduceGE, Int.reduceToNat]
        refine CallP.peek (d1 _ _ _ hγ hγ hγ (by simp) (by simp) (by simp)) (fun _ => rfl) (by simp) fun H' => ?_
        simp +contextual (maxSteps := 1000000) only [go_sem, reduceCtorEq, ↓reduceIte, Nat.reduceAdd, Nat.reduceEqDiff, Nat.reduceLeDiff, Nat.reduceMul, Nat.reduceBEq, Int.reduceBEq, Int.reduceBNe, Int.reduceLT, Int.reduceLE, Int.reduceGT, Int.reduceGE, Int.reduceToNat]
        exact fin rfl (by rw [hz, if_pos e6])
      · have q6 : (coding == 1006) = false := beq_eq_false_iff_ne.2 e6
        by_cases e15 : coding = 1015
        · have q15 : (coding == 1015) = true := beq_iff_eq.2 e15
          simp +contextual (maxSteps := 1000000) only [fe_nil', fe_int', isKey_int', q6, q15, go_sem, reduceCtorEq, ↓reduceIte, Nat.reduceAdd, Nat.reduceEqDiff, Nat.reduceLeDiff, Nat.reduceMul, Nat.reduceBEq, Int.reduceBEq, Int.reduceBNe, Int.reduceLT, Int.reduceLE, Int.reduceGT, Int.reduceGE, Int.reduceToNat]
          refine CallP.peek (d2 _ _ hγ hγ (by simp)) (fun _ => rfl) (by simp) fun H' => ?_
          simp +contextual (maxSteps := 1000000) only [go_sem, reduceCtorEq, ↓reduceIte, Nat.reduceAdd, Nat.reduceEqDiff, Nat.reduceLeDiff, Nat.reduceMul, Nat.reduceBEq, Int.reduceBEq, Int.reduceBNe, Int.reduceLT, Int.reduceLE, Int.reduceGT, Int.reduceGE, Int.reduceToNat]
          exact fin rfl (by rw [hz, if_neg e6, if_pos e15])
        · have q15 : (coding == 1015) = false := beq_eq_false_iff_ne.2 e15
          by_cases e5 : coding = 1005
          · have q5 : (coding == 1005) = true := beq_iff_eq.2 e5
            simp +contextual (maxSteps := 1000000) only [fe_nil', fe_int', isKey_int', q6, q15, q5, go_sem, reduceCtorEq, ↓reduceIte, Nat.reduceAdd, Nat.reduceEqDiff, Nat.reduceLeDiff, Nat.reduceMul, Nat.reduceBEq, Int.reduceBEq, Int.reduceBNe, Int.reduceLT, Int.reduceLE, Int.reduceGT, Int.reduceGE, Int.reduceToNat]
            refine CallP.peek (d3 _ _ hγ hγ (by simp)) (fun _ => rfl) (by simp) fun H' => ?_
            simp +contextual (maxSteps := 1000000) only [go_sem, reduceCtorEq, ↓reduceIte, Nat.reduceAdd, Nat.reduceEqDiff, Nat.reduceLeDiff, Nat.reduceMul, Nat.reduceBEq, Int.reduceBEq, Int.reduceBNe, Int.reduceLT, Int.reduceLE, Int.reduceGT, Int.reduceGE, Int.reduceToNat]
            exact fin rfl (by rw [hz, if_neg e6, if_neg e15, if_pos e5])
          · have q5 : (coding == 1005) = false := beq_eq_false_iff_ne.2 e5
            simp +contextual (maxSteps := 1000000) only [fe_nil', fe_int', isKey_int', q6, q15, q5, go_sem, reduceCtorEq, ↓reduceIte, Nat.reduceAdd, Nat.reduceEqDiff, Nat.reduceLeDiff, Nat.reduceMul, Nat.reduceBEq, Int.reduceBEq, Int.reduceBNe, Int.reduceLT, Int.reduceLE, Int.reduceGT, Int.reduceGE, Int.reduceToNat]
            (refine CallP.pure (d4) (fun _ => rfl) ?_; simp +contextual (maxSteps := 1000000) only [go_sem, reduceCtorEq, ↓reduceIte, Nat.reduceAdd, Nat.reduceEqDiff, Nat.reduceLeDiff, Nat.reduceMul, Nat.reduceBEq, Int.reduceBEq, Int.reduceBNe, Int.reduceLT, Int.reduceLE, Int.reduceGT, Int.reduceGE, Int.reduceToNat])
            exact fin rfl (by rw [hz, if_neg e6, if_neg e15, if_neg e5])
    · have q3 : (e.type == 3) = false := beq_eq_false_iff_ne.2 t3
      have hb : blindM mode e = codeM mode e := if_neg t3
      simp only [if_neg t3] at d1
      rw [hb] at d4
      simp only [hb] at d2 d3
      simp +contextual (maxSteps := 1000000) only [q3, go_sem, reduceCtorEq, ↓reduceIte, Nat.reduceAdd, Nat.reduceEqDiff, Nat.reduceLeDiff, Nat.reduceMul, Nat.reduceBEq, Int.reduceBEq, Int.reduceBNe, Int.reduceLT, Int.reduceLE, Int.reduceGT, Int.reduceGE, Int.reduceToNat]
      by_cases e6 : coding = 1006
      · have q6 : (coding == 1006) = true := beq_iff_eq.2 e6
        simp +contextual (maxSteps := 1000000) only [fe_nil', fe_int', isKey_int', q6, go_sem, reduceCtorEq, ↓reduceIte, Nat.reduceAdd, Nat.reduceEqDiff, Nat.reduceLeDiff, Nat.reduceMul, Nat.reduceBEq, Int.reduceBEq, Int.reduceBNe, Int.reduceLT, Int.reduceLE, Int.reduceGT, Int.reduceGE, Int.reduceToNat]
        refine CallP.peek (d1 _ _ _ hγ hγ hγ (by simp) (by simp) (by simp)) (fun _ => rfl) (by simp) fun H' => ?_
        simp +contextual (maxSteps := 1000000) only [go_sem, reduceCtorEq, ↓reduceIte, Nat.reduceAdd, Nat.reduceEqDiff, Nat.reduceLeDiff, Nat.reduceMul, Nat.reduceBEq, Int.reduceBEq, Int.reduceBNe, Int.reduceLT, Int.reduceLE, Int.reduceGT, Int.reduceGE, Int.reduceToNat]
        exact fin rfl (by rw [hz, if_pos e6])
      · have q6 : (coding == 1006) = false := beq_eq_false_iff_ne.2 e6
        by_cases e15 : coding = 1015
        · have q15 : (coding == 1015) = true := beq_iff_eq.2 e15
          simp +contextual (maxSteps := 1000000) only [fe_nil', fe_int', isKey_int', q6, q15, go_sem, reduceCtorEq, ↓reduceIte, Nat.reduceAdd, Nat.reduceEqDiff, Nat.reduceLeDiff, Nat.reduceMul, Nat.reduceBEq, Int.reduceBEq, Int.reduceBNe, Int.reduceLT, Int.reduceLE, Int.reduceGT, Int.reduceGE, Int.reduceToNat]
          refine CallP.peek (d2 _ _ hγ hγ (by simp)) (fun _ => rfl) (by simp) fun H' => ?_
          simp +contextual (maxSteps := 1000000) only [go_sem, reduceCtorEq, ↓reduceIte, Nat.reduceAdd, Nat.reduceEqDiff, Nat.reduceLeDiff, Nat.reduceMul, Nat.reduceBEq, Int.reduceBEq, Int.reduceBNe, Int.reduceLT, Int.reduceLE, Int.reduceGT, Int.reduceGE, Int.reduceToNat]
          exact fin rfl (by rw [hz, if_neg e6, if_pos e15])
        · have q15 : (coding == 1015) = false := beq_eq_false_iff_ne.2 e15
          by_cases e5 : coding = 1005
          · have q5 : (coding == 1005) = true := beq_iff_eq.2 e5
            simp +contextual (maxSteps := 1000000) only [fe_nil', fe_int', isKey_int', q6, q15, q5, go_sem, reduceCtorEq, ↓reduceIte, Nat.reduceAdd, Nat.reduceEqDiff, Nat.reduceLeDiff, Nat.reduceMul, Nat.reduceBEq, Int.reduceBEq, Int.reduceBNe, Int.reduceLT, Int.reduceLE, Int.reduceGT, Int.reduceGE, Int.reduceToNat]
            refine CallP.peek (d3 _ _ hγ hγ (by simp)) (fun _ => rfl) (by simp) fun H' => ?_
            simp +contextual (maxSteps := 1000000) only [go_sem, reduceCtorEq, ↓reduceIte, Nat.reduceAdd, Nat.reduceEqDiff, Nat.reduceLeDiff, Nat.reduceMul, Nat.reduceBEq, Int.reduceBEq, Int.reduceBNe, Int.reduceLT, Int.reduceLE, Int.reduceGT, Int.reduceGE, Int.reduceToNat]
            exact fin rfl (by rw [hz, if_neg e6, if_neg e15, if_pos e5])
          · have q5 : (coding == 1005) = false := beq_eq_false_iff_ne.2 e5
            simp +contextual (maxSteps := 1000000) only [fe_nil', fe_int', isKey_int', q6, q15, q5, go_sem, reduceCtorEq, ↓reduceIte, Nat.reduceAdd, Nat.reduceEqDiff, Nat.reduceLeDiff, Nat.reduceMul, Nat.reduceBEq, Int.reduceBEq, Int.reduceBNe, Int.reduceLT, Int.reduceLE, Int.reduceGT, Int.reduceGE, Int.reduceToNat]
            (refine CallP.pure (d4) (fun _ => rfl) ?_; simp +contextual (maxSteps := 1000000) only [go_sem, reduceCtorEq, ↓reduceIte, Nat.reduceAdd, Nat.reduceEqDiff, Nat.reduceLeDiff, Nat.reduceMul, Nat.reduceBEq, Int.reduceBEq, Int.reduceBNe, Int.reduceLT, Int.reduceLE, Int.reduceGT, Int.reduceGE, Int.reduceToNat])
            exact fin rfl (by rw [hz, if_neg e6, if_neg e15, if_neg e5])
end Go.Proofs.YtfnngjnfajnpaaaGreatDoor

namespace Go.Proofs.YtfnngjnfajnpaaaGreatDoor
open Go Go.Ab
/- clavier/mouse.like -/
def ir_mouselike_l0 : ICode :=
 (.seq
 (.reg [⟨some 19, none, .bin .lss .none (.t 18) (.c (.int .i64 12))⟩] (some [0, 4, 5, 18, 19]))
 (.seq
 (.cond (.t 19)
 .skip
 (.exit 0))
 (.seq
 (.blk 1
 (.seq
 (.reg [⟨some 20, none, .mov (.t 18)⟩,
 ⟨some 6, none, .mov (.t 20)⟩] (some [0, 4, 5, 6, 18]))
 (.seq
 (.reg [⟨some 21, none, .mov (.t 6)⟩,
 ⟨some 22, none, .call (.c (.fn (.func 24) [] [])) [(.t 21)]⟩,
 ⟨some 23, none, .mov (.t 0)⟩,
 ⟨some 24, none, .bin .andNot .none (.t 23) (.c (.int .i64 60))⟩,
 ⟨some 25, none, .bin .eql .none (.t 22) (.t 24)⟩] (some [0, 4, 5, 6, 18, 25]))
 (.cond (.t 25)
 (.reg [⟨some 26, none, .mov (.t 6)⟩,
 ⟨some 27, none, .fa 0 (.t 5)⟩,
 ⟨none, none, .st 1 (.t 27) (.t 26)⟩] (some [0, 4, 5, 18]))
 .skip))))
 (.reg [⟨some 28, none, .bin .add .none (.t 18) (.c (.int .i64 1))⟩,
 ⟨some 18, none, .mov (.t 28)⟩] (some [0, 4, 5, 18])))))
def ir_mouselike : ICode :=
 (.seq
 (.reg [⟨some 4, none, .box 23 (.c (.agg [(.int .i64 0), (.int .i64 0), (.int .i64 0), (.int .i64 0), (.int .i64 0)]))⟩] (some [0, 1, 4]))
 (.seq
 (.reg [⟨some 7, none, .mov (.t 0)⟩,
 ⟨some 8, none, .bin .quo .none (.t 7) (.c (.int .i64 4))⟩,
 ⟨some 9, none, .bin .rem .none (.t 8) (.c (.int .i64 8))⟩,
 ⟨some 10, none, .bld [(.int .i64 0), (.int .i64 0), (.int .i64 0), (.int .i64 0), (.int .i64 0)] [(1, 1, (.c (.int .i64 1))), (4, 1, (.t 9))]⟩,
 ⟨some 5, none, .box 23 (.c (.agg [(.int .i64 0), (.int .i64 0), (.int .i64 0), (.int .i64 0), (.int .i64 0)]))⟩,
 ⟨none, none, .st 5 (.t 5) (.t 10)⟩] (some [0, 1, 4, 5]))
 (.seq
 (.seq
 (.reg [⟨some 11, none, .mov (.t 0)⟩,
 ⟨some 12, none, .bin .and .none (.t 11) (.c (.int .i64 32))⟩,
 ⟨some 13, none, .bin .neq .none (.t 12) (.c (.int .i64 0))⟩] (some [0, 1, 4, 5, 13]))
 (.cond (.t 13)
 (.reg [⟨some 14, none, .fa 1 (.t 5)⟩,
 ⟨none, none, .st 1 (.t 14) (.c (.int .i64 4))⟩] (some [0, 1, 4, 5]))
 .skip))
 (.seq
 (.seq
 (.reg [⟨some 15, none, .mov (.t 1)⟩,
 ⟨some 16, none, .bin .eql .none (.t 15) (.c (.int .u8 109))⟩] (some [0, 4, 5, 16]))
 (.cond (.t 16)
 (.reg [⟨some 17, none, .fa 1 (.t 5)⟩,
 ⟨none, none, .st 1 (.t 17) (.c (.int .i64 3))⟩] (some [0, 4, 5]))
 .skip))
 (.seq
 (.seq
 (.reg [⟨some 18, none, .mov (.c (.int .i64 0))⟩] (some [0, 4, 5, 18]))
 (.blk 0
 (.loop
 ir_mouselike_l0)))
 (.seq
 (.reg [⟨some 29, none, .ld (some 5) (.t 5)⟩,
 ⟨none, none, .st 5 (.t 4) (.t 29)⟩] (some [4]))
 .ret))))))
theorem is_mouselike : IrOf Tryz.prog 29 30 ir_mouselike [.cell 4 (some 5)] := ⟨_, Tryz.func29, rfl, by kernel_rfl, by kernel_rfl, by kernel_rfl⟩

def ir_mouseDecode : ICode :=
 (.seq
 (.reg [⟨some 2, none, .box 23 (.c (.agg [(.int .i64 0), (.int .i64 0), (.int .i64 0), (.int .i64 0), (.int .i64 0)]))⟩,
 ⟨some 3, none, .mov (.c (.bool false))⟩] (some [0, 2]))
 (.seq
 (.reg [⟨some 10, none, .mov (.t 0)⟩,
 ⟨some 11, none, .call (.c (.fn (.func 27) [] [])) [(.t 10)]⟩,
 ⟨some 9, none, .mov (.t 11)⟩,
 ⟨some 12, none, .ext (.t 9) 0⟩,
 ⟨some 13, none, .ext (.t 9) 1⟩,
 ⟨some 14, none, .ext (.t 9) 2⟩,
 ⟨some 4, none, .box 37 (.c (.agg [(.int .i64 0), (.int .u8 0), .nils, (.str []), (.int .u8 0), (.str [])]))⟩,
 ⟨none, none, .st 6 (.t 4) (.t 12)⟩,
 ⟨some 5, none, .mov (.t 13)⟩,
 ⟨some 6, none, .mov (.t 14)⟩] (some [0, 2, 4, 6]))
 (.seq
 (.reg [⟨some 15, none, .ld (some 6) (.t 4)⟩,
 ⟨some 16, none, .call (.c (.fn (.func 28) [] [])) [(.t 15), (.c (.int .i64 0)), (.c (.int .i64 256))]⟩,
 ⟨some 7, none, .mov (.t 16)⟩] (some [0, 2, 4, 6, 7]))
 (.seq
 (.seq
 (.reg [⟨some 17, none, .mov (.t 6)⟩,
 ⟨some 18, none, .bin .neq .none (.t 17) (.c (.int .i64 0))⟩,
 ⟨some 19, none, .mov (.t 18)⟩,
 ⟨some 20, some (19, false), .mov (.t 7)⟩,
 ⟨some 21, some (19, false), .bin .gtr .none (.t 20) (.c (.int .i64 255))⟩,
 ⟨some 22, none, .pick (.t 19) (.c (.bool true)) (.t 21)⟩] (some [0, 2, 4, 7, 22]))
 (.cond (.t 22)
 (.seq
 (.reg [⟨some 23, none, .bld [(.int .i64 0), (.int .i64 0), (.int .i64 0), (.int .i64 0), (.int .i64 0)] []⟩,
 ⟨none, none, .st 5 (.t 2) (.t 23)⟩,
 ⟨some 3, none, .mov (.c (.bool false))⟩] (some [2, 3]))
 .ret)
 .skip))
 (.seq
 (.reg [⟨some 24, none, .mov (.t 7)⟩,
 ⟨some 25, none, .fa 4 (.t 4)⟩,
 ⟨some 26, none, .ld none (.t 25)⟩,
 ⟨some 27, none, .call (.c (.fn (.func 29) [] [])) [(.t 24), (.t 26)]⟩,
 ⟨some 8, none, .box 23 (.c (.agg [(.int .i64 0), (.int .i64 0), (.int .i64 0), (.int .i64 0), (.int .i64 0)]))⟩,
 ⟨none, none, .st 5 (.t 8) (.t 27)⟩] (some [0, 2, 4, 8]))
 (.seq
 (.drwm [(), (), (), (), ()] [⟨⟨some 28, none, .ld (some 6) (.t 4)⟩, []⟩,
 ⟨⟨some 29, none, .call (.c (.fn (.func 28) [] [])) [(.t 28), (.c (.int .i64 1)), (.c (.int .i64 0))]⟩, [0]⟩,
 ⟨⟨some 30, none, .ld (some 6) (.t 4)⟩, []⟩,
 ⟨⟨some 31, none, .call (.c (.fn (.func 28) [] [])) [(.t 30), (.c (.int .i64 2)), (.c (.int .i64 0))]⟩, [2, 1]⟩,
 ⟨⟨some 32, none, .fa 2 (.t 8)⟩, [0, 1]⟩,
 ⟨⟨none, none, .st 1 (.t 32) (.t 29)⟩, [4, 1, 3, 0, 1]⟩]
 [⟨some 33, none, .fa 3 (.t 8)⟩,
 ⟨none, none, .st 1 (.t 33) (.t 31)⟩] (some [0, 2, 8]))
 (.seq
 (.seq
 (.reg [⟨some 34, none, .ld (some 5) (.t 8)⟩,
 ⟨some 35, none, .call (.c (.fn (.func 10) [] [])) [(.t 34)]⟩,
 ⟨some 36, none, .un .not (.t 35)⟩,
 ⟨some 37, none, .mov (.t 36)⟩,
 ⟨some 38, some (37, false), .ld (some 5) (.t 8)⟩,
 ⟨some 39, some (37, false), .call (.c (.fn (.func 5) [] [])) [(.c (.int .i64 1003)), (.c (.int .i64 1006)), (.t 38)]⟩,
 ⟨some 40, some (37, false), .mov (.t 0)⟩,
 ⟨some 41, some (37, false), .call (.c (.fn (.func 30) [] [])) [(.t 39), (.t 40)]⟩,
 ⟨some 42, some (37, false), .un .not (.t 41)⟩,
 ⟨some 43, none, .pick (.t 37) (.c (.bool true)) (.t 42)⟩] (some [2, 8, 43]))
 (.cond (.t 43)
 (.seq
 (.reg [⟨some 44, none, .bld [(.int .i64 0), (.int .i64 0), (.int .i64 0), (.int .i64 0), (.int .i64 0)] []⟩,
 ⟨none, none, .st 5 (.t 2) (.t 44)⟩,
 ⟨some 3, none, .mov (.c (.bool false))⟩] (some [2, 3]))
 .ret)
 .skip))
 (.seq
 (.reg [⟨some 45, none, .ld (some 5) (.t 8)⟩,
 ⟨none, none, .st 5 (.t 2) (.t 45)⟩,
 ⟨some 3, none, .mov (.c (.bool true))⟩] (some [2, 3]))
 .ret))))))))
theorem is_mouseDecode : IrOf Tryz.prog 9 46 ir_mouseDecode [.cell 2 (some 5), .t 3] := ⟨_, Tryz.func9, rfl, by kernel_rfl, by kernel_rfl, by kernel_rfl⟩

theorem num_low : ∀ n : Fin 192, bits .andNot .i64 ((n.val : Nat) : Int) 60 = ((n.val % 4 + n.val / 64 * 64 : Nat) : Int) := by decide +kernel
theorem num_mot : ∀ n : Fin 192, (bits .and .i64 ((n.val : Nat) : Int) 32 != 0) = decide (n.val / 32 % 2 = 1) := by decide +kernel
theorem num_parts {b : Int} (h0 : 0 ≤ b) (h1 : b ≤ 11) : ∃ k j : Int, numM b = 64 * k + j ∧ 0 ≤ j ∧ j < 4 ∧ 0 ≤ k ∧ k ≤ 2 := by
  unfold numM
  by_cases c0 : b = 0
  · exact ⟨0, 3, by rw [if_pos c0]; rfl, by omega, by omega, by omega, by omega⟩
  · by_cases c1 : b ≤ 3
    · exact ⟨0, b - 1, by rw [if_neg c0, if_pos c1]; omega, by omega, by omega, by omega, by omega⟩
    · by_cases c2 : b ≤ 7
      · exact ⟨1, b - 4, by rw [if_neg c0, if_neg c1, if_pos c2]; omega, by omega, by omega, by omega, by omega⟩
      · exact ⟨2, b - 8, by rw [if_neg c0, if_neg c1, if_neg c2]; omega, by omega, by omega, by omega, by omega⟩
theorem num_inj {a b : Int} (ha : 0 ≤ a ∧ a ≤ 11) (hb : 0 ≤ b ∧ b ≤ 11) : (numM a == numM b) = decide (a = b) := by
  rw [Bool.eq_iff_iff, beq_iff_eq, decide_eq_true_eq]
  constructor
  · intro h
    unfold numM at h
    repeat' split at h
    all_goals omega
  · intro h; rw [h]
theorem marks_1003 (e : Mo) : marksM 1003 e = (if e.type = 4 then 32 else 0) + 4 * (e.mods % 8) := by
  unfold marksM
  rw [if_neg (show ¬ (1003 : Int) = 9 by omega)]
theorem btn_range {e : Mo} (M : MayM e) : 0 ≤ e.button ∧ e.button ≤ 11 := by
  have := M.kd
  omega
theorem like_num {e : Mo} (M : MayM e) : bits .andNot .i64 (codeM 1003 e) 60 = numM e.button ∧ (bits .and .i64 (codeM 1003 e) 32 != 0) = (e.type == 4) ∧ (IntKind.i64.wrap ((codeM 1003 e).tdiv 4)).tmod 8 = e.mods % 8 := by
  obtain ⟨hc, c0, c1⟩ := code_range (mode := 1003) M
  have hb := btn_range M
  obtain ⟨k, j, hn, j0, j1, k0, k1⟩ := num_parts hb.1 hb.2
  rw [marks_1003] at hc
  have h1 := num_low ⟨(codeM 1003 e).toNat, by omega⟩
  have h2 := num_mot ⟨(codeM 1003 e).toNat, by omega⟩
  simp only at h1 h2
  rw [show (((codeM 1003 e).toNat : Nat) : Int) = codeM 1003 e by omega] at h1 h2
  refine ⟨?_, ?_, ?_⟩
  · rw [h1]
    split at hc <;> omega
  · rw [h2, Bool.eq_iff_iff, decide_eq_true_eq, beq_iff_eq]
    split at hc <;> omega
  · rw [Int.tdiv_eq_ediv_of_nonneg (by omega), IntKind.wrap_i64, Int.tmod_eq_emod_of_nonneg (by split at hc <;> omega)]
    split at hc <;> omega
set_option maxHeartbeats 4000000 in
theorem fs_like {Gl : Gh → Prop} (hst : Stays Gl) {e : Mo} (M : MayM e) : FS Tryz.prog Gl 29 [.int .i64 (codeM 1003 e), .int .u8 (if e.type = 3 then 109 else 77)] [] [] (.agg (moAV ⟨e.button, e.type, 0, 0, e.mods % 8⟩)) [] [] := by
  refine FS.of hm hst is_mouselike (by simp) fun γ hγ hfr => ?_
  obtain ⟨q1, q2, q3⟩ := like_num M
  have hb := btn_range M
  have hk := M.kd
  have hmo : moAV ⟨e.button, e.type, 0, 0, e.mods % 8⟩ = [.int .i64 e.button, .int .i64 e.type, .int .i64 0, .int .i64 0, .int .i64 (e.mods % 8)] := rfl
  generalize codeM 1003 e = n at *
  have lp : ∀ {Q : Ex → Nat → Nat → St → Prop} {c : Nat}, (∀ γ' c', Q (.exit 0) γ' c' ⟨lf [(0, .int .i64 n), (4, .ptr (γ, 0, 0) 0), (5, .ptr (γ, 5, 0) 0), (18, .int .i64 12), (19, .bool false)], [((γ, 5, 0), .cells [.int .i64 e.button, .int .i64 e.type, .int .i64 0, .int .i64 0, .int .i64 (e.mods % 8)]), ((γ, 0, 0), .cells [.int .i64 0, .int .i64 0, .int .i64 0, .int .i64 0, .int .i64 0])], fun x => x ∈ []⟩) →
      kLoop Tryz.prog Gl ir_mouselike_l0 γ c ⟨lf [(0, .int .i64 n), (4, .ptr (γ, 0, 0) 0), (5, .ptr (γ, 5, 0) 0), (18, .int .i64 0)], [((γ, 5, 0), .cells [.int .i64 0, .int .i64 e.type, .int .i64 0, .int .i64 0, .int .i64 (e.mods % 8)]), ((γ, 0, 0), .cells [.int .i64 0, .int .i64 0, .int .i64 0, .int .i64 0, .int .i64 0])], fun x => x ∈ []⟩ Q := by
    intro Q c hQ
    refine kLoop_ix (fun i : Nat => ⟨lf [(0, .int .i64 n), (4, .ptr (γ, 0, 0) 0), (5, .ptr (γ, 5, 0) 0), (18, .int .i64 i)], [((γ, 5, 0), .cells [.int .i64 (if e.button < i then e.button else 0), .int .i64 e.type, .int .i64 0, .int .i64 0, .int .i64 (e.mods % 8)]), ((γ, 0, 0), .cells [.int .i64 0, .int .i64 0, .int .i64 0, .int .i64 0, .int .i64 0])], fun x => x ∈ []⟩) (fun i => i ≤ 12) (fun i => 12 - i) 0 0 (Wk.perm' ?_ (fun p hp => ?_) (fun t ht => ht)) (by simp) ?_
    · (simp only [lfOK, upd, initF]; repeat' first | exact AVle.refl _ _ | exact trivial | refine And.intro ?_ ?_ | exact AVle.int (by simp only [IntKind.wrap_i64]; omega))
    · simp only [Int.natCast_zero] at hp
      rw [if_neg (by omega)] at hp
      exact hp
    rintro γ' i hf hi
    generalize hQ' : kIt _ _ _ _ _ = Q'
    unfold ir_mouselike_l0
    by_cases hlt : i < 12
    · have hd : decide ((i : Int) < 12) = true := decide_eq_true (by omega)
      have hw : IntKind.i64.wrap ((i : Int) + 1) = ((i + 1 : Nat) : Int) := by rw [IntKind.wrap_i64]; omega
      have c1 := fs_button (Gl := Gl) hst (n := (i : Int)) (by omega) (by omega)
      have hin := num_inj (a := (i : Int)) (b := e.button) (by omega) hb
      simp +contextual (maxSteps := 1000000) only [hd, go_sem, reduceCtorEq, ↓reduceIte, Nat.reduceAdd, Nat.reduceEqDiff, Nat.reduceLeDiff, Nat.reduceMul, Nat.reduceBEq, Int.reduceBEq, Int.reduceBNe, Int.reduceLT, Int.reduceLE, Int.reduceGT, Int.reduceGE, Int.reduceToNat]
      (refine CallP.pure (c1) (fun _ => rfl) ?_; simp +contextual (maxSteps := 1000000) only [q1, hin, go_sem, reduceCtorEq, ↓reduceIte, Nat.reduceAdd, Nat.reduceEqDiff, Nat.reduceLeDiff, Nat.reduceMul, Nat.reduceBEq, Int.reduceBEq, Int.reduceBNe, Int.reduceLT, Int.reduceLE, Int.reduceGT, Int.reduceGE, Int.reduceToNat])
      by_cases hi' : (i : Int) = e.button
      · have hd2 : decide ((i : Int) = e.button) = true := decide_eq_true hi'
        simp +contextual (maxSteps := 1000000) only [hd2, go_sem, reduceCtorEq, ↓reduceIte, Nat.reduceAdd, Nat.reduceEqDiff, Nat.reduceLeDiff, Nat.reduceMul, Nat.reduceBEq, Int.reduceBEq, Int.reduceBNe, Int.reduceLT, Int.reduceLE, Int.reduceGT, Int.reduceGE, Int.reduceToNat]
        rw [← hQ']
        simp only [w_kIt_n]
        refine ⟨0, i + 1, Wk.perm' ?_ (fun p hp => ?_) (fun t ht => ht), by omega, by omega⟩
        · rw [hw]
          repeat' first | exact AVle.refl _ _ | exact trivial | refine And.intro ?_ ?_ | exact AVle.int (by simp only [IntKind.wrap_i64]; omega)
        · rw [if_pos (by omega), ← hi'] at hp
          exact hp
      · have hd2 : decide ((i : Int) = e.button) = false := decide_eq_false hi'
        simp +contextual (maxSteps := 1000000) only [hd2, go_sem, reduceCtorEq, ↓reduceIte, Nat.reduceAdd, Nat.reduceEqDiff, Nat.reduceLeDiff, Nat.reduceMul, Nat.reduceBEq, Int.reduceBEq, Int.reduceBNe, Int.reduceLT, Int.reduceLE, Int.reduceGT, Int.reduceGE, Int.reduceToNat]
        rw [← hQ']
        simp only [w_kIt_n]
        refine ⟨0, i + 1, Wk.perm' ?_ (fun p hp => ?_) (fun t ht => ht), by omega, by omega⟩
        · rw [hw]
          repeat' first | exact AVle.refl _ _ | exact trivial | refine And.intro ?_ ?_ | exact AVle.int (by simp only [IntKind.wrap_i64]; omega)
        · have hif : (if e.button < ((i + 1 : Nat) : Int) then e.button else 0) = (if e.button < (i : Int) then e.button else 0) := by
            by_cases h : e.button < (i : Int)
            · rw [if_pos h, if_pos (by omega)]
            · rw [if_neg h, if_neg (by omega)]
          rw [hif] at hp
          exact hp
    · have hd : decide ((i : Int) < 12) = false := decide_eq_false (by omega)
      obtain rfl : i = 12 := by omega
      simp +contextual (maxSteps := 1000000) only [hd, go_sem, reduceCtorEq, ↓reduceIte, Nat.reduceAdd, Nat.reduceEqDiff, Nat.reduceLeDiff, Nat.reduceMul, Nat.reduceBEq, Int.reduceBEq, Int.reduceBNe, Int.reduceLT, Int.reduceLE, Int.reduceGT, Int.reduceGE, Int.reduceToNat]
      rw [← hQ']
      simp only [w_kIt_e]
      have hif : (if e.button < 12 then e.button else 0) = e.button := if_pos (by omega)
      rw [hif]
      exact hQ _ _
  (generalize hQ : (fun (ex : Ex) (_ _ : Nat) (s : St) => _) = Q; unfold ir_mouselike)
  simp +contextual (maxSteps := 1000000) only [q2, q3, go_sem, reduceCtorEq, ↓reduceIte, Nat.reduceAdd, Nat.reduceEqDiff, Nat.reduceLeDiff, Nat.reduceMul, Nat.reduceBEq, Int.reduceBEq, Int.reduceBNe, Int.reduceLT, Int.reduceLE, Int.reduceGT, Int.reduceGE, Int.reduceToNat]
  refine ⟨by omega, by omega, ?_⟩
  by_cases t3 : e.type = 3
  · have p4 : (e.type == 4) = false := by rw [beq_eq_false_iff_ne]; omega
    have pf : (if e.type = 3 then (109 : Int) else 77) = 109 := if_pos t3
    rw [t3] at lp
    simp +contextual (maxSteps := 1000000) only [p4, pf, go_sem, reduceCtorEq, ↓reduceIte, Nat.reduceAdd, Nat.reduceEqDiff, Nat.reduceLeDiff, Nat.reduceMul, Nat.reduceBEq, Int.reduceBEq, Int.reduceBNe, Int.reduceLT, Int.reduceLE, Int.reduceGT, Int.reduceGE, Int.reduceToNat]
    refine lp fun γ' c' => ?_
    simp +contextual (maxSteps := 1000000) only [go_sem, reduceCtorEq, ↓reduceIte, Nat.reduceAdd, Nat.reduceEqDiff, Nat.reduceLeDiff, Nat.reduceMul, Nat.reduceBEq, Int.reduceBEq, Int.reduceBNe, Int.reduceLT, Int.reduceLE, Int.reduceGT, Int.reduceGE, Int.reduceToNat]
    rw [← hQ, hmo, t3]
    exact ⟨trivial, Ret.flatT (by simp [resOf, getAll, IRes.get, lf, getH]) rfl⟩
  · have pf : (if e.type = 3 then (109 : Int) else 77) = 77 := if_neg t3
    by_cases t4 : e.type = 4
    · have p4 : (e.type == 4) = true := beq_iff_eq.2 t4
      rw [t4] at lp
      simp +contextual (maxSteps := 1000000) only [p4, pf, go_sem, reduceCtorEq, ↓reduceIte, Nat.reduceAdd, Nat.reduceEqDiff, Nat.reduceLeDiff, Nat.reduceMul, Nat.reduceBEq, Int.reduceBEq, Int.reduceBNe, Int.reduceLT, Int.reduceLE, Int.reduceGT, Int.reduceGE, Int.reduceToNat]
      refine lp fun γ' c' => ?_
      simp +contextual (maxSteps := 1000000) only [go_sem, reduceCtorEq, ↓reduceIte, Nat.reduceAdd, Nat.reduceEqDiff, Nat.reduceLeDiff, Nat.reduceMul, Nat.reduceBEq, Int.reduceBEq, Int.reduceBNe, Int.reduceLT, Int.reduceLE, Int.reduceGT, Int.reduceGE, Int.reduceToNat]
      rw [← hQ, hmo, t4]
      exact ⟨trivial, Ret.flatT (by simp [resOf, getAll, IRes.get, lf, getH]) rfl⟩
    · have p4 : (e.type == 4) = false := beq_eq_false_iff_ne.2 t4
      have t1 : e.type = 1 := by omega
      rw [t1] at lp
      simp +contextual (maxSteps := 1000000) only [p4, pf, go_sem, reduceCtorEq, ↓reduceIte, Nat.reduceAdd, Nat.reduceEqDiff, Nat.reduceLeDiff, Nat.reduceMul, Nat.reduceBEq, Int.reduceBEq, Int.reduceBNe, Int.reduceLT, Int.reduceLE, Int.reduceGT, Int.reduceGE, Int.reduceToNat]
      refine lp fun γ' c' => ?_
      simp +contextual (maxSteps := 1000000) only [go_sem, reduceCtorEq, ↓reduceIte, Nat.reduceAdd, Nat.reduceEqDiff, Nat.reduceLeDiff, Nat.reduceMul, Nat.reduceBEq, Int.reduceBEq, Int.reduceBNe, Int.reduceLT, Int.reduceLE, Int.reduceGT, Int.reduceGE, Int.reduceToNat]
      rw [← hQ, hmo, t1]
      exact ⟨trivial, Ret.flatT (by simp [resOf, getAll, IRes.get, lf, getH]) rfl⟩
set_option maxHeartbeats 4000000 in
theorem fs_mDec {Gl : Gh → Prop} (hst : Stays Gl) {e : Mo} {tb : Option Nm} (M : MayM e) : FS Tryz.prog Gl 9 [.sl tb 1 (bytesAV (encM 1003 1006 e))] [] [] (.tup [.agg (moAV (stripM e)), .bool true]) [] [] := by
  refine FS.args (args' := [.sl none 1 (bytesAV (encM 1003 1006 e))]) ?_ ⟨RepLe.anon _ _ _, trivial⟩
  refine FS.of hm hst is_mouseDecode (by simp) fun γ hγ hfr => ?_
  have N : MayM (stripM e) := ⟨M.x0, M.x1, M.y0, M.y1, by simp only [stripM]; omega, by simp only [stripM]; omega, M.kd⟩
  have hss : stripM (stripM e) = stripM e := by unfold stripM; simp
  have henc : encM 1003 1006 (stripM e) = encM 1003 1006 e := (back_iff N M).2 hss
  have hmay := exact_may (mode := 1003) M
  obtain ⟨r1, r2, r3⟩ := code_range (mode := 1003) M
  have hx0 := M.x0
  have hy0 := M.y0
  have hb := enc_exact (mode := 1003) M
  obtain ⟨t1, t2, t3⟩ := take_may hmay []
  rw [List.append_nil, ← hb] at t1 t2 t3
  have hlen : (encM 1003 1006 e).length ≤ 4000 := by
    rw [hb]
    have := bodyB_len hmay
    unfold putB
    rw [if_pos (by rfl)]
    simp only [List.length_append, List.length_cons, List.length_nil]
    omega
  have c1 := fs_wTake (Gl := Gl) hst (b := encM 1003 1006 e) (tb := none) (by omega) t1 t2
  rw [t3] at c1
  have hq : exactQ 1003 e = ⟨1, 60, [[codeM 1003 e], [e.x], [e.y]], [], if e.type = 3 then 109 else 77, []⟩ := rfl
  have hcc : (exactQ 1003 e).c = [.int .i64 1, .int .u8 60, .sl none 1 (parsAV [[codeM 1003 e], [e.x], [e.y]]), .str [], .int .u8 (if e.type = 3 then 109 else 77), .str []] := rfl
  rw [hcc] at c1
  have c2 := fun o => fs_wArg (Gl := Gl) hst (k := 1) (pr := 60) (fi := if e.type = 3 then 109 else 77) (o := o) (ps := [[codeM 1003 e], [e.x], [e.y]]) (it := []) (da := []) (i := 0)
  have c3 := fun o => fs_wArg (Gl := Gl) hst (k := 1) (pr := 60) (fi := if e.type = 3 then 109 else 77) (o := o) (ps := [[codeM 1003 e], [e.x], [e.y]]) (it := []) (da := []) (i := 1)
  have c4 := fun o => fs_wArg (Gl := Gl) hst (k := 1) (pr := 60) (fi := if e.type = 3 then 109 else 77) (o := o) (ps := [[codeM 1003 e], [e.x], [e.y]]) (it := []) (da := []) (i := 2)
  have a0 : ∀ o, argW [[codeM 1003 e], [e.x], [e.y]] 0 o = codeM 1003 e := fun o => by unfold argW; simp; omega
  have a1 : ∀ o, argW [[codeM 1003 e], [e.x], [e.y]] 1 o = e.x := fun o => by unfold argW; simp; omega
  have a2 : ∀ o, argW [[codeM 1003 e], [e.x], [e.y]] 2 o = e.y := fun o => by unfold argW; simp; omega
  simp only [a0] at c2
  simp only [a1] at c3
  simp only [a2] at c4
  have c5 := fs_like (Gl := Gl) hst M
  have hm5 : moAV ⟨e.button, e.type, 0, 0, e.mods % 8⟩ = [.int .i64 e.button, .int .i64 e.type, .int .i64 0, .int .i64 0, .int .i64 (e.mods % 8)] := rfl
  have hm6 : moAV (stripM e) = [.int .i64 e.button, .int .i64 e.type, .int .i64 e.x, .int .i64 e.y, .int .i64 (e.mods % 8)] := rfl
  rw [hm5] at c5
  have c6 := fs_tMay (Gl := Gl) hst (e := stripM e)
  rw [mayM_iff.2 N, hm6] at c6
  have c7 := fs_Enc (Gl := Gl) hst (mode := 1003) (coding := 1006) (e := stripM e)
  rw [henc, hm6] at c7
  have c8 := fs_BEqual (Gl := Gl) hst (a := encM 1003 1006 e) (b := encM 1003 1006 e) (ta := none) (tb := none)
  rw [decide_eq_true rfl] at c8
  have qc : decide (codeM 1003 e > 255) = false := decide_eq_false (by omega)
  rw [hm6]
  generalize encM 1003 1006 e = bs at *
  generalize codeM 1003 e = n at *
  generalize (if e.type = 3 then (109 : Int) else 77) = fi at *
  generalize parsAV [[n], [e.x], [e.y]] = rows at *
  (generalize hQ : (fun (ex : Ex) (_ _ : Nat) (s : St) => _) = Q; unfold ir_mouseDecode)
  simp +contextual (maxSteps := 1000000) only [go_sem, reduceCtorEq, ↓reduceIte, Nat.reduceAdd, Nat.reduceEqDiff, Nat.reduceLeDiff, Nat.reduceMul, Nat.reduceBEq, Int.reduceBEq, Int.reduceBNe, Int.reduceLT, Int.reduceLE, Int.reduceGT, Int.reduceGE, Int.reduceToNat]
  (refine CallP.pure (c1) (fun _ => rfl) ?_; simp +contextual (maxSteps := 1000000) only [go_sem, reduceCtorEq, ↓reduceIte, Nat.reduceAdd, Nat.reduceEqDiff, Nat.reduceLeDiff, Nat.reduceMul, Nat.reduceBEq, Int.reduceBEq, Int.reduceBNe, Int.reduceLT, Int.reduceLE, Int.reduceGT, Int.reduceGE, Int.reduceToNat])
  (refine CallP.pure (c2 _) (fun _ => rfl) ?_; simp +contextual (maxSteps := 1000000) only [qc, go_sem, reduceCtorEq, ↓reduceIte, Nat.reduceAdd, Nat.reduceEqDiff, Nat.reduceLeDiff, Nat.reduceMul, Nat.reduceBEq, Int.reduceBEq, Int.reduceBNe, Int.reduceLT, Int.reduceLE, Int.reduceGT, Int.reduceGE, Int.reduceToNat])
  (refine CallP.pure (c5) (fun _ => rfl) ?_; simp +contextual (maxSteps := 1000000) only [go_sem, reduceCtorEq, ↓reduceIte, Nat.reduceAdd, Nat.reduceEqDiff, Nat.reduceLeDiff, Nat.reduceMul, Nat.reduceBEq, Int.reduceBEq, Int.reduceBNe, Int.reduceLT, Int.reduceLE, Int.reduceGT, Int.reduceGE, Int.reduceToNat])
  refine kDrwM_of [((γ, 8, 0), .cells [.int .i64 1, .int .u8 60, .sl none 1 rows, .str [], .int .u8 fi, .str []]), ((γ, 0, 0), .cells [.int .i64 0, .int .i64 0, .int .i64 0, .int .i64 0, .int .i64 0])] [((γ, 25, 0), .cells [.int .i64 e.button, .int .i64 e.type, .int .i64 0, .int .i64 0, .int .i64 (e.mods % 8)])] (by simp) (by simp) ?_
  simp +contextual (maxSteps := 1000000) only [go_sem, reduceCtorEq, ↓reduceIte, Nat.reduceAdd, Nat.reduceEqDiff, Nat.reduceLeDiff, Nat.reduceMul, Nat.reduceBEq, Int.reduceBEq, Int.reduceBNe, Int.reduceLT, Int.reduceLE, Int.reduceGT, Int.reduceGE, Int.reduceToNat]
  refine DCall.new (c3 _) ?_
  simp +contextual (maxSteps := 1000000) only [go_sem, reduceCtorEq, ↓reduceIte, Nat.reduceAdd, Nat.reduceEqDiff, Nat.reduceLeDiff, Nat.reduceMul, Nat.reduceBEq, Int.reduceBEq, Int.reduceBNe, Int.reduceLT, Int.reduceLE, Int.reduceGT, Int.reduceGE, Int.reduceToNat]
  refine DCall.new (c4 _) ?_
  simp +contextual (maxSteps := 1000000) only [go_sem, reduceCtorEq, ↓reduceIte, Nat.reduceAdd, Nat.reduceEqDiff, Nat.reduceLeDiff, Nat.reduceMul, Nat.reduceBEq, Int.reduceBEq, Int.reduceBNe, Int.reduceLT, Int.reduceLE, Int.reduceGT, Int.reduceGE, Int.reduceToNat]
  refine ⟨by simp, ?_⟩
  (refine CallP.pure (c6) (fun _ => rfl) ?_; simp +contextual (maxSteps := 1000000) only [go_sem, reduceCtorEq, ↓reduceIte, Nat.reduceAdd, Nat.reduceEqDiff, Nat.reduceLeDiff, Nat.reduceMul, Nat.reduceBEq, Int.reduceBEq, Int.reduceBNe, Int.reduceLT, Int.reduceLE, Int.reduceGT, Int.reduceGE, Int.reduceToNat])
  (refine CallP.pure (c7) (fun _ => rfl) ?_; simp +contextual (maxSteps := 1000000) only [go_sem, reduceCtorEq, ↓reduceIte, Nat.reduceAdd, Nat.reduceEqDiff, Nat.reduceLeDiff, Nat.reduceMul, Nat.reduceBEq, Int.reduceBEq, Int.reduceBNe, Int.reduceLT, Int.reduceLE, Int.reduceGT, Int.reduceGE, Int.reduceToNat])
  (refine CallP.pure (c8) (fun _ => rfl) ?_; simp +contextual (maxSteps := 1000000) only [go_sem, reduceCtorEq, ↓reduceIte, Nat.reduceAdd, Nat.reduceEqDiff, Nat.reduceLeDiff, Nat.reduceMul, Nat.reduceBEq, Int.reduceBEq, Int.reduceBNe, Int.reduceLT, Int.reduceLE, Int.reduceGT, Int.reduceGE, Int.reduceToNat])
  rw [← hQ]
  exact ⟨trivial, Ret.flatT (by simp [resOf, getAll, IRes.get, lf, getH]) rfl⟩
end Go.Proofs.YtfnngjnfajnpaaaGreatDoor

namespace Go.Proofs.YtfnngjnfajnpaaaGreatDoor
open Go Go.Ab
def ir_clavierlaw16awake : ICode :=
 (.seq
 (.reg [⟨some 0, none, .mov (.c (.bool false))⟩] (some []))
 (.seq
 (.reg [⟨some 4, none, .bld [(.int .i64 0), (.int .i64 0), (.int .i64 0), (.int .i64 0), (.int .i64 0)] [(0, 1, (.c (.int .i64 1))), (1, 1, (.c (.int .i64 1))), (2, 1, (.c (.int .i64 1))), (3, 1, (.c (.int .i64 1)))]⟩,
 ⟨some 1, none, .box 23 (.c (.agg [(.int .i64 0), (.int .i64 0), (.int .i64 0), (.int .i64 0), (.int .i64 0)]))⟩,
 ⟨none, none, .st 5 (.t 1) (.t 4)⟩] (some [1]))
 (.seq
 (.reg [⟨some 6, none, .row 5 1 [(.c (.int .u8 27)), (.c (.int .u8 91)), (.c (.int .u8 60)), (.c (.int .u8 48)), (.c (.int .u8 59)), (.c (.int .u8 49)), (.c (.int .u8 59)), (.c (.int .u8 49)), (.c (.int .u8 77))]⟩,
 ⟨some 7, none, .cvs (.t 6)⟩,
 ⟨some 8, none, .call (.c (.fn (.func 9) [] [])) [(.t 7)]⟩,
 ⟨some 5, none, .mov (.t 8)⟩,
 ⟨some 9, none, .ext (.t 5) 0⟩,
 ⟨some 10, none, .ext (.t 5) 1⟩,
 ⟨some 2, none, .box 23 (.c (.agg [(.int .i64 0), (.int .i64 0), (.int .i64 0), (.int .i64 0), (.int .i64 0)]))⟩,
 ⟨none, none, .st 5 (.t 2) (.t 9)⟩,
 ⟨some 3, none, .mov (.t 10)⟩] (some [1, 2, 3]))
 (.seq
 (.reg [⟨some 11, none, .ld (some 5) (.t 1)⟩,
 ⟨some 12, none, .call (.c (.fn (.func 5) [] [])) [(.c (.int .i64 1000)), (.c (.int .i64 1006)), (.t 11)]⟩,
 ⟨some 13, none, .b2s (.t 12)⟩,
 ⟨some 14, none, .bin .eql .none (.t 13) (.c (.str [27, 91, 60, 48, 59, 49, 59, 49, 77]))⟩,
 ⟨some 15, none, .mov (.t 14)⟩,
 ⟨some 16, some (15, true), .ld (some 5) (.t 1)⟩,
 ⟨some 17, some (15, true), .call (.c (.fn (.func 5) [] [])) [(.c (.int .i64 1000)), (.c (.int .i64 0)), (.t 16)]⟩,
 ⟨some 18, some (15, true), .b2s (.t 17)⟩,
 ⟨some 19, some (15, true), .bin .eql .none (.t 18) (.c (.str [27, 91, 77, 32, 33, 33]))⟩,
 ⟨some 20, none, .pick (.t 15) (.t 19) (.c (.bool false))⟩,
 ⟨some 21, none, .mov (.t 20)⟩,
 ⟨some 22, some (21, true), .mov (.t 3)⟩,
 ⟨some 23, none, .pick (.t 21) (.t 22) (.c (.bool false))⟩,
 ⟨some 24, none, .mov (.t 23)⟩,
 ⟨some 25, some (24, true), .ld (some 5) (.t 2)⟩,
 ⟨some 26, some (24, true), .ld (some 5) (.t 1)⟩,
 ⟨some 27, some (24, true), .bin .eql (.flat [.int, .int, .int, .int, .int]) (.t 25) (.t 26)⟩,
 ⟨some 28, none, .pick (.t 24) (.t 27) (.c (.bool false))⟩,
 ⟨some 29, none, .mov (.t 28)⟩,
 ⟨some 30, some (29, true), .bld [(.int .i64 0), (.int .i64 0), (.int .i64 0), (.int .i64 0), (.int .i64 0)] [(0, 1, (.c (.int .i64 4))), (1, 1, (.c (.int .i64 1))), (2, 1, (.c (.int .i64 1))), (3, 1, (.c (.int .i64 1))), (4, 1, (.c (.int .i64 4)))]⟩,
 ⟨some 31, some (29, true), .call (.c (.fn (.func 7) [] [])) [(.c (.int .i64 1000)), (.t 30)]⟩,
 ⟨some 32, some (29, true), .bin .eql .none (.t 31) (.c (.int .i64 80))⟩,
 ⟨some 33, none, .pick (.t 29) (.t 32) (.c (.bool false))⟩,
 ⟨some 0, none, .mov (.t 33)⟩] (some [0]))
 .ret))))
theorem is_clavierlaw16awake : IrOf Tryz.prog 4 34 ir_clavierlaw16awake [.t 0] := ⟨_, Tryz.func4, rfl, by kernel_rfl, by kernel_rfl, by kernel_rfl⟩

theorem mo_a : encM 1000 1006 ⟨1, 1, 1, 1, 0⟩ = [27, 91, 60, 48, 59, 49, 59, 49, 77] ∧ encM 1003 1006 ⟨1, 1, 1, 1, 0⟩ = [27, 91, 60, 48, 59, 49, 59, 49, 77] ∧ encM 1000 0 ⟨1, 1, 1, 1, 0⟩ = [27, 91, 77, 32, 33, 33] ∧ codeM 1000 ⟨4, 1, 1, 1, 4⟩ = 80 ∧ mayM ⟨1, 1, 1, 1, 0⟩ = true := by decide +kernel
theorem fs_awake16 {Gl : Gh → Prop} (hst : Stays Gl) : FS Tryz.prog Gl 4 [] [] [] (.bool true) [] [] := by
  refine FS.of hm hst is_clavierlaw16awake (by simp) fun γ hγ hfr => ?_
  obtain ⟨m1, m2, m3, m4, m5⟩ := mo_a
  have c1 := fs_Enc (Gl := Gl) hst (mode := 1000) (coding := 1006) (e := ⟨1, 1, 1, 1, 0⟩)
  have c2 := fs_Enc (Gl := Gl) hst (mode := 1000) (coding := 0) (e := ⟨1, 1, 1, 1, 0⟩)
  have c3 := fun t : Option Nm => fs_mDec (Gl := Gl) hst (e := ⟨1, 1, 1, 1, 0⟩) (tb := t) (mayM_iff.1 m5)
  have c4 := fs_mCode (Gl := Gl) hst (mode := 1000) (e := ⟨4, 1, 1, 1, 4⟩)
  rw [m1] at c1
  rw [m3] at c2
  rw [m2] at c3
  rw [m4] at c4
  have hs : moAV (stripM ⟨1, 1, 1, 1, 0⟩) = [.int .i64 1, .int .i64 1, .int .i64 1, .int .i64 1, .int .i64 0] := rfl
  rw [hs] at c3
  simp only [moAV] at c1 c2 c4
  (generalize hQ : (fun (ex : Ex) (_ _ : Nat) (s : St) => _) = Q; unfold ir_clavierlaw16awake)
  simp +contextual (maxSteps := 1000000) only [go_sem, reduceCtorEq, ↓reduceIte, Nat.reduceAdd, Nat.reduceEqDiff, Nat.reduceLeDiff, Nat.reduceMul, Nat.reduceBEq, Int.reduceBEq, Int.reduceBNe, Int.reduceLT, Int.reduceLE, Int.reduceGT, Int.reduceGE, Int.reduceToNat]
  refine ⟨⟨.inl trivial, by simp⟩, ?_⟩
  (refine CallP.pure (c3 _) (fun _ => rfl) ?_; simp +contextual (maxSteps := 1000000) only [go_sem, reduceCtorEq, ↓reduceIte, Nat.reduceAdd, Nat.reduceEqDiff, Nat.reduceLeDiff, Nat.reduceMul, Nat.reduceBEq, Int.reduceBEq, Int.reduceBNe, Int.reduceLT, Int.reduceLE, Int.reduceGT, Int.reduceGE, Int.reduceToNat])
  (refine CallP.pure (c1) (fun _ => rfl) ?_; simp +contextual (maxSteps := 1000000) only [bb_un, bb_is, go_sem, reduceCtorEq, ↓reduceIte, Nat.reduceAdd, Nat.reduceEqDiff, Nat.reduceLeDiff, Nat.reduceMul, Nat.reduceBEq, Int.reduceBEq, Int.reduceBNe, Int.reduceLT, Int.reduceLE, Int.reduceGT, Int.reduceGE, Int.reduceToNat])
  (refine CallP.pure (c2) (fun _ => rfl) ?_; simp +contextual (maxSteps := 1000000) only [bb_un, bb_is, go_sem, reduceCtorEq, ↓reduceIte, Nat.reduceAdd, Nat.reduceEqDiff, Nat.reduceLeDiff, Nat.reduceMul, Nat.reduceBEq, Int.reduceBEq, Int.reduceBNe, Int.reduceLT, Int.reduceLE, Int.reduceGT, Int.reduceGE, Int.reduceToNat])
  refine ⟨by simp [oneL, X.ev, AV.cells, AV.one], ?_⟩
  (refine CallP.pure (c4) (fun _ => rfl) ?_; simp +contextual (maxSteps := 1000000) only [go_sem, reduceCtorEq, ↓reduceIte, Nat.reduceAdd, Nat.reduceEqDiff, Nat.reduceLeDiff, Nat.reduceMul, Nat.reduceBEq, Int.reduceBEq, Int.reduceBNe, Int.reduceLT, Int.reduceLE, Int.reduceGT, Int.reduceGE, Int.reduceToNat])
  rw [← hQ]
  exact ⟨trivial, Ret.flat rfl rfl⟩
end Go.Proofs.YtfnngjnfajnpaaaGreatDoor

namespace Go.Proofs.YtfnngjnfajnpaaaGreatDoor
open Go Go.Ab
def ir_clavierref15button : ICode :=
 (.seq
 (.reg [⟨some 2, none, .mov (.c (.bool false))⟩] (some [0]))
 (.seq
 (.reg [⟨some 3, none, .mov (.t 0)⟩,
 ⟨some 4, none, .bin .geq .none (.t 3) (.c (.int .i64 1))⟩,
 ⟨some 5, none, .mov (.t 4)⟩,
 ⟨some 6, some (5, true), .mov (.t 0)⟩,
 ⟨some 7, some (5, true), .bin .leq .none (.t 6) (.c (.int .i64 3))⟩,
 ⟨some 8, none, .pick (.t 5) (.t 7) (.c (.bool false))⟩,
 ⟨some 9, none, .mov (.t 8)⟩,
 ⟨some 10, some (9, false), .mov (.t 0)⟩,
 ⟨some 11, some (9, false), .bin .geq .none (.t 10) (.c (.int .i64 8))⟩,
 ⟨some 12, some (9, false), .mov (.t 11)⟩,
 ⟨some 13, some (12, true), .mov (.t 0)⟩,
 ⟨some 14, some (12, true), .bin .leq .none (.t 13) (.c (.int .i64 11))⟩,
 ⟨some 15, some (9, false), .pick (.t 12) (.t 14) (.c (.bool false))⟩,
 ⟨some 16, none, .pick (.t 9) (.c (.bool true)) (.t 15)⟩,
 ⟨some 2, none, .mov (.t 16)⟩] (some [2]))
 .ret))
theorem is_clavierref15button : IrOf Tryz.prog 38 17 ir_clavierref15button [.t 2] := ⟨_, Tryz.func38, rfl, by kernel_rfl, by kernel_rfl, by kernel_rfl⟩

def ir_clavierref15May : ICode :=
 (.seq
 (.reg [⟨some 1, none, .box 23 (.t 0)⟩,
 ⟨some 2, none, .mov (.c (.bool false))⟩] (some [1]))
 (.seq
 (.seq
 (.reg [⟨some 3, none, .fa 2 (.t 1)⟩,
 ⟨some 4, none, .ld none (.t 3)⟩,
 ⟨some 5, none, .bin .lss .none (.t 4) (.c (.int .i64 1))⟩,
 ⟨some 6, none, .mov (.t 5)⟩,
 ⟨some 7, some (6, false), .fa 2 (.t 1)⟩,
 ⟨some 8, some (6, false), .ld none (.t 7)⟩,
 ⟨some 9, some (6, false), .bin .gtr .none (.t 8) (.c (.int .i64 65535))⟩,
 ⟨some 10, none, .pick (.t 6) (.c (.bool true)) (.t 9)⟩,
 ⟨some 11, none, .mov (.t 10)⟩,
 ⟨some 12, some (11, false), .fa 3 (.t 1)⟩,
 ⟨some 13, some (11, false), .ld none (.t 12)⟩,
 ⟨some 14, some (11, false), .bin .lss .none (.t 13) (.c (.int .i64 1))⟩,
 ⟨some 15, none, .pick (.t 11) (.c (.bool true)) (.t 14)⟩,
 ⟨some 16, none, .mov (.t 15)⟩,
 ⟨some 17, some (16, false), .fa 3 (.t 1)⟩,
 ⟨some 18, some (16, false), .ld none (.t 17)⟩,
 ⟨some 19, some (16, false), .bin .gtr .none (.t 18) (.c (.int .i64 65535))⟩,
 ⟨some 20, none, .pick (.t 16) (.c (.bool true)) (.t 19)⟩,
 ⟨some 21, none, .mov (.t 20)⟩,
 ⟨some 22, some (21, false), .fa 4 (.t 1)⟩,
 ⟨some 23, some (21, false), .ld none (.t 22)⟩,
 ⟨some 24, some (21, false), .bin .lss .none (.t 23) (.c (.int .i64 0))⟩,
 ⟨some 25, none, .pick (.t 21) (.c (.bool true)) (.t 24)⟩,
 ⟨some 26, none, .mov (.t 25)⟩,
 ⟨some 27, some (26, false), .fa 4 (.t 1)⟩,
 ⟨some 28, some (26, false), .ld none (.t 27)⟩,
 ⟨some 29, some (26, false), .bin .gtr .none (.t 28) (.c (.int .i64 255))⟩,
 ⟨some 30, none, .pick (.t 26) (.c (.bool true)) (.t 29)⟩] (some [1, 30]))
 (.cond (.t 30)
 (.seq
 (.reg [⟨some 2, none, .mov (.c (.bool false))⟩] (some [2]))
 .ret)
 .skip))
 (.seq
 (.seq
 (.reg [⟨some 31, none, .fa 1 (.t 1)⟩,
 ⟨some 32, none, .ld none (.t 31)⟩] (some [1, 32]))
 (.blk 0
 (.seq
 (.reg [⟨some 34, none, .bin .eql .none (.t 32) (.c (.int .i64 1))⟩,
 ⟨some 33, none, .mov (.t 34)⟩] (some [1, 32, 33]))
 (.cond (.t 33)
 (.seq
 (.reg [⟨some 35, none, .fa 0 (.t 1)⟩,
 ⟨some 36, none, .ld none (.t 35)⟩,
 ⟨some 37, none, .bin .geq .none (.t 36) (.c (.int .i64 1))⟩,
 ⟨some 38, none, .mov (.t 37)⟩,
 ⟨some 39, some (38, true), .fa 0 (.t 1)⟩,
 ⟨some 40, some (38, true), .ld none (.t 39)⟩,
 ⟨some 41, some (38, true), .bin .leq .none (.t 40) (.c (.int .i64 11))⟩,
 ⟨some 42, none, .pick (.t 38) (.t 41) (.c (.bool false))⟩,
 ⟨some 2, none, .mov (.t 42)⟩] (some [2]))
 .ret)
 (.seq
 (.reg [⟨some 44, none, .bin .eql .none (.t 32) (.c (.int .i64 3))⟩,
 ⟨some 43, none, .mov (.t 44)⟩] (some [1, 43]))
 (.cond (.t 43)
 (.seq
 (.reg [⟨some 45, none, .fa 0 (.t 1)⟩,
 ⟨some 46, none, .ld none (.t 45)⟩,
 ⟨some 47, none, .call (.c (.fn (.func 38) [] [])) [(.t 46)]⟩,
 ⟨some 2, none, .mov (.t 47)⟩] (some [2]))
 .ret)
 .skip))))))
 (.seq
 (.reg [⟨some 48, none, .fa 1 (.t 1)⟩,
 ⟨some 49, none, .ld none (.t 48)⟩,
 ⟨some 50, none, .bin .eql .none (.t 49) (.c (.int .i64 4))⟩,
 ⟨some 51, none, .mov (.t 50)⟩,
 ⟨some 52, some (51, true), .fa 0 (.t 1)⟩,
 ⟨some 53, some (51, true), .ld none (.t 52)⟩,
 ⟨some 54, some (51, true), .bin .eql .none (.t 53) (.c (.int .i64 0))⟩,
 ⟨some 55, some (51, true), .mov (.t 54)⟩,
 ⟨some 56, some (55, false), .fa 0 (.t 1)⟩,
 ⟨some 57, some (55, false), .ld none (.t 56)⟩,
 ⟨some 58, some (55, false), .call (.c (.fn (.func 38) [] [])) [(.t 57)]⟩,
 ⟨some 59, some (51, true), .pick (.t 55) (.c (.bool true)) (.t 58)⟩,
 ⟨some 60, none, .pick (.t 51) (.t 59) (.c (.bool false))⟩,
 ⟨some 2, none, .mov (.t 60)⟩] (some [2]))
 .ret))))
theorem is_clavierref15May : IrOf Tryz.prog 20 61 ir_clavierref15May [.t 2] := ⟨_, Tryz.func20, rfl, by kernel_rfl, by kernel_rfl, by kernel_rfl⟩

theorem fs_rButton {Gl : Gh → Prop} (hst : Stays Gl) {n : Int} : FS Tryz.prog Gl 38 [.int .i64 n] [] [] (.bool (btnM n)) [] [] := by
  refine FS.of hm hst is_clavierref15button (by simp) fun γ hγ hfr => ?_
  have hz : btnM n = ((decide (n ≥ 1) && decide (n ≤ 3)) || (decide (n ≥ 8) && decide (n ≤ 11))) := rfl
  (generalize hQ : (fun (ex : Ex) (_ _ : Nat) (s : St) => _) = Q; unfold ir_clavierref15button)
  simp +contextual (maxSteps := 1000000) only [go_sem, reduceCtorEq, ↓reduceIte, Nat.reduceAdd, Nat.reduceEqDiff, Nat.reduceLeDiff, Nat.reduceMul, Nat.reduceBEq, Int.reduceBEq, Int.reduceBNe, Int.reduceLT, Int.reduceLE, Int.reduceGT, Int.reduceGE, Int.reduceToNat]
  rw [← hQ, hz]
  exact ⟨trivial, Ret.flat rfl rfl⟩
theorem fs_rMMay {Gl : Gh → Prop} (hst : Stays Gl) {e : Mo} : FS Tryz.prog Gl 20 [.agg (moAV e)] [] [] (.bool (mayM e)) [] [] := by
  refine FS.of hm hst is_clavierref15May (by simp) fun γ hγ hfr => ?_
  have hmo : moAV e = [.int .i64 e.button, .int .i64 e.type, .int .i64 e.x, .int .i64 e.y, .int .i64 e.mods] := rfl
  have c1 := fs_rButton (Gl := Gl) hst (n := e.button)
  have hcp : cellM e = !(((((decide (e.x < 1) || decide (e.x > 65535)) || decide (e.y < 1)) || decide (e.y > 65535)) || decide (e.mods < 0)) || decide (e.mods > 255)) := by
    unfold cellM
    rw [Bool.eq_iff_iff]
    simp only [Bool.and_eq_true, Bool.not_eq_true', Bool.or_eq_false_iff, decide_eq_true_eq, decide_eq_false_iff_not]
    omega
  have hz : mayM e = (cellM e && kindM e) := rfl
  simp only [hmo]
  (generalize hQ : (fun (ex : Ex) (_ _ : Nat) (s : St) => _) = Q; unfold ir_clavierref15May)
  simp +contextual (maxSteps := 1000000) only [go_sem, reduceCtorEq, ↓reduceIte, Nat.reduceAdd, Nat.reduceEqDiff, Nat.reduceLeDiff, Nat.reduceMul, Nat.reduceBEq, Int.reduceBEq, Int.reduceBNe, Int.reduceLT, Int.reduceLE, Int.reduceGT, Int.reduceGE, Int.reduceToNat]
  cases hC : (((((decide (e.x < 1) || decide (e.x > 65535)) || decide (e.y < 1)) || decide (e.y > 65535)) || decide (e.mods < 0)) || decide (e.mods > 255)) with
  | true =>
    rw [hC] at hcp
    simp +contextual (maxSteps := 1000000) only [hC, go_sem, reduceCtorEq, ↓reduceIte, Nat.reduceAdd, Nat.reduceEqDiff, Nat.reduceLeDiff, Nat.reduceMul, Nat.reduceBEq, Int.reduceBEq, Int.reduceBNe, Int.reduceLT, Int.reduceLE, Int.reduceGT, Int.reduceGE, Int.reduceToNat]
    rw [← hQ, hz, hcp]
    exact ⟨trivial, Ret.flat rfl rfl⟩
  | false =>
    rw [hC] at hcp
    have hz : mayM e = kindM e := by rw [hz, hcp]; rfl
    have fin : ∀ {b : Bool} {γ' c' : Nat} {st : St}, st.F 2 = .bool b → b = kindM e → Q .ret γ' c' st := by
      intro b γ' c' st h hb
      rw [← hQ, hz, ← hb]
      exact ⟨trivial, Ret.flat (by simp only [resOf, getAll, IRes.get, h]) rfl⟩
    by_cases t1 : e.type = 1
    · have q1 : (e.type == 1) = true := beq_iff_eq.2 t1
      simp +contextual (maxSteps := 1000000) only [hC, q1, go_sem, reduceCtorEq, ↓reduceIte, Nat.reduceAdd, Nat.reduceEqDiff, Nat.reduceLeDiff, Nat.reduceMul, Nat.reduceBEq, Int.reduceBEq, Int.reduceBNe, Int.reduceLT, Int.reduceLE, Int.reduceGT, Int.reduceGE, Int.reduceToNat]
      refine fin rfl ?_
      unfold kindM
      rw [if_pos t1]
    · have q1 : (e.type == 1) = false := beq_eq_false_iff_ne.2 t1
      by_cases t3 : e.type = 3
      · have q3 : (e.type == 3) = true := beq_iff_eq.2 t3
        simp +contextual (maxSteps := 1000000) only [hC, q1, q3, go_sem, reduceCtorEq, ↓reduceIte, Nat.reduceAdd, Nat.reduceEqDiff, Nat.reduceLeDiff, Nat.reduceMul, Nat.reduceBEq, Int.reduceBEq, Int.reduceBNe, Int.reduceLT, Int.reduceLE, Int.reduceGT, Int.reduceGE, Int.reduceToNat]
        (refine CallP.pure (c1) (fun _ => rfl) ?_; simp +contextual (maxSteps := 1000000) only [go_sem, reduceCtorEq, ↓reduceIte, Nat.reduceAdd, Nat.reduceEqDiff, Nat.reduceLeDiff, Nat.reduceMul, Nat.reduceBEq, Int.reduceBEq, Int.reduceBNe, Int.reduceLT, Int.reduceLE, Int.reduceGT, Int.reduceGE, Int.reduceToNat])
        refine fin rfl ?_
        unfold kindM
        rw [if_neg t1, if_pos t3]
      · have q3 : (e.type == 3) = false := beq_eq_false_iff_ne.2 t3
        by_cases t4 : e.type = 4
        · have q4 : (e.type == 4) = true := beq_iff_eq.2 t4
          cases b0 : (e.button == 0) with
          | true =>
            simp +contextual (maxSteps := 1000000) only [hC, q1, q3, q4, b0, go_sem, reduceCtorEq, ↓reduceIte, Nat.reduceAdd, Nat.reduceEqDiff, Nat.reduceLeDiff, Nat.reduceMul, Nat.reduceBEq, Int.reduceBEq, Int.reduceBNe, Int.reduceLT, Int.reduceLE, Int.reduceGT, Int.reduceGE, Int.reduceToNat]
            refine fin rfl ?_
            unfold kindM
            rw [if_neg t1, if_neg t3, q4, b0]; rfl
          | false =>
            simp +contextual (maxSteps := 1000000) only [hC, q1, q3, q4, b0, go_sem, reduceCtorEq, ↓reduceIte, Nat.reduceAdd, Nat.reduceEqDiff, Nat.reduceLeDiff, Nat.reduceMul, Nat.reduceBEq, Int.reduceBEq, Int.reduceBNe, Int.reduceLT, Int.reduceLE, Int.reduceGT, Int.reduceGE, Int.reduceToNat]
            (refine CallP.pure (c1) (fun _ => rfl) ?_; simp +contextual (maxSteps := 1000000) only [go_sem, reduceCtorEq, ↓reduceIte, Nat.reduceAdd, Nat.reduceEqDiff, Nat.reduceLeDiff, Nat.reduceMul, Nat.reduceBEq, Int.reduceBEq, Int.reduceBNe, Int.reduceLT, Int.reduceLE, Int.reduceGT, Int.reduceGE, Int.reduceToNat])
            refine fin rfl ?_
            unfold kindM
            rw [if_neg t1, if_neg t3, q4, b0]; rfl
        · have q4 : (e.type == 4) = false := beq_eq_false_iff_ne.2 t4
          simp +contextual (maxSteps := 1000000) only [hC, q1, q3, q4, go_sem, reduceCtorEq, ↓reduceIte, Nat.reduceAdd, Nat.reduceEqDiff, Nat.reduceLeDiff, Nat.reduceMul, Nat.reduceBEq, Int.reduceBEq, Int.reduceBNe, Int.reduceLT, Int.reduceLE, Int.reduceGT, Int.reduceGE, Int.reduceToNat]
          refine fin rfl ?_
          unfold kindM
          rw [if_neg t1, if_neg t3, q4]; rfl
end Go.Proofs.YtfnngjnfajnpaaaGreatDoor

