/- Part 3 of 3 of a proof: the given statement WirePuts, whatever the input that its row lets in. Conditions: those of the given row and card alone. -/
import Derived.Test.YtcdkcfpgdbjogaaDoorPWirePuts2
import Derived.Test.YtcdkcfpgdbjogaaDoorPWirePutsAb13
import Derived.WalkKit
import Derived.ProofKit
import Derived.SizedLaws
import Derived.Test.YtcdkcfpgdbjogaaDoorRows
import Derived.LaidSub
import Derived.Lib.LaidTab
import Derived.Lib.ItoaNum
import Derived.MakeChecks
import Derived.Test.YtcdkcfpgdbjogaaDoorCards
import Derived.Test.YtcdkcfpgdbjogaaDoorTie
import Derived.Deep.DeepHandedRow
import Derived.JoinedCond
import Derived.OpenShut
import Derived.ShutString
import Derived.ChangeOld
import Derived.Below
import Derived.Lay
import Derived.LaidOnce
import Derived.SevenTiedAt
set_option linter.unusedVariables false
set_option linter.unusedSimpArgs false
set_option maxRecDepth 100000
namespace Go.Proofs.YtcdkcfpgdbjogaaDoor
open Go Go.Ab
def ir_wirecursorpeek : ICode :=
 (.seq
 (.reg [⟨some 2, none, .mov (.c (.int .u8 0))⟩] (some [0]))
 (.seq
 (.seq
 (.drw [⟨⟨some 3, none, .mov (.t 0)⟩, []⟩,
 ⟨⟨some 4, none, .nck (.t 3)⟩, [0]⟩,
 ⟨⟨some 5, none, .fa 1 (.t 4)⟩, [1]⟩,
 ⟨⟨some 6, none, .ld none (.t 5)⟩, [2]⟩,
 ⟨⟨some 7, none, .mov (.t 0)⟩, []⟩,
 ⟨⟨some 8, none, .nck (.t 7)⟩, [4]⟩,
 ⟨⟨some 9, none, .fa 0 (.t 8)⟩, [5]⟩,
 ⟨⟨some 10, none, .ld none (.t 9)⟩, [6]⟩,
 ⟨⟨some 11, none, .len (.t 10)⟩, [7]⟩,
 ⟨⟨some 12, none, .bin .geq .none (.t 6) (.t 11)⟩, [3, 8]⟩]
 [] (some [0, 12]))
 (.cond (.t 12)
 (.seq
 (.reg [⟨some 2, none, .mov (.c (.int .u8 0))⟩] (some [2]))
 .ret)
 .skip))
 (.seq
 (.drw [⟨⟨some 13, none, .mov (.t 0)⟩, []⟩,
 ⟨⟨some 14, none, .nck (.t 13)⟩, [0]⟩,
 ⟨⟨some 15, none, .fa 0 (.t 14)⟩, [1]⟩,
 ⟨⟨some 16, none, .ld none (.t 15)⟩, [2]⟩,
 ⟨⟨some 17, none, .mov (.t 0)⟩, []⟩,
 ⟨⟨some 18, none, .nck (.t 17)⟩, [4]⟩,
 ⟨⟨some 19, none, .fa 1 (.t 18)⟩, [5]⟩,
 ⟨⟨some 20, none, .ld none (.t 19)⟩, [6]⟩,
 ⟨⟨some 21, none, .ia 1 (.t 16) (.t 20)⟩, [3, 7]⟩,
 ⟨⟨some 22, none, .ld none (.t 21)⟩, [8]⟩]
 [⟨some 2, none, .mov (.t 22)⟩] (some [2]))
 .ret)))
theorem is_wirecursorpeek : IrOf Tryd.prog 38 23 ir_wirecursorpeek [.t 2] := ⟨_, Tryd.func38, rfl, by kernel_rfl, by kernel_rfl, by kernel_rfl⟩

def ir_wirecursornext : ICode :=
 (.seq
 (.reg [⟨some 2, none, .mov (.c (.int .u8 0))⟩] (some [0]))
 (.seq
 (.reg [⟨some 4, none, .mov (.t 0)⟩,
 ⟨some 5, none, .call (.c (.fn (.func 38) [] [])) [(.t 4)]⟩,
 ⟨some 3, none, .mov (.t 5)⟩] (some [0, 3]))
 (.seq
 (.reg [⟨some 6, none, .mov (.t 0)⟩,
 ⟨some 7, none, .nck (.t 6)⟩,
 ⟨some 8, none, .fa 1 (.t 7)⟩,
 ⟨some 9, none, .ld none (.t 8)⟩,
 ⟨some 10, none, .bin .add .none (.t 9) (.c (.int .i64 1))⟩,
 ⟨some 11, none, .nck (.t 6)⟩,
 ⟨some 12, none, .fa 1 (.t 11)⟩,
 ⟨none, none, .st 1 (.t 12) (.t 10)⟩] (some [3]))
 (.seq
 (.reg [⟨some 13, none, .mov (.t 3)⟩,
 ⟨some 2, none, .mov (.t 13)⟩] (some [2]))
 .ret))))
theorem is_wirecursornext : IrOf Tryd.prog 37 14 ir_wirecursornext [.t 2] := ⟨_, Tryd.func37, rfl, by kernel_rfl, by kernel_rfl, by kernel_rfl⟩

/- (*clavier/wire.cursor).run -/
def ir_wirecursorrun_l0 : ICode :=
 (.seq
 (.seq
 (.drw [⟨⟨some 12, none, .mov (.t 0)⟩, []⟩,
 ⟨⟨some 13, none, .nck (.t 12)⟩, [0]⟩,
 ⟨⟨some 14, none, .fa 1 (.t 13)⟩, [1]⟩,
 ⟨⟨some 15, none, .ld none (.t 14)⟩, [2]⟩,
 ⟨⟨some 16, none, .mov (.t 0)⟩, []⟩,
 ⟨⟨some 17, none, .nck (.t 16)⟩, [4]⟩,
 ⟨⟨some 18, none, .fa 0 (.t 17)⟩, [5]⟩,
 ⟨⟨some 19, none, .ld none (.t 18)⟩, [6]⟩,
 ⟨⟨some 20, none, .len (.t 19)⟩, [7]⟩,
 ⟨⟨some 21, none, .bin .lss .none (.t 15) (.t 20)⟩, [3, 8]⟩,
 ⟨⟨some 22, none, .mov (.t 21)⟩, [9]⟩,
 ⟨⟨some 23, some (22, true), .mov (.t 0)⟩, [10]⟩,
 ⟨⟨some 24, some (22, true), .nck (.t 23)⟩, [11, 10]⟩,
 ⟨⟨some 25, some (22, true), .fa 0 (.t 24)⟩, [12, 10]⟩,
 ⟨⟨some 26, some (22, true), .ld none (.t 25)⟩, [13, 10]⟩,
 ⟨⟨some 27, some (22, true), .mov (.t 0)⟩, [10]⟩,
 ⟨⟨some 28, some (22, true), .nck (.t 27)⟩, [15, 10]⟩,
 ⟨⟨some 29, some (22, true), .fa 1 (.t 28)⟩, [16, 10]⟩,
 ⟨⟨some 30, some (22, true), .ld none (.t 29)⟩, [17, 10]⟩,
 ⟨⟨some 31, some (22, true), .ia 1 (.t 26) (.t 30)⟩, [14, 18, 10]⟩,
 ⟨⟨some 32, some (22, true), .ld none (.t 31)⟩, [19, 10]⟩,
 ⟨⟨some 33, some (22, true), .mov (.t 1)⟩, [10]⟩,
 ⟨⟨some 34, some (22, true), .bin .geq .none (.t 32) (.t 33)⟩, [20, 21, 10]⟩,
 ⟨⟨some 35, none, .pick (.t 22) (.t 34) (.c (.bool false))⟩, [10, 22]⟩,
 ⟨⟨some 36, none, .mov (.t 35)⟩, [23, 10]⟩,
 ⟨⟨some 37, some (36, true), .mov (.t 0)⟩, [24]⟩,
 ⟨⟨some 38, some (36, true), .nck (.t 37)⟩, [25, 24]⟩,
 ⟨⟨some 39, some (36, true), .fa 0 (.t 38)⟩, [26, 24]⟩,
 ⟨⟨some 40, some (36, true), .ld none (.t 39)⟩, [27, 24]⟩,
 ⟨⟨some 41, some (36, true), .mov (.t 0)⟩, [24]⟩,
 ⟨⟨some 42, some (36, true), .nck (.t 41)⟩, [29, 24]⟩,
 ⟨⟨some 43, some (36, true), .fa 1 (.t 42)⟩, [30, 24]⟩,
 ⟨⟨some 44, some (36, true), .ld none (.t 43)⟩, [31, 24]⟩,
 ⟨⟨some 45, some (36, true), .ia 1 (.t 40) (.t 44)⟩, [28, 32, 24]⟩,
 ⟨⟨some 46, some (36, true), .ld none (.t 45)⟩, [33, 24]⟩,
 ⟨⟨some 47, some (36, true), .mov (.t 2)⟩, [24]⟩,
 ⟨⟨some 48, some (36, true), .bin .leq .none (.t 46) (.t 47)⟩, [34, 35, 24]⟩,
 ⟨⟨some 49, none, .pick (.t 36) (.t 48) (.c (.bool false))⟩, [24, 36]⟩]
 [] (some [0, 1, 2, 7, 49]))
 (.cond (.t 49)
 .skip
 (.exit 0)))
 (.blk 1
 (.reg [⟨some 50, none, .mov (.t 0)⟩,
 ⟨some 51, none, .nck (.t 50)⟩,
 ⟨some 52, none, .fa 1 (.t 51)⟩,
 ⟨some 53, none, .ld none (.t 52)⟩,
 ⟨some 54, none, .bin .add .none (.t 53) (.c (.int .i64 1))⟩,
 ⟨some 55, none, .nck (.t 50)⟩,
 ⟨some 56, none, .fa 1 (.t 55)⟩,
 ⟨none, none, .st 1 (.t 56) (.t 54)⟩] (some [0, 1, 2, 7]))))
def ir_wirecursorrun : ICode :=
 (.seq
 (.reg [⟨some 6, none, .mov (.c (.str []))⟩] (some [0, 1, 2]))
 (.seq
 (.reg [⟨some 8, none, .mov (.t 0)⟩,
 ⟨some 9, none, .nck (.t 8)⟩,
 ⟨some 10, none, .fa 1 (.t 9)⟩,
 ⟨some 11, none, .ld none (.t 10)⟩,
 ⟨some 7, none, .mov (.t 11)⟩] (some [0, 1, 2, 7]))
 (.seq
 (.blk 0
 (.loop
 ir_wirecursorrun_l0))
 (.seq
 (.drw [⟨⟨some 57, none, .mov (.t 0)⟩, []⟩,
 ⟨⟨some 58, none, .nck (.t 57)⟩, [0]⟩,
 ⟨⟨some 59, none, .fa 0 (.t 58)⟩, [1]⟩,
 ⟨⟨some 60, none, .ld none (.t 59)⟩, [2]⟩,
 ⟨⟨some 61, none, .mov (.t 7)⟩, []⟩,
 ⟨⟨some 62, none, .mov (.t 0)⟩, []⟩,
 ⟨⟨some 63, none, .nck (.t 62)⟩, [5]⟩,
 ⟨⟨some 64, none, .fa 1 (.t 63)⟩, [6]⟩,
 ⟨⟨some 65, none, .ld none (.t 64)⟩, [7]⟩,
 ⟨⟨some 66, none, .sll 1 (.t 60) (some (.t 61)) (some (.t 65)) none⟩, [3, 4, 8]⟩,
 ⟨⟨some 67, none, .b2s (.t 66)⟩, [9]⟩]
 [⟨some 6, none, .mov (.t 67)⟩] (some [6]))
 .ret))))
theorem is_wirecursorrun : IrOf Tryd.prog 41 68 ir_wirecursorrun [.t 6] := ⟨_, Tryd.func41, rfl, by kernel_rfl, by kernel_rfl, by kernel_rfl⟩

def pw (ps : List (List Int)) : AV := match ps with
  | [] => .nils
  | p :: l => parsV (p :: l)
theorem pw_le (ps : List (List Int)) : RepLe (pw ps) (parsV ps) := by
  cases ps with
  | nil => exact RepLe.nils 1
  | cons p l => exact RepLe.refl _
theorem pw_one (ps : List (List Int)) : (pw ps).one = true := by cases ps <;> rfl
theorem pw_cells (ps : List (List Int)) : (pw ps).cells = [pw ps] := by cases ps <;> rfl
theorem pw_rn {f : Nat → Nm} (ps : List (List Int)) : Ab.rn f (pw ps) = pw ps := by cases ps <;> rfl
theorem pw_ok {m : Nat} {L T : List Nm} (ps : List (List Int)) : (pw ps).okIn m L T := by cases ps <;> trivial
def rdC (b : List UInt8) (n : Nat) (s : Sq) : List AV := [.sl none 1 (bytesAV b), .int .i64 n, .int .i64 s.k, .int .u8 s.pr, pw s.ps, .str s.it, .int .u8 s.fi, .str s.da]
theorem rdC_rn {f : Nat → Nm} {b : List UInt8} {n : Nat} {s : Sq} : rnHB f (.cells (rdC b n s)) = .cells (rdC b n s) := by
  simp only [rnHB, rdC, rnL, Ab.rn, pw_rn]
theorem rdC_ok {m : Nat} {L T : List Nm} {b : List UInt8} {n : Nat} {s : Sq} : HB.okIn m L T (.cells (rdC b n s)) :=
  ⟨trivial, trivial, trivial, trivial, pw_ok _, trivial, trivial, trivial, trivial⟩
theorem nm_real {f : Nat → Nm} {n : Nm} (h : 1 ≤ n.1) : rnN f n = n := by unfold rnN; rw [if_neg]; omega
theorem nm_ok {m : Nat} {L : List Nm} {n : Nm} (h : 1 ≤ n.1) (hL : n ∈ L) : nmOK m L n := by unfold nmOK; rw [if_neg (by omega)]; exact hL
theorem Ret.rd {rs : List IRes} {p : Nm} {hb : HB} {y : AV} {b : List UInt8} {n : Nat} {s : Sq} {γ : Nat} {st : St} (h : resOf st rs = some y) (hy : y.flatT = true) (hp : 1 ≤ p.1) (hH : (p, .cells (rdC b n s)) ∈ st.H) : Ret rs [(p, hb)] [] y [(p, .cells (rdC b n s))] [] γ st := by
  refine Ret.plain h (flatT_rn hy) (fun q hq => ?_) (by simp) (flatT_ok hy) (fun q hq => ?_) (by simp)
  · simp only [List.mem_singleton] at hq; subst hq
    exact ⟨hH, nm_real hp, rdC_rn⟩
  · simp only [List.mem_singleton] at hq; subst hq
    exact ⟨nm_ok hp (by simp), rdC_ok⟩
theorem CallP.rd {Gl : Gh → Prop} {k : FuncId} {args : List AV} {p : Nm} {Ha : Hp} {b : List UInt8} {n n' : Nat} {s s' : Sq} {y : AV} {T : Tk} {f : Nat → Nm} {K : AV → Hp → Tk → Prop} (h : FS Tryd.prog Gl k args [(p, .cells (rdC b n s))] [] y [(p, .cells (rdC b n' s'))] []) (hp : 1 ≤ p.1) (hy : y.flatT = true) (hap : ∀ q ∈ Ha, p ≠ q.1)
    (hK : K y (Ha ++ [(p, .cells (rdC b n' s'))]) T) : CallP Tryd.prog Gl k args (Ha ++ [(p, .cells (rdC b n s))]) T f K := by
  refine CallG.split h (by simp) (fun q hq u hu => by simp only [List.mem_singleton] at hu; subst hu; exact hap q hq) ?_
  rintro r H1 T1 ⟨rfl, rfl, rfl⟩
  have e2 : (fun s => s ∈ ([] : List Nm).map (rnN f) ∨ (T s ∧ s ∉ ([] : List Nm))) = T := by funext s; simp
  rw [flatT_rn hy, e2]
  simp only [rnH, List.map_cons, List.map_nil, nm_real hp, rdC_rn]
  exact hK

def peekW (b : List UInt8) (n : Nat) : UInt8 := (b.drop n).headD 0
theorem peek_lt {b : List UInt8} {n : Nat} (h : n < b.length) : peekW b n = b[n] := by
  unfold peekW; rw [List.drop_eq_getElem_cons h]; rfl
theorem peek_ge {b : List UInt8} {n : Nat} (h : b.length ≤ n) : peekW b n = 0 := by
  unfold peekW; rw [List.drop_eq_nil_of_le h]; rfl
theorem fs_peek {Gl : Gh → Prop} (hst : Stays Gl) {p : Nm} (hp : 1 ≤ p.1) {b : List UInt8} {n : Nat} {s : Sq} : FS Tryd.prog Gl 38 [.ptr p 0] [(p, .cells (rdC b n s))] [] (.int .u8 (peekW b n).toNat) [(p, .cells (rdC b n s))] [] := by
  refine FS.of hm hst is_wirecursorpeek (by simp) fun γ hγ hfr => ?_
  (generalize hQ : (fun (ex : Ex) (_ _ : Nat) (s : St) => _) = Q; unfold ir_wirecursorpeek)
  by_cases hlt : n < b.length
  · have hd : decide ((n : Int) ≥ (b.length : Int)) = false := by simp; omega
    have hget := bb_get hlt
    simp only [rdC]
    simp +contextual (maxSteps := 1000000) only [hd, bytesAV_length', hget, Int.toNat_natCast, go_sem, reduceCtorEq, ↓reduceIte, Nat.reduceAdd, Nat.reduceEqDiff]
    refine ⟨by omega, ?_⟩
    rw [← hQ, peek_lt hlt]
    exact ⟨trivial, Ret.rd rfl rfl hp (by simp [rdC])⟩
  · have hd : decide ((n : Int) ≥ (b.length : Int)) = true := by simp; omega
    simp only [rdC]
    simp +contextual (maxSteps := 1000000) only [hd, bytesAV_length', go_sem, reduceCtorEq, ↓reduceIte, Nat.reduceAdd, Nat.reduceEqDiff]
    rw [← hQ, peek_ge (by omega)]
    exact ⟨trivial, Ret.rd rfl rfl hp (by simp [rdC])⟩
theorem fs_next {Gl : Gh → Prop} (hst : Stays Gl) {p : Nm} (hp : 1 ≤ p.1) {b : List UInt8} {n : Nat} {s : Sq} (hn : n < 4611686018427387904) : FS Tryd.prog Gl 37 [.ptr p 0] [(p, .cells (rdC b n s))] [] (.int .u8 (peekW b n).toNat) [(p, .cells (rdC b (n + 1) s))] [] := by
  refine FS.of hm hst is_wirecursornext (by simp) fun γ hγ hfr => ?_
  have hw : IntKind.i64.wrap ((n : Int) + 1) = ((n + 1 : Nat) : Int) := by rw [IntKind.wrap_i64]; omega
  (generalize hQ : (fun (ex : Ex) (_ _ : Nat) (s : St) => _) = Q; unfold ir_wirecursornext)
  simp +contextual (maxSteps := 1000000) only [go_sem, reduceCtorEq, ↓reduceIte, Nat.reduceAdd, Nat.reduceEqDiff, Nat.reduceLeDiff, Nat.reduceMul, Nat.reduceBEq, Int.reduceBEq, Int.reduceBNe, Int.reduceLT, Int.reduceLE, Int.reduceGT, Int.reduceGE, Int.reduceToNat]
  refine CallP.rd (Ha := []) (fs_peek hst hp) hp rfl (by simp) ?_
  simp only [rdC]
  simp +contextual (maxSteps := 1000000) only [hw, go_sem, reduceCtorEq, ↓reduceIte, Nat.reduceAdd, Nat.reduceEqDiff, Nat.reduceLeDiff, Nat.reduceMul, Nat.reduceBEq, Int.reduceBEq, Int.reduceBNe, Int.reduceLT, Int.reduceLE, Int.reduceGT, Int.reduceGE, Int.reduceToNat]
  rw [← hQ]
  exact ⟨trivial, Ret.rd rfl rfl hp (by simp [rdC])⟩
theorem runL_cons {x y : Nat} {c : UInt8} {l : List UInt8} (h : x ≤ c.toNat ∧ c.toNat ≤ y) : runL x y (c :: l) = c :: runL x y l := by
  unfold runL
  rw [List.takeWhile_cons, if_pos (by simpa using h)]
theorem fs_run {Gl : Gh → Prop} (hst : Stays Gl) {p : Nm} (hp : 1 ≤ p.1) {b : List UInt8} {n : Nat} {s : Sq} {x y : Nat} (hn : n ≤ b.length) (hb : b.length < 4611686018427387904) : FS Tryd.prog Gl 41 [.ptr p 0, .int .u8 x, .int .u8 y] [(p, .cells (rdC b n s))] [] (.str (runL x y (b.drop n))) [(p, .cells (rdC b (n + (runL x y (b.drop n)).length) s))] [] := by
  refine FS.of hm hst is_wirecursorrun (by simp) fun γ hγ hfr => ?_
  (generalize hQ : (fun (ex : Ex) (_ _ : Nat) (s : St) => _) = Q; unfold ir_wirecursorrun)
  simp only [rdC]
  simp +contextual (maxSteps := 1000000) only [go_sem, reduceCtorEq, ↓reduceIte, Nat.reduceAdd, Nat.reduceEqDiff, Nat.reduceLeDiff, Nat.reduceMul, Nat.reduceBEq, Int.reduceBEq, Int.reduceBNe, Int.reduceLT, Int.reduceLE, Int.reduceGT, Int.reduceGE, Int.reduceToNat]
  refine kLoop_ix (fun i : Nat => ⟨lf [(0, .ptr p 0), (1, .int .u8 x), (2, .int .u8 y), (7, .int .i64 n)], [(p, .cells (rdC b (n + i) s))], fun x => x ∈ []⟩) (fun i => n + i ≤ b.length ∧ runL x y (b.drop n) = (b.drop n).take i ++ runL x y (b.drop (n + i))) (fun i => b.length - (n + i)) 0 0 ?_ ⟨by omega, by simp⟩ ?_
  · refine Wk.same ?_
    (simp only [lfOK, upd, initF]; repeat' first | exact AVle.refl _ _ | exact trivial | refine And.intro ?_ ?_ | exact AVle.int (by simp only [IntKind.wrap_i64]; omega))
  rintro γ' i hf ⟨hi, hr⟩
  generalize hQ' : kIt _ _ _ _ _ = Q'
  have fin : runL x y (b.drop (n + i)) = [] → ∀ γ c F, F 0 = .ptr p 0 → F 7 = .int .i64 n → Q' (.exit 0) γ c ⟨F, [(p, .cells [.sl none 1 (bytesAV b), .int .i64 ((n + i : Nat) : Int), .int .i64 s.k, .int .u8 s.pr, pw s.ps, .str s.it, .int .u8 s.fi, .str s.da])], fun x => x ∈ []⟩ := by
    intro h0 γ c F h1 h2
    rw [h0, List.append_nil] at hr
    have hl : (runL x y (b.drop n)).length = i := by rw [hr, List.length_take, List.length_drop]; omega
    have e1 : ((b.take (n + i)).drop n).take i = (b.drop n).take i := by rw [List.drop_take, List.take_take]; congr 1; omega
    have e2 : (b.take (n + i)).drop n = runL x y (b.drop n) := by rw [hr, List.drop_take]; congr 1; omega
    rw [← hQ']
    simp only [w_kIt_e, w_kBlk_e, ↓reduceIte]
    simp +contextual (maxSteps := 1000000) only [h1, h2, bytesAV_take, bytesAV_drop, Int.toNat_natCast, bb_un, bb_is, bytesAV_length', go_sem, reduceCtorEq, ↓reduceIte, Nat.reduceAdd, Nat.reduceEqDiff, Nat.reduceLeDiff, Nat.reduceMul, Nat.reduceBEq, Int.reduceBEq, Int.reduceBNe, Int.reduceLT, Int.reduceLE, Int.reduceGT, Int.reduceGE, Int.reduceToNat]
    refine ⟨⟨by omega, by omega, by omega⟩, ?_⟩
    rw [← hQ, hl]
    refine ⟨trivial, Ret.rd (by simp only [resOf, getAll, IRes.get, lf_cons, ↓reduceIte, e2]) rfl hp (by simp [rdC])⟩
  unfold ir_wirecursorrun_l0
  simp only [rdC]
  by_cases hlt : n + i < b.length
  · have hd : decide (((n + i : Nat) : Int) < (b.length : Int)) = true := by simp; omega
    have hget := bb_get hlt
    have hdrop : b.drop (n + i) = b[n + i] :: b.drop (n + i + 1) := List.drop_eq_getElem_cons hlt
    have hw : IntKind.i64.wrap (((n + i : Nat) : Int) + 1) = ((n + (i + 1) : Nat) : Int) := by rw [IntKind.wrap_i64]; omega
    by_cases hx : x ≤ (b[n + i]).toNat
    · have hx' : decide (((b[n + i]).toNat : Int) ≥ (x : Int)) = true := by simp; omega
      by_cases hy : (b[n + i]).toNat ≤ y
      · have hy' : decide (((b[n + i]).toNat : Int) ≤ (y : Int)) = true := by simp; omega
        simp +contextual (maxSteps := 1000000) only [hd, bytesAV_length', hget, hx', hy', hw, Int.toNat_natCast, go_sem, reduceCtorEq, ↓reduceIte, Nat.reduceAdd, Nat.reduceEqDiff, Nat.reduceLeDiff, Nat.reduceMul, Nat.reduceBEq, Int.reduceBEq, Int.reduceBNe, Int.reduceLT, Int.reduceLE, Int.reduceGT, Int.reduceGE, Int.reduceToNat]
        refine ⟨by omega, by omega, ?_⟩
        rw [← hQ']
        simp only [w_kIt_n]
        refine ⟨0, i + 1, Wk.same ?_, ⟨by omega, ?_⟩, by omega⟩
        · repeat' first | exact AVle.refl _ _ | exact trivial | refine And.intro ?_ ?_ | exact AVle.int (by simp only [IntKind.wrap_i64]; omega)
        · rw [hr, hdrop, runL_cons ⟨hx, hy⟩, List.take_add_one, List.getElem?_drop, List.getElem?_eq_getElem hlt, List.append_assoc]
          rfl
      · have hy' : decide (((b[n + i]).toNat : Int) ≤ (y : Int)) = false := by simp; omega
        simp +contextual (maxSteps := 1000000) only [hd, bytesAV_length', hget, hx', hy', Int.toNat_natCast, go_sem, reduceCtorEq, ↓reduceIte, Nat.reduceAdd, Nat.reduceEqDiff, Nat.reduceLeDiff, Nat.reduceMul, Nat.reduceBEq, Int.reduceBEq, Int.reduceBNe, Int.reduceLT, Int.reduceLE, Int.reduceGT, Int.reduceGE, Int.reduceToNat]
        refine ⟨by omega, by omega, ?_⟩
        exact fin (runL_nil fun c hc => by rw [hdrop, List.head?_cons] at hc; cases hc; omega) _ _ _ rfl rfl
    · have hx' : decide (((b[n + i]).toNat : Int) ≥ (x : Int)) = false := by simp; omega
      simp +contextual (maxSteps := 1000000) only [hd, bytesAV_length', hget, hx', Int.toNat_natCast, go_sem, reduceCtorEq, ↓reduceIte, Nat.reduceAdd, Nat.reduceEqDiff, Nat.reduceLeDiff, Nat.reduceMul, Nat.reduceBEq, Int.reduceBEq, Int.reduceBNe, Int.reduceLT, Int.reduceLE, Int.reduceGT, Int.reduceGE, Int.reduceToNat]
      refine ⟨by omega, ?_⟩
      exact fin (runL_nil fun c hc => by rw [hdrop, List.head?_cons] at hc; cases hc; omega) _ _ _ rfl rfl
  · have hd : decide (((n + i : Nat) : Int) < (b.length : Int)) = false := by simp; omega
    simp +contextual (maxSteps := 1000000) only [hd, bytesAV_length', go_sem, reduceCtorEq, ↓reduceIte, Nat.reduceAdd, Nat.reduceEqDiff, Nat.reduceLeDiff, Nat.reduceMul, Nat.reduceBEq, Int.reduceBEq, Int.reduceBNe, Int.reduceLT, Int.reduceLE, Int.reduceGT, Int.reduceGE, Int.reduceToNat]
    exact fin (by rw [List.drop_eq_nil_of_le (by omega)]; rfl) _ _ _ rfl rfl
end Go.Proofs.YtcdkcfpgdbjogaaDoor

namespace Go.Proofs.YtcdkcfpgdbjogaaDoor
open Go Go.Ab
theorem splitB_mem_len {c : UInt8} : ∀ {l : List UInt8} {p : List UInt8}, p ∈ splitB c l → p.length ≤ l.length
  | [], p, h => by simp [splitB] at h; simp [h]
  | d :: l, p, h => by
    simp only [splitB] at h
    split at h
    · rcases List.mem_cons.1 h with rfl | h
      · simp
      · have := splitB_mem_len h; simp; omega
    · split at h
      · rename_i q qs e
        rcases List.mem_cons.1 h with rfl | h
        · have := splitB_mem_len (c := c) (l := l) (p := q) (by rw [e]; simp); simp; omega
        · have := splitB_mem_len (c := c) (l := l) (p := p) (by rw [e]; simp [h]); simp; omega
      · simp at h; simp [h]
theorem splitB_len {c : UInt8} : ∀ {l : List UInt8}, (splitB c l).length ≤ l.length + 1
  | [] => by simp [splitB]
  | d :: l => by
    have ih := splitB_len (c := c) (l := l)
    simp only [splitB]
    split
    · simp; omega
    · split
      · rename_i q qs e; rw [e] at ih; simp at ih ⊢; omega
      · simp

end Go.Proofs.YtcdkcfpgdbjogaaDoor

namespace Go.Proofs.YtcdkcfpgdbjogaaDoor
open Go Go.Ab
def ir_wirenumber : ICode :=
 (.seq
 (.reg [⟨some 2, none, .mov (.c (.int .i64 0))⟩] (some [0]))
 (.seq
 (.seq
 (.reg [⟨some 5, none, .mov (.t 0)⟩,
 ⟨some 6, none, .bin .eql .none (.t 5) (.c (.str []))⟩] (some [0, 6]))
 (.cond (.t 6)
 (.seq
 (.reg [⟨some 2, none, .mov (.c (.int .i64 (-1)))⟩] (some [2]))
 .ret)
 .skip))
 (.seq
 (.reg [⟨some 8, none, .mov (.t 0)⟩,
 ⟨some 9, none, .s2b 5 (.t 8)⟩,
 ⟨some 10, none, .call (.c (.fn (.func 61) [] [])) [(.t 9)]⟩,
 ⟨some 7, none, .mov (.t 10)⟩,
 ⟨some 11, none, .ext (.t 7) 0⟩,
 ⟨some 12, none, .ext (.t 7) 1⟩,
 ⟨some 3, none, .mov (.t 11)⟩,
 ⟨some 4, none, .mov (.t 12)⟩] (some [3]))
 (.seq
 (.reg [⟨some 13, none, .mov (.t 3)⟩,
 ⟨some 2, none, .mov (.t 13)⟩] (some [2]))
 .ret))))
theorem is_wirenumber : IrOf Tryd.prog 51 14 ir_wirenumber [.t 2] := ⟨_, Tryd.func51, rfl, by kernel_rfl, by kernel_rfl, by kernel_rfl⟩

/- (*clavier/wire.reader).params -/
def ir_wirereaderparams_b0 : ICode :=
 (.blk 3
 (.drw [⟨⟨some 37, none, .ld none (.t 5)⟩, []⟩,
 ⟨⟨some 38, none, .mov (.t 6)⟩, []⟩,
 ⟨⟨some 39, none, .call (.c (.fn (.func 51) [] [])) [(.t 38)]⟩, [1]⟩,
 ⟨⟨some 40, none, .row 3 1 [(.t 39)]⟩, [2]⟩,
 ⟨⟨some 41, none, .app 3 1 8 (.t 37) (.t 40)⟩, [0, 3, 2]⟩]
 [⟨none, none, .st 1 (.t 5) (.t 41)⟩] (some [])))
def ir_wirereaderparams_b1 : ICode :=
 (.blk 1
 (.seq
 (.reg [⟨some 5, none, .box 43 (.c .nils)⟩] (some [1, 4, 5]))
 (.seq
 (.seq
 (.reg [⟨some 34, none, .mov (.t 4)⟩,
 ⟨some 35, none, .call (.c (.fn (.func 50) [] [])) [(.t 34), (.c (.str [58]))]⟩] (some [1, 5, 35]))
 (.blk 2
 (.rgf (.t 35) [36]
 (.reg [⟨some 6, none, .mov (.t 36)⟩] (some [5, 6]))
 ir_wirereaderparams_b0)))
 (.drw [⟨⟨some 42, none, .ld none (.t 1)⟩, []⟩,
 ⟨⟨some 43, none, .ld none (.t 1)⟩, []⟩,
 ⟨⟨some 44, none, .nck (.t 43)⟩, [1]⟩,
 ⟨⟨some 45, none, .fa 2 (.t 44)⟩, [2]⟩,
 ⟨⟨some 46, none, .fa 2 (.t 45)⟩, [3]⟩,
 ⟨⟨some 47, none, .ld none (.t 46)⟩, [4]⟩,
 ⟨⟨some 48, none, .ld none (.t 5)⟩, []⟩,
 ⟨⟨some 49, none, .row 43 1 [(.t 48)]⟩, [6]⟩,
 ⟨⟨some 50, none, .app 43 1 24 (.t 47) (.t 49)⟩, [5, 7]⟩]
 [⟨some 51, none, .nck (.t 42)⟩,
 ⟨some 52, none, .fa 2 (.t 51)⟩,
 ⟨some 53, none, .fa 2 (.t 52)⟩,
 ⟨none, none, .st 1 (.t 53) (.t 50)⟩] (some [])))))
def ir_wirereaderparams_t4 : ICode :=
 (.seq
 (.reg [⟨some 31, none, .mov (.t 3)⟩,
 ⟨some 32, none, .call (.c (.fn (.func 50) [] [])) [(.t 31), (.c (.str [59]))]⟩] (some [1, 32]))
 (.blk 0
 (.rgf (.t 32) [33]
 (.reg [⟨some 4, none, .mov (.t 33)⟩] (some [1, 4]))
 ir_wirereaderparams_b1)))
def ir_wirereaderparams_t3 : ICode :=
 (.seq
 (.seq
 (.reg [⟨some 29, none, .mov (.t 3)⟩,
 ⟨some 30, none, .bin .eql .none (.t 29) (.c (.str []))⟩] (some [1, 3, 30]))
 (.cond (.t 30)
 .ret
 .skip))
 ir_wirereaderparams_t4)
def ir_wirereaderparams_t2 : ICode :=
 (.seq
 (.reg [⟨some 25, none, .ld none (.t 1)⟩,
 ⟨some 26, none, .nck (.t 25)⟩,
 ⟨some 27, none, .fa 0 (.t 26)⟩,
 ⟨some 28, none, .call (.c (.fn (.func 41) [] [])) [(.t 27), (.c (.int .u8 48)), (.c (.int .u8 59))]⟩,
 ⟨some 3, none, .mov (.t 28)⟩] (some [1, 3]))
 ir_wirereaderparams_t3)
def ir_wirereaderparams_t1 : ICode :=
 (.seq
 (.seq
 (.reg [⟨some 7, none, .ld none (.t 1)⟩,
 ⟨some 8, none, .nck (.t 7)⟩,
 ⟨some 9, none, .fa 0 (.t 8)⟩,
 ⟨some 10, none, .call (.c (.fn (.func 38) [] [])) [(.t 9)]⟩,
 ⟨some 2, none, .mov (.t 10)⟩] (some [1, 2]))
 (.seq
 (.reg [⟨some 11, none, .mov (.t 2)⟩,
 ⟨some 12, none, .bin .geq .none (.t 11) (.c (.int .u8 60))⟩,
 ⟨some 13, none, .mov (.t 12)⟩,
 ⟨some 14, some (13, true), .mov (.t 2)⟩,
 ⟨some 15, some (13, true), .bin .leq .none (.t 14) (.c (.int .u8 63))⟩,
 ⟨some 16, none, .pick (.t 13) (.t 15) (.c (.bool false))⟩] (some [1, 16]))
 (.cond (.t 16)
 (.drwm [(), (), (), ()] [⟨⟨some 17, none, .ld none (.t 1)⟩, []⟩,
 ⟨⟨some 18, none, .ld none (.t 1)⟩, []⟩,
 ⟨⟨some 19, none, .nck (.t 18)⟩, [1]⟩,
 ⟨⟨some 20, none, .fa 0 (.t 19)⟩, [2]⟩,
 ⟨⟨some 21, none, .call (.c (.fn (.func 37) [] [])) [(.t 20)]⟩, [3]⟩]
 [⟨some 22, none, .nck (.t 17)⟩,
 ⟨some 23, none, .fa 2 (.t 22)⟩,
 ⟨some 24, none, .fa 1 (.t 23)⟩,
 ⟨none, none, .st 1 (.t 24) (.t 21)⟩] (some [1]))
 .skip)))
 ir_wirereaderparams_t2)
def ir_wirereaderparams : ICode :=
 (.seq
 (.reg [⟨some 1, none, .box 64 (.t 0)⟩] (some [1]))
 ir_wirereaderparams_t1)
theorem is_wirereaderparams : IrOf Tryd.prog 39 54 ir_wirereaderparams [] := ⟨_, Tryd.func39, rfl, by kernel_rfl, by kernel_rfl, by kernel_rfl⟩

theorem fs_wNumber {Gl : Gh → Prop} (hst : Stays Gl) {t : List UInt8} (ht : t.length ≤ maxLen) : FS Tryd.prog Gl 51 [.str t] [] [] (.int .i64 (numW t)) [] [] := by
  refine FS.of hm hst is_wirenumber (by simp) fun γ hγ hfr => ?_
  (generalize hQ : (fun (ex : Ex) (_ _ : Nat) (s : St) => _) = Q; unfold ir_wirenumber)
  cases t with
  | nil =>
    simp +contextual (maxSteps := 1000000) only [go_sem, reduceCtorEq, ↓reduceIte, Nat.reduceAdd, Nat.reduceEqDiff]
    rw [← hQ]
    exact ⟨trivial, Ret.flat rfl rfl⟩
  | cons c l =>
    have hl : (c :: l).length < 9223372036854775808 := Nat.lt_of_le_of_lt ht (by decide)
    simp +contextual (maxSteps := 1000000) only [ht, go_sem, reduceCtorEq, ↓reduceIte, Nat.reduceAdd, Nat.reduceEqDiff]
    refine ⟨ht, ?_⟩
    (refine CallP.pure (fs_take hst hl) (fun _ => rfl) ?_; simp +contextual (maxSteps := 1000000) only [go_sem, reduceCtorEq, ↓reduceIte, Nat.reduceAdd, Nat.reduceEqDiff])
    rw [← hQ]
    have : numW (c :: l) = ((takeN (c :: l) 0 0).1 : Int) := by unfold numW; rw [if_neg (by simp)]
    rw [this]
    exact ⟨trivial, Ret.flat rfl rfl⟩
theorem CallP.rdX {Gl : Gh → Prop} {k : FuncId} {args : List AV} {p : Nm} {H Ha : Hp} {b : List UInt8} {n n' : Nat} {s s' : Sq} {y : AV} {T : Tk} {f : Nat → Nm} {K : AV → Hp → Tk → Prop} (h : FS Tryd.prog Gl k args [(p, .cells (rdC b n s))] [] y [(p, .cells (rdC b n' s'))] []) (hp : 1 ≤ p.1) (hy : y.flatT = true) (hap : ∀ q ∈ Ha, p ≠ q.1)
    (hH : ∀ q ∈ (p, HB.cells (rdC b n s)) :: Ha, q ∈ H) (hK : K y ((p, .cells (rdC b n' s')) :: Ha) T) : CallP Tryd.prog Gl k args H T f K := by
  refine ⟨_, _, _, h, fun q hq => hH q (by simp only [List.mem_singleton] at hq; subst hq; exact List.mem_cons_self), by simp, ?_⟩
  rintro r H1 T1 ⟨rfl, rfl, rfl⟩
  refine ⟨(p, .cells (rdC b n' s')) :: Ha, T, fun q hq => ?_, fun t ht => .inr ⟨ht, by simp⟩, by rw [flatT_rn hy]; exact hK⟩
  rcases List.mem_cons.1 hq with rfl | hq
  · refine List.mem_append.2 (.inl ?_)
    simp only [rnH, List.map_cons, List.map_nil, nm_real hp, rdC_rn, List.mem_singleton]
  · refine List.mem_append.2 (.inr (List.mem_filter.2 ⟨hH q (List.mem_cons_of_mem _ hq), ?_⟩))
    simp only [List.all_cons, List.all_nil, Bool.and_true, decide_eq_true_eq]
    exact hap q hq
theorem rdC_rnH {f : Nat → Nm} {p : Nm} (hp : 1 ≤ p.1) {b : List UInt8} {n : Nat} {s : Sq} : rnH f [(p, .cells (rdC b n s))] = [(p, .cells (rdC b n s))] := by
  simp only [rnH, List.map_cons, List.map_nil, nm_real hp, rdC_rn]

set_option maxHeartbeats 4000000 in
theorem fs_wParams {Gl : Gh → Prop} (hst : Stays Gl) {p : Nm} (hp : 1 ≤ p.1) {b : List UInt8} {n : Nat} {s : Sq} (hn : n ≤ b.length) (hb : b.length ≤ 4000000000) (h1 : s.pr = 0) (h2 : s.ps = []) :
    FS Tryd.prog Gl 39 [.ptr p 0] [(p, .cells (rdC b n s))] [] (.tup []) [(p, .cells (rdC b (n + (headW (b.drop n)).2.2) { s with pr := (headW (b.drop n)).1, ps := (headW (b.drop n)).2.1 }))] [] := by
  obtain ⟨sk, spr, sps, sit, sfi, sda⟩ := s
  simp only at h1 h2
  subst h1 h2
  refine FS.ofK hm hst is_wirereaderparams (by simp) fun γ hγ hfr => ?_
  have hpg : p.1 ≠ γ := hfr.1 _ List.mem_cons_self
  have hne : ∀ i j, (p = (γ, i, j)) = False := fun i j => eq_false fun e => hpg (by rw [e])
  have hne2 : ∀ i j, ((γ, i, j) = p) = False := fun i j => eq_false fun e => hpg (by rw [← e])
  have hap : ∀ q ∈ ([((γ, 0, 0), .cells [.ptr p 0])] : Hp), p ≠ q.1 := fun q hq e => by simp only [List.mem_singleton] at hq; subst hq; exact hpg (by rw [e])
  (generalize hQ : (fun (ex : Ex) (_ _ : Nat) (s : St) => _) = Q; unfold ir_wirereaderparams)
  simp only [rdC]
  simp +contextual (maxSteps := 1000000) only [hne, hne2, go_sem, reduceCtorEq, ↓reduceIte, Nat.reduceAdd, Nat.reduceEqDiff, Nat.reduceLeDiff, Nat.reduceMul, Nat.reduceBEq, Int.reduceBEq, Int.reduceBNe, Int.reduceLT, Int.reduceLE, Int.reduceGT, Int.reduceGE, Int.reduceToNat]
  unfold ir_wirereaderparams_t1
  simp +contextual (maxSteps := 1000000) only [hne, hne2, go_sem, reduceCtorEq, ↓reduceIte, Nat.reduceAdd, Nat.reduceEqDiff, Nat.reduceLeDiff, Nat.reduceMul, Nat.reduceBEq, Int.reduceBEq, Int.reduceBNe, Int.reduceLT, Int.reduceLE, Int.reduceGT, Int.reduceGE, Int.reduceToNat]
  refine CallP.rdX (Ha := [((γ, 0, 0), .cells [.ptr p 0])]) (fs_peek (b := b) (n := n) (s := ⟨sk, 0, [], sit, sfi, sda⟩) hst hp) hp rfl hap (by simp [rdC]) ?_
  simp only [rdC]
  generalize hc : peekW b n = c
  have hcond : (decide ((c.toNat : Int) ≥ 60) && decide ((c.toNat : Int) ≤ 63)) = isPr c := by
    unfold isPr; rw [Bool.eq_iff_iff]; simp; omega
  have go2 : ∀ (m : Nat) (pr : Int) (c' : Nat) (F : Nat → AV), F 1 = .ptr (γ, 0, 0) 0 → m ≤ b.length → headW (b.drop n) = (pr, numsW (runL 48 59 (b.drop m)), (m - n) + (runL 48 59 (b.drop m)).length) → n ≤ m →
      aw Tryd.prog Gl ir_wirereaderparams_t2 γ c' ⟨F, [(p, .cells [.sl none 1 (bytesAV b), .int .i64 m, .int .i64 sk, .int .u8 pr, pw [], .str sit, .int .u8 sfi, .str sda]), ((γ, 0, 0), .cells [.ptr p 0])], fun x => x ∈ []⟩ Q := by
    intro m pr c' F hF hm' hw hnm
    have cr : FS Tryd.prog Gl 41 [.ptr p 0, .int .u8 48, .int .u8 59] [(p, .cells (rdC b m ⟨sk, pr, [], sit, sfi, sda⟩))] [] (.str (runL 48 59 (b.drop m))) [(p, .cells (rdC b (m + (runL 48 59 (b.drop m)).length) ⟨sk, pr, [], sit, sfi, sda⟩))] [] := fs_run hst hp (x := 48) (y := 59) hm' (by omega)
    have htl := runL_le 48 59 (b.drop m)
    rw [List.length_drop] at htl
    generalize runL 48 59 (b.drop m) = t at cr htl hw
    unfold ir_wirereaderparams_t2
    simp +contextual (maxSteps := 1000000) only [hne, hne2, hF, go_sem, reduceCtorEq, ↓reduceIte, Nat.reduceAdd, Nat.reduceEqDiff, Nat.reduceLeDiff, Nat.reduceMul, Nat.reduceBEq, Int.reduceBEq, Int.reduceBNe, Int.reduceLT, Int.reduceLE, Int.reduceGT, Int.reduceGE, Int.reduceToNat]
    refine CallP.rdX (Ha := [((γ, 0, 0), .cells [.ptr p 0])]) cr hp rfl hap (by simp [rdC]) ?_
    unfold ir_wirereaderparams_t3
    simp only [rdC]
    have hfin : n + ((m - n) + t.length) = m + t.length := by omega
    by_cases hte : t = []
    · have hd : decide (t = []) = true := decide_eq_true hte
      simp +contextual (maxSteps := 1000000) only [hne, hne2, hd, go_sem, reduceCtorEq, ↓reduceIte, Nat.reduceAdd, Nat.reduceEqDiff, Nat.reduceLeDiff, Nat.reduceMul, Nat.reduceBEq, Int.reduceBEq, Int.reduceBNe, Int.reduceLT, Int.reduceLE, Int.reduceGT, Int.reduceGE, Int.reduceToNat]
      rw [← hQ, hw]
      refine ⟨trivial, 0, _, Wk.refl _ _ _, Ret.rd rfl rfl hp ?_⟩
      rw [hfin, hte]
      simp [rdC, numsW, pw]
    · have hd : decide (t = []) = false := decide_eq_false hte
      have hnums : numsW t = (splitB 59 t).map subsW := by unfold numsW; rw [if_neg hte]
      simp +contextual (maxSteps := 1000000) only [hne, hne2, hd, go_sem, reduceCtorEq, ↓reduceIte, Nat.reduceAdd, Nat.reduceEqDiff, Nat.reduceLeDiff, Nat.reduceMul, Nat.reduceBEq, Int.reduceBEq, Int.reduceBNe, Int.reduceLT, Int.reduceLE, Int.reduceGT, Int.reduceGE, Int.reduceToNat]
      unfold ir_wirereaderparams_t4
      simp +contextual (maxSteps := 1000000) only [hne, hne2, go_sem, reduceCtorEq, ↓reduceIte, Nat.reduceAdd, Nat.reduceEqDiff, Nat.reduceLeDiff, Nat.reduceMul, Nat.reduceBEq, Int.reduceBEq, Int.reduceBNe, Int.reduceLT, Int.reduceLE, Int.reduceGT, Int.reduceGE, Int.reduceToNat]
      refine CallP.of (fs_SplitSeq hst) (by simp) (by simp) ?_
      simp only [rnH, hpSplit, rnN, rnHB, rnL, Ab.rn]
      simp +contextual (maxSteps := 1000000) only [hne, hne2, go_sem, reduceCtorEq, ↓reduceIte, Nat.reduceAdd, Nat.reduceEqDiff, Nat.reduceLeDiff, Nat.reduceMul, Nat.reduceBEq, Int.reduceBEq, Int.reduceBNe, Int.reduceLT, Int.reduceLE, Int.reduceGT, Int.reduceGE, Int.reduceToNat]
      refine rgf_of rfl ((splitB 59 t).map fun q => [.str q])
        (fun i H T => ∃ (tk : Option Nm) (Hx : Hp), (tk = none → i = 0) ∧ (∀ x, tk = some x → γ ≤ x.1 ∧ T x) ∧ H = (p, .cells [.sl none 1 (bytesAV b), .int .i64 ((m + t.length : Nat) : Int), .int .i64 sk, .int .u8 pr, sv tk 1 (parsAV (((splitB 59 t).take i).map subsW)), .str sit, .int .u8 sfi, .str sda]) :: ((γ, 0, 0), .cells [.ptr p 0]) :: Hx)
        (fun _ _ _ => False) (hpSplit t 59 (γ, c' + 5 + 2 + 1, 0) (γ, c' + 5 + 2 + 1, 1) (γ, c' + 5 + 2 + 1, 2)) [(p, .cells [.sl none 1 (bytesAV b), .int .i64 ((m + t.length : Nat) : Int), .int .i64 sk, .int .u8 pr, .nils, .str sit, .int .u8 sfi, .str sda]), ((γ, 0, 0), .cells [.ptr p 0])] (fun _ => False)
        (it_split (by simp) (by simp) (by simp) (by omega)) (by simp [hpSplit]) (by simp [hpSplit, hne]) (by simp [pw]) (by simp) ⟨none, [], by simp, by simp, rfl⟩ (by simp) ?_ ?_ (fun _ _ _ h => h.elim)
      · rintro Gl' hst' hG i x H T γ' hx ⟨tk, Hx, hk1, hk2, rfl⟩ hlt hfr'
        simp only [List.getElem?_map, Option.map_eq_some_iff] at hx
        obtain ⟨q, hq, rfl⟩ := hx
        have hqm : q ∈ splitB 59 t := List.mem_of_getElem? hq
        have hql := splitB_mem_len hqm
        have hil : i < (splitB 59 t).length := (List.getElem?_eq_some_iff.1 hq).1
        have hsl := splitB_len (c := 59) (l := t)
        have hpg' : p.1 ≠ γ' := hfr'.1 _ List.mem_cons_self
        have mne : ∀ i j, (p = (γ', i, j)) = False := fun i j => eq_false fun e => hpg' (by rw [e])
        have mne2 : ∀ i j, ((γ', i, j) = p) = False := fun i j => eq_false fun e => hpg' (by rw [← e])
        have gne : (γ = γ') = False := eq_false (by omega)
        have gne2 : (γ' = γ) = False := eq_false (by omega)
        generalize hK : kBd _ _ _ = K
        unfold ir_wirereaderparams_b1
        simp +contextual (maxSteps := 1000000) only [hne, hne2, mne, mne2, gne, gne2, hF, go_sem, reduceCtorEq, ↓reduceIte, Nat.reduceAdd, Nat.reduceEqDiff, Nat.reduceLeDiff, Nat.reduceMul, Nat.reduceBEq, Int.reduceBEq, Int.reduceBNe, Int.reduceLT, Int.reduceLE, Int.reduceGT, Int.reduceGE, Int.reduceToNat]
        refine CallP.of (fs_SplitSeq hst') (by simp) (by simp) ?_
        simp only [rnH, hpSplit, rnN, rnHB, rnL, Ab.rn]
        simp +contextual (maxSteps := 1000000) only [hne, hne2, mne, mne2, gne, gne2, go_sem, reduceCtorEq, ↓reduceIte, Nat.reduceAdd, Nat.reduceEqDiff, Nat.reduceLeDiff, Nat.reduceMul, Nat.reduceBEq, Int.reduceBEq, Int.reduceBNe, Int.reduceLT, Int.reduceLE, Int.reduceGT, Int.reduceGE, Int.reduceToNat]
        refine rgf_of rfl ((splitB 58 q).map fun r => [.str r])
          (fun j H T => ∃ tj : Option Nm, (tj = none → j = 0) ∧ (∀ x, tj = some x → γ' ≤ x.1 ∧ T x) ∧ H = [((γ', 1, 0), .cells [sv tj 1 (intsAV (((splitB 58 q).take j).map numW))])])
          (fun _ _ _ => False) (hpSplit q 58 (γ', 3, 0) (γ', 3, 1) (γ', 3, 2)) [((γ', 1, 0), .cells [.nils])] (fun _ => False)
          (it_split (by simp) (by simp) (by simp) (by omega)) (by simp [hpSplit]) (by simp [hpSplit]) (by simp) (by simp) ⟨none, by simp, by simp, rfl⟩ (by simp) ?_ ?_ (fun _ _ _ h => h.elim)
        · rintro Gl'' hst'' hG' j x H T' γ'' hx ⟨tj, hj1, hj2, rfl⟩ hlt' hfr''
          simp only [List.getElem?_map, Option.map_eq_some_iff] at hx
          obtain ⟨r, hr, rfl⟩ := hx
          have hrl := splitB_mem_len (List.mem_of_getElem? hr)
          have hjl := (List.getElem?_eq_some_iff.1 hr).1
          have hsl' := splitB_len (c := 58) (l := q)
          have hts : (splitB 58 q).take (j + 1) = (splitB 58 q).take j ++ [r] := by rw [List.take_add_one, hr]; rfl
          have hln : (intsAV (((splitB 58 q).take j).map numW)).length ≤ q.length + 1 := by simp [intsAV]; omega
          generalize hK' : kBd _ _ _ = K'
          unfold ir_wirereaderparams_b0
          cases tj with
          | none =>
            obtain rfl := hj1 rfl
            simp +contextual (maxSteps := 1000000) only [go_sem, reduceCtorEq, ↓reduceIte, Nat.reduceAdd, Nat.reduceEqDiff, Nat.reduceLeDiff, Nat.reduceMul, Nat.reduceBEq, Int.reduceBEq, Int.reduceBNe, Int.reduceLT, Int.reduceLE, Int.reduceGT, Int.reduceGE, Int.reduceToNat]
            refine DCall.new (fs_wNumber hst'' (by simp only [maxLen]; omega)) ?_
            simp +contextual (maxSteps := 1000000) only [go_sem, reduceCtorEq, ↓reduceIte, Nat.reduceAdd, Nat.reduceEqDiff, Nat.reduceLeDiff, Nat.reduceMul, Nat.reduceBEq, Int.reduceBEq, Int.reduceBNe, Int.reduceLT, Int.reduceLE, Int.reduceGT, Int.reduceGE, Int.reduceToNat]
            rw [← hK']
            refine ⟨some (γ'', 5, 0), by simp, fun x hx => ?_, ?_⟩
            · cases hx
              exact ⟨by simp only; omega, by simp⟩
            · rw [hts]
              simp [sv, intsAV]
          | some t0 =>
            simp +contextual (maxSteps := 1000000) only [go_sem, reduceCtorEq, ↓reduceIte, Nat.reduceAdd, Nat.reduceEqDiff, Nat.reduceLeDiff, Nat.reduceMul, Nat.reduceBEq, Int.reduceBEq, Int.reduceBNe, Int.reduceLT, Int.reduceLE, Int.reduceGT, Int.reduceGE, Int.reduceToNat]
            refine DCall.new (fs_wNumber hst'' (by simp only [maxLen]; omega)) ?_
            simp +contextual (maxSteps := 1000000) only [go_sem, reduceCtorEq, ↓reduceIte, Nat.reduceAdd, Nat.reduceEqDiff, Nat.reduceLeDiff, Nat.reduceMul, Nat.reduceBEq, Int.reduceBEq, Int.reduceBNe, Int.reduceLT, Int.reduceLE, Int.reduceGT, Int.reduceGE, Int.reduceToNat]
            refine ⟨.inl (hj2 t0 rfl).2, by omega, by simp, ?_⟩
            rw [← hK']
            refine ⟨some (γ'', 5, 0), by simp, fun x hx => ?_, ?_⟩
            · cases hx
              exact ⟨by simp only; omega, .inl (by simp), fun e => hfr''.2 t0 (hj2 t0 rfl).2 (by rw [← e])⟩
            · rw [hts]
              simp [sv, intsAV]
        · rintro H1 T1 ⟨tj, hj1, hj2, rfl⟩
          have hlen' : ((splitB 58 q).map fun r => [AV.str r]).length = (splitB 58 q).length := by simp
          rw [hlen'] at hj1 ⊢
          rw [List.take_length]
          cases tj with
          | none => exact absurd (List.length_eq_zero_iff.1 (hj1 rfl)) (splitB_ne _ _)
          | some u0 =>
            refine ⟨[(p, .cells [.sl none 1 (bytesAV b), .int .i64 ((m + t.length : Nat) : Int), .int .i64 sk, .int .u8 pr, sv tk 1 (parsAV (((splitB 59 t).take i).map subsW)), .str sit, .int .u8 sfi, .str sda]), ((γ, 0, 0), .cells [.ptr p 0]), ((γ', 1, 0), .cells [.sl (some u0) 1 (intsAV (subsW q))])], fun x => x = u0 ∨ T x, fun z hz => ?_, fun x hx => ?_, ?_⟩
            · simp only [List.mem_cons, List.not_mem_nil, or_false] at hz
              rcases hz with rfl | rfl | rfl
              · exact List.mem_append.2 (.inr (List.mem_filter.2 ⟨by simp, by simp [hpSplit, mne2]⟩))
              · exact List.mem_append.2 (.inr (List.mem_filter.2 ⟨by simp, by simp [hpSplit, gne2]⟩))
              · exact List.mem_append.2 (.inl (by simp [sv, subsW]))
            · rcases hx with rfl | hx
              · exact .inl (hj2 _ rfl).2
              · exact .inr ⟨.inr ⟨hx, by simp⟩, by simp⟩
            have hts : (splitB 59 t).take (i + 1) = (splitB 59 t).take i ++ [q] := by rw [List.take_add_one, hq]; rfl
            have hln : (parsAV (((splitB 59 t).take i).map subsW)).length ≤ t.length + 1 := by simp [parsAV]; omega
            cases tk with
            | none =>
              obtain rfl := hk1 rfl
              simp +contextual (maxSteps := 1000000) only [hne, hne2, mne, mne2, gne, gne2, go_sem, reduceCtorEq, ↓reduceIte, Nat.reduceAdd, Nat.reduceEqDiff, Nat.reduceLeDiff, Nat.reduceMul, Nat.reduceBEq, Int.reduceBEq, Int.reduceBNe, Int.reduceLT, Int.reduceLE, Int.reduceGT, Int.reduceGE, Int.reduceToNat]
              rw [← hK]
              refine ⟨some (γ', 13, 0), [((γ', 1, 0), .cells [.sl (some u0) 1 (intsAV (subsW q))])], by simp, fun x hx => ?_, ?_⟩
              · cases hx
                exact ⟨by simp only; omega, by simp⟩
              · rw [hts]
                simp [sv, parsAV, intsV]
            | some t0 =>
              simp +contextual (maxSteps := 1000000) only [hne, hne2, mne, mne2, gne, gne2, go_sem, reduceCtorEq, ↓reduceIte, Nat.reduceAdd, Nat.reduceEqDiff, Nat.reduceLeDiff, Nat.reduceMul, Nat.reduceBEq, Int.reduceBEq, Int.reduceBNe, Int.reduceLT, Int.reduceLE, Int.reduceGT, Int.reduceGE, Int.reduceToNat]
              refine ⟨.inl (.inr (hk2 t0 rfl).2), by omega, by simp, ?_⟩
              rw [← hK]
              refine ⟨some (γ', 13, 0), [((γ', 1, 0), .cells [.sl (some u0) 1 (intsAV (subsW q))])], by simp, fun x hx => ?_, ?_⟩
              · cases hx
                exact ⟨by simp only; omega, .inl (by simp), fun e => hfr'.2 t0 (hk2 t0 rfl).2 (by rw [← e])⟩
              · rw [hts]
                simp [sv, parsAV, intsV]
      · rintro H1 T1 ⟨tk, Hx, hk1, hk2, rfl⟩
        refine ⟨_, fun t => tk = some t, fun p hp => List.mem_append.2 (.inl hp), fun t ht => .inl (hk2 t ht).2, ?_⟩
        have hlen : ((splitB 59 t).map fun p => [AV.str p]).length = (splitB 59 t).length := by simp
        rw [hlen] at hk1 ⊢
        rw [List.take_length]
        cases tk with
        | none => exact absurd (List.length_eq_zero_iff.1 (hk1 rfl)) (splitB_ne _ _)
        | some t0 =>
          simp +contextual (maxSteps := 1000000) only [go_sem, reduceCtorEq, ↓reduceIte, Nat.reduceAdd, Nat.reduceEqDiff, Nat.reduceLeDiff, Nat.reduceMul, Nat.reduceBEq, Int.reduceBEq, Int.reduceBNe, Int.reduceLT, Int.reduceLE, Int.reduceGT, Int.reduceGE, Int.reduceToNat]
          rw [← hQ, hw]
          refine ⟨trivial, 0, ⟨fun _ => .und, [(p, .cells (rdC b (m + t.length) ⟨sk, pr, (splitB 59 t).map subsW, sit, sfi, sda⟩))], fun x => x ∈ []⟩, ⟨fun _ => .und _ _, ?_, by simp⟩, Ret.rd rfl rfl hp ?_⟩
          · intro r hr
            simp only [List.mem_singleton] at hr
            subst hr
            refine ⟨_, List.mem_cons_self, rfl, rfl, fun i x y hx hy => ?_⟩
            have hpw : pw ((splitB 59 t).map subsW) = .sl none 1 (parsAV ((splitB 59 t).map subsW)) := by
              have := splitB_ne 59 t
              cases hs : splitB 59 t with
              | nil => exact absurd hs this
              | cons a l => rfl
            simp only [rdC, hpw] at hy
            rcases i with _ | _ | _ | _ | _ | _ | _ | _ | i <;> simp only [List.getElem?_cons_zero, List.getElem?_cons_succ, List.getElem?_nil, Option.some.injEq, reduceCtorEq] at hx hy <;> subst hx hy <;> first | exact AVle.refl _ _ | exact AVle.le (RepLe.anon' rfl)
          · rw [hfin, hnums]
            exact List.mem_singleton.2 rfl
  cases hpr : isPr c with
  | true =>
    rw [hpr] at hcond
    have hlt : n < b.length := by
      rcases Nat.lt_or_ge n b.length with h | h
      · exact h
      · rw [peek_ge h] at hc
        subst hc
        simp [isPr] at hpr
    have hh : headW (b.drop n) = ((c.toNat : Int), numsW (runL 48 59 (b.drop (n + 1))), (n + 1 - n) + (runL 48 59 (b.drop (n + 1))).length) := by
      unfold headW
      have : (b.drop n).headD 0 = c := hc
      rw [this, hpr]
      simp only [if_true, List.drop_drop]
      rw [show n + 1 - n = 1 by omega]
    simp +contextual (maxSteps := 1000000) only [hne, hne2, hcond, go_sem, reduceCtorEq, ↓reduceIte, Nat.reduceAdd, Nat.reduceEqDiff, Nat.reduceLeDiff, Nat.reduceMul, Nat.reduceBEq, Int.reduceBEq, Int.reduceBNe, Int.reduceLT, Int.reduceLE, Int.reduceGT, Int.reduceGE, Int.reduceToNat]
    refine kDrwM_of [((γ, 0, 0), .cells [.ptr p 0])] [(p, .cells (rdC b n ⟨sk, 0, [], sit, sfi, sda⟩))] (by simp [rdC]) (fun q hq q' hq' => ?_) ?_
    · simp only [List.mem_singleton] at hq hq'
      subst hq hq'
      exact fun e => hpg (by rw [show p = (γ, 0, 0) from e])
    simp +contextual (maxSteps := 1000000) only [hne, hne2, go_sem, reduceCtorEq, ↓reduceIte, Nat.reduceAdd, Nat.reduceEqDiff, Nat.reduceLeDiff, Nat.reduceMul, Nat.reduceBEq, Int.reduceBEq, Int.reduceBNe, Int.reduceLT, Int.reduceLE, Int.reduceGT, Int.reduceGE, Int.reduceToNat]
    refine MCall.of (fs_next hst hp (by omega)) (fun _ => rfl) (fun _ => rdC_rnH hp) (fun q hq q' hq' => ?_) ?_
    · simp only [List.mem_singleton] at hq hq'
      subst hq hq'
      exact fun e => hpg (by rw [← show (γ, 0, 0) = p from e])
    rw [hc]
    simp only [rdC]
    simp +contextual (maxSteps := 1000000) only [hne, hne2, go_sem, reduceCtorEq, ↓reduceIte, Nat.reduceAdd, Nat.reduceEqDiff, Nat.reduceLeDiff, Nat.reduceMul, Nat.reduceBEq, Int.reduceBEq, Int.reduceBNe, Int.reduceLT, Int.reduceLE, Int.reduceGT, Int.reduceGE, Int.reduceToNat]
    exact go2 (n + 1) c.toNat _ _ rfl hlt hh (by omega)
  | false =>
    rw [hpr] at hcond
    simp +contextual (maxSteps := 1000000) only [hne, hne2, hcond, go_sem, reduceCtorEq, ↓reduceIte, Nat.reduceAdd, Nat.reduceEqDiff, Nat.reduceLeDiff, Nat.reduceMul, Nat.reduceBEq, Int.reduceBEq, Int.reduceBNe, Int.reduceLT, Int.reduceLE, Int.reduceGT, Int.reduceGE, Int.reduceToNat]
    refine go2 n 0 _ _ rfl hn ?_ (Nat.le_refl n)
    unfold headW
    have : (b.drop n).headD 0 = c := hc
    rw [this, hpr]
    simp
end Go.Proofs.YtcdkcfpgdbjogaaDoor

namespace Go.Proofs.YtcdkcfpgdbjogaaDoor
open Go Go.Ab
def ir_wirereaderrest : ICode :=
 (.seq
 (.reg [⟨some 2, none, .mov (.t 0)⟩,
 ⟨some 3, none, .mov (.t 0)⟩,
 ⟨some 4, none, .nck (.t 3)⟩,
 ⟨some 5, none, .fa 0 (.t 4)⟩,
 ⟨some 6, none, .call (.c (.fn (.func 41) [] [])) [(.t 5), (.c (.int .u8 32)), (.c (.int .u8 47))]⟩,
 ⟨some 7, none, .nck (.t 2)⟩,
 ⟨some 8, none, .fa 2 (.t 7)⟩,
 ⟨some 9, none, .fa 3 (.t 8)⟩,
 ⟨none, none, .st 1 (.t 9) (.t 6)⟩] (some [0]))
 (.reg [⟨some 10, none, .mov (.t 0)⟩,
 ⟨some 11, none, .mov (.t 0)⟩,
 ⟨some 12, none, .nck (.t 11)⟩,
 ⟨some 13, none, .fa 0 (.t 12)⟩,
 ⟨some 14, none, .call (.c (.fn (.func 37) [] [])) [(.t 13)]⟩,
 ⟨some 15, none, .nck (.t 10)⟩,
 ⟨some 16, none, .fa 2 (.t 15)⟩,
 ⟨some 17, none, .fa 4 (.t 16)⟩,
 ⟨none, none, .st 1 (.t 17) (.t 14)⟩] (some [])))
theorem is_wirereaderrest : IrOf Tryd.prog 40 18 ir_wirereaderrest [] := ⟨_, Tryd.func40, rfl, by kernel_rfl, by kernel_rfl, by kernel_rfl⟩

def ir_wirereaderread : ICode :=
 (.seq
 (.seq
 (.reg [⟨some 2, none, .mov (.t 0)⟩,
 ⟨some 3, none, .nck (.t 2)⟩,
 ⟨some 4, none, .fa 0 (.t 3)⟩,
 ⟨some 5, none, .call (.c (.fn (.func 37) [] [])) [(.t 4)]⟩,
 ⟨some 6, none, .bin .neq .none (.t 5) (.c (.int .u8 27))⟩] (some [0, 6]))
 (.cond (.t 6)
 .ret
 .skip))
 (.seq
 (.reg [⟨some 7, none, .mov (.t 0)⟩,
 ⟨some 8, none, .nck (.t 7)⟩,
 ⟨some 9, none, .fa 0 (.t 8)⟩,
 ⟨some 10, none, .call (.c (.fn (.func 38) [] [])) [(.t 9)]⟩] (some [0, 10]))
 (.blk 0
 (.seq
 (.reg [⟨some 18, none, .bin .eql .none (.t 10) (.c (.int .u8 91))⟩,
 ⟨some 17, none, .mov (.t 18)⟩] (some [0, 10, 17]))
 (.cond (.t 17)
 (.seq
 (.reg [⟨some 19, none, .mov (.t 0)⟩,
 ⟨some 20, none, .nck (.t 19)⟩,
 ⟨some 21, none, .fa 2 (.t 20)⟩,
 ⟨some 22, none, .fa 0 (.t 21)⟩,
 ⟨none, none, .st 1 (.t 22) (.c (.int .i64 1))⟩] (some [0]))
 (.seq
 (.reg [⟨some 23, none, .mov (.t 0)⟩,
 ⟨some 24, none, .nck (.t 23)⟩,
 ⟨some 25, none, .fa 0 (.t 24)⟩,
 ⟨some 26, none, .fa 1 (.t 25)⟩,
 ⟨some 27, none, .ld none (.t 26)⟩,
 ⟨some 28, none, .bin .add .none (.t 27) (.c (.int .i64 1))⟩,
 ⟨some 29, none, .nck (.t 23)⟩,
 ⟨some 30, none, .fa 0 (.t 29)⟩,
 ⟨some 31, none, .fa 1 (.t 30)⟩,
 ⟨none, none, .st 1 (.t 31) (.t 28)⟩] (some [0]))
 (.seq
 (.reg [⟨some 32, none, .mov (.t 0)⟩,
 ⟨some 33, none, .call (.c (.fn (.func 39) [] [])) [(.t 32)]⟩] (some [0]))
 (.reg [⟨some 34, none, .mov (.t 0)⟩,
 ⟨some 35, none, .call (.c (.fn (.func 40) [] [])) [(.t 34)]⟩] (some [])))))
 (.seq
 (.reg [⟨some 37, none, .bin .eql .none (.t 10) (.c (.int .u8 79))⟩,
 ⟨some 36, none, .mov (.t 37)⟩] (some [0, 10, 36]))
 (.cond (.t 36)
 (.seq
 (.reg [⟨some 38, none, .mov (.t 0)⟩,
 ⟨some 39, none, .nck (.t 38)⟩,
 ⟨some 40, none, .fa 2 (.t 39)⟩,
 ⟨some 41, none, .fa 0 (.t 40)⟩,
 ⟨none, none, .st 1 (.t 41) (.c (.int .i64 2))⟩] (some [0]))
 (.seq
 (.reg [⟨some 42, none, .mov (.t 0)⟩,
 ⟨some 43, none, .nck (.t 42)⟩,
 ⟨some 44, none, .fa 0 (.t 43)⟩,
 ⟨some 45, none, .fa 1 (.t 44)⟩,
 ⟨some 46, none, .ld none (.t 45)⟩,
 ⟨some 47, none, .bin .add .none (.t 46) (.c (.int .i64 1))⟩,
 ⟨some 48, none, .nck (.t 42)⟩,
 ⟨some 49, none, .fa 0 (.t 48)⟩,
 ⟨some 50, none, .fa 1 (.t 49)⟩,
 ⟨none, none, .st 1 (.t 50) (.t 47)⟩] (some [0]))
 (.reg [⟨some 51, none, .mov (.t 0)⟩,
 ⟨some 52, none, .mov (.t 0)⟩,
 ⟨some 53, none, .nck (.t 52)⟩,
 ⟨some 54, none, .fa 0 (.t 53)⟩,
 ⟨some 55, none, .call (.c (.fn (.func 37) [] [])) [(.t 54)]⟩,
 ⟨some 56, none, .nck (.t 51)⟩,
 ⟨some 57, none, .fa 2 (.t 56)⟩,
 ⟨some 58, none, .fa 4 (.t 57)⟩,
 ⟨none, none, .st 1 (.t 58) (.t 55)⟩] (some []))))
 (.seq
 (.reg [⟨some 60, none, .bin .eql .none (.t 10) (.c (.int .u8 80))⟩,
 ⟨some 59, none, .mov (.t 60)⟩] (some [0, 10, 59]))
 (.cond (.t 59)
 (.seq
 (.reg [⟨some 61, none, .mov (.t 0)⟩,
 ⟨some 62, none, .nck (.t 61)⟩,
 ⟨some 63, none, .fa 2 (.t 62)⟩,
 ⟨some 64, none, .fa 0 (.t 63)⟩,
 ⟨none, none, .st 1 (.t 64) (.c (.int .i64 3))⟩] (some [0]))
 (.seq
 (.reg [⟨some 65, none, .mov (.t 0)⟩,
 ⟨some 66, none, .nck (.t 65)⟩,
 ⟨some 67, none, .fa 0 (.t 66)⟩,
 ⟨some 68, none, .fa 1 (.t 67)⟩,
 ⟨some 69, none, .ld none (.t 68)⟩,
 ⟨some 70, none, .bin .add .none (.t 69) (.c (.int .i64 1))⟩,
 ⟨some 71, none, .nck (.t 65)⟩,
 ⟨some 72, none, .fa 0 (.t 71)⟩,
 ⟨some 73, none, .fa 1 (.t 72)⟩,
 ⟨none, none, .st 1 (.t 73) (.t 70)⟩] (some [0]))
 (.seq
 (.reg [⟨some 74, none, .mov (.t 0)⟩,
 ⟨some 75, none, .call (.c (.fn (.func 39) [] [])) [(.t 74)]⟩] (some [0]))
 (.seq
 (.reg [⟨some 76, none, .mov (.t 0)⟩,
 ⟨some 77, none, .call (.c (.fn (.func 40) [] [])) [(.t 76)]⟩] (some [0]))
 (.seq
 (.reg [⟨some 78, none, .mov (.t 0)⟩,
 ⟨some 79, none, .mov (.t 0)⟩,
 ⟨some 80, none, .nck (.t 79)⟩,
 ⟨some 81, none, .fa 0 (.t 80)⟩,
 ⟨some 82, none, .call (.c (.fn (.func 41) [] [])) [(.t 81), (.c (.int .u8 32)), (.c (.int .u8 126))]⟩,
 ⟨some 83, none, .nck (.t 78)⟩,
 ⟨some 84, none, .fa 2 (.t 83)⟩,
 ⟨some 85, none, .fa 5 (.t 84)⟩,
 ⟨none, none, .st 1 (.t 85) (.t 82)⟩] (some [0]))
 (.reg [⟨some 86, none, .mov (.t 0)⟩,
 ⟨some 87, none, .nck (.t 86)⟩,
 ⟨some 88, none, .fa 0 (.t 87)⟩,
 ⟨some 89, none, .fa 1 (.t 88)⟩,
 ⟨some 90, none, .ld none (.t 89)⟩,
 ⟨some 91, none, .bin .add .none (.t 90) (.c (.int .i64 2))⟩,
 ⟨some 92, none, .nck (.t 86)⟩,
 ⟨some 93, none, .fa 0 (.t 92)⟩,
 ⟨some 94, none, .fa 1 (.t 93)⟩,
 ⟨none, none, .st 1 (.t 94) (.t 91)⟩] (some [])))))))
 (.seq
 (.reg [⟨some 96, none, .bin .eql .none (.t 10) (.c (.int .u8 93))⟩,
 ⟨some 95, none, .mov (.t 96)⟩] (some [0, 95]))
 (.cond (.t 95)
 (.seq
 (.reg [⟨some 97, none, .mov (.t 0)⟩,
 ⟨some 98, none, .nck (.t 97)⟩,
 ⟨some 99, none, .fa 2 (.t 98)⟩,
 ⟨some 100, none, .fa 0 (.t 99)⟩,
 ⟨none, none, .st 1 (.t 100) (.c (.int .i64 4))⟩] (some [0]))
 (.seq
 (.reg [⟨some 101, none, .mov (.t 0)⟩,
 ⟨some 102, none, .nck (.t 101)⟩,
 ⟨some 103, none, .fa 0 (.t 102)⟩,
 ⟨some 104, none, .fa 1 (.t 103)⟩,
 ⟨some 105, none, .ld none (.t 104)⟩,
 ⟨some 106, none, .bin .add .none (.t 105) (.c (.int .i64 1))⟩,
 ⟨some 107, none, .nck (.t 101)⟩,
 ⟨some 108, none, .fa 0 (.t 107)⟩,
 ⟨some 109, none, .fa 1 (.t 108)⟩,
 ⟨none, none, .st 1 (.t 109) (.t 106)⟩] (some [0]))
 (.seq
 (.reg [⟨some 110, none, .mov (.t 0)⟩,
 ⟨some 111, none, .mov (.t 0)⟩,
 ⟨some 112, none, .nck (.t 111)⟩,
 ⟨some 113, none, .fa 0 (.t 112)⟩,
 ⟨some 114, none, .call (.c (.fn (.func 41) [] [])) [(.t 113), (.c (.int .u8 32)), (.c (.int .u8 126))]⟩,
 ⟨some 115, none, .nck (.t 110)⟩,
 ⟨some 116, none, .fa 2 (.t 115)⟩,
 ⟨some 117, none, .fa 5 (.t 116)⟩,
 ⟨none, none, .st 1 (.t 117) (.t 114)⟩] (some [0]))
 (.reg [⟨some 118, none, .mov (.t 0)⟩,
 ⟨some 119, none, .nck (.t 118)⟩,
 ⟨some 120, none, .fa 0 (.t 119)⟩,
 ⟨some 121, none, .fa 1 (.t 120)⟩,
 ⟨some 122, none, .ld none (.t 121)⟩,
 ⟨some 123, none, .bin .add .none (.t 122) (.c (.int .i64 2))⟩,
 ⟨some 124, none, .nck (.t 118)⟩,
 ⟨some 125, none, .fa 0 (.t 124)⟩,
 ⟨some 126, none, .fa 1 (.t 125)⟩,
 ⟨none, none, .st 1 (.t 126) (.t 123)⟩] (some [])))))
 (.seq
 (.reg [⟨some 11, none, .mov (.t 0)⟩,
 ⟨some 12, none, .nck (.t 11)⟩,
 ⟨some 13, none, .fa 2 (.t 12)⟩,
 ⟨some 14, none, .fa 0 (.t 13)⟩,
 ⟨none, none, .st 1 (.t 14) (.c (.int .i64 5))⟩] (some [0]))
 (.reg [⟨some 15, none, .mov (.t 0)⟩,
 ⟨some 16, none, .call (.c (.fn (.func 40) [] [])) [(.t 15)]⟩] (some []))))))))))))))
theorem is_wirereaderread : IrOf Tryd.prog 25 127 ir_wirereaderread [] := ⟨_, Tryd.func25, rfl, by kernel_rfl, by kernel_rfl, by kernel_rfl⟩

theorem peek_drop {b : List UInt8} {n k : Nat} : ((b.drop n).drop k).headD 0 = peekW b (n + k) := by unfold peekW; rw [List.drop_drop]
theorem headW_le (l : List UInt8) : (headW l).2.2 ≤ l.length := by
  unfold headW
  simp only
  split
  · rename_i h
    have h1 := runL_le 48 59 (l.drop 1)
    rw [List.length_drop] at h1
    cases l with
    | nil => simp [isPr] at h
    | cons c l => simp only [List.length_cons] at h1 ⊢; omega
  · have h1 := runL_le 48 59 (l.drop 0)
    rw [List.drop_zero] at h1 ⊢
    omega
theorem fs_wRest {Gl : Gh → Prop} (hst : Stays Gl) {p : Nm} (hp : 1 ≤ p.1) {b : List UInt8} {n : Nat} {s : Sq} (hn : n ≤ b.length) (hb : b.length ≤ 4000000000) :
    FS Tryd.prog Gl 40 [.ptr p 0] [(p, .cells (rdC b n s))] [] (.tup []) [(p, .cells (rdC b (n + (restW (b.drop n)).2.2) { s with it := (restW (b.drop n)).1, fi := (restW (b.drop n)).2.1 }))] [] := by
  refine FS.of hm hst is_wirereaderrest (by simp) fun γ hγ hfr => ?_
  have c1 : FS Tryd.prog Gl 41 [.ptr p 0, .int .u8 32, .int .u8 47] [(p, .cells (rdC b n s))] [] (.str (runL 32 47 (b.drop n))) [(p, .cells (rdC b (n + (runL 32 47 (b.drop n)).length) s))] [] := fs_run hst hp (x := 32) (y := 47) hn (by omega)
  have hle := runL_le 32 47 (b.drop n)
  rw [List.length_drop] at hle
  have hw : restW (b.drop n) = (runL 32 47 (b.drop n), ((peekW b (n + (runL 32 47 (b.drop n)).length)).toNat : Int), (runL 32 47 (b.drop n)).length + 1) := by
    unfold restW; simp only [peek_drop]
  rw [hw]
  generalize runL 32 47 (b.drop n) = t at c1 hle
  have c2 := fs_next (Gl := Gl) hst hp (b := b) (n := n + t.length) (s := { s with it := t }) (by omega)
  (generalize hQ : (fun (ex : Ex) (_ _ : Nat) (s : St) => _) = Q; unfold ir_wirereaderrest)
  simp only [rdC]
  simp +contextual (maxSteps := 1000000) only [go_sem, reduceCtorEq, ↓reduceIte, Nat.reduceAdd, Nat.reduceEqDiff, Nat.reduceLeDiff, Nat.reduceMul, Nat.reduceBEq, Int.reduceBEq, Int.reduceBNe, Int.reduceLT, Int.reduceLE, Int.reduceGT, Int.reduceGE, Int.reduceToNat]
  refine CallP.rdX (Ha := []) c1 hp rfl (by simp) (by simp [rdC]) ?_
  simp only [rdC]
  simp +contextual (maxSteps := 1000000) only [go_sem, reduceCtorEq, ↓reduceIte, Nat.reduceAdd, Nat.reduceEqDiff, Nat.reduceLeDiff, Nat.reduceMul, Nat.reduceBEq, Int.reduceBEq, Int.reduceBNe, Int.reduceLT, Int.reduceLE, Int.reduceGT, Int.reduceGE, Int.reduceToNat]
  refine CallP.rdX (Ha := []) c2 hp rfl (by simp) (by simp [rdC]) ?_
  simp only [rdC]
  simp +contextual (maxSteps := 1000000) only [go_sem, reduceCtorEq, ↓reduceIte, Nat.reduceAdd, Nat.reduceEqDiff, Nat.reduceLeDiff, Nat.reduceMul, Nat.reduceBEq, Int.reduceBEq, Int.reduceBNe, Int.reduceLT, Int.reduceLE, Int.reduceGT, Int.reduceGE, Int.reduceToNat]
  rw [← hQ]
  exact ⟨trivial, Ret.rd rfl rfl hp (by simp [rdC, Nat.add_assoc])⟩

def dcsOk (b : List UInt8) : Prop := b.headD 0 = 27 → (b.drop 1).headD 0 = 80 → 2 + (headW (b.drop 2)).2.2 + (restW (b.drop (2 + (headW (b.drop 2)).2.2))).2.2 ≤ b.length
theorem u8_eq {c : UInt8} {k : Nat} (hk : k < 256) : ((c.toNat : Int) == (k : Int)) = decide (c = UInt8.ofNat k) := by
  rw [Bool.eq_iff_iff, beq_iff_eq, decide_eq_true_eq]
  constructor
  · intro h
    have h : c.toNat = k := by omega
    rw [← h, UInt8.ofNat_toNat]
  · rintro rfl
    rw [UInt8.toNat_ofNat', Nat.mod_eq_of_lt hk]
theorem u8_ne {c : UInt8} {k : Nat} (hk : k < 256) : ((c.toNat : Int) != (k : Int)) = !decide (c = UInt8.ofNat k) := by
  rw [bne, u8_eq hk]
set_option maxHeartbeats 4000000 in
theorem fs_wRead {Gl : Gh → Prop} (hst : Stays Gl) {p : Nm} (hp : 1 ≤ p.1) {b : List UInt8} (hb : b.length ≤ 4000000000) (hd : dcsOk b) :
    FS Tryd.prog Gl 25 [.ptr p 0] [(p, .cells (rdC b 0 zeroSq))] [] (.tup []) [(p, .cells (rdC b (readW b).2 (readW b).1))] [] := by
  refine FS.of hm hst is_wirereaderread (by simp) fun γ hγ hfr => ?_
  have w2 : IntKind.i64.wrap 2 = 2 := by decide
  (generalize hQ : (fun (ex : Ex) (_ _ : Nat) (s : St) => _) = Q; unfold ir_wirereaderread)
  simp +contextual (maxSteps := 1000000) only [go_sem, reduceCtorEq, ↓reduceIte, Nat.reduceAdd, Nat.reduceEqDiff, Nat.reduceLeDiff, Nat.reduceMul, Nat.reduceBEq, Int.reduceBEq, Int.reduceBNe, Int.reduceLT, Int.reduceLE, Int.reduceGT, Int.reduceGE, Int.reduceToNat]
  refine CallP.rdX (Ha := []) (fs_next (b := b) (n := 0) (s := zeroSq) hst hp (by omega)) hp rfl (by simp) (by simp) ?_
  have hpk : peekW b 0 = b.headD 0 := by unfold peekW; rw [List.drop_zero]
  rw [hpk]
  have n1 : (((b.headD 0).toNat : Int) != 27) = !decide (b.headD 0 = 27) := u8_ne (k := 27) (by omega)
  by_cases h27 : b.headD 0 = 27
  · have n1 : (((b.headD 0).toNat : Int) != 27) = false := by rw [n1, decide_eq_true h27]; rfl
    have hl1 : 1 ≤ b.length := by
      cases b with
      | nil => simp at h27
      | cons c l => simp
    simp +contextual (maxSteps := 1000000) only [n1, go_sem, reduceCtorEq, ↓reduceIte, Nat.reduceAdd, Nat.reduceEqDiff, Nat.reduceLeDiff, Nat.reduceMul, Nat.reduceBEq, Int.reduceBEq, Int.reduceBNe, Int.reduceLT, Int.reduceLE, Int.reduceGT, Int.reduceGE, Int.reduceToNat]
    refine CallP.rdX (Ha := []) (fs_peek (b := b) (n := 1) (s := zeroSq) hst hp) hp rfl (by simp) (by simp) ?_
    have hpk1 : peekW b 1 = (b.drop 1).headD 0 := rfl
    rw [hpk1]
    generalize hc : (b.drop 1).headD 0 = c
    have k2 : c ≠ 0 → 2 ≤ b.length := fun h => by
      rcases Nat.lt_or_ge 1 b.length with h' | h'
      · omega
      · rw [List.drop_eq_nil_of_le (by omega)] at hc
        exact absurd hc.symm h
    have g1 : ((c.toNat : Int) == 91) = decide (c = 91) := u8_eq (k := 91) (by omega)
    have g2 : ((c.toNat : Int) == 79) = decide (c = 79) := u8_eq (k := 79) (by omega)
    have g3 : ((c.toNat : Int) == 80) = decide (c = 80) := u8_eq (k := 80) (by omega)
    have g4 : ((c.toNat : Int) == 93) = decide (c = 93) := u8_eq (k := 93) (by omega)
    have hz : zeroSq = ⟨0, 0, [], [], 0, []⟩ := rfl
    have hl2 := headW_le (b.drop 2)
    rw [List.length_drop] at hl2
    have hrd : readW b = (if c = 91 then
        (⟨1, (headW (b.drop 2)).1, (headW (b.drop 2)).2.1, (restW (b.drop (2 + (headW (b.drop 2)).2.2))).1, (restW (b.drop (2 + (headW (b.drop 2)).2.2))).2.1, []⟩, 2 + (headW (b.drop 2)).2.2 + (restW (b.drop (2 + (headW (b.drop 2)).2.2))).2.2)
      else if c = 79 then (⟨2, 0, [], [], ((b.drop 2).headD 0).toNat, []⟩, 3)
      else if c = 80 then
        (⟨3, (headW (b.drop 2)).1, (headW (b.drop 2)).2.1, (restW (b.drop (2 + (headW (b.drop 2)).2.2))).1, (restW (b.drop (2 + (headW (b.drop 2)).2.2))).2.1, runL 32 126 (b.drop (2 + (headW (b.drop 2)).2.2 + (restW (b.drop (2 + (headW (b.drop 2)).2.2))).2.2))⟩, 2 + (headW (b.drop 2)).2.2 + (restW (b.drop (2 + (headW (b.drop 2)).2.2))).2.2 + (runL 32 126 (b.drop (2 + (headW (b.drop 2)).2.2 + (restW (b.drop (2 + (headW (b.drop 2)).2.2))).2.2))).length + 2)
      else if c = 93 then (⟨4, 0, [], [], 0, runL 32 126 (b.drop 2)⟩, 2 + (runL 32 126 (b.drop 2)).length + 2)
      else (⟨5, 0, [], (restW (b.drop 1)).1, (restW (b.drop 1)).2.1, []⟩, 1 + (restW (b.drop 1)).2.2)) := by
      unfold readW
      rw [if_neg (not_not_intro h27)]
      simp only [hc]
    have cp : ∀ k, 2 ≤ b.length → FS Tryd.prog Gl 39 [.ptr p 0] [(p, .cells (rdC b 2 ⟨k, 0, [], [], 0, []⟩))] [] (.tup []) [(p, .cells (rdC b (2 + (headW (b.drop 2)).2.2) ⟨k, (headW (b.drop 2)).1, (headW (b.drop 2)).2.1, [], 0, []⟩))] [] := fun k h => fs_wParams hst hp (s := ⟨k, 0, [], [], 0, []⟩) h hb rfl rfl
    have cq : ∀ k, 2 ≤ b.length → FS Tryd.prog Gl 40 [.ptr p 0] [(p, .cells (rdC b (2 + (headW (b.drop 2)).2.2) ⟨k, (headW (b.drop 2)).1, (headW (b.drop 2)).2.1, [], 0, []⟩))] [] (.tup []) [(p, .cells (rdC b (2 + (headW (b.drop 2)).2.2 + (restW (b.drop (2 + (headW (b.drop 2)).2.2))).2.2) ⟨k, (headW (b.drop 2)).1, (headW (b.drop 2)).2.1, (restW (b.drop (2 + (headW (b.drop 2)).2.2))).1, (restW (b.drop (2 + (headW (b.drop 2)).2.2))).2.1, []⟩))] [] := fun k h => fs_wRest hst hp (s := ⟨k, (headW (b.drop 2)).1, (headW (b.drop 2)).2.1, [], 0, []⟩) (by omega) hb
    simp only [rdC, hz]
    by_cases e1 : c = 91
    · have g1 : ((c.toNat : Int) == 91) = true := by rw [g1]; exact decide_eq_true e1
      rw [if_pos e1] at hrd
      have h2 := k2 (by rw [e1]; decide)
      simp +contextual (maxSteps := 1000000) only [g1, w2, go_sem, reduceCtorEq, ↓reduceIte, Nat.reduceAdd, Nat.reduceEqDiff, Nat.reduceLeDiff, Nat.reduceMul, Nat.reduceBEq, Int.reduceBEq, Int.reduceBNe, Int.reduceLT, Int.reduceLE, Int.reduceGT, Int.reduceGE, Int.reduceToNat]
      refine CallP.rdX (Ha := []) (cp 1 h2) hp rfl (by simp) (by simp [rdC, pw, w2]) ?_
      simp +contextual (maxSteps := 1000000) only [go_sem, reduceCtorEq, ↓reduceIte, Nat.reduceAdd, Nat.reduceEqDiff, Nat.reduceLeDiff, Nat.reduceMul, Nat.reduceBEq, Int.reduceBEq, Int.reduceBNe, Int.reduceLT, Int.reduceLE, Int.reduceGT, Int.reduceGE, Int.reduceToNat]
      refine CallP.rdX (Ha := []) (cq 1 h2) hp rfl (by simp) (by simp) ?_
      simp +contextual (maxSteps := 1000000) only [go_sem, reduceCtorEq, ↓reduceIte, Nat.reduceAdd, Nat.reduceEqDiff, Nat.reduceLeDiff, Nat.reduceMul, Nat.reduceBEq, Int.reduceBEq, Int.reduceBNe, Int.reduceLT, Int.reduceLE, Int.reduceGT, Int.reduceGE, Int.reduceToNat]
      rw [← hQ, hrd]
      exact ⟨trivial, Ret.rd rfl rfl hp (by simp)⟩
    · have g1 : ((c.toNat : Int) == 91) = false := by rw [g1]; exact decide_eq_false e1
      rw [if_neg e1] at hrd
      by_cases e2 : c = 79
      · have g2 : ((c.toNat : Int) == 79) = true := by rw [g2]; exact decide_eq_true e2
        rw [if_pos e2] at hrd
        simp +contextual (maxSteps := 1000000) only [g1, g2, w2, go_sem, reduceCtorEq, ↓reduceIte, Nat.reduceAdd, Nat.reduceEqDiff, Nat.reduceLeDiff, Nat.reduceMul, Nat.reduceBEq, Int.reduceBEq, Int.reduceBNe, Int.reduceLT, Int.reduceLE, Int.reduceGT, Int.reduceGE, Int.reduceToNat]
        refine CallP.rdX (Ha := []) (fs_next hst hp (b := b) (n := 2) (s := ⟨2, 0, [], [], 0, []⟩) (by omega)) hp rfl (by simp) (by simp [rdC, pw, w2]) ?_
        simp only [rdC]
        simp +contextual (maxSteps := 1000000) only [go_sem, reduceCtorEq, ↓reduceIte, Nat.reduceAdd, Nat.reduceEqDiff, Nat.reduceLeDiff, Nat.reduceMul, Nat.reduceBEq, Int.reduceBEq, Int.reduceBNe, Int.reduceLT, Int.reduceLE, Int.reduceGT, Int.reduceGE, Int.reduceToNat]
        rw [← hQ, hrd]
        exact ⟨trivial, Ret.rd rfl rfl hp (by simp [rdC, peekW])⟩
      · have g2 : ((c.toNat : Int) == 79) = false := by rw [g2]; exact decide_eq_false e2
        rw [if_neg e2] at hrd
        by_cases e3 : c = 80
        · have g3 : ((c.toNat : Int) == 80) = true := by rw [g3]; exact decide_eq_true e3
          rw [if_pos e3] at hrd
          have h2 := k2 (by rw [e3]; decide)
          have hdd := hd h27 (by rw [hc]; exact e3)
          simp +contextual (maxSteps := 1000000) only [g1, g2, g3, w2, go_sem, reduceCtorEq, ↓reduceIte, Nat.reduceAdd, Nat.reduceEqDiff, Nat.reduceLeDiff, Nat.reduceMul, Nat.reduceBEq, Int.reduceBEq, Int.reduceBNe, Int.reduceLT, Int.reduceLE, Int.reduceGT, Int.reduceGE, Int.reduceToNat]
          refine CallP.rdX (Ha := []) (cp 3 h2) hp rfl (by simp) (by simp [rdC, pw, w2]) ?_
          simp +contextual (maxSteps := 1000000) only [go_sem, reduceCtorEq, ↓reduceIte, Nat.reduceAdd, Nat.reduceEqDiff, Nat.reduceLeDiff, Nat.reduceMul, Nat.reduceBEq, Int.reduceBEq, Int.reduceBNe, Int.reduceLT, Int.reduceLE, Int.reduceGT, Int.reduceGE, Int.reduceToNat]
          refine CallP.rdX (Ha := []) (cq 3 h2) hp rfl (by simp) (by simp) ?_
          generalize 2 + (headW (b.drop 2)).2.2 + (restW (b.drop (2 + (headW (b.drop 2)).2.2))).2.2 = n at hdd hrd ⊢
          have cr : ∀ s, FS Tryd.prog Gl 41 [.ptr p 0, .int .u8 32, .int .u8 126] [(p, .cells (rdC b n s))] [] (.str (runL 32 126 (b.drop n))) [(p, .cells (rdC b (n + (runL 32 126 (b.drop n)).length) s))] [] := fun s => fs_run hst hp (x := 32) (y := 126) hdd (by omega)
          have hrl := runL_le 32 126 (b.drop n)
          rw [List.length_drop] at hrl
          have hw : IntKind.i64.wrap (((n + (runL 32 126 (b.drop n)).length : Nat) : Int) + 2) = ((n + (runL 32 126 (b.drop n)).length + 2 : Nat) : Int) := by rw [IntKind.wrap_i64]; omega
          generalize runL 32 126 (b.drop n) = dt at cr hrl hw hrd
          simp +contextual (maxSteps := 1000000) only [go_sem, reduceCtorEq, ↓reduceIte, Nat.reduceAdd, Nat.reduceEqDiff, Nat.reduceLeDiff, Nat.reduceMul, Nat.reduceBEq, Int.reduceBEq, Int.reduceBNe, Int.reduceLT, Int.reduceLE, Int.reduceGT, Int.reduceGE, Int.reduceToNat]
          refine CallP.rdX (Ha := []) (cr ⟨3, (headW (b.drop 2)).1, (headW (b.drop 2)).2.1, (restW (b.drop (2 + (headW (b.drop 2)).2.2))).1, (restW (b.drop (2 + (headW (b.drop 2)).2.2))).2.1, []⟩) hp rfl (by simp) (by simp) ?_
          simp only [rdC]
          simp +contextual (maxSteps := 1000000) only [hw, go_sem, reduceCtorEq, ↓reduceIte, Nat.reduceAdd, Nat.reduceEqDiff, Nat.reduceLeDiff, Nat.reduceMul, Nat.reduceBEq, Int.reduceBEq, Int.reduceBNe, Int.reduceLT, Int.reduceLE, Int.reduceGT, Int.reduceGE, Int.reduceToNat]
          rw [← hQ, hrd]
          exact ⟨trivial, Ret.rd rfl rfl hp (by simp [rdC])⟩
        · have g3 : ((c.toNat : Int) == 80) = false := by rw [g3]; exact decide_eq_false e3
          rw [if_neg e3] at hrd
          by_cases e4 : c = 93
          · have g4 : ((c.toNat : Int) == 93) = true := by rw [g4]; exact decide_eq_true e4
            rw [if_pos e4] at hrd
            have h2 := k2 (by rw [e4]; decide)
            have cr : ∀ s, FS Tryd.prog Gl 41 [.ptr p 0, .int .u8 32, .int .u8 126] [(p, .cells (rdC b 2 s))] [] (.str (runL 32 126 (b.drop 2))) [(p, .cells (rdC b (2 + (runL 32 126 (b.drop 2)).length) s))] [] := fun s => fs_run hst hp (x := 32) (y := 126) h2 (by omega)
            have hrl := runL_le 32 126 (b.drop 2)
            rw [List.length_drop] at hrl
            have hw : IntKind.i64.wrap (((2 + (runL 32 126 (b.drop 2)).length : Nat) : Int) + 2) = ((2 + (runL 32 126 (b.drop 2)).length + 2 : Nat) : Int) := by rw [IntKind.wrap_i64]; omega
            generalize runL 32 126 (b.drop 2) = dt at cr hrl hw hrd
            simp +contextual (maxSteps := 1000000) only [g1, g2, g3, g4, w2, go_sem, reduceCtorEq, ↓reduceIte, Nat.reduceAdd, Nat.reduceEqDiff, Nat.reduceLeDiff, Nat.reduceMul, Nat.reduceBEq, Int.reduceBEq, Int.reduceBNe, Int.reduceLT, Int.reduceLE, Int.reduceGT, Int.reduceGE, Int.reduceToNat]
            refine CallP.rdX (Ha := []) (cr ⟨4, 0, [], [], 0, []⟩) hp rfl (by simp) (by simp [rdC, pw, w2]) ?_
            simp only [rdC]
            simp +contextual (maxSteps := 1000000) only [hw, go_sem, reduceCtorEq, ↓reduceIte, Nat.reduceAdd, Nat.reduceEqDiff, Nat.reduceLeDiff, Nat.reduceMul, Nat.reduceBEq, Int.reduceBEq, Int.reduceBNe, Int.reduceLT, Int.reduceLE, Int.reduceGT, Int.reduceGE, Int.reduceToNat]
            rw [← hQ, hrd]
            exact ⟨trivial, Ret.rd rfl rfl hp (by simp [rdC])⟩
          · have g4 : ((c.toNat : Int) == 93) = false := by rw [g4]; exact decide_eq_false e4
            rw [if_neg e4] at hrd
            simp +contextual (maxSteps := 1000000) only [g1, g2, g3, g4, go_sem, reduceCtorEq, ↓reduceIte, Nat.reduceAdd, Nat.reduceEqDiff, Nat.reduceLeDiff, Nat.reduceMul, Nat.reduceBEq, Int.reduceBEq, Int.reduceBNe, Int.reduceLT, Int.reduceLE, Int.reduceGT, Int.reduceGE, Int.reduceToNat]
            refine CallP.rdX (Ha := []) (fs_wRest hst hp (b := b) (n := 1) (s := ⟨5, 0, [], [], 0, []⟩) hl1 hb) hp rfl (by simp) (by simp [rdC, pw, w2]) ?_
            simp +contextual (maxSteps := 1000000) only [go_sem, reduceCtorEq, ↓reduceIte, Nat.reduceAdd, Nat.reduceEqDiff, Nat.reduceLeDiff, Nat.reduceMul, Nat.reduceBEq, Int.reduceBEq, Int.reduceBNe, Int.reduceLT, Int.reduceLE, Int.reduceGT, Int.reduceGE, Int.reduceToNat]
            rw [← hQ, hrd]
            exact ⟨trivial, Ret.rd rfl rfl hp (by simp)⟩
  · have n1 : (((b.headD 0).toNat : Int) != 27) = true := by rw [n1, decide_eq_false h27]; rfl
    simp +contextual (maxSteps := 1000000) only [n1, go_sem, reduceCtorEq, ↓reduceIte, Nat.reduceAdd, Nat.reduceEqDiff, Nat.reduceLeDiff, Nat.reduceMul, Nat.reduceBEq, Int.reduceBEq, Int.reduceBNe, Int.reduceLT, Int.reduceLE, Int.reduceGT, Int.reduceGE, Int.reduceToNat]
    rw [← hQ]
    refine ⟨trivial, Ret.rd rfl rfl hp ?_⟩
    unfold readW
    rw [if_pos h27]
    exact List.mem_singleton.2 rfl
end Go.Proofs.YtcdkcfpgdbjogaaDoor

namespace Go.Proofs.YtcdkcfpgdbjogaaDoor
open Go Go.Ab
def ir_bytesEqual : ICode :=
 (.seq
 (.reg [⟨some 4, none, .mov (.c (.bool false))⟩] (some [0, 1]))
 (.seq
 (.reg [⟨some 5, none, .mov (.t 0)⟩,
 ⟨some 6, none, .b2s (.t 5)⟩,
 ⟨some 7, none, .mov (.t 1)⟩,
 ⟨some 8, none, .b2s (.t 7)⟩,
 ⟨some 9, none, .bin .eql .none (.t 6) (.t 8)⟩,
 ⟨some 4, none, .mov (.t 9)⟩] (some [4]))
 .ret))
theorem is_bytesEqual : IrOf Tryd.prog 42 10 ir_bytesEqual [.t 4] := ⟨_, Tryd.func42, rfl, by kernel_rfl, by kernel_rfl, by kernel_rfl⟩

def ir_bytesHasPrefix : ICode :=
 (.seq
 (.reg [⟨some 4, none, .mov (.c (.bool false))⟩] (some [0, 1]))
 (.seq
 (.reg [⟨some 5, none, .mov (.t 0)⟩,
 ⟨some 6, none, .len (.t 5)⟩,
 ⟨some 7, none, .mov (.t 1)⟩,
 ⟨some 8, none, .len (.t 7)⟩,
 ⟨some 9, none, .bin .geq .none (.t 6) (.t 8)⟩,
 ⟨some 10, none, .mov (.t 9)⟩,
 ⟨some 11, some (10, true), .mov (.t 0)⟩,
 ⟨some 12, some (10, true), .mov (.t 1)⟩,
 ⟨some 13, some (10, true), .len (.t 12)⟩,
 ⟨some 14, some (10, true), .sll 1 (.t 11) none (some (.t 13)) none⟩,
 ⟨some 15, some (10, true), .mov (.t 1)⟩,
 ⟨some 16, some (10, true), .call (.c (.fn (.func 42) [] [])) [(.t 14), (.t 15)]⟩,
 ⟨some 17, none, .pick (.t 10) (.t 16) (.c (.bool false))⟩,
 ⟨some 4, none, .mov (.t 17)⟩] (some [4]))
 .ret))
theorem is_bytesHasPrefix : IrOf Tryd.prog 26 18 ir_bytesHasPrefix [.t 4] := ⟨_, Tryd.func26, rfl, by kernel_rfl, by kernel_rfl, by kernel_rfl⟩

def ir_wireTake : ICode :=
 (.seq
 (.reg [⟨some 2, none, .box 24 (.c (.agg [(.int .i64 0), (.int .u8 0), .nils, (.str []), (.int .u8 0), (.str [])]))⟩,
 ⟨some 3, none, .mov (.c (.int .i64 0))⟩,
 ⟨some 4, none, .mov (.c (.int .i64 0))⟩] (some [0, 2]))
 (.seq
 (.reg [⟨some 8, none, .mov (.t 0)⟩,
 ⟨some 9, none, .bld [.nils, (.int .i64 0)] [(0, 1, (.t 8))]⟩,
 ⟨some 10, none, .bld [.nils, (.int .i64 0), (.int .i64 0), (.int .u8 0), .nils, (.str []), (.int .u8 0), (.str [])] [(0, 2, (.t 9))]⟩,
 ⟨some 5, none, .box 51 (.c (.agg [.nils, (.int .i64 0), (.int .i64 0), (.int .u8 0), .nils, (.str []), (.int .u8 0), (.str [])]))⟩,
 ⟨none, none, .st 8 (.t 5) (.t 10)⟩] (some [0, 2, 5]))
 (.seq
 (.reg [⟨some 11, none, .call (.c (.fn (.func 25) [] [])) [(.t 5)]⟩] (some [0, 2, 5]))
 (.seq
 (.reg [⟨some 13, none, .fa 2 (.t 5)⟩,
 ⟨some 14, none, .ld (some 6) (.t 13)⟩,
 ⟨some 15, none, .call (.c (.fn (.func 7) [] [])) [(.t 14)]⟩,
 ⟨some 12, none, .mov (.t 15)⟩,
 ⟨some 16, none, .ext (.t 12) 0⟩,
 ⟨some 17, none, .ext (.t 12) 1⟩,
 ⟨some 6, none, .mov (.t 16)⟩,
 ⟨some 7, none, .mov (.t 17)⟩] (some [0, 2, 5, 6, 7]))
 (.seq
 (.seq
 (.reg [⟨some 18, none, .mov (.t 7)⟩,
 ⟨some 19, none, .bin .neq .none (.t 18) (.c (.int .i64 0))⟩,
 ⟨some 20, none, .mov (.t 19)⟩,
 ⟨some 21, some (20, false), .mov (.t 0)⟩,
 ⟨some 22, some (20, false), .mov (.t 6)⟩,
 ⟨some 23, some (20, false), .call (.c (.fn (.func 26) [] [])) [(.t 21), (.t 22)]⟩,
 ⟨some 24, some (20, false), .un .not (.t 23)⟩,
 ⟨some 25, none, .pick (.t 20) (.c (.bool true)) (.t 24)⟩,
 ⟨some 26, none, .mov (.t 25)⟩,
 ⟨some 27, some (26, false), .mov (.t 6)⟩,
 ⟨some 28, some (26, false), .len (.t 27)⟩,
 ⟨some 29, some (26, false), .fa 0 (.t 5)⟩,
 ⟨some 30, some (26, false), .fa 1 (.t 29)⟩,
 ⟨some 31, some (26, false), .ld none (.t 30)⟩,
 ⟨some 32, some (26, false), .bin .neq .none (.t 28) (.t 31)⟩,
 ⟨some 33, none, .pick (.t 26) (.c (.bool true)) (.t 32)⟩] (some [2, 5, 33]))
 (.cond (.t 33)
 (.seq
 (.reg [⟨some 34, none, .bld [(.int .i64 0), (.int .u8 0), .nils, (.str []), (.int .u8 0), (.str [])] []⟩,
 ⟨none, none, .st 6 (.t 2) (.t 34)⟩,
 ⟨some 3, none, .mov (.c (.int .i64 0))⟩,
 ⟨some 4, none, .mov (.c (.int .i64 2))⟩] (some [2, 3, 4]))
 .ret)
 .skip))
 (.seq
 (.drwm [(), (), (), (), ()] [⟨⟨some 35, none, .fa 2 (.t 5)⟩, []⟩,
 ⟨⟨some 36, none, .ld (some 6) (.t 35)⟩, [0]⟩,
 ⟨⟨some 37, none, .fa 0 (.t 5)⟩, []⟩,
 ⟨⟨some 38, none, .fa 1 (.t 37)⟩, [2]⟩,
 ⟨⟨some 39, none, .ld none (.t 38)⟩, [3]⟩,
 ⟨⟨none, none, .st 6 (.t 2) (.t 36)⟩, [1, 0, 1]⟩]
 [⟨some 3, none, .mov (.t 39)⟩,
 ⟨some 4, none, .mov (.c (.int .i64 0))⟩] (some [2, 3, 4]))
 .ret))))))
theorem is_wireTake : IrOf Tryd.prog 11 40 ir_wireTake [.cell 2 (some 6), .t 3, .t 4] := ⟨_, Tryd.func11, rfl, by kernel_rfl, by kernel_rfl, by kernel_rfl⟩

theorem fs_BEqual {Gl : Gh → Prop} (hst : Stays Gl) {a b : List UInt8} {ta tb : Option Nm} : FS Tryd.prog Gl 42 [.sl ta 1 (bytesAV a), .sl tb 1 (bytesAV b)] [] [] (.bool (decide (a = b))) [] [] := by
  refine FS.of hm hst is_bytesEqual (by simp) fun γ hγ hfr => ?_
  (generalize hQ : (fun (ex : Ex) (_ _ : Nat) (s : St) => _) = Q; unfold ir_bytesEqual)
  simp +contextual (maxSteps := 1000000) only [bb_un, bb_is, implies_true, go_sem, reduceCtorEq, ↓reduceIte, Nat.reduceAdd, Nat.reduceEqDiff]
  rw [← hQ]
  exact ⟨trivial, Ret.flat rfl rfl⟩
theorem fs_BHasPrefix {Gl : Gh → Prop} (hst : Stays Gl) {a b : List UInt8} {ta tb : Option Nm} : FS Tryd.prog Gl 26 [.sl ta 1 (bytesAV a), .sl tb 1 (bytesAV b)] [] [] (.bool (decide (b <+: a))) [] [] := by
  refine FS.of hm hst is_bytesHasPrefix (by simp) fun γ hγ hfr => ?_
  (generalize hQ : (fun (ex : Ex) (_ _ : Nat) (s : St) => _) = Q; unfold ir_bytesHasPrefix)
  by_cases h : b.length ≤ a.length
  · have hd : decide ((a.length : Int) ≥ (b.length : Int)) = true := by simp; omega
    have e : decide (b <+: a) = decide (a.take b.length = b) := by
      rw [decide_eq_decide]
      constructor
      · rintro ⟨r, rfl⟩; simp
      · intro h'; rw [← h']; exact List.take_prefix _ _
    simp +contextual (maxSteps := 1000000) only [hd, bytesAV_length', bytesAV_take, Int.toNat_natCast, Int.toNat_zero, go_sem, reduceCtorEq, ↓reduceIte, Nat.reduceAdd, Nat.reduceEqDiff]
    refine ⟨by omega, ?_⟩
    (refine CallP.pure (fs_BEqual hst) (fun _ => rfl) ?_; simp +contextual (maxSteps := 1000000) only [go_sem, reduceCtorEq, ↓reduceIte, Nat.reduceAdd, Nat.reduceEqDiff])
    rw [← hQ, e]
    exact ⟨trivial, Ret.flat rfl rfl⟩
  · have hd : decide ((a.length : Int) ≥ (b.length : Int)) = false := by simp; omega
    simp +contextual (maxSteps := 1000000) only [hd, bytesAV_length', go_sem, reduceCtorEq, ↓reduceIte, Nat.reduceAdd, Nat.reduceEqDiff]
    rw [← hQ]
    have e : decide (b <+: a) = false := decide_eq_false fun hh => h hh.length_le
    rw [e]
    exact ⟨trivial, Ret.flat rfl rfl⟩
theorem pw_args {k pr fi : Int} {ps : List (List Int)} {it da : List UInt8} : LeL [.agg [.int .i64 k, .int .u8 pr, pw ps, .str it, .int .u8 fi, .str da]] [.agg (Sq.c ⟨k, pr, ps, it, fi, da⟩)] :=
  ⟨RepLe.agg ⟨.refl _, .refl _, pw_le _, .refl _, .refl _, .refl _, trivial⟩, trivial⟩
theorem RepLe.tupL {xs ys : List AV} (h : LeL xs ys) : RepLe (.tup xs) (.tup ys) := fun g v ⟨vs, e, k⟩ => ⟨vs, e, h.rep k⟩
theorem zero_le : RepLe (.tup [.agg [.int .i64 0, .int .u8 0, .nils, .str [], .int .u8 0, .str []], .int .i64 0, .int .i64 2]) (.tup [.agg zeroSq.c, .int .i64 0, .int .i64 2]) :=
  RepLe.tupL ⟨RepLe.agg ⟨.refl _, .refl _, .nils 1, .refl _, .refl _, .refl _, trivial⟩, .refl _, .refl _, trivial⟩
def takeV (b : List UInt8) : AV := match takeW b with
  | some (s, n) => .tup [.agg s.c, .int .i64 (n : Int), .int .i64 0]
  | none => .tup [.agg zeroSq.c, .int .i64 0, .int .i64 2]
theorem headD_range (l : List UInt8) : 0 ≤ ((l.headD 0).toNat : Int) ∧ ((l.headD 0).toNat : Int) < 256 := by
  have := (l.headD 0).toNat_lt; omega
theorem headW_sz (l : List UInt8) : (0 ≤ (headW l).1 ∧ (headW l).1 < 256) ∧ (headW l).2.1.length ≤ l.length + 1 ∧ ∀ p ∈ (headW l).2.1, p.length ≤ l.length + 1 := by
  unfold headW
  simp only
  have hh := headD_range l
  refine ⟨by split <;> omega, ?_⟩
  generalize (if isPr (l.headD 0) = true then 1 else 0) = k
  have h1 := runL_le 48 59 (l.drop k)
  rw [List.length_drop] at h1
  generalize runL 48 59 (l.drop k) = t at h1
  unfold numsW
  split
  · simp
  · have h2 := splitB_len (c := 59) (l := t)
    refine ⟨by simp; omega, fun p hp => ?_⟩
    obtain ⟨q, hq, rfl⟩ := List.mem_map.1 hp
    have h3 := splitB_mem_len hq
    have h4 := splitB_len (c := 58) (l := q)
    simp [subsW]; omega
theorem restW_sz (l : List UInt8) : (restW l).1.length ≤ l.length ∧ 0 ≤ (restW l).2.1 ∧ (restW l).2.1 < 256 := by
  unfold restW
  exact ⟨runL_le _ _ _, headD_range _⟩
theorem readW_sz {b : List UInt8} (hb : b.length ≤ 4000000000) : (0 ≤ (readW b).1.pr ∧ (readW b).1.pr < 256) ∧ 0 ≤ (readW b).1.fi ∧ (readW b).1.fi < 256 ∧ (readW b).1.sm := by
  have a1 := headW_sz (b.drop 2)
  have a2 := fun n => restW_sz (b.drop n)
  have a3 := fun n => runL_le 32 126 (b.drop n)
  simp only [List.length_drop] at a1 a2 a3
  unfold readW
  split
  · exact ⟨by simp [zeroSq], by simp [zeroSq], by simp [zeroSq], ⟨by simp [zeroSq], by simp [zeroSq], by simp [zeroSq], by simp [zeroSq]⟩⟩
  · simp only
    split
    · have := a2 (2 + (headW (b.drop 2)).2.2)
      exact ⟨a1.1, this.2.1, this.2.2, ⟨by have := a1.2.1; simp only; omega, fun p hp => by have := a1.2.2 p hp; omega, by have := this.1; simp only; omega, by simp⟩⟩
    · split
      · have := headD_range (b.drop 2)
        exact ⟨by simp, this.1, this.2, ⟨by simp, by simp, by simp, by simp⟩⟩
      · split
        · have := a2 (2 + (headW (b.drop 2)).2.2)
          exact ⟨a1.1, this.2.1, this.2.2, ⟨by have := a1.2.1; simp only; omega, fun p hp => by have := a1.2.2 p hp; omega, by have := this.1; simp only; omega, Nat.lt_of_le_of_lt (a3 _) (by omega)⟩⟩
        · split
          · exact ⟨by simp, by simp, by simp, ⟨by simp, by simp, by simp, Nat.lt_of_le_of_lt (a3 _) (by omega)⟩⟩
          · have := a2 1
            exact ⟨by simp, this.2.1, this.2.2, ⟨by simp, by simp, by have := this.1; simp only; omega, by simp⟩⟩
set_option maxHeartbeats 4000000 in
theorem fs_wTakeA {Gl : Gh → Prop} (hst : Stays Gl) {b : List UInt8} {tb : Option Nm} (hb : b.length ≤ 4000000000) (hd : dcsOk b) :
    FS Tryd.prog Gl 11 [.sl tb 1 (bytesAV b)] [] [] (takeV b) [] [] := by
  refine FS.args (args' := [.sl none 1 (bytesAV b)]) ?_ ⟨RepLe.anon _ _ _, trivial⟩
  have hfl : (takeV b).flatT = true := by
    unfold takeV; split <;> rfl
  obtain ⟨⟨p0, p1⟩, f0, hf, hsm⟩ := readW_sz hb
  have c2 : FS Tryd.prog Gl 7 [.agg [.int .i64 (readW b).1.k, .int .u8 (readW b).1.pr, pw (readW b).1.ps, .str (readW b).1.it, .int .u8 (readW b).1.fi, .str (readW b).1.da]] [] [] (.tup [putV (readW b).1, .int .i64 (mayP (readW b).1)]) [] [] := FS.args (fs_wPut hst p0 p1 f0 hf hsm) pw_args
  refine FS.ofW hm hst is_wireTake hfl (by simp) fun γ hγ hfr => ?_
  (generalize hQ : (fun (ex : Ex) (_ _ : Nat) (s : St) => _) = Q; unfold ir_wireTake)
  simp +contextual (maxSteps := 1000000) only [go_sem, reduceCtorEq, ↓reduceIte, Nat.reduceAdd, Nat.reduceEqDiff, Nat.reduceLeDiff, Nat.reduceMul, Nat.reduceBEq, Int.reduceBEq, Int.reduceBNe, Int.reduceLT, Int.reduceLE, Int.reduceGT, Int.reduceGE, Int.reduceToNat]
  refine CallP.rdX (Ha := [((γ, 0, 0), .cells [.int .i64 0, .int .u8 0, .nils, .str [], .int .u8 0, .str []])]) (fs_wRead (p := (γ, 6, 0)) hst hγ hb hd) hγ rfl (by simp) (by simp [rdC, pw, zeroSq]) ?_
  have htk : takeW b = if mayP (readW b).1 = 0 ∧ putB (readW b).1 <+: b ∧ (putB (readW b).1).length = (readW b).2 then some (readW b) else none := rfl
  have htv : takeV b = match takeW b with | some (s, n) => .tup [.agg s.c, .int .i64 (n : Int), .int .i64 0] | none => .tup [.agg zeroSq.c, .int .i64 0, .int .i64 2] := rfl
  generalize readW b = r at *
  obtain ⟨⟨k, pr, ps, it, fi, da⟩, n⟩ := r
  simp only at *
  have hpv : putV ⟨k, pr, ps, it, fi, da⟩ = if (mayP ⟨k, pr, ps, it, fi, da⟩ != 0) = true then .nils else .sl none 1 (bytesAV (putB ⟨k, pr, ps, it, fi, da⟩)) := rfl
  simp only [rdC]
  by_cases hmy : mayP ⟨k, pr, ps, it, fi, da⟩ = 0
  · rw [hmy] at hpv c2
    rw [show ((0 : Int) != 0) = false from rfl, if_neg (by simp)] at hpv
    rw [hpv] at c2
    rw [hmy] at htk
    simp +contextual (maxSteps := 1000000) only [go_sem, reduceCtorEq, ↓reduceIte, Nat.reduceAdd, Nat.reduceEqDiff, Nat.reduceLeDiff, Nat.reduceMul, Nat.reduceBEq, Int.reduceBEq, Int.reduceBNe, Int.reduceLT, Int.reduceLE, Int.reduceGT, Int.reduceGE, Int.reduceToNat]
    (refine CallP.pure (c2) (fun _ => rfl) ?_; simp +contextual (maxSteps := 1000000) only [go_sem, reduceCtorEq, ↓reduceIte, Nat.reduceAdd, Nat.reduceEqDiff, Nat.reduceLeDiff, Nat.reduceMul, Nat.reduceBEq, Int.reduceBEq, Int.reduceBNe, Int.reduceLT, Int.reduceLE, Int.reduceGT, Int.reduceGE, Int.reduceToNat])
    cases hpx : decide (putB ⟨k, pr, ps, it, fi, da⟩ <+: b) with
    | false =>
      have c3 := fs_BHasPrefix (Gl := Gl) hst (a := b) (b := putB ⟨k, pr, ps, it, fi, da⟩) (ta := none) (tb := none)
      rw [hpx] at c3
      (refine CallP.pure (c3) (fun _ => rfl) ?_; simp +contextual (maxSteps := 1000000) only [go_sem, reduceCtorEq, ↓reduceIte, Nat.reduceAdd, Nat.reduceEqDiff, Nat.reduceLeDiff, Nat.reduceMul, Nat.reduceBEq, Int.reduceBEq, Int.reduceBNe, Int.reduceLT, Int.reduceLE, Int.reduceGT, Int.reduceGE, Int.reduceToNat])
      have hn0 : takeW b = none := by rw [htk, if_neg (fun h => of_decide_eq_false hpx h.2.1)]
      rw [← hQ, htv, hn0]
      refine ⟨trivial, .inl ⟨.tup [.agg [.int .i64 0, .int .u8 0, .nils, .str [], .int .u8 0, .str []], .int .i64 0, .int .i64 2], ?_, zero_le⟩⟩
      simp [resOf, getAll, IRes.get, lf, getH]
    | true =>
      have c3 := fs_BHasPrefix (Gl := Gl) hst (a := b) (b := putB ⟨k, pr, ps, it, fi, da⟩) (ta := none) (tb := none)
      rw [hpx] at c3
      by_cases hln : (putB ⟨k, pr, ps, it, fi, da⟩).length = n
      · have hq : (((putB ⟨k, pr, ps, it, fi, da⟩).length : Int) != (n : Int)) = false := by rw [bne_eq_false_iff_eq]; omega
        (refine CallP.pure (c3) (fun _ => rfl) ?_; simp +contextual (maxSteps := 1000000) only [bytesAV_length', hq, go_sem, reduceCtorEq, ↓reduceIte, Nat.reduceAdd, Nat.reduceEqDiff, Nat.reduceLeDiff, Nat.reduceMul, Nat.reduceBEq, Int.reduceBEq, Int.reduceBNe, Int.reduceLT, Int.reduceLE, Int.reduceGT, Int.reduceGE, Int.reduceToNat])
        refine kDrwM_of [((γ, 6, 0), .cells [.sl none 1 (bytesAV b), .int .i64 n, .int .i64 k, .int .u8 pr, pw ps, .str it, .int .u8 fi, .str da])] [((γ, 0, 0), .cells [.int .i64 0, .int .u8 0, .nils, .str [], .int .u8 0, .str []])] (by simp) (by simp) ?_
        simp +contextual (maxSteps := 1000000) only [pw_cells, pw_one, go_sem, reduceCtorEq, ↓reduceIte, Nat.reduceAdd, Nat.reduceEqDiff, Nat.reduceLeDiff, Nat.reduceMul, Nat.reduceBEq, Int.reduceBEq, Int.reduceBNe, Int.reduceLT, Int.reduceLE, Int.reduceGT, Int.reduceGE, Int.reduceToNat]
        refine ⟨by simp, ?_⟩
        have hs0 : takeW b = some (⟨k, pr, ps, it, fi, da⟩, n) := by rw [htk, if_pos ⟨rfl, of_decide_eq_true hpx, hln⟩]
        rw [← hQ, htv, hs0]
        refine ⟨trivial, .inl ⟨.tup [.agg [.int .i64 k, .int .u8 pr, pw ps, .str it, .int .u8 fi, .str da], .int .i64 n, .int .i64 0], ?_, RepLe.tupL ⟨RepLe.agg ⟨.refl _, .refl _, pw_le _, .refl _, .refl _, .refl _, trivial⟩, .refl _, .refl _, trivial⟩⟩⟩
        simp [resOf, getAll, IRes.get, lf, getH]
      · have hq : (((putB ⟨k, pr, ps, it, fi, da⟩).length : Int) != (n : Int)) = true := by rw [bne_iff_ne]; omega
        have hn0 : takeW b = none := by rw [htk, if_neg (fun h => hln h.2.2)]
        (refine CallP.pure (c3) (fun _ => rfl) ?_; simp +contextual (maxSteps := 1000000) only [bytesAV_length', hq, go_sem, reduceCtorEq, ↓reduceIte, Nat.reduceAdd, Nat.reduceEqDiff, Nat.reduceLeDiff, Nat.reduceMul, Nat.reduceBEq, Int.reduceBEq, Int.reduceBNe, Int.reduceLT, Int.reduceLE, Int.reduceGT, Int.reduceGE, Int.reduceToNat])
        rw [← hQ, htv, hn0]
        refine ⟨trivial, .inl ⟨.tup [.agg [.int .i64 0, .int .u8 0, .nils, .str [], .int .u8 0, .str []], .int .i64 0, .int .i64 2], ?_, zero_le⟩⟩
        simp [resOf, getAll, IRes.get, lf, getH]
  · have hmb : (mayP ⟨k, pr, ps, it, fi, da⟩ != 0) = true := by rw [bne_iff_ne]; exact hmy
    rw [hmb, if_pos rfl] at hpv
    rw [hpv] at c2
    have hn0 : takeW b = none := by rw [htk, if_neg (fun h => hmy h.1)]
    simp +contextual (maxSteps := 1000000) only [go_sem, reduceCtorEq, ↓reduceIte, Nat.reduceAdd, Nat.reduceEqDiff, Nat.reduceLeDiff, Nat.reduceMul, Nat.reduceBEq, Int.reduceBEq, Int.reduceBNe, Int.reduceLT, Int.reduceLE, Int.reduceGT, Int.reduceGE, Int.reduceToNat]
    (refine CallP.pure (c2) (fun _ => rfl) ?_; simp +contextual (maxSteps := 1000000) only [hmb, go_sem, reduceCtorEq, ↓reduceIte, Nat.reduceAdd, Nat.reduceEqDiff, Nat.reduceLeDiff, Nat.reduceMul, Nat.reduceBEq, Int.reduceBEq, Int.reduceBNe, Int.reduceLT, Int.reduceLE, Int.reduceGT, Int.reduceGE, Int.reduceToNat])
    rw [← hQ, htv, hn0]
    refine ⟨trivial, .inl ⟨.tup [.agg [.int .i64 0, .int .u8 0, .nils, .str [], .int .u8 0, .str []], .int .i64 0, .int .i64 2], ?_, zero_le⟩⟩
    simp [resOf, getAll, IRes.get, lf, getH]
theorem fs_wTake {Gl : Gh → Prop} (hst : Stays Gl) {b : List UInt8} {tb : Option Nm} (hb : b.length ≤ 4000000000) (hd : dcsOk b) (hf : (readW b).1.fi < 128) :
    FS Tryd.prog Gl 11 [.sl tb 1 (bytesAV b)] [] [] (takeV b) [] [] := fs_wTakeA hst hb hd
end Go.Proofs.YtcdkcfpgdbjogaaDoor

namespace Go.Proofs.YtcdkcfpgdbjogaaDoor
open Go Go.Ab
def ir_wireArg : ICode :=
 (.seq
 (.reg [⟨some 3, none, .box 24 (.t 0)⟩,
 ⟨some 6, none, .mov (.c (.int .i64 0))⟩] (some [1, 2, 3]))
 (.seq
 (.seq
 (.reg [⟨some 7, none, .mov (.t 1)⟩,
 ⟨some 8, none, .bin .lss .none (.t 7) (.c (.int .i64 0))⟩,
 ⟨some 9, none, .mov (.t 8)⟩,
 ⟨some 10, some (9, false), .mov (.t 1)⟩,
 ⟨some 11, some (9, false), .fa 2 (.t 3)⟩,
 ⟨some 12, some (9, false), .ld none (.t 11)⟩,
 ⟨some 13, some (9, false), .len (.t 12)⟩,
 ⟨some 14, some (9, false), .bin .geq .none (.t 10) (.t 13)⟩,
 ⟨some 15, none, .pick (.t 9) (.c (.bool true)) (.t 14)⟩,
 ⟨some 16, none, .mov (.t 15)⟩,
 ⟨some 17, some (16, false), .fa 2 (.t 3)⟩,
 ⟨some 18, some (16, false), .ld none (.t 17)⟩,
 ⟨some 19, some (16, false), .mov (.t 1)⟩,
 ⟨some 20, some (16, false), .ia 1 (.t 18) (.t 19)⟩,
 ⟨some 21, some (16, false), .ld none (.t 20)⟩,
 ⟨some 22, some (16, false), .len (.t 21)⟩,
 ⟨some 23, some (16, false), .bin .eql .none (.t 22) (.c (.int .i64 0))⟩,
 ⟨some 24, none, .pick (.t 16) (.c (.bool true)) (.t 23)⟩,
 ⟨some 25, none, .mov (.t 24)⟩,
 ⟨some 26, some (25, false), .fa 2 (.t 3)⟩,
 ⟨some 27, some (25, false), .ld none (.t 26)⟩,
 ⟨some 28, some (25, false), .mov (.t 1)⟩,
 ⟨some 29, some (25, false), .ia 1 (.t 27) (.t 28)⟩,
 ⟨some 30, some (25, false), .ld none (.t 29)⟩,
 ⟨some 31, some (25, false), .ia 1 (.t 30) (.c (.int .i64 0))⟩,
 ⟨some 32, some (25, false), .ld none (.t 31)⟩,
 ⟨some 33, some (25, false), .bin .lss .none (.t 32) (.c (.int .i64 0))⟩,
 ⟨some 34, none, .pick (.t 25) (.c (.bool true)) (.t 33)⟩] (some [1, 2, 3, 34]))
 (.cond (.t 34)
 (.seq
 (.reg [⟨some 35, none, .mov (.t 2)⟩,
 ⟨some 6, none, .mov (.t 35)⟩] (some [6]))
 .ret)
 .skip))
 (.seq
 (.reg [⟨some 36, none, .fa 2 (.t 3)⟩,
 ⟨some 37, none, .ld none (.t 36)⟩,
 ⟨some 38, none, .mov (.t 1)⟩,
 ⟨some 39, none, .ia 1 (.t 37) (.t 38)⟩,
 ⟨some 40, none, .ld none (.t 39)⟩,
 ⟨some 41, none, .ia 1 (.t 40) (.c (.int .i64 0))⟩,
 ⟨some 42, none, .ld none (.t 41)⟩,
 ⟨some 6, none, .mov (.t 42)⟩] (some [6]))
 .ret)))
theorem is_wireArg : IrOf Tryd.prog 14 43 ir_wireArg [.t 6] := ⟨_, Tryd.func14, rfl, by kernel_rfl, by kernel_rfl, by kernel_rfl⟩

theorem dcs_of_len {b : List UInt8} (h : (readW b).2 ≤ b.length) : dcsOk b := by
  intro h1 h2
  unfold readW at h
  rw [if_neg (not_not_intro h1)] at h
  simp only at h
  rw [h2] at h
  rw [if_neg (by decide), if_neg (by decide), if_pos rfl] at h
  simp only at h
  omega
theorem fi_may {s : Sq} (h : mayP s = 0) : s.fi < 128 := by
  have h1 := (mayF h).sh
  unfold shapedP at h1
  repeat' split at h1
  all_goals simp only [Bool.and_eq_true, decide_eq_true_eq, beq_iff_eq, Bool.false_eq_true] at h1
  all_goals omega
theorem take_may {s : Sq} (h : mayP s = 0) (more : List UInt8) : dcsOk (putB s ++ more) ∧ (readW (putB s ++ more)).1.fi < 128 ∧ takeV (putB s ++ more) = .tup [.agg s.c, .int .i64 (putB s).length, .int .i64 0] := by
  have h1 := readW_put h more
  refine ⟨dcs_of_len (by rw [h1]; simp), by rw [h1]; exact fi_may h, ?_⟩
  unfold takeV
  rw [takeW_put h]
def argW (ps : List (List Int)) (i : Nat) (o : Int) : Int := match ps[i]? with
  | some (x :: _) => if x < 0 then o else x
  | _ => o
theorem fs_wArg {Gl : Gh → Prop} (hst : Stays Gl) {k pr fi o : Int} {ps : List (List Int)} {it da : List UInt8} {i : Nat} : FS Tryd.prog Gl 14 [.agg [.int .i64 k, .int .u8 pr, .sl none 1 (parsAV ps), .str it, .int .u8 fi, .str da], .int .i64 (i : Int), .int .i64 o] [] [] (.int .i64 (argW ps i o)) [] [] := by
  refine FS.of hm hst is_wireArg (by simp) fun γ hγ hfr => ?_
  (generalize hQ : (fun (ex : Ex) (_ _ : Nat) (s : St) => _) = Q; unfold ir_wireArg)
  have h0 : decide ((i : Int) < 0) = false := by simp
  by_cases hlt : i < ps.length
  · have h1 : decide ((i : Int) ≥ (ps.length : Int)) = false := by simp; omega
    have hg : (parsAV ps).getD i [] = [intsV ps[i]] := by
      rw [List.getD_eq_getElem?_getD]; simp [parsAV, hlt]
    have hi : intsV ps[i] = .sl none 1 (intsAV ps[i]) := rfl
    cases hp : ps[i] with
    | nil =>
      rw [hi, hp] at hg
      have ha : argW ps i o = o := by unfold argW; rw [List.getElem?_eq_getElem hlt, hp]
      have hl : (((intsAV ([] : List Int)).length : Int) == 0) = true := rfl
      simp +contextual (maxSteps := 1000000) only [h0, h1, hg, hl, parsAV_length, Int.toNat_natCast, go_sem, reduceCtorEq, ↓reduceIte, Nat.reduceAdd, Nat.reduceEqDiff, Nat.reduceLeDiff, Nat.reduceMul, Nat.reduceBEq, Int.reduceBEq, Int.reduceBNe, Int.reduceLT, Int.reduceLE, Int.reduceGT, Int.reduceGE, Int.reduceToNat]
      refine ⟨by omega, ?_⟩
      rw [← hQ, ha]
      exact ⟨trivial, Ret.flat rfl rfl⟩
    | cons x l =>
      rw [hi, hp] at hg
      have hg0 : (intsAV (x :: l)).getD 0 [] = [.int .i64 x] := rfl
      have hl : (((intsAV (x :: l)).length : Int) == 0) = false := by simp [intsAV]; omega
      have hl0 : (0 : Int) < ((intsAV (x :: l)).length : Int) := by rw [intsAV_length, List.length_cons]; omega
      by_cases hx : x < 0
      · have hd : decide (x < 0) = true := decide_eq_true hx
        have ha : argW ps i o = o := by unfold argW; rw [List.getElem?_eq_getElem hlt, hp]; exact if_pos hx
        simp +contextual (maxSteps := 1000000) only [h0, h1, hg, hg0, hl, hd, parsAV_length, Int.toNat_natCast, Int.toNat_zero, go_sem, reduceCtorEq, ↓reduceIte, Nat.reduceAdd, Nat.reduceEqDiff, Nat.reduceLeDiff, Nat.reduceMul, Nat.reduceBEq, Int.reduceBEq, Int.reduceBNe, Int.reduceLT, Int.reduceLE, Int.reduceGT, Int.reduceGE, Int.reduceToNat]
        refine ⟨⟨by omega, by omega⟩, ⟨by omega, by omega⟩, hl0, ?_⟩
        rw [← hQ, ha]
        exact ⟨trivial, Ret.flat rfl rfl⟩
      · have hd : decide (x < 0) = false := decide_eq_false hx
        have ha : argW ps i o = x := by unfold argW; rw [List.getElem?_eq_getElem hlt, hp]; exact if_neg hx
        simp +contextual (maxSteps := 1000000) only [h0, h1, hg, hg0, hl, hd, parsAV_length, Int.toNat_natCast, Int.toNat_zero, go_sem, reduceCtorEq, ↓reduceIte, Nat.reduceAdd, Nat.reduceEqDiff, Nat.reduceLeDiff, Nat.reduceMul, Nat.reduceBEq, Int.reduceBEq, Int.reduceBNe, Int.reduceLT, Int.reduceLE, Int.reduceGT, Int.reduceGE, Int.reduceToNat]
        refine ⟨⟨by omega, by omega⟩, ⟨by omega, by omega⟩, hl0, ⟨by omega, by omega⟩, hl0, ?_⟩
        rw [← hQ, ha]
        exact ⟨trivial, Ret.flat rfl rfl⟩
  · have h1 : decide ((i : Int) ≥ (ps.length : Int)) = true := by simp; omega
    have ha : argW ps i o = o := by unfold argW; rw [List.getElem?_eq_none (by omega)]
    simp +contextual (maxSteps := 1000000) only [h0, h1, parsAV_length, go_sem, reduceCtorEq, ↓reduceIte, Nat.reduceAdd, Nat.reduceEqDiff, Nat.reduceLeDiff, Nat.reduceMul, Nat.reduceBEq, Int.reduceBEq, Int.reduceBNe, Int.reduceLT, Int.reduceLE, Int.reduceGT, Int.reduceGE, Int.reduceToNat]
    rw [← hQ, ha]
    exact ⟨trivial, Ret.flat rfl rfl⟩
end Go.Proofs.YtcdkcfpgdbjogaaDoor

namespace Go.Proofs.YtcdkcfpgdbjogaaDoor
open Go Go.Ab
end Go.Proofs.YtcdkcfpgdbjogaaDoor

namespace Go.Proofs.YtcdkcfpgdbjogaaDoor
open Go Go.Ab
end Go.Proofs.YtcdkcfpgdbjogaaDoor

namespace Go.Proofs.YtcdkcfpgdbjogaaDoor
open Go Go.Ab
def ir_slicesEqualFuncintintintint : ICode :=
 (.seq
 (.reg [⟨some 6, none, .mov (.c (.bool false))⟩] (some [0, 1, 2]))
 (.seq
 (.seq
 (.reg [⟨some 10, none, .mov (.t 0)⟩,
 ⟨some 11, none, .len (.t 10)⟩,
 ⟨some 12, none, .mov (.t 1)⟩,
 ⟨some 13, none, .len (.t 12)⟩,
 ⟨some 14, none, .bin .neq .none (.t 11) (.t 13)⟩] (some [0, 1, 2, 14]))
 (.cond (.t 14)
 (.seq
 (.reg [⟨some 6, none, .mov (.c (.bool false))⟩] (some [6]))
 .ret)
 .skip))
 (.seq
 (.seq
 (.reg [⟨some 15, none, .mov (.t 0)⟩,
 ⟨some 16, none, .len (.t 15)⟩,
 ⟨some 17, none, .mov (.c (.int .i64 0))⟩] (some [1, 2, 15, 16, 17]))
 (.blk 0
 (.loop
 (.seq
 (.reg [⟨some 18, none, .bin .lss .none (.t 17) (.t 16)⟩] (some [1, 2, 15, 16, 17, 18]))
 (.seq
 (.cond (.t 18)
 .skip
 (.exit 0))
 (.seq
 (.blk 1
 (.seq
 (.reg [⟨some 19, none, .mov (.t 17)⟩,
 ⟨some 20, none, .ia 1 (.t 15) (.t 17)⟩,
 ⟨some 21, none, .ld none (.t 20)⟩,
 ⟨some 7, none, .mov (.t 19)⟩,
 ⟨some 8, none, .mov (.t 21)⟩] (some [1, 2, 7, 8, 15, 16, 17]))
 (.seq
 (.reg [⟨some 22, none, .mov (.t 1)⟩,
 ⟨some 23, none, .mov (.t 7)⟩,
 ⟨some 24, none, .ia 1 (.t 22) (.t 23)⟩,
 ⟨some 25, none, .ld none (.t 24)⟩,
 ⟨some 9, none, .mov (.t 25)⟩] (some [1, 2, 8, 9, 15, 16, 17]))
 (.seq
 (.reg [⟨some 26, none, .mov (.t 2)⟩,
 ⟨some 27, none, .mov (.t 8)⟩,
 ⟨some 28, none, .mov (.t 9)⟩,
 ⟨some 29, none, .call (.t 26) [(.t 27), (.t 28)]⟩,
 ⟨some 30, none, .un .not (.t 29)⟩] (some [1, 2, 15, 16, 17, 30]))
 (.cond (.t 30)
 (.seq
 (.reg [⟨some 6, none, .mov (.c (.bool false))⟩] (some [6]))
 .ret)
 .skip)))))
 (.reg [⟨some 31, none, .bin .add .none (.t 17) (.c (.int .i64 1))⟩,
 ⟨some 17, none, .mov (.t 31)⟩] (some [1, 2, 15, 16, 17]))))))))
 (.seq
 (.reg [⟨some 6, none, .mov (.c (.bool true))⟩] (some [6]))
 .ret))))
theorem is_slicesEqualFuncintintintint : IrOf Tryd.prog 27 32 ir_slicesEqualFuncintintintint [.t 6] := ⟨_, Tryd.func27, rfl, by kernel_rfl, by kernel_rfl, by kernel_rfl⟩

def ir_wireSame : ICode :=
 (.seq
 (.reg [⟨some 2, none, .box 24 (.t 0)⟩,
 ⟨some 3, none, .box 24 (.t 1)⟩,
 ⟨some 4, none, .mov (.c (.bool false))⟩] (some [2, 3]))
 (.seq
 (.seq
 (.reg [⟨some 6, none, .fa 2 (.t 2)⟩,
 ⟨some 7, none, .ld none (.t 6)⟩,
 ⟨some 8, none, .fa 2 (.t 3)⟩,
 ⟨some 9, none, .ld none (.t 8)⟩,
 ⟨some 10, none, .call (.c (.fn (.func 27) [] [])) [(.t 7), (.t 9), (.c (.fn (.func 28) [] []))]⟩,
 ⟨some 11, none, .un .not (.t 10)⟩] (some [2, 3, 11]))
 (.cond (.t 11)
 (.seq
 (.reg [⟨some 4, none, .mov (.c (.bool false))⟩] (some [4]))
 .ret)
 .skip))
 (.seq
 (.reg [⟨some 12, none, .fa 0 (.t 2)⟩,
 ⟨some 13, none, .ld none (.t 12)⟩,
 ⟨some 14, none, .fa 0 (.t 3)⟩,
 ⟨some 15, none, .ld none (.t 14)⟩,
 ⟨some 16, none, .bin .eql .none (.t 13) (.t 15)⟩,
 ⟨some 17, none, .mov (.t 16)⟩,
 ⟨some 18, some (17, true), .fa 1 (.t 2)⟩,
 ⟨some 19, some (17, true), .ld none (.t 18)⟩,
 ⟨some 20, some (17, true), .fa 1 (.t 3)⟩,
 ⟨some 21, some (17, true), .ld none (.t 20)⟩,
 ⟨some 22, some (17, true), .bin .eql .none (.t 19) (.t 21)⟩,
 ⟨some 23, none, .pick (.t 17) (.t 22) (.c (.bool false))⟩,
 ⟨some 24, none, .mov (.t 23)⟩,
 ⟨some 25, some (24, true), .fa 4 (.t 2)⟩,
 ⟨some 26, some (24, true), .ld none (.t 25)⟩,
 ⟨some 27, some (24, true), .fa 4 (.t 3)⟩,
 ⟨some 28, some (24, true), .ld none (.t 27)⟩,
 ⟨some 29, some (24, true), .bin .eql .none (.t 26) (.t 28)⟩,
 ⟨some 30, none, .pick (.t 24) (.t 29) (.c (.bool false))⟩,
 ⟨some 5, none, .mov (.t 30)⟩] (some [2, 3, 5]))
 (.seq
 (.reg [⟨some 31, none, .mov (.t 5)⟩,
 ⟨some 32, none, .mov (.t 31)⟩,
 ⟨some 33, some (32, true), .fa 3 (.t 2)⟩,
 ⟨some 34, some (32, true), .ld none (.t 33)⟩,
 ⟨some 35, some (32, true), .fa 3 (.t 3)⟩,
 ⟨some 36, some (32, true), .ld none (.t 35)⟩,
 ⟨some 37, some (32, true), .bin .eql .none (.t 34) (.t 36)⟩,
 ⟨some 38, none, .pick (.t 32) (.t 37) (.c (.bool false))⟩,
 ⟨some 39, none, .mov (.t 38)⟩,
 ⟨some 40, some (39, true), .fa 5 (.t 2)⟩,
 ⟨some 41, some (39, true), .ld none (.t 40)⟩,
 ⟨some 42, some (39, true), .fa 5 (.t 3)⟩,
 ⟨some 43, some (39, true), .ld none (.t 42)⟩,
 ⟨some 44, some (39, true), .bin .eql .none (.t 41) (.t 43)⟩,
 ⟨some 45, none, .pick (.t 39) (.t 44) (.c (.bool false))⟩,
 ⟨some 4, none, .mov (.t 45)⟩] (some [4]))
 .ret))))
theorem is_wireSame : IrOf Tryd.prog 12 46 ir_wireSame [.t 4] := ⟨_, Tryd.func12, rfl, by kernel_rfl, by kernel_rfl, by kernel_rfl⟩

theorem fs_EqualPars {Gl : Gh → Prop} (hst : Stays Gl) {a b : List (List Int)} {ta tb : Option Nm} (ha : a.length < 9223372036854775808) (hb : b.length < 9223372036854775808) (hpa : ∀ p ∈ a, p.length < 9223372036854775808) (hpb : ∀ p ∈ b, p.length < 9223372036854775808) : FS Tryd.prog Gl 27 [.sl ta 1 (parsAV a), .sl tb 1 (parsAV b), .fn (.func 28) [] []] [] [] (.bool (decide (a = b))) [] [] := by
  refine FS.of hm hst is_slicesEqualFuncintintintint (by simp) fun γ hγ hfr => ?_
  (generalize hQ : (fun (ex : Ex) (_ _ : Nat) (s : St) => _) = Q; unfold ir_slicesEqualFuncintintintint)
  simp +contextual (maxSteps := 1000000) only [parsAV_length, go_sem, reduceCtorEq, ↓reduceIte, Nat.reduceAdd, Nat.reduceEqDiff]
  refine kCond_split (fun h => ?_) (fun h => ?_)
  · simp +contextual (maxSteps := 1000000) only [go_sem, reduceCtorEq, ↓reduceIte, Nat.reduceAdd, Nat.reduceEqDiff]
    rw [← hQ]
    have : decide (a = b) = false := by
      simp only [bne_iff_ne, ne_eq] at h
      rw [decide_eq_false_iff_not]; intro e; subst e; simp at h
    rw [this]
    exact ⟨trivial, Ret.flat rfl rfl⟩
  · have hl : a.length = b.length := by simp at h; omega
    simp +contextual (maxSteps := 1000000) only [parsAV_length, go_sem, reduceCtorEq, ↓reduceIte, Nat.reduceAdd, Nat.reduceEqDiff]
    refine kLoop_ix (fun i : Nat => ⟨lf [(1, .sl tb 1 (parsAV b)), (2, .fn (.func 28) [] []), (15, .sl ta 1 (parsAV a)), (16, .int .i64 a.length), (17, .int .i64 i)], [], fun x => x ∈ []⟩) (fun i => i ≤ a.length ∧ a.take i = b.take i) (fun i => a.length - i) 0 0 (Wk.same ?_) ?_ ?_
    · (simp only [lfOK, upd, initF]; repeat' first | exact AVle.refl _ _ | exact trivial | refine And.intro ?_ ?_ | exact AVle.int (by simp only [IntKind.wrap_i64]; omega))
    · simp
    · rintro γ' i hf ⟨hi, hinv⟩
      generalize hQ' : kIt _ _ _ _ _ = Q'
      by_cases hlt : i < a.length
      · have hd : decide ((i : Int) < (a.length : Int)) = true := by simp; omega
        have hi2 : intsV a[i] = .sl none 1 (intsAV a[i]) := rfl
        have hi3 : intsV (b[i]'(by omega)) = .sl none 1 (intsAV (b[i]'(by omega))) := rfl
        have g1 : (parsAV a).getD (i : Int).toNat [] = [intsV a[i]] := by rw [Int.toNat_natCast]; exact parsAV_get hlt
        have g2 : (parsAV b).getD (i : Int).toNat [] = [intsV (b[i]'(by omega))] := by rw [Int.toNat_natCast]; exact parsAV_get (by omega)
        rw [hi2] at g1
        rw [hi3] at g2
        have c1 := fs_EqualInts (Gl := Gl) hst (a := a[i]) (b := b[i]'(by omega)) (ta := none) (tb := none) (hpa _ (List.getElem_mem _)) (hpb _ (List.getElem_mem _))
        simp +contextual (maxSteps := 1000000) only [parsAV_length, hd, g1, g2, go_sem, reduceCtorEq, ↓reduceIte, Nat.reduceAdd, Nat.reduceEqDiff]
        refine ⟨by omega, by omega, ?_⟩
        (refine CallP.pure (c1) (fun _ => rfl) ?_; simp +contextual (maxSteps := 1000000) only [go_sem, reduceCtorEq, ↓reduceIte, Nat.reduceAdd, Nat.reduceEqDiff])
        cases hc : decide (a[i] = b[i]'(by omega)) with
        | false =>
          simp +contextual (maxSteps := 1000000) only [hc, go_sem, reduceCtorEq, ↓reduceIte, Nat.reduceAdd, Nat.reduceEqDiff]
          rw [← hQ']
          simp only [w_kIt_r, w_kBlk_r, w_kSeq_r]
          have e : decide (a = b) = false := by
            rw [decide_eq_false_iff_not]; intro e; subst e; exact of_decide_eq_false hc rfl
          rw [← hQ, e]
          exact ⟨trivial, Ret.flat rfl rfl⟩
        | true =>
          simp +contextual (maxSteps := 1000000) only [hc, go_sem, reduceCtorEq, ↓reduceIte, Nat.reduceAdd, Nat.reduceEqDiff]
          rw [← hQ']
          simp only [w_kIt_n]
          refine ⟨0, i + 1, Wk.same ?_, ⟨by omega, ?_⟩, by omega⟩
          · repeat' first | exact AVle.refl _ _ | exact trivial | refine And.intro ?_ ?_ | exact AVle.int (by simp only [IntKind.wrap_i64]; omega)
          · have h2 : a[i] = b[i]'(by omega) := of_decide_eq_true hc
            rw [List.take_add_one, List.take_add_one, hinv, List.getElem?_eq_getElem hlt, List.getElem?_eq_getElem (show i < b.length by omega), h2]
      · have hd : decide ((i : Int) < (a.length : Int)) = false := by simp; omega
        simp +contextual (maxSteps := 1000000) only [parsAV_length, hd, go_sem, reduceCtorEq, ↓reduceIte, Nat.reduceAdd, Nat.reduceEqDiff]
        rw [← hQ']
        simp only [w_kIt_e, w_kBlk_e, ↓reduceIte]
        simp +contextual (maxSteps := 1000000) only [go_sem, reduceCtorEq, ↓reduceIte, Nat.reduceAdd, Nat.reduceEqDiff]
        have e : decide (a = b) = true := by
          rw [decide_eq_true_eq]
          have h3 := hinv
          rw [List.take_of_length_le (by omega), List.take_of_length_le (by omega)] at h3
          exact h3
        rw [← hQ, e]
        exact ⟨trivial, Ret.flat rfl rfl⟩
structure Sq.szP (s : Sq) : Prop where
  ps : s.ps.length < 9223372036854775808
  pp : ∀ p ∈ s.ps, p.length < 9223372036854775808
theorem fs_wSame {Gl : Gh → Prop} (hst : Stays Gl) {a b : Sq} (ha : a.szP) (hb : b.szP) : FS Tryd.prog Gl 12 [.agg a.c, .agg b.c] [] [] (.bool (decide (a = b))) [] [] := by
  refine FS.of hm hst is_wireSame (by simp) fun γ hγ hfr => ?_
  obtain ⟨k, pr, ps, it, fi, da⟩ := a
  obtain ⟨k2, pr2, ps2, it2, fi2, da2⟩ := b
  have c1 := fs_EqualPars (Gl := Gl) hst (a := ps) (b := ps2) (ta := none) (tb := none) ha.ps hb.ps ha.pp hb.pp
  have hcc : ∀ (k pr : Int) ps it fi da, Sq.c ⟨k, pr, ps, it, fi, da⟩ = [.int .i64 k, .int .u8 pr, .sl none 1 (parsAV ps), .str it, .int .u8 fi, .str da] := fun _ _ _ _ _ _ => rfl
  have hz : decide ((⟨k, pr, ps, it, fi, da⟩ : Sq) = ⟨k2, pr2, ps2, it2, fi2, da2⟩) = (decide (ps = ps2) && ((((k == k2) && (pr == pr2)) && (fi == fi2)) && decide (it = it2) && decide (da = da2))) := by
    rw [Bool.eq_iff_iff]
    simp only [Sq.mk.injEq, decide_eq_true_eq, Bool.and_eq_true, beq_iff_eq]
    constructor
    · rintro ⟨a, b, c, d, e, f⟩; exact ⟨c, ⟨⟨⟨a, b⟩, e⟩, d⟩, f⟩
    · rintro ⟨c, ⟨⟨⟨a, b⟩, e⟩, d⟩, f⟩; exact ⟨a, b, c, d, e, f⟩
  (generalize hQ : (fun (ex : Ex) (_ _ : Nat) (s : St) => _) = Q; unfold ir_wireSame)
  simp +contextual (maxSteps := 1000000) only [hcc, go_sem, reduceCtorEq, ↓reduceIte, Nat.reduceAdd, Nat.reduceEqDiff]
  (refine CallP.pure (c1) (fun _ => rfl) ?_; simp +contextual (maxSteps := 1000000) only [go_sem, reduceCtorEq, ↓reduceIte, Nat.reduceAdd, Nat.reduceEqDiff])
  cases hc : decide (ps = ps2) with
  | false =>
    simp +contextual (maxSteps := 1000000) only [hc, go_sem, reduceCtorEq, ↓reduceIte, Nat.reduceAdd, Nat.reduceEqDiff]
    rw [← hQ, hz, hc]
    exact ⟨trivial, Ret.flat rfl rfl⟩
  | true =>
    simp +contextual (maxSteps := 1000000) only [hc, go_sem, reduceCtorEq, ↓reduceIte, Nat.reduceAdd, Nat.reduceEqDiff]
    rw [← hQ, hz, hc]
    exact ⟨trivial, Ret.flat rfl rfl⟩
end Go.Proofs.YtcdkcfpgdbjogaaDoor

namespace Go.Proofs.YtcdkcfpgdbjogaaDoor
open Go Go.Ab
structure Sq.ok (s : Sq) : Prop where
  sm : s.sm
  pr : 0 ≤ s.pr ∧ s.pr < 256
  fi : 0 ≤ s.fi ∧ s.fi < 256
end Go.Proofs.YtcdkcfpgdbjogaaDoor

namespace Go.Proofs.YtcdkcfpgdbjogaaDoor
open Go Go.Ab
def ir_clavierlaw03awake : ICode :=
 (.seq
 (.reg [⟨some 0, none, .mov (.c (.bool false))⟩] (some []))
 (.seq
 (.reg [⟨some 7, none, .row 3 1 [(.c (.int .i64 1)), (.c (.int .i64 2))]⟩,
 ⟨some 8, none, .call (.c (.fn (.func 13) [] [])) [(.c (.int .u8 63)), (.c (.int .u8 99)), (.t 7)]⟩,
 ⟨some 1, none, .box 24 (.c (.agg [(.int .i64 0), (.int .u8 0), .nils, (.str []), (.int .u8 0), (.str [])]))⟩,
 ⟨none, none, .st 6 (.t 1) (.t 8)⟩] (some [1]))
 (.seq
 (.reg [⟨some 10, none, .ld (some 6) (.t 1)⟩,
 ⟨some 11, none, .call (.c (.fn (.func 7) [] [])) [(.t 10)]⟩,
 ⟨some 9, none, .mov (.t 11)⟩,
 ⟨some 12, none, .ext (.t 9) 0⟩,
 ⟨some 13, none, .ext (.t 9) 1⟩,
 ⟨some 2, none, .mov (.t 12)⟩,
 ⟨some 3, none, .mov (.t 13)⟩] (some [1, 2, 3]))
 (.seq
 (.reg [⟨some 15, none, .row 5 1 [(.c (.int .u8 27)), (.c (.int .u8 91)), (.c (.int .u8 63)), (.c (.int .u8 49)), (.c (.int .u8 59)), (.c (.int .u8 50)), (.c (.int .u8 99)), (.c (.int .u8 120))]⟩,
 ⟨some 16, none, .cvs (.t 15)⟩,
 ⟨some 17, none, .call (.c (.fn (.func 11) [] [])) [(.t 16)]⟩,
 ⟨some 14, none, .mov (.t 17)⟩,
 ⟨some 18, none, .ext (.t 14) 0⟩,
 ⟨some 19, none, .ext (.t 14) 1⟩,
 ⟨some 20, none, .ext (.t 14) 2⟩,
 ⟨some 4, none, .box 24 (.c (.agg [(.int .i64 0), (.int .u8 0), .nils, (.str []), (.int .u8 0), (.str [])]))⟩,
 ⟨none, none, .st 6 (.t 4) (.t 18)⟩,
 ⟨some 5, none, .mov (.t 19)⟩,
 ⟨some 6, none, .mov (.t 20)⟩] (some [1, 2, 3, 4, 5, 6]))
 (.seq
 (.reg [⟨some 21, none, .mov (.t 3)⟩,
 ⟨some 22, none, .bin .eql .none (.t 21) (.c (.int .i64 0))⟩,
 ⟨some 23, none, .mov (.t 22)⟩,
 ⟨some 24, some (23, true), .mov (.t 2)⟩,
 ⟨some 25, some (23, true), .b2s (.t 24)⟩,
 ⟨some 26, some (23, true), .bin .eql .none (.t 25) (.c (.str [27, 91, 63, 49, 59, 50, 99]))⟩,
 ⟨some 27, none, .pick (.t 23) (.t 26) (.c (.bool false))⟩,
 ⟨some 28, none, .mov (.t 27)⟩,
 ⟨some 29, some (28, true), .mov (.t 6)⟩,
 ⟨some 30, some (28, true), .bin .eql .none (.t 29) (.c (.int .i64 0))⟩,
 ⟨some 31, none, .pick (.t 28) (.t 30) (.c (.bool false))⟩,
 ⟨some 32, none, .mov (.t 31)⟩,
 ⟨some 33, some (32, true), .mov (.t 5)⟩,
 ⟨some 34, some (32, true), .bin .eql .none (.t 33) (.c (.int .i64 7))⟩,
 ⟨some 35, none, .pick (.t 32) (.t 34) (.c (.bool false))⟩,
 ⟨some 36, none, .mov (.t 35)⟩,
 ⟨some 37, some (36, true), .ld (some 6) (.t 1)⟩,
 ⟨some 38, some (36, true), .ld (some 6) (.t 4)⟩,
 ⟨some 39, some (36, true), .call (.c (.fn (.func 12) [] [])) [(.t 37), (.t 38)]⟩,
 ⟨some 40, none, .pick (.t 36) (.t 39) (.c (.bool false))⟩,
 ⟨some 41, none, .mov (.t 40)⟩,
 ⟨some 42, some (41, true), .ld (some 6) (.t 1)⟩,
 ⟨some 43, some (41, true), .call (.c (.fn (.func 14) [] [])) [(.t 42), (.c (.int .i64 1)), (.c (.int .i64 9))]⟩,
 ⟨some 44, some (41, true), .bin .eql .none (.t 43) (.c (.int .i64 2))⟩,
 ⟨some 45, none, .pick (.t 41) (.t 44) (.c (.bool false))⟩,
 ⟨some 46, none, .mov (.t 45)⟩,
 ⟨some 47, some (46, true), .ld (some 6) (.t 1)⟩,
 ⟨some 48, some (46, true), .call (.c (.fn (.func 14) [] [])) [(.t 47), (.c (.int .i64 2)), (.c (.int .i64 9))]⟩,
 ⟨some 49, some (46, true), .bin .eql .none (.t 48) (.c (.int .i64 9))⟩,
 ⟨some 50, none, .pick (.t 46) (.t 49) (.c (.bool false))⟩,
 ⟨some 0, none, .mov (.t 50)⟩] (some [0]))
 .ret)))))
theorem is_clavierlaw03awake : IrOf Tryd.prog 5 51 ir_clavierlaw03awake [.t 0] := ⟨_, Tryd.func5, rfl, by kernel_rfl, by kernel_rfl, by kernel_rfl⟩

/- clavier/clavierlaw03.few -/
def ir_clavierlaw03few_l0 : ICode :=
 (.seq
 (.seq
 (.reg [⟨some 4, none, .mov (.t 3)⟩,
 ⟨some 5, none, .fa 2 (.t 1)⟩,
 ⟨some 6, none, .ld none (.t 5)⟩,
 ⟨some 7, none, .len (.t 6)⟩,
 ⟨some 8, none, .bin .lss .none (.t 4) (.t 7)⟩,
 ⟨some 9, none, .mov (.t 8)⟩,
 ⟨some 10, some (9, true), .mov (.t 3)⟩,
 ⟨some 11, some (9, true), .bin .lss .none (.t 10) (.c (.int .i64 31))⟩,
 ⟨some 12, none, .pick (.t 9) (.t 11) (.c (.bool false))⟩] (some [1, 3, 12]))
 (.cond (.t 12)
 .skip
 (.exit 0)))
 (.seq
 (.blk 1
 (.seq
 (.reg [⟨some 15, none, .fa 2 (.t 1)⟩,
 ⟨some 16, none, .ld none (.t 15)⟩,
 ⟨some 17, none, .mov (.t 3)⟩,
 ⟨some 18, none, .ia 1 (.t 16) (.t 17)⟩,
 ⟨some 19, none, .ld none (.t 18)⟩,
 ⟨some 20, none, .len (.t 19)⟩,
 ⟨some 21, none, .bin .gtr .none (.t 20) (.c (.int .i64 20))⟩] (some [1, 3, 21]))
 (.cond (.t 21)
 (.seq
 (.reg [⟨some 2, none, .mov (.c (.bool false))⟩] (some [2]))
 .ret)
 .skip)))
 (.reg [⟨some 13, none, .mov (.t 3)⟩,
 ⟨some 14, none, .bin .add .none (.t 13) (.c (.int .i64 1))⟩,
 ⟨some 3, none, .mov (.t 14)⟩] (some [1, 3]))))
def ir_clavierlaw03few : ICode :=
 (.seq
 (.reg [⟨some 1, none, .box 24 (.t 0)⟩,
 ⟨some 2, none, .mov (.c (.bool false))⟩] (some [1]))
 (.seq
 (.seq
 (.reg [⟨some 3, none, .mov (.c (.int .i64 0))⟩] (some [1, 3]))
 (.blk 0
 (.loop
 ir_clavierlaw03few_l0)))
 (.seq
 (.reg [⟨some 22, none, .fa 2 (.t 1)⟩,
 ⟨some 23, none, .ld none (.t 22)⟩,
 ⟨some 24, none, .len (.t 23)⟩,
 ⟨some 25, none, .bin .leq .none (.t 24) (.c (.int .i64 30))⟩,
 ⟨some 26, none, .mov (.t 25)⟩,
 ⟨some 27, some (26, true), .fa 3 (.t 1)⟩,
 ⟨some 28, some (26, true), .ld none (.t 27)⟩,
 ⟨some 29, some (26, true), .lns (.t 28)⟩,
 ⟨some 30, some (26, true), .bin .leq .none (.t 29) (.c (.int .i64 10))⟩,
 ⟨some 31, none, .pick (.t 26) (.t 30) (.c (.bool false))⟩,
 ⟨some 32, none, .mov (.t 31)⟩,
 ⟨some 33, some (32, true), .fa 5 (.t 1)⟩,
 ⟨some 34, some (32, true), .ld none (.t 33)⟩,
 ⟨some 35, some (32, true), .lns (.t 34)⟩,
 ⟨some 36, some (32, true), .bin .leq .none (.t 35) (.c (.int .i64 200))⟩,
 ⟨some 37, none, .pick (.t 32) (.t 36) (.c (.bool false))⟩,
 ⟨some 2, none, .mov (.t 37)⟩] (some [2]))
 .ret)))
theorem is_clavierlaw03few : IrOf Tryd.prog 6 38 ir_clavierlaw03few [.t 2] := ⟨_, Tryd.func6, rfl, by kernel_rfl, by kernel_rfl, by kernel_rfl⟩

theorem w3_a : mayP (numSq 1 63 99 [1, 2]) = 0 ∧ putB (numSq 1 63 99 [1, 2]) = [27, 91, 63, 49, 59, 50, 99] := by decide +kernel
theorem fs_wPutL {Gl : Gh → Prop} (hst : Stays Gl) {s : Sq} (h : s.ok) : FS Tryd.prog Gl 7 [.agg s.c] [] [] (.tup [.sl none 1 (bytesAV (putX s)), .int .i64 (mayP s)]) [] [] := by
  have := fs_wPut (Gl := Gl) hst h.pr.1 h.pr.2 h.fi.1 h.fi.2 h.sm
  refine FSR.res this ?_
  rintro r H T ⟨rfl, h2, h3⟩
  exact ⟨.tup [.sl none 1 (bytesAV (putX s)), .int .i64 (mayP s)], fun f => by
    have hrn : Ab.rn f (putV s) = putV s := by unfold putV; split <;> rfl
    simp only [Ab.rn, rnL, hrn]
    exact RepLe.tupL ⟨putV_le s, RepLe.refl _, trivial⟩, rfl, h2, h3⟩
theorem fs_rPutX {Gl : Gh → Prop} (hst : Stays Gl) {s : Sq} (hp0 : 0 ≤ s.pr) (hp1 : s.pr < 256) (hf0 : 0 ≤ s.fi) (hf1 : s.fi < 256) (h : s.sm) : FS Tryd.prog Gl 8 [.agg s.c] [] [] (.tup [.sl none 1 (bytesAV (putX s)), .int .i64 (mayP s)]) [] [] := by
  have := fs_rPut (Gl := Gl) hst hp0 hp1 hf0 hf1 h
  exact FSR.res this fun r H T ⟨h1, h2, h3⟩ => ⟨_, fun f => by
    subst h1
    have hrn : Ab.rn f (putV s) = putV s := by unfold putV; split <;> rfl
    simp only [Ab.rn, rnL, hrn]
    exact RepLe.tupL ⟨putV_le s, RepLe.refl _, trivial⟩, rfl, h2, h3⟩
theorem fs_awake03 {Gl : Gh → Prop} (hst : Stays Gl) : FS Tryd.prog Gl 5 [] [] [] (.bool true) [] [] := by
  refine FS.of hm hst is_clavierlaw03awake (by simp) fun γ hγ hfr => ?_
  obtain ⟨m1, m2⟩ := w3_a
  have hc : (numSq 1 63 99 [1, 2]).c = [.int .i64 1, .int .u8 63, .sl none 1 (parsAV [[1], [2]]), .str [], .int .u8 99, .str []] := rfl
  have hi : intsAV [1, 2] = [[.int .i64 1], [.int .i64 2]] := rfl
  have c1 := fun t : Option Nm => fs_Num (Gl := Gl) hst (pr := 63) (fi := 99) (nums := [1, 2]) (tn := t) (by simp)
  rw [hi, hc] at c1
  have c2 := fs_wPutL (Gl := Gl) hst (s := numSq 1 63 99 [1, 2]) ⟨⟨by simp [numSq], by simp [numSq], by simp [numSq], by simp [numSq]⟩, by simp [numSq], by simp [numSq]⟩
  rw [show putX (numSq 1 63 99 [1, 2]) = [27, 91, 63, 49, 59, 50, 99] by unfold putX; rw [m1, m2]; rfl, m1, hc] at c2
  obtain ⟨t1, t2, t3⟩ := take_may m1 [120]
  rw [m2] at t1 t2 t3
  rw [hc] at t3
  have c3 := fun t : Option Nm => fs_wTake (Gl := Gl) hst (b := [27, 91, 63, 49, 59, 50, 99, 120]) (tb := t) (by simp) t1 t2
  rw [show takeV [27, 91, 63, 49, 59, 50, 99, 120] = .tup [.agg [.int .i64 1, .int .u8 63, .sl none 1 (parsAV [[1], [2]]), .str [], .int .u8 99, .str []], .int .i64 7, .int .i64 0] from t3] at c3
  rw [show bytesAV [27, 91, 63, 49, 59, 50, 99, 120] = [[.int .u8 27], [.int .u8 91], [.int .u8 63], [.int .u8 49], [.int .u8 59], [.int .u8 50], [.int .u8 99], [.int .u8 120]] from rfl] at c3
  have c4 := fs_wSame (Gl := Gl) hst (a := numSq 1 63 99 [1, 2]) (b := numSq 1 63 99 [1, 2]) ⟨by simp [numSq], by simp [numSq]⟩ ⟨by simp [numSq], by simp [numSq]⟩
  rw [decide_eq_true rfl, hc] at c4
  have c5 := fs_wArg (Gl := Gl) hst (k := 1) (pr := 63) (fi := 99) (o := 9) (ps := [[1], [2]]) (it := []) (da := []) (i := 1)
  have c6 := fs_wArg (Gl := Gl) hst (k := 1) (pr := 63) (fi := 99) (o := 9) (ps := [[1], [2]]) (it := []) (da := []) (i := 2)
  rw [show argW [[1], [2]] 1 9 = 2 from rfl] at c5
  rw [show argW [[1], [2]] 2 9 = 9 from rfl] at c6
  clear t1 t2 t3 m1 m2 hc hi
  generalize parsAV [[1], [2]] = rows at *
  (generalize hQ : (fun (ex : Ex) (_ _ : Nat) (s : St) => _) = Q; unfold ir_clavierlaw03awake)
  simp +contextual (maxSteps := 1000000) only [go_sem, reduceCtorEq, ↓reduceIte, Nat.reduceAdd, Nat.reduceEqDiff, Nat.reduceLeDiff, Nat.reduceMul, Nat.reduceBEq, Int.reduceBEq, Int.reduceBNe, Int.reduceLT, Int.reduceLE, Int.reduceGT, Int.reduceGE, Int.reduceToNat]
  (refine CallP.pure (c1 _) (fun _ => rfl) ?_; simp +contextual (maxSteps := 1000000) only [go_sem, reduceCtorEq, ↓reduceIte, Nat.reduceAdd, Nat.reduceEqDiff, Nat.reduceLeDiff, Nat.reduceMul, Nat.reduceBEq, Int.reduceBEq, Int.reduceBNe, Int.reduceLT, Int.reduceLE, Int.reduceGT, Int.reduceGE, Int.reduceToNat])
  (refine CallP.pure (c2) (fun _ => rfl) ?_; simp +contextual (maxSteps := 1000000) only [go_sem, reduceCtorEq, ↓reduceIte, Nat.reduceAdd, Nat.reduceEqDiff, Nat.reduceLeDiff, Nat.reduceMul, Nat.reduceBEq, Int.reduceBEq, Int.reduceBNe, Int.reduceLT, Int.reduceLE, Int.reduceGT, Int.reduceGE, Int.reduceToNat])
  refine ⟨⟨.inl trivial, by simp⟩, ?_⟩
  (refine CallP.pure (c3 _) (fun _ => rfl) ?_; simp +contextual (maxSteps := 1000000) only [bb_un, bb_is, go_sem, reduceCtorEq, ↓reduceIte, Nat.reduceAdd, Nat.reduceEqDiff, Nat.reduceLeDiff, Nat.reduceMul, Nat.reduceBEq, Int.reduceBEq, Int.reduceBNe, Int.reduceLT, Int.reduceLE, Int.reduceGT, Int.reduceGE, Int.reduceToNat])
  (refine CallP.pure (c4) (fun _ => rfl) ?_; simp +contextual (maxSteps := 1000000) only [go_sem, reduceCtorEq, ↓reduceIte, Nat.reduceAdd, Nat.reduceEqDiff, Nat.reduceLeDiff, Nat.reduceMul, Nat.reduceBEq, Int.reduceBEq, Int.reduceBNe, Int.reduceLT, Int.reduceLE, Int.reduceGT, Int.reduceGE, Int.reduceToNat])
  (refine CallP.pure (c5) (fun _ => rfl) ?_; simp +contextual (maxSteps := 1000000) only [go_sem, reduceCtorEq, ↓reduceIte, Nat.reduceAdd, Nat.reduceEqDiff, Nat.reduceLeDiff, Nat.reduceMul, Nat.reduceBEq, Int.reduceBEq, Int.reduceBNe, Int.reduceLT, Int.reduceLE, Int.reduceGT, Int.reduceGE, Int.reduceToNat])
  (refine CallP.pure (c6) (fun _ => rfl) ?_; simp +contextual (maxSteps := 1000000) only [go_sem, reduceCtorEq, ↓reduceIte, Nat.reduceAdd, Nat.reduceEqDiff, Nat.reduceLeDiff, Nat.reduceMul, Nat.reduceBEq, Int.reduceBEq, Int.reduceBNe, Int.reduceLT, Int.reduceLE, Int.reduceGT, Int.reduceGE, Int.reduceToNat])
  rw [← hQ]
  exact ⟨trivial, Ret.flat rfl rfl⟩
def fewB (s : Sq) : Bool := if (s.ps.take 31).any (fun p => decide (p.length > 20)) = true then false else (decide (s.ps.length ≤ 30) && decide (s.it.length ≤ 10)) && decide (s.da.length ≤ 200)
structure Few (s : Sq) : Prop where
  ps : s.ps.length ≤ 30
  pp : ∀ p ∈ s.ps, p.length ≤ 20
  it : s.it.length ≤ 10
  da : s.da.length ≤ 200
theorem fewB_few {s : Sq} (h : fewB s = true) : Few s := by
  unfold fewB at h
  split at h
  · cases h
  · rename_i h1
    simp only [Bool.and_eq_true, decide_eq_true_eq] at h
    refine ⟨h.1.1, fun p hp => ?_, h.1.2, h.2⟩
    rw [List.take_of_length_le (by omega)] at h1
    simp only [Bool.not_eq_true, List.any_eq_false, decide_eq_true_eq] at h1
    have := h1 p hp
    omega
theorem fs_few {Gl : Gh → Prop} (hst : Stays Gl) {s : Sq} (h1 : s.ps.length < 9223372036854775808) : FS Tryd.prog Gl 6 [.agg s.c] [] [] (.bool (fewB s)) [] [] := by
  refine FS.of hm hst is_clavierlaw03few (by simp) fun γ hγ hfr => ?_
  have hz : fewB s = if (s.ps.take 31).any (fun p => decide (p.length > 20)) = true then false else (decide (s.ps.length ≤ 30) && decide (s.it.length ≤ 10)) && decide (s.da.length ≤ 200) := rfl
  obtain ⟨k, pr, ps, it, fi, da⟩ := s
  have hcc : Sq.c ⟨k, pr, ps, it, fi, da⟩ = [.int .i64 k, .int .u8 pr, .sl none 1 (parsAV ps), .str it, .int .u8 fi, .str da] := rfl
  simp only at h1 hz
  rw [hcc]
  (generalize hQ : (fun (ex : Ex) (_ _ : Nat) (s : St) => _) = Q; unfold ir_clavierlaw03few)
  simp +contextual (maxSteps := 1000000) only [go_sem, reduceCtorEq, ↓reduceIte, Nat.reduceAdd, Nat.reduceEqDiff, Nat.reduceLeDiff, Nat.reduceMul, Nat.reduceBEq, Int.reduceBEq, Int.reduceBNe, Int.reduceLT, Int.reduceLE, Int.reduceGT, Int.reduceGE, Int.reduceToNat]
  refine kLoop_ix (fun i : Nat => ⟨lf [(1, .ptr (γ, 0, 0) 0), (3, .int .i64 i)], [((γ, 0, 0), .cells [.int .i64 k, .int .u8 pr, .sl none 1 (parsAV ps), .str it, .int .u8 fi, .str da])], fun x => x ∈ []⟩) (fun i => i ≤ ps.length ∧ i ≤ 31 ∧ (ps.take i).any (fun p => decide (p.length > 20)) = false) (fun i => ps.length - i) 0 0 (Wk.same ?_) (by simp) ?_
  · (simp only [lfOK, upd, initF]; repeat' first | exact AVle.refl _ _ | exact trivial | refine And.intro ?_ ?_ | exact AVle.int (by simp only [IntKind.wrap_i64]; omega))
  rintro γ' i hf ⟨hi, hi31, hinv⟩
  generalize hQ' : kIt _ _ _ _ _ = Q'
  unfold ir_clavierlaw03few_l0
  by_cases hlt : i < ps.length ∧ i < 31
  · have hd : (decide ((i : Int) < (ps.length : Int)) && decide ((i : Int) < 31)) = true := by simp; omega
    have hg : (parsAV ps).getD i [] = [intsV (ps[i]'(by omega))] := parsAV_get (by omega)
    have hw : IntKind.i64.wrap ((i : Int) + 1) = ((i + 1 : Nat) : Int) := by rw [IntKind.wrap_i64]; omega
    by_cases hb : (ps[i]'(by omega)).length > 20
    · have hd2 : decide (((ps[i]'(by omega)).length : Int) > 20) = true := decide_eq_true (by omega)
      simp +contextual (maxSteps := 1000000) only [hd, hg, Int.toNat_natCast, parsAV_length, intsAV_length, hd2, intsV, go_sem, reduceCtorEq, ↓reduceIte, Nat.reduceAdd, Nat.reduceEqDiff, Nat.reduceLeDiff, Nat.reduceMul, Nat.reduceBEq, Int.reduceBEq, Int.reduceBNe, Int.reduceLT, Int.reduceLE, Int.reduceGT, Int.reduceGE, Int.reduceToNat]
      refine ⟨by omega, ?_⟩
      rw [← hQ']
      simp only [w_kIt_r, w_kBlk_r]
      simp +contextual (maxSteps := 1000000) only [go_sem, reduceCtorEq, ↓reduceIte, Nat.reduceAdd, Nat.reduceEqDiff, Nat.reduceLeDiff, Nat.reduceMul, Nat.reduceBEq, Int.reduceBEq, Int.reduceBNe, Int.reduceLT, Int.reduceLE, Int.reduceGT, Int.reduceGE, Int.reduceToNat]
      have : (ps.take 31).any (fun p => decide (p.length > 20)) = true := by
        rw [List.any_eq_true]
        exact ⟨ps[i]'(by omega), List.mem_iff_getElem.2 ⟨i, by simp; omega, by simp⟩, decide_eq_true hb⟩
      rw [← hQ, hz, if_pos this]
      exact ⟨trivial, Ret.flat rfl rfl⟩
    · have hd2 : decide (((ps[i]'(by omega)).length : Int) > 20) = false := decide_eq_false (by omega)
      simp +contextual (maxSteps := 1000000) only [hd, hg, Int.toNat_natCast, parsAV_length, intsAV_length, hd2, intsV, go_sem, reduceCtorEq, ↓reduceIte, Nat.reduceAdd, Nat.reduceEqDiff, Nat.reduceLeDiff, Nat.reduceMul, Nat.reduceBEq, Int.reduceBEq, Int.reduceBNe, Int.reduceLT, Int.reduceLE, Int.reduceGT, Int.reduceGE, Int.reduceToNat]
      refine ⟨by omega, ?_⟩
      rw [← hQ']
      simp only [w_kIt_n]
      refine ⟨0, i + 1, Wk.same ?_, ⟨by omega, by omega, ?_⟩, by omega⟩
      · rw [hw]
        (simp only [lfOK, upd, initF]; repeat' first | exact AVle.refl _ _ | exact trivial | refine And.intro ?_ ?_ | exact AVle.int (by simp only [IntKind.wrap_i64]; omega))
      · rw [List.take_add_one, List.getElem?_eq_getElem (by omega), List.any_append, hinv]
        simp; omega
  · have hd : (decide ((i : Int) < (ps.length : Int)) && decide ((i : Int) < 31)) = false := by
      rw [Bool.eq_false_iff]; simp; omega
    simp +contextual (maxSteps := 1000000) only [hd, parsAV_length, go_sem, reduceCtorEq, ↓reduceIte, Nat.reduceAdd, Nat.reduceEqDiff, Nat.reduceLeDiff, Nat.reduceMul, Nat.reduceBEq, Int.reduceBEq, Int.reduceBNe, Int.reduceLT, Int.reduceLE, Int.reduceGT, Int.reduceGE, Int.reduceToNat]
    rw [← hQ']
    simp only [w_kIt_e, w_kBlk_e, ↓reduceIte]
    have e1 : decide ((ps.length : Int) ≤ 30) = decide (ps.length ≤ 30) := by rw [decide_eq_decide]; omega
    have e2 : decide ((it.length : Int) ≤ 10) = decide (it.length ≤ 10) := by rw [decide_eq_decide]; omega
    have e3 : decide ((da.length : Int) ≤ 200) = decide (da.length ≤ 200) := by rw [decide_eq_decide]; omega
    have hany : (ps.take 31).any (fun p => decide (p.length > 20)) = false := by
      rcases (by omega : i = ps.length ∨ i = 31) with e | e
      · rw [List.take_of_length_le (by omega)]
        rw [List.take_of_length_le (by omega)] at hinv
        exact hinv
      · subst e; exact hinv
    simp +contextual (maxSteps := 1000000) only [parsAV_length, e1, e2, e3, go_sem, reduceCtorEq, ↓reduceIte, Nat.reduceAdd, Nat.reduceEqDiff, Nat.reduceLeDiff, Nat.reduceMul, Nat.reduceBEq, Int.reduceBEq, Int.reduceBNe, Int.reduceLT, Int.reduceLE, Int.reduceGT, Int.reduceGE, Int.reduceToNat]
    rw [← hQ, hz, if_neg (by rw [hany]; simp)]
    exact ⟨trivial, Ret.flat rfl rfl⟩
end Go.Proofs.YtcdkcfpgdbjogaaDoor

namespace Go.Proofs.YtcdkcfpgdbjogaaDoor
open Go Go.Ab
def ir_clavierlaw03WirePuts : ICode :=
 (.seq
 (.reg [⟨some 2, none, .box 24 (.t 0)⟩,
 ⟨some 4, none, .mov (.c (.bool false))⟩] (some [1, 2]))
 (.seq
 (.reg [⟨some 10, none, .call (.c (.fn (.func 5) [] [])) []⟩,
 ⟨some 5, none, .mov (.t 10)⟩] (some [1, 2, 5]))
 (.seq
 (.seq
 (.reg [⟨some 11, none, .ld (some 6) (.t 2)⟩,
 ⟨some 12, none, .call (.c (.fn (.func 6) [] [])) [(.t 11)]⟩,
 ⟨some 13, none, .un .not (.t 12)⟩] (some [1, 2, 5, 13]))
 (.cond (.t 13)
 (.seq
 (.reg [⟨some 14, none, .mov (.t 5)⟩,
 ⟨some 4, none, .mov (.t 14)⟩] (some [4]))
 .ret)
 .skip))
 (.seq
 (.seq
 (.reg [⟨some 15, none, .mov (.t 1)⟩] (some [2, 5, 15]))
 (.cond (.t 15)
 (.drw [⟨⟨some 16, none, .fa 5 (.t 2)⟩, []⟩,
 ⟨⟨some 17, none, .ld none (.t 16)⟩, [0]⟩,
 ⟨⟨some 18, none, .mkr 5 1 (.agg [(.int .u8 0)]) (.c (.int .i64 4097))⟩, []⟩,
 ⟨⟨some 19, none, .b2s (.t 18)⟩, [2]⟩,
 ⟨⟨some 20, none, .bin .add .none (.t 17) (.t 19)⟩, [1, 3]⟩]
 [⟨some 21, none, .fa 5 (.t 2)⟩,
 ⟨none, none, .st 1 (.t 21) (.t 20)⟩] (some [2, 5]))
 .skip))
 (.seq
 (.reg [⟨some 23, none, .ld (some 6) (.t 2)⟩,
 ⟨some 24, none, .call (.c (.fn (.func 7) [] [])) [(.t 23)]⟩,
 ⟨some 22, none, .mov (.t 24)⟩,
 ⟨some 25, none, .ext (.t 22) 0⟩,
 ⟨some 26, none, .ext (.t 22) 1⟩,
 ⟨some 6, none, .mov (.t 25)⟩,
 ⟨some 7, none, .mov (.t 26)⟩] (some [2, 5, 6, 7]))
 (.seq
 (.reg [⟨some 28, none, .ld (some 6) (.t 2)⟩,
 ⟨some 29, none, .call (.c (.fn (.func 8) [] [])) [(.t 28)]⟩,
 ⟨some 27, none, .mov (.t 29)⟩,
 ⟨some 30, none, .ext (.t 27) 0⟩,
 ⟨some 31, none, .ext (.t 27) 1⟩,
 ⟨some 8, none, .mov (.t 30)⟩,
 ⟨some 9, none, .mov (.t 31)⟩] (some [2, 5, 6, 7, 8, 9]))
 (.seq
 (.drw [⟨⟨some 32, none, .mov (.t 5)⟩, []⟩,
 ⟨⟨some 33, none, .mov (.t 32)⟩, [0]⟩,
 ⟨⟨some 34, some (33, true), .ld (some 6) (.t 2)⟩, [1]⟩,
 ⟨⟨some 35, some (33, true), .call (.c (.fn (.func 9) [] [])) [(.t 34)]⟩, [2, 1, 1]⟩,
 ⟨⟨some 36, some (33, true), .ld (some 6) (.t 2)⟩, [1]⟩,
 ⟨⟨some 37, some (33, true), .call (.c (.fn (.func 10) [] [])) [(.t 36)]⟩, [4, 3, 1]⟩,
 ⟨⟨some 38, some (33, true), .bin .eql .none (.t 35) (.t 37)⟩, [3, 5, 1]⟩,
 ⟨⟨some 39, none, .pick (.t 33) (.t 38) (.c (.bool false))⟩, [1, 6]⟩,
 ⟨⟨some 40, none, .mov (.t 39)⟩, [7, 5]⟩,
 ⟨⟨some 41, some (40, true), .mov (.t 6)⟩, [8]⟩,
 ⟨⟨some 42, some (40, true), .b2s (.t 41)⟩, [9, 8]⟩,
 ⟨⟨some 43, some (40, true), .mov (.t 8)⟩, [8]⟩,
 ⟨⟨some 44, some (40, true), .b2s (.t 43)⟩, [11, 8]⟩,
 ⟨⟨some 45, some (40, true), .bin .eql .none (.t 42) (.t 44)⟩, [10, 12, 8]⟩,
 ⟨⟨some 46, none, .pick (.t 40) (.t 45) (.c (.bool false))⟩, [8, 13]⟩,
 ⟨⟨some 47, none, .mov (.t 46)⟩, [14, 8]⟩,
 ⟨⟨some 48, some (47, true), .mov (.t 7)⟩, [15]⟩,
 ⟨⟨some 49, some (47, true), .mov (.t 9)⟩, [15]⟩,
 ⟨⟨some 50, some (47, true), .bin .eql .none (.t 48) (.t 49)⟩, [16, 17, 15]⟩,
 ⟨⟨some 51, none, .pick (.t 47) (.t 50) (.c (.bool false))⟩, [15, 18]⟩]
 [⟨some 4, none, .mov (.t 51)⟩] (some [4]))
 .ret)))))))
theorem is_clavierlaw03WirePuts : IrOf Tryd.prog 3 52 ir_clavierlaw03WirePuts [.t 4] := ⟨_, Tryd.func3, rfl, by kernel_rfl, by kernel_rfl, by kernel_rfl⟩

set_option maxHeartbeats 4000000 in
theorem fs_WirePuts {Gl : Gh → Prop} (hst : Stays Gl) {s : Sq} {long : Bool} (hs : s.ok) (_ : True) : FS Tryd.prog Gl 3 [.agg s.c, .bool long] [] [] (.bool true) [] [] := by
  refine FS.of hm hst is_clavierlaw03WirePuts (by simp) fun γ hγ hfr => ?_
  have hcc : s.c = [.int .i64 s.k, .int .u8 s.pr, .sl none 1 (parsAV s.ps), .str s.it, .int .u8 s.fi, .str s.da] := rfl
  have c1 := fs_few (Gl := Gl) hst (s := s) hs.sm.ps
  have key : ∀ {t : Sq}, t.ok → FS Tryd.prog Gl 7 [.agg [.int .i64 t.k, .int .u8 t.pr, .sl none 1 (parsAV t.ps), .str t.it, .int .u8 t.fi, .str t.da]] [] [] (.tup [.sl none 1 (bytesAV (putX t)), .int .i64 (mayP t)]) [] [] ∧ FS Tryd.prog Gl 8 [.agg [.int .i64 t.k, .int .u8 t.pr, .sl none 1 (parsAV t.ps), .str t.it, .int .u8 t.fi, .str t.da]] [] [] (.tup [.sl none 1 (bytesAV (putX t)), .int .i64 (mayP t)]) [] [] ∧ FS Tryd.prog Gl 9 [.agg [.int .i64 t.k, .int .u8 t.pr, .sl none 1 (parsAV t.ps), .str t.it, .int .u8 t.fi, .str t.da]] [] [] (.int .i64 (mayP t)) [] [] ∧ FS Tryd.prog Gl 10 [.agg [.int .i64 t.k, .int .u8 t.pr, .sl none 1 (parsAV t.ps), .str t.it, .int .u8 t.fi, .str t.da]] [] [] (.int .i64 (mayP t)) [] [] := fun {t} h =>
    ⟨fs_wPutL hst h, fs_rPutX hst h.pr.1 h.pr.2 h.fi.1 h.fi.2 h.sm, fs_May hst h.fi.1 h.fi.2 h.sm.ps h.sm.pp h.sm.it h.sm.da, fs_rMay hst h.fi.1 h.fi.2 h.sm.ps h.sm.pp h.sm.it h.sm.da⟩
  rw [hcc] at c1
  rw [hcc]
  (generalize hQ : (fun (ex : Ex) (_ _ : Nat) (s : St) => _) = Q; unfold ir_clavierlaw03WirePuts)
  simp +contextual (maxSteps := 1000000) only [go_sem, reduceCtorEq, ↓reduceIte, Nat.reduceAdd, Nat.reduceEqDiff, Nat.reduceLeDiff, Nat.reduceMul, Nat.reduceBEq, Int.reduceBEq, Int.reduceBNe, Int.reduceLT, Int.reduceLE, Int.reduceGT, Int.reduceGE, Int.reduceToNat]
  (refine CallP.pure (fs_awake03 hst) (fun _ => rfl) ?_; simp +contextual (maxSteps := 1000000) only [go_sem, reduceCtorEq, ↓reduceIte, Nat.reduceAdd, Nat.reduceEqDiff, Nat.reduceLeDiff, Nat.reduceMul, Nat.reduceBEq, Int.reduceBEq, Int.reduceBNe, Int.reduceLT, Int.reduceLE, Int.reduceGT, Int.reduceGE, Int.reduceToNat])
  (refine CallP.pure (c1) (fun _ => rfl) ?_; simp +contextual (maxSteps := 1000000) only [go_sem, reduceCtorEq, ↓reduceIte, Nat.reduceAdd, Nat.reduceEqDiff, Nat.reduceLeDiff, Nat.reduceMul, Nat.reduceBEq, Int.reduceBEq, Int.reduceBNe, Int.reduceLT, Int.reduceLE, Int.reduceGT, Int.reduceGE, Int.reduceToNat])
  cases hF : fewB s with
  | false =>
    simp +contextual (maxSteps := 1000000) only [hF, go_sem, reduceCtorEq, ↓reduceIte, Nat.reduceAdd, Nat.reduceEqDiff, Nat.reduceLeDiff, Nat.reduceMul, Nat.reduceBEq, Int.reduceBEq, Int.reduceBNe, Int.reduceLT, Int.reduceLE, Int.reduceGT, Int.reduceGE, Int.reduceToNat]
    rw [← hQ]
    exact ⟨trivial, Ret.flat rfl rfl⟩
  | true =>
    have F := fewB_few hF
    cases long with
    | false =>
      obtain ⟨k1, k2, k3, k4⟩ := key hs
      simp +contextual (maxSteps := 1000000) only [hF, go_sem, reduceCtorEq, ↓reduceIte, Nat.reduceAdd, Nat.reduceEqDiff, Nat.reduceLeDiff, Nat.reduceMul, Nat.reduceBEq, Int.reduceBEq, Int.reduceBNe, Int.reduceLT, Int.reduceLE, Int.reduceGT, Int.reduceGE, Int.reduceToNat]
      (refine CallP.pure (k1) (fun _ => rfl) ?_; simp +contextual (maxSteps := 1000000) only [go_sem, reduceCtorEq, ↓reduceIte, Nat.reduceAdd, Nat.reduceEqDiff, Nat.reduceLeDiff, Nat.reduceMul, Nat.reduceBEq, Int.reduceBEq, Int.reduceBNe, Int.reduceLT, Int.reduceLE, Int.reduceGT, Int.reduceGE, Int.reduceToNat])
      (refine CallP.pure (k2) (fun _ => rfl) ?_; simp +contextual (maxSteps := 1000000) only [bb_un, bb_is, go_sem, reduceCtorEq, ↓reduceIte, Nat.reduceAdd, Nat.reduceEqDiff, Nat.reduceLeDiff, Nat.reduceMul, Nat.reduceBEq, Int.reduceBEq, Int.reduceBNe, Int.reduceLT, Int.reduceLE, Int.reduceGT, Int.reduceGE, Int.reduceToNat])
      refine DCall.new k3 ?_
      simp +contextual (maxSteps := 1000000) only [bb_un, bb_is, go_sem, reduceCtorEq, ↓reduceIte, Nat.reduceAdd, Nat.reduceEqDiff, Nat.reduceLeDiff, Nat.reduceMul, Nat.reduceBEq, Int.reduceBEq, Int.reduceBNe, Int.reduceLT, Int.reduceLE, Int.reduceGT, Int.reduceGE, Int.reduceToNat]
      refine DCall.new k4 ?_
      simp +contextual (maxSteps := 1000000) only [bb_un, bb_is, go_sem, reduceCtorEq, ↓reduceIte, Nat.reduceAdd, Nat.reduceEqDiff, Nat.reduceLeDiff, Nat.reduceMul, Nat.reduceBEq, Int.reduceBEq, Int.reduceBNe, Int.reduceLT, Int.reduceLE, Int.reduceGT, Int.reduceGE, Int.reduceToNat]
      rw [← hQ]
      exact ⟨trivial, Ret.flat rfl rfl⟩
    | true =>
      obtain ⟨zs, hzs⟩ : ∃ zs : List UInt8, zs = List.replicate 4097 0 := ⟨_, rfl⟩
      have hzl : zs.length = 4097 := by rw [hzs, List.length_replicate]
      have hFd := F.da
      have ht : Sq.ok { s with da := s.da ++ zs } := ⟨⟨hs.sm.ps, hs.sm.pp, hs.sm.it, by simp only [List.length_append]; omega⟩, hs.pr, hs.fi⟩
      obtain ⟨k1, k2, k3, k4⟩ := key ht
      simp only at k1 k2 k3 k4
      have hrep : List.replicate 4097 [AV.int IntKind.u8 0] = bytesAV zs := by rw [hzs]; simp [bytesAV]
      have hcl : (∀ x ∈ bytesAV zs, isByte x) = True := bb_is zs
      generalize putX _ = pb at *
      generalize mayP _ = mp at *
      simp +contextual (maxSteps := 1000000) only [hF, hrep, bb_un, bb_is, go_sem, reduceCtorEq, ↓reduceIte, Nat.reduceAdd, Nat.reduceEqDiff, Nat.reduceLeDiff, Nat.reduceMul, Nat.reduceBEq, Int.reduceBEq, Int.reduceBNe, Int.reduceLT, Int.reduceLE, Int.reduceGT, Int.reduceGE, Int.reduceToNat]
      refine ⟨by omega, by omega, ?_⟩
      (refine CallP.pure (k1) (fun _ => rfl) ?_; simp +contextual (maxSteps := 1000000) only [go_sem, reduceCtorEq, ↓reduceIte, Nat.reduceAdd, Nat.reduceEqDiff, Nat.reduceLeDiff, Nat.reduceMul, Nat.reduceBEq, Int.reduceBEq, Int.reduceBNe, Int.reduceLT, Int.reduceLE, Int.reduceGT, Int.reduceGE, Int.reduceToNat])
      (refine CallP.pure (k2) (fun _ => rfl) ?_; simp +contextual (maxSteps := 1000000) only [bb_un, bb_is, go_sem, reduceCtorEq, ↓reduceIte, Nat.reduceAdd, Nat.reduceEqDiff, Nat.reduceLeDiff, Nat.reduceMul, Nat.reduceBEq, Int.reduceBEq, Int.reduceBNe, Int.reduceLT, Int.reduceLE, Int.reduceGT, Int.reduceGE, Int.reduceToNat])
      refine DCall.new k3 ?_
      simp +contextual (maxSteps := 1000000) only [bb_un, bb_is, go_sem, reduceCtorEq, ↓reduceIte, Nat.reduceAdd, Nat.reduceEqDiff, Nat.reduceLeDiff, Nat.reduceMul, Nat.reduceBEq, Int.reduceBEq, Int.reduceBNe, Int.reduceLT, Int.reduceLE, Int.reduceGT, Int.reduceGE, Int.reduceToNat]
      refine DCall.new k4 ?_
      simp +contextual (maxSteps := 1000000) only [bb_un, bb_is, go_sem, reduceCtorEq, ↓reduceIte, Nat.reduceAdd, Nat.reduceEqDiff, Nat.reduceLeDiff, Nat.reduceMul, Nat.reduceBEq, Int.reduceBEq, Int.reduceBNe, Int.reduceLT, Int.reduceLE, Int.reduceGT, Int.reduceGE, Int.reduceToNat]
      rw [← hQ]
      exact ⟨trivial, Ret.flat rfl rfl⟩
end Go.Proofs.YtcdkcfpgdbjogaaDoor

namespace Go.Proofs.YtcdkcfpgdbjogaaDoor
open Go Go.Ab Go.WideShapes Go.RowKit
theorem seat_own : ownKnob Tryd.prog.godebug = none := by kernel_rfl
theorem seat_laidOut : laidOutB Tryd.prog = true := by kernel_rfl
section
variable {H : Type} {enc : TypeId × Value → H} {W : World} {base : Nat} {v : Value} {d : DataW H} {p : List MemPlace}
theorem op_bool (hv : Value.okWide Tryd.prog W .any base 4 v) (hd : DataW.Trod enc Tryd.prog W 0 (fun _ => true) true 4 v d p) : ∃ b : Bool, True ∧ Rep (gh0 W) (.bool b) v := by
  obtain ⟨b, rfl⟩ := okWide_bool (P := Tryd.prog) (by kernel_rfl) hv
  obtain ⟨x, ⟨c, h1⟩, hr⟩ := (TR.bool (P := Tryd.prog) (by kernel_rfl)).arg1 rfl hd
  simp only [List.cons.injEq, and_true] at h1
  subst h1
  exact ⟨c, trivial, hr⟩
end
end Go.Proofs.YtcdkcfpgdbjogaaDoor

namespace Go.Proofs.YtcdkcfpgdbjogaaDoor
open Go Go.Ab
end Go.Proofs.YtcdkcfpgdbjogaaDoor

namespace Go.Proofs.YtcdkcfpgdbjogaaDoor
open Go Go.Ab
theorem fixW_of5 {W : World} (h : laidMetH Tryd.prog [("math/bits.deBruijn32tab", Rows.laid_math_bits_deBruijn32tab), ("math/bits.deBruijn64tab", Rows.laid_math_bits_deBruijn64tab), ("internal/strconv.uint64pow10", Rows.laid_internal_strconv_uint64pow10), ("unicode/utf8.acceptRanges", Rows.laid_unicode_utf8_acceptRanges), ("unicode/utf8.first", Rows.laid_unicode_utf8_first)] W) : FixW W := by
  rw [MakeChecks.laidMetH_plain _ _ _ (by kernel_rfl)] at h
  have h2 := laidMet.filter (fun x => x.1 == "internal/strconv.uint64pow10") h
  have h3 : laidMet Tryd.prog [("internal/strconv.uint64pow10", Lib.tabData .u64 Lib.pow10Tab)] W := h2
  have h4 := Lib.tabIs_of_head (g := 3) (t := 112) (e := 102) (n := 20) (by kernel_rfl) (by kernel_rfl) (by kernel_rfl) (by kernel_rfl) (by kernel_rfl) (by kernel_rfl) h3
  intro p hp
  obtain rfl := List.mem_singleton.1 hp
  unfold Lib.TabIs World.var? at h4
  rw [show Program.globalNamed Tryd.prog "internal/strconv.uint64pow10" = some 3 from by kernel_rfl] at h4
  simp only [Option.bind_some] at h4
  split at h4
  · rename_i cs e fr hh
    simp only [Option.some.injEq] at h4
    refine ⟨e, fr, ?_⟩
    rw [hh, h4]
    simp [Lib.pow10Tab]
  · cases h4
end Go.Proofs.YtcdkcfpgdbjogaaDoor

namespace Go.Proofs.YtcdkcfpgdbjogaaDoor
open Go Go.Ab Go.WideShapes Go.RowKit
section
variable {H : Type} {enc : TypeId × Value → H} {W : World} {base : Nat} {v : Value} {d : DataW H} {p : List MemPlace}
theorem ints_of : ∀ {rows : List (List AV)}, (∀ r ∈ rows, ∃ n : Int, r = [.int .i64 n] ∧ IntKind.i64.min ≤ n ∧ n ≤ IntKind.i64.max) → ∃ l : List Int, rows = intsAV l
  | [], _ => ⟨[], rfl⟩
  | r :: rows, h => by
    obtain ⟨n, rfl, _⟩ := h r List.mem_cons_self
    obtain ⟨l, rfl⟩ := ints_of (rows := rows) fun r hr => h r (List.mem_cons_of_mem _ hr)
    exact ⟨n :: l, rfl⟩
theorem tr_ints : TR enc Tryd.prog W 43 fun xs => ∃ l : List Int, xs = [intsV l] ∧ l.length ≤ maxLen := by
  refine (TR.slice (e := 3) (sz := 1) (by kernel_rfl) (by kernel_rfl) (by omega) (TR.int (k := .i64) (by kernel_rfl))).mono ?_
  rintro xs ⟨rows, rfl, h1, h2⟩
  obtain ⟨l, rfl⟩ := ints_of fun r hr => (h2 r hr).1
  exact ⟨l, rfl, by rwa [intsAV_length] at h1⟩
theorem pars_of : ∀ {rows : List (List AV)}, (∀ r ∈ rows, ∃ l : List Int, r = [intsV l] ∧ l.length ≤ maxLen) → ∃ l : List (List Int), rows = parsAV l ∧ ∀ p ∈ l, p.length ≤ maxLen
  | [], _ => ⟨[], rfl, by simp⟩
  | r :: rows, h => by
    obtain ⟨n, rfl, h1⟩ := h r List.mem_cons_self
    obtain ⟨l, rfl, h2⟩ := pars_of (rows := rows) fun r hr => h r (List.mem_cons_of_mem _ hr)
    exact ⟨n :: l, rfl, fun p hp => (List.mem_cons.1 hp).elim (fun e => by rw [e]; exact h1) (h2 p)⟩
theorem tr_pars : TR enc Tryd.prog W 22 fun xs => ∃ l : List (List Int), xs = [parsV l] ∧ l.length ≤ maxLen ∧ ∀ p ∈ l, p.length ≤ maxLen := by
  refine (TR.slice (e := 43) (sz := 1) (by kernel_rfl) (by kernel_rfl) (by omega) tr_ints).mono ?_
  rintro xs ⟨rows, rfl, h1, h2⟩
  obtain ⟨l, rfl, h3⟩ := pars_of fun r hr => (h2 r hr).1
  exact ⟨l, rfl, by rwa [parsAV_length] at h1, h3⟩
theorem u8r {n : Int} (h : IntKind.u8.min ≤ n ∧ n ≤ IntKind.u8.max) : 0 ≤ n ∧ n < 256 := by
  have h1' : 0 ≤ n := by simpa [IntKind.min, IntKind.signed] using h.1
  have h2' : n ≤ 255 := by simpa [IntKind.max, IntKind.signed, IntKind.bits] using h.2
  omega
theorem seq_is : structIs Tryd.prog 24 [(0, 3), (1, 5), (2, 22), (3, 9), (4, 5), (5, 9)] = true := by kernel_rfl
theorem tr_Seq : TR enc Tryd.prog W 24 fun xs => ∃ s : Sq, xs = s.c ∧ s.ok := by
  refine (TR.structL (Rs := [fun xs => ∃ n, xs = [.int .i64 n] ∧ IntKind.i64.min ≤ n ∧ n ≤ IntKind.i64.max, fun xs => ∃ n, xs = [.int .u8 n] ∧ IntKind.u8.min ≤ n ∧ n ≤ IntKind.u8.max, fun xs => ∃ l : List (List Int), xs = [parsV l] ∧ l.length ≤ maxLen ∧ ∀ p ∈ l, p.length ≤ maxLen, fun xs => ∃ s, xs = [.str s] ∧ s.length ≤ maxLen, fun xs => ∃ n, xs = [.int .u8 n] ∧ IntKind.u8.min ≤ n ∧ n ≤ IntKind.u8.max, fun xs => ∃ s, xs = [.str s] ∧ s.length ≤ maxLen]) 6 seq_is (by kernel_rfl) ?_).mono ?_
  · exact ⟨rfl, TR.int (by kernel_rfl), 1, by kernel_rfl, rfl, TR.int (by kernel_rfl), 1, by kernel_rfl, rfl, tr_pars, 1, by kernel_rfl, rfl, TR.str (by kernel_rfl), 1, by kernel_rfl, rfl, TR.int (by kernel_rfl), 1, by kernel_rfl, rfl, TR.str (by kernel_rfl), 1, by kernel_rfl, rfl⟩
  · rintro xs ⟨_, _, ⟨k, rfl, _⟩, ⟨_, _, ⟨pr, rfl, hpr⟩, ⟨_, _, ⟨ps, rfl, hp1, hp2⟩, ⟨_, _, ⟨it, rfl, hi⟩, ⟨_, _, ⟨fi, rfl, hfi⟩, ⟨_, _, ⟨da, rfl, hd⟩, h, rfl⟩, rfl⟩, rfl⟩, rfl⟩, rfl⟩, rfl⟩
    have h : _ = [] := h
    subst h
    simp only [maxLen] at hp1 hp2 hi hd
    exact ⟨⟨k, pr, ps, it, fi, da⟩, rfl, ⟨⟨by simp only; omega, fun p hp => by have := hp2 p hp; omega, by simp only; omega, by simp only; omega⟩, u8r hpr, u8r hfi⟩⟩
theorem op_apiSeq (hv : Value.okWide Tryd.prog W .any base 24 v) (hd : DataW.Trod enc Tryd.prog W 0 (fun _ => true) true 24 v d p) : ∃ s : Sq, s.ok ∧ Rep (gh0 W) (.agg s.c) v := by
  obtain ⟨cs, rfl⟩ := okWide_struct seq_is hv
  obtain ⟨xs, ⟨s, rfl, h⟩, hr⟩ := tr_Seq.argN hd
  exact ⟨s, h, hr⟩
end
end Go.Proofs.YtcdkcfpgdbjogaaDoor

namespace Go.Proofs.YtcdkcfpgdbjogaaDoor
open Go
def zero_apiSeq : Value := .agg #[.int .i64 0, .int .u8 0, .slice none 0 0, .string ByteArray.empty, .int .u8 0, .string ByteArray.empty]
end Go.Proofs.YtcdkcfpgdbjogaaDoor

namespace Go.Proofs.YtcdkcfpgdbjogaaDoor
open Go Go.Ab Go.ChangeShapes Go.WideShapes Go.ChangeAt Go.RowKit
theorem wirePuts_lifted (os : Os) (started : os.Started) (H : Type) (enc : TypeId × Value → H) (F : Stop.Interp) :
    ReturnsInHanded {} Tryd.checked os 3 .any ((OpenSpec.ofChange Rows.wirePutsSpec).preRow enc Tryd.prog Tryd.f3 Rows.wirePutsRow.domain false Rows.wirePutsRow.laid) (((OpenSpec.ofChange Rows.wirePutsSpec).at F).post enc Tryd.prog Tryd.f3 false true false false) := by
  have hw : (DataW.whole enc Tryd.prog ((World.laidAll Tryd.prog os [("math/bits.deBruijn32tab", Rows.laid_math_bits_deBruijn32tab), ("math/bits.deBruijn64tab", Rows.laid_math_bits_deBruijn64tab), ("internal/strconv.uint64pow10", Rows.laid_internal_strconv_uint64pow10), ("unicode/utf8.acceptRanges", Rows.laid_unicode_utf8_acceptRanges), ("unicode/utf8.first", Rows.laid_unicode_utf8_first)]).forCall (fun _ _ => 0) ⟨#[], #[zero_apiSeq, .bool false], []⟩).memory Tryd.f3.params.toList (OpenSpec.ofChange Rows.wirePutsSpec).vars false (#[zero_apiSeq, .bool false] : Array Value).toList 8).any (fun x => true) = true := by kernel_rfl
  cases hx : DataW.whole enc Tryd.prog ((World.laidAll Tryd.prog os [("math/bits.deBruijn32tab", Rows.laid_math_bits_deBruijn32tab), ("math/bits.deBruijn64tab", Rows.laid_math_bits_deBruijn64tab), ("internal/strconv.uint64pow10", Rows.laid_internal_strconv_uint64pow10), ("unicode/utf8.acceptRanges", Rows.laid_unicode_utf8_acceptRanges), ("unicode/utf8.first", Rows.laid_unicode_utf8_first)]).forCall (fun _ _ => 0) ⟨#[], #[zero_apiSeq, .bool false], []⟩).memory Tryd.f3.params.toList (OpenSpec.ofChange Rows.wirePutsSpec).vars false (#[zero_apiSeq, .bool false] : Array Value).toList 8 with
  | none => rw [hx] at hw; cases hw
  | some x =>
  rw [hx] at hw
  have hok : Input.okWideB Tryd.checked.prog ((World.laidAll Tryd.prog os [("math/bits.deBruijn32tab", Rows.laid_math_bits_deBruijn32tab), ("math/bits.deBruijn64tab", Rows.laid_math_bits_deBruijn64tab), ("internal/strconv.uint64pow10", Rows.laid_internal_strconv_uint64pow10), ("unicode/utf8.acceptRanges", Rows.laid_unicode_utf8_acceptRanges), ("unicode/utf8.first", Rows.laid_unicode_utf8_first)]).forCall (fun _ _ => 0) ⟨#[], #[zero_apiSeq, .bool false], []⟩) 3 ⟨#[], #[zero_apiSeq, .bool false], []⟩ = true := by kernel_rfl
  refine returnsInHanded_of_row (C := Tryd.checked) (s := (OpenSpec.ofChange Rows.wirePutsSpec)) seat_own started (by kernel_rfl) Tryd.func3
    ⟨World.laidAll Tryd.prog os [("math/bits.deBruijn32tab", Rows.laid_math_bits_deBruijn32tab), ("math/bits.deBruijn64tab", Rows.laid_math_bits_deBruijn64tab), ("internal/strconv.uint64pow10", Rows.laid_internal_strconv_uint64pow10), ("unicode/utf8.acceptRanges", Rows.laid_unicode_utf8_acceptRanges), ("unicode/utf8.first", Rows.laid_unicode_utf8_first)], fun _ _ => 0, ⟨#[], #[zero_apiSeq, .bool false], []⟩, World.laidAll_os _ _ _, World.shaped_of_ZipB (by kernel_rfl) (by kernel_rfl), (Input.okWide_of_okWideB (base := 0) hok).1, (Input.okWide_of_okWideB hok).2,
      OpenSpec.preRow_of_cond 8 hx (by kernel_rfl) (fun k hk => by cases hk) (by kernel_rfl) (by rw [show Rows.wirePutsRow.laid = [("math/bits.deBruijn32tab", Rows.laid_math_bits_deBruijn32tab), ("math/bits.deBruijn64tab", Rows.laid_math_bits_deBruijn64tab), ("internal/strconv.uint64pow10", Rows.laid_internal_strconv_uint64pow10), ("unicode/utf8.acceptRanges", Rows.laid_unicode_utf8_acceptRanges), ("unicode/utf8.first", Rows.laid_unicode_utf8_first)] from rfl, MakeChecks.laidMetH_plain _ _ _ (by kernel_rfl)]; exact laidMet_laidAll _ (by kernel_rfl) (by kernel_rfl)),
      by simp only [Assume.holds]; exact ⟨by simp, by simp, fun _ => Modest.zero, by simp, by simp⟩⟩ ?_
  intro W base args ds gs before hval0 hW _ hcond hreach hL _ _
  have hval : ∀ (j : Nat) t v, Tryd.f3.params[j]? = some t → args[j]? = some v → Value.okWide Tryd.prog W .any base t v := hval0
  have hW' := hW
  obtain ⟨p, q, hA0, hV, rfl, _, _⟩ := hW
  have hA : DataW.TrodAll enc Tryd.prog W 0 (fun _ => true) true Tryd.f3.params.toList args.toList ds p := hA0
  rw [Tryd.params3] at hA hval
  obtain ⟨v0, vs0, d0, ds0, p0, q0, hargs, rfl, rfl, h0, r0⟩ := trodAll_cons hA
  obtain ⟨v1, vs1, d1, ds1, p1, q1, rfl, rfl, rfl, h1, r1⟩ := trodAll_cons r0
  obtain ⟨rfl, rfl, rfl⟩ := trodAll_nil r1
  obtain rfl : args = #[v0, v1] := by cases args; simp_all
  obtain ⟨rfl, rfl⟩ := trodVars_none hV
  have lt0 : ∀ x ∈ p0, x.block < W.heap.size := by obtain ⟨m, hm⟩ := h0; exact DataW.trod_lt m _ _ _ hm
  obtain ⟨x0, c0, e0⟩ := op_apiSeq (hval 0 24 v0 rfl rfl) h0
  have lt1 : ∀ x ∈ p1, x.block < W.heap.size := by obtain ⟨m, hm⟩ := h1; exact DataW.trod_lt m _ _ _ hm
  obtain ⟨x1, c1, e1⟩ := op_bool (hval 1 4 v1 rfl rfl) h1
  clear hA0 hval0
  refine ((fs_WirePuts (Gl := fun _ => True) (fun _ _ _ _ => trivial) c0 c1).row (fixW_of5 hL) trivial ⟨_, _, rfl, e0, ⟨_, _, rfl, e1, rfl⟩⟩).mono fun e W' ⟨v, g', he, hr, bel⟩ => ?_
  obtain rfl : v = .bool true := hr
  subst he
  exact ⟨_, rfl, _, _, _, [], _, [], hW', trodAll_mk1 (shut_bool (show Tryd.prog.underlying 4 = some .bool by kernel_rfl) _), (trodAll_cons_mk (Below.trod seat_laidOut (by kernel_rfl) (of_decide_eq_true (by kernel_rfl)) h0 bel lt0) (trodAll_cons_mk (Below.trod seat_laidOut (by kernel_rfl) (of_decide_eq_true (by kernel_rfl)) h1 bel lt1) trodAll_mk0)), rfl, bel.frame _, fun h => by cases h⟩
theorem wirePuts_holds : Rows.WirePutsSaid :=
  OpenClaim.holds_of_cond 3 Tryd.f3 rfl rfl rfl rfl rfl rfl rfl ⟨rfl, rfl, rfl, rfl, rfl⟩ rfl rfl rfl rfl rfl (by kernel_rfl) Tryd.func3 (by kernel_rfl)
    (of_decide_eq_true (by kernel_rfl)) (by unfold Func.isWrapper; first | (rw [if_pos (by decide +kernel)]; kernel_rfl) | (rw [if_neg (by decide +kernel)]; exact ⟨rfl, rfl⟩))
    (fun os started H enc _ F => by rw [OpenClaim.pre_eq_preRow]; exact wirePuts_lifted os started H enc F)
theorem wirePuts_card : Rows.WirePutsCardSaid :=
  Claim7.holds_tied_plain_at .later [] [.data, .data, .data, .data, .pinned] true (true, "d5292084b9ab7f77eb3202276cc8c4e6c0a8445b269373b2eae56c37e354ddd0") false wirePuts_holds (fun _ h => by cases h) (by kernel_rfl) (fun _ h => by cases h) wirePuts_row_tie rfl ⟨rfl, rfl⟩ (by kernel_rfl) rfl
    (fun f fn hf hfn => by
      obtain rfl : f = 3 := Option.some.inj ((show Tryd.prog.funcNamed "clavier/clavierlaw03.WirePuts" = some 3 by kernel_rfl).symm.trans hf) |>.symm
      obtain rfl : fn = Tryd.f3 := (Option.some.inj (Tryd.func3.symm.trans hfn)).symm
      exact ⟨by kernel_rfl, fun j t ht => by
        rw [Tryd.params3] at ht
        have hm : t ∈ ([24, 4] : List Nat) := by simpa using Array.mem_of_getElem? ht
        have hall : (([24, 4] : List Nat).all fun u => !Tryd.prog.wantsStandIn u) = true := by kernel_rfl
        exact (show Tryd.prog.wantsStandIn t = false by simpa using List.all_eq_true.1 hall t hm)⟩)
    (by kernel_rfl)
#print axioms wirePuts_card
end Go.Proofs.YtcdkcfpgdbjogaaDoor

