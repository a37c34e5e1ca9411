/- Part 3 of 3 of a proof: the given statement BoardWhole, whatever the input that its row lets in. Conditions: those of the given row and card alone. -/
import Derived.Test.YtbepihadhmfklaaGreatDoorPBoardWhole2
import Derived.Test.YtbepihadhmfklaaGreatDoorPBoardWholeAb13
import Derived.Test.YtbepihadhmfklaaGreatDoorPBoardWhole1
import Derived.WalkKit
import Derived.ProofKit
import Derived.SizedLaws
import Derived.Test.YtbepihadhmfklaaGreatDoorRows
import Derived.LaidSub
import Derived.Lib.LaidTab
import Derived.Lib.ItoaNum
import Derived.MakeChecks
import Derived.Test.YtbepihadhmfklaaGreatDoorCards
import Derived.Test.YtbepihadhmfklaaGreatDoorTie
import Derived.Deep.DeepHandedRow
import Derived.JoinedCond
import Derived.OpenShut
import Derived.ShutString
import Derived.ChangeOld
import Derived.Below
import Derived.Lay
import Derived.LaidOnce
import Derived.SevenTiedAt
set_option linter.unusedVariables false
set_option linter.unusedSimpArgs false
set_option maxRecDepth 100000
namespace Go.Proofs.YtbepihadhmfklaaGreatDoor
open Go Go.Ab
def ir_wirenumber : ICode :=
 (.seq
 (.reg [⟨some 2, none, .mov (.c (.int .i64 0))⟩] (some [0]))
 (.seq
 (.seq
 (.reg [⟨some 5, none, .mov (.t 0)⟩,
 ⟨some 6, none, .bin .eql .none (.t 5) (.c (.str []))⟩] (some [0, 6]))
 (.cond (.t 6)
 (.seq
 (.reg [⟨some 2, none, .mov (.c (.int .i64 (-1)))⟩] (some [2]))
 .ret)
 .skip))
 (.seq
 (.reg [⟨some 8, none, .mov (.t 0)⟩,
 ⟨some 9, none, .s2b 5 (.t 8)⟩,
 ⟨some 10, none, .call (.c (.fn (.func 144) [] [])) [(.t 9)]⟩,
 ⟨some 7, none, .mov (.t 10)⟩,
 ⟨some 11, none, .ext (.t 7) 0⟩,
 ⟨some 12, none, .ext (.t 7) 1⟩,
 ⟨some 3, none, .mov (.t 11)⟩,
 ⟨some 4, none, .mov (.t 12)⟩] (some [3]))
 (.seq
 (.reg [⟨some 13, none, .mov (.t 3)⟩,
 ⟨some 2, none, .mov (.t 13)⟩] (some [2]))
 .ret))))
theorem is_wirenumber : IrOf Tryz.prog 130 14 ir_wirenumber [.t 2] := ⟨_, Tryz.func130, rfl, by kernel_rfl, by kernel_rfl, by kernel_rfl⟩

/- (*clavier/wire.reader).params -/
def ir_wirereaderparams_b0 : ICode :=
 (.blk 3
 (.drw [⟨⟨some 37, none, .ld none (.t 5)⟩, []⟩,
 ⟨⟨some 38, none, .mov (.t 6)⟩, []⟩,
 ⟨⟨some 39, none, .call (.c (.fn (.func 130) [] [])) [(.t 38)]⟩, [1]⟩,
 ⟨⟨some 40, none, .row 3 1 [(.t 39)]⟩, [2]⟩,
 ⟨⟨some 41, none, .app 3 1 8 (.t 37) (.t 40)⟩, [0, 3, 2]⟩]
 [⟨none, none, .st 1 (.t 5) (.t 41)⟩] (some [])))
def ir_wirereaderparams_b1 : ICode :=
 (.blk 1
 (.seq
 (.reg [⟨some 5, none, .box 64 (.c .nils)⟩] (some [1, 4, 5]))
 (.seq
 (.seq
 (.reg [⟨some 34, none, .mov (.t 4)⟩,
 ⟨some 35, none, .call (.c (.fn (.func 129) [] [])) [(.t 34), (.c (.str [58]))]⟩] (some [1, 5, 35]))
 (.blk 2
 (.rgf (.t 35) [36]
 (.reg [⟨some 6, none, .mov (.t 36)⟩] (some [5, 6]))
 ir_wirereaderparams_b0)))
 (.drw [⟨⟨some 42, none, .ld none (.t 1)⟩, []⟩,
 ⟨⟨some 43, none, .ld none (.t 1)⟩, []⟩,
 ⟨⟨some 44, none, .nck (.t 43)⟩, [1]⟩,
 ⟨⟨some 45, none, .fa 2 (.t 44)⟩, [2]⟩,
 ⟨⟨some 46, none, .fa 2 (.t 45)⟩, [3]⟩,
 ⟨⟨some 47, none, .ld none (.t 46)⟩, [4]⟩,
 ⟨⟨some 48, none, .ld none (.t 5)⟩, []⟩,
 ⟨⟨some 49, none, .row 64 1 [(.t 48)]⟩, [6]⟩,
 ⟨⟨some 50, none, .app 64 1 24 (.t 47) (.t 49)⟩, [5, 7]⟩]
 [⟨some 51, none, .nck (.t 42)⟩,
 ⟨some 52, none, .fa 2 (.t 51)⟩,
 ⟨some 53, none, .fa 2 (.t 52)⟩,
 ⟨none, none, .st 1 (.t 53) (.t 50)⟩] (some [])))))
def ir_wirereaderparams_t4 : ICode :=
 (.seq
 (.reg [⟨some 31, none, .mov (.t 3)⟩,
 ⟨some 32, none, .call (.c (.fn (.func 129) [] [])) [(.t 31), (.c (.str [59]))]⟩] (some [1, 32]))
 (.blk 0
 (.rgf (.t 32) [33]
 (.reg [⟨some 4, none, .mov (.t 33)⟩] (some [1, 4]))
 ir_wirereaderparams_b1)))
def ir_wirereaderparams_t3 : ICode :=
 (.seq
 (.seq
 (.reg [⟨some 29, none, .mov (.t 3)⟩,
 ⟨some 30, none, .bin .eql .none (.t 29) (.c (.str []))⟩] (some [1, 3, 30]))
 (.cond (.t 30)
 .ret
 .skip))
 ir_wirereaderparams_t4)
def ir_wirereaderparams_t2 : ICode :=
 (.seq
 (.reg [⟨some 25, none, .ld none (.t 1)⟩,
 ⟨some 26, none, .nck (.t 25)⟩,
 ⟨some 27, none, .fa 0 (.t 26)⟩,
 ⟨some 28, none, .call (.c (.fn (.func 104) [] [])) [(.t 27), (.c (.int .u8 48)), (.c (.int .u8 59))]⟩,
 ⟨some 3, none, .mov (.t 28)⟩] (some [1, 3]))
 ir_wirereaderparams_t3)
def ir_wirereaderparams_t1 : ICode :=
 (.seq
 (.seq
 (.reg [⟨some 7, none, .ld none (.t 1)⟩,
 ⟨some 8, none, .nck (.t 7)⟩,
 ⟨some 9, none, .fa 0 (.t 8)⟩,
 ⟨some 10, none, .call (.c (.fn (.func 101) [] [])) [(.t 9)]⟩,
 ⟨some 2, none, .mov (.t 10)⟩] (some [1, 2]))
 (.seq
 (.reg [⟨some 11, none, .mov (.t 2)⟩,
 ⟨some 12, none, .bin .geq .none (.t 11) (.c (.int .u8 60))⟩,
 ⟨some 13, none, .mov (.t 12)⟩,
 ⟨some 14, some (13, true), .mov (.t 2)⟩,
 ⟨some 15, some (13, true), .bin .leq .none (.t 14) (.c (.int .u8 63))⟩,
 ⟨some 16, none, .pick (.t 13) (.t 15) (.c (.bool false))⟩] (some [1, 16]))
 (.cond (.t 16)
 (.drwm [(), (), (), ()] [⟨⟨some 17, none, .ld none (.t 1)⟩, []⟩,
 ⟨⟨some 18, none, .ld none (.t 1)⟩, []⟩,
 ⟨⟨some 19, none, .nck (.t 18)⟩, [1]⟩,
 ⟨⟨some 20, none, .fa 0 (.t 19)⟩, [2]⟩,
 ⟨⟨some 21, none, .call (.c (.fn (.func 100) [] [])) [(.t 20)]⟩, [3]⟩]
 [⟨some 22, none, .nck (.t 17)⟩,
 ⟨some 23, none, .fa 2 (.t 22)⟩,
 ⟨some 24, none, .fa 1 (.t 23)⟩,
 ⟨none, none, .st 1 (.t 24) (.t 21)⟩] (some [1]))
 .skip)))
 ir_wirereaderparams_t2)
def ir_wirereaderparams : ICode :=
 (.seq
 (.reg [⟨some 1, none, .box 115 (.t 0)⟩] (some [1]))
 ir_wirereaderparams_t1)
theorem is_wirereaderparams : IrOf Tryz.prog 102 54 ir_wirereaderparams [] := ⟨_, Tryz.func102, rfl, by kernel_rfl, by kernel_rfl, by kernel_rfl⟩


theorem fs_wNumber {Gl : Gh → Prop} (hst : Stays Gl) {t : List UInt8} (ht : t.length ≤ maxLen) : FS Tryz.prog Gl 130 [.str t] [] [] (.int .i64 (numW t)) [] [] := by
  refine FS.of hm hst is_wirenumber (by simp) fun γ hγ hfr => ?_
  (generalize hQ : (fun (ex : Ex) (_ _ : Nat) (s : St) => _) = Q; unfold ir_wirenumber)
  cases t with
  | nil =>
    simp +contextual (maxSteps := 1000000) only [go_sem, reduceCtorEq, ↓reduceIte, Nat.reduceAdd, Nat.reduceEqDiff]
    rw [← hQ]
    exact ⟨trivial, Ret.flat rfl rfl⟩
  | cons c l =>
    have hl : (c :: l).length < 9223372036854775808 := Nat.lt_of_le_of_lt ht (by decide)
    simp +contextual (maxSteps := 1000000) only [ht, go_sem, reduceCtorEq, ↓reduceIte, Nat.reduceAdd, Nat.reduceEqDiff]
    refine ⟨ht, ?_⟩
    (refine CallP.pure (fs_take hst hl) (fun _ => rfl) ?_; simp +contextual (maxSteps := 1000000) only [go_sem, reduceCtorEq, ↓reduceIte, Nat.reduceAdd, Nat.reduceEqDiff])
    rw [← hQ]
    have : numW (c :: l) = ((takeN (c :: l) 0 0).1 : Int) := by unfold numW; rw [if_neg (by simp)]
    rw [this]
    exact ⟨trivial, Ret.flat rfl rfl⟩
theorem CallP.rdX {Gl : Gh → Prop} {k : FuncId} {args : List AV} {p : Nm} {H Ha : Hp} {b : List UInt8} {n n' : Nat} {s s' : Sq} {y : AV} {T : Tk} {f : Nat → Nm} {K : AV → Hp → Tk → Prop} (h : FS Tryz.prog Gl k args [(p, .cells (rdC b n s))] [] y [(p, .cells (rdC b n' s'))] []) (hp : 1 ≤ p.1) (hy : y.flatT = true) (hap : ∀ q ∈ Ha, p ≠ q.1)
    (hH : ∀ q ∈ (p, HB.cells (rdC b n s)) :: Ha, q ∈ H) (hK : K y ((p, .cells (rdC b n' s')) :: Ha) T) : CallP Tryz.prog Gl k args H T f K := by
  refine ⟨_, _, _, h, fun q hq => hH q (by simp only [List.mem_singleton] at hq; subst hq; exact List.mem_cons_self), by simp, ?_⟩
  rintro r H1 T1 ⟨rfl, rfl, rfl⟩
  refine ⟨(p, .cells (rdC b n' s')) :: Ha, T, fun q hq => ?_, fun t ht => .inr ⟨ht, by simp⟩, by rw [flatT_rn hy]; exact hK⟩
  rcases List.mem_cons.1 hq with rfl | hq
  · refine List.mem_append.2 (.inl ?_)
    simp only [rnH, List.map_cons, List.map_nil, nm_real hp, rdC_rn, List.mem_singleton]
  · refine List.mem_append.2 (.inr (List.mem_filter.2 ⟨hH q (List.mem_cons_of_mem _ hq), ?_⟩))
    simp only [List.all_cons, List.all_nil, Bool.and_true, decide_eq_true_eq]
    exact hap q hq
theorem rdC_rnH {f : Nat → Nm} {p : Nm} (hp : 1 ≤ p.1) {b : List UInt8} {n : Nat} {s : Sq} : rnH f [(p, .cells (rdC b n s))] = [(p, .cells (rdC b n s))] := by
  simp only [rnH, List.map_cons, List.map_nil, nm_real hp, rdC_rn]

set_option maxHeartbeats 4000000 in
theorem fs_wParams {Gl : Gh → Prop} (hst : Stays Gl) {p : Nm} (hp : 1 ≤ p.1) {b : List UInt8} {n : Nat} {s : Sq} (hn : n ≤ b.length) (hb : b.length ≤ 4000000000) (h1 : s.pr = 0) (h2 : s.ps = []) :
    FS Tryz.prog Gl 102 [.ptr p 0] [(p, .cells (rdC b n s))] [] (.tup []) [(p, .cells (rdC b (n + (headW (b.drop n)).2.2) { s with pr := (headW (b.drop n)).1, ps := (headW (b.drop n)).2.1 }))] [] := by
  obtain ⟨sk, spr, sps, sit, sfi, sda⟩ := s
  simp only at h1 h2
  subst h1 h2
  refine FS.ofK hm hst is_wirereaderparams (by simp) fun γ hγ hfr => ?_
  have hpg : p.1 ≠ γ := hfr.1 _ List.mem_cons_self
  have hne : ∀ i j, (p = (γ, i, j)) = False := fun i j => eq_false fun e => hpg (by rw [e])
  have hne2 : ∀ i j, ((γ, i, j) = p) = False := fun i j => eq_false fun e => hpg (by rw [← e])
  have hap : ∀ q ∈ ([((γ, 0, 0), .cells [.ptr p 0])] : Hp), p ≠ q.1 := fun q hq e => by simp only [List.mem_singleton] at hq; subst hq; exact hpg (by rw [e])
  (generalize hQ : (fun (ex : Ex) (_ _ : Nat) (s : St) => _) = Q; unfold ir_wirereaderparams)
  simp only [rdC]
  simp +contextual (maxSteps := 1000000) only [hne, hne2, go_sem, reduceCtorEq, ↓reduceIte, Nat.reduceAdd, Nat.reduceEqDiff, Nat.reduceLeDiff, Nat.reduceMul, Nat.reduceBEq, Int.reduceBEq, Int.reduceBNe, Int.reduceLT, Int.reduceLE, Int.reduceGT, Int.reduceGE, Int.reduceToNat]
  unfold ir_wirereaderparams_t1
  simp +contextual (maxSteps := 1000000) only [hne, hne2, go_sem, reduceCtorEq, ↓reduceIte, Nat.reduceAdd, Nat.reduceEqDiff, Nat.reduceLeDiff, Nat.reduceMul, Nat.reduceBEq, Int.reduceBEq, Int.reduceBNe, Int.reduceLT, Int.reduceLE, Int.reduceGT, Int.reduceGE, Int.reduceToNat]
  refine CallP.rdX (Ha := [((γ, 0, 0), .cells [.ptr p 0])]) (fs_peek (b := b) (n := n) (s := ⟨sk, 0, [], sit, sfi, sda⟩) hst hp) hp rfl hap (by simp [rdC]) ?_
  simp only [rdC]
  generalize hc : peekW b n = c
  have hcond : (decide ((c.toNat : Int) ≥ 60) && decide ((c.toNat : Int) ≤ 63)) = isPr c := by
    unfold isPr; rw [Bool.eq_iff_iff]; simp; omega
  -- behind the mark
  have go2 : ∀ (m : Nat) (pr : Int) (c' : Nat) (F : Nat → AV), F 1 = .ptr (γ, 0, 0) 0 → m ≤ b.length → headW (b.drop n) = (pr, numsW (runL 48 59 (b.drop m)), (m - n) + (runL 48 59 (b.drop m)).length) → n ≤ m →
      aw Tryz.prog Gl ir_wirereaderparams_t2 γ c' ⟨F, [(p, .cells [.sl none 1 (bytesAV b), .int .i64 m, .int .i64 sk, .int .u8 pr, pw [], .str sit, .int .u8 sfi, .str sda]), ((γ, 0, 0), .cells [.ptr p 0])], fun x => x ∈ []⟩ Q := by
    intro m pr c' F hF hm' hw hnm
    have cr : FS Tryz.prog Gl 104 [.ptr p 0, .int .u8 48, .int .u8 59] [(p, .cells (rdC b m ⟨sk, pr, [], sit, sfi, sda⟩))] [] (.str (runL 48 59 (b.drop m))) [(p, .cells (rdC b (m + (runL 48 59 (b.drop m)).length) ⟨sk, pr, [], sit, sfi, sda⟩))] [] := fs_run hst hp (x := 48) (y := 59) hm' (by omega)
    have htl := runL_le 48 59 (b.drop m)
    rw [List.length_drop] at htl
    generalize runL 48 59 (b.drop m) = t at cr htl hw
    unfold ir_wirereaderparams_t2
    simp +contextual (maxSteps := 1000000) only [hne, hne2, hF, go_sem, reduceCtorEq, ↓reduceIte, Nat.reduceAdd, Nat.reduceEqDiff, Nat.reduceLeDiff, Nat.reduceMul, Nat.reduceBEq, Int.reduceBEq, Int.reduceBNe, Int.reduceLT, Int.reduceLE, Int.reduceGT, Int.reduceGE, Int.reduceToNat]
    refine CallP.rdX (Ha := [((γ, 0, 0), .cells [.ptr p 0])]) cr hp rfl hap (by simp [rdC]) ?_
    unfold ir_wirereaderparams_t3
    simp only [rdC]
    have hfin : n + ((m - n) + t.length) = m + t.length := by omega
    by_cases hte : t = []
    · have hd : decide (t = []) = true := decide_eq_true hte
      simp +contextual (maxSteps := 1000000) only [hne, hne2, hd, go_sem, reduceCtorEq, ↓reduceIte, Nat.reduceAdd, Nat.reduceEqDiff, Nat.reduceLeDiff, Nat.reduceMul, Nat.reduceBEq, Int.reduceBEq, Int.reduceBNe, Int.reduceLT, Int.reduceLE, Int.reduceGT, Int.reduceGE, Int.reduceToNat]
      rw [← hQ, hw]
      refine ⟨trivial, 0, _, Wk.refl _ _ _, Ret.rd rfl rfl hp ?_⟩
      rw [hfin, hte]
      simp [rdC, numsW, pw]
    · have hd : decide (t = []) = false := decide_eq_false hte
      have hnums : numsW t = (splitB 59 t).map subsW := by unfold numsW; rw [if_neg hte]
      simp +contextual (maxSteps := 1000000) only [hne, hne2, hd, go_sem, reduceCtorEq, ↓reduceIte, Nat.reduceAdd, Nat.reduceEqDiff, Nat.reduceLeDiff, Nat.reduceMul, Nat.reduceBEq, Int.reduceBEq, Int.reduceBNe, Int.reduceLT, Int.reduceLE, Int.reduceGT, Int.reduceGE, Int.reduceToNat]
      unfold ir_wirereaderparams_t4
      simp +contextual (maxSteps := 1000000) only [hne, hne2, go_sem, reduceCtorEq, ↓reduceIte, Nat.reduceAdd, Nat.reduceEqDiff, Nat.reduceLeDiff, Nat.reduceMul, Nat.reduceBEq, Int.reduceBEq, Int.reduceBNe, Int.reduceLT, Int.reduceLE, Int.reduceGT, Int.reduceGE, Int.reduceToNat]
      refine CallP.of (fs_SplitSeq hst) (by simp) (by simp) ?_
      simp only [rnH, hpSplit, rnN, rnHB, rnL, Ab.rn]
      simp +contextual (maxSteps := 1000000) only [hne, hne2, go_sem, reduceCtorEq, ↓reduceIte, Nat.reduceAdd, Nat.reduceEqDiff, Nat.reduceLeDiff, Nat.reduceMul, Nat.reduceBEq, Int.reduceBEq, Int.reduceBNe, Int.reduceLT, Int.reduceLE, Int.reduceGT, Int.reduceGE, Int.reduceToNat]
      refine rgf_of rfl ((splitB 59 t).map fun q => [.str q])
        (fun i H T => ∃ (tk : Option Nm) (Hx : Hp), (tk = none → i = 0) ∧ (∀ x, tk = some x → γ ≤ x.1 ∧ T x) ∧ H = (p, .cells [.sl none 1 (bytesAV b), .int .i64 ((m + t.length : Nat) : Int), .int .i64 sk, .int .u8 pr, sv tk 1 (parsAV (((splitB 59 t).take i).map subsW)), .str sit, .int .u8 sfi, .str sda]) :: ((γ, 0, 0), .cells [.ptr p 0]) :: Hx)
        (fun _ _ _ => False) (hpSplit t 59 (γ, c' + 5 + 2 + 1, 0) (γ, c' + 5 + 2 + 1, 1) (γ, c' + 5 + 2 + 1, 2)) [(p, .cells [.sl none 1 (bytesAV b), .int .i64 ((m + t.length : Nat) : Int), .int .i64 sk, .int .u8 pr, .nils, .str sit, .int .u8 sfi, .str sda]), ((γ, 0, 0), .cells [.ptr p 0])] (fun _ => False)
        (it_split (by simp) (by simp) (by simp) (by omega)) (by simp [hpSplit]) (by simp [hpSplit, hne]) (by simp [pw]) (by simp) ⟨none, [], by simp, by simp, rfl⟩ (by simp) ?_ ?_ (fun _ _ _ h => h.elim)
      · rintro Gl' hst' hG i x H T γ' hx ⟨tk, Hx, hk1, hk2, rfl⟩ hlt hfr'
        simp only [List.getElem?_map, Option.map_eq_some_iff] at hx
        obtain ⟨q, hq, rfl⟩ := hx
        have hqm : q ∈ splitB 59 t := List.mem_of_getElem? hq
        have hql := splitB_mem_len hqm
        have hil : i < (splitB 59 t).length := (List.getElem?_eq_some_iff.1 hq).1
        have hsl := splitB_len (c := 59) (l := t)
        have hpg' : p.1 ≠ γ' := hfr'.1 _ List.mem_cons_self
        have mne : ∀ i j, (p = (γ', i, j)) = False := fun i j => eq_false fun e => hpg' (by rw [e])
        have mne2 : ∀ i j, ((γ', i, j) = p) = False := fun i j => eq_false fun e => hpg' (by rw [← e])
        have gne : (γ = γ') = False := eq_false (by omega)
        have gne2 : (γ' = γ) = False := eq_false (by omega)
        generalize hK : kBd _ _ _ = K
        unfold ir_wirereaderparams_b1
        simp +contextual (maxSteps := 1000000) only [hne, hne2, mne, mne2, gne, gne2, hF, go_sem, reduceCtorEq, ↓reduceIte, Nat.reduceAdd, Nat.reduceEqDiff, Nat.reduceLeDiff, Nat.reduceMul, Nat.reduceBEq, Int.reduceBEq, Int.reduceBNe, Int.reduceLT, Int.reduceLE, Int.reduceGT, Int.reduceGE, Int.reduceToNat]
        refine CallP.of (fs_SplitSeq hst') (by simp) (by simp) ?_
        simp only [rnH, hpSplit, rnN, rnHB, rnL, Ab.rn]
        simp +contextual (maxSteps := 1000000) only [hne, hne2, mne, mne2, gne, gne2, go_sem, reduceCtorEq, ↓reduceIte, Nat.reduceAdd, Nat.reduceEqDiff, Nat.reduceLeDiff, Nat.reduceMul, Nat.reduceBEq, Int.reduceBEq, Int.reduceBNe, Int.reduceLT, Int.reduceLE, Int.reduceGT, Int.reduceGE, Int.reduceToNat]
        refine rgf_of rfl ((splitB 58 q).map fun r => [.str r])
          (fun j H T => ∃ tj : Option Nm, (tj = none → j = 0) ∧ (∀ x, tj = some x → γ' ≤ x.1 ∧ T x) ∧ H = [((γ', 1, 0), .cells [sv tj 1 (intsAV (((splitB 58 q).take j).map numW))])])
          (fun _ _ _ => False) (hpSplit q 58 (γ', 3, 0) (γ', 3, 1) (γ', 3, 2)) [((γ', 1, 0), .cells [.nils])] (fun _ => False)
          (it_split (by simp) (by simp) (by simp) (by omega)) (by simp [hpSplit]) (by simp [hpSplit]) (by simp) (by simp) ⟨none, by simp, by simp, rfl⟩ (by simp) ?_ ?_ (fun _ _ _ h => h.elim)
        · rintro Gl'' hst'' hG' j x H T' γ'' hx ⟨tj, hj1, hj2, rfl⟩ hlt' hfr''
          simp only [List.getElem?_map, Option.map_eq_some_iff] at hx
          obtain ⟨r, hr, rfl⟩ := hx
          have hrl := splitB_mem_len (List.mem_of_getElem? hr)
          have hjl := (List.getElem?_eq_some_iff.1 hr).1
          have hsl' := splitB_len (c := 58) (l := q)
          have hts : (splitB 58 q).take (j + 1) = (splitB 58 q).take j ++ [r] := by rw [List.take_add_one, hr]; rfl
          have hln : (intsAV (((splitB 58 q).take j).map numW)).length ≤ q.length + 1 := by simp [intsAV]; omega
          generalize hK' : kBd _ _ _ = K'
          unfold ir_wirereaderparams_b0
          cases tj with
          | none =>
            obtain rfl := hj1 rfl
            simp +contextual (maxSteps := 1000000) only [go_sem, reduceCtorEq, ↓reduceIte, Nat.reduceAdd, Nat.reduceEqDiff, Nat.reduceLeDiff, Nat.reduceMul, Nat.reduceBEq, Int.reduceBEq, Int.reduceBNe, Int.reduceLT, Int.reduceLE, Int.reduceGT, Int.reduceGE, Int.reduceToNat]
            refine DCall.new (fs_wNumber hst'' (by simp only [maxLen]; omega)) ?_
            simp +contextual (maxSteps := 1000000) only [go_sem, reduceCtorEq, ↓reduceIte, Nat.reduceAdd, Nat.reduceEqDiff, Nat.reduceLeDiff, Nat.reduceMul, Nat.reduceBEq, Int.reduceBEq, Int.reduceBNe, Int.reduceLT, Int.reduceLE, Int.reduceGT, Int.reduceGE, Int.reduceToNat]
            rw [← hK']
            refine ⟨some (γ'', 5, 0), by simp, fun x hx => ?_, ?_⟩
            · cases hx
              exact ⟨by simp only; omega, by simp⟩
            · rw [hts]
              simp [sv, intsAV]
          | some t0 =>
            simp +contextual (maxSteps := 1000000) only [go_sem, reduceCtorEq, ↓reduceIte, Nat.reduceAdd, Nat.reduceEqDiff, Nat.reduceLeDiff, Nat.reduceMul, Nat.reduceBEq, Int.reduceBEq, Int.reduceBNe, Int.reduceLT, Int.reduceLE, Int.reduceGT, Int.reduceGE, Int.reduceToNat]
            refine DCall.new (fs_wNumber hst'' (by simp only [maxLen]; omega)) ?_
            simp +contextual (maxSteps := 1000000) only [go_sem, reduceCtorEq, ↓reduceIte, Nat.reduceAdd, Nat.reduceEqDiff, Nat.reduceLeDiff, Nat.reduceMul, Nat.reduceBEq, Int.reduceBEq, Int.reduceBNe, Int.reduceLT, Int.reduceLE, Int.reduceGT, Int.reduceGE, Int.reduceToNat]
            refine ⟨.inl (hj2 t0 rfl).2, by omega, by simp, ?_⟩
            rw [← hK']
            refine ⟨some (γ'', 5, 0), by simp, fun x hx => ?_, ?_⟩
            · cases hx
              exact ⟨by simp only; omega, .inl (by simp), fun e => hfr''.2 t0 (hj2 t0 rfl).2 (by rw [← e])⟩
            · rw [hts]
              simp [sv, intsAV]
        · rintro H1 T1 ⟨tj, hj1, hj2, rfl⟩
          have hlen' : ((splitB 58 q).map fun r => [AV.str r]).length = (splitB 58 q).length := by simp
          rw [hlen'] at hj1 ⊢
          rw [List.take_length]
          cases tj with
          | none => exact absurd (List.length_eq_zero_iff.1 (hj1 rfl)) (splitB_ne _ _)
          | some u0 =>
            refine ⟨[(p, .cells [.sl none 1 (bytesAV b), .int .i64 ((m + t.length : Nat) : Int), .int .i64 sk, .int .u8 pr, sv tk 1 (parsAV (((splitB 59 t).take i).map subsW)), .str sit, .int .u8 sfi, .str sda]), ((γ, 0, 0), .cells [.ptr p 0]), ((γ', 1, 0), .cells [.sl (some u0) 1 (intsAV (subsW q))])], fun x => x = u0 ∨ T x, fun z hz => ?_, fun x hx => ?_, ?_⟩
            · simp only [List.mem_cons, List.not_mem_nil, or_false] at hz
              rcases hz with rfl | rfl | rfl
              · exact List.mem_append.2 (.inr (List.mem_filter.2 ⟨by simp, by simp [hpSplit, mne2]⟩))
              · exact List.mem_append.2 (.inr (List.mem_filter.2 ⟨by simp, by simp [hpSplit, gne2]⟩))
              · exact List.mem_append.2 (.inl (by simp [sv, subsW]))
            · rcases hx with rfl | hx
              · exact .inl (hj2 _ rfl).2
              · exact .inr ⟨.inr ⟨hx, by simp⟩, by simp⟩
            have hts : (splitB 59 t).take (i + 1) = (splitB 59 t).take i ++ [q] := by rw [List.take_add_one, hq]; rfl
            have hln : (parsAV (((splitB 59 t).take i).map subsW)).length ≤ t.length + 1 := by simp [parsAV]; omega
            cases tk with
            | none =>
              obtain rfl := hk1 rfl
              simp +contextual (maxSteps := 1000000) only [hne, hne2, mne, mne2, gne, gne2, go_sem, reduceCtorEq, ↓reduceIte, Nat.reduceAdd, Nat.reduceEqDiff, Nat.reduceLeDiff, Nat.reduceMul, Nat.reduceBEq, Int.reduceBEq, Int.reduceBNe, Int.reduceLT, Int.reduceLE, Int.reduceGT, Int.reduceGE, Int.reduceToNat]
              rw [← hK]
              refine ⟨some (γ', 13, 0), [((γ', 1, 0), .cells [.sl (some u0) 1 (intsAV (subsW q))])], by simp, fun x hx => ?_, ?_⟩
              · cases hx
                exact ⟨by simp only; omega, by simp⟩
              · rw [hts]
                simp [sv, parsAV, intsV]
            | some t0 =>
              simp +contextual (maxSteps := 1000000) only [hne, hne2, mne, mne2, gne, gne2, go_sem, reduceCtorEq, ↓reduceIte, Nat.reduceAdd, Nat.reduceEqDiff, Nat.reduceLeDiff, Nat.reduceMul, Nat.reduceBEq, Int.reduceBEq, Int.reduceBNe, Int.reduceLT, Int.reduceLE, Int.reduceGT, Int.reduceGE, Int.reduceToNat]
              refine ⟨.inl (.inr (hk2 t0 rfl).2), by omega, by simp, ?_⟩
              rw [← hK]
              refine ⟨some (γ', 13, 0), [((γ', 1, 0), .cells [.sl (some u0) 1 (intsAV (subsW q))])], by simp, fun x hx => ?_, ?_⟩
              · cases hx
                exact ⟨by simp only; omega, .inl (by simp), fun e => hfr'.2 t0 (hk2 t0 rfl).2 (by rw [← e])⟩
              · rw [hts]
                simp [sv, parsAV, intsV]
      · rintro H1 T1 ⟨tk, Hx, hk1, hk2, rfl⟩
        refine ⟨_, fun t => tk = some t, fun p hp => List.mem_append.2 (.inl hp), fun t ht => .inl (hk2 t ht).2, ?_⟩
        have hlen : ((splitB 59 t).map fun p => [AV.str p]).length = (splitB 59 t).length := by simp
        rw [hlen] at hk1 ⊢
        rw [List.take_length]
        cases tk with
        | none => exact absurd (List.length_eq_zero_iff.1 (hk1 rfl)) (splitB_ne _ _)
        | some t0 =>
          simp +contextual (maxSteps := 1000000) only [go_sem, reduceCtorEq, ↓reduceIte, Nat.reduceAdd, Nat.reduceEqDiff, Nat.reduceLeDiff, Nat.reduceMul, Nat.reduceBEq, Int.reduceBEq, Int.reduceBNe, Int.reduceLT, Int.reduceLE, Int.reduceGT, Int.reduceGE, Int.reduceToNat]
          rw [← hQ, hw]
          refine ⟨trivial, 0, ⟨fun _ => .und, [(p, .cells (rdC b (m + t.length) ⟨sk, pr, (splitB 59 t).map subsW, sit, sfi, sda⟩))], fun x => x ∈ []⟩, ⟨fun _ => .und _ _, ?_, by simp⟩, Ret.rd rfl rfl hp ?_⟩
          · intro r hr
            simp only [List.mem_singleton] at hr
            subst hr
            refine ⟨_, List.mem_cons_self, rfl, rfl, fun i x y hx hy => ?_⟩
            have hpw : pw ((splitB 59 t).map subsW) = .sl none 1 (parsAV ((splitB 59 t).map subsW)) := by
              have := splitB_ne 59 t
              cases hs : splitB 59 t with
              | nil => exact absurd hs this
              | cons a l => rfl
            simp only [rdC, hpw] at hy
            rcases i with _ | _ | _ | _ | _ | _ | _ | _ | i <;> simp only [List.getElem?_cons_zero, List.getElem?_cons_succ, List.getElem?_nil, Option.some.injEq, reduceCtorEq] at hx hy <;> subst hx hy <;> first | exact AVle.refl _ _ | exact AVle.le (RepLe.anon' rfl)
          · rw [hfin, hnums]
            exact List.mem_singleton.2 rfl
  cases hpr : isPr c with
  | true =>
    rw [hpr] at hcond
    have hlt : n < b.length := by
      rcases Nat.lt_or_ge n b.length with h | h
      · exact h
      · rw [peek_ge h] at hc
        subst hc
        simp [isPr] at hpr
    have hh : headW (b.drop n) = ((c.toNat : Int), numsW (runL 48 59 (b.drop (n + 1))), (n + 1 - n) + (runL 48 59 (b.drop (n + 1))).length) := by
      unfold headW
      have : (b.drop n).headD 0 = c := hc
      rw [this, hpr]
      simp only [if_true, List.drop_drop]
      rw [show n + 1 - n = 1 by omega]
    simp +contextual (maxSteps := 1000000) only [hne, hne2, hcond, go_sem, reduceCtorEq, ↓reduceIte, Nat.reduceAdd, Nat.reduceEqDiff, Nat.reduceLeDiff, Nat.reduceMul, Nat.reduceBEq, Int.reduceBEq, Int.reduceBNe, Int.reduceLT, Int.reduceLE, Int.reduceGT, Int.reduceGE, Int.reduceToNat]
    refine kDrwM_of [((γ, 0, 0), .cells [.ptr p 0])] [(p, .cells (rdC b n ⟨sk, 0, [], sit, sfi, sda⟩))] (by simp [rdC]) (fun q hq q' hq' => ?_) ?_
    · simp only [List.mem_singleton] at hq hq'
      subst hq hq'
      exact fun e => hpg (by rw [show p = (γ, 0, 0) from e])
    simp +contextual (maxSteps := 1000000) only [hne, hne2, go_sem, reduceCtorEq, ↓reduceIte, Nat.reduceAdd, Nat.reduceEqDiff, Nat.reduceLeDiff, Nat.reduceMul, Nat.reduceBEq, Int.reduceBEq, Int.reduceBNe, Int.reduceLT, Int.reduceLE, Int.reduceGT, Int.reduceGE, Int.reduceToNat]
    refine MCall.of (fs_next hst hp (by omega)) (fun _ => rfl) (fun _ => rdC_rnH hp) (fun q hq q' hq' => ?_) ?_
    · simp only [List.mem_singleton] at hq hq'
      subst hq hq'
      exact fun e => hpg (by rw [← show (γ, 0, 0) = p from e])
    rw [hc]
    simp only [rdC]
    simp +contextual (maxSteps := 1000000) only [hne, hne2, go_sem, reduceCtorEq, ↓reduceIte, Nat.reduceAdd, Nat.reduceEqDiff, Nat.reduceLeDiff, Nat.reduceMul, Nat.reduceBEq, Int.reduceBEq, Int.reduceBNe, Int.reduceLT, Int.reduceLE, Int.reduceGT, Int.reduceGE, Int.reduceToNat]
    exact go2 (n + 1) c.toNat _ _ rfl hlt hh (by omega)
  | false =>
    rw [hpr] at hcond
    simp +contextual (maxSteps := 1000000) only [hne, hne2, hcond, go_sem, reduceCtorEq, ↓reduceIte, Nat.reduceAdd, Nat.reduceEqDiff, Nat.reduceLeDiff, Nat.reduceMul, Nat.reduceBEq, Int.reduceBEq, Int.reduceBNe, Int.reduceLT, Int.reduceLE, Int.reduceGT, Int.reduceGE, Int.reduceToNat]
    refine go2 n 0 _ _ rfl hn ?_ (Nat.le_refl n)
    unfold headW
    have : (b.drop n).headD 0 = c := hc
    rw [this, hpr]
    simp
end Go.Proofs.YtbepihadhmfklaaGreatDoor

set_option linter.unusedVariables false
set_option linter.unusedSimpArgs false
set_option maxRecDepth 100000
namespace Go.Proofs.YtbepihadhmfklaaGreatDoor
open Go Go.Ab
def ir_wirereaderrest : ICode :=
 (.seq
 (.reg [⟨some 2, none, .mov (.t 0)⟩,
 ⟨some 3, none, .mov (.t 0)⟩,
 ⟨some 4, none, .nck (.t 3)⟩,
 ⟨some 5, none, .fa 0 (.t 4)⟩,
 ⟨some 6, none, .call (.c (.fn (.func 104) [] [])) [(.t 5), (.c (.int .u8 32)), (.c (.int .u8 47))]⟩,
 ⟨some 7, none, .nck (.t 2)⟩,
 ⟨some 8, none, .fa 2 (.t 7)⟩,
 ⟨some 9, none, .fa 3 (.t 8)⟩,
 ⟨none, none, .st 1 (.t 9) (.t 6)⟩] (some [0]))
 (.reg [⟨some 10, none, .mov (.t 0)⟩,
 ⟨some 11, none, .mov (.t 0)⟩,
 ⟨some 12, none, .nck (.t 11)⟩,
 ⟨some 13, none, .fa 0 (.t 12)⟩,
 ⟨some 14, none, .call (.c (.fn (.func 100) [] [])) [(.t 13)]⟩,
 ⟨some 15, none, .nck (.t 10)⟩,
 ⟨some 16, none, .fa 2 (.t 15)⟩,
 ⟨some 17, none, .fa 4 (.t 16)⟩,
 ⟨none, none, .st 1 (.t 17) (.t 14)⟩] (some [])))
theorem is_wirereaderrest : IrOf Tryz.prog 103 18 ir_wirereaderrest [] := ⟨_, Tryz.func103, rfl, by kernel_rfl, by kernel_rfl, by kernel_rfl⟩

def ir_wirereaderread : ICode :=
 (.seq
 (.seq
 (.reg [⟨some 2, none, .mov (.t 0)⟩,
 ⟨some 3, none, .nck (.t 2)⟩,
 ⟨some 4, none, .fa 0 (.t 3)⟩,
 ⟨some 5, none, .call (.c (.fn (.func 100) [] [])) [(.t 4)]⟩,
 ⟨some 6, none, .bin .neq .none (.t 5) (.c (.int .u8 27))⟩] (some [0, 6]))
 (.cond (.t 6)
 .ret
 .skip))
 (.seq
 (.reg [⟨some 7, none, .mov (.t 0)⟩,
 ⟨some 8, none, .nck (.t 7)⟩,
 ⟨some 9, none, .fa 0 (.t 8)⟩,
 ⟨some 10, none, .call (.c (.fn (.func 101) [] [])) [(.t 9)]⟩] (some [0, 10]))
 (.blk 0
 (.seq
 (.reg [⟨some 18, none, .bin .eql .none (.t 10) (.c (.int .u8 91))⟩,
 ⟨some 17, none, .mov (.t 18)⟩] (some [0, 10, 17]))
 (.cond (.t 17)
 (.seq
 (.reg [⟨some 19, none, .mov (.t 0)⟩,
 ⟨some 20, none, .nck (.t 19)⟩,
 ⟨some 21, none, .fa 2 (.t 20)⟩,
 ⟨some 22, none, .fa 0 (.t 21)⟩,
 ⟨none, none, .st 1 (.t 22) (.c (.int .i64 1))⟩] (some [0]))
 (.seq
 (.reg [⟨some 23, none, .mov (.t 0)⟩,
 ⟨some 24, none, .nck (.t 23)⟩,
 ⟨some 25, none, .fa 0 (.t 24)⟩,
 ⟨some 26, none, .fa 1 (.t 25)⟩,
 ⟨some 27, none, .ld none (.t 26)⟩,
 ⟨some 28, none, .bin .add .none (.t 27) (.c (.int .i64 1))⟩,
 ⟨some 29, none, .nck (.t 23)⟩,
 ⟨some 30, none, .fa 0 (.t 29)⟩,
 ⟨some 31, none, .fa 1 (.t 30)⟩,
 ⟨none, none, .st 1 (.t 31) (.t 28)⟩] (some [0]))
 (.seq
 (.reg [⟨some 32, none, .mov (.t 0)⟩,
 ⟨some 33, none, .call (.c (.fn (.func 102) [] [])) [(.t 32)]⟩] (some [0]))
 (.reg [⟨some 34, none, .mov (.t 0)⟩,
 ⟨some 35, none, .call (.c (.fn (.func 103) [] [])) [(.t 34)]⟩] (some [])))))
 (.seq
 (.reg [⟨some 37, none, .bin .eql .none (.t 10) (.c (.int .u8 79))⟩,
 ⟨some 36, none, .mov (.t 37)⟩] (some [0, 10, 36]))
 (.cond (.t 36)
 (.seq
 (.reg [⟨some 38, none, .mov (.t 0)⟩,
 ⟨some 39, none, .nck (.t 38)⟩,
 ⟨some 40, none, .fa 2 (.t 39)⟩,
 ⟨some 41, none, .fa 0 (.t 40)⟩,
 ⟨none, none, .st 1 (.t 41) (.c (.int .i64 2))⟩] (some [0]))
 (.seq
 (.reg [⟨some 42, none, .mov (.t 0)⟩,
 ⟨some 43, none, .nck (.t 42)⟩,
 ⟨some 44, none, .fa 0 (.t 43)⟩,
 ⟨some 45, none, .fa 1 (.t 44)⟩,
 ⟨some 46, none, .ld none (.t 45)⟩,
 ⟨some 47, none, .bin .add .none (.t 46) (.c (.int .i64 1))⟩,
 ⟨some 48, none, .nck (.t 42)⟩,
 ⟨some 49, none, .fa 0 (.t 48)⟩,
 ⟨some 50, none, .fa 1 (.t 49)⟩,
 ⟨none, none, .st 1 (.t 50) (.t 47)⟩] (some [0]))
 (.reg [⟨some 51, none, .mov (.t 0)⟩,
 ⟨some 52, none, .mov (.t 0)⟩,
 ⟨some 53, none, .nck (.t 52)⟩,
 ⟨some 54, none, .fa 0 (.t 53)⟩,
 ⟨some 55, none, .call (.c (.fn (.func 100) [] [])) [(.t 54)]⟩,
 ⟨some 56, none, .nck (.t 51)⟩,
 ⟨some 57, none, .fa 2 (.t 56)⟩,
 ⟨some 58, none, .fa 4 (.t 57)⟩,
 ⟨none, none, .st 1 (.t 58) (.t 55)⟩] (some []))))
 (.seq
 (.reg [⟨some 60, none, .bin .eql .none (.t 10) (.c (.int .u8 80))⟩,
 ⟨some 59, none, .mov (.t 60)⟩] (some [0, 10, 59]))
 (.cond (.t 59)
 (.seq
 (.reg [⟨some 61, none, .mov (.t 0)⟩,
 ⟨some 62, none, .nck (.t 61)⟩,
 ⟨some 63, none, .fa 2 (.t 62)⟩,
 ⟨some 64, none, .fa 0 (.t 63)⟩,
 ⟨none, none, .st 1 (.t 64) (.c (.int .i64 3))⟩] (some [0]))
 (.seq
 (.reg [⟨some 65, none, .mov (.t 0)⟩,
 ⟨some 66, none, .nck (.t 65)⟩,
 ⟨some 67, none, .fa 0 (.t 66)⟩,
 ⟨some 68, none, .fa 1 (.t 67)⟩,
 ⟨some 69, none, .ld none (.t 68)⟩,
 ⟨some 70, none, .bin .add .none (.t 69) (.c (.int .i64 1))⟩,
 ⟨some 71, none, .nck (.t 65)⟩,
 ⟨some 72, none, .fa 0 (.t 71)⟩,
 ⟨some 73, none, .fa 1 (.t 72)⟩,
 ⟨none, none, .st 1 (.t 73) (.t 70)⟩] (some [0]))
 (.seq
 (.reg [⟨some 74, none, .mov (.t 0)⟩,
 ⟨some 75, none, .call (.c (.fn (.func 102) [] [])) [(.t 74)]⟩] (some [0]))
 (.seq
 (.reg [⟨some 76, none, .mov (.t 0)⟩,
 ⟨some 77, none, .call (.c (.fn (.func 103) [] [])) [(.t 76)]⟩] (some [0]))
 (.seq
 (.reg [⟨some 78, none, .mov (.t 0)⟩,
 ⟨some 79, none, .mov (.t 0)⟩,
 ⟨some 80, none, .nck (.t 79)⟩,
 ⟨some 81, none, .fa 0 (.t 80)⟩,
 ⟨some 82, none, .call (.c (.fn (.func 104) [] [])) [(.t 81), (.c (.int .u8 32)), (.c (.int .u8 126))]⟩,
 ⟨some 83, none, .nck (.t 78)⟩,
 ⟨some 84, none, .fa 2 (.t 83)⟩,
 ⟨some 85, none, .fa 5 (.t 84)⟩,
 ⟨none, none, .st 1 (.t 85) (.t 82)⟩] (some [0]))
 (.reg [⟨some 86, none, .mov (.t 0)⟩,
 ⟨some 87, none, .nck (.t 86)⟩,
 ⟨some 88, none, .fa 0 (.t 87)⟩,
 ⟨some 89, none, .fa 1 (.t 88)⟩,
 ⟨some 90, none, .ld none (.t 89)⟩,
 ⟨some 91, none, .bin .add .none (.t 90) (.c (.int .i64 2))⟩,
 ⟨some 92, none, .nck (.t 86)⟩,
 ⟨some 93, none, .fa 0 (.t 92)⟩,
 ⟨some 94, none, .fa 1 (.t 93)⟩,
 ⟨none, none, .st 1 (.t 94) (.t 91)⟩] (some [])))))))
 (.seq
 (.reg [⟨some 96, none, .bin .eql .none (.t 10) (.c (.int .u8 93))⟩,
 ⟨some 95, none, .mov (.t 96)⟩] (some [0, 95]))
 (.cond (.t 95)
 (.seq
 (.reg [⟨some 97, none, .mov (.t 0)⟩,
 ⟨some 98, none, .nck (.t 97)⟩,
 ⟨some 99, none, .fa 2 (.t 98)⟩,
 ⟨some 100, none, .fa 0 (.t 99)⟩,
 ⟨none, none, .st 1 (.t 100) (.c (.int .i64 4))⟩] (some [0]))
 (.seq
 (.reg [⟨some 101, none, .mov (.t 0)⟩,
 ⟨some 102, none, .nck (.t 101)⟩,
 ⟨some 103, none, .fa 0 (.t 102)⟩,
 ⟨some 104, none, .fa 1 (.t 103)⟩,
 ⟨some 105, none, .ld none (.t 104)⟩,
 ⟨some 106, none, .bin .add .none (.t 105) (.c (.int .i64 1))⟩,
 ⟨some 107, none, .nck (.t 101)⟩,
 ⟨some 108, none, .fa 0 (.t 107)⟩,
 ⟨some 109, none, .fa 1 (.t 108)⟩,
 ⟨none, none, .st 1 (.t 109) (.t 106)⟩] (some [0]))
 (.seq
 (.reg [⟨some 110, none, .mov (.t 0)⟩,
 ⟨some 111, none, .mov (.t 0)⟩,
 ⟨some 112, none, .nck (.t 111)⟩,
 ⟨some 113, none, .fa 0 (.t 112)⟩,
 ⟨some 114, none, .call (.c (.fn (.func 104) [] [])) [(.t 113), (.c (.int .u8 32)), (.c (.int .u8 126))]⟩,
 ⟨some 115, none, .nck (.t 110)⟩,
 ⟨some 116, none, .fa 2 (.t 115)⟩,
 ⟨some 117, none, .fa 5 (.t 116)⟩,
 ⟨none, none, .st 1 (.t 117) (.t 114)⟩] (some [0]))
 (.reg [⟨some 118, none, .mov (.t 0)⟩,
 ⟨some 119, none, .nck (.t 118)⟩,
 ⟨some 120, none, .fa 0 (.t 119)⟩,
 ⟨some 121, none, .fa 1 (.t 120)⟩,
 ⟨some 122, none, .ld none (.t 121)⟩,
 ⟨some 123, none, .bin .add .none (.t 122) (.c (.int .i64 2))⟩,
 ⟨some 124, none, .nck (.t 118)⟩,
 ⟨some 125, none, .fa 0 (.t 124)⟩,
 ⟨some 126, none, .fa 1 (.t 125)⟩,
 ⟨none, none, .st 1 (.t 126) (.t 123)⟩] (some [])))))
 (.seq
 (.reg [⟨some 11, none, .mov (.t 0)⟩,
 ⟨some 12, none, .nck (.t 11)⟩,
 ⟨some 13, none, .fa 2 (.t 12)⟩,
 ⟨some 14, none, .fa 0 (.t 13)⟩,
 ⟨none, none, .st 1 (.t 14) (.c (.int .i64 5))⟩] (some [0]))
 (.reg [⟨some 15, none, .mov (.t 0)⟩,
 ⟨some 16, none, .call (.c (.fn (.func 103) [] [])) [(.t 15)]⟩] (some []))))))))))))))
theorem is_wirereaderread : IrOf Tryz.prog 52 127 ir_wirereaderread [] := ⟨_, Tryz.func52, rfl, by kernel_rfl, by kernel_rfl, by kernel_rfl⟩


theorem peek_drop {b : List UInt8} {n k : Nat} : ((b.drop n).drop k).headD 0 = peekW b (n + k) := by unfold peekW; rw [List.drop_drop]
theorem headW_le (l : List UInt8) : (headW l).2.2 ≤ l.length := by
  unfold headW
  simp only
  split
  · rename_i h
    have h1 := runL_le 48 59 (l.drop 1)
    rw [List.length_drop] at h1
    cases l with
    | nil => simp [isPr] at h
    | cons c l => simp only [List.length_cons] at h1 ⊢; omega
  · have h1 := runL_le 48 59 (l.drop 0)
    rw [List.drop_zero] at h1 ⊢
    omega
theorem fs_wRest {Gl : Gh → Prop} (hst : Stays Gl) {p : Nm} (hp : 1 ≤ p.1) {b : List UInt8} {n : Nat} {s : Sq} (hn : n ≤ b.length) (hb : b.length ≤ 4000000000) :
    FS Tryz.prog Gl 103 [.ptr p 0] [(p, .cells (rdC b n s))] [] (.tup []) [(p, .cells (rdC b (n + (restW (b.drop n)).2.2) { s with it := (restW (b.drop n)).1, fi := (restW (b.drop n)).2.1 }))] [] := by
  refine FS.of hm hst is_wirereaderrest (by simp) fun γ hγ hfr => ?_
  have c1 : FS Tryz.prog Gl 104 [.ptr p 0, .int .u8 32, .int .u8 47] [(p, .cells (rdC b n s))] [] (.str (runL 32 47 (b.drop n))) [(p, .cells (rdC b (n + (runL 32 47 (b.drop n)).length) s))] [] := fs_run hst hp (x := 32) (y := 47) hn (by omega)
  have hle := runL_le 32 47 (b.drop n)
  rw [List.length_drop] at hle
  have hw : restW (b.drop n) = (runL 32 47 (b.drop n), ((peekW b (n + (runL 32 47 (b.drop n)).length)).toNat : Int), (runL 32 47 (b.drop n)).length + 1) := by
    unfold restW; simp only [peek_drop]
  rw [hw]
  generalize runL 32 47 (b.drop n) = t at c1 hle
  have c2 := fs_next (Gl := Gl) hst hp (b := b) (n := n + t.length) (s := { s with it := t }) (by omega)
  (generalize hQ : (fun (ex : Ex) (_ _ : Nat) (s : St) => _) = Q; unfold ir_wirereaderrest)
  simp only [rdC]
  simp +contextual (maxSteps := 1000000) only [go_sem, reduceCtorEq, ↓reduceIte, Nat.reduceAdd, Nat.reduceEqDiff, Nat.reduceLeDiff, Nat.reduceMul, Nat.reduceBEq, Int.reduceBEq, Int.reduceBNe, Int.reduceLT, Int.reduceLE, Int.reduceGT, Int.reduceGE, Int.reduceToNat]
  refine CallP.rdX (Ha := []) c1 hp rfl (by simp) (by simp [rdC]) ?_
  simp only [rdC]
  simp +contextual (maxSteps := 1000000) only [go_sem, reduceCtorEq, ↓reduceIte, Nat.reduceAdd, Nat.reduceEqDiff, Nat.reduceLeDiff, Nat.reduceMul, Nat.reduceBEq, Int.reduceBEq, Int.reduceBNe, Int.reduceLT, Int.reduceLE, Int.reduceGT, Int.reduceGE, Int.reduceToNat]
  refine CallP.rdX (Ha := []) c2 hp rfl (by simp) (by simp [rdC]) ?_
  simp only [rdC]
  simp +contextual (maxSteps := 1000000) only [go_sem, reduceCtorEq, ↓reduceIte, Nat.reduceAdd, Nat.reduceEqDiff, Nat.reduceLeDiff, Nat.reduceMul, Nat.reduceBEq, Int.reduceBEq, Int.reduceBNe, Int.reduceLT, Int.reduceLE, Int.reduceGT, Int.reduceGE, Int.reduceToNat]
  rw [← hQ]
  exact ⟨trivial, Ret.rd rfl rfl hp (by simp [rdC, Nat.add_assoc])⟩

def dcsOk (b : List UInt8) : Prop := b.headD 0 = 27 → (b.drop 1).headD 0 = 80 → 2 + (headW (b.drop 2)).2.2 + (restW (b.drop (2 + (headW (b.drop 2)).2.2))).2.2 ≤ b.length
theorem u8_eq {c : UInt8} {k : Nat} (hk : k < 256) : ((c.toNat : Int) == (k : Int)) = decide (c = UInt8.ofNat k) := by
  rw [Bool.eq_iff_iff, beq_iff_eq, decide_eq_true_eq]
  constructor
  · intro h
    have h : c.toNat = k := by omega
    rw [← h, UInt8.ofNat_toNat]
  · rintro rfl
    rw [UInt8.toNat_ofNat', Nat.mod_eq_of_lt hk]
theorem u8_ne {c : UInt8} {k : Nat} (hk : k < 256) : ((c.toNat : Int) != (k : Int)) = !decide (c = UInt8.ofNat k) := by
  rw [bne, u8_eq hk]
set_option maxHeartbeats 4000000 in
theorem fs_wRead {Gl : Gh → Prop} (hst : Stays Gl) {p : Nm} (hp : 1 ≤ p.1) {b : List UInt8} (hb : b.length ≤ 4000000000) (hd : dcsOk b) :
    FS Tryz.prog Gl 52 [.ptr p 0] [(p, .cells (rdC b 0 zeroSq))] [] (.tup []) [(p, .cells (rdC b (readW b).2 (readW b).1))] [] := by
  refine FS.of hm hst is_wirereaderread (by simp) fun γ hγ hfr => ?_
  have w2 : IntKind.i64.wrap 2 = 2 := by decide
  (generalize hQ : (fun (ex : Ex) (_ _ : Nat) (s : St) => _) = Q; unfold ir_wirereaderread)
  simp +contextual (maxSteps := 1000000) only [go_sem, reduceCtorEq, ↓reduceIte, Nat.reduceAdd, Nat.reduceEqDiff, Nat.reduceLeDiff, Nat.reduceMul, Nat.reduceBEq, Int.reduceBEq, Int.reduceBNe, Int.reduceLT, Int.reduceLE, Int.reduceGT, Int.reduceGE, Int.reduceToNat]
  refine CallP.rdX (Ha := []) (fs_next (b := b) (n := 0) (s := zeroSq) hst hp (by omega)) hp rfl (by simp) (by simp) ?_
  have hpk : peekW b 0 = b.headD 0 := by unfold peekW; rw [List.drop_zero]
  rw [hpk]
  have n1 : (((b.headD 0).toNat : Int) != 27) = !decide (b.headD 0 = 27) := u8_ne (k := 27) (by omega)
  by_cases h27 : b.headD 0 = 27
  · have n1 : (((b.headD 0).toNat : Int) != 27) = false := by rw [n1, decide_eq_true h27]; rfl
    have hl1 : 1 ≤ b.length := by
      cases b with
      | nil => simp at h27
      | cons c l => simp
    simp +contextual (maxSteps := 1000000) only [n1, go_sem, reduceCtorEq, ↓reduceIte, Nat.reduceAdd, Nat.reduceEqDiff, Nat.reduceLeDiff, Nat.reduceMul, Nat.reduceBEq, Int.reduceBEq, Int.reduceBNe, Int.reduceLT, Int.reduceLE, Int.reduceGT, Int.reduceGE, Int.reduceToNat]
    refine CallP.rdX (Ha := []) (fs_peek (b := b) (n := 1) (s := zeroSq) hst hp) hp rfl (by simp) (by simp) ?_
    have hpk1 : peekW b 1 = (b.drop 1).headD 0 := rfl
    rw [hpk1]
    generalize hc : (b.drop 1).headD 0 = c
    have k2 : c ≠ 0 → 2 ≤ b.length := fun h => by
      rcases Nat.lt_or_ge 1 b.length with h' | h'
      · omega
      · rw [List.drop_eq_nil_of_le (by omega)] at hc
        exact absurd hc.symm h
    have g1 : ((c.toNat : Int) == 91) = decide (c = 91) := u8_eq (k := 91) (by omega)
    have g2 : ((c.toNat : Int) == 79) = decide (c = 79) := u8_eq (k := 79) (by omega)
    have g3 : ((c.toNat : Int) == 80) = decide (c = 80) := u8_eq (k := 80) (by omega)
    have g4 : ((c.toNat : Int) == 93) = decide (c = 93) := u8_eq (k := 93) (by omega)
    have hz : zeroSq = ⟨0, 0, [], [], 0, []⟩ := rfl
    have hl2 := headW_le (b.drop 2)
    rw [List.length_drop] at hl2
    have hrd : readW b = (if c = 91 then
        (⟨1, (headW (b.drop 2)).1, (headW (b.drop 2)).2.1, (restW (b.drop (2 + (headW (b.drop 2)).2.2))).1, (restW (b.drop (2 + (headW (b.drop 2)).2.2))).2.1, []⟩, 2 + (headW (b.drop 2)).2.2 + (restW (b.drop (2 + (headW (b.drop 2)).2.2))).2.2)
      else if c = 79 then (⟨2, 0, [], [], ((b.drop 2).headD 0).toNat, []⟩, 3)
      else if c = 80 then
        (⟨3, (headW (b.drop 2)).1, (headW (b.drop 2)).2.1, (restW (b.drop (2 + (headW (b.drop 2)).2.2))).1, (restW (b.drop (2 + (headW (b.drop 2)).2.2))).2.1, runL 32 126 (b.drop (2 + (headW (b.drop 2)).2.2 + (restW (b.drop (2 + (headW (b.drop 2)).2.2))).2.2))⟩, 2 + (headW (b.drop 2)).2.2 + (restW (b.drop (2 + (headW (b.drop 2)).2.2))).2.2 + (runL 32 126 (b.drop (2 + (headW (b.drop 2)).2.2 + (restW (b.drop (2 + (headW (b.drop 2)).2.2))).2.2))).length + 2)
      else if c = 93 then (⟨4, 0, [], [], 0, runL 32 126 (b.drop 2)⟩, 2 + (runL 32 126 (b.drop 2)).length + 2)
      else (⟨5, 0, [], (restW (b.drop 1)).1, (restW (b.drop 1)).2.1, []⟩, 1 + (restW (b.drop 1)).2.2)) := by
      unfold readW
      rw [if_neg (not_not_intro h27)]
      simp only [hc]
    have cp : ∀ k, 2 ≤ b.length → FS Tryz.prog Gl 102 [.ptr p 0] [(p, .cells (rdC b 2 ⟨k, 0, [], [], 0, []⟩))] [] (.tup []) [(p, .cells (rdC b (2 + (headW (b.drop 2)).2.2) ⟨k, (headW (b.drop 2)).1, (headW (b.drop 2)).2.1, [], 0, []⟩))] [] := fun k h => fs_wParams hst hp (s := ⟨k, 0, [], [], 0, []⟩) h hb rfl rfl
    have cq : ∀ k, 2 ≤ b.length → FS Tryz.prog Gl 103 [.ptr p 0] [(p, .cells (rdC b (2 + (headW (b.drop 2)).2.2) ⟨k, (headW (b.drop 2)).1, (headW (b.drop 2)).2.1, [], 0, []⟩))] [] (.tup []) [(p, .cells (rdC b (2 + (headW (b.drop 2)).2.2 + (restW (b.drop (2 + (headW (b.drop 2)).2.2))).2.2) ⟨k, (headW (b.drop 2)).1, (headW (b.drop 2)).2.1, (restW (b.drop (2 + (headW (b.drop 2)).2.2))).1, (restW (b.drop (2 + (headW (b.drop 2)).2.2))).2.1, []⟩))] [] := fun k h => fs_wRest hst hp (s := ⟨k, (headW (b.drop 2)).1, (headW (b.drop 2)).2.1, [], 0, []⟩) (by omega) hb
    simp only [rdC, hz]
    by_cases e1 : c = 91
    · have g1 : ((c.toNat : Int) == 91) = true := by rw [g1]; exact decide_eq_true e1
      rw [if_pos e1] at hrd
      have h2 := k2 (by rw [e1]; decide)
      simp +contextual (maxSteps := 1000000) only [g1, w2, go_sem, reduceCtorEq, ↓reduceIte, Nat.reduceAdd, Nat.reduceEqDiff, Nat.reduceLeDiff, Nat.reduceMul, Nat.reduceBEq, Int.reduceBEq, Int.reduceBNe, Int.reduceLT, Int.reduceLE, Int.reduceGT, Int.reduceGE, Int.reduceToNat]
      refine CallP.rdX (Ha := []) (cp 1 h2) hp rfl (by simp) (by simp [rdC, pw, w2]) ?_
      simp +contextual (maxSteps := 1000000) only [go_sem, reduceCtorEq, ↓reduceIte, Nat.reduceAdd, Nat.reduceEqDiff, Nat.reduceLeDiff, Nat.reduceMul, Nat.reduceBEq, Int.reduceBEq, Int.reduceBNe, Int.reduceLT, Int.reduceLE, Int.reduceGT, Int.reduceGE, Int.reduceToNat]
      refine CallP.rdX (Ha := []) (cq 1 h2) hp rfl (by simp) (by simp) ?_
      simp +contextual (maxSteps := 1000000) only [go_sem, reduceCtorEq, ↓reduceIte, Nat.reduceAdd, Nat.reduceEqDiff, Nat.reduceLeDiff, Nat.reduceMul, Nat.reduceBEq, Int.reduceBEq, Int.reduceBNe, Int.reduceLT, Int.reduceLE, Int.reduceGT, Int.reduceGE, Int.reduceToNat]
      rw [← hQ, hrd]
      exact ⟨trivial, Ret.rd rfl rfl hp (by simp)⟩
    · have g1 : ((c.toNat : Int) == 91) = false := by rw [g1]; exact decide_eq_false e1
      rw [if_neg e1] at hrd
      by_cases e2 : c = 79
      · have g2 : ((c.toNat : Int) == 79) = true := by rw [g2]; exact decide_eq_true e2
        rw [if_pos e2] at hrd
        simp +contextual (maxSteps := 1000000) only [g1, g2, w2, go_sem, reduceCtorEq, ↓reduceIte, Nat.reduceAdd, Nat.reduceEqDiff, Nat.reduceLeDiff, Nat.reduceMul, Nat.reduceBEq, Int.reduceBEq, Int.reduceBNe, Int.reduceLT, Int.reduceLE, Int.reduceGT, Int.reduceGE, Int.reduceToNat]
        refine CallP.rdX (Ha := []) (fs_next hst hp (b := b) (n := 2) (s := ⟨2, 0, [], [], 0, []⟩) (by omega)) hp rfl (by simp) (by simp [rdC, pw, w2]) ?_
        simp only [rdC]
        simp +contextual (maxSteps := 1000000) only [go_sem, reduceCtorEq, ↓reduceIte, Nat.reduceAdd, Nat.reduceEqDiff, Nat.reduceLeDiff, Nat.reduceMul, Nat.reduceBEq, Int.reduceBEq, Int.reduceBNe, Int.reduceLT, Int.reduceLE, Int.reduceGT, Int.reduceGE, Int.reduceToNat]
        rw [← hQ, hrd]
        exact ⟨trivial, Ret.rd rfl rfl hp (by simp [rdC, peekW])⟩
      · have g2 : ((c.toNat : Int) == 79) = false := by rw [g2]; exact decide_eq_false e2
        rw [if_neg e2] at hrd
        by_cases e3 : c = 80
        · have g3 : ((c.toNat : Int) == 80) = true := by rw [g3]; exact decide_eq_true e3
          rw [if_pos e3] at hrd
          have h2 := k2 (by rw [e3]; decide)
          have hdd := hd h27 (by rw [hc]; exact e3)
          simp +contextual (maxSteps := 1000000) only [g1, g2, g3, w2, go_sem, reduceCtorEq, ↓reduceIte, Nat.reduceAdd, Nat.reduceEqDiff, Nat.reduceLeDiff, Nat.reduceMul, Nat.reduceBEq, Int.reduceBEq, Int.reduceBNe, Int.reduceLT, Int.reduceLE, Int.reduceGT, Int.reduceGE, Int.reduceToNat]
          refine CallP.rdX (Ha := []) (cp 3 h2) hp rfl (by simp) (by simp [rdC, pw, w2]) ?_
          simp +contextual (maxSteps := 1000000) only [go_sem, reduceCtorEq, ↓reduceIte, Nat.reduceAdd, Nat.reduceEqDiff, Nat.reduceLeDiff, Nat.reduceMul, Nat.reduceBEq, Int.reduceBEq, Int.reduceBNe, Int.reduceLT, Int.reduceLE, Int.reduceGT, Int.reduceGE, Int.reduceToNat]
          refine CallP.rdX (Ha := []) (cq 3 h2) hp rfl (by simp) (by simp) ?_
          generalize 2 + (headW (b.drop 2)).2.2 + (restW (b.drop (2 + (headW (b.drop 2)).2.2))).2.2 = n at hdd hrd ⊢
          have cr : ∀ s, FS Tryz.prog Gl 104 [.ptr p 0, .int .u8 32, .int .u8 126] [(p, .cells (rdC b n s))] [] (.str (runL 32 126 (b.drop n))) [(p, .cells (rdC b (n + (runL 32 126 (b.drop n)).length) s))] [] := fun s => fs_run hst hp (x := 32) (y := 126) hdd (by omega)
          have hrl := runL_le 32 126 (b.drop n)
          rw [List.length_drop] at hrl
          have hw : IntKind.i64.wrap (((n + (runL 32 126 (b.drop n)).length : Nat) : Int) + 2) = ((n + (runL 32 126 (b.drop n)).length + 2 : Nat) : Int) := by rw [IntKind.wrap_i64]; omega
          generalize runL 32 126 (b.drop n) = dt at cr hrl hw hrd
          simp +contextual (maxSteps := 1000000) only [go_sem, reduceCtorEq, ↓reduceIte, Nat.reduceAdd, Nat.reduceEqDiff, Nat.reduceLeDiff, Nat.reduceMul, Nat.reduceBEq, Int.reduceBEq, Int.reduceBNe, Int.reduceLT, Int.reduceLE, Int.reduceGT, Int.reduceGE, Int.reduceToNat]
          refine CallP.rdX (Ha := []) (cr ⟨3, (headW (b.drop 2)).1, (headW (b.drop 2)).2.1, (restW (b.drop (2 + (headW (b.drop 2)).2.2))).1, (restW (b.drop (2 + (headW (b.drop 2)).2.2))).2.1, []⟩) hp rfl (by simp) (by simp) ?_
          simp only [rdC]
          simp +contextual (maxSteps := 1000000) only [hw, go_sem, reduceCtorEq, ↓reduceIte, Nat.reduceAdd, Nat.reduceEqDiff, Nat.reduceLeDiff, Nat.reduceMul, Nat.reduceBEq, Int.reduceBEq, Int.reduceBNe, Int.reduceLT, Int.reduceLE, Int.reduceGT, Int.reduceGE, Int.reduceToNat]
          rw [← hQ, hrd]
          exact ⟨trivial, Ret.rd rfl rfl hp (by simp [rdC])⟩
        · have g3 : ((c.toNat : Int) == 80) = false := by rw [g3]; exact decide_eq_false e3
          rw [if_neg e3] at hrd
          by_cases e4 : c = 93
          · have g4 : ((c.toNat : Int) == 93) = true := by rw [g4]; exact decide_eq_true e4
            rw [if_pos e4] at hrd
            have h2 := k2 (by rw [e4]; decide)
            have cr : ∀ s, FS Tryz.prog Gl 104 [.ptr p 0, .int .u8 32, .int .u8 126] [(p, .cells (rdC b 2 s))] [] (.str (runL 32 126 (b.drop 2))) [(p, .cells (rdC b (2 + (runL 32 126 (b.drop 2)).length) s))] [] := fun s => fs_run hst hp (x := 32) (y := 126) h2 (by omega)
            have hrl := runL_le 32 126 (b.drop 2)
            rw [List.length_drop] at hrl
            have hw : IntKind.i64.wrap (((2 + (runL 32 126 (b.drop 2)).length : Nat) : Int) + 2) = ((2 + (runL 32 126 (b.drop 2)).length + 2 : Nat) : Int) := by rw [IntKind.wrap_i64]; omega
            generalize runL 32 126 (b.drop 2) = dt at cr hrl hw hrd
            simp +contextual (maxSteps := 1000000) only [g1, g2, g3, g4, w2, go_sem, reduceCtorEq, ↓reduceIte, Nat.reduceAdd, Nat.reduceEqDiff, Nat.reduceLeDiff, Nat.reduceMul, Nat.reduceBEq, Int.reduceBEq, Int.reduceBNe, Int.reduceLT, Int.reduceLE, Int.reduceGT, Int.reduceGE, Int.reduceToNat]
            refine CallP.rdX (Ha := []) (cr ⟨4, 0, [], [], 0, []⟩) hp rfl (by simp) (by simp [rdC, pw, w2]) ?_
            simp only [rdC]
            simp +contextual (maxSteps := 1000000) only [hw, go_sem, reduceCtorEq, ↓reduceIte, Nat.reduceAdd, Nat.reduceEqDiff, Nat.reduceLeDiff, Nat.reduceMul, Nat.reduceBEq, Int.reduceBEq, Int.reduceBNe, Int.reduceLT, Int.reduceLE, Int.reduceGT, Int.reduceGE, Int.reduceToNat]
            rw [← hQ, hrd]
            exact ⟨trivial, Ret.rd rfl rfl hp (by simp [rdC])⟩
          · have g4 : ((c.toNat : Int) == 93) = false := by rw [g4]; exact decide_eq_false e4
            rw [if_neg e4] at hrd
            simp +contextual (maxSteps := 1000000) only [g1, g2, g3, g4, go_sem, reduceCtorEq, ↓reduceIte, Nat.reduceAdd, Nat.reduceEqDiff, Nat.reduceLeDiff, Nat.reduceMul, Nat.reduceBEq, Int.reduceBEq, Int.reduceBNe, Int.reduceLT, Int.reduceLE, Int.reduceGT, Int.reduceGE, Int.reduceToNat]
            refine CallP.rdX (Ha := []) (fs_wRest hst hp (b := b) (n := 1) (s := ⟨5, 0, [], [], 0, []⟩) hl1 hb) hp rfl (by simp) (by simp [rdC, pw, w2]) ?_
            simp +contextual (maxSteps := 1000000) only [go_sem, reduceCtorEq, ↓reduceIte, Nat.reduceAdd, Nat.reduceEqDiff, Nat.reduceLeDiff, Nat.reduceMul, Nat.reduceBEq, Int.reduceBEq, Int.reduceBNe, Int.reduceLT, Int.reduceLE, Int.reduceGT, Int.reduceGE, Int.reduceToNat]
            rw [← hQ, hrd]
            exact ⟨trivial, Ret.rd rfl rfl hp (by simp)⟩
  · have n1 : (((b.headD 0).toNat : Int) != 27) = true := by rw [n1, decide_eq_false h27]; rfl
    simp +contextual (maxSteps := 1000000) only [n1, go_sem, reduceCtorEq, ↓reduceIte, Nat.reduceAdd, Nat.reduceEqDiff, Nat.reduceLeDiff, Nat.reduceMul, Nat.reduceBEq, Int.reduceBEq, Int.reduceBNe, Int.reduceLT, Int.reduceLE, Int.reduceGT, Int.reduceGE, Int.reduceToNat]
    rw [← hQ]
    refine ⟨trivial, Ret.rd rfl rfl hp ?_⟩
    unfold readW
    rw [if_pos h27]
    exact List.mem_singleton.2 rfl
end Go.Proofs.YtbepihadhmfklaaGreatDoor

set_option linter.unusedVariables false
set_option linter.unusedSimpArgs false
set_option maxRecDepth 100000
namespace Go.Proofs.YtbepihadhmfklaaGreatDoor
open Go Go.Ab
def ir_bytesEqual : ICode :=
 (.seq
 (.reg [⟨some 4, none, .mov (.c (.bool false))⟩] (some [0, 1]))
 (.seq
 (.reg [⟨some 5, none, .mov (.t 0)⟩,
 ⟨some 6, none, .b2s (.t 5)⟩,
 ⟨some 7, none, .mov (.t 1)⟩,
 ⟨some 8, none, .b2s (.t 7)⟩,
 ⟨some 9, none, .bin .eql .none (.t 6) (.t 8)⟩,
 ⟨some 4, none, .mov (.t 9)⟩] (some [4]))
 .ret))
theorem is_bytesEqual : IrOf Tryz.prog 105 10 ir_bytesEqual [.t 4] := ⟨_, Tryz.func105, rfl, by kernel_rfl, by kernel_rfl, by kernel_rfl⟩

def ir_bytesHasPrefix : ICode :=
 (.seq
 (.reg [⟨some 4, none, .mov (.c (.bool false))⟩] (some [0, 1]))
 (.seq
 (.reg [⟨some 5, none, .mov (.t 0)⟩,
 ⟨some 6, none, .len (.t 5)⟩,
 ⟨some 7, none, .mov (.t 1)⟩,
 ⟨some 8, none, .len (.t 7)⟩,
 ⟨some 9, none, .bin .geq .none (.t 6) (.t 8)⟩,
 ⟨some 10, none, .mov (.t 9)⟩,
 ⟨some 11, some (10, true), .mov (.t 0)⟩,
 ⟨some 12, some (10, true), .mov (.t 1)⟩,
 ⟨some 13, some (10, true), .len (.t 12)⟩,
 ⟨some 14, some (10, true), .sll 1 (.t 11) none (some (.t 13)) none⟩,
 ⟨some 15, some (10, true), .mov (.t 1)⟩,
 ⟨some 16, some (10, true), .call (.c (.fn (.func 105) [] [])) [(.t 14), (.t 15)]⟩,
 ⟨some 17, none, .pick (.t 10) (.t 16) (.c (.bool false))⟩,
 ⟨some 4, none, .mov (.t 17)⟩] (some [4]))
 .ret))
theorem is_bytesHasPrefix : IrOf Tryz.prog 53 18 ir_bytesHasPrefix [.t 4] := ⟨_, Tryz.func53, rfl, by kernel_rfl, by kernel_rfl, by kernel_rfl⟩

def ir_wireTake : ICode :=
 (.seq
 (.reg [⟨some 2, none, .box 47 (.c (.agg [(.int .i64 0), (.int .u8 0), .nils, (.str []), (.int .u8 0), (.str [])]))⟩,
 ⟨some 3, none, .mov (.c (.int .i64 0))⟩,
 ⟨some 4, none, .mov (.c (.int .i64 0))⟩] (some [0, 2]))
 (.seq
 (.reg [⟨some 8, none, .mov (.t 0)⟩,
 ⟨some 9, none, .bld [.nils, (.int .i64 0)] [(0, 1, (.t 8))]⟩,
 ⟨some 10, none, .bld [.nils, (.int .i64 0), (.int .i64 0), (.int .u8 0), .nils, (.str []), (.int .u8 0), (.str [])] [(0, 2, (.t 9))]⟩,
 ⟨some 5, none, .box 77 (.c (.agg [.nils, (.int .i64 0), (.int .i64 0), (.int .u8 0), .nils, (.str []), (.int .u8 0), (.str [])]))⟩,
 ⟨none, none, .st 8 (.t 5) (.t 10)⟩] (some [0, 2, 5]))
 (.seq
 (.reg [⟨some 11, none, .call (.c (.fn (.func 52) [] [])) [(.t 5)]⟩] (some [0, 2, 5]))
 (.seq
 (.reg [⟨some 13, none, .fa 2 (.t 5)⟩,
 ⟨some 14, none, .ld (some 6) (.t 13)⟩,
 ⟨some 15, none, .call (.c (.fn (.func 40) [] [])) [(.t 14)]⟩,
 ⟨some 12, none, .mov (.t 15)⟩,
 ⟨some 16, none, .ext (.t 12) 0⟩,
 ⟨some 17, none, .ext (.t 12) 1⟩,
 ⟨some 6, none, .mov (.t 16)⟩,
 ⟨some 7, none, .mov (.t 17)⟩] (some [0, 2, 5, 6, 7]))
 (.seq
 (.seq
 (.reg [⟨some 18, none, .mov (.t 7)⟩,
 ⟨some 19, none, .bin .neq .none (.t 18) (.c (.int .i64 0))⟩,
 ⟨some 20, none, .mov (.t 19)⟩,
 ⟨some 21, some (20, false), .mov (.t 0)⟩,
 ⟨some 22, some (20, false), .mov (.t 6)⟩,
 ⟨some 23, some (20, false), .call (.c (.fn (.func 53) [] [])) [(.t 21), (.t 22)]⟩,
 ⟨some 24, some (20, false), .un .not (.t 23)⟩,
 ⟨some 25, none, .pick (.t 20) (.c (.bool true)) (.t 24)⟩,
 ⟨some 26, none, .mov (.t 25)⟩,
 ⟨some 27, some (26, false), .mov (.t 6)⟩,
 ⟨some 28, some (26, false), .len (.t 27)⟩,
 ⟨some 29, some (26, false), .fa 0 (.t 5)⟩,
 ⟨some 30, some (26, false), .fa 1 (.t 29)⟩,
 ⟨some 31, some (26, false), .ld none (.t 30)⟩,
 ⟨some 32, some (26, false), .bin .neq .none (.t 28) (.t 31)⟩,
 ⟨some 33, none, .pick (.t 26) (.c (.bool true)) (.t 32)⟩] (some [2, 5, 33]))
 (.cond (.t 33)
 (.seq
 (.reg [⟨some 34, none, .bld [(.int .i64 0), (.int .u8 0), .nils, (.str []), (.int .u8 0), (.str [])] []⟩,
 ⟨none, none, .st 6 (.t 2) (.t 34)⟩,
 ⟨some 3, none, .mov (.c (.int .i64 0))⟩,
 ⟨some 4, none, .mov (.c (.int .i64 2))⟩] (some [2, 3, 4]))
 .ret)
 .skip))
 (.seq
 (.drwm [(), (), (), (), ()] [⟨⟨some 35, none, .fa 2 (.t 5)⟩, []⟩,
 ⟨⟨some 36, none, .ld (some 6) (.t 35)⟩, [0]⟩,
 ⟨⟨some 37, none, .fa 0 (.t 5)⟩, []⟩,
 ⟨⟨some 38, none, .fa 1 (.t 37)⟩, [2]⟩,
 ⟨⟨some 39, none, .ld none (.t 38)⟩, [3]⟩,
 ⟨⟨none, none, .st 6 (.t 2) (.t 36)⟩, [1, 0, 1]⟩]
 [⟨some 3, none, .mov (.t 39)⟩,
 ⟨some 4, none, .mov (.c (.int .i64 0))⟩] (some [2, 3, 4]))
 .ret))))))
theorem is_wireTake : IrOf Tryz.prog 26 40 ir_wireTake [.cell 2 (some 6), .t 3, .t 4] := ⟨_, Tryz.func26, rfl, by kernel_rfl, by kernel_rfl, by kernel_rfl⟩


theorem fs_BEqual {Gl : Gh → Prop} (hst : Stays Gl) {a b : List UInt8} {ta tb : Option Nm} : FS Tryz.prog Gl 105 [.sl ta 1 (bytesAV a), .sl tb 1 (bytesAV b)] [] [] (.bool (decide (a = b))) [] [] := by
  refine FS.of hm hst is_bytesEqual (by simp) fun γ hγ hfr => ?_
  (generalize hQ : (fun (ex : Ex) (_ _ : Nat) (s : St) => _) = Q; unfold ir_bytesEqual)
  simp +contextual (maxSteps := 1000000) only [bb_un, bb_is, implies_true, go_sem, reduceCtorEq, ↓reduceIte, Nat.reduceAdd, Nat.reduceEqDiff]
  rw [← hQ]
  exact ⟨trivial, Ret.flat rfl rfl⟩
theorem fs_BHasPrefix {Gl : Gh → Prop} (hst : Stays Gl) {a b : List UInt8} {ta tb : Option Nm} : FS Tryz.prog Gl 53 [.sl ta 1 (bytesAV a), .sl tb 1 (bytesAV b)] [] [] (.bool (decide (b <+: a))) [] [] := by
  refine FS.of hm hst is_bytesHasPrefix (by simp) fun γ hγ hfr => ?_
  (generalize hQ : (fun (ex : Ex) (_ _ : Nat) (s : St) => _) = Q; unfold ir_bytesHasPrefix)
  by_cases h : b.length ≤ a.length
  · have hd : decide ((a.length : Int) ≥ (b.length : Int)) = true := by simp; omega
    have e : decide (b <+: a) = decide (a.take b.length = b) := by
      rw [decide_eq_decide]
      constructor
      · rintro ⟨r, rfl⟩; simp
      · intro h'; rw [← h']; exact List.take_prefix _ _
    simp +contextual (maxSteps := 1000000) only [hd, bytesAV_length', bytesAV_take, Int.toNat_natCast, Int.toNat_zero, go_sem, reduceCtorEq, ↓reduceIte, Nat.reduceAdd, Nat.reduceEqDiff]
    refine ⟨by omega, ?_⟩
    (refine CallP.pure (fs_BEqual hst) (fun _ => rfl) ?_; simp +contextual (maxSteps := 1000000) only [go_sem, reduceCtorEq, ↓reduceIte, Nat.reduceAdd, Nat.reduceEqDiff])
    rw [← hQ, e]
    exact ⟨trivial, Ret.flat rfl rfl⟩
  · have hd : decide ((a.length : Int) ≥ (b.length : Int)) = false := by simp; omega
    simp +contextual (maxSteps := 1000000) only [hd, bytesAV_length', go_sem, reduceCtorEq, ↓reduceIte, Nat.reduceAdd, Nat.reduceEqDiff]
    rw [← hQ]
    have e : decide (b <+: a) = false := decide_eq_false fun hh => h hh.length_le
    rw [e]
    exact ⟨trivial, Ret.flat rfl rfl⟩
theorem pw_args {k pr fi : Int} {ps : List (List Int)} {it da : List UInt8} : LeL [.agg [.int .i64 k, .int .u8 pr, pw ps, .str it, .int .u8 fi, .str da]] [.agg (Sq.c ⟨k, pr, ps, it, fi, da⟩)] :=
  ⟨RepLe.agg ⟨.refl _, .refl _, pw_le _, .refl _, .refl _, .refl _, trivial⟩, trivial⟩
theorem RepLe.tupL {xs ys : List AV} (h : LeL xs ys) : RepLe (.tup xs) (.tup ys) := fun g v ⟨vs, e, k⟩ => ⟨vs, e, h.rep k⟩
theorem zero_le : RepLe (.tup [.agg [.int .i64 0, .int .u8 0, .nils, .str [], .int .u8 0, .str []], .int .i64 0, .int .i64 2]) (.tup [.agg zeroSq.c, .int .i64 0, .int .i64 2]) :=
  RepLe.tupL ⟨RepLe.agg ⟨.refl _, .refl _, .nils 1, .refl _, .refl _, .refl _, trivial⟩, .refl _, .refl _, trivial⟩
def takeV (b : List UInt8) : AV := match takeW b with
  | some (s, n) => .tup [.agg s.c, .int .i64 (n : Int), .int .i64 0]
  | none => .tup [.agg zeroSq.c, .int .i64 0, .int .i64 2]
theorem headD_range (l : List UInt8) : 0 ≤ ((l.headD 0).toNat : Int) ∧ ((l.headD 0).toNat : Int) < 256 := by
  have := (l.headD 0).toNat_lt; omega
theorem headW_sz (l : List UInt8) : (0 ≤ (headW l).1 ∧ (headW l).1 < 256) ∧ (headW l).2.1.length ≤ l.length + 1 ∧ ∀ p ∈ (headW l).2.1, p.length ≤ l.length + 1 := by
  unfold headW
  simp only
  have hh := headD_range l
  refine ⟨by split <;> omega, ?_⟩
  generalize (if isPr (l.headD 0) = true then 1 else 0) = k
  have h1 := runL_le 48 59 (l.drop k)
  rw [List.length_drop] at h1
  generalize runL 48 59 (l.drop k) = t at h1
  unfold numsW
  split
  · simp
  · have h2 := splitB_len (c := 59) (l := t)
    refine ⟨by simp; omega, fun p hp => ?_⟩
    obtain ⟨q, hq, rfl⟩ := List.mem_map.1 hp
    have h3 := splitB_mem_len hq
    have h4 := splitB_len (c := 58) (l := q)
    simp [subsW]; omega
theorem restW_sz (l : List UInt8) : (restW l).1.length ≤ l.length ∧ 0 ≤ (restW l).2.1 ∧ (restW l).2.1 < 256 := by
  unfold restW
  exact ⟨runL_le _ _ _, headD_range _⟩
theorem readW_sz {b : List UInt8} (hb : b.length ≤ 4000000000) : (0 ≤ (readW b).1.pr ∧ (readW b).1.pr < 256) ∧ 0 ≤ (readW b).1.fi ∧ (readW b).1.fi < 256 ∧ (readW b).1.sm := by
  have a1 := headW_sz (b.drop 2)
  have a2 := fun n => restW_sz (b.drop n)
  have a3 := fun n => runL_le 32 126 (b.drop n)
  simp only [List.length_drop] at a1 a2 a3
  unfold readW
  split
  · exact ⟨by simp [zeroSq], by simp [zeroSq], by simp [zeroSq], ⟨by simp [zeroSq], by simp [zeroSq], by simp [zeroSq], by simp [zeroSq]⟩⟩
  · simp only
    split
    · have := a2 (2 + (headW (b.drop 2)).2.2)
      exact ⟨a1.1, this.2.1, this.2.2, ⟨by have := a1.2.1; simp only; omega, fun p hp => by have := a1.2.2 p hp; omega, by have := this.1; simp only; omega, by simp⟩⟩
    · split
      · have := headD_range (b.drop 2)
        exact ⟨by simp, this.1, this.2, ⟨by simp, by simp, by simp, by simp⟩⟩
      · split
        · have := a2 (2 + (headW (b.drop 2)).2.2)
          exact ⟨a1.1, this.2.1, this.2.2, ⟨by have := a1.2.1; simp only; omega, fun p hp => by have := a1.2.2 p hp; omega, by have := this.1; simp only; omega, Nat.lt_of_le_of_lt (a3 _) (by omega)⟩⟩
        · split
          · exact ⟨by simp, by simp, by simp, ⟨by simp, by simp, by simp, Nat.lt_of_le_of_lt (a3 _) (by omega)⟩⟩
          · have := a2 1
            exact ⟨by simp, this.2.1, this.2.2, ⟨by simp, by simp, by have := this.1; simp only; omega, by simp⟩⟩
set_option maxHeartbeats 4000000 in
theorem fs_wTake {Gl : Gh → Prop} (hst : Stays Gl) {b : List UInt8} {tb : Option Nm} (hb : b.length ≤ 4000000000) (hd : dcsOk b) (hf : (readW b).1.fi < 128) :
    FS Tryz.prog Gl 26 [.sl tb 1 (bytesAV b)] [] [] (takeV b) [] [] := by
  refine FS.args (args' := [.sl none 1 (bytesAV b)]) ?_ ⟨RepLe.anon _ _ _, trivial⟩
  have hfl : (takeV b).flatT = true := by
    unfold takeV; split <;> rfl
  obtain ⟨⟨p0, p1⟩, f0, _, hsm⟩ := readW_sz hb
  have c2 : FS Tryz.prog Gl 40 [.agg [.int .i64 (readW b).1.k, .int .u8 (readW b).1.pr, pw (readW b).1.ps, .str (readW b).1.it, .int .u8 (readW b).1.fi, .str (readW b).1.da]] [] [] (.tup [putV (readW b).1, .int .i64 (mayP (readW b).1)]) [] [] := FS.args (fs_wPut hst p0 p1 f0 hf hsm) pw_args
  refine FS.ofW hm hst is_wireTake hfl (by simp) fun γ hγ hfr => ?_
  (generalize hQ : (fun (ex : Ex) (_ _ : Nat) (s : St) => _) = Q; unfold ir_wireTake)
  simp +contextual (maxSteps := 1000000) only [go_sem, reduceCtorEq, ↓reduceIte, Nat.reduceAdd, Nat.reduceEqDiff, Nat.reduceLeDiff, Nat.reduceMul, Nat.reduceBEq, Int.reduceBEq, Int.reduceBNe, Int.reduceLT, Int.reduceLE, Int.reduceGT, Int.reduceGE, Int.reduceToNat]
  refine CallP.rdX (Ha := [((γ, 0, 0), .cells [.int .i64 0, .int .u8 0, .nils, .str [], .int .u8 0, .str []])]) (fs_wRead (p := (γ, 6, 0)) hst hγ hb hd) hγ rfl (by simp) (by simp [rdC, pw, zeroSq]) ?_
  have htk : takeW b = if mayP (readW b).1 = 0 ∧ putB (readW b).1 <+: b ∧ (putB (readW b).1).length = (readW b).2 then some (readW b) else none := rfl
  have htv : takeV b = match takeW b with | some (s, n) => .tup [.agg s.c, .int .i64 (n : Int), .int .i64 0] | none => .tup [.agg zeroSq.c, .int .i64 0, .int .i64 2] := rfl
  generalize readW b = r at *
  obtain ⟨⟨k, pr, ps, it, fi, da⟩, n⟩ := r
  simp only at *
  have hpv : putV ⟨k, pr, ps, it, fi, da⟩ = if (mayP ⟨k, pr, ps, it, fi, da⟩ != 0) = true then .nils else .sl none 1 (bytesAV (putB ⟨k, pr, ps, it, fi, da⟩)) := rfl
  simp only [rdC]
  by_cases hmy : mayP ⟨k, pr, ps, it, fi, da⟩ = 0
  · rw [hmy] at hpv c2
    rw [show ((0 : Int) != 0) = false from rfl, if_neg (by simp)] at hpv
    rw [hpv] at c2
    rw [hmy] at htk
    simp +contextual (maxSteps := 1000000) only [go_sem, reduceCtorEq, ↓reduceIte, Nat.reduceAdd, Nat.reduceEqDiff, Nat.reduceLeDiff, Nat.reduceMul, Nat.reduceBEq, Int.reduceBEq, Int.reduceBNe, Int.reduceLT, Int.reduceLE, Int.reduceGT, Int.reduceGE, Int.reduceToNat]
    (refine CallP.pure (c2) (fun _ => rfl) ?_; simp +contextual (maxSteps := 1000000) only [go_sem, reduceCtorEq, ↓reduceIte, Nat.reduceAdd, Nat.reduceEqDiff, Nat.reduceLeDiff, Nat.reduceMul, Nat.reduceBEq, Int.reduceBEq, Int.reduceBNe, Int.reduceLT, Int.reduceLE, Int.reduceGT, Int.reduceGE, Int.reduceToNat])
    cases hpx : decide (putB ⟨k, pr, ps, it, fi, da⟩ <+: b) with
    | false =>
      have c3 := fs_BHasPrefix (Gl := Gl) hst (a := b) (b := putB ⟨k, pr, ps, it, fi, da⟩) (ta := none) (tb := none)
      rw [hpx] at c3
      (refine CallP.pure (c3) (fun _ => rfl) ?_; simp +contextual (maxSteps := 1000000) only [go_sem, reduceCtorEq, ↓reduceIte, Nat.reduceAdd, Nat.reduceEqDiff, Nat.reduceLeDiff, Nat.reduceMul, Nat.reduceBEq, Int.reduceBEq, Int.reduceBNe, Int.reduceLT, Int.reduceLE, Int.reduceGT, Int.reduceGE, Int.reduceToNat])
      have hn0 : takeW b = none := by rw [htk, if_neg (fun h => of_decide_eq_false hpx h.2.1)]
      rw [← hQ, htv, hn0]
      refine ⟨trivial, .inl ⟨.tup [.agg [.int .i64 0, .int .u8 0, .nils, .str [], .int .u8 0, .str []], .int .i64 0, .int .i64 2], ?_, zero_le⟩⟩
      simp [resOf, getAll, IRes.get, lf, getH]
    | true =>
      have c3 := fs_BHasPrefix (Gl := Gl) hst (a := b) (b := putB ⟨k, pr, ps, it, fi, da⟩) (ta := none) (tb := none)
      rw [hpx] at c3
      by_cases hln : (putB ⟨k, pr, ps, it, fi, da⟩).length = n
      · have hq : (((putB ⟨k, pr, ps, it, fi, da⟩).length : Int) != (n : Int)) = false := by rw [bne_eq_false_iff_eq]; omega
        (refine CallP.pure (c3) (fun _ => rfl) ?_; simp +contextual (maxSteps := 1000000) only [bytesAV_length', hq, go_sem, reduceCtorEq, ↓reduceIte, Nat.reduceAdd, Nat.reduceEqDiff, Nat.reduceLeDiff, Nat.reduceMul, Nat.reduceBEq, Int.reduceBEq, Int.reduceBNe, Int.reduceLT, Int.reduceLE, Int.reduceGT, Int.reduceGE, Int.reduceToNat])
        refine kDrwM_of [((γ, 6, 0), .cells [.sl none 1 (bytesAV b), .int .i64 n, .int .i64 k, .int .u8 pr, pw ps, .str it, .int .u8 fi, .str da])] [((γ, 0, 0), .cells [.int .i64 0, .int .u8 0, .nils, .str [], .int .u8 0, .str []])] (by simp) (by simp) ?_
        simp +contextual (maxSteps := 1000000) only [pw_cells, pw_one, go_sem, reduceCtorEq, ↓reduceIte, Nat.reduceAdd, Nat.reduceEqDiff, Nat.reduceLeDiff, Nat.reduceMul, Nat.reduceBEq, Int.reduceBEq, Int.reduceBNe, Int.reduceLT, Int.reduceLE, Int.reduceGT, Int.reduceGE, Int.reduceToNat]
        refine ⟨by simp, ?_⟩
        have hs0 : takeW b = some (⟨k, pr, ps, it, fi, da⟩, n) := by rw [htk, if_pos ⟨rfl, of_decide_eq_true hpx, hln⟩]
        rw [← hQ, htv, hs0]
        refine ⟨trivial, .inl ⟨.tup [.agg [.int .i64 k, .int .u8 pr, pw ps, .str it, .int .u8 fi, .str da], .int .i64 n, .int .i64 0], ?_, RepLe.tupL ⟨RepLe.agg ⟨.refl _, .refl _, pw_le _, .refl _, .refl _, .refl _, trivial⟩, .refl _, .refl _, trivial⟩⟩⟩
        simp [resOf, getAll, IRes.get, lf, getH]
      · have hq : (((putB ⟨k, pr, ps, it, fi, da⟩).length : Int) != (n : Int)) = true := by rw [bne_iff_ne]; omega
        have hn0 : takeW b = none := by rw [htk, if_neg (fun h => hln h.2.2)]
        (refine CallP.pure (c3) (fun _ => rfl) ?_; simp +contextual (maxSteps := 1000000) only [bytesAV_length', hq, go_sem, reduceCtorEq, ↓reduceIte, Nat.reduceAdd, Nat.reduceEqDiff, Nat.reduceLeDiff, Nat.reduceMul, Nat.reduceBEq, Int.reduceBEq, Int.reduceBNe, Int.reduceLT, Int.reduceLE, Int.reduceGT, Int.reduceGE, Int.reduceToNat])
        rw [← hQ, htv, hn0]
        refine ⟨trivial, .inl ⟨.tup [.agg [.int .i64 0, .int .u8 0, .nils, .str [], .int .u8 0, .str []], .int .i64 0, .int .i64 2], ?_, zero_le⟩⟩
        simp [resOf, getAll, IRes.get, lf, getH]
  · have hmb : (mayP ⟨k, pr, ps, it, fi, da⟩ != 0) = true := by rw [bne_iff_ne]; exact hmy
    rw [hmb, if_pos rfl] at hpv
    rw [hpv] at c2
    have hn0 : takeW b = none := by rw [htk, if_neg (fun h => hmy h.1)]
    simp +contextual (maxSteps := 1000000) only [go_sem, reduceCtorEq, ↓reduceIte, Nat.reduceAdd, Nat.reduceEqDiff, Nat.reduceLeDiff, Nat.reduceMul, Nat.reduceBEq, Int.reduceBEq, Int.reduceBNe, Int.reduceLT, Int.reduceLE, Int.reduceGT, Int.reduceGE, Int.reduceToNat]
    (refine CallP.pure (c2) (fun _ => rfl) ?_; simp +contextual (maxSteps := 1000000) only [hmb, go_sem, reduceCtorEq, ↓reduceIte, Nat.reduceAdd, Nat.reduceEqDiff, Nat.reduceLeDiff, Nat.reduceMul, Nat.reduceBEq, Int.reduceBEq, Int.reduceBNe, Int.reduceLT, Int.reduceLE, Int.reduceGT, Int.reduceGE, Int.reduceToNat])
    rw [← hQ, htv, hn0]
    refine ⟨trivial, .inl ⟨.tup [.agg [.int .i64 0, .int .u8 0, .nils, .str [], .int .u8 0, .str []], .int .i64 0, .int .i64 2], ?_, zero_le⟩⟩
    simp [resOf, getAll, IRes.get, lf, getH]
end Go.Proofs.YtbepihadhmfklaaGreatDoor

set_option linter.unusedVariables false
set_option linter.unusedSimpArgs false
set_option maxRecDepth 100000
namespace Go.Proofs.YtbepihadhmfklaaGreatDoor
open Go Go.Ab
theorem dcs_of_len {b : List UInt8} (h : (readW b).2 ≤ b.length) : dcsOk b := by
  intro h1 h2
  unfold readW at h
  rw [if_neg (not_not_intro h1)] at h
  simp only at h
  rw [h2] at h
  rw [if_neg (by decide), if_neg (by decide), if_pos rfl] at h
  simp only at h
  omega
theorem fi_may {s : Sq} (h : mayP s = 0) : s.fi < 128 := by
  have h1 := (mayF h).sh
  unfold shapedP at h1
  repeat' split at h1
  all_goals simp only [Bool.and_eq_true, decide_eq_true_eq, beq_iff_eq, Bool.false_eq_true] at h1
  all_goals omega
theorem take_may {s : Sq} (h : mayP s = 0) (more : List UInt8) : dcsOk (putB s ++ more) ∧ (readW (putB s ++ more)).1.fi < 128 ∧ takeV (putB s ++ more) = .tup [.agg s.c, .int .i64 (putB s).length, .int .i64 0] := by
  have h1 := readW_put h more
  refine ⟨dcs_of_len (by rw [h1]; simp), by rw [h1]; exact fi_may h, ?_⟩
  unfold takeV
  rw [takeW_put h]
theorem putX_may {s : Sq} (h : mayP s = 0) : putX s = putB s := by unfold putX; rw [h]; rfl
end Go.Proofs.YtbepihadhmfklaaGreatDoor

set_option linter.unusedVariables false
set_option linter.unusedSimpArgs false
set_option maxRecDepth 100000
namespace Go.Proofs.YtbepihadhmfklaaGreatDoor
open Go Go.Ab

def charK (k : Ky) : Int := if kindK k.code = 1 then shownK k else k.code
def allO (k : Ky) : Bool := (oldK k.mods != 0) && ((kindK k.code == 2) || (oldK k.mods != 1))
def fewO (k : Ky) : Bool := allO k && hasK k.mods 4 && (if kindK k.code = 2 then (k.code == 9) || (k.code == 13) else hasK k.mods 1 || !(foldK (shownK k)).isSome)
def lvO (o : Int) (k : Ky) : Bool := if o = 1 then fewO k else if o = 2 then allO k else false
def isO (o : Int) (k : Ky) : Bool := ((kindK k.code == 1) || (kindK k.code == 2)) && mayK k && (k.type != 3) && lvO o k
def othSq (k : Ky) : Sq := numSq 1 0 126 [27, 1 + oldK k.mods, charK k]
def othK (o : Int) (k : Ky) : List UInt8 := if isO o k = true then putB (othSq k) else []
theorem old_lt (m : Int) : 0 ≤ oldK m ∧ oldK m < 8 := by unfold oldK; omega
theorem isO_iff {o : Int} {k : Ky} : isO o k = true ↔ (kindK k.code = 1 ∨ kindK k.code = 2) ∧ MayK k ∧ k.type ≠ 3 ∧ lvO o k = true := by
  unfold isO
  simp only [Bool.and_eq_true, Bool.or_eq_true, beq_iff_eq, bne_iff_ne, mayK_iff, and_assoc]
theorem char_range {k : Ky} (M : MayK k) : 0 ≤ charK k ∧ charK k ≤ 1114111 := by
  unfold charK
  split
  · rename_i h
    obtain ⟨n, h1, h2, _⟩ := isCP_spec (shown_cp h M.sh).1
    omega
  · exact kind_range M.kind
theorem may3 {a b c : Int} (ha : 0 ≤ a ∧ a ≤ 1114111) (hb : 0 ≤ b ∧ b ≤ 1114111) (hc : 0 ≤ c ∧ c ≤ 1114111) : mayP (numSq 1 0 126 [a, b, c]) = 0 := by
  have hp : parsOk (([a, b, c] : List Int).map fun n => [n]) = true := by
    simp only [parsOk, List.map_cons, List.map_nil, List.any_cons, List.any_nil, parBad, List.length_cons, List.length_nil]
    have q : ∀ {x : Int}, 0 ≤ x ∧ x ≤ 1114111 → (decide (x < -1) || decide (x > 1114111)) = false := fun h => by
      rw [decide_eq_false (by omega), decide_eq_false (by omega)]; rfl
    rw [q ha, q hb, q hc]
    simp
  unfold mayP numSq
  rw [hp]
  simp [within, shapedP]
theorem oth_may {k : Ky} (M : MayK k) : mayP (othSq k) = 0 := by
  have := old_lt k.mods
  exact may3 (by omega) (by omega) (char_range M)
end Go.Proofs.YtbepihadhmfklaaGreatDoor

set_option linter.unusedVariables false
set_option linter.unusedSimpArgs false
set_option maxRecDepth 100000
namespace Go.Proofs.YtbepihadhmfklaaGreatDoor
open Go Go.Ab
end Go.Proofs.YtbepihadhmfklaaGreatDoor

set_option linter.unusedVariables false
set_option linter.unusedSimpArgs false
set_option maxRecDepth 100000
namespace Go.Proofs.YtbepihadhmfklaaGreatDoor
open Go Go.Ab

def clearsK (fl : Int) : Bool := hasK fl 1 || hasK fl 8
def boardK (m : Md) (fl : Int) (k : Ky) : List UInt8 := if m.lock = true then [] else if clearsK fl = true then keyK fl k else if isO m.other k = true then putB (othSq k) else legK m k
theorem board_not {m : Md} {fl : Int} {k : Ky} (h : mayK k = false) : boardK m fl k = [] := by
  have h1 : keyK fl k = [] := by unfold keyK; rw [h]; rfl
  have h2 : isO m.other k = false := by unfold isO; rw [h]; simp
  have h3 : legK m k = [] := by unfold legK; rw [h]; rfl
  unfold boardK
  rw [h1, h2, h3]
  simp
theorem typed_kind {c : Int} (h : typedK c = true) : kindK c = 2 := by
  unfold typedK at h
  simp only [Bool.or_eq_true, decide_eq_true_eq] at h
  rcases h with (rfl | rfl) | rfl <;> decide +kernel
theorem kind34 {c : Int} (h : kindK c = 3 ∨ kindK c = 4) : 57348 ≤ c ∧ c ≤ 57427 := by
  refine Classical.byContradiction fun hn => ?_
  have h3 : letR c = 0 := by
    unfold letR
    repeat (first | rfl | rw [if_neg (by omega)])
  have h4 : numR c = 0 := by
    unfold numR
    repeat (first | rfl | rw [if_neg (by omega)])
  have hk : kindK c = restR c := by
    unfold kindK lookR
    rw [if_neg (by rw [h3]; simp), if_neg (by rw [h4]; simp), if_neg (by omega)]
  rw [hk] at h
  unfold restR at h
  repeat' split at h
  all_goals omega
def formQ (cu : Bool) (c j : Int) : Sq :=
  if kindK c = 4 then numSq 1 0 126 (if (j != 0) = true then [(lookR c).num, 1 + j] else [(lookR c).num])
  else if (j != 0) = true then numSq 1 0 (lookR c).final.toNat [1, 1 + j]
  else if (cu || decide (((lookR c).final.toNat : Int) ≥ 80)) = true then numSq 2 0 (lookR c).final.toNat [] else numSq 1 0 (lookR c).final.toNat []
theorem formQ_may : ∀ (cu : Bool) (i : Fin 80) (j : Fin 8), (kindK (57348 + (i.val : Int)) = 3 ∨ kindK (57348 + (i.val : Int)) = 4) → mayP (formQ cu (57348 + (i.val : Int)) (j.val : Int)) = 0 := by decide +kernel
theorem leg_form {m : Md} {k : Ky} (M : MayK k) (ht : k.type ≠ 3) (hk : kindK k.code = 3 ∨ kindK k.code = 4) : mayP (formQ m.cursor k.code (oldK k.mods)) = 0 ∧ legK m k = putB (formQ m.cursor k.code (oldK k.mods)) := by
  obtain ⟨c0, c1⟩ := kind34 hk
  have ho := old_lt k.mods
  have hm := formQ_may m.cursor ⟨(k.code - 57348).toNat, by omega⟩ ⟨(oldK k.mods).toNat, by omega⟩
  simp only at hm
  rw [show (57348 : Int) + ((k.code - 57348).toNat : Int) = k.code by omega, show (((oldK k.mods).toNat : Nat) : Int) = oldK k.mods by omega] at hm
  have hm := hm hk
  refine ⟨hm, ?_⟩
  rw [← putX_may hm]
  have hp : paramK (oldK k.mods) = 1 + oldK k.mods := by unfold paramK; split <;> omega
  have hl : legK m k = formL m k := by
    unfold legK
    rw [mayK_iff.2 M, if_pos]
    rw [Bool.true_and, bne_iff_ne]; exact ht
  rw [hl]
  unfold formL formQ
  rcases hk with h | h
  · rw [h]
    simp only [letterL, hp, Int.reduceEq, if_false, if_true, ↓reduceIte]
    repeat' split
    all_goals rfl
  · rw [h]
    simp only [numberL, hp, Int.reduceEq, if_false, if_true, ↓reduceIte]
theorem board_whole {m : Md} {fl : Int} {k : Ky} (h1 : kindK k.code ≠ 1) (h2 : kindK k.code ≠ 2) (h5 : kindK k.code ≠ 5) : boardK m fl k = [] ∨ ∃ s, mayP s = 0 ∧ boardK m fl k = putB s := by
  by_cases hmk : mayK k = true
  · have M := mayK_iff.1 hmk
    unfold boardK
    split
    · exact .inl rfl
    · split
      · unfold keyK
        split
        · exact .inl rfl
        · have ht : textK fl k = [] := by
            unfold textK
            split
            · rfl
            · rw [if_neg, if_pos]
              · rw [decide_eq_true h1]; rfl
              · intro h
                rw [Bool.and_eq_true] at h
                exact h2 (typed_kind h.1)
          rw [ht]
          simp only [ne_eq, not_true_eq_false, if_false]
          exact .inr ⟨_, key_may M, putX_may (key_may M)⟩
      · have ho : isO m.other k = false := by
          cases h : isO m.other k with
          | false => rfl
          | true => rcases (isO_iff.1 h).1 with e | e <;> contradiction
        rw [ho]
        simp only [Bool.false_eq_true, if_false]
        by_cases ht : k.type = 3
        · left
          unfold legK
          rw [if_neg]
          rw [ht]; simp
        · by_cases hk : kindK k.code = 3 ∨ kindK k.code = 4
          · exact .inr ⟨_, leg_form M ht hk⟩
          · left
            unfold legK formL
            rw [if_neg h1, if_neg h2, if_neg (fun e => hk (.inl e)), if_neg (fun e => hk (.inr e)), if_neg h5]
            split <;> rfl
  · left
    exact board_not (by simpa using hmk)
end Go.Proofs.YtbepihadhmfklaaGreatDoor

set_option linter.unusedVariables false
set_option linter.unusedSimpArgs false
set_option maxRecDepth 100000
namespace Go.Proofs.YtbepihadhmfklaaGreatDoor
open Go Go.Ab
def ir_otherplain : ICode :=
 (.seq
 (.reg [⟨some 1, none, .box 25 (.t 0)⟩,
 ⟨some 2, none, .mov (.c (.bool false))⟩] (some [1]))
 (.seq
 (.reg [⟨some 3, none, .fa 0 (.t 1)⟩,
 ⟨some 4, none, .ld none (.t 3)⟩,
 ⟨some 5, none, .call (.c (.fn (.func 24) [] [])) [(.t 4)]⟩,
 ⟨some 6, none, .fld 0 none (.t 5)⟩,
 ⟨some 7, none, .bin .eql .none (.t 6) (.c (.int .i64 2))⟩,
 ⟨some 2, none, .mov (.t 7)⟩] (some [2]))
 .ret))
theorem is_otherplain : IrOf Tryz.prog 82 8 ir_otherplain [.t 2] := ⟨_, Tryz.func82, rfl, by kernel_rfl, by kernel_rfl, by kernel_rfl⟩

def ir_otherchar : ICode :=
 (.seq
 (.reg [⟨some 1, none, .box 25 (.t 0)⟩,
 ⟨some 2, none, .mov (.c (.int .i64 0))⟩,
 ⟨some 3, none, .mov (.c (.bool false))⟩] (some [1]))
 (.seq
 (.seq
 (.reg [⟨some 4, none, .fa 0 (.t 1)⟩,
 ⟨some 5, none, .ld none (.t 4)⟩,
 ⟨some 6, none, .call (.c (.fn (.func 24) [] [])) [(.t 5)]⟩,
 ⟨some 7, none, .fld 0 none (.t 6)⟩] (some [1, 7]))
 (.blk 0
 (.seq
 (.reg [⟨some 9, none, .bin .eql .none (.t 7) (.c (.int .i64 1))⟩,
 ⟨some 8, none, .mov (.t 9)⟩] (some [1, 7, 8]))
 (.cond (.t 8)
 (.seq
 (.reg [⟨some 10, none, .ld (some 6) (.t 1)⟩,
 ⟨some 11, none, .call (.c (.fn (.func 84) [] [])) [(.t 10)]⟩,
 ⟨some 2, none, .mov (.t 11)⟩,
 ⟨some 3, none, .mov (.c (.bool true))⟩] (some [2, 3]))
 .ret)
 (.seq
 (.reg [⟨some 13, none, .bin .eql .none (.t 7) (.c (.int .i64 2))⟩,
 ⟨some 12, none, .mov (.t 13)⟩] (some [1, 12]))
 (.cond (.t 12)
 (.seq
 (.reg [⟨some 14, none, .fa 0 (.t 1)⟩,
 ⟨some 15, none, .ld none (.t 14)⟩,
 ⟨some 2, none, .mov (.t 15)⟩,
 ⟨some 3, none, .mov (.c (.bool true))⟩] (some [2, 3]))
 .ret)
 .skip))))))
 (.seq
 (.reg [⟨some 2, none, .mov (.c (.int .i64 0))⟩,
 ⟨some 3, none, .mov (.c (.bool false))⟩] (some [2, 3]))
 .ret)))
theorem is_otherchar : IrOf Tryz.prog 38 16 ir_otherchar [.t 2, .t 3] := ⟨_, Tryz.func38, rfl, by kernel_rfl, by kernel_rfl, by kernel_rfl⟩

def ir_otherall : ICode :=
 (.seq
 (.reg [⟨some 1, none, .box 25 (.t 0)⟩,
 ⟨some 2, none, .mov (.c (.bool false))⟩] (some [1]))
 (.seq
 (.reg [⟨some 4, none, .fa 1 (.t 1)⟩,
 ⟨some 5, none, .ld none (.t 4)⟩,
 ⟨some 6, none, .call (.c (.fn (.func 43) [] [])) [(.t 5)]⟩,
 ⟨some 3, none, .mov (.t 6)⟩] (some [1, 3]))
 (.seq
 (.reg [⟨some 7, none, .mov (.t 3)⟩,
 ⟨some 8, none, .bin .neq .none (.t 7) (.c (.int .i64 0))⟩,
 ⟨some 9, none, .mov (.t 8)⟩,
 ⟨some 10, some (9, true), .ld (some 6) (.t 1)⟩,
 ⟨some 11, some (9, true), .call (.c (.fn (.func 82) [] [])) [(.t 10)]⟩,
 ⟨some 12, some (9, true), .mov (.t 11)⟩,
 ⟨some 13, some (12, false), .mov (.t 3)⟩,
 ⟨some 14, some (12, false), .bin .neq .none (.t 13) (.c (.int .i64 1))⟩,
 ⟨some 15, some (9, true), .pick (.t 12) (.c (.bool true)) (.t 14)⟩,
 ⟨some 16, none, .pick (.t 9) (.t 15) (.c (.bool false))⟩,
 ⟨some 2, none, .mov (.t 16)⟩] (some [2]))
 .ret)))
theorem is_otherall : IrOf Tryz.prog 37 17 ir_otherall [.t 2] := ⟨_, Tryz.func37, rfl, by kernel_rfl, by kernel_rfl, by kernel_rfl⟩

def ir_otherfew : ICode :=
 (.seq
 (.reg [⟨some 1, none, .box 25 (.t 0)⟩,
 ⟨some 2, none, .mov (.c (.bool false))⟩] (some [1]))
 (.seq
 (.seq
 (.reg [⟨some 5, none, .ld (some 6) (.t 1)⟩,
 ⟨some 6, none, .call (.c (.fn (.func 37) [] [])) [(.t 5)]⟩,
 ⟨some 7, none, .un .not (.t 6)⟩,
 ⟨some 8, none, .mov (.t 7)⟩,
 ⟨some 9, some (8, false), .fa 1 (.t 1)⟩,
 ⟨some 10, some (8, false), .ld none (.t 9)⟩,
 ⟨some 11, some (8, false), .bin .and .none (.t 10) (.c (.int .i64 4))⟩,
 ⟨some 12, some (8, false), .bin .eql .none (.t 11) (.c (.int .i64 0))⟩,
 ⟨some 13, none, .pick (.t 8) (.c (.bool true)) (.t 12)⟩] (some [1, 13]))
 (.cond (.t 13)
 (.seq
 (.reg [⟨some 2, none, .mov (.c (.bool false))⟩] (some [2]))
 .ret)
 .skip))
 (.seq
 (.seq
 (.reg [⟨some 14, none, .ld (some 6) (.t 1)⟩,
 ⟨some 15, none, .call (.c (.fn (.func 82) [] [])) [(.t 14)]⟩] (some [1, 15]))
 (.cond (.t 15)
 (.seq
 (.reg [⟨some 16, none, .fa 0 (.t 1)⟩,
 ⟨some 17, none, .ld none (.t 16)⟩,
 ⟨some 18, none, .bin .eql .none (.t 17) (.c (.int .i64 9))⟩,
 ⟨some 19, none, .mov (.t 18)⟩,
 ⟨some 20, some (19, false), .fa 0 (.t 1)⟩,
 ⟨some 21, some (19, false), .ld none (.t 20)⟩,
 ⟨some 22, some (19, false), .bin .eql .none (.t 21) (.c (.int .i64 13))⟩,
 ⟨some 23, none, .pick (.t 19) (.c (.bool true)) (.t 22)⟩,
 ⟨some 2, none, .mov (.t 23)⟩] (some [2]))
 .ret)
 .skip))
 (.seq
 (.reg [⟨some 25, none, .ld (some 6) (.t 1)⟩,
 ⟨some 26, none, .call (.c (.fn (.func 84) [] [])) [(.t 25)]⟩,
 ⟨some 27, none, .call (.c (.fn (.func 83) [] [])) [(.t 26)]⟩,
 ⟨some 24, none, .mov (.t 27)⟩,
 ⟨some 28, none, .ext (.t 24) 0⟩,
 ⟨some 29, none, .ext (.t 24) 1⟩,
 ⟨some 3, none, .mov (.t 28)⟩,
 ⟨some 4, none, .mov (.t 29)⟩] (some [1, 4]))
 (.seq
 (.reg [⟨some 30, none, .fa 1 (.t 1)⟩,
 ⟨some 31, none, .ld none (.t 30)⟩,
 ⟨some 32, none, .bin .and .none (.t 31) (.c (.int .i64 1))⟩,
 ⟨some 33, none, .bin .neq .none (.t 32) (.c (.int .i64 0))⟩,
 ⟨some 34, none, .mov (.t 33)⟩,
 ⟨some 35, some (34, false), .mov (.t 4)⟩,
 ⟨some 36, some (34, false), .un .not (.t 35)⟩,
 ⟨some 37, none, .pick (.t 34) (.c (.bool true)) (.t 36)⟩,
 ⟨some 2, none, .mov (.t 37)⟩] (some [2]))
 .ret)))))
theorem is_otherfew : IrOf Tryz.prog 36 38 ir_otherfew [.t 2] := ⟨_, Tryz.func36, rfl, by kernel_rfl, by kernel_rfl, by kernel_rfl⟩

def ir_otherKey : ICode :=
 (.seq
 (.reg [⟨some 2, none, .box 23 (.t 0)⟩,
 ⟨some 3, none, .box 25 (.t 1)⟩,
 ⟨some 4, none, .mov (.c .nils)⟩,
 ⟨some 5, none, .mov (.c (.bool false))⟩] (some [2, 3]))
 (.seq
 (.reg [⟨some 12, none, .bld [.nilf, .nilf] [(0, 1, (.c (.fn (.func 36) [] []))), (1, 1, (.c (.fn (.func 37) [] [])))]⟩,
 ⟨some 6, none, .box 58 (.c (.agg [.nilf, .nilf]))⟩,
 ⟨none, none, .st 2 (.t 6) (.t 12)⟩] (some [2, 3, 6]))
 (.seq
 (.reg [⟨some 14, none, .ld (some 6) (.t 3)⟩,
 ⟨some 15, none, .call (.c (.fn (.func 38) [] [])) [(.t 14)]⟩,
 ⟨some 13, none, .mov (.t 15)⟩,
 ⟨some 16, none, .ext (.t 13) 0⟩,
 ⟨some 17, none, .ext (.t 13) 1⟩,
 ⟨some 7, none, .mov (.t 16)⟩,
 ⟨some 8, none, .mov (.t 17)⟩] (some [2, 3, 6, 7, 8]))
 (.seq
 (.seq
 (.reg [⟨some 18, none, .mov (.t 8)⟩,
 ⟨some 19, none, .un .not (.t 18)⟩,
 ⟨some 20, none, .mov (.t 19)⟩,
 ⟨some 21, some (20, false), .fa 9 (.t 2)⟩,
 ⟨some 22, some (20, false), .ld none (.t 21)⟩,
 ⟨some 23, some (20, false), .bin .lss .none (.t 22) (.c (.int .i64 1))⟩,
 ⟨some 24, none, .pick (.t 20) (.c (.bool true)) (.t 23)⟩,
 ⟨some 25, none, .mov (.t 24)⟩,
 ⟨some 26, some (25, false), .fa 9 (.t 2)⟩,
 ⟨some 27, some (25, false), .ld none (.t 26)⟩,
 ⟨some 28, some (25, false), .bin .gtr .none (.t 27) (.c (.int .i64 2))⟩,
 ⟨some 29, none, .pick (.t 25) (.c (.bool true)) (.t 28)⟩,
 ⟨some 30, none, .mov (.t 29)⟩,
 ⟨some 31, some (30, false), .ld (some 6) (.t 3)⟩,
 ⟨some 32, some (30, false), .call (.c (.fn (.func 39) [] [])) [(.t 31)]⟩,
 ⟨some 33, some (30, false), .un .not (.t 32)⟩,
 ⟨some 34, none, .pick (.t 30) (.c (.bool true)) (.t 33)⟩,
 ⟨some 35, none, .mov (.t 34)⟩,
 ⟨some 36, some (35, false), .fa 2 (.t 3)⟩,
 ⟨some 37, some (35, false), .ld none (.t 36)⟩,
 ⟨some 38, some (35, false), .bin .eql .none (.t 37) (.c (.int .i64 3))⟩,
 ⟨some 39, none, .pick (.t 35) (.c (.bool true)) (.t 38)⟩] (some [2, 3, 6, 7, 39]))
 (.cond (.t 39)
 (.seq
 (.reg [⟨some 4, none, .mov (.c .nils)⟩,
 ⟨some 5, none, .mov (.c (.bool false))⟩] (some [4, 5]))
 .ret)
 .skip))
 (.seq
 (.seq
 (.reg [⟨some 40, none, .fa 9 (.t 2)⟩,
 ⟨some 41, none, .ld none (.t 40)⟩,
 ⟨some 42, none, .bin .sub .none (.t 41) (.c (.int .i64 1))⟩,
 ⟨some 43, none, .iar 2 1 (.t 6) (.t 42)⟩,
 ⟨some 44, none, .ld none (.t 43)⟩,
 ⟨some 9, none, .mov (.t 44)⟩] (some [3, 7, 9]))
 (.seq
 (.reg [⟨some 45, none, .mov (.t 9)⟩,
 ⟨some 46, none, .ld (some 6) (.t 3)⟩,
 ⟨some 47, none, .call (.t 45) [(.t 46)]⟩,
 ⟨some 48, none, .un .not (.t 47)⟩] (some [3, 7, 48]))
 (.cond (.t 48)
 (.seq
 (.reg [⟨some 4, none, .mov (.c .nils)⟩,
 ⟨some 5, none, .mov (.c (.bool false))⟩] (some [4, 5]))
 .ret)
 .skip)))
 (.seq
 (.reg [⟨some 50, none, .fa 1 (.t 3)⟩,
 ⟨some 51, none, .ld none (.t 50)⟩,
 ⟨some 52, none, .call (.c (.fn (.func 43) [] [])) [(.t 51)]⟩,
 ⟨some 53, none, .call (.c (.fn (.func 42) [] [])) [(.t 52)]⟩,
 ⟨some 54, none, .mov (.t 7)⟩,
 ⟨some 55, none, .row 3 1 [(.c (.int .i64 27)), (.t 53), (.t 54)]⟩,
 ⟨some 56, none, .call (.c (.fn (.func 41) [] [])) [(.c (.int .u8 0)), (.c (.int .u8 126)), (.t 55)]⟩,
 ⟨some 57, none, .call (.c (.fn (.func 40) [] [])) [(.t 56)]⟩,
 ⟨some 49, none, .mov (.t 57)⟩,
 ⟨some 58, none, .ext (.t 49) 0⟩,
 ⟨some 59, none, .ext (.t 49) 1⟩,
 ⟨some 10, none, .mov (.t 58)⟩,
 ⟨some 11, none, .mov (.t 59)⟩] (some [10, 11]))
 (.seq
 (.reg [⟨some 60, none, .mov (.t 10)⟩,
 ⟨some 61, none, .mov (.t 11)⟩,
 ⟨some 62, none, .bin .eql .none (.t 61) (.c (.int .i64 0))⟩,
 ⟨some 4, none, .mov (.t 60)⟩,
 ⟨some 5, none, .mov (.t 62)⟩] (some [4, 5]))
 .ret)))))))
theorem is_otherKey : IrOf Tryz.prog 20 63 ir_otherKey [.t 4, .t 5] := ⟨_, Tryz.func20, rfl, by kernel_rfl, by kernel_rfl, by kernel_rfl⟩


theorem fs_oPlain {Gl : Gh → Prop} (hst : Stays Gl) {k : Ky} : FS Tryz.prog Gl 82 [.agg (kyAV k)] [] [] (.bool (kindK k.code == 2)) [] [] := by
  refine FS.of hm hst is_otherplain (by simp) fun γ hγ hfr => ?_
  have hky : kyAV k = [.int .i64 k.code, .int .i64 k.mods, .int .i64 k.type, .int .i64 k.shifted, .int .i64 k.base, .str k.text] := rfl
  have c1 := fs_Look (Gl := Gl) hst (c := k.code)
  have hkd : (lookR k.code).kind = kindK k.code := rfl
  rw [ent_eq, hkd] at c1
  simp only [hky]
  (generalize hQ : (fun (ex : Ex) (_ _ : Nat) (s : St) => _) = Q; unfold ir_otherplain)
  simp +contextual (maxSteps := 1000000) only [go_sem, reduceCtorEq, ↓reduceIte, Nat.reduceAdd, Nat.reduceEqDiff]
  (refine CallP.pure (c1) (fun _ => rfl) ?_; simp +contextual (maxSteps := 1000000) only [go_sem, reduceCtorEq, ↓reduceIte, Nat.reduceAdd, Nat.reduceEqDiff])
  rw [← hQ]
  exact ⟨trivial, Ret.flat rfl rfl⟩
theorem fs_oChar {Gl : Gh → Prop} (hst : Stays Gl) {k : Ky} (hmm : k.mods ≤ 9223372036854775807) : FS Tryz.prog Gl 38 [.agg (kyAV k)] [] [] (.tup [.int .i64 (if kindK k.code = 1 ∨ kindK k.code = 2 then charK k else 0), .bool ((kindK k.code == 1) || (kindK k.code == 2))]) [] [] := by
  refine FS.of hm hst is_otherchar (by simp) fun γ hγ hfr => ?_
  have hky : kyAV k = [.int .i64 k.code, .int .i64 k.mods, .int .i64 k.type, .int .i64 k.shifted, .int .i64 k.base, .str k.text] := rfl
  have c1 := fs_Look (Gl := Gl) hst (c := k.code)
  have hkd : (lookR k.code).kind = kindK k.code := rfl
  rw [ent_eq, hkd] at c1
  have c2 := fs_Shown (Gl := Gl) hst (k := k) hmm
  rw [hky] at c2
  simp only [hky]
  (generalize hQ : (fun (ex : Ex) (_ _ : Nat) (s : St) => _) = Q; unfold ir_otherchar)
  simp +contextual (maxSteps := 1000000) only [go_sem, reduceCtorEq, ↓reduceIte, Nat.reduceAdd, Nat.reduceEqDiff]
  (refine CallP.pure (c1) (fun _ => rfl) ?_; simp +contextual (maxSteps := 1000000) only [go_sem, reduceCtorEq, ↓reduceIte, Nat.reduceAdd, Nat.reduceEqDiff])
  by_cases h1 : kindK k.code = 1
  · have q1 : (kindK k.code == 1) = true := beq_iff_eq.2 h1
    have hc : charK k = shownK k := if_pos h1
    simp +contextual (maxSteps := 1000000) only [q1, go_sem, reduceCtorEq, ↓reduceIte, Nat.reduceAdd, Nat.reduceEqDiff]
    (refine CallP.pure (c2) (fun _ => rfl) ?_; simp +contextual (maxSteps := 1000000) only [go_sem, reduceCtorEq, ↓reduceIte, Nat.reduceAdd, Nat.reduceEqDiff])
    rw [← hQ, if_pos (.inl h1), hc, q1]
    exact ⟨trivial, Ret.flatT rfl rfl⟩
  · have q1 : (kindK k.code == 1) = false := beq_eq_false_iff_ne.2 h1
    by_cases h2 : kindK k.code = 2
    · have q2 : (kindK k.code == 2) = true := beq_iff_eq.2 h2
      have hc : charK k = k.code := if_neg h1
      simp +contextual (maxSteps := 1000000) only [q1, q2, go_sem, reduceCtorEq, ↓reduceIte, Nat.reduceAdd, Nat.reduceEqDiff]
      rw [← hQ, if_pos (.inr h2), hc, q1, q2]
      exact ⟨trivial, Ret.flatT rfl rfl⟩
    · have q2 : (kindK k.code == 2) = false := beq_eq_false_iff_ne.2 h2
      simp +contextual (maxSteps := 1000000) only [q1, q2, go_sem, reduceCtorEq, ↓reduceIte, Nat.reduceAdd, Nat.reduceEqDiff]
      rw [← hQ, if_neg (by omega), q1, q2]
      exact ⟨trivial, Ret.flatT rfl rfl⟩
theorem fs_oAll {Gl : Gh → Prop} (hst : Stays Gl) {k : Ky} (h1 : k.mods ≤ 9223372036854775807) : FS Tryz.prog Gl 37 [.agg (kyAV k)] [] [] (.bool (allO k)) [] [] := by
  refine FS.of hm hst is_otherall (by simp) fun γ hγ hfr => ?_
  have hky : kyAV k = [.int .i64 k.code, .int .i64 k.mods, .int .i64 k.type, .int .i64 k.shifted, .int .i64 k.base, .str k.text] := rfl
  have c1 := fs_Old (Gl := Gl) hst (m := k.mods) h1
  have c2 := fs_oPlain (Gl := Gl) hst (k := k)
  have hz : allO k = ((oldK k.mods != 0) && ((kindK k.code == 2) || (oldK k.mods != 1))) := rfl
  rw [hky] at c2
  simp only [hky]
  (generalize hQ : (fun (ex : Ex) (_ _ : Nat) (s : St) => _) = Q; unfold ir_otherall)
  simp +contextual (maxSteps := 1000000) only [go_sem, reduceCtorEq, ↓reduceIte, Nat.reduceAdd, Nat.reduceEqDiff]
  (refine CallP.pure (c1) (fun _ => rfl) ?_; simp +contextual (maxSteps := 1000000) only [go_sem, reduceCtorEq, ↓reduceIte, Nat.reduceAdd, Nat.reduceEqDiff])
  (refine kGc_call (c2) (fun _ => rfl) (fun hgc => ?_) ?_; (focus (first | (rw [Bool.not_eq_true'] at hgc; simp only [List.map_cons, List.map_nil, List.nil_append, List.append_nil, List.cons_append, Xev_t, Xev_c, upd_app, lf_cons, lf_nil, Nat.reduceEqDiff, ↓reduceIte, hgc, Bool.false_eq_true, Bool.true_eq_false, reduceCtorEq]; done) | (simp only [List.map_cons, List.map_nil, List.nil_append, List.append_nil, List.cons_append, Xev_t, Xev_c, upd_app, lf_cons, lf_nil, Nat.reduceEqDiff, ↓reduceIte, hgc, Bool.false_eq_true, Bool.true_eq_false, reduceCtorEq]; done) | (revert hgc; simp +contextual [Xev_t, Xev_c, upd_app, lf_cons, lf_nil]; done) | simp [Xev_t, Xev_c, upd_app, lf_cons, lf_nil])); simp +contextual (maxSteps := 1000000) only [go_sem, reduceCtorEq, ↓reduceIte, Nat.reduceAdd, Nat.reduceEqDiff])
  rw [← hQ, hz]
  exact ⟨trivial, Ret.flat rfl rfl⟩
theorem fs_oFew {Gl : Gh → Prop} (hst : Stays Gl) {k : Ky} (h0 : 0 ≤ k.mods) (h1 : k.mods ≤ 255) : FS Tryz.prog Gl 36 [.agg (kyAV k)] [] [] (.bool (fewO k)) [] [] := by
  refine FS.of hm hst is_otherfew (by simp) fun γ hγ hfr => ?_
  have hky : kyAV k = [.int .i64 k.code, .int .i64 k.mods, .int .i64 k.type, .int .i64 k.shifted, .int .i64 k.base, .str k.text] := rfl
  have c1 := fs_oAll (Gl := Gl) hst (k := k) (by omega)
  have c2 := fs_oPlain (Gl := Gl) hst (k := k)
  have c3 := fs_Shown (Gl := Gl) hst (k := k) (by omega)
  have c4 : FS Tryz.prog Gl 83 [.int .i64 (shownK k)] [] [] (.tup [.int .i64 ((foldK (shownK k)).getD 0), .bool (foldK (shownK k)).isSome]) [] [] := fs_Fold (Gl := Gl) hst
  have q4 : (bits .and .i64 k.mods 4 != 0) = hasK k.mods 4 := hasB h0 h1 2 (by omega)
  have q4' : (bits .and .i64 k.mods 4 == 0) = !hasK k.mods 4 := by rw [← q4, bne, Bool.not_not]
  have q1 : (bits .and .i64 k.mods 1 != 0) = hasK k.mods 1 := hasB h0 h1 0 (by omega)
  have hz : fewO k = (allO k && hasK k.mods 4 && (if kindK k.code = 2 then (k.code == 9) || (k.code == 13) else hasK k.mods 1 || !(foldK (shownK k)).isSome)) := rfl
  rw [hky] at c1 c2 c3
  simp only [hky]
  (generalize hQ : (fun (ex : Ex) (_ _ : Nat) (s : St) => _) = Q; unfold ir_otherfew)
  simp +contextual (maxSteps := 1000000) only [go_sem, reduceCtorEq, ↓reduceIte, Nat.reduceAdd, Nat.reduceEqDiff]
  (refine CallP.pure (c1) (fun _ => rfl) ?_; simp +contextual (maxSteps := 1000000) only [q4', go_sem, reduceCtorEq, ↓reduceIte, Nat.reduceAdd, Nat.reduceEqDiff])
  cases hA : allO k with
  | false =>
    simp +contextual (maxSteps := 1000000) only [hA, go_sem, reduceCtorEq, ↓reduceIte, Nat.reduceAdd, Nat.reduceEqDiff]
    rw [← hQ, hz, hA]
    exact ⟨trivial, Ret.flat rfl rfl⟩
  | true =>
    cases hB : hasK k.mods 4 with
    | false =>
      simp +contextual (maxSteps := 1000000) only [hA, hB, go_sem, reduceCtorEq, ↓reduceIte, Nat.reduceAdd, Nat.reduceEqDiff]
      rw [← hQ, hz, hA, hB]
      exact ⟨trivial, Ret.flat rfl rfl⟩
    | true =>
      simp +contextual (maxSteps := 1000000) only [hA, hB, go_sem, reduceCtorEq, ↓reduceIte, Nat.reduceAdd, Nat.reduceEqDiff]
      (refine CallP.pure (c2) (fun _ => rfl) ?_; simp +contextual (maxSteps := 1000000) only [go_sem, reduceCtorEq, ↓reduceIte, Nat.reduceAdd, Nat.reduceEqDiff])
      by_cases h2 : kindK k.code = 2
      · have q2 : (kindK k.code == 2) = true := beq_iff_eq.2 h2
        simp +contextual (maxSteps := 1000000) only [q2, go_sem, reduceCtorEq, ↓reduceIte, Nat.reduceAdd, Nat.reduceEqDiff]
        rw [← hQ, hz, hA, hB, if_pos h2]
        exact ⟨trivial, Ret.flat rfl rfl⟩
      · have q2 : (kindK k.code == 2) = false := beq_eq_false_iff_ne.2 h2
        simp +contextual (maxSteps := 1000000) only [q2, go_sem, reduceCtorEq, ↓reduceIte, Nat.reduceAdd, Nat.reduceEqDiff]
        (refine CallP.pure (c3) (fun _ => rfl) ?_; simp +contextual (maxSteps := 1000000) only [go_sem, reduceCtorEq, ↓reduceIte, Nat.reduceAdd, Nat.reduceEqDiff])
        (refine CallP.pure (c4) (fun _ => rfl) ?_; simp +contextual (maxSteps := 1000000) only [q1, go_sem, reduceCtorEq, ↓reduceIte, Nat.reduceAdd, Nat.reduceEqDiff])
        rw [← hQ, hz, hA, hB, if_neg h2]
        exact ⟨trivial, Ret.flat rfl rfl⟩
theorem isO_prog (o : Int) (k : Ky) : isO o k = (!((((!((kindK k.code == 1) || (kindK k.code == 2)) || decide (o < 1)) || decide (o > 2)) || !mayK k) || (k.type == 3)) && lvO o k) := by
  have hl : (o < 1 ∨ o > 2) → lvO o k = false := fun h => by unfold lvO; rw [if_neg (by omega), if_neg (by omega)]
  unfold isO
  by_cases h1 : o < 1
  · rw [hl (.inl h1)]; simp
  · by_cases h2 : o > 2
    · rw [hl (.inr h2)]; simp
    · rw [decide_eq_false h1, decide_eq_false h2]
      simp only [bne]
      cases (kindK k.code == 1) <;> cases (kindK k.code == 2) <;> cases mayK k <;> cases (k.type == 3) <;> rfl
set_option maxHeartbeats 4000000 in
theorem fs_oKey {Gl : Gh → Prop} (hst : Stays Gl) {m : Md} {k : Ky} (hmm : k.mods ≤ 9223372036854775807) (ht : k.text.length ≤ 1000000000000) : FS Tryz.prog Gl 20 [.agg (mdAV m), .agg (kyAV k)] [] [] (.tup [.sl none 1 (bytesAV (othK m.other k)), .bool (isO m.other k)]) [] [] := by
  refine FS.ofW hm hst is_otherKey rfl (by simp) fun γ hγ hfr => ?_
  have hky : kyAV k = [.int .i64 k.code, .int .i64 k.mods, .int .i64 k.type, .int .i64 k.shifted, .int .i64 k.base, .str k.text] := rfl
  have hmd : mdAV m = [.bool m.cursor, .bool m.keypad, .bool m.back, .bool m.focus, .bool m.paste, .bool m.lock, .bool m.line, .int .i64 m.mouse, .int .i64 m.coding, .int .i64 m.other] := rfl
  have c1 := fs_oChar (Gl := Gl) hst (k := k) hmm
  have c2 := fs_MayK (Gl := Gl) hst ht
  have c3 := fs_oAll (Gl := Gl) hst (k := k) hmm
  have c4 := fun (M : MayK k) => fs_oFew (Gl := Gl) hst (k := k) M.m0 M.m1
  have c5 := fs_Old (Gl := Gl) hst (m := k.mods) hmm
  have c6 := fs_Param (Gl := Gl) hst (m := oldK k.mods)
  have hold := old_lt k.mods
  rw [show paramK (oldK k.mods) = 1 + oldK k.mods by unfold paramK; split <;> omega] at c6
  have c7 := fun t : Option Nm => fs_NumV (Gl := Gl) hst (pr := 0) (fi := 126) (nums := [27, 1 + oldK k.mods, charK k]) (tn := t) (by simp)
  have hi3 : intsAV [27, 1 + oldK k.mods, charK k] = [[.int .i64 27], [.int .i64 (1 + oldK k.mods)], [.int .i64 (charK k)]] := rfl
  rw [hi3] at c7
  have c8 : MayK k → FS Tryz.prog Gl 40 [.agg [.int .i64 1, .int .u8 0, .sl none 1 (parsAV (([27, 1 + oldK k.mods, charK k] : List Int).map fun n => [n])), .str [], .int .u8 126, .str []]] [] [] (.tup [.sl none 1 (bytesAV (putB (othSq k))), .int .i64 0]) [] [] := fun M => by
    have h := oth_may M
    have := fs_wPut (Gl := Gl) hst (s := othSq k) (by simp [othSq, numSq]) (by simp [othSq, numSq]) (by simp [othSq, numSq]) (by simp [othSq, numSq]) (sm_num (by simp))
    rw [show putV (othSq k) = .sl none 1 (bytesAV (putB (othSq k))) by unfold putV; rw [h]; rfl, h] at this
    exact this
  have hz := isO_prog m.other k
  have hw : othK m.other k = if isO m.other k = true then putB (othSq k) else [] := rfl
  rw [hky] at c1 c2 c3 c4
  simp only [hky, hmd]
  (generalize hQ : (fun (ex : Ex) (_ _ : Nat) (s : St) => _) = Q; unfold ir_otherKey)
  have no : ∀ {γ' c' : Nat} {st : St}, isO m.other k = false → st.F 4 = .nils → st.F 5 = .bool false → Q .ret γ' c' st := by
    intro γ' c' st h h4 h5
    rw [← hQ, hw, h]
    exact ⟨trivial, .inl ⟨.tup [.nils, .bool false], by simp only [resOf, getAll, IRes.get, h4, h5], RepLe.tupL ⟨.nils 1, .refl _, trivial⟩⟩⟩
  simp +contextual (maxSteps := 1000000) only [go_sem, reduceCtorEq, ↓reduceIte, Nat.reduceAdd, Nat.reduceEqDiff, Nat.reduceLeDiff, Nat.reduceMul, Nat.reduceBEq, Int.reduceBEq, Int.reduceBNe, Int.reduceLT, Int.reduceLE, Int.reduceGT, Int.reduceGE, Int.reduceToNat]
  (refine CallP.pure (c1) (fun _ => rfl) ?_; simp +contextual (maxSteps := 1000000) only [go_sem, reduceCtorEq, ↓reduceIte, Nat.reduceAdd, Nat.reduceEqDiff, Nat.reduceLeDiff, Nat.reduceMul, Nat.reduceBEq, Int.reduceBEq, Int.reduceBNe, Int.reduceLT, Int.reduceLE, Int.reduceGT, Int.reduceGE, Int.reduceToNat])
  (refine kGc_call (c2) (fun _ => rfl) (fun hgc => ?_) ?_; (focus (first | (rw [Bool.not_eq_true'] at hgc; simp only [List.map_cons, List.map_nil, List.nil_append, List.append_nil, List.cons_append, Xev_t, Xev_c, upd_app, lf_cons, lf_nil, Nat.reduceEqDiff, ↓reduceIte, hgc, Bool.false_eq_true, Bool.true_eq_false, reduceCtorEq]; done) | (simp only [List.map_cons, List.map_nil, List.nil_append, List.append_nil, List.cons_append, Xev_t, Xev_c, upd_app, lf_cons, lf_nil, Nat.reduceEqDiff, ↓reduceIte, hgc, Bool.false_eq_true, Bool.true_eq_false, reduceCtorEq]; done) | (revert hgc; simp +contextual [Xev_t, Xev_c, upd_app, lf_cons, lf_nil]; done) | simp [Xev_t, Xev_c, upd_app, lf_cons, lf_nil])); simp +contextual (maxSteps := 1000000) only [go_sem, reduceCtorEq, ↓reduceIte, Nat.reduceAdd, Nat.reduceEqDiff, Nat.reduceLeDiff, Nat.reduceMul, Nat.reduceBEq, Int.reduceBEq, Int.reduceBNe, Int.reduceLT, Int.reduceLE, Int.reduceGT, Int.reduceGE, Int.reduceToNat])
  cases hB : ((((!((kindK k.code == 1) || (kindK k.code == 2)) || decide (m.other < 1)) || decide (m.other > 2)) || !mayK k) || (k.type == 3)) with
  | true =>
    simp +contextual (maxSteps := 1000000) only [hB, go_sem, reduceCtorEq, ↓reduceIte, Nat.reduceAdd, Nat.reduceEqDiff, Nat.reduceLeDiff, Nat.reduceMul, Nat.reduceBEq, Int.reduceBEq, Int.reduceBNe, Int.reduceLT, Int.reduceLE, Int.reduceGT, Int.reduceGE, Int.reduceToNat]
    exact no (by rw [hz, hB]; rfl) rfl rfl
  | false =>
    have hB' := hB
    simp only [Bool.or_eq_false_iff, Bool.not_eq_false', decide_eq_false_iff_not, beq_eq_false_iff_ne, Bool.or_eq_true, beq_iff_eq] at hB'
    obtain ⟨⟨⟨⟨hk, ho1⟩, ho2⟩, hmk⟩, ht3⟩ := hB'
    have M := mayK_iff.1 hmk
    have c4 := c4 M
    have c8 := c8 M
    have hz' : isO m.other k = lvO m.other k := by rw [hz, hB]; rfl
    have yes : ∀ {γ' c' : Nat} {st : St}, isO m.other k = true → st.F 4 = .sl none 1 (bytesAV (putB (othSq k))) → st.F 5 = .bool true → Q .ret γ' c' st := by
      intro γ' c' st h h4 h5
      rw [← hQ, hw, h]
      exact ⟨trivial, .inl ⟨.tup [.sl none 1 (bytesAV (putB (othSq k))), .bool true], by simp only [resOf, getAll, IRes.get, h4, h5], RepLe.refl _⟩⟩
    have hch : (if kindK k.code = 1 ∨ kindK k.code = 2 then charK k else 0) = charK k := if_pos hk
    rcases (show m.other = 1 ∨ m.other = 2 by omega) with e | e
    · have hl : lvO m.other k = fewO k := by rw [e]; rfl
      have hwr : IntKind.i64.wrap (m.other - 1) = 0 := by rw [e]; rfl
      cases hC : fewO k with
      | false =>
        rw [hC] at c4
        simp +contextual (maxSteps := 1000000) only [hB, hwr, hch, go_sem, reduceCtorEq, ↓reduceIte, Nat.reduceAdd, Nat.reduceEqDiff, Nat.reduceLeDiff, Nat.reduceMul, Nat.reduceBEq, Int.reduceBEq, Int.reduceBNe, Int.reduceLT, Int.reduceLE, Int.reduceGT, Int.reduceGE, Int.reduceToNat]
        (refine CallP.pure (c4) (fun _ => rfl) ?_; simp +contextual (maxSteps := 1000000) only [go_sem, reduceCtorEq, ↓reduceIte, Nat.reduceAdd, Nat.reduceEqDiff, Nat.reduceLeDiff, Nat.reduceMul, Nat.reduceBEq, Int.reduceBEq, Int.reduceBNe, Int.reduceLT, Int.reduceLE, Int.reduceGT, Int.reduceGE, Int.reduceToNat])
        exact no (by rw [hz', hl, hC]) rfl rfl
      | true =>
        rw [hC] at c4
        simp +contextual (maxSteps := 1000000) only [hB, hwr, hch, go_sem, reduceCtorEq, ↓reduceIte, Nat.reduceAdd, Nat.reduceEqDiff, Nat.reduceLeDiff, Nat.reduceMul, Nat.reduceBEq, Int.reduceBEq, Int.reduceBNe, Int.reduceLT, Int.reduceLE, Int.reduceGT, Int.reduceGE, Int.reduceToNat]
        (refine CallP.pure (c4) (fun _ => rfl) ?_; simp +contextual (maxSteps := 1000000) only [go_sem, reduceCtorEq, ↓reduceIte, Nat.reduceAdd, Nat.reduceEqDiff, Nat.reduceLeDiff, Nat.reduceMul, Nat.reduceBEq, Int.reduceBEq, Int.reduceBNe, Int.reduceLT, Int.reduceLE, Int.reduceGT, Int.reduceGE, Int.reduceToNat])
        (refine CallP.pure (c5) (fun _ => rfl) ?_; simp +contextual (maxSteps := 1000000) only [go_sem, reduceCtorEq, ↓reduceIte, Nat.reduceAdd, Nat.reduceEqDiff, Nat.reduceLeDiff, Nat.reduceMul, Nat.reduceBEq, Int.reduceBEq, Int.reduceBNe, Int.reduceLT, Int.reduceLE, Int.reduceGT, Int.reduceGE, Int.reduceToNat])
        (refine CallP.pure (c6) (fun _ => rfl) ?_; simp +contextual (maxSteps := 1000000) only [go_sem, reduceCtorEq, ↓reduceIte, Nat.reduceAdd, Nat.reduceEqDiff, Nat.reduceLeDiff, Nat.reduceMul, Nat.reduceBEq, Int.reduceBEq, Int.reduceBNe, Int.reduceLT, Int.reduceLE, Int.reduceGT, Int.reduceGE, Int.reduceToNat])
        (refine CallP.pure (c7 _) (fun _ => rfl) ?_; simp +contextual (maxSteps := 1000000) only [go_sem, reduceCtorEq, ↓reduceIte, Nat.reduceAdd, Nat.reduceEqDiff, Nat.reduceLeDiff, Nat.reduceMul, Nat.reduceBEq, Int.reduceBEq, Int.reduceBNe, Int.reduceLT, Int.reduceLE, Int.reduceGT, Int.reduceGE, Int.reduceToNat])
        (refine CallP.pure (c8) (fun _ => rfl) ?_; simp +contextual (maxSteps := 1000000) only [go_sem, reduceCtorEq, ↓reduceIte, Nat.reduceAdd, Nat.reduceEqDiff, Nat.reduceLeDiff, Nat.reduceMul, Nat.reduceBEq, Int.reduceBEq, Int.reduceBNe, Int.reduceLT, Int.reduceLE, Int.reduceGT, Int.reduceGE, Int.reduceToNat])
        exact yes (by rw [hz', hl, hC]) rfl rfl
    · have hl : lvO m.other k = allO k := by rw [e]; rfl
      have hwr : IntKind.i64.wrap (m.other - 1) = 1 := by rw [e]; rfl
      cases hC : allO k with
      | false =>
        rw [hC] at c3
        simp +contextual (maxSteps := 1000000) only [hB, hwr, hch, go_sem, reduceCtorEq, ↓reduceIte, Nat.reduceAdd, Nat.reduceEqDiff, Nat.reduceLeDiff, Nat.reduceMul, Nat.reduceBEq, Int.reduceBEq, Int.reduceBNe, Int.reduceLT, Int.reduceLE, Int.reduceGT, Int.reduceGE, Int.reduceToNat]
        (refine CallP.pure (c3) (fun _ => rfl) ?_; simp +contextual (maxSteps := 1000000) only [go_sem, reduceCtorEq, ↓reduceIte, Nat.reduceAdd, Nat.reduceEqDiff, Nat.reduceLeDiff, Nat.reduceMul, Nat.reduceBEq, Int.reduceBEq, Int.reduceBNe, Int.reduceLT, Int.reduceLE, Int.reduceGT, Int.reduceGE, Int.reduceToNat])
        exact no (by rw [hz', hl, hC]) rfl rfl
      | true =>
        rw [hC] at c3
        simp +contextual (maxSteps := 1000000) only [hB, hwr, hch, go_sem, reduceCtorEq, ↓reduceIte, Nat.reduceAdd, Nat.reduceEqDiff, Nat.reduceLeDiff, Nat.reduceMul, Nat.reduceBEq, Int.reduceBEq, Int.reduceBNe, Int.reduceLT, Int.reduceLE, Int.reduceGT, Int.reduceGE, Int.reduceToNat]
        (refine CallP.pure (c3) (fun _ => rfl) ?_; simp +contextual (maxSteps := 1000000) only [go_sem, reduceCtorEq, ↓reduceIte, Nat.reduceAdd, Nat.reduceEqDiff, Nat.reduceLeDiff, Nat.reduceMul, Nat.reduceBEq, Int.reduceBEq, Int.reduceBNe, Int.reduceLT, Int.reduceLE, Int.reduceGT, Int.reduceGE, Int.reduceToNat])
        (refine CallP.pure (c5) (fun _ => rfl) ?_; simp +contextual (maxSteps := 1000000) only [go_sem, reduceCtorEq, ↓reduceIte, Nat.reduceAdd, Nat.reduceEqDiff, Nat.reduceLeDiff, Nat.reduceMul, Nat.reduceBEq, Int.reduceBEq, Int.reduceBNe, Int.reduceLT, Int.reduceLE, Int.reduceGT, Int.reduceGE, Int.reduceToNat])
        (refine CallP.pure (c6) (fun _ => rfl) ?_; simp +contextual (maxSteps := 1000000) only [go_sem, reduceCtorEq, ↓reduceIte, Nat.reduceAdd, Nat.reduceEqDiff, Nat.reduceLeDiff, Nat.reduceMul, Nat.reduceBEq, Int.reduceBEq, Int.reduceBNe, Int.reduceLT, Int.reduceLE, Int.reduceGT, Int.reduceGE, Int.reduceToNat])
        (refine CallP.pure (c7 _) (fun _ => rfl) ?_; simp +contextual (maxSteps := 1000000) only [go_sem, reduceCtorEq, ↓reduceIte, Nat.reduceAdd, Nat.reduceEqDiff, Nat.reduceLeDiff, Nat.reduceMul, Nat.reduceBEq, Int.reduceBEq, Int.reduceBNe, Int.reduceLT, Int.reduceLE, Int.reduceGT, Int.reduceGE, Int.reduceToNat])
        (refine CallP.pure (c8) (fun _ => rfl) ?_; simp +contextual (maxSteps := 1000000) only [go_sem, reduceCtorEq, ↓reduceIte, Nat.reduceAdd, Nat.reduceEqDiff, Nat.reduceLeDiff, Nat.reduceMul, Nat.reduceBEq, Int.reduceBEq, Int.reduceBNe, Int.reduceLT, Int.reduceLE, Int.reduceGT, Int.reduceGE, Int.reduceToNat])
        exact yes (by rw [hz', hl, hC]) rfl rfl
end Go.Proofs.YtbepihadhmfklaaGreatDoor

set_option linter.unusedVariables false
set_option linter.unusedSimpArgs false
set_option maxRecDepth 100000
namespace Go.Proofs.YtbepihadhmfklaaGreatDoor
open Go Go.Ab
def ir_boardClears : ICode :=
 (.seq
 (.reg [⟨some 2, none, .mov (.c (.bool false))⟩] (some [0]))
 (.seq
 (.reg [⟨some 3, none, .mov (.t 0)⟩,
 ⟨some 4, none, .mm false (.t 3) (.c (.int .i64 0))⟩,
 ⟨some 5, none, .bin .and .none (.t 4) (.c (.int .i64 9))⟩,
 ⟨some 6, none, .bin .neq .none (.t 5) (.c (.int .i64 0))⟩,
 ⟨some 2, none, .mov (.t 6)⟩] (some [2]))
 .ret))
theorem is_boardClears : IrOf Tryz.prog 15 7 ir_boardClears [.t 2] := ⟨_, Tryz.func15, rfl, by kernel_rfl, by kernel_rfl, by kernel_rfl⟩

def ir_boardKey1 : ICode :=
 (.seq
 (.reg [⟨some 2, none, .mov (.c .nils)⟩] (some [0, 1]))
 (.seq
 (.reg [⟨some 3, none, .ld none (.t 0)⟩,
 ⟨some 4, none, .ld (some 6) (.t 1)⟩,
 ⟨some 5, none, .call (.c (.fn (.func 28) [] [])) [(.t 3), (.t 4)]⟩,
 ⟨some 2, none, .mov (.t 5)⟩] (some [2]))
 .ret))
theorem is_boardKey1 : IrOf Tryz.prog 27 6 ir_boardKey1 [.t 2] := ⟨_, Tryz.func27, rfl, by kernel_rfl, by kernel_rfl, by kernel_rfl⟩

def ir_boardKey2 : ICode :=
 (.seq
 (.reg [⟨some 2, none, .mov (.c .nils)⟩] (some [0, 1]))
 (.seq
 (.seq
 (.reg [⟨some 6, none, .ld (some 10) (.t 0)⟩,
 ⟨some 7, none, .ld (some 6) (.t 1)⟩,
 ⟨some 8, none, .call (.c (.fn (.func 20) [] [])) [(.t 6), (.t 7)]⟩,
 ⟨some 5, none, .mov (.t 8)⟩,
 ⟨some 9, none, .ext (.t 5) 0⟩,
 ⟨some 10, none, .ext (.t 5) 1⟩,
 ⟨some 3, none, .mov (.t 9)⟩,
 ⟨some 4, none, .mov (.t 10)⟩] (some [0, 1, 3, 4]))
 (.seq
 (.reg [⟨some 11, none, .mov (.t 4)⟩] (some [0, 1, 3, 11]))
 (.cond (.t 11)
 (.seq
 (.reg [⟨some 12, none, .mov (.t 3)⟩,
 ⟨some 2, none, .mov (.t 12)⟩] (some [2]))
 .ret)
 .skip)))
 (.seq
 (.reg [⟨some 13, none, .ld (some 10) (.t 0)⟩,
 ⟨some 14, none, .ld (some 6) (.t 1)⟩,
 ⟨some 15, none, .call (.c (.fn (.func 30) [] [])) [(.t 13), (.t 14)]⟩,
 ⟨some 2, none, .mov (.t 15)⟩] (some [2]))
 .ret)))
theorem is_boardKey2 : IrOf Tryz.prog 29 16 ir_boardKey2 [.t 2] := ⟨_, Tryz.func29, rfl, by kernel_rfl, by kernel_rfl, by kernel_rfl⟩

def ir_boardKey : ICode :=
 (.seq
 (.reg [⟨some 3, none, .box 23 (.t 0)⟩,
 ⟨some 4, none, .box 3 (.t 1)⟩,
 ⟨some 5, none, .box 25 (.t 2)⟩,
 ⟨some 6, none, .mov (.c .nils)⟩] (some [3, 4, 5]))
 (.seq
 (.seq
 (.reg [⟨some 8, none, .fa 5 (.t 3)⟩,
 ⟨some 9, none, .ld none (.t 8)⟩] (some [3, 4, 5, 9]))
 (.cond (.t 9)
 (.seq
 (.reg [⟨some 6, none, .mov (.c .nils)⟩] (some [6]))
 .ret)
 .skip))
 (.seq
 (.reg [⟨some 10, none, .mkm⟩,
 ⟨some 11, none, .mkf (.func 27) [] [(.t 4), (.t 5)]⟩,
 ⟨none, none, .ins .bool (.t 10) (.c (.bool true)) (.t 11)⟩,
 ⟨some 12, none, .mkf (.func 29) [] [(.t 3), (.t 5)]⟩,
 ⟨none, none, .ins .bool (.t 10) (.c (.bool false)) (.t 12)⟩,
 ⟨some 13, none, .mov (.t 10)⟩,
 ⟨some 7, none, .mov (.t 13)⟩] (some [4, 7]))
 (.seq
 (.reg [⟨some 14, none, .mov (.t 7)⟩,
 ⟨some 15, none, .ld none (.t 4)⟩,
 ⟨some 16, none, .call (.c (.fn (.func 15) [] [])) [(.t 15)]⟩,
 ⟨some 17, none, .lkp .bool .nilf false (.t 14) (.t 16)⟩,
 ⟨some 18, none, .call (.t 17) []⟩,
 ⟨some 6, none, .mov (.t 18)⟩] (some [6]))
 .ret))))
theorem is_boardKey : IrOf Tryz.prog 13 19 ir_boardKey [.t 6] := ⟨_, Tryz.func13, rfl, by kernel_rfl, by kernel_rfl, by kernel_rfl⟩


theorem fe_bool {a b : Bool} {v : AV} {es : List (AV × AV)} : findE .bool (.bool a) ((.bool b, v) :: es) = if (a == b) = true then some (some v) else findE .bool (.bool a) es := by
  simp only [findE, keyEq, if_true]
  cases (a == b) <;> rfl
theorem isKey_bool {a : Bool} : (isKey .bool (.bool a) = true) = True := by simp [isKey]
theorem CallP.peek {P : Program} {Gl : Gh → Prop} {k : FuncId} {args : List AV} {H H0 : Hp} {T : Tk} {f : Nat → Nm} {K : AV → Hp → Tk → Prop} {r : AV} (h : FS P Gl k args H0 [] r H0 []) (hr : ∀ f, Ab.rn f r = r) (hH : ∀ p ∈ H0, p ∈ H) (hK : ∀ H', K r H' T) : CallP P Gl k args H T f K := by
  refine ⟨H0, [], _, h, hH, by simp, ?_⟩
  rintro r' H1 T1 ⟨rfl, rfl, rfl⟩
  refine ⟨_, T, fun p hp => hp, fun s hs => .inr ⟨hs, by simp⟩, ?_⟩
  rw [hr]
  exact hK _
theorem and9 {m : Int} (hm : m ≤ 9223372036854775807) : (bits .and .i64 (max m 0) 9 != 0) = clearsK m := by
  obtain ⟨n, hn⟩ := Int.eq_ofNat_of_zero_le (show 0 ≤ max m 0 by omega)
  unfold clearsK hasK
  have h : n &&& 9 = n % 2 + n / 8 % 2 * 8 := by
    have e : n &&& 9 = (n % 16) &&& 9 := by rw [show (16 : Nat) = 2 ^ 4 from rfl, ← Nat.and_two_pow_sub_one_eq_mod, Nat.and_assoc]; rfl
    have key : ∀ i : Fin 16, i.val &&& 9 = i.val % 2 + i.val / 8 % 2 * 8 := by decide
    have := key ⟨n % 16, Nat.mod_lt _ (by omega)⟩
    simp only at this
    rw [e, this]
    omega
  rw [hn, show (9 : Int) = ((9 : Nat) : Int) from rfl, and_i64 (by omega) (by omega), h, Bool.eq_iff_iff]
  simp only [bne_iff_ne, Bool.or_eq_true, decide_eq_true_eq]
  omega
theorem fs_bClears {Gl : Gh → Prop} (hst : Stays Gl) {fl : Int} (h : fl ≤ 9223372036854775807) : FS Tryz.prog Gl 15 [.int .i64 fl] [] [] (.bool (clearsK fl)) [] [] := by
  refine FS.of hm hst is_boardClears (by simp) fun γ hγ hfr => ?_
  have hq := and9 h
  (generalize hQ : (fun (ex : Ex) (_ _ : Nat) (s : St) => _) = Q; unfold ir_boardClears)
  simp +contextual (maxSteps := 1000000) only [maxE, hq, go_sem, reduceCtorEq, ↓reduceIte, Nat.reduceAdd, Nat.reduceEqDiff]
  rw [← hQ]
  exact ⟨trivial, Ret.flat rfl rfl⟩
theorem rdAB {a b : Nm} {xs ys : List AV} (ha : 1 ≤ a.1) (hb : 1 ≤ b.1) (hx : ∀ f, rnL f xs = xs) (hy : ∀ f, rnL f ys = ys) (ox : AV.okInL 0 [a, b] [] xs) (oy : AV.okInL 0 [a, b] [] ys) : Rd [(a, .cells xs), (b, .cells ys)] := by
  have h : ¬(a.1 = 0 ∧ a.2.1 = 0) := fun h => by omega
  have h2 : ¬(b.1 = 0 ∧ b.2.1 = 0) := fun h => by omega
  refine ⟨fun f => ?_, fun p hp => ?_⟩
  · simp [rnH, rnN, rnHB, hx, hy, h, h2]
  · simp only [List.mem_cons, List.not_mem_nil, or_false] at hp
    rcases hp with rfl | rfl
    · exact ⟨by simp [nmOK, h], ox⟩
    · exact ⟨by simp [nmOK, h2], oy⟩
theorem fs_bKey1 {Gl : Gh → Prop} (hst : Stays Gl) {k : Ky} {fl : Int} {a b : Nm} (ha : 1 ≤ a.1) (hb : 1 ≤ b.1) (hab : a ≠ b) (hfl : fl ≤ 9223372036854775807) (ht : k.text.length ≤ 1000000000000) : FS Tryz.prog Gl 27 [.ptr a 0, .ptr b 0] [(a, .cells [.int .i64 fl]), (b, .cells (kyAV k))] [] (.sl none 1 (bytesAV (keyK fl k))) [(a, .cells [.int .i64 fl]), (b, .cells (kyAV k))] [] := by
  refine FS.of hm hst is_boardKey1 (by simp) fun γ hγ hfr => ?_
  have hky : kyAV k = [.int .i64 k.code, .int .i64 k.mods, .int .i64 k.type, .int .i64 k.shifted, .int .i64 k.base, .str k.text] := rfl
  have c1 := fs_Key (Gl := Gl) hst (k := k) hfl ht
  have hne : (a = b) = False := eq_false hab
  have hne' : (b = a) = False := eq_false fun e => hab e.symm
  have hrd : Rd [(a, .cells [.int .i64 fl]), (b, .cells (kyAV k))] := rdAB ha hb (fun _ => rfl) (fun _ => rfl) ⟨trivial, trivial⟩ ⟨trivial, trivial, trivial, trivial, trivial, trivial, trivial⟩
  rw [hky] at c1
  (generalize hQ : (fun (ex : Ex) (_ _ : Nat) (s : St) => _) = Q; unfold ir_boardKey1)
  simp +contextual (maxSteps := 1000000) only [hky, hne, hne', go_sem, reduceCtorEq, ↓reduceIte, Nat.reduceAdd, Nat.reduceEqDiff]
  (refine CallP.pure (c1) (fun _ => rfl) ?_; simp +contextual (maxSteps := 1000000) only [go_sem, reduceCtorEq, ↓reduceIte, Nat.reduceAdd, Nat.reduceEqDiff])
  rw [← hQ]
  exact ⟨trivial, Ret.reads hrd rfl rfl (by simp [hky])⟩
theorem fs_bKey2 {Gl : Gh → Prop} (hst : Stays Gl) {m : Md} {k : Ky} {a b : Nm} (ha : 1 ≤ a.1) (hb : 1 ≤ b.1) (hab : a ≠ b) (hmm : k.mods ≤ 9223372036854775807) (ht : k.text.length ≤ 1000000000000) : FS Tryz.prog Gl 29 [.ptr a 0, .ptr b 0] [(a, .cells (mdAV m)), (b, .cells (kyAV k))] [] (.sl none 1 (bytesAV (if isO m.other k = true then putB (othSq k) else legK m k))) [(a, .cells (mdAV m)), (b, .cells (kyAV k))] [] := by
  refine FS.of hm hst is_boardKey2 (by simp) fun γ hγ hfr => ?_
  have hky : kyAV k = [.int .i64 k.code, .int .i64 k.mods, .int .i64 k.type, .int .i64 k.shifted, .int .i64 k.base, .str k.text] := rfl
  have hmd : mdAV m = [.bool m.cursor, .bool m.keypad, .bool m.back, .bool m.focus, .bool m.paste, .bool m.lock, .bool m.line, .int .i64 m.mouse, .int .i64 m.coding, .int .i64 m.other] := rfl
  have c1 := fs_oKey (Gl := Gl) hst (m := m) (k := k) hmm ht
  have c2 := fs_legKey (Gl := Gl) hst (m := m) (k := k) ht
  have hne : (a = b) = False := eq_false hab
  have hne' : (b = a) = False := eq_false fun e => hab e.symm
  have hrd : Rd [(a, .cells (mdAV m)), (b, .cells (kyAV k))] := rdAB ha hb (fun _ => rfl) (fun _ => rfl) ⟨trivial, trivial, trivial, trivial, trivial, trivial, trivial, trivial, trivial, trivial, trivial⟩ ⟨trivial, trivial, trivial, trivial, trivial, trivial, trivial⟩
  have hw : othK m.other k = if isO m.other k = true then putB (othSq k) else [] := rfl
  rw [hky, hmd] at c1 c2
  (generalize hQ : (fun (ex : Ex) (_ _ : Nat) (s : St) => _) = Q; unfold ir_boardKey2)
  simp +contextual (maxSteps := 1000000) only [hky, hmd, hne, hne', go_sem, reduceCtorEq, ↓reduceIte, Nat.reduceAdd, Nat.reduceEqDiff]
  (refine CallP.pure (c1) (fun _ => rfl) ?_; simp +contextual (maxSteps := 1000000) only [go_sem, reduceCtorEq, ↓reduceIte, Nat.reduceAdd, Nat.reduceEqDiff])
  cases hO : isO m.other k with
  | true =>
    rw [hO, if_pos rfl] at hw
    simp +contextual (maxSteps := 1000000) only [hO, go_sem, reduceCtorEq, ↓reduceIte, Nat.reduceAdd, Nat.reduceEqDiff]
    rw [← hQ, hw, hO, if_pos rfl]
    exact ⟨trivial, Ret.reads hrd rfl rfl (by simp [hky, hmd])⟩
  | false =>
    simp +contextual (maxSteps := 1000000) only [hO, hne, hne', go_sem, reduceCtorEq, ↓reduceIte, Nat.reduceAdd, Nat.reduceEqDiff]
    (refine CallP.pure (c2) (fun _ => rfl) ?_; simp +contextual (maxSteps := 1000000) only [go_sem, reduceCtorEq, ↓reduceIte, Nat.reduceAdd, Nat.reduceEqDiff])
    rw [← hQ, hO, if_neg (by simp)]
    exact ⟨trivial, Ret.reads hrd rfl rfl (by simp [hky, hmd])⟩
set_option maxHeartbeats 4000000 in
theorem fs_bKey {Gl : Gh → Prop} (hst : Stays Gl) {m : Md} {k : Ky} {fl : Int} (hfl : fl ≤ 9223372036854775807) (hmm : k.mods ≤ 9223372036854775807) (ht : k.text.length ≤ 1000000000000) : FS Tryz.prog Gl 13 [.agg (mdAV m), .int .i64 fl, .agg (kyAV k)] [] [] (.sl none 1 (bytesAV (boardK m fl k))) [] [] := by
  refine FS.ofW hm hst is_boardKey rfl (by simp) fun γ hγ hfr => ?_
  have hky : kyAV k = [.int .i64 k.code, .int .i64 k.mods, .int .i64 k.type, .int .i64 k.shifted, .int .i64 k.base, .str k.text] := rfl
  have hmd : mdAV m = [.bool m.cursor, .bool m.keypad, .bool m.back, .bool m.focus, .bool m.paste, .bool m.lock, .bool m.line, .int .i64 m.mouse, .int .i64 m.coding, .int .i64 m.other] := rfl
  have hz : boardK m fl k = if m.lock = true then [] else if clearsK fl = true then keyK fl k else if isO m.other k = true then putB (othSq k) else legK m k := rfl
  have c1 := fs_bClears (Gl := Gl) hst hfl
  have c2 := fs_bKey1 (Gl := Gl) hst (k := k) (fl := fl) (a := (γ, 1, 0)) (b := (γ, 2, 0)) hγ hγ (by simp) hfl ht
  have c3 := fs_bKey2 (Gl := Gl) hst (m := m) (k := k) (a := (γ, 0, 0)) (b := (γ, 2, 0)) hγ hγ (by simp) hmm ht
  rw [hky] at c2 c3
  rw [hmd] at c3
  simp only [hky, hmd]
  (generalize hQ : (fun (ex : Ex) (_ _ : Nat) (s : St) => _) = Q; unfold ir_boardKey)
  simp +contextual (maxSteps := 1000000) only [go_sem, reduceCtorEq, ↓reduceIte, Nat.reduceAdd, Nat.reduceEqDiff]
  cases hl : m.lock with
  | true =>
    simp +contextual (maxSteps := 1000000) only [hl, go_sem, reduceCtorEq, ↓reduceIte, Nat.reduceAdd, Nat.reduceEqDiff]
    rw [← hQ, hz, hl]
    exact ⟨trivial, .inl ⟨_, rfl, RepLe.nils 1⟩⟩
  | false =>
    rw [hl] at c3
    cases hC : clearsK fl with
    | true =>
      rw [hC] at c1
      simp +contextual (maxSteps := 1000000) only [hl, fe_nil, fe_bool, isKey_bool, go_sem, reduceCtorEq, ↓reduceIte, Nat.reduceAdd, Nat.reduceEqDiff]
      (refine CallP.pure (c1) (fun _ => rfl) ?_; simp +contextual (maxSteps := 1000000) only [fe_nil, fe_bool, isKey_bool, go_sem, reduceCtorEq, ↓reduceIte, Nat.reduceAdd, Nat.reduceEqDiff])
      refine CallP.peek c2 (fun _ => rfl) (by simp) fun H' => ?_
      simp +contextual (maxSteps := 1000000) only [go_sem, reduceCtorEq, ↓reduceIte, Nat.reduceAdd, Nat.reduceEqDiff]
      rw [← hQ, hz, hl, hC]
      exact ⟨trivial, .inl ⟨_, rfl, RepLe.refl _⟩⟩
    | false =>
      rw [hC] at c1
      simp +contextual (maxSteps := 1000000) only [hl, fe_nil, fe_bool, isKey_bool, go_sem, reduceCtorEq, ↓reduceIte, Nat.reduceAdd, Nat.reduceEqDiff]
      (refine CallP.pure (c1) (fun _ => rfl) ?_; simp +contextual (maxSteps := 1000000) only [fe_nil, fe_bool, isKey_bool, go_sem, reduceCtorEq, ↓reduceIte, Nat.reduceAdd, Nat.reduceEqDiff])
      refine CallP.peek c3 (fun _ => rfl) (by simp) fun H' => ?_
      simp +contextual (maxSteps := 1000000) only [go_sem, reduceCtorEq, ↓reduceIte, Nat.reduceAdd, Nat.reduceEqDiff]
      rw [← hQ, hz, hl, hC]
      exact ⟨trivial, .inl ⟨_, rfl, RepLe.refl _⟩⟩
end Go.Proofs.YtbepihadhmfklaaGreatDoor

set_option linter.unusedVariables false
set_option linter.unusedSimpArgs false
set_option maxRecDepth 100000
namespace Go.Proofs.YtbepihadhmfklaaGreatDoor
open Go Go.Ab
def ir_clavierlaw14awake : ICode :=
 (.seq
 (.reg [⟨some 0, none, .mov (.c (.bool false))⟩] (some []))
 (.seq
 (.reg [⟨some 2, none, .bld [(.int .i64 0), (.int .i64 0), (.int .i64 0), (.int .i64 0), (.int .i64 0), (.str [])] [(0, 1, (.c (.int .i64 99))), (1, 1, (.c (.int .i64 4))), (2, 1, (.c (.int .i64 1)))]⟩,
 ⟨some 1, none, .box 25 (.c (.agg [(.int .i64 0), (.int .i64 0), (.int .i64 0), (.int .i64 0), (.int .i64 0), (.str [])]))⟩,
 ⟨none, none, .st 6 (.t 1) (.t 2)⟩] (some [1]))
 (.seq
 (.reg [⟨some 3, none, .bld [(.bool false), (.bool false), (.bool false), (.bool false), (.bool false), (.bool false), (.bool false), (.int .i64 0), (.int .i64 0), (.int .i64 0)] []⟩,
 ⟨some 4, none, .ld (some 6) (.t 1)⟩,
 ⟨some 5, none, .call (.c (.fn (.func 13) [] [])) [(.t 3), (.c (.int .i64 0)), (.t 4)]⟩,
 ⟨some 6, none, .b2s (.t 5)⟩,
 ⟨some 7, none, .bin .eql .none (.t 6) (.c (.str [3]))⟩,
 ⟨some 8, none, .mov (.t 7)⟩,
 ⟨some 9, some (8, true), .bld [(.bool false), (.bool false), (.bool false), (.bool false), (.bool false), (.bool false), (.bool false), (.int .i64 0), (.int .i64 0), (.int .i64 0)] [(9, 1, (.c (.int .i64 2)))]⟩,
 ⟨some 10, some (8, true), .ld (some 6) (.t 1)⟩,
 ⟨some 11, some (8, true), .call (.c (.fn (.func 13) [] [])) [(.t 9), (.c (.int .i64 0)), (.t 10)]⟩,
 ⟨some 12, some (8, true), .b2s (.t 11)⟩,
 ⟨some 13, some (8, true), .bin .eql .none (.t 12) (.c (.str [27, 91, 50, 55, 59, 53, 59, 57, 57, 126]))⟩,
 ⟨some 14, none, .pick (.t 8) (.t 13) (.c (.bool false))⟩,
 ⟨some 15, none, .mov (.t 14)⟩,
 ⟨some 16, some (15, true), .bld [(.bool false), (.bool false), (.bool false), (.bool false), (.bool false), (.bool false), (.bool false), (.int .i64 0), (.int .i64 0), (.int .i64 0)] [(9, 1, (.c (.int .i64 2)))]⟩,
 ⟨some 17, some (15, true), .ld (some 6) (.t 1)⟩,
 ⟨some 18, some (15, true), .call (.c (.fn (.func 13) [] [])) [(.t 16), (.c (.int .i64 1)), (.t 17)]⟩,
 ⟨some 19, some (15, true), .b2s (.t 18)⟩,
 ⟨some 20, some (15, true), .bin .eql .none (.t 19) (.c (.str [27, 91, 57, 57, 59, 53, 117]))⟩,
 ⟨some 21, none, .pick (.t 15) (.t 20) (.c (.bool false))⟩,
 ⟨some 22, none, .mov (.t 21)⟩,
 ⟨some 23, some (22, true), .bld [(.bool false), (.bool false), (.bool false), (.bool false), (.bool false), (.bool false), (.bool false), (.int .i64 0), (.int .i64 0), (.int .i64 0)] [(5, 1, (.c (.bool true)))]⟩,
 ⟨some 24, some (22, true), .ld (some 6) (.t 1)⟩,
 ⟨some 25, some (22, true), .call (.c (.fn (.func 13) [] [])) [(.t 23), (.c (.int .i64 1)), (.t 24)]⟩,
 ⟨some 26, some (22, true), .len (.t 25)⟩,
 ⟨some 27, some (22, true), .bin .eql .none (.t 26) (.c (.int .i64 0))⟩,
 ⟨some 28, none, .pick (.t 22) (.t 27) (.c (.bool false))⟩,
 ⟨some 29, none, .mov (.t 28)⟩,
 ⟨some 30, some (29, true), .call (.c (.fn (.func 15) [] [])) [(.c (.int .i64 9))]⟩,
 ⟨some 31, none, .pick (.t 29) (.t 30) (.c (.bool false))⟩,
 ⟨some 32, none, .mov (.t 31)⟩,
 ⟨some 33, some (32, true), .call (.c (.fn (.func 15) [] [])) [(.c (.int .i64 6))]⟩,
 ⟨some 34, some (32, true), .un .not (.t 33)⟩,
 ⟨some 35, none, .pick (.t 32) (.t 34) (.c (.bool false))⟩,
 ⟨some 0, none, .mov (.t 35)⟩] (some [0]))
 .ret)))
theorem is_clavierlaw14awake : IrOf Tryz.prog 12 36 ir_clavierlaw14awake [.t 0] := ⟨_, Tryz.func12, rfl, by kernel_rfl, by kernel_rfl, by kernel_rfl⟩

def MdB : Md := ⟨false, false, false, false, false, false, false, 0, 0, 0⟩
theorem brd_a : boardK MdB 0 ⟨99, 4, 1, 0, 0, []⟩ = [3] := by decide +kernel
theorem brd_b : boardK { MdB with other := 2 } 0 ⟨99, 4, 1, 0, 0, []⟩ = [27, 91, 50, 55, 59, 53, 59, 57, 57, 126] := by decide +kernel
theorem brd_c : boardK { MdB with other := 2 } 1 ⟨99, 4, 1, 0, 0, []⟩ = [27, 91, 57, 57, 59, 53, 117] := by decide +kernel
theorem brd_d : boardK { MdB with lock := true } 1 ⟨99, 4, 1, 0, 0, []⟩ = [] := by decide +kernel
theorem fs_awake14 {Gl : Gh → Prop} (hst : Stays Gl) : FS Tryz.prog Gl 12 [] [] [] (.bool true) [] [] := by
  refine FS.of hm hst is_clavierlaw14awake (by simp) fun γ hγ hfr => ?_
  have c1 := fs_bKey (Gl := Gl) hst (m := MdB) (fl := 0) (k := ⟨99, 4, 1, 0, 0, []⟩) (by simp) (by simp) (by simp)
  have c2 := fs_bKey (Gl := Gl) hst (m := { MdB with other := 2 }) (fl := 0) (k := ⟨99, 4, 1, 0, 0, []⟩) (by simp) (by simp) (by simp)
  have c3 := fs_bKey (Gl := Gl) hst (m := { MdB with other := 2 }) (fl := 1) (k := ⟨99, 4, 1, 0, 0, []⟩) (by simp) (by simp) (by simp)
  have c4 := fs_bKey (Gl := Gl) hst (m := { MdB with lock := true }) (fl := 1) (k := ⟨99, 4, 1, 0, 0, []⟩) (by simp) (by simp) (by simp)
  have c5 := fs_bClears (Gl := Gl) hst (fl := 9) (by simp)
  have c6 := fs_bClears (Gl := Gl) hst (fl := 6) (by simp)
  rw [show clearsK 9 = true by decide] at c5
  rw [show clearsK 6 = false by decide] at c6
  rw [brd_a] at c1
  rw [brd_b] at c2
  rw [brd_c] at c3
  rw [brd_d] at c4
  simp only [kyAV, mdAV, MdB] at c1 c2 c3 c4
  (generalize hQ : (fun (ex : Ex) (_ _ : Nat) (s : St) => _) = Q; unfold ir_clavierlaw14awake)
  simp +contextual (maxSteps := 1000000) only [go_sem, reduceCtorEq, ↓reduceIte, Nat.reduceAdd, Nat.reduceEqDiff, Nat.reduceLeDiff, Nat.reduceMul, Nat.reduceBEq, Int.reduceBEq, Int.reduceBNe, Int.reduceLT, Int.reduceLE, Int.reduceGT, Int.reduceGE, Int.reduceToNat]
  (refine CallP.pure (c1) (fun _ => rfl) ?_; simp +contextual (maxSteps := 1000000) only [bb_un, bb_is, go_sem, reduceCtorEq, ↓reduceIte, Nat.reduceAdd, Nat.reduceEqDiff, Nat.reduceLeDiff, Nat.reduceMul, Nat.reduceBEq, Int.reduceBEq, Int.reduceBNe, Int.reduceLT, Int.reduceLE, Int.reduceGT, Int.reduceGE, Int.reduceToNat])
  (refine CallP.pure (c2) (fun _ => rfl) ?_; simp +contextual (maxSteps := 1000000) only [bb_un, bb_is, go_sem, reduceCtorEq, ↓reduceIte, Nat.reduceAdd, Nat.reduceEqDiff, Nat.reduceLeDiff, Nat.reduceMul, Nat.reduceBEq, Int.reduceBEq, Int.reduceBNe, Int.reduceLT, Int.reduceLE, Int.reduceGT, Int.reduceGE, Int.reduceToNat])
  (refine CallP.pure (c3) (fun _ => rfl) ?_; simp +contextual (maxSteps := 1000000) only [bb_un, bb_is, go_sem, reduceCtorEq, ↓reduceIte, Nat.reduceAdd, Nat.reduceEqDiff, Nat.reduceLeDiff, Nat.reduceMul, Nat.reduceBEq, Int.reduceBEq, Int.reduceBNe, Int.reduceLT, Int.reduceLE, Int.reduceGT, Int.reduceGE, Int.reduceToNat])
  (refine CallP.pure (c4) (fun _ => rfl) ?_; simp +contextual (maxSteps := 1000000) only [bb_un, bb_is, bytesAV_length', go_sem, reduceCtorEq, ↓reduceIte, Nat.reduceAdd, Nat.reduceEqDiff, Nat.reduceLeDiff, Nat.reduceMul, Nat.reduceBEq, Int.reduceBEq, Int.reduceBNe, Int.reduceLT, Int.reduceLE, Int.reduceGT, Int.reduceGE, Int.reduceToNat])
  (refine CallP.pure (c5) (fun _ => rfl) ?_; simp +contextual (maxSteps := 1000000) only [go_sem, reduceCtorEq, ↓reduceIte, Nat.reduceAdd, Nat.reduceEqDiff, Nat.reduceLeDiff, Nat.reduceMul, Nat.reduceBEq, Int.reduceBEq, Int.reduceBNe, Int.reduceLT, Int.reduceLE, Int.reduceGT, Int.reduceGE, Int.reduceToNat])
  (refine CallP.pure (c6) (fun _ => rfl) ?_; simp +contextual (maxSteps := 1000000) only [go_sem, reduceCtorEq, ↓reduceIte, Nat.reduceAdd, Nat.reduceEqDiff, Nat.reduceLeDiff, Nat.reduceMul, Nat.reduceBEq, Int.reduceBEq, Int.reduceBNe, Int.reduceLT, Int.reduceLE, Int.reduceGT, Int.reduceGE, Int.reduceToNat])
  rw [← hQ]
  exact ⟨trivial, Ret.flat rfl rfl⟩
end Go.Proofs.YtbepihadhmfklaaGreatDoor

set_option linter.unusedVariables false
set_option linter.unusedSimpArgs false
set_option maxRecDepth 100000
namespace Go.Proofs.YtbepihadhmfklaaGreatDoor
open Go Go.Ab
def ir_clavierlaw14BoardWhole : ICode :=
 (.seq
 (.reg [⟨some 3, none, .box 23 (.t 0)⟩,
 ⟨some 5, none, .box 25 (.t 2)⟩,
 ⟨some 6, none, .mov (.c (.bool false))⟩] (some [1, 3, 5]))
 (.seq
 (.reg [⟨some 13, none, .call (.c (.fn (.func 12) [] [])) []⟩,
 ⟨some 7, none, .mov (.t 13)⟩] (some [1, 3, 5, 7]))
 (.seq
 (.seq
 (.reg [⟨some 14, none, .fa 5 (.t 5)⟩,
 ⟨some 15, none, .ld none (.t 14)⟩,
 ⟨some 16, none, .lns (.t 15)⟩,
 ⟨some 17, none, .bin .gtr .none (.t 16) (.c (.int .i64 100))⟩] (some [1, 3, 5, 7, 17]))
 (.cond (.t 17)
 (.seq
 (.reg [⟨some 18, none, .mov (.t 7)⟩,
 ⟨some 6, none, .mov (.t 18)⟩] (some [6]))
 .ret)
 .skip))
 (.seq
 (.reg [⟨some 19, none, .fa 0 (.t 5)⟩,
 ⟨some 20, none, .ld none (.t 19)⟩,
 ⟨some 21, none, .call (.c (.fn (.func 24) [] [])) [(.t 20)]⟩,
 ⟨some 8, none, .box 41 (.c (.agg [(.int .i64 0), (.int .u8 0), (.int .i64 0), (.int .i64 0), (.bool false)]))⟩,
 ⟨none, none, .st 5 (.t 8) (.t 21)⟩] (some [1, 3, 5, 7, 8]))
 (.seq
 (.reg [⟨some 22, none, .ld (some 10) (.t 3)⟩,
 ⟨some 23, none, .mov (.t 1)⟩,
 ⟨some 24, none, .cvi .i64 (.t 23)⟩,
 ⟨some 25, none, .ld (some 6) (.t 5)⟩,
 ⟨some 26, none, .call (.c (.fn (.func 13) [] [])) [(.t 22), (.t 24), (.t 25)]⟩,
 ⟨some 9, none, .mov (.t 26)⟩] (some [7, 8, 9]))
 (.seq
 (.seq
 (.reg [⟨some 27, none, .fa 0 (.t 8)⟩,
 ⟨some 28, none, .ld none (.t 27)⟩,
 ⟨some 29, none, .bin .eql .none (.t 28) (.c (.int .i64 1))⟩,
 ⟨some 30, none, .mov (.t 29)⟩,
 ⟨some 31, some (30, false), .fa 0 (.t 8)⟩,
 ⟨some 32, some (30, false), .ld none (.t 31)⟩,
 ⟨some 33, some (30, false), .bin .eql .none (.t 32) (.c (.int .i64 2))⟩,
 ⟨some 34, none, .pick (.t 30) (.c (.bool true)) (.t 33)⟩,
 ⟨some 35, none, .mov (.t 34)⟩,
 ⟨some 36, some (35, false), .fa 0 (.t 8)⟩,
 ⟨some 37, some (35, false), .ld none (.t 36)⟩,
 ⟨some 38, some (35, false), .bin .eql .none (.t 37) (.c (.int .i64 5))⟩,
 ⟨some 39, none, .pick (.t 35) (.c (.bool true)) (.t 38)⟩,
 ⟨some 40, none, .mov (.t 39)⟩,
 ⟨some 41, some (40, false), .mov (.t 9)⟩,
 ⟨some 42, some (40, false), .len (.t 41)⟩,
 ⟨some 43, some (40, false), .bin .eql .none (.t 42) (.c (.int .i64 0))⟩,
 ⟨some 44, none, .pick (.t 40) (.c (.bool true)) (.t 43)⟩] (some [7, 9, 44]))
 (.cond (.t 44)
 (.seq
 (.reg [⟨some 45, none, .mov (.t 7)⟩,
 ⟨some 6, none, .mov (.t 45)⟩] (some [6]))
 .ret)
 .skip))
 (.seq
 (.reg [⟨some 47, none, .mov (.t 9)⟩,
 ⟨some 48, none, .call (.c (.fn (.func 26) [] [])) [(.t 47)]⟩,
 ⟨some 46, none, .mov (.t 48)⟩,
 ⟨some 49, none, .ext (.t 46) 0⟩,
 ⟨some 50, none, .ext (.t 46) 1⟩,
 ⟨some 51, none, .ext (.t 46) 2⟩,
 ⟨some 10, none, .box 47 (.c (.agg [(.int .i64 0), (.int .u8 0), .nils, (.str []), (.int .u8 0), (.str [])]))⟩,
 ⟨none, none, .st 6 (.t 10) (.t 49)⟩,
 ⟨some 11, none, .mov (.t 50)⟩,
 ⟨some 12, none, .mov (.t 51)⟩] (some [7, 9, 11, 12]))
 (.seq
 (.reg [⟨some 52, none, .mov (.t 7)⟩,
 ⟨some 53, none, .mov (.t 52)⟩,
 ⟨some 54, some (53, true), .mov (.t 12)⟩,
 ⟨some 55, some (53, true), .bin .eql .none (.t 54) (.c (.int .i64 0))⟩,
 ⟨some 56, none, .pick (.t 53) (.t 55) (.c (.bool false))⟩,
 ⟨some 57, none, .mov (.t 56)⟩,
 ⟨some 58, some (57, true), .mov (.t 11)⟩,
 ⟨some 59, some (57, true), .mov (.t 9)⟩,
 ⟨some 60, some (57, true), .len (.t 59)⟩,
 ⟨some 61, some (57, true), .bin .eql .none (.t 58) (.t 60)⟩,
 ⟨some 62, none, .pick (.t 57) (.t 61) (.c (.bool false))⟩,
 ⟨some 6, none, .mov (.t 62)⟩] (some [6]))
 .ret))))))))
theorem is_clavierlaw14BoardWhole : IrOf Tryz.prog 11 63 ir_clavierlaw14BoardWhole [.t 6] := ⟨_, Tryz.func11, rfl, by kernel_rfl, by kernel_rfl, by kernel_rfl⟩


set_option maxHeartbeats 4000000 in
theorem fs_BoardWhole {Gl : Gh → Prop} (hst : Stays Gl) {m : Md} {fl : UInt8} {k : Ky} (_ : True) (_ : True) (h : k.text.length ≤ maxLen ∧ k.mods ≤ 9223372036854775807) : FS Tryz.prog Gl 11 [.agg (mdAV m), .int .u8 (fl.toNat : Int), .agg (kyAV k)] [] [] (.bool true) [] [] := by
  refine FS.of hm hst is_clavierlaw14BoardWhole (by simp) fun γ hγ hfr => ?_
  obtain ⟨ht, hmm⟩ := h
  have hky : kyAV k = [.int .i64 k.code, .int .i64 k.mods, .int .i64 k.type, .int .i64 k.shifted, .int .i64 k.base, .str k.text] := rfl
  have hmd : mdAV m = [.bool m.cursor, .bool m.keypad, .bool m.back, .bool m.focus, .bool m.paste, .bool m.lock, .bool m.line, .int .i64 m.mouse, .int .i64 m.coding, .int .i64 m.other] := rfl
  simp only [hky, hmd]
  (generalize hQ : (fun (ex : Ex) (_ _ : Nat) (s : St) => _) = Q; unfold ir_clavierlaw14BoardWhole)
  simp +contextual (maxSteps := 1000000) only [go_sem, reduceCtorEq, ↓reduceIte, Nat.reduceAdd, Nat.reduceEqDiff, Nat.reduceLeDiff, Nat.reduceMul, Nat.reduceBEq, Int.reduceBEq, Int.reduceBNe, Int.reduceLT, Int.reduceLE, Int.reduceGT, Int.reduceGE, Int.reduceToNat]
  (refine CallP.pure (fs_awake14 hst) (fun _ => rfl) ?_; simp +contextual (maxSteps := 1000000) only [go_sem, reduceCtorEq, ↓reduceIte, Nat.reduceAdd, Nat.reduceEqDiff, Nat.reduceLeDiff, Nat.reduceMul, Nat.reduceBEq, Int.reduceBEq, Int.reduceBNe, Int.reduceLT, Int.reduceLE, Int.reduceGT, Int.reduceGE, Int.reduceToNat])
  by_cases h : (k.text.length : Int) > 100
  · have q : decide ((k.text.length : Int) > 100) = true := decide_eq_true h
    simp +contextual (maxSteps := 1000000) only [q, go_sem, reduceCtorEq, ↓reduceIte, Nat.reduceAdd, Nat.reduceEqDiff, Nat.reduceLeDiff, Nat.reduceMul, Nat.reduceBEq, Int.reduceBEq, Int.reduceBNe, Int.reduceLT, Int.reduceLE, Int.reduceGT, Int.reduceGE, Int.reduceToNat]
    rw [← hQ]
    exact ⟨trivial, Ret.flat rfl rfl⟩
  · have q : decide ((k.text.length : Int) > 100) = false := decide_eq_false h
    have hfl := fl.toNat_lt
    have hw : IntKind.i64.wrap (fl.toNat : Int) = fl.toNat := by rw [IntKind.wrap_i64]; omega
    have c1 := fs_Look (Gl := Gl) hst (c := k.code)
    have hkd : (lookR k.code).kind = kindK k.code := rfl
    rw [ent_eq, hkd] at c1
    have c2 := fs_bKey (Gl := Gl) hst (m := m) (fl := (fl.toNat : Int)) (k := k) (by omega) hmm (by omega)
    simp only [hky, hmd] at c2
    simp +contextual (maxSteps := 1000000) only [q, go_sem, reduceCtorEq, ↓reduceIte, Nat.reduceAdd, Nat.reduceEqDiff, Nat.reduceLeDiff, Nat.reduceMul, Nat.reduceBEq, Int.reduceBEq, Int.reduceBNe, Int.reduceLT, Int.reduceLE, Int.reduceGT, Int.reduceGE, Int.reduceToNat]
    (refine CallP.pure (c1) (fun _ => rfl) ?_; simp +contextual (maxSteps := 1000000) only [hw, go_sem, reduceCtorEq, ↓reduceIte, Nat.reduceAdd, Nat.reduceEqDiff, Nat.reduceLeDiff, Nat.reduceMul, Nat.reduceBEq, Int.reduceBEq, Int.reduceBNe, Int.reduceLT, Int.reduceLE, Int.reduceGT, Int.reduceGE, Int.reduceToNat])
    (refine CallP.pure (c2) (fun _ => rfl) ?_; simp +contextual (maxSteps := 1000000) only [bytesAV_length', go_sem, reduceCtorEq, ↓reduceIte, Nat.reduceAdd, Nat.reduceEqDiff, Nat.reduceLeDiff, Nat.reduceMul, Nat.reduceBEq, Int.reduceBEq, Int.reduceBNe, Int.reduceLT, Int.reduceLE, Int.reduceGT, Int.reduceGE, Int.reduceToNat])
    by_cases hk : kindK k.code = 1 ∨ kindK k.code = 2 ∨ kindK k.code = 5
    · have qk : ((((kindK k.code == 1) || (kindK k.code == 2)) || (kindK k.code == 5)) || (((boardK m (fl.toNat : Int) k).length : Int) == 0)) = true := by
        rcases hk with h | h | h <;> rw [h] <;> simp
      simp +contextual (maxSteps := 1000000) only [qk, go_sem, reduceCtorEq, ↓reduceIte, Nat.reduceAdd, Nat.reduceEqDiff, Nat.reduceLeDiff, Nat.reduceMul, Nat.reduceBEq, Int.reduceBEq, Int.reduceBNe, Int.reduceLT, Int.reduceLE, Int.reduceGT, Int.reduceGE, Int.reduceToNat]
      rw [← hQ]
      exact ⟨trivial, Ret.flat rfl rfl⟩
    · have k1 : kindK k.code ≠ 1 := fun e => hk (.inl e)
      have k2 : kindK k.code ≠ 2 := fun e => hk (.inr (.inl e))
      have k5 : kindK k.code ≠ 5 := fun e => hk (.inr (.inr e))
      rcases board_whole (m := m) (fl := (fl.toNat : Int)) k1 k2 k5 with hn | ⟨s, hs, hp⟩
      · have qk : ((((kindK k.code == 1) || (kindK k.code == 2)) || (kindK k.code == 5)) || (((boardK m (fl.toNat : Int) k).length : Int) == 0)) = true := by
          rw [hn]; simp
        simp +contextual (maxSteps := 1000000) only [qk, go_sem, reduceCtorEq, ↓reduceIte, Nat.reduceAdd, Nat.reduceEqDiff, Nat.reduceLeDiff, Nat.reduceMul, Nat.reduceBEq, Int.reduceBEq, Int.reduceBNe, Int.reduceLT, Int.reduceLE, Int.reduceGT, Int.reduceGE, Int.reduceToNat]
        rw [← hQ]
        exact ⟨trivial, Ret.flat rfl rfl⟩
      · rw [hp]
        have hlen : (putB s).length ≤ 20000 := by
          have := bodyB_len hs
          have h3 := (mayP_sm hs).2.2.2.2
          have h2 := (mayP_sm hs).2.2.2.1
          unfold putB
          repeat' split
          all_goals simp only [List.length_append, List.length_cons, List.length_nil]
          all_goals omega
        obtain ⟨t1, t2, t3⟩ := take_may hs []
        rw [List.append_nil] at t1 t2 t3
        have d2 := fs_wTake (Gl := Gl) hst (tb := none) (Nat.le_trans hlen (by omega)) t1 t2
        have hs2 : s.c = [.int .i64 s.k, .int .u8 s.pr, .sl none 1 (parsAV s.ps), .str s.it, .int .u8 s.fi, .str s.da] := rfl
        rw [t3, hs2] at d2
        have qs : ∀ b : Int, (b == b) = true := by simp
        cases hz : ((((kindK k.code == 1) || (kindK k.code == 2)) || (kindK k.code == 5)) || (((putB s).length : Int) == 0)) with
        | true =>
          simp +contextual (maxSteps := 1000000) only [hz, go_sem, reduceCtorEq, ↓reduceIte, Nat.reduceAdd, Nat.reduceEqDiff, Nat.reduceLeDiff, Nat.reduceMul, Nat.reduceBEq, Int.reduceBEq, Int.reduceBNe, Int.reduceLT, Int.reduceLE, Int.reduceGT, Int.reduceGE, Int.reduceToNat]
          rw [← hQ]
          exact ⟨trivial, Ret.flat rfl rfl⟩
        | false =>
          simp +contextual (maxSteps := 1000000) only [hz, go_sem, reduceCtorEq, ↓reduceIte, Nat.reduceAdd, Nat.reduceEqDiff, Nat.reduceLeDiff, Nat.reduceMul, Nat.reduceBEq, Int.reduceBEq, Int.reduceBNe, Int.reduceLT, Int.reduceLE, Int.reduceGT, Int.reduceGE, Int.reduceToNat]
          (refine CallP.pure (d2) (fun _ => rfl) ?_; simp +contextual (maxSteps := 1000000) only [bytesAV_length', qs, go_sem, reduceCtorEq, ↓reduceIte, Nat.reduceAdd, Nat.reduceEqDiff, Nat.reduceLeDiff, Nat.reduceMul, Nat.reduceBEq, Int.reduceBEq, Int.reduceBNe, Int.reduceLT, Int.reduceLE, Int.reduceGT, Int.reduceGE, Int.reduceToNat])
          rw [← hQ]
          exact ⟨trivial, Ret.flat rfl rfl⟩
end Go.Proofs.YtbepihadhmfklaaGreatDoor

set_option linter.unusedVariables false
set_option linter.unusedSimpArgs false
set_option maxRecDepth 100000
namespace Go.Proofs.YtbepihadhmfklaaGreatDoor
open Go Go.Ab Go.WideShapes Go.RowKit
theorem seat_own : ownKnob Tryz.prog.godebug = none := by kernel_rfl
theorem seat_laidOut : laidOutB Tryz.prog = true := by kernel_rfl
section
variable {H : Type} {enc : TypeId × Value → H} {W : World} {base : Nat} {v : Value} {d : DataW H} {p : List MemPlace}
theorem u8_of {n : Int} (h1 : IntKind.u8.min ≤ n) (h2 : n ≤ IntKind.u8.max) : ∃ c : UInt8, (c.toNat : Int) = n := by
  have h1' : 0 ≤ n := by simpa [IntKind.min, IntKind.signed] using h1
  have h2' : n ≤ 255 := by simpa [IntKind.max, IntKind.signed, IntKind.bits] using h2
  refine ⟨UInt8.ofNat n.toNat, ?_⟩
  rw [UInt8.toNat_ofNat', Nat.mod_eq_of_lt (by omega)]; omega
theorem op_u8 (hv : Value.okWide Tryz.prog W .any base 5 v) (hd : DataW.Trod enc Tryz.prog W 0 (fun _ => true) true 5 v d p) : ∃ c : UInt8, True ∧ Rep (gh0 W) (.int .u8 (c.toNat : Int)) v := by
  obtain ⟨n, rfl⟩ := okWide_int (P := Tryz.prog) (k := .u8) (by kernel_rfl) hv
  obtain ⟨x, ⟨m, h1, h2, h3⟩, hr⟩ := (TR.int (P := Tryz.prog) (k := .u8) (by kernel_rfl)).arg1 rfl hd
  simp only [List.cons.injEq, and_true] at h1
  subst h1
  obtain ⟨c, rfl⟩ := u8_of h2 h3
  exact ⟨c, trivial, hr⟩
end
end Go.Proofs.YtbepihadhmfklaaGreatDoor

set_option linter.unusedVariables false
set_option maxRecDepth 100000
namespace Go.Proofs.YtbepihadhmfklaaGreatDoor
open Go Go.Ab
end Go.Proofs.YtbepihadhmfklaaGreatDoor

set_option linter.unusedVariables false
set_option maxRecDepth 100000
namespace Go.Proofs.YtbepihadhmfklaaGreatDoor
open Go Go.Ab
theorem fixW_of5 {W : World} (h : laidMetH Tryz.prog [("math/bits.deBruijn32tab", Rows.laid_math_bits_deBruijn32tab), ("math/bits.deBruijn64tab", Rows.laid_math_bits_deBruijn64tab), ("internal/strconv.uint64pow10", Rows.laid_internal_strconv_uint64pow10), ("unicode/utf8.acceptRanges", Rows.laid_unicode_utf8_acceptRanges), ("unicode/utf8.first", Rows.laid_unicode_utf8_first)] W) : FixW W := by
  rw [MakeChecks.laidMetH_plain _ _ _ (by kernel_rfl)] at h
  have h2 := laidMet.filter (fun x => x.1 == "internal/strconv.uint64pow10") h
  have h3 : laidMet Tryz.prog [("internal/strconv.uint64pow10", Lib.tabData .u64 Lib.pow10Tab)] W := h2
  have h4 := Lib.tabIs_of_head (g := 3) (t := 184) (e := 175) (n := 20) (by kernel_rfl) (by kernel_rfl) (by kernel_rfl) (by kernel_rfl) (by kernel_rfl) (by kernel_rfl) h3
  intro p hp
  obtain rfl := List.mem_singleton.1 hp
  unfold Lib.TabIs World.var? at h4
  rw [show Program.globalNamed Tryz.prog "internal/strconv.uint64pow10" = some 3 from by kernel_rfl] at h4
  simp only [Option.bind_some] at h4
  split at h4
  · rename_i cs e fr hh
    simp only [Option.some.injEq] at h4
    refine ⟨e, fr, ?_⟩
    rw [hh, h4]
    simp [Lib.pow10Tab]
  · cases h4
end Go.Proofs.YtbepihadhmfklaaGreatDoor

set_option linter.unusedVariables false
set_option linter.unusedSimpArgs false
set_option maxRecDepth 100000
namespace Go.Proofs.YtbepihadhmfklaaGreatDoor
open Go Go.Ab Go.WideShapes Go.RowKit
def zero_apiKey : Value := .agg #[.int .i64 0, .int .i64 0, .int .i64 0, .int .i64 0, .int .i64 0, .string ByteArray.empty]
section
variable {H : Type} {enc : TypeId × Value → H} {W : World} {base : Nat} {v : Value} {d : DataW H} {p : List MemPlace}
theorem key_is : structIs Tryz.prog 25 [(0, 3), (1, 3), (2, 3), (3, 3), (4, 3), (5, 9)] = true := by kernel_rfl
end
end Go.Proofs.YtbepihadhmfklaaGreatDoor

set_option linter.unusedVariables false
set_option linter.unusedSimpArgs false
set_option maxRecDepth 100000
namespace Go.Proofs.YtbepihadhmfklaaGreatDoor
open Go Go.Ab Go.WideShapes Go.RowKit
section
variable {H : Type} {enc : TypeId × Value → H} {W : World} {base : Nat} {v : Value} {d : DataW H} {p : List MemPlace}
theorem tr_KeyI : TR enc Tryz.prog W 25 fun xs => ∃ k : Ky, xs = kyAV k ∧ k.text.length ≤ maxLen ∧ k.mods ≤ 9223372036854775807 := by
  refine (TR.structL (Rs := [fun xs => ∃ n, xs = [.int .i64 n] ∧ IntKind.i64.min ≤ n ∧ n ≤ IntKind.i64.max, fun xs => ∃ n, xs = [.int .i64 n] ∧ IntKind.i64.min ≤ n ∧ n ≤ IntKind.i64.max, fun xs => ∃ n, xs = [.int .i64 n] ∧ IntKind.i64.min ≤ n ∧ n ≤ IntKind.i64.max, fun xs => ∃ n, xs = [.int .i64 n] ∧ IntKind.i64.min ≤ n ∧ n ≤ IntKind.i64.max, fun xs => ∃ n, xs = [.int .i64 n] ∧ IntKind.i64.min ≤ n ∧ n ≤ IntKind.i64.max, fun xs => ∃ s, xs = [.str s] ∧ s.length ≤ maxLen]) 6 key_is (by kernel_rfl) ?_).mono ?_
  · exact ⟨rfl, TR.int (by kernel_rfl), 1, by kernel_rfl, rfl, TR.int (by kernel_rfl), 1, by kernel_rfl, rfl, TR.int (by kernel_rfl), 1, by kernel_rfl, rfl, TR.int (by kernel_rfl), 1, by kernel_rfl, rfl, TR.int (by kernel_rfl), 1, by kernel_rfl, rfl, TR.str (by kernel_rfl), 1, by kernel_rfl, rfl⟩
  · rintro xs ⟨_, _, ⟨a, rfl, _⟩, ⟨_, _, ⟨b, rfl, hb⟩, ⟨_, _, ⟨c, rfl, _⟩, ⟨_, _, ⟨e, rfl, _⟩, ⟨_, _, ⟨f, rfl, _⟩, ⟨_, _, ⟨t, rfl, ht⟩, h, rfl⟩, rfl⟩, rfl⟩, rfl⟩, rfl⟩, rfl⟩
    have h : _ = [] := h
    subst h
    exact ⟨⟨a, b, c, e, f, t⟩, rfl, ht, by simpa [IntKind.max, IntKind.signed, IntKind.bits] using hb.2⟩
theorem op_apiKeyI (hv : Value.okWide Tryz.prog W .any base 25 v) (hd : DataW.Trod enc Tryz.prog W 0 (fun _ => true) true 25 v d p) : ∃ k : Ky, (k.text.length ≤ maxLen ∧ k.mods ≤ 9223372036854775807) ∧ Rep (gh0 W) (.agg (kyAV k)) v := by
  obtain ⟨cs, rfl⟩ := okWide_struct key_is hv
  obtain ⟨xs, ⟨k, rfl, h⟩, hr⟩ := tr_KeyI.argN hd
  exact ⟨k, h, hr⟩
end
end Go.Proofs.YtbepihadhmfklaaGreatDoor

set_option linter.unusedVariables false
set_option linter.unusedSimpArgs false
set_option maxRecDepth 100000
namespace Go.Proofs.YtbepihadhmfklaaGreatDoor
open Go Go.Ab Go.WideShapes Go.RowKit
def zero_apiModes : Value := .agg #[.bool false, .bool false, .bool false, .bool false, .bool false, .bool false, .bool false, .int .i64 0, .int .i64 0, .int .i64 0]
section
variable {H : Type} {enc : TypeId × Value → H} {W : World} {base : Nat} {v : Value} {d : DataW H} {p : List MemPlace}
theorem modes_is : structIs Tryz.prog 23 [(0, 4), (1, 4), (2, 4), (3, 4), (4, 4), (5, 4), (6, 4), (7, 3), (8, 3), (9, 3)] = true := by kernel_rfl
theorem tr_Modes : TR enc Tryz.prog W 23 fun xs => ∃ m : Md, xs = mdAV m := by
  refine (TR.structL (Rs := [fun xs => ∃ b, xs = [.bool b], fun xs => ∃ b, xs = [.bool b], fun xs => ∃ b, xs = [.bool b], fun xs => ∃ b, xs = [.bool b], fun xs => ∃ b, xs = [.bool b], fun xs => ∃ b, xs = [.bool b], fun xs => ∃ b, xs = [.bool b], fun xs => ∃ n, xs = [.int .i64 n] ∧ IntKind.i64.min ≤ n ∧ n ≤ IntKind.i64.max, fun xs => ∃ n, xs = [.int .i64 n] ∧ IntKind.i64.min ≤ n ∧ n ≤ IntKind.i64.max, fun xs => ∃ n, xs = [.int .i64 n] ∧ IntKind.i64.min ≤ n ∧ n ≤ IntKind.i64.max]) 10 modes_is (by kernel_rfl) ?_).mono ?_
  · exact ⟨rfl, TR.bool (by kernel_rfl), 1, by kernel_rfl, rfl, TR.bool (by kernel_rfl), 1, by kernel_rfl, rfl, TR.bool (by kernel_rfl), 1, by kernel_rfl, rfl, TR.bool (by kernel_rfl), 1, by kernel_rfl, rfl, TR.bool (by kernel_rfl), 1, by kernel_rfl, rfl, TR.bool (by kernel_rfl), 1, by kernel_rfl, rfl, TR.bool (by kernel_rfl), 1, by kernel_rfl, rfl, TR.int (by kernel_rfl), 1, by kernel_rfl, rfl, TR.int (by kernel_rfl), 1, by kernel_rfl, rfl, TR.int (by kernel_rfl), 1, by kernel_rfl, rfl⟩
  · rintro xs ⟨_, _, ⟨a, rfl⟩, ⟨_, _, ⟨b, rfl⟩, ⟨_, _, ⟨c, rfl⟩, ⟨_, _, ⟨e, rfl⟩, ⟨_, _, ⟨f, rfl⟩, ⟨_, _, ⟨g, rfl⟩, ⟨_, _, ⟨i, rfl⟩, ⟨_, _, ⟨j, rfl, _⟩, ⟨_, _, ⟨k, rfl, _⟩, ⟨_, _, ⟨l, rfl, _⟩, h, rfl⟩, rfl⟩, rfl⟩, rfl⟩, rfl⟩, rfl⟩, rfl⟩, rfl⟩, rfl⟩, rfl⟩
    have h : _ = [] := h
    subst h
    exact ⟨⟨a, b, c, e, f, g, i, j, k, l⟩, rfl⟩
theorem op_apiModes (hv : Value.okWide Tryz.prog W .any base 23 v) (hd : DataW.Trod enc Tryz.prog W 0 (fun _ => true) true 23 v d p) : ∃ m : Md, True ∧ Rep (gh0 W) (.agg (mdAV m)) v := by
  obtain ⟨cs, rfl⟩ := okWide_struct modes_is hv
  obtain ⟨xs, ⟨m, rfl⟩, hr⟩ := tr_Modes.argN hd
  exact ⟨m, trivial, hr⟩
end
end Go.Proofs.YtbepihadhmfklaaGreatDoor

set_option linter.unusedVariables false
set_option linter.unusedSimpArgs false
set_option maxRecDepth 100000
namespace Go.Proofs.YtbepihadhmfklaaGreatDoor
open Go Go.Ab Go.ChangeShapes Go.WideShapes Go.ChangeAt Go.RowKit
theorem boardWhole_lifted (os : Os) (started : os.Started) (H : Type) (enc : TypeId × Value → H) (F : Stop.Interp) :
    ReturnsInHanded {} Tryz.checked os 11 .any ((OpenSpec.ofChange Rows.boardWholeSpec).preRow enc Tryz.prog Tryz.f11 Rows.boardWholeRow.domain false Rows.boardWholeRow.laid) (((OpenSpec.ofChange Rows.boardWholeSpec).at F).post enc Tryz.prog Tryz.f11 false true false false) := by
  have hw : (DataW.whole enc Tryz.prog ((World.laidAll Tryz.prog os [("math/bits.deBruijn32tab", Rows.laid_math_bits_deBruijn32tab), ("math/bits.deBruijn64tab", Rows.laid_math_bits_deBruijn64tab), ("internal/strconv.uint64pow10", Rows.laid_internal_strconv_uint64pow10), ("unicode/utf8.acceptRanges", Rows.laid_unicode_utf8_acceptRanges), ("unicode/utf8.first", Rows.laid_unicode_utf8_first)]).forCall (fun _ _ => 0) ⟨#[], #[zero_apiModes, .int .u8 0, zero_apiKey], []⟩).memory Tryz.f11.params.toList (OpenSpec.ofChange Rows.boardWholeSpec).vars false (#[zero_apiModes, .int .u8 0, zero_apiKey] : Array Value).toList 8).any (fun x => true) = true := by kernel_rfl
  cases hx : DataW.whole enc Tryz.prog ((World.laidAll Tryz.prog os [("math/bits.deBruijn32tab", Rows.laid_math_bits_deBruijn32tab), ("math/bits.deBruijn64tab", Rows.laid_math_bits_deBruijn64tab), ("internal/strconv.uint64pow10", Rows.laid_internal_strconv_uint64pow10), ("unicode/utf8.acceptRanges", Rows.laid_unicode_utf8_acceptRanges), ("unicode/utf8.first", Rows.laid_unicode_utf8_first)]).forCall (fun _ _ => 0) ⟨#[], #[zero_apiModes, .int .u8 0, zero_apiKey], []⟩).memory Tryz.f11.params.toList (OpenSpec.ofChange Rows.boardWholeSpec).vars false (#[zero_apiModes, .int .u8 0, zero_apiKey] : Array Value).toList 8 with
  | none => rw [hx] at hw; cases hw
  | some x =>
  rw [hx] at hw
  have hok : Input.okWideB Tryz.checked.prog ((World.laidAll Tryz.prog os [("math/bits.deBruijn32tab", Rows.laid_math_bits_deBruijn32tab), ("math/bits.deBruijn64tab", Rows.laid_math_bits_deBruijn64tab), ("internal/strconv.uint64pow10", Rows.laid_internal_strconv_uint64pow10), ("unicode/utf8.acceptRanges", Rows.laid_unicode_utf8_acceptRanges), ("unicode/utf8.first", Rows.laid_unicode_utf8_first)]).forCall (fun _ _ => 0) ⟨#[], #[zero_apiModes, .int .u8 0, zero_apiKey], []⟩) 11 ⟨#[], #[zero_apiModes, .int .u8 0, zero_apiKey], []⟩ = true := by kernel_rfl
  refine returnsInHanded_of_row (C := Tryz.checked) (s := (OpenSpec.ofChange Rows.boardWholeSpec)) seat_own started (by kernel_rfl) Tryz.func11
    ⟨World.laidAll Tryz.prog os [("math/bits.deBruijn32tab", Rows.laid_math_bits_deBruijn32tab), ("math/bits.deBruijn64tab", Rows.laid_math_bits_deBruijn64tab), ("internal/strconv.uint64pow10", Rows.laid_internal_strconv_uint64pow10), ("unicode/utf8.acceptRanges", Rows.laid_unicode_utf8_acceptRanges), ("unicode/utf8.first", Rows.laid_unicode_utf8_first)], fun _ _ => 0, ⟨#[], #[zero_apiModes, .int .u8 0, zero_apiKey], []⟩, World.laidAll_os _ _ _, World.shaped_of_ZipB (by kernel_rfl) (by kernel_rfl), (Input.okWide_of_okWideB (base := 0) hok).1, (Input.okWide_of_okWideB hok).2,
      OpenSpec.preRow_of_cond 8 hx (by kernel_rfl) (fun k hk => by cases hk) (by kernel_rfl) (by rw [show Rows.boardWholeRow.laid = [("math/bits.deBruijn32tab", Rows.laid_math_bits_deBruijn32tab), ("math/bits.deBruijn64tab", Rows.laid_math_bits_deBruijn64tab), ("internal/strconv.uint64pow10", Rows.laid_internal_strconv_uint64pow10), ("unicode/utf8.acceptRanges", Rows.laid_unicode_utf8_acceptRanges), ("unicode/utf8.first", Rows.laid_unicode_utf8_first)] from rfl, MakeChecks.laidMetH_plain _ _ _ (by kernel_rfl)]; exact laidMet_laidAll _ (by kernel_rfl) (by kernel_rfl)),
      by simp only [Assume.holds]; exact ⟨by simp, by simp, fun _ => Modest.zero, by simp, by simp⟩⟩ ?_
  intro W base args ds gs before hval0 hW _ hcond hreach hL _ _
  have hval : ∀ (j : Nat) t v, Tryz.f11.params[j]? = some t → args[j]? = some v → Value.okWide Tryz.prog W .any base t v := hval0
  have hW' := hW
  obtain ⟨p, q, hA0, hV, rfl, _, _⟩ := hW
  have hA : DataW.TrodAll enc Tryz.prog W 0 (fun _ => true) true Tryz.f11.params.toList args.toList ds p := hA0
  rw [Tryz.params11] at hA hval
  obtain ⟨v0, vs0, d0, ds0, p0, q0, hargs, rfl, rfl, h0, r0⟩ := trodAll_cons hA
  obtain ⟨v1, vs1, d1, ds1, p1, q1, rfl, rfl, rfl, h1, r1⟩ := trodAll_cons r0
  obtain ⟨v2, vs2, d2, ds2, p2, q2, rfl, rfl, rfl, h2, r2⟩ := trodAll_cons r1
  obtain ⟨rfl, rfl, rfl⟩ := trodAll_nil r2
  obtain rfl : args = #[v0, v1, v2] := by cases args; simp_all
  obtain ⟨rfl, rfl⟩ := trodVars_none hV
  have lt0 : ∀ x ∈ p0, x.block < W.heap.size := by obtain ⟨m, hm⟩ := h0; exact DataW.trod_lt m _ _ _ hm
  obtain ⟨x0, c0, e0⟩ := op_apiModes (hval 0 23 v0 rfl rfl) h0
  have lt1 : ∀ x ∈ p1, x.block < W.heap.size := by obtain ⟨m, hm⟩ := h1; exact DataW.trod_lt m _ _ _ hm
  obtain ⟨x1, c1, e1⟩ := op_u8 (hval 1 5 v1 rfl rfl) h1
  have lt2 : ∀ x ∈ p2, x.block < W.heap.size := by obtain ⟨m, hm⟩ := h2; exact DataW.trod_lt m _ _ _ hm
  obtain ⟨x2, c2, e2⟩ := op_apiKeyI (hval 2 25 v2 rfl rfl) h2
  clear hA0 hval0
  refine ((fs_BoardWhole (Gl := fun _ => True) (fun _ _ _ _ => trivial) c0 c1 c2).row (fixW_of5 hL) trivial ⟨_, _, rfl, e0, ⟨_, _, rfl, e1, ⟨_, _, rfl, e2, rfl⟩⟩⟩).mono fun e W' ⟨v, g', he, hr, bel⟩ => ?_
  obtain rfl : v = .bool true := hr
  subst he
  exact ⟨_, rfl, _, _, _, [], _, [], hW', trodAll_mk1 (shut_bool (show Tryz.prog.underlying 4 = some .bool by kernel_rfl) _), (trodAll_cons_mk (Below.trod seat_laidOut (by kernel_rfl) (of_decide_eq_true (by kernel_rfl)) h0 bel lt0) (trodAll_cons_mk (Below.trod seat_laidOut (by kernel_rfl) (of_decide_eq_true (by kernel_rfl)) h1 bel lt1) (trodAll_cons_mk (Below.trod seat_laidOut (by kernel_rfl) (of_decide_eq_true (by kernel_rfl)) h2 bel lt2) trodAll_mk0))), rfl, bel.frame _, fun h => by cases h⟩
theorem boardWhole_holds : Rows.BoardWholeSaid :=
  OpenClaim.holds_of_cond 11 Tryz.f11 rfl rfl rfl rfl rfl rfl rfl ⟨rfl, rfl, rfl, rfl, rfl⟩ rfl rfl rfl rfl rfl (by kernel_rfl) Tryz.func11 (by kernel_rfl)
    (of_decide_eq_true (by kernel_rfl)) (by unfold Func.isWrapper; first | (rw [if_pos (by decide +kernel)]; kernel_rfl) | (rw [if_neg (by decide +kernel)]; exact ⟨rfl, rfl⟩))
    (fun os started H enc _ F => by rw [OpenClaim.pre_eq_preRow]; exact boardWhole_lifted os started H enc F)
theorem boardWhole_card : Rows.BoardWholeCardSaid :=
  Claim7.holds_tied_plain_at .later [] [.data, .data, .data, .data, .pinned] true (true, "798a7f6d89e2fbcbaaa72b0a22000f9d7fe649e4bc8b0faaeb42ca29a5786512") false boardWhole_holds (fun _ h => by cases h) (by kernel_rfl) (fun _ h => by cases h) boardWhole_row_tie rfl ⟨rfl, rfl⟩ (by kernel_rfl) rfl
    (fun f fn hf hfn => by
      obtain rfl : f = 11 := Option.some.inj ((show Tryz.prog.funcNamed "clavier/clavierlaw14.BoardWhole" = some 11 by kernel_rfl).symm.trans hf) |>.symm
      obtain rfl : fn = Tryz.f11 := (Option.some.inj (Tryz.func11.symm.trans hfn)).symm
      exact ⟨by kernel_rfl, fun j t ht => by
        rw [Tryz.params11] at ht
        have hm : t ∈ ([23, 5, 25] : List Nat) := by simpa using Array.mem_of_getElem? ht
        have hall : (([23, 5, 25] : List Nat).all fun u => !Tryz.prog.wantsStandIn u) = true := by kernel_rfl
        exact (show Tryz.prog.wantsStandIn t = false by simpa using List.all_eq_true.1 hall t hm)⟩)
    (by kernel_rfl)
#print axioms boardWhole_card
end Go.Proofs.YtbepihadhmfklaaGreatDoor

