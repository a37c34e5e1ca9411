/- Part 4 of 4 of a proof: the given statement BackPlain, whatever the input that its row lets in. Conditions: those of the given row and card alone. -/
import Derived.Test.YtjankibepgnbfaaGreatDoorPBackPlain3
import Derived.Test.YtjankibepgnbfaaGreatDoorPBackPlain2
import Derived.Test.YtjankibepgnbfaaGreatDoorPBackPlainAb13
import Derived.WalkKit
import Derived.ProofKit
import Derived.SizedLaws
import Derived.Test.YtjankibepgnbfaaGreatDoorRows
import Derived.LaidSub
import Derived.Lib.LaidTab
import Derived.Lib.ItoaNum
import Derived.MakeChecks
import Derived.Test.YtjankibepgnbfaaGreatDoorCards
import Derived.Test.YtjankibepgnbfaaGreatDoorTie
import Derived.Deep.DeepHandedRow
import Derived.JoinedCond
import Derived.OpenShut
import Derived.ShutString
import Derived.ChangeOld
import Derived.Below
import Derived.Lay
import Derived.LaidOnce
import Derived.SevenTiedAt
set_option linter.unusedVariables false
set_option linter.unusedSimpArgs false
set_option maxRecDepth 100000
namespace Go.Proofs.YtjankibepgnbfaaGreatDoor
open Go Go.Ab
def ir_wirenumber : ICode :=
 (.seq
 (.reg [qA 2 (.mov (qI 0))] (some [0]))
 (.seq
 (.seq
 (.reg [qM 5 0,
 qA 6 (.bin .eql .none (.t 5) (.c (.str [])))] (some [0,6]))
 (.cond (.t 6)
 (.seq
 (.reg [qA 2 (.mov (qI (-1)))] (some [2]))
 .ret)
 .skip))
 (.seq
 (.reg [qM 8 0,
 qA 9 (.s2b 5 (.t 8)),
 qA 10 (.call (qC 220) [(.t 9)]),
 qM 7 10,
 qE 11 7 0,
 qE 12 7 1,
 qM 3 11,
 qM 4 12] (some [3]))
 (.seq
 (.reg [qM 13 3,
 qM 2 13] (some [2]))
 .ret))))
theorem is_wirenumber : IrOf Tryz.prog 210 14 ir_wirenumber [.t 2] := ⟨_, Tryz.func210, rfl, by kernel_rfl, by kernel_rfl, by kernel_rfl⟩

/- (*clavier/wire.reader).params -/
def ir_wirereaderparams_b0 : ICode :=
 (.blk 3
 (.drw [⟨qL 37 5, []⟩,
 ⟨qM 38 6, []⟩,
 ⟨qA 39 (.call (qC 210) [(.t 38)]), [1]⟩,
 ⟨qA 40 (.row 3 1 [(.t 39)]), [2]⟩,
 ⟨qA 41 (.app 3 1 8 (.t 37) (.t 40)), [0,3,2]⟩]
 [qN (.st 1 (.t 5) (.t 41))] (some [])))
def ir_wirereaderparams_b1 : ICode :=
 (.blk 1
 (.seq
 (.reg [qA 5 (.box 87 (.c .nils))] (some [1,4,5]))
 (.seq
 (.seq
 (.reg [qM 34 4,
 qA 35 (.call (qC 209) [(.t 34), (.c (.str [58]))])] (some [1,5,35]))
 (.blk 2
 (.rgf (.t 35) [36]
 (.reg [qM 6 36] (some [5,6]))
 ir_wirereaderparams_b0)))
 (.drw [⟨qL 42 1, []⟩,
 ⟨qL 43 1, []⟩,
 ⟨qA 44 (.nck (.t 43)), [1]⟩,
 ⟨qF 45 2 44, [2]⟩,
 ⟨qF 46 2 45, [3]⟩,
 ⟨qL 47 46, [4]⟩,
 ⟨qL 48 5, []⟩,
 ⟨qA 49 (.row 87 1 [(.t 48)]), [6]⟩,
 ⟨qA 50 (.app 87 1 24 (.t 47) (.t 49)), [5,7]⟩]
 [qA 51 (.nck (.t 42)),
 qF 52 2 51,
 qF 53 2 52,
 qN (.st 1 (.t 53) (.t 50))] (some [])))))
def ir_wirereaderparams_t4 : ICode :=
 (.seq
 (.reg [qM 31 3,
 qA 32 (.call (qC 209) [(.t 31), (.c (.str [59]))])] (some [1,32]))
 (.blk 0
 (.rgf (.t 32) [33]
 (.reg [qM 4 33] (some [1,4]))
 ir_wirereaderparams_b1)))
def ir_wirereaderparams_t3 : ICode :=
 (.seq
 (.seq
 (.reg [qM 29 3,
 qA 30 (.bin .eql .none (.t 29) (.c (.str [])))] (some [1,3,30]))
 (.cond (.t 30)
 .ret
 .skip))
 ir_wirereaderparams_t4)
def ir_wirereaderparams_t2 : ICode :=
 (.seq
 (.reg [qL 25 1,
 qA 26 (.nck (.t 25)),
 qF 27 0 26,
 qA 28 (.call (qC 186) [(.t 27), (.c (.int .u8 48)), (.c (.int .u8 59))]),
 qM 3 28] (some [1,3]))
 ir_wirereaderparams_t3)
def ir_wirereaderparams_t1 : ICode :=
 (.seq
 (.seq
 (.reg [qL 7 1,
 qA 8 (.nck (.t 7)),
 qF 9 0 8,
 qA 10 (.call (qC 183) [(.t 9)]),
 qM 2 10] (some [1,2]))
 (.seq
 (.reg [qM 11 2,
 qA 12 (.bin .geq .none (.t 11) (.c (.int .u8 60))),
 qM 13 12,
 qG 14 13 true (.mov (.t 2)),
 qG 15 13 true (.bin .leq .none (.t 14) (.c (.int .u8 63))),
 qA 16 (.pick (.t 13) (.t 15) (qB false))] (some [1,16]))
 (.cond (.t 16)
 (.drwm [(), (), (), ()] [⟨qL 17 1, []⟩,
 ⟨qL 18 1, []⟩,
 ⟨qA 19 (.nck (.t 18)), [1]⟩,
 ⟨qF 20 0 19, [2]⟩,
 ⟨qA 21 (.call (qC 182) [(.t 20)]), [3]⟩]
 [qA 22 (.nck (.t 17)),
 qF 23 2 22,
 qF 24 1 23,
 qN (.st 1 (.t 24) (.t 21))] (some [1]))
 .skip)))
 ir_wirereaderparams_t2)
def ir_wirereaderparams : ICode :=
 (.seq
 (.reg [qA 1 (.box 201 (.t 0))] (some [1]))
 ir_wirereaderparams_t1)
theorem is_wirereaderparams : IrOf Tryz.prog 184 54 ir_wirereaderparams [] := ⟨_, Tryz.func184, rfl, by kernel_rfl, by kernel_rfl, by kernel_rfl⟩

theorem fs_wNumber {Gl : Gh → Prop} (hst : Stays Gl) {t : List UInt8} (ht : t.length ≤ maxLen) : FS Tryz.prog Gl 210 [.str t] [] [] (.int .i64 (numW t)) [] [] := by
  refine FS.of hm hst is_wirenumber (by simp) fun γ hγ hfr => ?_
  (generalize hQ : (fun (ex : Ex) (_ _ : Nat) (s : St) => _) = Q; unfold ir_wirenumber)
  cases t with
  | nil =>
    simp +contextual (maxSteps := 1000000) only [go_sem, reduceCtorEq, ↓reduceIte, Nat.reduceAdd]
    rw [← hQ]
    exact ⟨trivial, Ret.flat rfl rfl⟩
  | cons c l =>
    have hl : (c :: l).length < 9223372036854775808 := Nat.lt_of_le_of_lt ht (by decide)
    simp +contextual (maxSteps := 1000000) only [ht, go_sem, reduceCtorEq, ↓reduceIte, Nat.reduceAdd]
    refine ⟨ht, ?_⟩
    (refine CallP.pure (fs_take hst hl) (fun _ => rfl) ?_; simp +contextual (maxSteps := 1000000) only [go_sem, ↓reduceIte, Nat.reduceAdd, Nat.reduceEqDiff])
    rw [← hQ]
    have : numW (c :: l) = ((takeN (c :: l) 0 0).1 : Int) := by unfold numW; rw [if_neg (by simp)]
    rw [this]
    exact ⟨trivial, Ret.flat rfl rfl⟩
theorem CallP.rdX {Gl : Gh → Prop} {k : FuncId} {args : List AV} {p : Nm} {H Ha : Hp} {b : List UInt8} {n n' : Nat} {s s' : Sq} {y : AV} {T : Tk} {f : Nat → Nm} {K : AV → Hp → Tk → Prop} (h : FS Tryz.prog Gl k args [(p, .cells (rdC b n s))] [] y [(p, .cells (rdC b n' s'))] []) (hp : 1 ≤ p.1) (hy : y.flatT = true) (hap : ∀ q ∈ Ha, p ≠ q.1)
    (hH : ∀ q ∈ (p, HB.cells (rdC b n s)) :: Ha, q ∈ H) (hK : K y ((p, .cells (rdC b n' s')) :: Ha) T) : CallP Tryz.prog Gl k args H T f K := by
  refine .inl ⟨_, _, _, h, fun q hq => hH q (by simp only [List.mem_singleton] at hq; subst hq; exact List.mem_cons_self), by simp, ?_⟩
  rintro r H1 T1 ⟨rfl, rfl, rfl⟩
  refine ⟨(p, .cells (rdC b n' s')) :: Ha, T, fun q hq => ?_, fun t ht => .inr ⟨ht, by simp⟩, by rw [flatT_rn hy]; exact hK⟩
  rcases List.mem_cons.1 hq with rfl | hq
  · refine List.mem_append.2 (.inl ?_)
    simp only [rnH, List.map_cons, List.map_nil, nm_real hp, rdC_rn, List.mem_singleton]
  · refine List.mem_append.2 (.inr (List.mem_filter.2 ⟨hH q (List.mem_cons_of_mem _ hq), ?_⟩))
    simp only [List.all_cons, List.all_nil, Bool.and_true, decide_eq_true_eq]
    exact hap q hq
theorem rdC_rnH {f : Nat → Nm} {p : Nm} (hp : 1 ≤ p.1) {b : List UInt8} {n : Nat} {s : Sq} : rnH f [(p, .cells (rdC b n s))] = [(p, .cells (rdC b n s))] := by
  simp only [rnH, List.map_cons, List.map_nil, nm_real hp, rdC_rn]

set_option maxHeartbeats 4000000 in
theorem fs_wParams {Gl : Gh → Prop} (hst : Stays Gl) {p : Nm} (hp : 1 ≤ p.1) {b : List UInt8} {n : Nat} {s : Sq} (hn : n ≤ b.length) (hb : b.length ≤ 4000000000) (h1 : s.pr = 0) (h2 : s.ps = []) :
    FS Tryz.prog Gl 184 [.ptr p 0] [(p, .cells (rdC b n s))] [] (.tup []) [(p, .cells (rdC b (n + (headW (b.drop n)).2.2) { s with pr := (headW (b.drop n)).1, ps := (headW (b.drop n)).2.1 }))] [] := by
  obtain ⟨sk, spr, sps, sit, sfi, sda⟩ := s
  simp only at h1 h2
  subst h1 h2
  refine FS.ofK hm hst is_wirereaderparams (by simp) fun γ hγ hfr => ?_
  have hpg : p.1 ≠ γ := hfr.1 _ List.mem_cons_self
  have hne : ∀ i j, (p = (γ, i, j)) = False := fun i j => eq_false fun e => hpg (by rw [e])
  have hne2 : ∀ i j, ((γ, i, j) = p) = False := fun i j => eq_false fun e => hpg (by rw [← e])
  have hap : ∀ q ∈ ([((γ, 0, 0), .cells [.ptr p 0])] : Hp), p ≠ q.1 := fun q hq e => by simp only [List.mem_singleton] at hq; subst hq; exact hpg (by rw [e])
  (generalize hQ : (fun (ex : Ex) (_ _ : Nat) (s : St) => _) = Q; unfold ir_wirereaderparams)
  simp only [rdC]
  simp +contextual (maxSteps := 1000000) only [hne, hne2, go_sem, ↓reduceIte, Nat.reduceAdd]
  unfold ir_wirereaderparams_t1
  simp +contextual (maxSteps := 1000000) only [hne, hne2, go_sem, ↓reduceIte, Nat.reduceAdd]
  refine CallP.rdX (Ha := [((γ, 0, 0), .cells [.ptr p 0])]) (fs_peek (b := b) (n := n) (s := ⟨sk, 0, [], sit, sfi, sda⟩) hst hp) hp rfl hap (by simp [rdC]) ?_
  simp only [rdC]
  generalize hc : peekW b n = c
  have hcond : (decide ((c.toNat : Int) ≥ 60) && decide ((c.toNat : Int) ≤ 63)) = isPr c := by
    unfold isPr; rw [Bool.eq_iff_iff]; simp; omega
  have go2 : ∀ (m : Nat) (pr : Int) (c' : Nat) (F : Nat → AV), F 1 = .ptr (γ, 0, 0) 0 → m ≤ b.length → headW (b.drop n) = (pr, numsW (runL 48 59 (b.drop m)), (m - n) + (runL 48 59 (b.drop m)).length) → n ≤ m →
      aw Tryz.prog Gl ir_wirereaderparams_t2 γ c' ⟨F, [(p, .cells [.sl none 1 (bytesAV b), .int .i64 m, .int .i64 sk, .int .u8 pr, pw [], .str sit, .int .u8 sfi, .str sda]), ((γ, 0, 0), .cells [.ptr p 0])], fun x => x ∈ []⟩ Q := by
    intro m pr c' F hF hm' hw hnm
    have cr : FS Tryz.prog Gl 186 [.ptr p 0, .int .u8 48, .int .u8 59] [(p, .cells (rdC b m ⟨sk, pr, [], sit, sfi, sda⟩))] [] (.str (runL 48 59 (b.drop m))) [(p, .cells (rdC b (m + (runL 48 59 (b.drop m)).length) ⟨sk, pr, [], sit, sfi, sda⟩))] [] := fs_run hst hp (x := 48) (y := 59) hm' (by omega)
    have htl := runL_le 48 59 (b.drop m)
    rw [List.length_drop] at htl
    generalize runL 48 59 (b.drop m) = t at cr htl hw
    unfold ir_wirereaderparams_t2
    simp +contextual (maxSteps := 1000000) only [hne, hne2, hF, go_sem, ↓reduceIte, Nat.reduceAdd]
    refine CallP.rdX (Ha := [((γ, 0, 0), .cells [.ptr p 0])]) cr hp rfl hap (by simp [rdC]) ?_
    unfold ir_wirereaderparams_t3
    simp only [rdC]
    have hfin : n + ((m - n) + t.length) = m + t.length := by omega
    by_cases hte : t = []
    · have hd : decide (t = []) = true := decide_eq_true hte
      simp +contextual (maxSteps := 1000000) only [hne, hne2, hd, go_sem, ↓reduceIte, Nat.reduceAdd, Nat.reduceEqDiff]
      rw [← hQ, hw]
      refine ⟨trivial, 0, _, Wk.refl _ _ _, Ret.rd rfl rfl hp ?_⟩
      rw [hfin, hte]
      simp [rdC, numsW, pw]
    · have hd : decide (t = []) = false := decide_eq_false hte
      have hnums : numsW t = (splitB 59 t).map subsW := by unfold numsW; rw [if_neg hte]
      simp +contextual (maxSteps := 1000000) only [hne, hne2, hd, go_sem, ↓reduceIte, Nat.reduceAdd, Nat.reduceEqDiff]
      unfold ir_wirereaderparams_t4
      simp +contextual (maxSteps := 1000000) only [hne, hne2, go_sem, ↓reduceIte, Nat.reduceAdd, Nat.reduceEqDiff]
      refine CallP.of (fs_SplitSeq hst) (by simp) (by simp) ?_
      simp only [rnH, hpSplit, rnN, rnHB, rnL, Ab.rn]
      simp +contextual (maxSteps := 1000000) only [hne, hne2, go_sem, ↓reduceIte, Nat.reduceEqDiff]
      refine rgf_of rfl ((splitB 59 t).map fun q => [.str q])
        (fun i H T => ∃ (tk : Option Nm) (Hx : Hp), (tk = none → i = 0) ∧ (∀ x, tk = some x → γ ≤ x.1 ∧ T x) ∧ H = (p, .cells [.sl none 1 (bytesAV b), .int .i64 ((m + t.length : Nat) : Int), .int .i64 sk, .int .u8 pr, sv tk 1 (parsAV (((splitB 59 t).take i).map subsW)), .str sit, .int .u8 sfi, .str sda]) :: ((γ, 0, 0), .cells [.ptr p 0]) :: Hx)
        (fun _ _ _ => False) (hpSplit t 59 (γ, c' + 5 + 2 + 1, 0) (γ, c' + 5 + 2 + 1, 1) (γ, c' + 5 + 2 + 1, 2)) [(p, .cells [.sl none 1 (bytesAV b), .int .i64 ((m + t.length : Nat) : Int), .int .i64 sk, .int .u8 pr, .nils, .str sit, .int .u8 sfi, .str sda]), ((γ, 0, 0), .cells [.ptr p 0])] (fun _ => False)
        (it_split (by simp) (by simp) (by simp) (by omega)) (by simp [hpSplit]) (by simp [hpSplit, hne]) (by simp [pw]) (by simp) ⟨none, [], by simp, by simp, rfl⟩ (by simp) ?_ ?_ (fun _ _ _ h => h.elim)
      · rintro Gl' hst' hG i x H T γ' hx ⟨tk, Hx, hk1, hk2, rfl⟩ hlt hfr'
        simp only [List.getElem?_map, Option.map_eq_some_iff] at hx
        obtain ⟨q, hq, rfl⟩ := hx
        have hqm : q ∈ splitB 59 t := List.mem_of_getElem? hq
        have hql := splitB_mem_len hqm
        have hil : i < (splitB 59 t).length := (List.getElem?_eq_some_iff.1 hq).1
        have hsl := splitB_len (c := 59) (l := t)
        have hpg' : p.1 ≠ γ' := hfr'.1 _ List.mem_cons_self
        have mne : ∀ i j, (p = (γ', i, j)) = False := fun i j => eq_false fun e => hpg' (by rw [e])
        have mne2 : ∀ i j, ((γ', i, j) = p) = False := fun i j => eq_false fun e => hpg' (by rw [← e])
        have gne : (γ = γ') = False := eq_false (by omega)
        have gne2 : (γ' = γ) = False := eq_false (by omega)
        generalize hK : kBd _ _ _ = K
        unfold ir_wirereaderparams_b1
        simp +contextual (maxSteps := 1000000) only [hne, hne2, mne, mne2, gne, gne2, hF, go_sem, ↓reduceIte, Nat.reduceAdd, Nat.reduceEqDiff]
        refine CallP.of (fs_SplitSeq hst') (by simp) (by simp) ?_
        simp only [rnH, hpSplit, rnN, rnHB, rnL, Ab.rn]
        simp +contextual (maxSteps := 1000000) only [hne, hne2, mne, mne2, gne, gne2, go_sem, ↓reduceIte, Nat.reduceEqDiff]
        refine rgf_of rfl ((splitB 58 q).map fun r => [.str r])
          (fun j H T => ∃ tj : Option Nm, (tj = none → j = 0) ∧ (∀ x, tj = some x → γ' ≤ x.1 ∧ T x) ∧ H = [((γ', 1, 0), .cells [sv tj 1 (intsAV (((splitB 58 q).take j).map numW))])])
          (fun _ _ _ => False) (hpSplit q 58 (γ', 3, 0) (γ', 3, 1) (γ', 3, 2)) [((γ', 1, 0), .cells [.nils])] (fun _ => False)
          (it_split (by simp) (by simp) (by simp) (by omega)) (by simp [hpSplit]) (by simp [hpSplit]) (by simp) (by simp) ⟨none, by simp, by simp, rfl⟩ (by simp) ?_ ?_ (fun _ _ _ h => h.elim)
        · rintro Gl'' hst'' hG' j x H T' γ'' hx ⟨tj, hj1, hj2, rfl⟩ hlt' hfr''
          simp only [List.getElem?_map, Option.map_eq_some_iff] at hx
          obtain ⟨r, hr, rfl⟩ := hx
          have hrl := splitB_mem_len (List.mem_of_getElem? hr)
          have hjl := (List.getElem?_eq_some_iff.1 hr).1
          have hsl' := splitB_len (c := 58) (l := q)
          have hts : (splitB 58 q).take (j + 1) = (splitB 58 q).take j ++ [r] := by rw [List.take_add_one, hr]; rfl
          have hln : (intsAV (((splitB 58 q).take j).map numW)).length ≤ q.length + 1 := by simp [intsAV]; omega
          generalize hK' : kBd _ _ _ = K'
          unfold ir_wirereaderparams_b0
          cases tj with
          | none =>
            obtain rfl := hj1 rfl
            simp +contextual (maxSteps := 1000000) only [go_sem, ↓reduceIte, Nat.reduceAdd, Nat.reduceEqDiff]
            refine DCall.new (fs_wNumber hst'' (by simp only [maxLen]; omega)) ?_
            simp +contextual (maxSteps := 1000000) only [go_sem, ↓reduceIte, Nat.reduceAdd, Nat.reduceEqDiff, Nat.reduceLeDiff, Nat.reduceMul, Nat.reduceBEq]
            rw [← hK']
            refine ⟨some (γ'', 5, 0), by simp, fun x hx => ?_, ?_⟩
            · cases hx
              exact ⟨by simp only; omega, by simp⟩
            · rw [hts]
              simp [sv, intsAV]
          | some t0 =>
            simp +contextual (maxSteps := 1000000) only [go_sem, ↓reduceIte, Nat.reduceAdd, Nat.reduceEqDiff]
            refine DCall.new (fs_wNumber hst'' (by simp only [maxLen]; omega)) ?_
            simp +contextual (maxSteps := 1000000) only [go_sem, ↓reduceIte, Nat.reduceAdd, Nat.reduceEqDiff, Nat.reduceBEq]
            refine ⟨.inl (hj2 t0 rfl).2, by omega, by simp, ?_⟩
            rw [← hK']
            refine ⟨some (γ'', 5, 0), by simp, fun x hx => ?_, ?_⟩
            · cases hx
              exact ⟨by simp only; omega, .inl (by simp), fun e => hfr''.2 t0 (hj2 t0 rfl).2 (by rw [← e])⟩
            · rw [hts]
              simp [sv, intsAV]
        · rintro H1 T1 ⟨tj, hj1, hj2, rfl⟩
          have hlen' : ((splitB 58 q).map fun r => [AV.str r]).length = (splitB 58 q).length := by simp
          rw [hlen'] at hj1 ⊢
          rw [List.take_length]
          cases tj with
          | none => exact absurd (List.length_eq_zero_iff.1 (hj1 rfl)) (splitB_ne _ _)
          | some u0 =>
            refine ⟨[(p, .cells [.sl none 1 (bytesAV b), .int .i64 ((m + t.length : Nat) : Int), .int .i64 sk, .int .u8 pr, sv tk 1 (parsAV (((splitB 59 t).take i).map subsW)), .str sit, .int .u8 sfi, .str sda]), ((γ, 0, 0), .cells [.ptr p 0]), ((γ', 1, 0), .cells [.sl (some u0) 1 (intsAV (subsW q))])], fun x => x = u0 ∨ T x, fun z hz => ?_, fun x hx => ?_, ?_⟩
            · simp only [List.mem_cons, List.not_mem_nil, or_false] at hz
              rcases hz with rfl | rfl | rfl
              · exact List.mem_append.2 (.inr (List.mem_filter.2 ⟨by simp, by simp [hpSplit, mne2]⟩))
              · exact List.mem_append.2 (.inr (List.mem_filter.2 ⟨by simp, by simp [hpSplit, gne2]⟩))
              · exact List.mem_append.2 (.inl (by simp [sv, subsW]))
            · rcases hx with rfl | hx
              · exact .inl (hj2 _ rfl).2
              · exact .inr ⟨.inr ⟨hx, by simp⟩, by simp⟩
            have hts : (splitB 59 t).take (i + 1) = (splitB 59 t).take i ++ [q] := by rw [List.take_add_one, hq]; rfl
            have hln : (parsAV (((splitB 59 t).take i).map subsW)).length ≤ t.length + 1 := by simp [parsAV]; omega
            cases tk with
            | none =>
              obtain rfl := hk1 rfl
              simp +contextual (maxSteps := 1000000) only [hne, hne2, mne, mne2, gne, gne2, go_sem, reduceCtorEq, ↓reduceIte, Nat.reduceAdd, Nat.reduceEqDiff, Nat.reduceLeDiff, Nat.reduceMul, Nat.reduceBEq]
              rw [← hK]
              refine ⟨some (γ', 13, 0), [((γ', 1, 0), .cells [.sl (some u0) 1 (intsAV (subsW q))])], by simp, fun x hx => ?_, ?_⟩
              · cases hx
                exact ⟨by simp only; omega, by simp⟩
              · rw [hts]
                simp [sv, parsAV, intsV]
            | some t0 =>
              simp +contextual (maxSteps := 1000000) only [hne, hne2, mne, mne2, gne, gne2, go_sem, reduceCtorEq, ↓reduceIte, Nat.reduceAdd, Nat.reduceEqDiff, Nat.reduceLeDiff, Nat.reduceBEq]
              refine ⟨.inl (.inr (hk2 t0 rfl).2), by omega, by simp, ?_⟩
              rw [← hK]
              refine ⟨some (γ', 13, 0), [((γ', 1, 0), .cells [.sl (some u0) 1 (intsAV (subsW q))])], by simp, fun x hx => ?_, ?_⟩
              · cases hx
                exact ⟨by simp only; omega, .inl (by simp), fun e => hfr'.2 t0 (hk2 t0 rfl).2 (by rw [← e])⟩
              · rw [hts]
                simp [sv, parsAV, intsV]
      · rintro H1 T1 ⟨tk, Hx, hk1, hk2, rfl⟩
        refine ⟨_, fun t => tk = some t, fun p hp => List.mem_append.2 (.inl hp), fun t ht => .inl (hk2 t ht).2, ?_⟩
        have hlen : ((splitB 59 t).map fun p => [AV.str p]).length = (splitB 59 t).length := by simp
        rw [hlen] at hk1 ⊢
        rw [List.take_length]
        cases tk with
        | none => exact absurd (List.length_eq_zero_iff.1 (hk1 rfl)) (splitB_ne _ _)
        | some t0 =>
          simp +contextual (maxSteps := 1000000) only [go_sem]
          rw [← hQ, hw]
          refine ⟨trivial, 0, ⟨fun _ => .und, [(p, .cells (rdC b (m + t.length) ⟨sk, pr, (splitB 59 t).map subsW, sit, sfi, sda⟩))], fun x => x ∈ []⟩, ⟨fun _ => .und _ _, ?_, by simp⟩, Ret.rd rfl rfl hp ?_⟩
          · intro r hr
            simp only [List.mem_singleton] at hr
            subst hr
            refine ⟨_, List.mem_cons_self, rfl, rfl, fun i x y hx hy => ?_⟩
            have hpw : pw ((splitB 59 t).map subsW) = .sl none 1 (parsAV ((splitB 59 t).map subsW)) := by
              have := splitB_ne 59 t
              cases hs : splitB 59 t with
              | nil => exact absurd hs this
              | cons a l => rfl
            simp only [rdC, hpw] at hy
            rcases i with _ | _ | _ | _ | _ | _ | _ | _ | i <;> simp only [List.getElem?_cons_zero, List.getElem?_cons_succ, List.getElem?_nil, Option.some.injEq, reduceCtorEq] at hx hy <;> subst hx hy <;> first | exact AVle.refl _ _ | exact AVle.le (RepLe.anon' rfl)
          · rw [hfin, hnums]
            exact List.mem_singleton.2 rfl
  cases hpr : isPr c with
  | true =>
    rw [hpr] at hcond
    have hlt : n < b.length := by
      rcases Nat.lt_or_ge n b.length with h | h
      · exact h
      · rw [peek_ge h] at hc
        subst hc
        simp [isPr] at hpr
    have hh : headW (b.drop n) = ((c.toNat : Int), numsW (runL 48 59 (b.drop (n + 1))), (n + 1 - n) + (runL 48 59 (b.drop (n + 1))).length) := by
      unfold headW
      have : (b.drop n).headD 0 = c := hc
      rw [this, hpr]
      simp only [if_true, List.drop_drop]
      rw [show n + 1 - n = 1 by omega]
    simp +contextual (maxSteps := 1000000) only [hne, hne2, hcond, go_sem, reduceCtorEq, ↓reduceIte, Nat.reduceAdd, Nat.reduceEqDiff]
    refine kDrwM_of [((γ, 0, 0), .cells [.ptr p 0])] [(p, .cells (rdC b n ⟨sk, 0, [], sit, sfi, sda⟩))] (by simp [rdC]) (fun q hq q' hq' => ?_) ?_
    · simp only [List.mem_singleton] at hq hq'
      subst hq hq'
      exact fun e => hpg (by rw [show p = (γ, 0, 0) from e])
    simp +contextual (maxSteps := 1000000) only [hne, hne2, go_sem, ↓reduceIte, Nat.reduceAdd, Nat.reduceEqDiff]
    refine MCall.of (fs_next hst hp (by omega)) (fun _ => rfl) (fun _ => rdC_rnH hp) (fun q hq q' hq' => ?_) ?_
    · simp only [List.mem_singleton] at hq hq'
      subst hq hq'
      exact fun e => hpg (by rw [← show (γ, 0, 0) = p from e])
    rw [hc]
    simp only [rdC]
    simp +contextual (maxSteps := 1000000) only [hne, hne2, go_sem, ↓reduceIte, Nat.reduceAdd, Nat.reduceEqDiff, Nat.reduceLeDiff]
    exact go2 (n + 1) c.toNat _ _ rfl hlt hh (by omega)
  | false =>
    rw [hpr] at hcond
    simp +contextual (maxSteps := 1000000) only [hne, hne2, hcond, go_sem, reduceCtorEq, ↓reduceIte, Nat.reduceAdd, Nat.reduceEqDiff]
    refine go2 n 0 _ _ rfl hn ?_ (Nat.le_refl n)
    unfold headW
    have : (b.drop n).headD 0 = c := hc
    rw [this, hpr]
    simp
end Go.Proofs.YtjankibepgnbfaaGreatDoor

namespace Go.Proofs.YtjankibepgnbfaaGreatDoor
open Go Go.Ab
def ir_wirereaderrest : ICode :=
 (.seq
 (.reg [qM 2 0,
 qM 3 0,
 qA 4 (.nck (.t 3)),
 qF 5 0 4,
 qA 6 (.call (qC 186) [(.t 5), (.c (.int .u8 32)), (.c (.int .u8 47))]),
 qA 7 (.nck (.t 2)),
 qF 8 2 7,
 qF 9 3 8,
 qN (.st 1 (.t 9) (.t 6))] (some [0]))
 (.reg [qM 10 0,
 qM 11 0,
 qA 12 (.nck (.t 11)),
 qF 13 0 12,
 qA 14 (.call (qC 182) [(.t 13)]),
 qA 15 (.nck (.t 10)),
 qF 16 2 15,
 qF 17 4 16,
 qN (.st 1 (.t 17) (.t 14))] (some [])))
theorem is_wirereaderrest : IrOf Tryz.prog 185 18 ir_wirereaderrest [] := ⟨_, Tryz.func185, rfl, by kernel_rfl, by kernel_rfl, by kernel_rfl⟩

def ir_wirereaderread : ICode :=
 (.seq
 (.seq
 (.reg [qM 2 0,
 qA 3 (.nck (.t 2)),
 qF 4 0 3,
 qA 5 (.call (qC 182) [(.t 4)]),
 qA 6 (.bin .neq .none (.t 5) (.c (.int .u8 27)))] (some [0,6]))
 (.cond (.t 6)
 .ret
 .skip))
 (.seq
 (.reg [qM 7 0,
 qA 8 (.nck (.t 7)),
 qF 9 0 8,
 qA 10 (.call (qC 183) [(.t 9)])] (some [0,10]))
 (.blk 0
 (.seq
 (.reg [qA 18 (.bin .eql .none (.t 10) (.c (.int .u8 91))),
 qM 17 18] (some [0,10,17]))
 (.cond (.t 17)
 (.seq
 (.reg [qM 19 0,
 qA 20 (.nck (.t 19)),
 qF 21 2 20,
 qF 22 0 21,
 qN (.st 1 (.t 22) (qI 1))] (some [0]))
 (.seq
 (.reg [qM 23 0,
 qA 24 (.nck (.t 23)),
 qF 25 0 24,
 qF 26 1 25,
 qL 27 26,
 qA 28 (.bin .add .none (.t 27) (qI 1)),
 qA 29 (.nck (.t 23)),
 qF 30 0 29,
 qF 31 1 30,
 qN (.st 1 (.t 31) (.t 28))] (some [0]))
 (.seq
 (.reg [qM 32 0,
 qA 33 (.call (qC 184) [(.t 32)])] (some [0]))
 (.reg [qM 34 0,
 qA 35 (.call (qC 185) [(.t 34)])] (some [])))))
 (.seq
 (.reg [qA 37 (.bin .eql .none (.t 10) (.c (.int .u8 79))),
 qM 36 37] (some [0,10,36]))
 (.cond (.t 36)
 (.seq
 (.reg [qM 38 0,
 qA 39 (.nck (.t 38)),
 qF 40 2 39,
 qF 41 0 40,
 qN (.st 1 (.t 41) (qI 2))] (some [0]))
 (.seq
 (.reg [qM 42 0,
 qA 43 (.nck (.t 42)),
 qF 44 0 43,
 qF 45 1 44,
 qL 46 45,
 qA 47 (.bin .add .none (.t 46) (qI 1)),
 qA 48 (.nck (.t 42)),
 qF 49 0 48,
 qF 50 1 49,
 qN (.st 1 (.t 50) (.t 47))] (some [0]))
 (.reg [qM 51 0,
 qM 52 0,
 qA 53 (.nck (.t 52)),
 qF 54 0 53,
 qA 55 (.call (qC 182) [(.t 54)]),
 qA 56 (.nck (.t 51)),
 qF 57 2 56,
 qF 58 4 57,
 qN (.st 1 (.t 58) (.t 55))] (some []))))
 (.seq
 (.reg [qA 60 (.bin .eql .none (.t 10) (.c (.int .u8 80))),
 qM 59 60] (some [0,10,59]))
 (.cond (.t 59)
 (.seq
 (.reg [qM 61 0,
 qA 62 (.nck (.t 61)),
 qF 63 2 62,
 qF 64 0 63,
 qN (.st 1 (.t 64) (qI 3))] (some [0]))
 (.seq
 (.reg [qM 65 0,
 qA 66 (.nck (.t 65)),
 qF 67 0 66,
 qF 68 1 67,
 qL 69 68,
 qA 70 (.bin .add .none (.t 69) (qI 1)),
 qA 71 (.nck (.t 65)),
 qF 72 0 71,
 qF 73 1 72,
 qN (.st 1 (.t 73) (.t 70))] (some [0]))
 (.seq
 (.reg [qM 74 0,
 qA 75 (.call (qC 184) [(.t 74)])] (some [0]))
 (.seq
 (.reg [qM 76 0,
 qA 77 (.call (qC 185) [(.t 76)])] (some [0]))
 (.seq
 (.reg [qM 78 0,
 qM 79 0,
 qA 80 (.nck (.t 79)),
 qF 81 0 80,
 qA 82 (.call (qC 186) [(.t 81), (.c (.int .u8 32)), (.c (.int .u8 126))]),
 qA 83 (.nck (.t 78)),
 qF 84 2 83,
 qF 85 5 84,
 qN (.st 1 (.t 85) (.t 82))] (some [0]))
 (.reg [qM 86 0,
 qA 87 (.nck (.t 86)),
 qF 88 0 87,
 qF 89 1 88,
 qL 90 89,
 qA 91 (.bin .add .none (.t 90) (qI 2)),
 qA 92 (.nck (.t 86)),
 qF 93 0 92,
 qF 94 1 93,
 qN (.st 1 (.t 94) (.t 91))] (some [])))))))
 (.seq
 (.reg [qA 96 (.bin .eql .none (.t 10) (.c (.int .u8 93))),
 qM 95 96] (some [0,95]))
 (.cond (.t 95)
 (.seq
 (.reg [qM 97 0,
 qA 98 (.nck (.t 97)),
 qF 99 2 98,
 qF 100 0 99,
 qN (.st 1 (.t 100) (qI 4))] (some [0]))
 (.seq
 (.reg [qM 101 0,
 qA 102 (.nck (.t 101)),
 qF 103 0 102,
 qF 104 1 103,
 qL 105 104,
 qA 106 (.bin .add .none (.t 105) (qI 1)),
 qA 107 (.nck (.t 101)),
 qF 108 0 107,
 qF 109 1 108,
 qN (.st 1 (.t 109) (.t 106))] (some [0]))
 (.seq
 (.reg [qM 110 0,
 qM 111 0,
 qA 112 (.nck (.t 111)),
 qF 113 0 112,
 qA 114 (.call (qC 186) [(.t 113), (.c (.int .u8 32)), (.c (.int .u8 126))]),
 qA 115 (.nck (.t 110)),
 qF 116 2 115,
 qF 117 5 116,
 qN (.st 1 (.t 117) (.t 114))] (some [0]))
 (.reg [qM 118 0,
 qA 119 (.nck (.t 118)),
 qF 120 0 119,
 qF 121 1 120,
 qL 122 121,
 qA 123 (.bin .add .none (.t 122) (qI 2)),
 qA 124 (.nck (.t 118)),
 qF 125 0 124,
 qF 126 1 125,
 qN (.st 1 (.t 126) (.t 123))] (some [])))))
 (.seq
 (.reg [qM 11 0,
 qA 12 (.nck (.t 11)),
 qF 13 2 12,
 qF 14 0 13,
 qN (.st 1 (.t 14) (qI 5))] (some [0]))
 (.reg [qM 15 0,
 qA 16 (.call (qC 185) [(.t 15)])] (some []))))))))))))))
theorem is_wirereaderread : IrOf Tryz.prog 150 127 ir_wirereaderread [] := ⟨_, Tryz.func150, rfl, by kernel_rfl, by kernel_rfl, by kernel_rfl⟩

theorem peek_drop {b : List UInt8} {n k : Nat} : ((b.drop n).drop k).headD 0 = peekW b (n + k) := by unfold peekW; rw [List.drop_drop]
theorem headW_le (l : List UInt8) : (headW l).2.2 ≤ l.length := by
  unfold headW
  simp only
  split
  · rename_i h
    have h1 := runL_le 48 59 (l.drop 1)
    rw [List.length_drop] at h1
    cases l with
    | nil => simp [isPr] at h
    | cons c l => simp only [List.length_cons] at h1 ⊢; omega
  · have h1 := runL_le 48 59 (l.drop 0)
    rw [List.drop_zero] at h1 ⊢
    omega
theorem fs_wRest {Gl : Gh → Prop} (hst : Stays Gl) {p : Nm} (hp : 1 ≤ p.1) {b : List UInt8} {n : Nat} {s : Sq} (hn : n ≤ b.length) (hb : b.length ≤ 4000000000) :
    FS Tryz.prog Gl 185 [.ptr p 0] [(p, .cells (rdC b n s))] [] (.tup []) [(p, .cells (rdC b (n + (restW (b.drop n)).2.2) { s with it := (restW (b.drop n)).1, fi := (restW (b.drop n)).2.1 }))] [] := by
  refine FS.of hm hst is_wirereaderrest (by simp) fun γ hγ hfr => ?_
  have c1 : FS Tryz.prog Gl 186 [.ptr p 0, .int .u8 32, .int .u8 47] [(p, .cells (rdC b n s))] [] (.str (runL 32 47 (b.drop n))) [(p, .cells (rdC b (n + (runL 32 47 (b.drop n)).length) s))] [] := fs_run hst hp (x := 32) (y := 47) hn (by omega)
  have hle := runL_le 32 47 (b.drop n)
  rw [List.length_drop] at hle
  have hw : restW (b.drop n) = (runL 32 47 (b.drop n), ((peekW b (n + (runL 32 47 (b.drop n)).length)).toNat : Int), (runL 32 47 (b.drop n)).length + 1) := by
    unfold restW; simp only [peek_drop]
  rw [hw]
  generalize runL 32 47 (b.drop n) = t at c1 hle
  have c2 := fs_next (Gl := Gl) hst hp (b := b) (n := n + t.length) (s := { s with it := t }) (by omega)
  (generalize hQ : (fun (ex : Ex) (_ _ : Nat) (s : St) => _) = Q; unfold ir_wirereaderrest)
  simp only [rdC]
  simp +contextual (maxSteps := 1000000) only [go_sem, reduceCtorEq, ↓reduceIte, Nat.reduceAdd]
  refine CallP.rdX (Ha := []) c1 hp rfl (by simp) (by simp [rdC]) ?_
  simp only [rdC]
  simp +contextual (maxSteps := 1000000) only [go_sem, reduceCtorEq, ↓reduceIte, Nat.reduceAdd, Nat.reduceEqDiff, Nat.reduceLeDiff]
  refine CallP.rdX (Ha := []) c2 hp rfl (by simp) (by simp [rdC]) ?_
  simp only [rdC]
  simp +contextual (maxSteps := 1000000) only [go_sem, ↓reduceIte, Nat.reduceAdd, Nat.reduceEqDiff, Nat.reduceLeDiff]
  rw [← hQ]
  exact ⟨trivial, Ret.rd rfl rfl hp (by simp [rdC, Nat.add_assoc])⟩

def dcsOk (b : List UInt8) : Prop := b.headD 0 = 27 → (b.drop 1).headD 0 = 80 → 2 + (headW (b.drop 2)).2.2 + (restW (b.drop (2 + (headW (b.drop 2)).2.2))).2.2 ≤ b.length
theorem u8_eq {c : UInt8} {k : Nat} (hk : k < 256) : ((c.toNat : Int) == (k : Int)) = decide (c = UInt8.ofNat k) := by
  rw [Bool.eq_iff_iff, beq_iff_eq, decide_eq_true_eq]
  constructor
  · intro h
    have h : c.toNat = k := by omega
    rw [← h, UInt8.ofNat_toNat]
  · rintro rfl
    rw [UInt8.toNat_ofNat', Nat.mod_eq_of_lt hk]
theorem u8_ne {c : UInt8} {k : Nat} (hk : k < 256) : ((c.toNat : Int) != (k : Int)) = !decide (c = UInt8.ofNat k) := by
  rw [bne, u8_eq hk]
set_option maxHeartbeats 4000000 in
theorem fs_wRead {Gl : Gh → Prop} (hst : Stays Gl) {p : Nm} (hp : 1 ≤ p.1) {b : List UInt8} (hb : b.length ≤ 4000000000) (hd : dcsOk b) :
    FS Tryz.prog Gl 150 [.ptr p 0] [(p, .cells (rdC b 0 zeroSq))] [] (.tup []) [(p, .cells (rdC b (readW b).2 (readW b).1))] [] := by
  refine FS.of hm hst is_wirereaderread (by simp) fun γ hγ hfr => ?_
  have w2 : IntKind.i64.wrap 2 = 2 := by decide
  (generalize hQ : (fun (ex : Ex) (_ _ : Nat) (s : St) => _) = Q; unfold ir_wirereaderread)
  simp +contextual (maxSteps := 1000000) only [go_sem, ↓reduceIte, Nat.reduceAdd]
  refine CallP.rdX (Ha := []) (fs_next (b := b) (n := 0) (s := zeroSq) hst hp (by omega)) hp rfl (by simp) (by simp) ?_
  have hpk : peekW b 0 = b.headD 0 := by unfold peekW; rw [List.drop_zero]
  rw [hpk]
  have n1 : (((b.headD 0).toNat : Int) != 27) = !decide (b.headD 0 = 27) := u8_ne (k := 27) (by omega)
  by_cases h27 : b.headD 0 = 27
  · have n1 : (((b.headD 0).toNat : Int) != 27) = false := by rw [n1, decide_eq_true h27]; rfl
    have hl1 : 1 ≤ b.length := by
      cases b with
      | nil => simp at h27
      | cons c l => simp
    simp +contextual (maxSteps := 1000000) only [n1, go_sem, reduceCtorEq, ↓reduceIte, Nat.reduceAdd]
    refine CallP.rdX (Ha := []) (fs_peek (b := b) (n := 1) (s := zeroSq) hst hp) hp rfl (by simp) (by simp) ?_
    have hpk1 : peekW b 1 = (b.drop 1).headD 0 := rfl
    rw [hpk1]
    generalize hc : (b.drop 1).headD 0 = c
    have k2 : c ≠ 0 → 2 ≤ b.length := fun h => by
      rcases Nat.lt_or_ge 1 b.length with h' | h'
      · omega
      · rw [List.drop_eq_nil_of_le (by omega)] at hc
        exact absurd hc.symm h
    have g1 : ((c.toNat : Int) == 91) = decide (c = 91) := u8_eq (k := 91) (by omega)
    have g2 : ((c.toNat : Int) == 79) = decide (c = 79) := u8_eq (k := 79) (by omega)
    have g3 : ((c.toNat : Int) == 80) = decide (c = 80) := u8_eq (k := 80) (by omega)
    have g4 : ((c.toNat : Int) == 93) = decide (c = 93) := u8_eq (k := 93) (by omega)
    have hz : zeroSq = ⟨0, 0, [], [], 0, []⟩ := rfl
    have hl2 := headW_le (b.drop 2)
    rw [List.length_drop] at hl2
    have hrd : readW b = (if c = 91 then
        (⟨1, (headW (b.drop 2)).1, (headW (b.drop 2)).2.1, (restW (b.drop (2 + (headW (b.drop 2)).2.2))).1, (restW (b.drop (2 + (headW (b.drop 2)).2.2))).2.1, []⟩, 2 + (headW (b.drop 2)).2.2 + (restW (b.drop (2 + (headW (b.drop 2)).2.2))).2.2)
      else if c = 79 then (⟨2, 0, [], [], ((b.drop 2).headD 0).toNat, []⟩, 3)
      else if c = 80 then
        (⟨3, (headW (b.drop 2)).1, (headW (b.drop 2)).2.1, (restW (b.drop (2 + (headW (b.drop 2)).2.2))).1, (restW (b.drop (2 + (headW (b.drop 2)).2.2))).2.1, runL 32 126 (b.drop (2 + (headW (b.drop 2)).2.2 + (restW (b.drop (2 + (headW (b.drop 2)).2.2))).2.2))⟩, 2 + (headW (b.drop 2)).2.2 + (restW (b.drop (2 + (headW (b.drop 2)).2.2))).2.2 + (runL 32 126 (b.drop (2 + (headW (b.drop 2)).2.2 + (restW (b.drop (2 + (headW (b.drop 2)).2.2))).2.2))).length + 2)
      else if c = 93 then (⟨4, 0, [], [], 0, runL 32 126 (b.drop 2)⟩, 2 + (runL 32 126 (b.drop 2)).length + 2)
      else (⟨5, 0, [], (restW (b.drop 1)).1, (restW (b.drop 1)).2.1, []⟩, 1 + (restW (b.drop 1)).2.2)) := by
      unfold readW
      rw [if_neg (not_not_intro h27)]
      simp only [hc]
    have cp : ∀ k, 2 ≤ b.length → FS Tryz.prog Gl 184 [.ptr p 0] [(p, .cells (rdC b 2 ⟨k, 0, [], [], 0, []⟩))] [] (.tup []) [(p, .cells (rdC b (2 + (headW (b.drop 2)).2.2) ⟨k, (headW (b.drop 2)).1, (headW (b.drop 2)).2.1, [], 0, []⟩))] [] := fun k h => fs_wParams hst hp (s := ⟨k, 0, [], [], 0, []⟩) h hb rfl rfl
    have cq : ∀ k, 2 ≤ b.length → FS Tryz.prog Gl 185 [.ptr p 0] [(p, .cells (rdC b (2 + (headW (b.drop 2)).2.2) ⟨k, (headW (b.drop 2)).1, (headW (b.drop 2)).2.1, [], 0, []⟩))] [] (.tup []) [(p, .cells (rdC b (2 + (headW (b.drop 2)).2.2 + (restW (b.drop (2 + (headW (b.drop 2)).2.2))).2.2) ⟨k, (headW (b.drop 2)).1, (headW (b.drop 2)).2.1, (restW (b.drop (2 + (headW (b.drop 2)).2.2))).1, (restW (b.drop (2 + (headW (b.drop 2)).2.2))).2.1, []⟩))] [] := fun k h => fs_wRest hst hp (s := ⟨k, (headW (b.drop 2)).1, (headW (b.drop 2)).2.1, [], 0, []⟩) (by omega) hb
    simp only [rdC, hz]
    by_cases e1 : c = 91
    · have g1 : ((c.toNat : Int) == 91) = true := by rw [g1]; exact decide_eq_true e1
      rw [if_pos e1] at hrd
      have h2 := k2 (by rw [e1]; decide)
      simp +contextual (maxSteps := 1000000) only [g1, w2, go_sem, reduceCtorEq, ↓reduceIte, Nat.reduceAdd, Nat.reduceEqDiff, Nat.reduceLeDiff]
      refine CallP.rdX (Ha := []) (cp 1 h2) hp rfl (by simp) (by simp [rdC, pw, w2]) ?_
      simp +contextual (maxSteps := 1000000) only [go_sem, reduceCtorEq, ↓reduceIte, Nat.reduceAdd]
      refine CallP.rdX (Ha := []) (cq 1 h2) hp rfl (by simp) (by simp) ?_
      simp +contextual (maxSteps := 1000000) only [go_sem]
      rw [← hQ, hrd]
      exact ⟨trivial, Ret.rd rfl rfl hp (by simp)⟩
    · have g1 : ((c.toNat : Int) == 91) = false := by rw [g1]; exact decide_eq_false e1
      rw [if_neg e1] at hrd
      by_cases e2 : c = 79
      · have g2 : ((c.toNat : Int) == 79) = true := by rw [g2]; exact decide_eq_true e2
        rw [if_pos e2] at hrd
        simp +contextual (maxSteps := 1000000) only [g1, g2, w2, go_sem, reduceCtorEq, ↓reduceIte, Nat.reduceAdd, Nat.reduceEqDiff, Nat.reduceLeDiff]
        refine CallP.rdX (Ha := []) (fs_next hst hp (b := b) (n := 2) (s := ⟨2, 0, [], [], 0, []⟩) (by omega)) hp rfl (by simp) (by simp [rdC, pw, w2]) ?_
        simp only [rdC]
        simp +contextual (maxSteps := 1000000) only [go_sem, ↓reduceIte, Nat.reduceAdd, Nat.reduceEqDiff, Nat.reduceLeDiff]
        rw [← hQ, hrd]
        exact ⟨trivial, Ret.rd rfl rfl hp (by simp [rdC, peekW])⟩
      · have g2 : ((c.toNat : Int) == 79) = false := by rw [g2]; exact decide_eq_false e2
        rw [if_neg e2] at hrd
        by_cases e3 : c = 80
        · have g3 : ((c.toNat : Int) == 80) = true := by rw [g3]; exact decide_eq_true e3
          rw [if_pos e3] at hrd
          have h2 := k2 (by rw [e3]; decide)
          have hdd := hd h27 (by rw [hc]; exact e3)
          simp +contextual (maxSteps := 1000000) only [g1, g2, g3, w2, go_sem, reduceCtorEq, ↓reduceIte, Nat.reduceAdd, Nat.reduceEqDiff, Nat.reduceLeDiff]
          refine CallP.rdX (Ha := []) (cp 3 h2) hp rfl (by simp) (by simp [rdC, pw, w2]) ?_
          simp +contextual (maxSteps := 1000000) only [go_sem, reduceCtorEq, ↓reduceIte, Nat.reduceAdd]
          refine CallP.rdX (Ha := []) (cq 3 h2) hp rfl (by simp) (by simp) ?_
          generalize 2 + (headW (b.drop 2)).2.2 + (restW (b.drop (2 + (headW (b.drop 2)).2.2))).2.2 = n at hdd hrd ⊢
          have cr : ∀ s, FS Tryz.prog Gl 186 [.ptr p 0, .int .u8 32, .int .u8 126] [(p, .cells (rdC b n s))] [] (.str (runL 32 126 (b.drop n))) [(p, .cells (rdC b (n + (runL 32 126 (b.drop n)).length) s))] [] := fun s => fs_run hst hp (x := 32) (y := 126) hdd (by omega)
          have hrl := runL_le 32 126 (b.drop n)
          rw [List.length_drop] at hrl
          have hw : IntKind.i64.wrap (((n + (runL 32 126 (b.drop n)).length : Nat) : Int) + 2) = ((n + (runL 32 126 (b.drop n)).length + 2 : Nat) : Int) := by rw [IntKind.wrap_i64]; omega
          generalize runL 32 126 (b.drop n) = dt at cr hrl hw hrd
          simp +contextual (maxSteps := 1000000) only [go_sem, reduceCtorEq, ↓reduceIte, Nat.reduceAdd]
          refine CallP.rdX (Ha := []) (cr ⟨3, (headW (b.drop 2)).1, (headW (b.drop 2)).2.1, (restW (b.drop (2 + (headW (b.drop 2)).2.2))).1, (restW (b.drop (2 + (headW (b.drop 2)).2.2))).2.1, []⟩) hp rfl (by simp) (by simp) ?_
          simp only [rdC]
          simp +contextual (maxSteps := 1000000) only [hw, go_sem, reduceCtorEq, ↓reduceIte, Nat.reduceAdd, Nat.reduceEqDiff, Nat.reduceLeDiff]
          rw [← hQ, hrd]
          exact ⟨trivial, Ret.rd rfl rfl hp (by simp [rdC])⟩
        · have g3 : ((c.toNat : Int) == 80) = false := by rw [g3]; exact decide_eq_false e3
          rw [if_neg e3] at hrd
          by_cases e4 : c = 93
          · have g4 : ((c.toNat : Int) == 93) = true := by rw [g4]; exact decide_eq_true e4
            rw [if_pos e4] at hrd
            have h2 := k2 (by rw [e4]; decide)
            have cr : ∀ s, FS Tryz.prog Gl 186 [.ptr p 0, .int .u8 32, .int .u8 126] [(p, .cells (rdC b 2 s))] [] (.str (runL 32 126 (b.drop 2))) [(p, .cells (rdC b (2 + (runL 32 126 (b.drop 2)).length) s))] [] := fun s => fs_run hst hp (x := 32) (y := 126) h2 (by omega)
            have hrl := runL_le 32 126 (b.drop 2)
            rw [List.length_drop] at hrl
            have hw : IntKind.i64.wrap (((2 + (runL 32 126 (b.drop 2)).length : Nat) : Int) + 2) = ((2 + (runL 32 126 (b.drop 2)).length + 2 : Nat) : Int) := by rw [IntKind.wrap_i64]; omega
            generalize runL 32 126 (b.drop 2) = dt at cr hrl hw hrd
            simp +contextual (maxSteps := 1000000) only [g1, g2, g3, g4, w2, go_sem, reduceCtorEq, ↓reduceIte, Nat.reduceAdd, Nat.reduceEqDiff, Nat.reduceLeDiff]
            refine CallP.rdX (Ha := []) (cr ⟨4, 0, [], [], 0, []⟩) hp rfl (by simp) (by simp [rdC, pw, w2]) ?_
            simp only [rdC]
            simp +contextual (maxSteps := 1000000) only [hw, go_sem, reduceCtorEq, ↓reduceIte, Nat.reduceAdd, Nat.reduceEqDiff, Nat.reduceLeDiff]
            rw [← hQ, hrd]
            exact ⟨trivial, Ret.rd rfl rfl hp (by simp [rdC])⟩
          · have g4 : ((c.toNat : Int) == 93) = false := by rw [g4]; exact decide_eq_false e4
            rw [if_neg e4] at hrd
            simp +contextual (maxSteps := 1000000) only [g1, g2, g3, g4, go_sem, reduceCtorEq, ↓reduceIte, Nat.reduceAdd, Nat.reduceEqDiff, Nat.reduceLeDiff]
            refine CallP.rdX (Ha := []) (fs_wRest hst hp (b := b) (n := 1) (s := ⟨5, 0, [], [], 0, []⟩) hl1 hb) hp rfl (by simp) (by simp [rdC, pw, w2]) ?_
            simp +contextual (maxSteps := 1000000) only [go_sem]
            rw [← hQ, hrd]
            exact ⟨trivial, Ret.rd rfl rfl hp (by simp)⟩
  · have n1 : (((b.headD 0).toNat : Int) != 27) = true := by rw [n1, decide_eq_false h27]; rfl
    simp +contextual (maxSteps := 1000000) only [n1, go_sem, reduceCtorEq, ↓reduceIte, Nat.reduceAdd]
    rw [← hQ]
    refine ⟨trivial, Ret.rd rfl rfl hp ?_⟩
    unfold readW
    rw [if_pos h27]
    exact List.mem_singleton.2 rfl
end Go.Proofs.YtjankibepgnbfaaGreatDoor

namespace Go.Proofs.YtjankibepgnbfaaGreatDoor
open Go Go.Ab
def ir_bytesEqual : ICode :=
 (.seq
 (.reg [qA 4 (.mov (qB false))] (some [0,1]))
 (.seq
 (.reg [qM 5 0,
 qA 6 (.b2s (.t 5)),
 qM 7 1,
 qA 8 (.b2s (.t 7)),
 qA 9 (.bin .eql .none (.t 6) (.t 8)),
 qM 4 9] (some [4]))
 .ret))
theorem is_bytesEqual : IrOf Tryz.prog 21 10 ir_bytesEqual [.t 4] := ⟨_, Tryz.func21, rfl, by kernel_rfl, by kernel_rfl, by kernel_rfl⟩

def ir_bytesHasPrefix : ICode :=
 (.seq
 (.reg [qA 4 (.mov (qB false))] (some [0,1]))
 (.seq
 (.reg [qM 5 0,
 qA 6 (.len (.t 5)),
 qM 7 1,
 qA 8 (.len (.t 7)),
 qA 9 (.bin .geq .none (.t 6) (.t 8)),
 qM 10 9,
 qG 11 10 true (.mov (.t 0)),
 qG 12 10 true (.mov (.t 1)),
 qG 13 10 true (.len (.t 12)),
 qG 14 10 true (.sll 1 (.t 11) none (some (.t 13)) none),
 qG 15 10 true (.mov (.t 1)),
 qG 16 10 true (.call (qC 21) [(.t 14), (.t 15)]),
 qA 17 (.pick (.t 10) (.t 16) (qB false)),
 qM 4 17] (some [4]))
 .ret))
theorem is_bytesHasPrefix : IrOf Tryz.prog 106 18 ir_bytesHasPrefix [.t 4] := ⟨_, Tryz.func106, rfl, by kernel_rfl, by kernel_rfl, by kernel_rfl⟩

def ir_wireTake : ICode :=
 (.seq
 (.reg [qA 2 (.box 43 (.c (.agg [(.int .i64 0), (.int .u8 0), .nils, (.str []), (.int .u8 0), (.str [])]))),
 qA 3 (.mov (qI 0)),
 qA 4 (.mov (qI 0))] (some [0,2]))
 (.seq
 (.reg [qM 8 0,
 qA 9 (.bld [.nils, (.int .i64 0)] [(0, 1, (.t 8))]),
 qA 10 (.bld [.nils, (.int .i64 0), (.int .i64 0), (.int .u8 0), .nils, (.str []), (.int .u8 0), (.str [])] [(0, 2, (.t 9))]),
 qA 5 (.box 174 (.c (.agg [.nils, (.int .i64 0), (.int .i64 0), (.int .u8 0), .nils, (.str []), (.int .u8 0), (.str [])]))),
 qN (.st 8 (.t 5) (.t 10))] (some [0,2,5]))
 (.seq
 (.reg [qA 11 (.call (qC 150) [(.t 5)])] (some [0,2,5]))
 (.seq
 (.reg [qF 13 2 5,
 qA 14 (.ld (some 6) (.t 13)),
 qA 15 (.call (qC 60) [(.t 14)]),
 qM 12 15,
 qE 16 12 0,
 qE 17 12 1,
 qM 6 16,
 qM 7 17] (some [0,2,5,6,7]))
 (.seq
 (.seq
 (.reg [qM 18 7,
 qA 19 (.bin .neq .none (.t 18) (qI 0)),
 qM 20 19,
 qG 21 20 false (.mov (.t 0)),
 qG 22 20 false (.mov (.t 6)),
 qG 23 20 false (.call (qC 106) [(.t 21), (.t 22)]),
 qG 24 20 false (.un .not (.t 23)),
 qA 25 (.pick (.t 20) (qB true) (.t 24)),
 qM 26 25,
 qG 27 26 false (.mov (.t 6)),
 qG 28 26 false (.len (.t 27)),
 qG 29 26 false (.fa 0 (.t 5)),
 qG 30 26 false (.fa 1 (.t 29)),
 qG 31 26 false (.ld none (.t 30)),
 qG 32 26 false (.bin .neq .none (.t 28) (.t 31)),
 qA 33 (.pick (.t 26) (qB true) (.t 32))] (some [2,5,33]))
 (.cond (.t 33)
 (.seq
 (.reg [qA 34 (.bld [(.int .i64 0), (.int .u8 0), .nils, (.str []), (.int .u8 0), (.str [])] []),
 qN (.st 6 (.t 2) (.t 34)),
 qA 3 (.mov (qI 0)),
 qA 4 (.mov (qI 2))] (some [2,3,4]))
 .ret)
 .skip))
 (.seq
 (.drwm [(), (), (), (), ()] [⟨qF 35 2 5, []⟩,
 ⟨qA 36 (.ld (some 6) (.t 35)), [0]⟩,
 ⟨qF 37 0 5, []⟩,
 ⟨qF 38 1 37, [2]⟩,
 ⟨qL 39 38, [3]⟩,
 ⟨qN (.st 6 (.t 2) (.t 36)), [1,0,1]⟩]
 [qM 3 39,
 qA 4 (.mov (qI 0))] (some [2,3,4]))
 .ret))))))
theorem is_wireTake : IrOf Tryz.prog 107 40 ir_wireTake [.cell 2 (some 6), .t 3, .t 4] := ⟨_, Tryz.func107, rfl, by kernel_rfl, by kernel_rfl, by kernel_rfl⟩

theorem fs_BEqual {Gl : Gh → Prop} (hst : Stays Gl) {a b : List UInt8} {ta tb : Option Nm} : FS Tryz.prog Gl 21 [.sl ta 1 (bytesAV a), .sl tb 1 (bytesAV b)] [] [] (.bool (decide (a = b))) [] [] := by
  refine FS.of hm hst is_bytesEqual (by simp) fun γ hγ hfr => ?_
  (generalize hQ : (fun (ex : Ex) (_ _ : Nat) (s : St) => _) = Q; unfold ir_bytesEqual)
  simp +contextual (maxSteps := 1000000) only [bb_un, bb_is, implies_true, go_sem, reduceCtorEq, ↓reduceIte, Nat.reduceAdd, Nat.reduceEqDiff]
  rw [← hQ]
  exact ⟨trivial, Ret.flat rfl rfl⟩
theorem fs_BHasPrefix {Gl : Gh → Prop} (hst : Stays Gl) {a b : List UInt8} {ta tb : Option Nm} : FS Tryz.prog Gl 106 [.sl ta 1 (bytesAV a), .sl tb 1 (bytesAV b)] [] [] (.bool (decide (b <+: a))) [] [] := by
  refine FS.of hm hst is_bytesHasPrefix (by simp) fun γ hγ hfr => ?_
  (generalize hQ : (fun (ex : Ex) (_ _ : Nat) (s : St) => _) = Q; unfold ir_bytesHasPrefix)
  by_cases h : b.length ≤ a.length
  · have hd : decide ((a.length : Int) ≥ (b.length : Int)) = true := by simp; omega
    have e : decide (b <+: a) = decide (a.take b.length = b) := by
      rw [decide_eq_decide]
      constructor
      · rintro ⟨r, rfl⟩; simp
      · intro h'; rw [← h']; exact List.take_prefix _ _
    simp +contextual (maxSteps := 1000000) only [hd, bytesAV_length', bytesAV_take, Int.toNat_natCast, Int.toNat_zero, go_sem, reduceCtorEq, ↓reduceIte, Nat.reduceAdd, Nat.reduceEqDiff, Int.reduceLE]
    refine ⟨by omega, ?_⟩
    (refine CallP.pure (fs_BEqual hst) (fun _ => rfl) ?_; simp +contextual (maxSteps := 1000000) only [go_sem, ↓reduceIte, Nat.reduceAdd, Nat.reduceEqDiff])
    rw [← hQ, e]
    exact ⟨trivial, Ret.flat rfl rfl⟩
  · have hd : decide ((a.length : Int) ≥ (b.length : Int)) = false := by simp; omega
    simp +contextual (maxSteps := 1000000) only [hd, bytesAV_length', go_sem, reduceCtorEq, ↓reduceIte, Nat.reduceAdd, Nat.reduceEqDiff]
    rw [← hQ]
    have e : decide (b <+: a) = false := decide_eq_false fun hh => h hh.length_le
    rw [e]
    exact ⟨trivial, Ret.flat rfl rfl⟩
theorem pw_args {k pr fi : Int} {ps : List (List Int)} {it da : List UInt8} : LeL [.agg [.int .i64 k, .int .u8 pr, pw ps, .str it, .int .u8 fi, .str da]] [.agg (Sq.c ⟨k, pr, ps, it, fi, da⟩)] :=
  ⟨RepLe.agg ⟨.refl _, .refl _, pw_le _, .refl _, .refl _, .refl _, trivial⟩, trivial⟩
theorem RepLe.tupL {xs ys : List AV} (h : LeL xs ys) : RepLe (.tup xs) (.tup ys) := fun g v ⟨vs, e, k⟩ => ⟨vs, e, h.rep k⟩
theorem zero_le : RepLe (.tup [.agg [.int .i64 0, .int .u8 0, .nils, .str [], .int .u8 0, .str []], .int .i64 0, .int .i64 2]) (.tup [.agg zeroSq.c, .int .i64 0, .int .i64 2]) :=
  RepLe.tupL ⟨RepLe.agg ⟨.refl _, .refl _, .nils 1, .refl _, .refl _, .refl _, trivial⟩, .refl _, .refl _, trivial⟩
def takeV (b : List UInt8) : AV := match takeW b with
  | some (s, n) => .tup [.agg s.c, .int .i64 (n : Int), .int .i64 0]
  | none => .tup [.agg zeroSq.c, .int .i64 0, .int .i64 2]
theorem headD_range (l : List UInt8) : 0 ≤ ((l.headD 0).toNat : Int) ∧ ((l.headD 0).toNat : Int) < 256 := by
  have := (l.headD 0).toNat_lt; omega
theorem headW_sz (l : List UInt8) : (0 ≤ (headW l).1 ∧ (headW l).1 < 256) ∧ (headW l).2.1.length ≤ l.length + 1 ∧ ∀ p ∈ (headW l).2.1, p.length ≤ l.length + 1 := by
  unfold headW
  simp only
  have hh := headD_range l
  refine ⟨by split <;> omega, ?_⟩
  generalize (if isPr (l.headD 0) = true then 1 else 0) = k
  have h1 := runL_le 48 59 (l.drop k)
  rw [List.length_drop] at h1
  generalize runL 48 59 (l.drop k) = t at h1
  unfold numsW
  split
  · simp
  · have h2 := splitB_len (c := 59) (l := t)
    refine ⟨by simp; omega, fun p hp => ?_⟩
    obtain ⟨q, hq, rfl⟩ := List.mem_map.1 hp
    have h3 := splitB_mem_len hq
    have h4 := splitB_len (c := 58) (l := q)
    simp [subsW]; omega
theorem restW_sz (l : List UInt8) : (restW l).1.length ≤ l.length ∧ 0 ≤ (restW l).2.1 ∧ (restW l).2.1 < 256 := by
  unfold restW
  exact ⟨runL_le _ _ _, headD_range _⟩
theorem readW_sz {b : List UInt8} (hb : b.length ≤ 4000000000) : (0 ≤ (readW b).1.pr ∧ (readW b).1.pr < 256) ∧ 0 ≤ (readW b).1.fi ∧ (readW b).1.fi < 256 ∧ (readW b).1.sm := by
  have a1 := headW_sz (b.drop 2)
  have a2 := fun n => restW_sz (b.drop n)
  have a3 := fun n => runL_le 32 126 (b.drop n)
  simp only [List.length_drop] at a1 a2 a3
  unfold readW
  split
  · exact ⟨by simp [zeroSq], by simp [zeroSq], by simp [zeroSq], ⟨by simp [zeroSq], by simp [zeroSq], by simp [zeroSq], by simp [zeroSq]⟩⟩
  · simp only
    split
    · have := a2 (2 + (headW (b.drop 2)).2.2)
      exact ⟨a1.1, this.2.1, this.2.2, ⟨by have := a1.2.1; simp only; omega, fun p hp => by have := a1.2.2 p hp; omega, by have := this.1; simp only; omega, by simp⟩⟩
    · split
      · have := headD_range (b.drop 2)
        exact ⟨by simp, this.1, this.2, ⟨by simp, by simp, by simp, by simp⟩⟩
      · split
        · have := a2 (2 + (headW (b.drop 2)).2.2)
          exact ⟨a1.1, this.2.1, this.2.2, ⟨by have := a1.2.1; simp only; omega, fun p hp => by have := a1.2.2 p hp; omega, by have := this.1; simp only; omega, Nat.lt_of_le_of_lt (a3 _) (by omega)⟩⟩
        · split
          · exact ⟨by simp, by simp, by simp, ⟨by simp, by simp, by simp, Nat.lt_of_le_of_lt (a3 _) (by omega)⟩⟩
          · have := a2 1
            exact ⟨by simp, this.2.1, this.2.2, ⟨by simp, by simp, by have := this.1; simp only; omega, by simp⟩⟩
set_option maxHeartbeats 4000000 in
theorem fs_wTakeA {Gl : Gh → Prop} (hst : Stays Gl) {b : List UInt8} {tb : Option Nm} (hb : b.length ≤ 4000000000) (hd : dcsOk b) :
    FS Tryz.prog Gl 107 [.sl tb 1 (bytesAV b)] [] [] (takeV b) [] [] := by
  refine FS.args (args' := [.sl none 1 (bytesAV b)]) ?_ ⟨RepLe.anon _ _ _, trivial⟩
  have hfl : (takeV b).flatT = true := by
    unfold takeV; split <;> rfl
  obtain ⟨⟨p0, p1⟩, f0, hf, hsm⟩ := readW_sz hb
  have c2 : FS Tryz.prog Gl 60 [.agg [.int .i64 (readW b).1.k, .int .u8 (readW b).1.pr, pw (readW b).1.ps, .str (readW b).1.it, .int .u8 (readW b).1.fi, .str (readW b).1.da]] [] [] (.tup [putV (readW b).1, .int .i64 (mayP (readW b).1)]) [] [] := FS.args (fs_wPut hst p0 p1 f0 hf hsm) pw_args
  refine FS.ofW hm hst is_wireTake hfl (by simp) fun γ hγ hfr => ?_
  (generalize hQ : (fun (ex : Ex) (_ _ : Nat) (s : St) => _) = Q; unfold ir_wireTake)
  simp +contextual (maxSteps := 1000000) only [go_sem, reduceCtorEq, ↓reduceIte, Nat.reduceAdd, Nat.reduceEqDiff, Nat.reduceLeDiff]
  refine CallP.rdX (Ha := [((γ, 0, 0), .cells [.int .i64 0, .int .u8 0, .nils, .str [], .int .u8 0, .str []])]) (fs_wRead (p := (γ, 6, 0)) hst hγ hb hd) hγ rfl (by simp) (by simp [rdC, pw, zeroSq]) ?_
  have htk : takeW b = if mayP (readW b).1 = 0 ∧ putB (readW b).1 <+: b ∧ (putB (readW b).1).length = (readW b).2 then some (readW b) else none := rfl
  have htv : takeV b = match takeW b with | some (s, n) => .tup [.agg s.c, .int .i64 (n : Int), .int .i64 0] | none => .tup [.agg zeroSq.c, .int .i64 0, .int .i64 2] := rfl
  generalize readW b = r at *
  obtain ⟨⟨k, pr, ps, it, fi, da⟩, n⟩ := r
  simp only at *
  have hpv : putV ⟨k, pr, ps, it, fi, da⟩ = if (mayP ⟨k, pr, ps, it, fi, da⟩ != 0) = true then .nils else .sl none 1 (bytesAV (putB ⟨k, pr, ps, it, fi, da⟩)) := rfl
  simp only [rdC]
  by_cases hmy : mayP ⟨k, pr, ps, it, fi, da⟩ = 0
  · rw [hmy] at hpv c2
    rw [show ((0 : Int) != 0) = false from rfl, if_neg (by simp)] at hpv
    rw [hpv] at c2
    rw [hmy] at htk
    simp +contextual (maxSteps := 1000000) only [go_sem, reduceCtorEq, ↓reduceIte, Nat.reduceAdd, Nat.reduceEqDiff]
    (refine CallP.pure (c2) (fun _ => rfl) ?_; simp +contextual (maxSteps := 1000000) only [go_sem, reduceCtorEq, ↓reduceIte, Nat.reduceAdd, Nat.reduceEqDiff, Int.reduceBNe])
    cases hpx : decide (putB ⟨k, pr, ps, it, fi, da⟩ <+: b) with
    | false =>
      have c3 := fs_BHasPrefix (Gl := Gl) hst (a := b) (b := putB ⟨k, pr, ps, it, fi, da⟩) (ta := none) (tb := none)
      rw [hpx] at c3
      (refine CallP.pure (c3) (fun _ => rfl) ?_; simp +contextual (maxSteps := 1000000) only [go_sem, reduceCtorEq, ↓reduceIte, Nat.reduceAdd, Nat.reduceEqDiff])
      have hn0 : takeW b = none := by rw [htk, if_neg (fun h => of_decide_eq_false hpx h.2.1)]
      rw [← hQ, htv, hn0]
      refine ⟨trivial, .inl ⟨.tup [.agg [.int .i64 0, .int .u8 0, .nils, .str [], .int .u8 0, .str []], .int .i64 0, .int .i64 2], ?_, zero_le⟩⟩
      simp [resOf, getAll, IRes.get, lf, getH]
    | true =>
      have c3 := fs_BHasPrefix (Gl := Gl) hst (a := b) (b := putB ⟨k, pr, ps, it, fi, da⟩) (ta := none) (tb := none)
      rw [hpx] at c3
      by_cases hln : (putB ⟨k, pr, ps, it, fi, da⟩).length = n
      · have hq : (((putB ⟨k, pr, ps, it, fi, da⟩).length : Int) != (n : Int)) = false := by rw [bne_eq_false_iff_eq]; omega
        (refine CallP.pure (c3) (fun _ => rfl) ?_; simp +contextual (maxSteps := 1000000) only [bytesAV_length', hq, go_sem, reduceCtorEq, ↓reduceIte, Nat.reduceAdd, Nat.reduceEqDiff])
        refine kDrwM_of [((γ, 6, 0), .cells [.sl none 1 (bytesAV b), .int .i64 n, .int .i64 k, .int .u8 pr, pw ps, .str it, .int .u8 fi, .str da])] [((γ, 0, 0), .cells [.int .i64 0, .int .u8 0, .nils, .str [], .int .u8 0, .str []])] (by simp) (by simp) ?_
        simp +contextual (maxSteps := 1000000) only [pw_cells, pw_one, go_sem, ↓reduceIte, Nat.reduceAdd, Nat.reduceEqDiff, Nat.reduceBEq]
        refine ⟨by simp, ?_⟩
        have hs0 : takeW b = some (⟨k, pr, ps, it, fi, da⟩, n) := by rw [htk, if_pos ⟨rfl, of_decide_eq_true hpx, hln⟩]
        rw [← hQ, htv, hs0]
        refine ⟨trivial, .inl ⟨.tup [.agg [.int .i64 k, .int .u8 pr, pw ps, .str it, .int .u8 fi, .str da], .int .i64 n, .int .i64 0], ?_, RepLe.tupL ⟨RepLe.agg ⟨.refl _, .refl _, pw_le _, .refl _, .refl _, .refl _, trivial⟩, .refl _, .refl _, trivial⟩⟩⟩
        simp [resOf, getAll, IRes.get, lf, getH]
      · have hq : (((putB ⟨k, pr, ps, it, fi, da⟩).length : Int) != (n : Int)) = true := by rw [bne_iff_ne]; omega
        have hn0 : takeW b = none := by rw [htk, if_neg (fun h => hln h.2.2)]
        (refine CallP.pure (c3) (fun _ => rfl) ?_; simp +contextual (maxSteps := 1000000) only [bytesAV_length', hq, go_sem, reduceCtorEq, ↓reduceIte, Nat.reduceAdd, Nat.reduceEqDiff])
        rw [← hQ, htv, hn0]
        refine ⟨trivial, .inl ⟨.tup [.agg [.int .i64 0, .int .u8 0, .nils, .str [], .int .u8 0, .str []], .int .i64 0, .int .i64 2], ?_, zero_le⟩⟩
        simp [resOf, getAll, IRes.get, lf, getH]
  · have hmb : (mayP ⟨k, pr, ps, it, fi, da⟩ != 0) = true := by rw [bne_iff_ne]; exact hmy
    rw [hmb, if_pos rfl] at hpv
    rw [hpv] at c2
    have hn0 : takeW b = none := by rw [htk, if_neg (fun h => hmy h.1)]
    simp +contextual (maxSteps := 1000000) only [go_sem, reduceCtorEq, ↓reduceIte, Nat.reduceAdd, Nat.reduceEqDiff]
    (refine CallP.pure (c2) (fun _ => rfl) ?_; simp +contextual (maxSteps := 1000000) only [hmb, go_sem, reduceCtorEq, ↓reduceIte, Nat.reduceAdd, Nat.reduceEqDiff])
    rw [← hQ, htv, hn0]
    refine ⟨trivial, .inl ⟨.tup [.agg [.int .i64 0, .int .u8 0, .nils, .str [], .int .u8 0, .str []], .int .i64 0, .int .i64 2], ?_, zero_le⟩⟩
    simp [resOf, getAll, IRes.get, lf, getH]
end Go.Proofs.YtjankibepgnbfaaGreatDoor

namespace Go.Proofs.YtjankibepgnbfaaGreatDoor
open Go Go.Ab
def ir_wireArg : ICode :=
 (.seq
 (.reg [qA 3 (.box 43 (.t 0)),
 qA 6 (.mov (qI 0))] (some [1,2,3]))
 (.seq
 (.seq
 (.reg [qM 7 1,
 qA 8 (.bin .lss .none (.t 7) (qI 0)),
 qM 9 8,
 qG 10 9 false (.mov (.t 1)),
 qG 11 9 false (.fa 2 (.t 3)),
 qG 12 9 false (.ld none (.t 11)),
 qG 13 9 false (.len (.t 12)),
 qG 14 9 false (.bin .geq .none (.t 10) (.t 13)),
 qA 15 (.pick (.t 9) (qB true) (.t 14)),
 qM 16 15,
 qG 17 16 false (.fa 2 (.t 3)),
 qG 18 16 false (.ld none (.t 17)),
 qG 19 16 false (.mov (.t 1)),
 qG 20 16 false (.ia 1 (.t 18) (.t 19)),
 qG 21 16 false (.ld none (.t 20)),
 qG 22 16 false (.len (.t 21)),
 qG 23 16 false (.bin .eql .none (.t 22) (qI 0)),
 qA 24 (.pick (.t 16) (qB true) (.t 23)),
 qM 25 24,
 qG 26 25 false (.fa 2 (.t 3)),
 qG 27 25 false (.ld none (.t 26)),
 qG 28 25 false (.mov (.t 1)),
 qG 29 25 false (.ia 1 (.t 27) (.t 28)),
 qG 30 25 false (.ld none (.t 29)),
 qG 31 25 false (.ia 1 (.t 30) (qI 0)),
 qG 32 25 false (.ld none (.t 31)),
 qG 33 25 false (.bin .lss .none (.t 32) (qI 0)),
 qA 34 (.pick (.t 25) (qB true) (.t 33))] (some [1,2,3,34]))
 (.cond (.t 34)
 (.seq
 (.reg [qM 35 2,
 qM 6 35] (some [6]))
 .ret)
 .skip))
 (.seq
 (.reg [qF 36 2 3,
 qL 37 36,
 qM 38 1,
 qA 39 (.ia 1 (.t 37) (.t 38)),
 qL 40 39,
 qA 41 (.ia 1 (.t 40) (qI 0)),
 qL 42 41,
 qM 6 42] (some [6]))
 .ret)))
theorem is_wireArg : IrOf Tryz.prog 108 43 ir_wireArg [.t 6] := ⟨_, Tryz.func108, rfl, by kernel_rfl, by kernel_rfl, by kernel_rfl⟩

def argW (ps : List (List Int)) (i : Nat) (o : Int) : Int := match ps[i]? with
  | some (x :: _) => if x < 0 then o else x
  | _ => o
theorem fs_wArg {Gl : Gh → Prop} (hst : Stays Gl) {k pr fi o : Int} {ps : List (List Int)} {it da : List UInt8} {i : Nat} : FS Tryz.prog Gl 108 [.agg [.int .i64 k, .int .u8 pr, .sl none 1 (parsAV ps), .str it, .int .u8 fi, .str da], .int .i64 (i : Int), .int .i64 o] [] [] (.int .i64 (argW ps i o)) [] [] := by
  refine FS.of hm hst is_wireArg (by simp) fun γ hγ hfr => ?_
  (generalize hQ : (fun (ex : Ex) (_ _ : Nat) (s : St) => _) = Q; unfold ir_wireArg)
  have h0 : decide ((i : Int) < 0) = false := by simp
  by_cases hlt : i < ps.length
  · have h1 : decide ((i : Int) ≥ (ps.length : Int)) = false := by simp; omega
    have hg : (parsAV ps).getD i [] = [intsV ps[i]] := by
      rw [List.getD_eq_getElem?_getD]; simp [parsAV, hlt]
    have hi : intsV ps[i] = .sl none 1 (intsAV ps[i]) := rfl
    cases hp : ps[i] with
    | nil =>
      rw [hi, hp] at hg
      have ha : argW ps i o = o := by unfold argW; rw [List.getElem?_eq_getElem hlt, hp]
      have hl : (((intsAV ([] : List Int)).length : Int) == 0) = true := rfl
      simp +contextual (maxSteps := 1000000) only [h0, h1, hg, hl, parsAV_length, Int.toNat_natCast, go_sem, reduceCtorEq, ↓reduceIte, Nat.reduceAdd, Nat.reduceEqDiff]
      refine ⟨by omega, ?_⟩
      rw [← hQ, ha]
      exact ⟨trivial, Ret.flat rfl rfl⟩
    | cons x l =>
      rw [hi, hp] at hg
      have hg0 : (intsAV (x :: l)).getD 0 [] = [.int .i64 x] := rfl
      have hl : (((intsAV (x :: l)).length : Int) == 0) = false := by simp [intsAV]; omega
      have hl0 : (0 : Int) < ((intsAV (x :: l)).length : Int) := by rw [intsAV_length, List.length_cons]; omega
      by_cases hx : x < 0
      · have hd : decide (x < 0) = true := decide_eq_true hx
        have ha : argW ps i o = o := by unfold argW; rw [List.getElem?_eq_getElem hlt, hp]; exact if_pos hx
        simp +contextual (maxSteps := 1000000) only [h0, h1, hg, hg0, hl, hd, parsAV_length, Int.toNat_natCast, Int.toNat_zero, go_sem, reduceCtorEq, ↓reduceIte, Nat.reduceAdd, Nat.reduceEqDiff, Int.reduceLE]
        refine ⟨⟨by omega, by omega⟩, ⟨by omega, by omega⟩, hl0, ?_⟩
        rw [← hQ, ha]
        exact ⟨trivial, Ret.flat rfl rfl⟩
      · have hd : decide (x < 0) = false := decide_eq_false hx
        have ha : argW ps i o = x := by unfold argW; rw [List.getElem?_eq_getElem hlt, hp]; exact if_neg hx
        simp +contextual (maxSteps := 1000000) only [h0, h1, hg, hg0, hl, hd, parsAV_length, Int.toNat_natCast, Int.toNat_zero, go_sem, reduceCtorEq, ↓reduceIte, Nat.reduceAdd, Nat.reduceEqDiff, Int.reduceLE]
        refine ⟨⟨by omega, by omega⟩, ⟨by omega, by omega⟩, hl0, ⟨by omega, by omega⟩, hl0, ?_⟩
        rw [← hQ, ha]
        exact ⟨trivial, Ret.flat rfl rfl⟩
  · have h1 : decide ((i : Int) ≥ (ps.length : Int)) = true := by simp; omega
    have ha : argW ps i o = o := by unfold argW; rw [List.getElem?_eq_none (by omega)]
    simp +contextual (maxSteps := 1000000) only [h0, h1, parsAV_length, go_sem, reduceCtorEq, ↓reduceIte, Nat.reduceAdd, Nat.reduceEqDiff]
    rw [← hQ, ha]
    exact ⟨trivial, Ret.flat rfl rfl⟩
end Go.Proofs.YtjankibepgnbfaaGreatDoor

namespace Go.Proofs.YtjankibepgnbfaaGreatDoor
open Go Go.Ab

def charK (k : Ky) : Int := if kindK k.code = 1 then shownK k else k.code
def allO (k : Ky) : Bool := (oldK k.mods != 0) && ((kindK k.code == 2) || (oldK k.mods != 1))
def fewO (k : Ky) : Bool := allO k && hasK k.mods 4 && (if kindK k.code = 2 then (k.code == 9) || (k.code == 13) else hasK k.mods 1 || !(foldK (shownK k)).isSome)
def lvO (o : Int) (k : Ky) : Bool := if o = 1 then fewO k else if o = 2 then allO k else false
def isO (o : Int) (k : Ky) : Bool := ((kindK k.code == 1) || (kindK k.code == 2)) && mayK k && (k.type != 3) && lvO o k
def othSq (k : Ky) : Sq := numSq 1 0 126 [27, 1 + oldK k.mods, charK k]
def othK (o : Int) (k : Ky) : List UInt8 := if isO o k = true then putB (othSq k) else []
theorem old_lt (m : Int) : 0 ≤ oldK m ∧ oldK m < 8 := by unfold oldK; omega
theorem char_range {k : Ky} (M : MayK k) : 0 ≤ charK k ∧ charK k ≤ 1114111 := by
  unfold charK
  split
  · rename_i h
    obtain ⟨n, h1, h2, _⟩ := isCP_spec (shown_cp h M.sh).1
    omega
  · exact kind_range M.kind
theorem may3 {a b c : Int} (ha : 0 ≤ a ∧ a ≤ 1114111) (hb : 0 ≤ b ∧ b ≤ 1114111) (hc : 0 ≤ c ∧ c ≤ 1114111) : mayP (numSq 1 0 126 [a, b, c]) = 0 := by
  have hp : parsOk (([a, b, c] : List Int).map fun n => [n]) = true := by
    simp only [parsOk, List.map_cons, List.map_nil, List.any_cons, List.any_nil, parBad, List.length_cons, List.length_nil]
    have q : ∀ {x : Int}, 0 ≤ x ∧ x ≤ 1114111 → (decide (x < -1) || decide (x > 1114111)) = false := fun h => by
      rw [decide_eq_false (by omega), decide_eq_false (by omega)]; rfl
    rw [q ha, q hb, q hc]
    simp
  unfold mayP numSq
  rw [hp]
  simp [within, shapedP]
theorem oth_may {k : Ky} (M : MayK k) : mayP (othSq k) = 0 := by
  have := old_lt k.mods
  exact may3 (by omega) (by omega) (char_range M)
theorem oth_len {k : Ky} (M : MayK k) : (putB (othSq k)).length ≤ 600 := by
  have h := oth_may M
  have hl : (parsText (othSq k).ps).length ≤ 161 * 3 := by
    have := parsText_len (ps := (othSq k).ps) (fun p hp => by
      have := (parsOk_iff (may_pars h)).2.2 p hp
      exact ⟨this.2.1, fun n hn => (this.2.2 n hn).2⟩)
    simpa [othSq, numSq] using this
  unfold putB bodyB
  rw [if_pos (by rfl)]
  have e1 : (othSq k).it = [] := rfl
  have e2 : prB (othSq k).pr = [] := rfl
  simp only [e1, e2, List.nil_append, List.append_nil, List.length_append, List.length_cons, List.length_nil]
  omega
end Go.Proofs.YtjankibepgnbfaaGreatDoor

namespace Go.Proofs.YtjankibepgnbfaaGreatDoor
open Go Go.Ab
end Go.Proofs.YtjankibepgnbfaaGreatDoor

namespace Go.Proofs.YtjankibepgnbfaaGreatDoor
open Go Go.Ab

def clearsK (fl : Int) : Bool := hasK fl 1 || hasK fl 8
def boardK (m : Md) (fl : Int) (k : Ky) : List UInt8 := if m.lock = true then [] else if clearsK fl = true then keyK fl k else if isO m.other k = true then putB (othSq k) else legK m k
theorem key_types {fl : Int} {k : Ky} (M : MayK k) (hf : hasK fl 2 = false) : keyK fl { k with type := 1 } = keyK fl { k with type := 2 } ∧ keyK fl { k with type := 3 } = [] := by
  have hm : ∀ t : Int, 1 ≤ t → t ≤ 3 → mayK { k with type := t } = true := fun t h1 h2 => mayK_iff.2 ⟨M.kind, M.m0, M.m1, h1, h2, M.sh, M.ba, M.tx⟩
  constructor
  · have s : sentK fl { k with type := 1 } = sentK fl { k with type := 2 } := by unfold sentK; simp
    have t : textK fl { k with type := 1 } = textK fl { k with type := 2 } := by unfold textK; simp [shownK]
    have q : keySq fl { k with type := 1 } = keySq fl { k with type := 2 } := by
      unfold keySq
      have e1 : firstK fl { k with type := 1 } (formK k.code).1 (formK k.code).2.toNat = firstK fl { k with type := 2 } (formK k.code).1 (formK k.code).2.toNat := rfl
      have e2 : secondK fl { k with type := 1 } = secondK fl { k with type := 2 } := by unfold secondK; simp [hf]
      have e3 : thirdK fl { k with type := 1 } = thirdK fl { k with type := 2 } := by unfold thirdK; simp
      simp only [e1, e2, e3]
    unfold keyK
    rw [hm 1 (by omega) (by omega), hm 2 (by omega) (by omega), s, t, q]
  · unfold keyK
    have s : sentK fl { k with type := 3 } = false := by unfold sentK; simp [hf]
    rw [s]
    simp
theorem leg_types {m : Md} {k : Ky} (M : MayK k) : legK m { k with type := 1 } = legK m { k with type := 2 } ∧ legK m { k with type := 3 } = [] := by
  have hm : ∀ t : Int, 1 ≤ t → t ≤ 3 → mayK { k with type := t } = true := fun t h1 h2 => mayK_iff.2 ⟨M.kind, M.m0, M.m1, h1, h2, M.sh, M.ba, M.tx⟩
  constructor
  · unfold legK
    rw [hm 1 (by omega) (by omega), hm 2 (by omega) (by omega)]
    rfl
  · unfold legK
    simp
theorem oth_types {o : Int} {k : Ky} (M : MayK k) : isO o { k with type := 1 } = isO o { k with type := 2 } ∧ isO o { k with type := 3 } = false := by
  have hm : ∀ t : Int, 1 ≤ t → t ≤ 3 → mayK { k with type := t } = true := fun t h1 h2 => mayK_iff.2 ⟨M.kind, M.m0, M.m1, h1, h2, M.sh, M.ba, M.tx⟩
  constructor
  · unfold isO
    rw [hm 1 (by omega) (by omega), hm 2 (by omega) (by omega)]
    rfl
  · unfold isO
    simp
theorem board_types {m : Md} {fl : Int} {k : Ky} (M : MayK k) (hf : hasK fl 2 = false) : boardK m fl { k with type := 1 } = boardK m fl { k with type := 2 } ∧ boardK m fl { k with type := 3 } = [] := by
  obtain ⟨a1, a2⟩ := key_types (fl := fl) M hf
  obtain ⟨b1, b2⟩ := leg_types (m := m) M
  obtain ⟨c1, c2⟩ := oth_types (o := m.other) M
  have hq : othSq { k with type := 1 } = othSq { k with type := 2 } := rfl
  unfold boardK
  rw [a1, a2, b1, b2, c1, c2, hq]
  exact ⟨rfl, by simp⟩
end Go.Proofs.YtjankibepgnbfaaGreatDoor

namespace Go.Proofs.YtjankibepgnbfaaGreatDoor
open Go Go.Ab
def ir_otherplain : ICode :=
 (.seq
 (.reg [qA 1 (.box 27 (.t 0)),
 qA 2 (.mov (qB false))] (some [1]))
 (.seq
 (.reg [qF 3 0 1,
 qL 4 3,
 qA 5 (.call (qC 55) [(.t 4)]),
 qA 6 (.fld 0 none (.t 5)),
 qA 7 (.bin .eql .none (.t 6) (qI 2)),
 qM 2 7] (some [2]))
 .ret))
theorem is_otherplain : IrOf Tryz.prog 122 8 ir_otherplain [.t 2] := ⟨_, Tryz.func122, rfl, by kernel_rfl, by kernel_rfl, by kernel_rfl⟩

def ir_otherchar : ICode :=
 (.seq
 (.reg [qA 1 (.box 27 (.t 0)),
 qA 2 (.mov (qI 0)),
 qA 3 (.mov (qB false))] (some [1]))
 (.seq
 (.seq
 (.reg [qF 4 0 1,
 qL 5 4,
 qA 6 (.call (qC 55) [(.t 5)]),
 qA 7 (.fld 0 none (.t 6))] (some [1,7]))
 (.blk 0
 (.seq
 (.reg [qA 9 (.bin .eql .none (.t 7) (qI 1)),
 qM 8 9] (some [1,7,8]))
 (.cond (.t 8)
 (.seq
 (.reg [qA 10 (.ld (some 6) (.t 1)),
 qA 11 (.call (qC 117) [(.t 10)]),
 qM 2 11,
 qA 3 (.mov (qB true))] (some [2,3]))
 .ret)
 (.seq
 (.reg [qA 13 (.bin .eql .none (.t 7) (qI 2)),
 qM 12 13] (some [1,12]))
 (.cond (.t 12)
 (.seq
 (.reg [qF 14 0 1,
 qL 15 14,
 qM 2 15,
 qA 3 (.mov (qB true))] (some [2,3]))
 .ret)
 .skip))))))
 (.seq
 (.reg [qA 2 (.mov (qI 0)),
 qA 3 (.mov (qB false))] (some [2,3]))
 .ret)))
theorem is_otherchar : IrOf Tryz.prog 67 16 ir_otherchar [.t 2, .t 3] := ⟨_, Tryz.func67, rfl, by kernel_rfl, by kernel_rfl, by kernel_rfl⟩

def ir_otherall : ICode :=
 (.seq
 (.reg [qA 1 (.box 27 (.t 0)),
 qA 2 (.mov (qB false))] (some [1]))
 (.seq
 (.reg [qF 4 1 1,
 qL 5 4,
 qA 6 (.call (qC 70) [(.t 5)]),
 qM 3 6] (some [1,3]))
 (.seq
 (.reg [qM 7 3,
 qA 8 (.bin .neq .none (.t 7) (qI 0)),
 qM 9 8,
 qG 10 9 true (.ld (some 6) (.t 1)),
 qG 11 9 true (.call (qC 122) [(.t 10)]),
 qG 12 9 true (.mov (.t 11)),
 qG 13 12 false (.mov (.t 3)),
 qG 14 12 false (.bin .neq .none (.t 13) (qI 1)),
 qG 15 9 true (.pick (.t 12) (qB true) (.t 14)),
 qA 16 (.pick (.t 9) (.t 15) (qB false)),
 qM 2 16] (some [2]))
 .ret)))
theorem is_otherall : IrOf Tryz.prog 66 17 ir_otherall [.t 2] := ⟨_, Tryz.func66, rfl, by kernel_rfl, by kernel_rfl, by kernel_rfl⟩

def ir_otherfew : ICode :=
 (.seq
 (.reg [qA 1 (.box 27 (.t 0)),
 qA 2 (.mov (qB false))] (some [1]))
 (.seq
 (.seq
 (.reg [qA 5 (.ld (some 6) (.t 1)),
 qA 6 (.call (qC 66) [(.t 5)]),
 qA 7 (.un .not (.t 6)),
 qM 8 7,
 qG 9 8 false (.fa 1 (.t 1)),
 qG 10 8 false (.ld none (.t 9)),
 qG 11 8 false (.bin .and .none (.t 10) (qI 4)),
 qG 12 8 false (.bin .eql .none (.t 11) (qI 0)),
 qA 13 (.pick (.t 8) (qB true) (.t 12))] (some [1,13]))
 (.cond (.t 13)
 (.seq
 (.reg [qA 2 (.mov (qB false))] (some [2]))
 .ret)
 .skip))
 (.seq
 (.seq
 (.reg [qA 14 (.ld (some 6) (.t 1)),
 qA 15 (.call (qC 122) [(.t 14)])] (some [1,15]))
 (.cond (.t 15)
 (.seq
 (.reg [qF 16 0 1,
 qL 17 16,
 qA 18 (.bin .eql .none (.t 17) (qI 9)),
 qM 19 18,
 qG 20 19 false (.fa 0 (.t 1)),
 qG 21 19 false (.ld none (.t 20)),
 qG 22 19 false (.bin .eql .none (.t 21) (qI 13)),
 qA 23 (.pick (.t 19) (qB true) (.t 22)),
 qM 2 23] (some [2]))
 .ret)
 .skip))
 (.seq
 (.reg [qA 25 (.ld (some 6) (.t 1)),
 qA 26 (.call (qC 117) [(.t 25)]),
 qA 27 (.call (qC 123) [(.t 26)]),
 qM 24 27,
 qE 28 24 0,
 qE 29 24 1,
 qM 3 28,
 qM 4 29] (some [1,4]))
 (.seq
 (.reg [qF 30 1 1,
 qL 31 30,
 qA 32 (.bin .and .none (.t 31) (qI 1)),
 qA 33 (.bin .neq .none (.t 32) (qI 0)),
 qM 34 33,
 qG 35 34 false (.mov (.t 4)),
 qG 36 34 false (.un .not (.t 35)),
 qA 37 (.pick (.t 34) (qB true) (.t 36)),
 qM 2 37] (some [2]))
 .ret)))))
theorem is_otherfew : IrOf Tryz.prog 65 38 ir_otherfew [.t 2] := ⟨_, Tryz.func65, rfl, by kernel_rfl, by kernel_rfl, by kernel_rfl⟩

def ir_otherKey : ICode :=
 (.seq
 (.reg [qA 2 (.box 23 (.t 0)),
 qA 3 (.box 27 (.t 1)),
 qA 4 (.mov (.c .nils)),
 qA 5 (.mov (qB false))] (some [2,3]))
 (.seq
 (.reg [qA 12 (.bld [.nilf, .nilf] [(0, 1, (qC 65)), (1, 1, (qC 66))]),
 qA 6 (.box 110 (.c (.agg [.nilf, .nilf]))),
 qN (.st 2 (.t 6) (.t 12))] (some [2,3,6]))
 (.seq
 (.reg [qA 14 (.ld (some 6) (.t 3)),
 qA 15 (.call (qC 67) [(.t 14)]),
 qM 13 15,
 qE 16 13 0,
 qE 17 13 1,
 qM 7 16,
 qM 8 17] (some [2,3,6,7,8]))
 (.seq
 (.seq
 (.reg [qM 18 8,
 qA 19 (.un .not (.t 18)),
 qM 20 19,
 qG 21 20 false (.fa 9 (.t 2)),
 qG 22 20 false (.ld none (.t 21)),
 qG 23 20 false (.bin .lss .none (.t 22) (qI 1)),
 qA 24 (.pick (.t 20) (qB true) (.t 23)),
 qM 25 24,
 qG 26 25 false (.fa 9 (.t 2)),
 qG 27 25 false (.ld none (.t 26)),
 qG 28 25 false (.bin .gtr .none (.t 27) (qI 2)),
 qA 29 (.pick (.t 25) (qB true) (.t 28)),
 qM 30 29,
 qG 31 30 false (.ld (some 6) (.t 3)),
 qG 32 30 false (.call (qC 26) [(.t 31)]),
 qG 33 30 false (.un .not (.t 32)),
 qA 34 (.pick (.t 30) (qB true) (.t 33)),
 qM 35 34,
 qG 36 35 false (.fa 2 (.t 3)),
 qG 37 35 false (.ld none (.t 36)),
 qG 38 35 false (.bin .eql .none (.t 37) (qI 3)),
 qA 39 (.pick (.t 35) (qB true) (.t 38))] (some [2,3,6,7,39]))
 (.cond (.t 39)
 (.seq
 (.reg [qA 4 (.mov (.c .nils)),
 qA 5 (.mov (qB false))] (some [4,5]))
 .ret)
 .skip))
 (.seq
 (.seq
 (.reg [qF 40 9 2,
 qL 41 40,
 qA 42 (.bin .sub .none (.t 41) (qI 1)),
 qA 43 (.iar 2 1 (.t 6) (.t 42)),
 qL 44 43,
 qM 9 44] (some [3,7,9]))
 (.seq
 (.reg [qM 45 9,
 qA 46 (.ld (some 6) (.t 3)),
 qA 47 (.call (.t 45) [(.t 46)]),
 qA 48 (.un .not (.t 47))] (some [3,7,48]))
 (.cond (.t 48)
 (.seq
 (.reg [qA 4 (.mov (.c .nils)),
 qA 5 (.mov (qB false))] (some [4,5]))
 .ret)
 .skip)))
 (.seq
 (.reg [qF 50 1 3,
 qL 51 50,
 qA 52 (.call (qC 70) [(.t 51)]),
 qA 53 (.call (qC 69) [(.t 52)]),
 qM 54 7,
 qA 55 (.row 3 1 [(qI 27), (.t 53), (.t 54)]),
 qA 56 (.call (qC 68) [(.c (.int .u8 0)), (.c (.int .u8 126)), (.t 55)]),
 qA 57 (.call (qC 60) [(.t 56)]),
 qM 49 57,
 qE 58 49 0,
 qE 59 49 1,
 qM 10 58,
 qM 11 59] (some [10,11]))
 (.seq
 (.reg [qM 60 10,
 qM 61 11,
 qA 62 (.bin .eql .none (.t 61) (qI 0)),
 qM 4 60,
 qM 5 62] (some [4,5]))
 .ret)))))))
theorem is_otherKey : IrOf Tryz.prog 30 63 ir_otherKey [.t 4, .t 5] := ⟨_, Tryz.func30, rfl, by kernel_rfl, by kernel_rfl, by kernel_rfl⟩

theorem fs_oPlain {Gl : Gh → Prop} (hst : Stays Gl) {k : Ky} : FS Tryz.prog Gl 122 [.agg (kyAV k)] [] [] (.bool (kindK k.code == 2)) [] [] := by
  refine FS.of hm hst is_otherplain (by simp) fun γ hγ hfr => ?_
  have hky : kyAV k = [.int .i64 k.code, .int .i64 k.mods, .int .i64 k.type, .int .i64 k.shifted, .int .i64 k.base, .str k.text] := rfl
  have c1 := fs_Look (Gl := Gl) hst (c := k.code)
  have hkd : (lookR k.code).kind = kindK k.code := rfl
  rw [ent_eq, hkd] at c1
  simp only [hky]
  (generalize hQ : (fun (ex : Ex) (_ _ : Nat) (s : St) => _) = Q; unfold ir_otherplain)
  simp +contextual (maxSteps := 1000000) only [go_sem, reduceCtorEq, ↓reduceIte, Nat.reduceAdd, Nat.reduceEqDiff]
  (refine CallP.pure (c1) (fun _ => rfl) ?_; simp +contextual (maxSteps := 1000000) only [go_sem, reduceCtorEq, ↓reduceIte, Nat.reduceAdd, Nat.reduceEqDiff])
  rw [← hQ]
  exact ⟨trivial, Ret.flat rfl rfl⟩
theorem fs_oChar {Gl : Gh → Prop} (hst : Stays Gl) {k : Ky} (hmm : k.mods ≤ 9223372036854775807) : FS Tryz.prog Gl 67 [.agg (kyAV k)] [] [] (.tup [.int .i64 (if kindK k.code = 1 ∨ kindK k.code = 2 then charK k else 0), .bool ((kindK k.code == 1) || (kindK k.code == 2))]) [] [] := by
  refine FS.of hm hst is_otherchar (by simp) fun γ hγ hfr => ?_
  have hky : kyAV k = [.int .i64 k.code, .int .i64 k.mods, .int .i64 k.type, .int .i64 k.shifted, .int .i64 k.base, .str k.text] := rfl
  have c1 := fs_Look (Gl := Gl) hst (c := k.code)
  have hkd : (lookR k.code).kind = kindK k.code := rfl
  rw [ent_eq, hkd] at c1
  have c2 := fs_Shown (Gl := Gl) hst (k := k) hmm
  rw [hky] at c2
  simp only [hky]
  (generalize hQ : (fun (ex : Ex) (_ _ : Nat) (s : St) => _) = Q; unfold ir_otherchar)
  simp +contextual (maxSteps := 1000000) only [go_sem, reduceCtorEq, ↓reduceIte, Nat.reduceAdd, Nat.reduceEqDiff]
  (refine CallP.pure (c1) (fun _ => rfl) ?_; simp +contextual (maxSteps := 1000000) only [go_sem, reduceCtorEq, ↓reduceIte, Nat.reduceAdd, Nat.reduceEqDiff])
  by_cases h1 : kindK k.code = 1
  · have q1 : (kindK k.code == 1) = true := beq_iff_eq.2 h1
    have hc : charK k = shownK k := if_pos h1
    simp +contextual (maxSteps := 1000000) only [q1, go_sem, reduceCtorEq, ↓reduceIte, Nat.reduceAdd, Nat.reduceEqDiff]
    (refine CallP.pure (c2) (fun _ => rfl) ?_; simp +contextual (maxSteps := 1000000) only [go_sem, reduceCtorEq, ↓reduceIte, Nat.reduceAdd, Nat.reduceEqDiff])
    rw [← hQ, if_pos (.inl h1), hc, q1]
    exact ⟨trivial, Ret.flatT rfl rfl⟩
  · have q1 : (kindK k.code == 1) = false := beq_eq_false_iff_ne.2 h1
    by_cases h2 : kindK k.code = 2
    · have q2 : (kindK k.code == 2) = true := beq_iff_eq.2 h2
      have hc : charK k = k.code := if_neg h1
      simp +contextual (maxSteps := 1000000) only [q1, q2, go_sem, reduceCtorEq, ↓reduceIte, Nat.reduceAdd, Nat.reduceEqDiff]
      rw [← hQ, if_pos (.inr h2), hc, q1, q2]
      exact ⟨trivial, Ret.flatT rfl rfl⟩
    · have q2 : (kindK k.code == 2) = false := beq_eq_false_iff_ne.2 h2
      simp +contextual (maxSteps := 1000000) only [q1, q2, go_sem, reduceCtorEq, ↓reduceIte, Nat.reduceAdd, Nat.reduceEqDiff]
      rw [← hQ, if_neg (by omega), q1, q2]
      exact ⟨trivial, Ret.flatT rfl rfl⟩
theorem fs_oAll {Gl : Gh → Prop} (hst : Stays Gl) {k : Ky} (h1 : k.mods ≤ 9223372036854775807) : FS Tryz.prog Gl 66 [.agg (kyAV k)] [] [] (.bool (allO k)) [] [] := by
  refine FS.of hm hst is_otherall (by simp) fun γ hγ hfr => ?_
  have hky : kyAV k = [.int .i64 k.code, .int .i64 k.mods, .int .i64 k.type, .int .i64 k.shifted, .int .i64 k.base, .str k.text] := rfl
  have c1 := fs_Old (Gl := Gl) hst (m := k.mods) h1
  have c2 := fs_oPlain (Gl := Gl) hst (k := k)
  have hz : allO k = ((oldK k.mods != 0) && ((kindK k.code == 2) || (oldK k.mods != 1))) := rfl
  rw [hky] at c2
  simp only [hky]
  (generalize hQ : (fun (ex : Ex) (_ _ : Nat) (s : St) => _) = Q; unfold ir_otherall)
  simp +contextual (maxSteps := 1000000) only [go_sem, reduceCtorEq, ↓reduceIte, Nat.reduceAdd, Nat.reduceEqDiff]
  (refine CallP.pure (c1) (fun _ => rfl) ?_; simp +contextual (maxSteps := 1000000) only [go_sem, reduceCtorEq, ↓reduceIte, Nat.reduceAdd, Nat.reduceEqDiff])
  (refine kGc_call (c2) (fun _ => rfl) (fun hgc => ?_) ?_; (focus (first | (rw [Bool.not_eq_true'] at hgc; simp only [List.map_cons, List.map_nil, List.nil_append, List.append_nil, List.cons_append, Xev_t, Xev_c, upd_app, lf_cons, lf_nil, Nat.reduceEqDiff, ↓reduceIte, hgc, Bool.false_eq_true, Bool.true_eq_false, reduceCtorEq]; done) | (simp only [List.map_cons, List.map_nil, List.nil_append, List.append_nil, List.cons_append, Xev_t, Xev_c, upd_app, lf_cons, lf_nil, Nat.reduceEqDiff, ↓reduceIte, hgc, Bool.false_eq_true, Bool.true_eq_false, reduceCtorEq]; done) | (revert hgc; simp +contextual [Xev_t, Xev_c, upd_app, lf_cons, lf_nil]; done) | simp [Xev_t, Xev_c, upd_app, lf_cons, lf_nil])); simp +contextual (maxSteps := 1000000) only [go_sem, reduceCtorEq, ↓reduceIte, Nat.reduceAdd, Nat.reduceEqDiff])
  rw [← hQ, hz]
  exact ⟨trivial, Ret.flat rfl rfl⟩
theorem fs_oFew {Gl : Gh → Prop} (hst : Stays Gl) {k : Ky} (h0 : 0 ≤ k.mods) (h1 : k.mods ≤ 255) : FS Tryz.prog Gl 65 [.agg (kyAV k)] [] [] (.bool (fewO k)) [] [] := by
  refine FS.of hm hst is_otherfew (by simp) fun γ hγ hfr => ?_
  have hky : kyAV k = [.int .i64 k.code, .int .i64 k.mods, .int .i64 k.type, .int .i64 k.shifted, .int .i64 k.base, .str k.text] := rfl
  have c1 := fs_oAll (Gl := Gl) hst (k := k) (by omega)
  have c2 := fs_oPlain (Gl := Gl) hst (k := k)
  have c3 := fs_Shown (Gl := Gl) hst (k := k) (by omega)
  have c4 : FS Tryz.prog Gl 123 [.int .i64 (shownK k)] [] [] (.tup [.int .i64 ((foldK (shownK k)).getD 0), .bool (foldK (shownK k)).isSome]) [] [] := fs_Fold (Gl := Gl) hst
  have q4 : (bits .and .i64 k.mods 4 != 0) = hasK k.mods 4 := hasB h0 h1 2 (by omega)
  have q4' : (bits .and .i64 k.mods 4 == 0) = !hasK k.mods 4 := by rw [← q4, bne, Bool.not_not]
  have q1 : (bits .and .i64 k.mods 1 != 0) = hasK k.mods 1 := hasB h0 h1 0 (by omega)
  have hz : fewO k = (allO k && hasK k.mods 4 && (if kindK k.code = 2 then (k.code == 9) || (k.code == 13) else hasK k.mods 1 || !(foldK (shownK k)).isSome)) := rfl
  rw [hky] at c1 c2 c3
  simp only [hky]
  (generalize hQ : (fun (ex : Ex) (_ _ : Nat) (s : St) => _) = Q; unfold ir_otherfew)
  simp +contextual (maxSteps := 1000000) only [go_sem, reduceCtorEq, ↓reduceIte, Nat.reduceAdd, Nat.reduceEqDiff]
  (refine CallP.pure (c1) (fun _ => rfl) ?_; simp +contextual (maxSteps := 1000000) only [q4', go_sem, reduceCtorEq, ↓reduceIte, Nat.reduceAdd, Nat.reduceEqDiff])
  cases hA : allO k with
  | false =>
    simp +contextual (maxSteps := 1000000) only [hA, go_sem, reduceCtorEq, ↓reduceIte, Nat.reduceAdd, Nat.reduceEqDiff]
    rw [← hQ, hz, hA]
    exact ⟨trivial, Ret.flat rfl rfl⟩
  | true =>
    cases hB : hasK k.mods 4 with
    | false =>
      simp +contextual (maxSteps := 1000000) only [hA, hB, go_sem, reduceCtorEq, ↓reduceIte, Nat.reduceAdd, Nat.reduceEqDiff]
      rw [← hQ, hz, hA, hB]
      exact ⟨trivial, Ret.flat rfl rfl⟩
    | true =>
      simp +contextual (maxSteps := 1000000) only [hA, hB, go_sem, reduceCtorEq, ↓reduceIte, Nat.reduceAdd, Nat.reduceEqDiff]
      (refine CallP.pure (c2) (fun _ => rfl) ?_; simp +contextual (maxSteps := 1000000) only [go_sem, reduceCtorEq, ↓reduceIte, Nat.reduceAdd, Nat.reduceEqDiff])
      by_cases h2 : kindK k.code = 2
      · have q2 : (kindK k.code == 2) = true := beq_iff_eq.2 h2
        simp +contextual (maxSteps := 1000000) only [q2, go_sem, reduceCtorEq, ↓reduceIte, Nat.reduceAdd, Nat.reduceEqDiff]
        rw [← hQ, hz, hA, hB, if_pos h2]
        exact ⟨trivial, Ret.flat rfl rfl⟩
      · have q2 : (kindK k.code == 2) = false := beq_eq_false_iff_ne.2 h2
        simp +contextual (maxSteps := 1000000) only [q2, go_sem, reduceCtorEq, ↓reduceIte, Nat.reduceAdd, Nat.reduceEqDiff]
        (refine CallP.pure (c3) (fun _ => rfl) ?_; simp +contextual (maxSteps := 1000000) only [go_sem, reduceCtorEq, ↓reduceIte, Nat.reduceAdd, Nat.reduceEqDiff])
        (refine CallP.pure (c4) (fun _ => rfl) ?_; simp +contextual (maxSteps := 1000000) only [q1, go_sem, reduceCtorEq, ↓reduceIte, Nat.reduceAdd, Nat.reduceEqDiff])
        rw [← hQ, hz, hA, hB, if_neg h2]
        exact ⟨trivial, Ret.flat rfl rfl⟩
theorem isO_prog (o : Int) (k : Ky) : isO o k = (!((((!((kindK k.code == 1) || (kindK k.code == 2)) || decide (o < 1)) || decide (o > 2)) || !mayK k) || (k.type == 3)) && lvO o k) := by
  have hl : (o < 1 ∨ o > 2) → lvO o k = false := fun h => by unfold lvO; rw [if_neg (by omega), if_neg (by omega)]
  unfold isO
  by_cases h1 : o < 1
  · rw [hl (.inl h1)]; simp
  · by_cases h2 : o > 2
    · rw [hl (.inr h2)]; simp
    · rw [decide_eq_false h1, decide_eq_false h2]
      simp only [bne]
      cases (kindK k.code == 1) <;> cases (kindK k.code == 2) <;> cases mayK k <;> cases (k.type == 3) <;> rfl
set_option maxHeartbeats 4000000 in
theorem fs_oKey {Gl : Gh → Prop} (hst : Stays Gl) {m : Md} {k : Ky} (hmm : k.mods ≤ 9223372036854775807) (ht : k.text.length ≤ 1000000000000) : FS Tryz.prog Gl 30 [.agg (mdAV m), .agg (kyAV k)] [] [] (.tup [.sl none 1 (bytesAV (othK m.other k)), .bool (isO m.other k)]) [] [] := by
  refine FS.ofW hm hst is_otherKey rfl (by simp) fun γ hγ hfr => ?_
  have hky : kyAV k = [.int .i64 k.code, .int .i64 k.mods, .int .i64 k.type, .int .i64 k.shifted, .int .i64 k.base, .str k.text] := rfl
  have hmd : mdAV m = [.bool m.cursor, .bool m.keypad, .bool m.back, .bool m.focus, .bool m.paste, .bool m.lock, .bool m.line, .int .i64 m.mouse, .int .i64 m.coding, .int .i64 m.other] := rfl
  have c1 := fs_oChar (Gl := Gl) hst (k := k) hmm
  have c2 := fs_MayK (Gl := Gl) hst ht
  have c3 := fs_oAll (Gl := Gl) hst (k := k) hmm
  have c4 := fun (M : MayK k) => fs_oFew (Gl := Gl) hst (k := k) M.m0 M.m1
  have c5 := fs_Old (Gl := Gl) hst (m := k.mods) hmm
  have c6 := fs_Param (Gl := Gl) hst (m := oldK k.mods)
  have hold := old_lt k.mods
  rw [show paramK (oldK k.mods) = 1 + oldK k.mods by unfold paramK; split <;> omega] at c6
  have c7 := fun t : Option Nm => fs_NumV (Gl := Gl) hst (pr := 0) (fi := 126) (nums := [27, 1 + oldK k.mods, charK k]) (tn := t) (by simp)
  have hi3 : intsAV [27, 1 + oldK k.mods, charK k] = [[.int .i64 27], [.int .i64 (1 + oldK k.mods)], [.int .i64 (charK k)]] := rfl
  rw [hi3] at c7
  have c8 : MayK k → FS Tryz.prog Gl 60 [.agg [.int .i64 1, .int .u8 0, .sl none 1 (parsAV (([27, 1 + oldK k.mods, charK k] : List Int).map fun n => [n])), .str [], .int .u8 126, .str []]] [] [] (.tup [.sl none 1 (bytesAV (putB (othSq k))), .int .i64 0]) [] [] := fun M => by
    have h := oth_may M
    have := fs_wPut (Gl := Gl) hst (s := othSq k) (by simp [othSq, numSq]) (by simp [othSq, numSq]) (by simp [othSq, numSq]) (by simp [othSq, numSq]) (sm_num (by simp))
    rw [show putV (othSq k) = .sl none 1 (bytesAV (putB (othSq k))) by unfold putV; rw [h]; rfl, h] at this
    exact this
  have hz := isO_prog m.other k
  have hw : othK m.other k = if isO m.other k = true then putB (othSq k) else [] := rfl
  rw [hky] at c1 c2 c3 c4
  simp only [hky, hmd]
  (generalize hQ : (fun (ex : Ex) (_ _ : Nat) (s : St) => _) = Q; unfold ir_otherKey)
  have no : ∀ {γ' c' : Nat} {st : St}, isO m.other k = false → st.F 4 = .nils → st.F 5 = .bool false → Q .ret γ' c' st := by
    intro γ' c' st h h4 h5
    rw [← hQ, hw, h]
    exact ⟨trivial, .inl ⟨.tup [.nils, .bool false], by simp only [resOf, getAll, IRes.get, h4, h5], RepLe.tupL ⟨.nils 1, .refl _, trivial⟩⟩⟩
  simp +contextual (maxSteps := 1000000) only [go_sem, reduceCtorEq, ↓reduceIte, Nat.reduceAdd, Nat.reduceEqDiff, Nat.reduceLeDiff, Nat.reduceMul, Nat.reduceBEq, Int.reduceBEq, Int.reduceBNe, Int.reduceLT, Int.reduceLE, Int.reduceGT, Int.reduceGE, Int.reduceToNat]
  (refine CallP.pure (c1) (fun _ => rfl) ?_; simp +contextual (maxSteps := 1000000) only [go_sem, reduceCtorEq, ↓reduceIte, Nat.reduceAdd, Nat.reduceEqDiff, Nat.reduceLeDiff, Nat.reduceMul, Nat.reduceBEq, Int.reduceBEq, Int.reduceBNe, Int.reduceLT, Int.reduceLE, Int.reduceGT, Int.reduceGE, Int.reduceToNat])
  (refine kGc_call (c2) (fun _ => rfl) (fun hgc => ?_) ?_; (focus (first | (rw [Bool.not_eq_true'] at hgc; simp only [List.map_cons, List.map_nil, List.nil_append, List.append_nil, List.cons_append, Xev_t, Xev_c, upd_app, lf_cons, lf_nil, Nat.reduceEqDiff, ↓reduceIte, hgc, Bool.false_eq_true, Bool.true_eq_false, reduceCtorEq]; done) | (simp only [List.map_cons, List.map_nil, List.nil_append, List.append_nil, List.cons_append, Xev_t, Xev_c, upd_app, lf_cons, lf_nil, Nat.reduceEqDiff, ↓reduceIte, hgc, Bool.false_eq_true, Bool.true_eq_false, reduceCtorEq]; done) | (revert hgc; simp +contextual [Xev_t, Xev_c, upd_app, lf_cons, lf_nil]; done) | simp [Xev_t, Xev_c, upd_app, lf_cons, lf_nil])); simp +contextual (maxSteps := 1000000) only [go_sem, reduceCtorEq, ↓reduceIte, Nat.reduceAdd, Nat.reduceEqDiff, Nat.reduceLeDiff, Nat.reduceMul, Nat.reduceBEq, Int.reduceBEq, Int.reduceBNe, Int.reduceLT, Int.reduceLE, Int.reduceGT, Int.reduceGE, Int.reduceToNat])
  cases hB : ((((!((kindK k.code == 1) || (kindK k.code == 2)) || decide (m.other < 1)) || decide (m.other > 2)) || !mayK k) || (k.type == 3)) with
  | true =>
    simp +contextual (maxSteps := 1000000) only [hB, go_sem, reduceCtorEq, ↓reduceIte, Nat.reduceAdd, Nat.reduceEqDiff, Nat.reduceLeDiff, Nat.reduceMul, Nat.reduceBEq, Int.reduceBEq, Int.reduceBNe, Int.reduceLT, Int.reduceLE, Int.reduceGT, Int.reduceGE, Int.reduceToNat]
    exact no (by rw [hz, hB]; rfl) rfl rfl
  | false =>
    have hB' := hB
    simp only [Bool.or_eq_false_iff, Bool.not_eq_false', decide_eq_false_iff_not, beq_eq_false_iff_ne, Bool.or_eq_true, beq_iff_eq] at hB'
    obtain ⟨⟨⟨⟨hk, ho1⟩, ho2⟩, hmk⟩, ht3⟩ := hB'
    have M := mayK_iff.1 hmk
    have c4 := c4 M
    have c8 := c8 M
    have hz' : isO m.other k = lvO m.other k := by rw [hz, hB]; rfl
    have yes : ∀ {γ' c' : Nat} {st : St}, isO m.other k = true → st.F 4 = .sl none 1 (bytesAV (putB (othSq k))) → st.F 5 = .bool true → Q .ret γ' c' st := by
      intro γ' c' st h h4 h5
      rw [← hQ, hw, h]
      exact ⟨trivial, .inl ⟨.tup [.sl none 1 (bytesAV (putB (othSq k))), .bool true], by simp only [resOf, getAll, IRes.get, h4, h5], RepLe.refl _⟩⟩
    have hch : (if kindK k.code = 1 ∨ kindK k.code = 2 then charK k else 0) = charK k := if_pos hk
    rcases (show m.other = 1 ∨ m.other = 2 by omega) with e | e
    · have hl : lvO m.other k = fewO k := by rw [e]; rfl
      have hwr : IntKind.i64.wrap (m.other - 1) = 0 := by rw [e]; rfl
      cases hC : fewO k with
      | false =>
        rw [hC] at c4
        simp +contextual (maxSteps := 1000000) only [hB, hwr, hch, go_sem, reduceCtorEq, ↓reduceIte, Nat.reduceAdd, Nat.reduceEqDiff, Nat.reduceLeDiff, Nat.reduceMul, Nat.reduceBEq, Int.reduceBEq, Int.reduceBNe, Int.reduceLT, Int.reduceLE, Int.reduceGT, Int.reduceGE, Int.reduceToNat]
        (refine CallP.pure (c4) (fun _ => rfl) ?_; simp +contextual (maxSteps := 1000000) only [go_sem, reduceCtorEq, ↓reduceIte, Nat.reduceAdd, Nat.reduceEqDiff, Nat.reduceLeDiff, Nat.reduceMul, Nat.reduceBEq, Int.reduceBEq, Int.reduceBNe, Int.reduceLT, Int.reduceLE, Int.reduceGT, Int.reduceGE, Int.reduceToNat])
        exact no (by rw [hz', hl, hC]) rfl rfl
      | true =>
        rw [hC] at c4
        simp +contextual (maxSteps := 1000000) only [hB, hwr, hch, go_sem, reduceCtorEq, ↓reduceIte, Nat.reduceAdd, Nat.reduceEqDiff, Nat.reduceLeDiff, Nat.reduceMul, Nat.reduceBEq, Int.reduceBEq, Int.reduceBNe, Int.reduceLT, Int.reduceLE, Int.reduceGT, Int.reduceGE, Int.reduceToNat]
        (refine CallP.pure (c4) (fun _ => rfl) ?_; simp +contextual (maxSteps := 1000000) only [go_sem, reduceCtorEq, ↓reduceIte, Nat.reduceAdd, Nat.reduceEqDiff, Nat.reduceLeDiff, Nat.reduceMul, Nat.reduceBEq, Int.reduceBEq, Int.reduceBNe, Int.reduceLT, Int.reduceLE, Int.reduceGT, Int.reduceGE, Int.reduceToNat])
        (refine CallP.pure (c5) (fun _ => rfl) ?_; simp +contextual (maxSteps := 1000000) only [go_sem, reduceCtorEq, ↓reduceIte, Nat.reduceAdd, Nat.reduceEqDiff, Nat.reduceLeDiff, Nat.reduceMul, Nat.reduceBEq, Int.reduceBEq, Int.reduceBNe, Int.reduceLT, Int.reduceLE, Int.reduceGT, Int.reduceGE, Int.reduceToNat])
        (refine CallP.pure (c6) (fun _ => rfl) ?_; simp +contextual (maxSteps := 1000000) only [go_sem, reduceCtorEq, ↓reduceIte, Nat.reduceAdd, Nat.reduceEqDiff, Nat.reduceLeDiff, Nat.reduceMul, Nat.reduceBEq, Int.reduceBEq, Int.reduceBNe, Int.reduceLT, Int.reduceLE, Int.reduceGT, Int.reduceGE, Int.reduceToNat])
        (refine CallP.pure (c7 _) (fun _ => rfl) ?_; simp +contextual (maxSteps := 1000000) only [go_sem, reduceCtorEq, ↓reduceIte, Nat.reduceAdd, Nat.reduceEqDiff, Nat.reduceLeDiff, Nat.reduceMul, Nat.reduceBEq, Int.reduceBEq, Int.reduceBNe, Int.reduceLT, Int.reduceLE, Int.reduceGT, Int.reduceGE, Int.reduceToNat])
        (refine CallP.pure (c8) (fun _ => rfl) ?_; simp +contextual (maxSteps := 1000000) only [go_sem, reduceCtorEq, ↓reduceIte, Nat.reduceAdd, Nat.reduceEqDiff, Nat.reduceLeDiff, Nat.reduceMul, Nat.reduceBEq, Int.reduceBEq, Int.reduceBNe, Int.reduceLT, Int.reduceLE, Int.reduceGT, Int.reduceGE, Int.reduceToNat])
        exact yes (by rw [hz', hl, hC]) rfl rfl
    · have hl : lvO m.other k = allO k := by rw [e]; rfl
      have hwr : IntKind.i64.wrap (m.other - 1) = 1 := by rw [e]; rfl
      cases hC : allO k with
      | false =>
        rw [hC] at c3
        simp +contextual (maxSteps := 1000000) only [hB, hwr, hch, go_sem, reduceCtorEq, ↓reduceIte, Nat.reduceAdd, Nat.reduceEqDiff, Nat.reduceLeDiff, Nat.reduceMul, Nat.reduceBEq, Int.reduceBEq, Int.reduceBNe, Int.reduceLT, Int.reduceLE, Int.reduceGT, Int.reduceGE, Int.reduceToNat]
        (refine CallP.pure (c3) (fun _ => rfl) ?_; simp +contextual (maxSteps := 1000000) only [go_sem, reduceCtorEq, ↓reduceIte, Nat.reduceAdd, Nat.reduceEqDiff, Nat.reduceLeDiff, Nat.reduceMul, Nat.reduceBEq, Int.reduceBEq, Int.reduceBNe, Int.reduceLT, Int.reduceLE, Int.reduceGT, Int.reduceGE, Int.reduceToNat])
        exact no (by rw [hz', hl, hC]) rfl rfl
      | true =>
        rw [hC] at c3
        simp +contextual (maxSteps := 1000000) only [hB, hwr, hch, go_sem, reduceCtorEq, ↓reduceIte, Nat.reduceAdd, Nat.reduceEqDiff, Nat.reduceLeDiff, Nat.reduceMul, Nat.reduceBEq, Int.reduceBEq, Int.reduceBNe, Int.reduceLT, Int.reduceLE, Int.reduceGT, Int.reduceGE, Int.reduceToNat]
        (refine CallP.pure (c3) (fun _ => rfl) ?_; simp +contextual (maxSteps := 1000000) only [go_sem, reduceCtorEq, ↓reduceIte, Nat.reduceAdd, Nat.reduceEqDiff, Nat.reduceLeDiff, Nat.reduceMul, Nat.reduceBEq, Int.reduceBEq, Int.reduceBNe, Int.reduceLT, Int.reduceLE, Int.reduceGT, Int.reduceGE, Int.reduceToNat])
        (refine CallP.pure (c5) (fun _ => rfl) ?_; simp +contextual (maxSteps := 1000000) only [go_sem, reduceCtorEq, ↓reduceIte, Nat.reduceAdd, Nat.reduceEqDiff, Nat.reduceLeDiff, Nat.reduceMul, Nat.reduceBEq, Int.reduceBEq, Int.reduceBNe, Int.reduceLT, Int.reduceLE, Int.reduceGT, Int.reduceGE, Int.reduceToNat])
        (refine CallP.pure (c6) (fun _ => rfl) ?_; simp +contextual (maxSteps := 1000000) only [go_sem, reduceCtorEq, ↓reduceIte, Nat.reduceAdd, Nat.reduceEqDiff, Nat.reduceLeDiff, Nat.reduceMul, Nat.reduceBEq, Int.reduceBEq, Int.reduceBNe, Int.reduceLT, Int.reduceLE, Int.reduceGT, Int.reduceGE, Int.reduceToNat])
        (refine CallP.pure (c7 _) (fun _ => rfl) ?_; simp +contextual (maxSteps := 1000000) only [go_sem, reduceCtorEq, ↓reduceIte, Nat.reduceAdd, Nat.reduceEqDiff, Nat.reduceLeDiff, Nat.reduceMul, Nat.reduceBEq, Int.reduceBEq, Int.reduceBNe, Int.reduceLT, Int.reduceLE, Int.reduceGT, Int.reduceGE, Int.reduceToNat])
        (refine CallP.pure (c8) (fun _ => rfl) ?_; simp +contextual (maxSteps := 1000000) only [go_sem, reduceCtorEq, ↓reduceIte, Nat.reduceAdd, Nat.reduceEqDiff, Nat.reduceLeDiff, Nat.reduceMul, Nat.reduceBEq, Int.reduceBEq, Int.reduceBNe, Int.reduceLT, Int.reduceLE, Int.reduceGT, Int.reduceGE, Int.reduceToNat])
        exact yes (by rw [hz', hl, hC]) rfl rfl
end Go.Proofs.YtjankibepgnbfaaGreatDoor

namespace Go.Proofs.YtjankibepgnbfaaGreatDoor
open Go Go.Ab
def ir_boardClears : ICode :=
 (.seq
 (.reg [qA 2 (.mov (qB false))] (some [0]))
 (.seq
 (.reg [qM 3 0,
 qA 4 (.mm false (.t 3) (qI 0)),
 qA 5 (.bin .and .none (.t 4) (qI 9)),
 qA 6 (.bin .neq .none (.t 5) (qI 0)),
 qM 2 6] (some [2]))
 .ret))
theorem is_boardClears : IrOf Tryz.prog 32 7 ir_boardClears [.t 2] := ⟨_, Tryz.func32, rfl, by kernel_rfl, by kernel_rfl, by kernel_rfl⟩

def ir_boardKey1 : ICode :=
 (.seq
 (.reg [qA 2 (.mov (.c .nils))] (some [0,1]))
 (.seq
 (.reg [qL 3 0,
 qA 4 (.ld (some 6) (.t 1)),
 qA 5 (.call (qC 28) [(.t 3), (.t 4)]),
 qM 2 5] (some [2]))
 .ret))
theorem is_boardKey1 : IrOf Tryz.prog 27 6 ir_boardKey1 [.t 2] := ⟨_, Tryz.func27, rfl, by kernel_rfl, by kernel_rfl, by kernel_rfl⟩

def ir_boardKey2 : ICode :=
 (.seq
 (.reg [qA 2 (.mov (.c .nils))] (some [0,1]))
 (.seq
 (.seq
 (.reg [qA 6 (.ld (some 10) (.t 0)),
 qA 7 (.ld (some 6) (.t 1)),
 qA 8 (.call (qC 30) [(.t 6), (.t 7)]),
 qM 5 8,
 qE 9 5 0,
 qE 10 5 1,
 qM 3 9,
 qM 4 10] (some [0,1,3,4]))
 (.seq
 (.reg [qM 11 4] (some [0,1,3,11]))
 (.cond (.t 11)
 (.seq
 (.reg [qM 12 3,
 qM 2 12] (some [2]))
 .ret)
 .skip)))
 (.seq
 (.reg [qA 13 (.ld (some 10) (.t 0)),
 qA 14 (.ld (some 6) (.t 1)),
 qA 15 (.call (qC 31) [(.t 13), (.t 14)]),
 qM 2 15] (some [2]))
 .ret)))
theorem is_boardKey2 : IrOf Tryz.prog 29 16 ir_boardKey2 [.t 2] := ⟨_, Tryz.func29, rfl, by kernel_rfl, by kernel_rfl, by kernel_rfl⟩

def ir_boardKey : ICode :=
 (.seq
 (.reg [qA 3 (.box 23 (.t 0)),
 qA 4 (.box 3 (.t 1)),
 qA 5 (.box 27 (.t 2)),
 qA 6 (.mov (.c .nils))] (some [3,4,5]))
 (.seq
 (.seq
 (.reg [qF 8 5 3,
 qL 9 8] (some [3,4,5,9]))
 (.cond (.t 9)
 (.seq
 (.reg [qA 6 (.mov (.c .nils))] (some [6]))
 .ret)
 .skip))
 (.seq
 (.reg [qA 10 (.mkm),
 qA 11 (.mkf (.func 27) [] [(.t 4), (.t 5)]),
 qN (.ins .bool (.t 10) (qB true) (.t 11)),
 qA 12 (.mkf (.func 29) [] [(.t 3), (.t 5)]),
 qN (.ins .bool (.t 10) (qB false) (.t 12)),
 qM 13 10,
 qM 7 13] (some [4,7]))
 (.seq
 (.reg [qM 14 7,
 qL 15 4,
 qA 16 (.call (qC 32) [(.t 15)]),
 qA 17 (.lkp .bool .nilf false (.t 14) (.t 16)),
 qA 18 (.call (.t 17) []),
 qM 6 18] (some [6]))
 .ret))))
theorem is_boardKey : IrOf Tryz.prog 13 19 ir_boardKey [.t 6] := ⟨_, Tryz.func13, rfl, by kernel_rfl, by kernel_rfl, by kernel_rfl⟩

theorem fe_bool {a b : Bool} {v : AV} {es : List (AV × AV)} : findE .bool (.bool a) ((.bool b, v) :: es) = if (a == b) = true then some (some v) else findE .bool (.bool a) es := by
  simp only [findE, keyEq, if_true]
  cases (a == b) <;> rfl
theorem isKey_bool {a : Bool} : (isKey .bool (.bool a) = true) = True := by simp [isKey]
theorem and9 {m : Int} (hm : m ≤ 9223372036854775807) : (bits .and .i64 (max m 0) 9 != 0) = clearsK m := by
  obtain ⟨n, hn⟩ := Int.eq_ofNat_of_zero_le (show 0 ≤ max m 0 by omega)
  unfold clearsK hasK
  have h : n &&& 9 = n % 2 + n / 8 % 2 * 8 := by
    have e : n &&& 9 = (n % 16) &&& 9 := by rw [show (16 : Nat) = 2 ^ 4 from rfl, ← Nat.and_two_pow_sub_one_eq_mod, Nat.and_assoc]; rfl
    have key : ∀ i : Fin 16, i.val &&& 9 = i.val % 2 + i.val / 8 % 2 * 8 := by decide
    have := key ⟨n % 16, Nat.mod_lt _ (by omega)⟩
    simp only at this
    rw [e, this]
    omega
  rw [hn, show (9 : Int) = ((9 : Nat) : Int) from rfl, and_i64 (by omega) (by omega), h, Bool.eq_iff_iff]
  simp only [bne_iff_ne, Bool.or_eq_true, decide_eq_true_eq]
  omega
theorem fs_bClears {Gl : Gh → Prop} (hst : Stays Gl) {fl : Int} (h : fl ≤ 9223372036854775807) : FS Tryz.prog Gl 32 [.int .i64 fl] [] [] (.bool (clearsK fl)) [] [] := by
  refine FS.of hm hst is_boardClears (by simp) fun γ hγ hfr => ?_
  have hq := and9 h
  (generalize hQ : (fun (ex : Ex) (_ _ : Nat) (s : St) => _) = Q; unfold ir_boardClears)
  simp +contextual (maxSteps := 1000000) only [maxE, hq, go_sem, reduceCtorEq, ↓reduceIte, Nat.reduceAdd, Nat.reduceEqDiff]
  rw [← hQ]
  exact ⟨trivial, Ret.flat rfl rfl⟩
theorem rdAB {a b : Nm} {xs ys : List AV} (ha : 1 ≤ a.1) (hb : 1 ≤ b.1) (hx : ∀ f, rnL f xs = xs) (hy : ∀ f, rnL f ys = ys) (ox : AV.okInL 0 [a, b] [] xs) (oy : AV.okInL 0 [a, b] [] ys) : Rd [(a, .cells xs), (b, .cells ys)] := by
  have h : ¬(a.1 = 0 ∧ a.2.1 = 0) := fun h => by omega
  have h2 : ¬(b.1 = 0 ∧ b.2.1 = 0) := fun h => by omega
  refine ⟨fun f => ?_, fun p hp => ?_⟩
  · simp [rnH, rnN, rnHB, hx, hy, h, h2]
  · simp only [List.mem_cons, List.not_mem_nil, or_false] at hp
    rcases hp with rfl | rfl
    · exact ⟨by simp [nmOK, h], ox⟩
    · exact ⟨by simp [nmOK, h2], oy⟩
theorem fs_bKey1 {Gl : Gh → Prop} (hst : Stays Gl) {k : Ky} {fl : Int} {a b : Nm} (ha : 1 ≤ a.1) (hb : 1 ≤ b.1) (hab : a ≠ b) (hfl : fl ≤ 9223372036854775807) (ht : k.text.length ≤ 1000000000000) : FS Tryz.prog Gl 27 [.ptr a 0, .ptr b 0] [(a, .cells [.int .i64 fl]), (b, .cells (kyAV k))] [] (.sl none 1 (bytesAV (keyK fl k))) [(a, .cells [.int .i64 fl]), (b, .cells (kyAV k))] [] := by
  refine FS.of hm hst is_boardKey1 (by simp) fun γ hγ hfr => ?_
  have hky : kyAV k = [.int .i64 k.code, .int .i64 k.mods, .int .i64 k.type, .int .i64 k.shifted, .int .i64 k.base, .str k.text] := rfl
  have c1 := fs_Key (Gl := Gl) hst (k := k) hfl ht
  have hne : (a = b) = False := eq_false hab
  have hne' : (b = a) = False := eq_false fun e => hab e.symm
  have hrd : Rd [(a, .cells [.int .i64 fl]), (b, .cells (kyAV k))] := rdAB ha hb (fun _ => rfl) (fun _ => rfl) ⟨trivial, trivial⟩ ⟨trivial, trivial, trivial, trivial, trivial, trivial, trivial⟩
  rw [hky] at c1
  (generalize hQ : (fun (ex : Ex) (_ _ : Nat) (s : St) => _) = Q; unfold ir_boardKey1)
  simp +contextual (maxSteps := 1000000) only [hky, hne, hne', go_sem, reduceCtorEq, ↓reduceIte, Nat.reduceAdd, Nat.reduceEqDiff]
  (refine CallP.pure (c1) (fun _ => rfl) ?_; simp +contextual (maxSteps := 1000000) only [go_sem, reduceCtorEq, ↓reduceIte, Nat.reduceAdd, Nat.reduceEqDiff])
  rw [← hQ]
  exact ⟨trivial, Ret.reads hrd rfl rfl (by simp [hky])⟩
theorem fs_bKey2 {Gl : Gh → Prop} (hst : Stays Gl) {m : Md} {k : Ky} {a b : Nm} (ha : 1 ≤ a.1) (hb : 1 ≤ b.1) (hab : a ≠ b) (hmm : k.mods ≤ 9223372036854775807) (ht : k.text.length ≤ 1000000000000) : FS Tryz.prog Gl 29 [.ptr a 0, .ptr b 0] [(a, .cells (mdAV m)), (b, .cells (kyAV k))] [] (.sl none 1 (bytesAV (if isO m.other k = true then putB (othSq k) else legK m k))) [(a, .cells (mdAV m)), (b, .cells (kyAV k))] [] := by
  refine FS.of hm hst is_boardKey2 (by simp) fun γ hγ hfr => ?_
  have hky : kyAV k = [.int .i64 k.code, .int .i64 k.mods, .int .i64 k.type, .int .i64 k.shifted, .int .i64 k.base, .str k.text] := rfl
  have hmd : mdAV m = [.bool m.cursor, .bool m.keypad, .bool m.back, .bool m.focus, .bool m.paste, .bool m.lock, .bool m.line, .int .i64 m.mouse, .int .i64 m.coding, .int .i64 m.other] := rfl
  have c1 := fs_oKey (Gl := Gl) hst (m := m) (k := k) hmm ht
  have c2 := fs_legKey (Gl := Gl) hst (m := m) (k := k) ht
  have hne : (a = b) = False := eq_false hab
  have hne' : (b = a) = False := eq_false fun e => hab e.symm
  have hrd : Rd [(a, .cells (mdAV m)), (b, .cells (kyAV k))] := rdAB ha hb (fun _ => rfl) (fun _ => rfl) ⟨trivial, trivial, trivial, trivial, trivial, trivial, trivial, trivial, trivial, trivial, trivial⟩ ⟨trivial, trivial, trivial, trivial, trivial, trivial, trivial⟩
  have hw : othK m.other k = if isO m.other k = true then putB (othSq k) else [] := rfl
  rw [hky, hmd] at c1 c2
  (generalize hQ : (fun (ex : Ex) (_ _ : Nat) (s : St) => _) = Q; unfold ir_boardKey2)
  simp +contextual (maxSteps := 1000000) only [hky, hmd, hne, hne', go_sem, reduceCtorEq, ↓reduceIte, Nat.reduceAdd, Nat.reduceEqDiff]
  (refine CallP.pure (c1) (fun _ => rfl) ?_; simp +contextual (maxSteps := 1000000) only [go_sem, reduceCtorEq, ↓reduceIte, Nat.reduceAdd, Nat.reduceEqDiff])
  cases hO : isO m.other k with
  | true =>
    rw [hO, if_pos rfl] at hw
    simp +contextual (maxSteps := 1000000) only [hO, go_sem, reduceCtorEq, ↓reduceIte, Nat.reduceAdd, Nat.reduceEqDiff]
    rw [← hQ, hw, hO, if_pos rfl]
    exact ⟨trivial, Ret.reads hrd rfl rfl (by simp [hky, hmd])⟩
  | false =>
    simp +contextual (maxSteps := 1000000) only [hO, hne, hne', go_sem, reduceCtorEq, ↓reduceIte, Nat.reduceAdd, Nat.reduceEqDiff]
    (refine CallP.pure (c2) (fun _ => rfl) ?_; simp +contextual (maxSteps := 1000000) only [go_sem, reduceCtorEq, ↓reduceIte, Nat.reduceAdd, Nat.reduceEqDiff])
    rw [← hQ, hO, if_neg (by simp)]
    exact ⟨trivial, Ret.reads hrd rfl rfl (by simp [hky, hmd])⟩
set_option maxHeartbeats 4000000 in
theorem fs_bKey {Gl : Gh → Prop} (hst : Stays Gl) {m : Md} {k : Ky} {fl : Int} (hfl : fl ≤ 9223372036854775807) (hmm : k.mods ≤ 9223372036854775807) (ht : k.text.length ≤ 1000000000000) : FS Tryz.prog Gl 13 [.agg (mdAV m), .int .i64 fl, .agg (kyAV k)] [] [] (.sl none 1 (bytesAV (boardK m fl k))) [] [] := by
  refine FS.ofW hm hst is_boardKey rfl (by simp) fun γ hγ hfr => ?_
  have hky : kyAV k = [.int .i64 k.code, .int .i64 k.mods, .int .i64 k.type, .int .i64 k.shifted, .int .i64 k.base, .str k.text] := rfl
  have hmd : mdAV m = [.bool m.cursor, .bool m.keypad, .bool m.back, .bool m.focus, .bool m.paste, .bool m.lock, .bool m.line, .int .i64 m.mouse, .int .i64 m.coding, .int .i64 m.other] := rfl
  have hz : boardK m fl k = if m.lock = true then [] else if clearsK fl = true then keyK fl k else if isO m.other k = true then putB (othSq k) else legK m k := rfl
  have c1 := fs_bClears (Gl := Gl) hst hfl
  have c2 := fs_bKey1 (Gl := Gl) hst (k := k) (fl := fl) (a := (γ, 1, 0)) (b := (γ, 2, 0)) hγ hγ (by simp) hfl ht
  have c3 := fs_bKey2 (Gl := Gl) hst (m := m) (k := k) (a := (γ, 0, 0)) (b := (γ, 2, 0)) hγ hγ (by simp) hmm ht
  rw [hky] at c2 c3
  rw [hmd] at c3
  simp only [hky, hmd]
  (generalize hQ : (fun (ex : Ex) (_ _ : Nat) (s : St) => _) = Q; unfold ir_boardKey)
  simp +contextual (maxSteps := 1000000) only [go_sem, reduceCtorEq, ↓reduceIte, Nat.reduceAdd, Nat.reduceEqDiff]
  cases hl : m.lock with
  | true =>
    simp +contextual (maxSteps := 1000000) only [hl, go_sem, reduceCtorEq, ↓reduceIte, Nat.reduceAdd, Nat.reduceEqDiff]
    rw [← hQ, hz, hl]
    exact ⟨trivial, .inl ⟨_, rfl, RepLe.nils 1⟩⟩
  | false =>
    rw [hl] at c3
    cases hC : clearsK fl with
    | true =>
      rw [hC] at c1
      simp +contextual (maxSteps := 1000000) only [hl, fe_nil, fe_bool, isKey_bool, go_sem, reduceCtorEq, ↓reduceIte, Nat.reduceAdd, Nat.reduceEqDiff]
      (refine CallP.pure (c1) (fun _ => rfl) ?_; simp +contextual (maxSteps := 1000000) only [fe_nil, fe_bool, isKey_bool, go_sem, reduceCtorEq, ↓reduceIte, Nat.reduceAdd, Nat.reduceEqDiff])
      refine CallP.peek c2 (fun _ => rfl) (by simp) fun H' => ?_
      simp +contextual (maxSteps := 1000000) only [go_sem, reduceCtorEq, ↓reduceIte, Nat.reduceAdd, Nat.reduceEqDiff]
      rw [← hQ, hz, hl, hC]
      exact ⟨trivial, .inl ⟨_, rfl, RepLe.refl _⟩⟩
    | false =>
      rw [hC] at c1
      simp +contextual (maxSteps := 1000000) only [hl, fe_nil, fe_bool, isKey_bool, go_sem, reduceCtorEq, ↓reduceIte, Nat.reduceAdd, Nat.reduceEqDiff]
      (refine CallP.pure (c1) (fun _ => rfl) ?_; simp +contextual (maxSteps := 1000000) only [fe_nil, fe_bool, isKey_bool, go_sem, reduceCtorEq, ↓reduceIte, Nat.reduceAdd, Nat.reduceEqDiff])
      refine CallP.peek c3 (fun _ => rfl) (by simp) fun H' => ?_
      simp +contextual (maxSteps := 1000000) only [go_sem, reduceCtorEq, ↓reduceIte, Nat.reduceAdd, Nat.reduceEqDiff]
      rw [← hQ, hz, hl, hC]
      exact ⟨trivial, .inl ⟨_, rfl, RepLe.refl _⟩⟩
end Go.Proofs.YtjankibepgnbfaaGreatDoor

namespace Go.Proofs.YtjankibepgnbfaaGreatDoor
open Go Go.Ab
def ir_slicesEqualFuncintintintint : ICode :=
 (.seq
 (.reg [qA 6 (.mov (qB false))] (some [0,1,2]))
 (.seq
 (.seq
 (.reg [qM 10 0,
 qA 11 (.len (.t 10)),
 qM 12 1,
 qA 13 (.len (.t 12)),
 qA 14 (.bin .neq .none (.t 11) (.t 13))] (some [0,1,2,14]))
 (.cond (.t 14)
 (.seq
 (.reg [qA 6 (.mov (qB false))] (some [6]))
 .ret)
 .skip))
 (.seq
 (.seq
 (.reg [qM 15 0,
 qA 16 (.len (.t 15)),
 qA 17 (.mov (qI 0))] (some [1,2,15,16,17]))
 (.blk 0
 (.loop
 (.seq
 (.reg [qA 18 (.bin .lss .none (.t 17) (.t 16))] (some [1,2,15,16,17,18]))
 (.seq
 (.cond (.t 18)
 .skip
 (.exit 0))
 (.seq
 (.blk 1
 (.seq
 (.reg [qM 19 17,
 qA 20 (.ia 1 (.t 15) (.t 17)),
 qL 21 20,
 qM 7 19,
 qM 8 21] (some [1,2,7,8,15,16,17]))
 (.seq
 (.reg [qM 22 1,
 qM 23 7,
 qA 24 (.ia 1 (.t 22) (.t 23)),
 qL 25 24,
 qM 9 25] (some [1,2,8,9,15,16,17]))
 (.seq
 (.reg [qM 26 2,
 qM 27 8,
 qM 28 9,
 qA 29 (.call (.t 26) [(.t 27), (.t 28)]),
 qA 30 (.un .not (.t 29))] (some [1,2,15,16,17,30]))
 (.cond (.t 30)
 (.seq
 (.reg [qA 6 (.mov (qB false))] (some [6]))
 .ret)
 .skip)))))
 (.reg [qA 31 (.bin .add .none (.t 17) (qI 1)),
 qM 17 31] (some [1,2,15,16,17]))))))))
 (.seq
 (.reg [qA 6 (.mov (qB true))] (some [6]))
 .ret))))
theorem is_slicesEqualFuncintintintint : IrOf Tryz.prog 151 32 ir_slicesEqualFuncintintintint [.t 6] := ⟨_, Tryz.func151, rfl, by kernel_rfl, by kernel_rfl, by kernel_rfl⟩

def ir_wireSame : ICode :=
 (.seq
 (.reg [qA 2 (.box 43 (.t 0)),
 qA 3 (.box 43 (.t 1)),
 qA 4 (.mov (qB false))] (some [2,3]))
 (.seq
 (.seq
 (.reg [qF 6 2 2,
 qL 7 6,
 qF 8 2 3,
 qL 9 8,
 qA 10 (.call (qC 151) [(.t 7), (.t 9), (qC 152)]),
 qA 11 (.un .not (.t 10))] (some [2,3,11]))
 (.cond (.t 11)
 (.seq
 (.reg [qA 4 (.mov (qB false))] (some [4]))
 .ret)
 .skip))
 (.seq
 (.reg [qF 12 0 2,
 qL 13 12,
 qF 14 0 3,
 qL 15 14,
 qA 16 (.bin .eql .none (.t 13) (.t 15)),
 qM 17 16,
 qG 18 17 true (.fa 1 (.t 2)),
 qG 19 17 true (.ld none (.t 18)),
 qG 20 17 true (.fa 1 (.t 3)),
 qG 21 17 true (.ld none (.t 20)),
 qG 22 17 true (.bin .eql .none (.t 19) (.t 21)),
 qA 23 (.pick (.t 17) (.t 22) (qB false)),
 qM 24 23,
 qG 25 24 true (.fa 4 (.t 2)),
 qG 26 24 true (.ld none (.t 25)),
 qG 27 24 true (.fa 4 (.t 3)),
 qG 28 24 true (.ld none (.t 27)),
 qG 29 24 true (.bin .eql .none (.t 26) (.t 28)),
 qA 30 (.pick (.t 24) (.t 29) (qB false)),
 qM 5 30] (some [2,3,5]))
 (.seq
 (.reg [qM 31 5,
 qM 32 31,
 qG 33 32 true (.fa 3 (.t 2)),
 qG 34 32 true (.ld none (.t 33)),
 qG 35 32 true (.fa 3 (.t 3)),
 qG 36 32 true (.ld none (.t 35)),
 qG 37 32 true (.bin .eql .none (.t 34) (.t 36)),
 qA 38 (.pick (.t 32) (.t 37) (qB false)),
 qM 39 38,
 qG 40 39 true (.fa 5 (.t 2)),
 qG 41 39 true (.ld none (.t 40)),
 qG 42 39 true (.fa 5 (.t 3)),
 qG 43 39 true (.ld none (.t 42)),
 qG 44 39 true (.bin .eql .none (.t 41) (.t 43)),
 qA 45 (.pick (.t 39) (.t 44) (qB false)),
 qM 4 45] (some [4]))
 .ret))))
theorem is_wireSame : IrOf Tryz.prog 109 46 ir_wireSame [.t 4] := ⟨_, Tryz.func109, rfl, by kernel_rfl, by kernel_rfl, by kernel_rfl⟩

theorem fs_EqualPars {Gl : Gh → Prop} (hst : Stays Gl) {a b : List (List Int)} {ta tb : Option Nm} (ha : a.length < 9223372036854775808) (hb : b.length < 9223372036854775808) (hpa : ∀ p ∈ a, p.length < 9223372036854775808) (hpb : ∀ p ∈ b, p.length < 9223372036854775808) : FS Tryz.prog Gl 151 [.sl ta 1 (parsAV a), .sl tb 1 (parsAV b), .fn (.func 152) [] []] [] [] (.bool (decide (a = b))) [] [] := by
  refine FS.of hm hst is_slicesEqualFuncintintintint (by simp) fun γ hγ hfr => ?_
  (generalize hQ : (fun (ex : Ex) (_ _ : Nat) (s : St) => _) = Q; unfold ir_slicesEqualFuncintintintint)
  simp +contextual (maxSteps := 1000000) only [parsAV_length, go_sem, reduceCtorEq, ↓reduceIte, Nat.reduceAdd, Nat.reduceEqDiff]
  refine kCond_split (fun h => ?_) (fun h => ?_)
  · simp +contextual (maxSteps := 1000000) only [go_sem, ↓reduceIte, Nat.reduceAdd]
    rw [← hQ]
    have : decide (a = b) = false := by
      simp only [bne_iff_ne, ne_eq] at h
      rw [decide_eq_false_iff_not]; intro e; subst e; simp at h
    rw [this]
    exact ⟨trivial, Ret.flat rfl rfl⟩
  · have hl : a.length = b.length := by simp at h; omega
    simp +contextual (maxSteps := 1000000) only [parsAV_length, go_sem, reduceCtorEq, ↓reduceIte, Nat.reduceAdd, Nat.reduceEqDiff]
    refine kLoop_ix (fun i : Nat => ⟨lf [(1, .sl tb 1 (parsAV b)), (2, .fn (.func 152) [] []), (15, .sl ta 1 (parsAV a)), (16, .int .i64 a.length), (17, .int .i64 i)], [], fun x => x ∈ []⟩) (fun i => i ≤ a.length ∧ a.take i = b.take i) (fun i => a.length - i) 0 0 (Wk.same ?_) ?_ ?_
    · (simp only [lfOK, upd, initF]; repeat' first | exact AVle.refl _ _ | exact trivial | refine And.intro ?_ ?_ | exact AVle.int (by simp only [IntKind.wrap_i64]; omega))
    · simp
    · rintro γ' i hf ⟨hi, hinv⟩
      generalize hQ' : kIt _ _ _ _ _ = Q'
      by_cases hlt : i < a.length
      · have hd : decide ((i : Int) < (a.length : Int)) = true := by simp; omega
        have hi2 : intsV a[i] = .sl none 1 (intsAV a[i]) := rfl
        have hi3 : intsV (b[i]'(by omega)) = .sl none 1 (intsAV (b[i]'(by omega))) := rfl
        have g1 : (parsAV a).getD (i : Int).toNat [] = [intsV a[i]] := by rw [Int.toNat_natCast]; exact parsAV_get hlt
        have g2 : (parsAV b).getD (i : Int).toNat [] = [intsV (b[i]'(by omega))] := by rw [Int.toNat_natCast]; exact parsAV_get (by omega)
        rw [hi2] at g1
        rw [hi3] at g2
        have c1 := fs_EqualInts (Gl := Gl) hst (a := a[i]) (b := b[i]'(by omega)) (ta := none) (tb := none) (hpa _ (List.getElem_mem _)) (hpb _ (List.getElem_mem _))
        simp +contextual (maxSteps := 1000000) only [parsAV_length, hd, g1, g2, go_sem, reduceCtorEq, ↓reduceIte, Nat.reduceAdd, Nat.reduceEqDiff]
        refine ⟨by omega, by omega, ?_⟩
        (refine CallP.pure (c1) (fun _ => rfl) ?_; simp +contextual (maxSteps := 1000000) only [go_sem, ↓reduceIte, Nat.reduceAdd, Nat.reduceEqDiff])
        cases hc : decide (a[i] = b[i]'(by omega)) with
        | false =>
          simp +contextual (maxSteps := 1000000) only [hc, go_sem, ↓reduceIte, Nat.reduceAdd]
          rw [← hQ']
          simp only [w_kIt_r, w_kBlk_r, w_kSeq_r]
          have e : decide (a = b) = false := by
            rw [decide_eq_false_iff_not]; intro e; subst e; exact of_decide_eq_false hc rfl
          rw [← hQ, e]
          exact ⟨trivial, Ret.flat rfl rfl⟩
        | true =>
          simp +contextual (maxSteps := 1000000) only [hc, go_sem, reduceCtorEq, ↓reduceIte, Nat.reduceAdd, Nat.reduceEqDiff]
          rw [← hQ']
          simp only [w_kIt_n]
          refine ⟨0, i + 1, Wk.same ?_, ⟨by omega, ?_⟩, by omega⟩
          · repeat' first | exact AVle.refl _ _ | exact trivial | refine And.intro ?_ ?_ | exact AVle.int (by simp only [IntKind.wrap_i64]; omega)
          · have h2 : a[i] = b[i]'(by omega) := of_decide_eq_true hc
            rw [List.take_add_one, List.take_add_one, hinv, List.getElem?_eq_getElem hlt, List.getElem?_eq_getElem (show i < b.length by omega), h2]
      · have hd : decide ((i : Int) < (a.length : Int)) = false := by simp; omega
        simp +contextual (maxSteps := 1000000) only [parsAV_length, hd, go_sem, reduceCtorEq, ↓reduceIte, Nat.reduceAdd, Nat.reduceEqDiff]
        rw [← hQ']
        simp only [w_kIt_e, w_kBlk_e, ↓reduceIte]
        simp +contextual (maxSteps := 1000000) only [go_sem, ↓reduceIte, Nat.reduceAdd]
        have e : decide (a = b) = true := by
          rw [decide_eq_true_eq]
          have h3 := hinv
          rw [List.take_of_length_le (by omega), List.take_of_length_le (by omega)] at h3
          exact h3
        rw [← hQ, e]
        exact ⟨trivial, Ret.flat rfl rfl⟩
structure Sq.szP (s : Sq) : Prop where
  ps : s.ps.length < 9223372036854775808
  pp : ∀ p ∈ s.ps, p.length < 9223372036854775808
theorem fs_wSame {Gl : Gh → Prop} (hst : Stays Gl) {a b : Sq} (ha : a.szP) (hb : b.szP) : FS Tryz.prog Gl 109 [.agg a.c, .agg b.c] [] [] (.bool (decide (a = b))) [] [] := by
  refine FS.of hm hst is_wireSame (by simp) fun γ hγ hfr => ?_
  obtain ⟨k, pr, ps, it, fi, da⟩ := a
  obtain ⟨k2, pr2, ps2, it2, fi2, da2⟩ := b
  have c1 := fs_EqualPars (Gl := Gl) hst (a := ps) (b := ps2) (ta := none) (tb := none) ha.ps hb.ps ha.pp hb.pp
  have hcc : ∀ (k pr : Int) ps it fi da, Sq.c ⟨k, pr, ps, it, fi, da⟩ = [.int .i64 k, .int .u8 pr, .sl none 1 (parsAV ps), .str it, .int .u8 fi, .str da] := fun _ _ _ _ _ _ => rfl
  have hz : decide ((⟨k, pr, ps, it, fi, da⟩ : Sq) = ⟨k2, pr2, ps2, it2, fi2, da2⟩) = (decide (ps = ps2) && ((((k == k2) && (pr == pr2)) && (fi == fi2)) && decide (it = it2) && decide (da = da2))) := by
    rw [Bool.eq_iff_iff]
    simp only [Sq.mk.injEq, decide_eq_true_eq, Bool.and_eq_true, beq_iff_eq]
    constructor
    · rintro ⟨a, b, c, d, e, f⟩; exact ⟨c, ⟨⟨⟨a, b⟩, e⟩, d⟩, f⟩
    · rintro ⟨c, ⟨⟨⟨a, b⟩, e⟩, d⟩, f⟩; exact ⟨a, b, c, d, e, f⟩
  (generalize hQ : (fun (ex : Ex) (_ _ : Nat) (s : St) => _) = Q; unfold ir_wireSame)
  simp +contextual (maxSteps := 1000000) only [hcc, go_sem, reduceCtorEq, ↓reduceIte, Nat.reduceAdd, Nat.reduceEqDiff]
  (refine CallP.pure (c1) (fun _ => rfl) ?_; simp +contextual (maxSteps := 1000000) only [go_sem, ↓reduceIte, Nat.reduceAdd, Nat.reduceEqDiff])
  cases hc : decide (ps = ps2) with
  | false =>
    simp +contextual (maxSteps := 1000000) only [hc, go_sem, ↓reduceIte, Nat.reduceAdd]
    rw [← hQ, hz, hc]
    exact ⟨trivial, Ret.flat rfl rfl⟩
  | true =>
    simp +contextual (maxSteps := 1000000) only [hc, go_sem, reduceCtorEq, ↓reduceIte, Nat.reduceAdd, Nat.reduceEqDiff]
    rw [← hQ, hz, hc]
    exact ⟨trivial, Ret.flat rfl rfl⟩
end Go.Proofs.YtjankibepgnbfaaGreatDoor

namespace Go.Proofs.YtjankibepgnbfaaGreatDoor
open Go Go.Ab
def ir_otherBack : ICode :=
 (.seq
 (.reg [qA 2 (.mov (qI 0)),
 qA 3 (.mov (qI 0)),
 qA 4 (.mov (qB false))] (some [0]))
 (.seq
 (.reg [qM 12 0,
 qA 13 (.call (qC 107) [(.t 12)]),
 qM 11 13,
 qE 14 11 0,
 qE 15 11 1,
 qE 16 11 2,
 qA 5 (.box 43 (.c (.agg [(.int .i64 0), (.int .u8 0), .nils, (.str []), (.int .u8 0), (.str [])]))),
 qN (.st 6 (.t 5) (.t 14)),
 qM 6 15,
 qM 7 16] (some [0,5,6,7]))
 (.seq
 (.seq
 (.reg [qM 17 7,
 qA 18 (.bin .neq .none (.t 17) (qI 0)),
 qM 19 18,
 qG 20 19 false (.mov (.t 6)),
 qG 21 19 false (.mov (.t 0)),
 qG 22 19 false (.len (.t 21)),
 qG 23 19 false (.bin .neq .none (.t 20) (.t 22)),
 qA 24 (.pick (.t 19) (qB true) (.t 23)),
 qM 25 24,
 qG 26 25 false (.fa 2 (.t 5)),
 qG 27 25 false (.ld none (.t 26)),
 qG 28 25 false (.len (.t 27)),
 qG 29 25 false (.bin .neq .none (.t 28) (qI 3)),
 qA 30 (.pick (.t 25) (qB true) (.t 29))] (some [5,30]))
 (.cond (.t 30)
 (.seq
 (.reg [qA 2 (.mov (qI 0)),
 qA 3 (.mov (qI 0)),
 qA 4 (.mov (qB false))] (some [2,3,4]))
 .ret)
 .skip))
 (.seq
 (.drw [⟨qA 31 (.ld (some 6) (.t 5)), []⟩,
 ⟨qA 32 (.call (qC 108) [(.t 31), (qI 1), (qI 0)]), [0]⟩,
 ⟨qA 33 (.ld (some 6) (.t 5)), []⟩,
 ⟨qA 34 (.call (qC 108) [(.t 33), (qI 2), (qI (-1))]), [2,1]⟩,
 ⟨qM 8 32, [1,3,0,1]⟩]
 [qM 9 34] (some [5,8,9]))
 (.seq
 (.drw [⟨qA 35 (.ld (some 6) (.t 5)), []⟩,
 ⟨qM 36 8, []⟩,
 ⟨qM 37 9, []⟩,
 ⟨qA 38 (.row 3 1 [(qI 27), (.t 36), (.t 37)]), [1,2]⟩,
 ⟨qA 39 (.call (qC 68) [(.c (.int .u8 0)), (.c (.int .u8 126)), (.t 38)]), [3]⟩,
 ⟨qA 40 (.call (qC 109) [(.t 35), (.t 39)]), [0,4,4]⟩]
 [qM 10 40] (some [8,9,10]))
 (.seq
 (.seq
 (.reg [qM 41 10,
 qA 42 (.un .not (.t 41)),
 qM 43 42,
 qG 44 43 false (.mov (.t 8)),
 qG 45 43 false (.bin .lss .none (.t 44) (qI 2)),
 qA 46 (.pick (.t 43) (qB true) (.t 45)),
 qM 47 46,
 qG 48 47 false (.mov (.t 8)),
 qG 49 47 false (.bin .gtr .none (.t 48) (qI 8)),
 qA 50 (.pick (.t 47) (qB true) (.t 49)),
 qM 51 50,
 qG 52 51 false (.mov (.t 9)),
 qG 53 51 false (.bin .lss .none (.t 52) (qI 0)),
 qA 54 (.pick (.t 51) (qB true) (.t 53))] (some [8,9,54]))
 (.cond (.t 54)
 (.seq
 (.reg [qA 2 (.mov (qI 0)),
 qA 3 (.mov (qI 0)),
 qA 4 (.mov (qB false))] (some [2,3,4]))
 .ret)
 .skip))
 (.seq
 (.reg [qM 55 9,
 qM 56 8,
 qA 57 (.bin .sub .none (.t 56) (qI 1)),
 qM 2 55,
 qM 3 57,
 qA 4 (.mov (qB true))] (some [2,3,4]))
 .ret)))))))
theorem is_otherBack : IrOf Tryz.prog 53 58 ir_otherBack [.t 2, .t 3, .t 4] := ⟨_, Tryz.func53, rfl, by kernel_rfl, by kernel_rfl, by kernel_rfl⟩

end Go.Proofs.YtjankibepgnbfaaGreatDoor

namespace Go.Proofs.YtjankibepgnbfaaGreatDoor
open Go Go.Ab

def backO (b : List UInt8) : Int × Int × Bool := match takeW b with
  | none => (0, 0, false)
  | some (s, n) => if n = b.length ∧ s.ps.length = 3 then
      (if s = ⟨1, 0, [[27], [argW s.ps 1 0], [argW s.ps 2 (-1)]], [], 126, []⟩ ∧ 2 ≤ argW s.ps 1 0 ∧ argW s.ps 1 0 ≤ 8 ∧ 0 ≤ argW s.ps 2 (-1) then (argW s.ps 2 (-1), argW s.ps 1 0 - 1, true) else (0, 0, false))
    else (0, 0, false)
set_option maxHeartbeats 4000000 in
theorem fs_oBackG {Gl : Gh → Prop} (hst : Stays Gl) {b : List UInt8} {tb : Option Nm} (hb : b.length ≤ 4000000000) (hd : dcsOk b) : FS Tryz.prog Gl 53 [.sl tb 1 (bytesAV b)] [] [] (.tup [.int .i64 (backO b).1, .int .i64 (backO b).2.1, .bool (backO b).2.2]) [] [] := by
  refine FS.args (args' := [.sl none 1 (bytesAV b)]) ?_ ⟨RepLe.anon _ _ _, trivial⟩
  refine FS.of hm hst is_otherBack (by simp) fun γ hγ hfr => ?_
  have c1 := fs_wTakeA (Gl := Gl) hst (tb := none) hb hd
  have q0 : ∀ x : Int, (x != x) = false := by simp
  have hbk : backO b = match takeW b with
    | none => (0, 0, false)
    | some (s, n) => if n = b.length ∧ s.ps.length = 3 then
        (if s = ⟨1, 0, [[27], [argW s.ps 1 0], [argW s.ps 2 (-1)]], [], 126, []⟩ ∧ 2 ≤ argW s.ps 1 0 ∧ argW s.ps 1 0 ≤ 8 ∧ 0 ≤ argW s.ps 2 (-1) then (argW s.ps 2 (-1), argW s.ps 1 0 - 1, true) else (0, 0, false))
      else (0, 0, false) := rfl
  generalize backO b = r at *
  cases h : takeW b with
  | none =>
    rw [h] at hbk
    subst hbk
    rw [show takeV b = .tup [.agg [.int .i64 0, .int .u8 0, .sl none 1 (parsAV []), .str [], .int .u8 0, .str []], .int .i64 0, .int .i64 2] by unfold takeV; rw [h]; rfl] at c1
    (generalize hQ : (fun (ex : Ex) (_ _ : Nat) (s : St) => _) = Q; unfold ir_otherBack)
    simp +contextual (maxSteps := 1000000) only [go_sem, reduceCtorEq, ↓reduceIte, Nat.reduceAdd, Nat.reduceEqDiff, Nat.reduceLeDiff, Nat.reduceMul, Nat.reduceBEq, Int.reduceBEq, Int.reduceBNe, Int.reduceLT, Int.reduceLE, Int.reduceGT, Int.reduceGE, Int.reduceToNat]
    (refine CallP.pure (c1) (fun _ => rfl) ?_; simp +contextual (maxSteps := 1000000) only [go_sem, reduceCtorEq, ↓reduceIte, Nat.reduceAdd, Nat.reduceEqDiff, Nat.reduceLeDiff, Nat.reduceMul, Nat.reduceBEq, Int.reduceBEq, Int.reduceBNe, Int.reduceLT, Int.reduceLE, Int.reduceGT, Int.reduceGE, Int.reduceToNat])
    rw [← hQ]
    exact ⟨trivial, Ret.flatT rfl rfl⟩
  | some sn =>
    obtain ⟨⟨k, pr, ps, it, fi, da⟩, n⟩ := sn
    have hmy := (takeW_iff.1 h).1
    rw [h] at hbk
    simp only at hbk
    rw [show takeV b = .tup [.agg [.int .i64 k, .int .u8 pr, .sl none 1 (parsAV ps), .str it, .int .u8 fi, .str da], .int .i64 (n : Int), .int .i64 0] by unfold takeV; rw [h]; rfl] at c1
    have hpl := parsAV_length ps
    have c2 := fs_wArg (Gl := Gl) hst (k := k) (pr := pr) (fi := fi) (o := 0) (ps := ps) (it := it) (da := da) (i := 1)
    have c3 := fs_wArg (Gl := Gl) hst (k := k) (pr := pr) (fi := fi) (o := -1) (ps := ps) (it := it) (da := da) (i := 2)
    have c4 := fun t : Option Nm => fs_NumV (Gl := Gl) hst (pr := 0) (fi := 126) (nums := [27, argW ps 1 0, argW ps 2 (-1)]) (tn := t) (by simp)
    have hsm := mayP_sm hmy
    have hsz : Sq.szP ⟨k, pr, ps, it, fi, da⟩ := ⟨hsm.1.ps, hsm.1.pp⟩
    have hsz2 : Sq.szP ⟨1, 0, [[27], [argW ps 1 0], [argW ps 2 (-1)]], [], 126, []⟩ := ⟨by simp, by simp⟩
    have c5 := fs_wSame (Gl := Gl) hst hsz hsz2
    rw [show Sq.c ⟨1, 0, [[27], [argW ps 1 0], [argW ps 2 (-1)]], [], 126, []⟩ = [.int .i64 1, .int .u8 0, .sl none 1 (parsAV [[27], [argW ps 1 0], [argW ps 2 (-1)]]), .str [], .int .u8 126, .str []] from rfl, show Sq.c ⟨k, pr, ps, it, fi, da⟩ = [.int .i64 k, .int .u8 pr, .sl none 1 (parsAV ps), .str it, .int .u8 fi, .str da] from rfl] at c5
    have hi3 : intsAV [27, argW ps 1 0, argW ps 2 (-1)] = [[.int .i64 27], [.int .i64 (argW ps 1 0)], [.int .i64 (argW ps 2 (-1))]] := rfl
    rw [hi3] at c4
    simp only [List.map_cons, List.map_nil] at c4
    generalize parsAV [[27], [argW ps 1 0], [argW ps 2 (-1)]] = rows3 at *
    generalize hs : decide (Sq.mk k pr ps it fi da = ⟨1, 0, [[27], [argW ps 1 0], [argW ps 2 (-1)]], [], 126, []⟩) = same at *
    generalize hp : argW ps 1 0 = p at *
    generalize hc : argW ps 2 (-1) = c at *
    generalize parsAV ps = rows at *
    (generalize hQ : (fun (ex : Ex) (_ _ : Nat) (s : St) => _) = Q; unfold ir_otherBack)
    simp +contextual (maxSteps := 1000000) only [go_sem, reduceCtorEq, ↓reduceIte, Nat.reduceAdd, Nat.reduceEqDiff, Nat.reduceLeDiff, Nat.reduceMul, Nat.reduceBEq, Int.reduceBEq, Int.reduceBNe, Int.reduceLT, Int.reduceLE, Int.reduceGT, Int.reduceGE, Int.reduceToNat]
    by_cases hn : n = b.length
    · have q1 : ((n : Int) != (b.length : Int)) = false := by rw [hn]; exact q0 _
      by_cases h3 : ps.length = 3
      · have hl3 : ((rows.length : Int) != 3) = false := by rw [hpl, h3]; rfl
        rw [if_pos ⟨hn, h3⟩] at hbk
        (refine CallP.pure (c1) (fun _ => rfl) ?_; simp +contextual (maxSteps := 1000000) only [bytesAV_length', q1, hl3, go_sem, reduceCtorEq, ↓reduceIte, Nat.reduceAdd, Nat.reduceEqDiff, Nat.reduceLeDiff, Nat.reduceMul, Nat.reduceBEq, Int.reduceBEq, Int.reduceBNe, Int.reduceLT, Int.reduceLE, Int.reduceGT, Int.reduceGE, Int.reduceToNat])
        refine DCall.new c2 ?_
        simp +contextual (maxSteps := 1000000) only [go_sem, reduceCtorEq, ↓reduceIte, Nat.reduceAdd, Nat.reduceEqDiff, Nat.reduceLeDiff, Nat.reduceMul, Nat.reduceBEq, Int.reduceBEq, Int.reduceBNe, Int.reduceLT, Int.reduceLE, Int.reduceGT, Int.reduceGE, Int.reduceToNat]
        refine DCall.new c3 ?_
        simp +contextual (maxSteps := 1000000) only [go_sem, reduceCtorEq, ↓reduceIte, Nat.reduceAdd, Nat.reduceEqDiff, Nat.reduceLeDiff, Nat.reduceMul, Nat.reduceBEq, Int.reduceBEq, Int.reduceBNe, Int.reduceLT, Int.reduceLE, Int.reduceGT, Int.reduceGE, Int.reduceToNat]
        refine ⟨by simp [AV.closedL, AV.closed], DCall.new (c4 _) ?_⟩
        simp +contextual (maxSteps := 1000000) only [go_sem, reduceCtorEq, ↓reduceIte, Nat.reduceAdd, Nat.reduceEqDiff, Nat.reduceLeDiff, Nat.reduceMul, Nat.reduceBEq, Int.reduceBEq, Int.reduceBNe, Int.reduceLT, Int.reduceLE, Int.reduceGT, Int.reduceGE, Int.reduceToNat]
        refine DCall.new c5 ?_
        cases same with
        | false =>
          simp +contextual (maxSteps := 1000000) only [go_sem, reduceCtorEq, ↓reduceIte, Nat.reduceAdd, Nat.reduceEqDiff, Nat.reduceLeDiff, Nat.reduceMul, Nat.reduceBEq, Int.reduceBEq, Int.reduceBNe, Int.reduceLT, Int.reduceLE, Int.reduceGT, Int.reduceGE, Int.reduceToNat]
          rw [if_neg (fun h => of_decide_eq_false hs h.1)] at hbk
          subst hbk
          rw [← hQ]
          exact ⟨trivial, Ret.flatT rfl rfl⟩
        | true =>
          by_cases hall : 2 ≤ p ∧ p ≤ 8 ∧ 0 ≤ c
          · rw [if_pos ⟨of_decide_eq_true hs, hall⟩] at hbk
            subst hbk
            have hw : IntKind.i64.wrap (p - 1) = p - 1 := by rw [IntKind.wrap_i64]; omega
            have r1 : decide (p < 2) = false := decide_eq_false (by omega)
            have r2 : decide (p > 8) = false := decide_eq_false (by omega)
            have r3 : decide (c < 0) = false := decide_eq_false (by omega)
            simp +contextual (maxSteps := 1000000) only [r1, r2, r3, hw, go_sem, reduceCtorEq, ↓reduceIte, Nat.reduceAdd, Nat.reduceEqDiff, Nat.reduceLeDiff, Nat.reduceMul, Nat.reduceBEq, Int.reduceBEq, Int.reduceBNe, Int.reduceLT, Int.reduceLE, Int.reduceGT, Int.reduceGE, Int.reduceToNat]
            rw [← hQ]
            exact ⟨trivial, Ret.flatT rfl rfl⟩
          · rw [if_neg (fun h => hall h.2)] at hbk
            subst hbk
            cases r1 : decide (p < 2) with
            | true =>
              simp +contextual (maxSteps := 1000000) only [r1, go_sem, reduceCtorEq, ↓reduceIte, Nat.reduceAdd, Nat.reduceEqDiff, Nat.reduceLeDiff, Nat.reduceMul, Nat.reduceBEq, Int.reduceBEq, Int.reduceBNe, Int.reduceLT, Int.reduceLE, Int.reduceGT, Int.reduceGE, Int.reduceToNat]
              rw [← hQ]
              exact ⟨trivial, Ret.flatT rfl rfl⟩
            | false =>
              cases r2 : decide (p > 8) with
              | true =>
                simp +contextual (maxSteps := 1000000) only [r1, r2, go_sem, reduceCtorEq, ↓reduceIte, Nat.reduceAdd, Nat.reduceEqDiff, Nat.reduceLeDiff, Nat.reduceMul, Nat.reduceBEq, Int.reduceBEq, Int.reduceBNe, Int.reduceLT, Int.reduceLE, Int.reduceGT, Int.reduceGE, Int.reduceToNat]
                rw [← hQ]
                exact ⟨trivial, Ret.flatT rfl rfl⟩
              | false =>
                have r3 : decide (c < 0) = true := decide_eq_true (by have := of_decide_eq_false r1; have := of_decide_eq_false r2; omega)
                simp +contextual (maxSteps := 1000000) only [r1, r2, r3, go_sem, reduceCtorEq, ↓reduceIte, Nat.reduceAdd, Nat.reduceEqDiff, Nat.reduceLeDiff, Nat.reduceMul, Nat.reduceBEq, Int.reduceBEq, Int.reduceBNe, Int.reduceLT, Int.reduceLE, Int.reduceGT, Int.reduceGE, Int.reduceToNat]
                rw [← hQ]
                exact ⟨trivial, Ret.flatT rfl rfl⟩
      · have hl3 : ((rows.length : Int) != 3) = true := by rw [hpl, bne_iff_ne]; omega
        rw [if_neg (fun h => h3 h.2)] at hbk
        subst hbk
        (refine CallP.pure (c1) (fun _ => rfl) ?_; simp +contextual (maxSteps := 1000000) only [bytesAV_length', q1, hl3, go_sem, reduceCtorEq, ↓reduceIte, Nat.reduceAdd, Nat.reduceEqDiff, Nat.reduceLeDiff, Nat.reduceMul, Nat.reduceBEq, Int.reduceBEq, Int.reduceBNe, Int.reduceLT, Int.reduceLE, Int.reduceGT, Int.reduceGE, Int.reduceToNat])
        rw [← hQ]
        exact ⟨trivial, Ret.flatT rfl rfl⟩
    · have q1 : ((n : Int) != (b.length : Int)) = true := by rw [bne_iff_ne]; omega
      rw [if_neg (fun h => hn h.1)] at hbk
      subst hbk
      (refine CallP.pure (c1) (fun _ => rfl) ?_; simp +contextual (maxSteps := 1000000) only [bytesAV_length', q1, go_sem, reduceCtorEq, ↓reduceIte, Nat.reduceAdd, Nat.reduceEqDiff, Nat.reduceLeDiff, Nat.reduceMul, Nat.reduceBEq, Int.reduceBEq, Int.reduceBNe, Int.reduceLT, Int.reduceLE, Int.reduceGT, Int.reduceGE, Int.reduceToNat])
      rw [← hQ]
      exact ⟨trivial, Ret.flatT rfl rfl⟩
end Go.Proofs.YtjankibepgnbfaaGreatDoor

namespace Go.Proofs.YtjankibepgnbfaaGreatDoor
open Go Go.Ab
def ir_bytesCutPrefix : ICode :=
 (.seq
 (.reg [qA 4 (.mov (.c .nils)),
 qA 5 (.mov (qB false))] (some [0,1]))
 (.seq
 (.seq
 (.reg [qM 6 0,
 qM 7 1,
 qA 8 (.call (qC 106) [(.t 6), (.t 7)]),
 qA 9 (.un .not (.t 8))] (some [0,1,9]))
 (.cond (.t 9)
 (.seq
 (.reg [qM 10 0,
 qM 4 10,
 qA 5 (.mov (qB false))] (some [4,5]))
 .ret)
 .skip))
 (.seq
 (.reg [qM 11 0,
 qM 12 1,
 qA 13 (.len (.t 12)),
 qA 14 (.sll 1 (.t 11) (some (.t 13)) none none),
 qM 4 14,
 qA 5 (.mov (qB true))] (some [4,5]))
 .ret)))
theorem is_bytesCutPrefix : IrOf Tryz.prog 49 15 ir_bytesCutPrefix [.t 4, .t 5] := ⟨_, Tryz.func49, rfl, by kernel_rfl, by kernel_rfl, by kernel_rfl⟩

def ir_backspans : ICode :=
 (.seq
 (.reg [qA 0 (.box 94 (.c (.agg [(.int .i64 0), (.int .i64 0), (.int .i64 0), (.int .i64 0), (.int .i64 0), (.int .i64 0), (.int .i64 0), (.int .i64 0), (.int .i64 0), (.int .i64 0), (.int .i64 0), (.int .i64 0)])))] (some [0]))
 (.seq
 (.reg [qA 1 (.bld [(.int .i64 0), (.int .i64 0)] [(0, 1, (qI 9)), (1, 1, (qI 9))]),
 qA 2 (.bld [(.int .i64 0), (.int .i64 0)] [(0, 1, (qI 13)), (1, 1, (qI 13))]),
 qA 3 (.bld [(.int .i64 0), (.int .i64 0)] [(0, 1, (qI 27)), (1, 1, (qI 27))]),
 qA 4 (.bld [(.int .i64 0), (.int .i64 0)] [(0, 1, (qI 127)), (1, 1, (qI 127))]),
 qA 5 (.bld [(.int .i64 0), (.int .i64 0)] [(0, 1, (qI 57348)), (1, 1, (qI 57454))]),
 qA 6 (.bld [(.int .i64 0), (.int .i64 0)] [(0, 1, (qI 32)), (1, 1, (qI 126))]),
 qA 7 (.bld [(.int .i64 0), (.int .i64 0), (.int .i64 0), (.int .i64 0), (.int .i64 0), (.int .i64 0), (.int .i64 0), (.int .i64 0), (.int .i64 0), (.int .i64 0), (.int .i64 0), (.int .i64 0)] [(0, 2, (.t 1)), (2, 2, (.t 2)), (4, 2, (.t 3)), (6, 2, (.t 4)), (8, 2, (.t 5)), (10, 2, (.t 6))]),
 qN (.st 12 (.t 0) (.t 7))] (some [0]))
 .ret))
theorem is_backspans : IrOf Tryz.prog 52 8 ir_backspans [.cell 0 (some 12)] := ⟨_, Tryz.func52, rfl, by kernel_rfl, by kernel_rfl, by kernel_rfl⟩

/- clavier/back.candidates$1 -/
def ir_backcandidates1_l0 : ICode :=
 (.seq
 (.reg [qA 31 (.bin .lss .none (.t 30) (qI 8))] (some [1,2,3,5,6,8,9,15,16,30,31]))
 (.seq
 (.cond (.t 31)
 .skip
 (.exit 4))
 (.seq
 (.blk 5
 (.seq
 (.reg [qM 32 30,
 qM 10 32] (some [1,2,3,5,6,8,9,10,15,16,30]))
 (.reg [qM 33 6,
 qM 34 9,
 qM 35 10,
 qA 36 (.bld [(.int .i64 0), (.int .i64 0), (.int .i64 0), (.int .i64 0), (.int .i64 0), (.str [])] [(0, 1, (.t 34)), (1, 1, (.t 35))]),
 qA 37 (.call (.t 33) [(qB true), (.t 36)])] (some [1,2,3,5,6,8,9,15,16,30]))))
 (.reg [qA 38 (.bin .add .none (.t 30) (qI 1)),
 qM 30 38] (some [1,2,3,5,6,8,9,15,16,30])))))
def ir_backcandidates1_l1 : ICode :=
 (.seq
 (.seq
 (.reg [qM 21 9,
 qF 22 1 8,
 qL 23 22,
 qA 24 (.bin .leq .none (.t 21) (.t 23)),
 qM 25 24,
 qG 26 25 true (.ld none (.t 5)),
 qA 27 (.pick (.t 25) (.t 26) (qB false))] (some [1,2,3,5,6,8,9,15,16,27]))
 (.cond (.t 27)
 .skip
 (.exit 2)))
 (.seq
 (.blk 3
 (.seq
 (.reg [qA 30 (.mov (qI 0))] (some [1,2,3,5,6,8,9,15,16,30]))
 (.blk 4
 (.loop
 ir_backcandidates1_l0))))
 (.reg [qM 28 9,
 qA 29 (.bin .add .none (.t 28) (qI 1)),
 qM 9 29] (some [1,2,3,5,6,8,9,15,16]))))
def ir_backcandidates1_l2 : ICode :=
 (.seq
 (.reg [qA 17 (.bin .lss .none (.t 16) (qI 6))] (some [1,2,3,5,6,15,16,17]))
 (.seq
 (.cond (.t 17)
 .skip
 (.exit 0))
 (.seq
 (.blk 1
 (.seq
 (.reg [qA 18 (.ixa 6 2 (some 2) (.t 15) (.t 16)),
 qA 8 (.box 93 (.c (.agg [(.int .i64 0), (.int .i64 0)]))),
 qN (.st 2 (.t 8) (.t 18))] (some [1,2,3,5,6,8,15,16]))
 (.seq
 (.reg [qF 19 0 8,
 qL 20 19,
 qM 9 20] (some [1,2,3,5,6,8,9,15,16]))
 (.blk 2
 (.loop
 ir_backcandidates1_l1)))))
 (.reg [qA 39 (.bin .add .none (.t 16) (qI 1)),
 qM 16 39] (some [1,2,3,5,6,15,16])))))
def ir_backcandidates1 : ICode :=
 (.seq
 (.reg [qA 4 (.box 30 (.t 0))] (some [1,2,3,4]))
 (.seq
 (.reg [qA 5 (.box 4 (qB false)),
 qN (.st 1 (.t 5) (qB true))] (some [1,2,3,4,5]))
 (.seq
 (.reg [qA 14 (.mkf (.func 51) [] [(.t 5), (.t 4)]),
 qM 6 14] (some [1,2,3,5,6]))
 (.seq
 (.seq
 (.reg [qA 15 (.call (qC 52) []),
 qA 16 (.mov (qI 0))] (some [1,2,3,5,6,15,16]))
 (.blk 0
 (.loop
 ir_backcandidates1_l2)))
 (.seq
 (.reg [qL 41 1,
 qA 42 (.call (qC 53) [(.t 41)]),
 qM 40 42,
 qE 43 40 0,
 qE 44 40 1,
 qE 45 40 2,
 qM 11 43,
 qM 12 44,
 qM 13 45] (some [1,2,3,6,11,12,13]))
 (.seq
 (.reg [qM 46 6,
 qL 47 1,
 qA 48 (.b2s (.t 47)),
 qA 49 (.bld [(.int .i64 0), (.int .i64 0), (.int .i64 0), (.int .i64 0), (.int .i64 0), (.str [])] [(0, 1, (qI 97)), (5, 1, (.t 48))]),
 qA 50 (.call (.t 46) [(qB true), (.t 49)])] (some [2,3,6,11,12,13]))
 (.seq
 (.reg [qM 51 6,
 qL 52 2,
 qL 53 3,
 qA 54 (.b2s (.t 53)),
 qA 55 (.bld [(.int .i64 0), (.int .i64 0), (.int .i64 0), (.int .i64 0), (.int .i64 0), (.str [])] [(0, 1, (qI 97)), (1, 1, (qI 2)), (5, 1, (.t 54))]),
 qA 56 (.call (.t 51) [(.t 52), (.t 55)])] (some [2,3,6,11,12,13]))
 (.seq
 (.reg [qM 57 6,
 qM 58 13,
 qM 59 11,
 qM 60 12,
 qM 61 11,
 qM 62 12,
 qA 63 (.bin .and .none (.t 62) (qI 1)),
 qA 64 (.bin .mul .none (.t 61) (.t 63)),
 qA 65 (.bld [(.int .i64 0), (.int .i64 0), (.int .i64 0), (.int .i64 0), (.int .i64 0), (.str [])] [(0, 1, (.t 59)), (1, 1, (.t 60)), (3, 1, (.t 64))]),
 qA 66 (.call (.t 57) [(.t 58), (.t 65)])] (some [2,3,6]))
 (.reg [qM 67 6,
 qL 68 2,
 qL 69 3,
 qA 70 (.b2s (.t 69)),
 qA 71 (.bld [(.int .i64 0), (.int .i64 0), (.int .i64 0), (.int .i64 0), (.int .i64 0), (.str [])] [(0, 1, (qI 57399)), (1, 1, (qI 2)), (5, 1, (.t 70))]),
 qA 72 (.call (.t 67) [(.t 68), (.t 71)])] (some []))))))))))
theorem is_backcandidates1 : IrOf Tryz.prog 50 73 ir_backcandidates1 [] := ⟨_, Tryz.func50, rfl, by kernel_rfl, by kernel_rfl, by kernel_rfl⟩

def ir_backcandidates11 : ICode :=
 (.seq
 (.reg [qA 5 (.box 27 (.t 1))] (some [0,2,3,5]))
 (.seq
 (.reg [qF 6 2 5,
 qN (.st 1 (.t 6) (qI 1))] (some [0,2,3,5]))
 (.reg [qL 7 2,
 qM 8 7,
 qG 9 8 true (.mov (.t 0)),
 qG 10 8 true (.un .not (.t 9)),
 qG 11 8 true (.mov (.t 10)),
 qG 12 11 false (.ld none (.t 3)),
 qG 13 11 false (.ld (some 6) (.t 5)),
 qG 14 11 false (.call (.t 12) [(.t 13)]),
 qG 15 8 true (.pick (.t 11) (qB true) (.t 14)),
 qA 16 (.pick (.t 8) (.t 15) (qB false)),
 qN (.st 1 (.t 2) (.t 16))] (some []))))
theorem is_backcandidates11 : IrOf Tryz.prog 51 17 ir_backcandidates11 [] := ⟨_, Tryz.func51, rfl, by kernel_rfl, by kernel_rfl, by kernel_rfl⟩

def ir_backcandidates : ICode :=
 (.seq
 (.reg [qA 1 (.box 34 (.t 0)),
 qA 2 (.mov (.c .nilf))] (some [1]))
 (.seq
 (.reg [qL 6 1,
 qA 7 (.row 5 1 [(.c (.int .u8 27))]),
 qA 8 (.call (qC 49) [(.t 6), (.t 7)]),
 qM 5 8,
 qE 9 5 0,
 qE 10 5 1,
 qA 3 (.box 34 (.c .nils)),
 qA 4 (.box 4 (qB false)),
 qN (.st 1 (.t 3) (.t 9)),
 qN (.st 1 (.t 4) (.t 10))] (some [1,3,4]))
 (.seq
 (.reg [qA 11 (.mkf (.func 50) [] [(.t 1), (.t 4), (.t 3)]),
 qM 2 11] (some [2]))
 .ret)))
theorem is_backcandidates : IrOf Tryz.prog 25 12 ir_backcandidates [.t 2] := ⟨_, Tryz.func25, rfl, by kernel_rfl, by kernel_rfl, by kernel_rfl⟩

theorem CallP.splitX {P : Program} {Gl : Gh → Prop} {k : FuncId} {args : List AV} {Ha H0 : Hp} {T : Tk} {f : Nat → Nm} {K : AV → Hp → Tk → Prop} {R : Hp → Tk → Prop} (h : FSX P Gl k args H0 T R) (hap : ∀ p ∈ Ha, ∀ q ∈ H0, q.1 ≠ p.1)
    (hK : ∀ H1 T1, R H1 T1 → (∀ p ∈ Ha, ∀ q ∈ H1, q.1 ≠ p.1) → K .und (Ha ++ H1) T1) : CallP P Gl k args (Ha ++ H0) T f K := by
  refine .inr ⟨H0, T, R, h, fun p hp => List.mem_append.2 (.inr hp), fun _ h => h, fun H1 T1 hr hn => ⟨Ha ++ H1, T1, fun p hp => ?_, fun _ h => .inl h, hK H1 T1 hr fun p hp => hn p (List.mem_append.2 (.inl hp)) (hap p hp)⟩⟩
  rcases List.mem_append.1 hp with hp | hp
  · exact List.mem_append.2 (.inr (keep_ahead hap p hp))
  · exact List.mem_append.2 (.inl hp)
theorem fs_CutPre {Gl : Gh → Prop} (hst : Stays Gl) {a b : List UInt8} {ta tb : Option Nm} : FS Tryz.prog Gl 49 [.sl ta 1 (bytesAV a), .sl tb 1 (bytesAV b)] [] [] (.tup [.sl none 1 (bytesAV (if b <+: a then a.drop b.length else a)), .bool (decide (b <+: a))]) [] [] := by
  refine FS.args (args' := [.sl none 1 (bytesAV a), .sl none 1 (bytesAV b)]) ?_ ⟨RepLe.anon _ _ _, RepLe.anon _ _ _, trivial⟩
  refine FS.of hm hst is_bytesCutPrefix (by simp) fun γ hγ hfr => ?_
  have c1 := fs_BHasPrefix (Gl := Gl) hst (a := a) (b := b) (ta := none) (tb := none)
  (generalize hQ : (fun (ex : Ex) (_ _ : Nat) (s : St) => _) = Q; unfold ir_bytesCutPrefix)
  simp +contextual (maxSteps := 1000000) only [go_sem, reduceCtorEq, ↓reduceIte, Nat.reduceAdd, Nat.reduceEqDiff, Nat.reduceLeDiff, Nat.reduceMul, Nat.reduceBEq, Int.reduceBEq, Int.reduceBNe, Int.reduceLT, Int.reduceLE, Int.reduceGT, Int.reduceGE, Int.reduceToNat]
  by_cases h : b <+: a
  · have hl := h.length_le
    rw [decide_eq_true h] at c1
    (refine CallP.pure (c1) (fun _ => rfl) ?_; simp +contextual (maxSteps := 1000000) only [bytesAV_length', bytesAV_take, bytesAV_drop, List.take_length, Int.toNat_natCast, go_sem, reduceCtorEq, ↓reduceIte, Nat.reduceAdd, Nat.reduceEqDiff, Nat.reduceLeDiff, Nat.reduceMul, Nat.reduceBEq, Int.reduceBEq, Int.reduceBNe, Int.reduceLT, Int.reduceLE, Int.reduceGT, Int.reduceGE, Int.reduceToNat])
    refine ⟨⟨by omega, by omega⟩, ?_⟩
    rw [← hQ, decide_eq_true h, if_pos h]
    exact ⟨trivial, Ret.flatT (by simp [resOf, getAll, IRes.get, lf]) rfl⟩
  · rw [decide_eq_false h] at c1
    (refine CallP.pure (c1) (fun _ => rfl) ?_; simp +contextual (maxSteps := 1000000) only [go_sem, reduceCtorEq, ↓reduceIte, Nat.reduceAdd, Nat.reduceEqDiff, Nat.reduceLeDiff, Nat.reduceMul, Nat.reduceBEq, Int.reduceBEq, Int.reduceBNe, Int.reduceLT, Int.reduceLE, Int.reduceGT, Int.reduceGE, Int.reduceToNat])
    rw [← hQ, decide_eq_false h, if_neg h]
    exact ⟨trivial, Ret.flatT (by simp [resOf, getAll, IRes.get, lf]) rfl⟩
theorem fx_try {Gl : Gh → Prop} (hst : Stays Gl) {id o y : Nm} (hoy : o ≠ y) {is on : Bool} {k : Ky} {H : Hp} {T : Tk} {R1 R2 : Hp → Tk → Prop} (hap : ∀ q ∈ H, q.1 ≠ o ∧ q.1 ≠ y)
    (hy : on = true → is = true → YS Tryz.prog Gl id [.agg (kyAV { k with type := 1 })] H T fun r H' T' => (r = .bool true ∧ R1 H' T') ∨ (r = .bool false ∧ R2 H' T')) :
    FSX Tryz.prog Gl 51 [.bool is, .agg (kyAV k), .ptr o 0, .ptr y 0] ([(o, .cells [.bool on]), (y, .cells [.yl id])] ++ H) T fun H' T' => ∃ on' H2, H' = [(o, .cells [.bool on']), (y, .cells [.yl id])] ++ H2 ∧ (∀ q ∈ H2, q.1 ≠ o ∧ q.1 ≠ y) ∧
      ((on = true ∧ is = true ∧ ((on' = true ∧ R1 H2 T') ∨ (on' = false ∧ R2 H2 T'))) ∨ (¬(on = true ∧ is = true) ∧ on' = on ∧ H2 = H ∧ T' = T)) := by
  refine FSX.of hm hst is_backcandidates11 (by simp) fun γ hγ hfr => ?_
  have hky : kyAV k = [.int .i64 k.code, .int .i64 k.mods, .int .i64 k.type, .int .i64 k.shifted, .int .i64 k.base, .str k.text] := rfl
  have hky1 : kyAV { k with type := 1 } = [.int .i64 k.code, .int .i64 k.mods, .int .i64 1, .int .i64 k.shifted, .int .i64 k.base, .str k.text] := rfl
  have hog : o.1 ≠ γ := hfr.1 (o, .cells [.bool on]) (by simp)
  have hyg : y.1 ≠ γ := hfr.1 (y, .cells [.yl id]) (by simp)
  have e1 : (o = y) = False := eq_false hoy
  have e2 : (y = o) = False := eq_false fun e => hoy e.symm
  have e3 : ∀ i j, (o = ((γ, i, j) : Nm)) = False := fun i j => eq_false fun e => hog (by rw [e])
  have e4 : ∀ i j, (((γ, i, j) : Nm) = o) = False := fun i j => eq_false fun e => hog (by rw [← e])
  have e5 : ∀ i j, (y = ((γ, i, j) : Nm)) = False := fun i j => eq_false fun e => hyg (by rw [e])
  have e6 : ∀ i j, (((γ, i, j) : Nm) = y) = False := fun i j => eq_false fun e => hyg (by rw [← e])
  have s1 : ∀ (i j : Nat) hb, setH H (γ, i, j) hb = H := fun i j hb => setH_ne fun q hq e => hfr.1 q (by simp [hq]) (by rw [e])
  have s2 : ∀ hb, setH H o hb = H := fun hb => setH_ne fun q hq => (hap q hq).1
  rw [hky] at *
  rw [hky1] at hy
  (generalize hQ : (fun (ex : Ex) (_ _ : Nat) (s : St) => _) = Q; unfold ir_backcandidates11)
  cases on with
  | false =>
    simp +contextual (maxSteps := 1000000) only [e1, e2, e3, e4, e5, e6, s1, s2, go_sem, reduceCtorEq, ↓reduceIte, Nat.reduceAdd, Nat.reduceEqDiff, Nat.reduceLeDiff, Nat.reduceMul, Nat.reduceBEq, Int.reduceBEq, Int.reduceBNe, Int.reduceLT, Int.reduceLE, Int.reduceGT, Int.reduceGE, Int.reduceToNat]
    rw [← hQ]
    exact ⟨trivial, _, T, ⟨false, H, rfl, hap, .inr ⟨by simp, rfl, rfl, rfl⟩⟩, fun p hp => List.mem_cons_of_mem _ hp, fun t ht => ht⟩
  | true =>
    cases is with
    | false =>
      simp +contextual (maxSteps := 1000000) only [e1, e2, e3, e4, e5, e6, s1, s2, go_sem, reduceCtorEq, ↓reduceIte, Nat.reduceAdd, Nat.reduceEqDiff, Nat.reduceLeDiff, Nat.reduceMul, Nat.reduceBEq, Int.reduceBEq, Int.reduceBNe, Int.reduceLT, Int.reduceLE, Int.reduceGT, Int.reduceGE, Int.reduceToNat]
      rw [← hQ]
      exact ⟨trivial, _, T, ⟨true, H, rfl, hap, .inr ⟨by simp, rfl, rfl, rfl⟩⟩, fun p hp => List.mem_cons_of_mem _ hp, fun t ht => ht⟩
    | true =>
      simp +contextual (maxSteps := 1000000) only [e1, e2, e3, e4, e5, e6, s1, s2, go_sem, reduceCtorEq, ↓reduceIte, Nat.reduceAdd, Nat.reduceEqDiff, Nat.reduceLeDiff, Nat.reduceMul, Nat.reduceBEq, Int.reduceBEq, Int.reduceBNe, Int.reduceLT, Int.reduceLE, Int.reduceGT, Int.reduceGE, Int.reduceToNat]
      refine CallY.splitN (Ha := [((γ, 0, 0), .cells [.int .i64 k.code, .int .i64 k.mods, .int .i64 1, .int .i64 k.shifted, .int .i64 k.base, .str k.text]), (o, .cells [.bool true]), (y, .cells [.yl id])]) (hy rfl rfl) (fun p hp q hq => ?_) fun rv H1 T1 hR hN => ?_
      · simp only [List.mem_cons, List.not_mem_nil, or_false] at hp
        rcases hp with rfl | rfl | rfl
        · exact fun e => hfr.1 q (by simp [hq]) (by rw [e])
        · exact (hap q hq).1
        · exact (hap q hq).2
      · have hap1 : ∀ q ∈ H1, q.1 ≠ o ∧ q.1 ≠ y := fun q hq => ⟨hN (o, .cells [.bool true]) (by simp) q hq, hN (y, .cells [.yl id]) (by simp) q hq⟩
        have s3 : ∀ hb, setH H1 o hb = H1 := fun hb => setH_ne fun q hq => (hap1 q hq).1
        rcases hR with ⟨rfl, hR⟩ | ⟨rfl, hR⟩
        · simp +contextual (maxSteps := 1000000) only [e1, e2, e3, e4, e5, e6, s3, go_sem, reduceCtorEq, ↓reduceIte, Nat.reduceAdd, Nat.reduceEqDiff, Nat.reduceLeDiff, Nat.reduceMul, Nat.reduceBEq, Int.reduceBEq, Int.reduceBNe, Int.reduceLT, Int.reduceLE, Int.reduceGT, Int.reduceGE, Int.reduceToNat]
          rw [← hQ]
          exact ⟨trivial, _, T1, ⟨true, H1, rfl, hap1, .inl ⟨rfl, rfl, .inl ⟨rfl, hR⟩⟩⟩, fun p hp => List.mem_cons_of_mem _ hp, fun t ht => ht⟩
        · simp +contextual (maxSteps := 1000000) only [e1, e2, e3, e4, e5, e6, s3, go_sem, reduceCtorEq, ↓reduceIte, Nat.reduceAdd, Nat.reduceEqDiff, Nat.reduceLeDiff, Nat.reduceMul, Nat.reduceBEq, Int.reduceBEq, Int.reduceBNe, Int.reduceLT, Int.reduceLE, Int.reduceGT, Int.reduceGE, Int.reduceToNat]
          rw [← hQ]
          exact ⟨trivial, _, T1, ⟨false, H1, rfl, hap1, .inl ⟨rfl, rfl, .inr ⟨rfl, hR⟩⟩⟩, fun p hp => List.mem_cons_of_mem _ hp, fun t ht => ht⟩
end Go.Proofs.YtjankibepgnbfaaGreatDoor

namespace Go.Proofs.YtjankibepgnbfaaGreatDoor
open Go Go.Ab
end Go.Proofs.YtjankibepgnbfaaGreatDoor

namespace Go.Proofs.YtjankibepgnbfaaGreatDoor
open Go Go.Ab
theorem has_low8 {m n : Int} (h0 : 0 ≤ m) (h1 : 0 ≤ n) (h : m % 8 = n % 8) : hasK m 1 = hasK n 1 ∧ hasK m 2 = hasK n 2 ∧ hasK m 4 = hasK n 4 ∧ oldK m = oldK n := by
  unfold hasK oldK
  rw [show max m 0 = m by omega, show max n 0 = n by omega]
  refine ⟨?_, ?_, ?_, h⟩ <;> (congr 1; rw [eq_iff_iff]; omega)
theorem form_mods {m : Md} {k j : Ky} (hc : k.code = j.code) (hs : k.shifted = j.shifted) (ht : k.text = j.text) (h0 : 0 ≤ k.mods) (h1 : 0 ≤ j.mods) (h : k.mods % 8 = j.mods % 8) : formL m k = formL m j := by
  obtain ⟨a, b, c, d⟩ := has_low8 h0 h1 h
  have hsh : shownK k = shownK j := by unfold shownK; rw [a, hc, hs]
  have hsl : shownL k = shownL j := by unfold shownL; rw [c, ht, hsh]
  have hsh2 : ∀ x, shownK { k with code := x, shifted := 0 } = shownK { j with code := x, shifted := 0 } := fun x => by unfold shownK; simp only [a]
  have hsl2 : ∀ x, shownL { k with code := x, shifted := 0 } = shownL { j with code := x, shifted := 0 } := fun x => by
    unfold shownL
    rw [hsh2 x]
    simp only [c, ht]
  simp only [formL, textL, plainL, letterL, numberL, padL, aheadK, plainB, hsl, hsl2, a, b, c, d, hc]
theorem leg_may {m : Md} {k : Ky} (h : MayK k) (ht : k.type ≠ 3) : legK m k = formL m k := by
  unfold legK
  rw [mayK_iff.2 h, if_pos]
  rw [Bool.true_and, bne_iff_ne]; exact ht
end Go.Proofs.YtjankibepgnbfaaGreatDoor

namespace Go.Proofs.YtjankibepgnbfaaGreatDoor
open Go Go.Ab

def codeC (m : Nat) : Nat := if m < 8 then 9 else if m < 16 then 13 else if m < 24 then 27 else if m < 32 then 127 else if m < 888 then 57348 + (m - 32) / 8 else 32 + (m - 888) / 8
def pk (m : Nat) : Ky := ⟨(codeC m : Int), ((m % 8 : Nat) : Int), 1, 0, 0, []⟩
def altB (b : List UInt8) : Bool := decide ([27] <+: b)
def restB (b : List UInt8) : List UInt8 := if [27] <+: b then b.drop 1 else b
def shiftB (b : List UInt8) : Int := IntKind.i64.wrap ((backO b).1 * bits .and .i64 (backO b).2.1 1)
def txtC (b : List UInt8) : List (Bool × Ky) := [(true, ⟨97, 0, 1, 0, 0, b⟩), (altB b, ⟨97, 2, 1, 0, 0, restB b⟩), ((backO b).2.2, ⟨(backO b).1, (backO b).2.1, 1, shiftB b, 0, []⟩), (altB b, ⟨57399, 2, 1, 0, 0, restB b⟩)]
def candK (b : List UInt8) : List Ky := (List.range 1648).map pk ++ (txtC b).filterMap fun p => if p.1 = true then some p.2 else none
def hitK (m : Md) (b : List UInt8) (k : Ky) : Bool := mayK k && decide (boardK m 0 k = b)
def backK (m : Md) (b : List UInt8) : Option Ky := if b = [] then none else (candK b).find? (hitK m b)
def sameB (m : Md) (k j : Ky) : Bool := decide (0 < (boardK m 0 k).length) && decide (boardK m 0 k = boardK m 0 j)
theorem cand_at {b : List UInt8} {i : Nat} (h : i < 1648) : (candK b)[i]? = some (pk i) := by
  unfold candK
  rw [List.getElem?_append_left (by simp; exact h), List.getElem?_map, List.getElem?_range h]; rfl
theorem first_hit {α : Type} {p : α → Bool} {l : List α} {i : Nat} {x : α} (h : l[i]? = some x) (hp : p x = true) : ∃ j y, j ≤ i ∧ l[j]? = some y ∧ p y = true ∧ l.find? p = some y := by
  cases hf : l.find? p with
  | none =>
    rw [List.find?_eq_none] at hf
    exact absurd hp (hf x (List.mem_of_getElem? h))
  | some y =>
    obtain ⟨h1, l1, l2, h2, h3⟩ := List.find?_eq_some_iff_append.1 hf
    refine ⟨l1.length, y, ?_, by rw [h2]; simp, h1, rfl⟩
    rcases Nat.lt_or_ge i l1.length with hlt | hge
    · rw [h2, List.getElem?_append_left hlt] at h
      have := h3 x (List.mem_of_getElem? h)
      rw [hp] at this; cases this
    · exact hge
theorem clears0 : clearsK 0 = false := by decide
theorem codes_not : ∀ i : Fin 111, kindK (codeC (i.val * 8) : Int) ≠ 1 ∧ kindK (codeC (i.val * 8) : Int) ≠ 0 := by decide +kernel
theorem codeC_8 {m : Nat} : codeC (m / 8 * 8) = codeC m := by unfold codeC; (repeat' split) <;> omega
theorem not_text {i : Nat} (h : i < 888) : kindK (pk i).code ≠ 1 := by
  have := (codes_not ⟨i / 8, by omega⟩).1
  simp only at this
  rw [codeC_8] at this
  exact this
theorem kind_code {c : Int} (h0 : kindK c ≠ 0) (h1 : kindK c ≠ 1) : c = 9 ∨ c = 13 ∨ c = 27 ∨ c = 127 ∨ (57348 ≤ c ∧ c ≤ 57454) := by
  refine Classical.byContradiction fun hn => ?_
  have h3 : letR c = 0 := by
    unfold letR
    repeat (first | rfl | rw [if_neg (by omega)])
  have h4 : numR c = 0 := by
    unfold numR
    repeat (first | rfl | rw [if_neg (by omega)])
  have hk : kindK c = restR c := by
    unfold kindK lookR
    rw [if_neg (by rw [h3]; simp), if_neg (by rw [h4]; simp), if_neg (by omega)]
  rw [hk] at h0 h1
  unfold restR at h0 h1
  repeat' split at h1
  all_goals first | omega | exact h0 (by repeat (first | rfl | rw [if_neg (by assumption)] | rw [if_pos (by assumption)])) | exact h1 rfl | skip
  all_goals sorry
theorem board_plain {m : Md} {k : Ky} (M : MayK k) (hk : kindK k.code ≠ 1) (ht : k.text = []) (h3 : k.type ≠ 3) : MayK ⟨k.code, k.mods % 8, 1, 0, 0, []⟩ ∧ boardK m 0 ⟨k.code, k.mods % 8, 1, 0, 0, []⟩ = boardK m 0 k := by
  have h0 := M.m0
  have M' : MayK ⟨k.code, k.mods % 8, 1, 0, 0, []⟩ := ⟨M.kind, by simp only; omega, by simp only; omega, by simp, by simp, .inl rfl, .inl rfl, ht ▸ M.tx⟩
  refine ⟨M', ?_⟩
  obtain ⟨a, b, c, d⟩ := has_low8 (m := k.mods % 8) (n := k.mods) (by omega) h0 (by omega)
  have hl : legK m ⟨k.code, k.mods % 8, 1, 0, 0, []⟩ = legK m k := by
    rw [leg_may M' (by simp), leg_may M h3]
    have e : formL m k = formL m { k with shifted := 0 } := by
      unfold formL
      rw [if_neg hk, if_neg hk]
      rfl
    rw [e]
    exact form_mods rfl rfl ht.symm (by simp only; omega) h0 (by simp only; omega)
  have ho : isO m.other ⟨k.code, k.mods % 8, 1, 0, 0, []⟩ = isO m.other k := by
    unfold isO
    rw [mayK_iff.2 M', mayK_iff.2 M, (bne_iff_ne (b := (3 : Int))).2 h3, show ((1 : Int) != 3) = true from rfl]
    have hlv : kindK k.code = 2 → lvO m.other ⟨k.code, k.mods % 8, 1, 0, 0, []⟩ = lvO m.other k := fun h2 => by
      simp only [lvO, fewO, allO, c, d, if_pos h2]
    by_cases h2 : kindK k.code = 2
    · rw [hlv h2]
    · have e1 : ((kindK k.code == 1) || (kindK k.code == 2)) = false := by simp [hk, h2]
      simp only [e1, Bool.false_and]
  have hs : othSq ⟨k.code, k.mods % 8, 1, 0, 0, []⟩ = othSq k := by
    unfold othSq charK
    rw [if_neg hk, if_neg hk, d]
  unfold boardK
  rw [hl, ho, hs, clears0]
  rfl
theorem pk_of {k : Ky} (M : MayK k) (hk : kindK k.code ≠ 1) : ∃ i < 888, pk i = ⟨k.code, k.mods % 8, 1, 0, 0, []⟩ := by
  have h0 := M.m0
  have key : ∀ j : Nat, j < 111 → (codeC (j * 8) : Int) = k.code → ∃ i < 888, pk i = ⟨k.code, k.mods % 8, 1, 0, 0, []⟩ := fun j hj e => by
    refine ⟨j * 8 + (k.mods % 8).toNat, by omega, ?_⟩
    have hq : codeC (j * 8 + (k.mods % 8).toNat) = codeC (j * 8) := by
      rw [← codeC_8 (m := j * 8 + (k.mods % 8).toNat)]
      congr 1; omega
    unfold pk
    rw [hq, e]
    simp only [Ky.mk.injEq, and_true, true_and]
    omega
  rcases kind_code M.kind hk with h | h | h | h | h
  · exact key 0 (by omega) (by rw [h]; rfl)
  · exact key 1 (by omega) (by rw [h]; rfl)
  · exact key 2 (by omega) (by rw [h]; rfl)
  · exact key 3 (by omega) (by rw [h]; rfl)
  · refine key ((k.code - 57348).toNat + 4) (by omega) ?_
    unfold codeC
    rw [if_neg (by omega), if_neg (by omega), if_neg (by omega), if_neg (by omega), if_pos (by omega)]
    omega
theorem back_plain {m : Md} {k : Ky} (M : MayK k) (hk : kindK k.code ≠ 1) (ht : k.text = []) : match backK m (boardK m 0 k) with
    | none => True
    | some j => kindK j.code ≠ 1 ∧ j.mods < 8 ∧ j.text = [] ∧ j.type = 1 := by
  unfold backK
  by_cases hb : boardK m 0 k = []
  · rw [if_pos hb]; trivial
  rw [if_neg hb]
  have h3 : k.type ≠ 3 := fun h => hb (by
    have := (board_types (m := m) (fl := 0) M (by decide)).2
    rw [show ({ k with type := 3 } : Ky) = k by rw [← h]] at this
    exact this)
  obtain ⟨M', e⟩ := board_plain (m := m) M hk ht h3
  obtain ⟨i, hi, hpk⟩ := pk_of M hk
  have hit : hitK m (boardK m 0 k) (pk i) = true := by
    unfold hitK
    rw [hpk, e, mayK_iff.2 M']; simp
  obtain ⟨j, y, hj, hy, _, hf⟩ := first_hit (cand_at (b := boardK m 0 k) (by omega)) hit
  rw [hf]
  rw [cand_at (by omega)] at hy
  cases hy
  refine ⟨not_text (by omega), ?_, rfl, rfl⟩
  simp only [pk]; omega
def no80 (b : List UInt8) : Bool := !(decide (b.headD 0 = 27) && decide ((b.drop 1).headD 0 = 80))
theorem no80_dcs {b : List UInt8} (h : no80 b = true) : dcsOk b := by
  intro h1 h2
  unfold no80 at h
  rw [h1, h2] at h
  exact absurd h (by decide)
theorem form80 : ∀ i : Fin 888, ∀ c kp bk ln : Bool, (no80 (formL ⟨c, kp, bk, false, false, false, ln, 0, 0, 0⟩ (pk i.val)) && decide ((formL ⟨c, kp, bk, false, false, false, ln, 0, 0, 0⟩ (pk i.val)).length ≤ 1000)) = true := by decide +kernel
theorem put80 {fl : Int} {nums : List Int} : no80 (putB (numSq 1 0 fl nums)) = true := rfl
theorem board_dcs {m : Md} {k : Ky} (M : MayK k) (hk : kindK k.code ≠ 1) (ht : k.text = []) : dcsOk (boardK m 0 k) ∧ (boardK m 0 k).length ≤ 1000 := by
  by_cases h3 : k.type = 3
  · have := (board_types (m := m) (fl := 0) M (by decide)).2
    rw [show ({ k with type := 3 } : Ky) = k by rw [← h3]] at this
    rw [this]
    exact ⟨no80_dcs (by decide), by simp⟩
  obtain ⟨M', e⟩ := board_plain (m := m) M hk ht h3
  obtain ⟨i, hi, hpk⟩ := pk_of M hk
  rw [← e, ← hpk]
  rw [← hpk] at M'
  unfold boardK
  rw [clears0]
  cases m.lock with
  | true => exact ⟨no80_dcs rfl, Nat.zero_le _⟩
  | false =>
    cases isO m.other (pk i) with
    | true => exact ⟨no80_dcs put80, Nat.le_trans (oth_len M') (by omega)⟩
    | false =>
      have : legK m (pk i) = formL ⟨m.cursor, m.keypad, m.back, false, false, false, m.line, 0, 0, 0⟩ (pk i) := leg_may M' (by simp [pk])
      rw [if_neg (by simp), if_neg (by simp), if_neg (by simp), this]
      have h := form80 ⟨i, hi⟩ m.cursor m.keypad m.back m.line
      simp only [Bool.and_eq_true, decide_eq_true_eq] at h
      exact ⟨no80_dcs h.1, h.2⟩
def md0 : Md := ⟨false, false, false, false, false, false, false, 0, 0, 0⟩
theorem wake1 : hitK md0 [9] (pk 0) = true := by decide +kernel
theorem wake2 : (∀ i : Fin 65, hitK md0 [27, 91, 49, 59, 50, 65] (pk i.val) = false) ∧ hitK md0 [27, 91, 49, 59, 50, 65] (pk 65) = true := by decide +kernel
theorem wake_back : backK md0 [9] = some (pk 0) ∧ backK md0 [27, 91, 49, 59, 50, 65] = some (pk 65) := by
  constructor
  · unfold backK
    rw [if_neg (by simp)]
    obtain ⟨j, y, hj, hy, _, hf⟩ := first_hit (cand_at (b := [9]) (i := 0) (by omega)) wake1
    obtain rfl : j = 0 := by omega
    rw [cand_at (by omega)] at hy
    rw [hf, ← hy]
  · unfold backK
    rw [if_neg (by simp)]
    obtain ⟨j, y, hj, hy, hp, hf⟩ := first_hit (cand_at (b := [27, 91, 49, 59, 50, 65]) (i := 65) (by omega)) wake2.2
    rw [cand_at (by omega)] at hy
    cases hy
    rcases Nat.lt_or_ge j 65 with h | h
    · have := wake2.1 ⟨j, h⟩
      simp only at this
      rw [hp] at this; cases this
    · obtain rfl : j = 65 := by omega
      rw [hf]
theorem wake_same : sameB md0 ⟨9, 0, 1, 0, 0, []⟩ ⟨105, 4, 1, 0, 0, []⟩ = true ∧ sameB { md0 with other := 2 } ⟨9, 0, 1, 0, 0, []⟩ ⟨105, 4, 1, 0, 0, []⟩ = false := by decide +kernel
end Go.Proofs.YtjankibepgnbfaaGreatDoor

namespace Go.Proofs.YtjankibepgnbfaaGreatDoor
open Go Go.Ab

def fromC (i : Nat) : Nat := if i = 0 then 9 else if i = 1 then 13 else if i = 2 then 27 else if i = 3 then 127 else if i = 4 then 57348 else 32
def manyC (i : Nat) : Nat := if i < 4 then 1 else if i = 4 then 107 else 95
def offC (i : Nat) : Nat := if i ≤ 4 then 8 * i else if i = 5 then 888 else 1648
def spansAV : List AV := [.int .i64 9, .int .i64 9, .int .i64 13, .int .i64 13, .int .i64 27, .int .i64 27, .int .i64 127, .int .i64 127, .int .i64 57348, .int .i64 57454, .int .i64 32, .int .i64 126]
theorem spans_at : ∀ i : Fin 6, ((spansAV.drop (i.val * 2)).take 2) = [.int .i64 (fromC i.val : Int), .int .i64 ((fromC i.val + manyC i.val - 1 : Nat) : Int)] := by
  intro ⟨i, h⟩
  have : i = 0 ∨ i = 1 ∨ i = 2 ∨ i = 3 ∨ i = 4 ∨ i = 5 := by omega
  rcases this with rfl | rfl | rfl | rfl | rfl | rfl <;> rfl
theorem off_next {i : Nat} (h : i < 6) : offC (i + 1) = offC i + 8 * manyC i ∧ 1 ≤ manyC i ∧ manyC i ≤ 107 ∧ fromC i ≤ 57348 := by
  unfold offC manyC fromC
  have : i = 0 ∨ i = 1 ∨ i = 2 ∨ i = 3 ∨ i = 4 ∨ i = 5 := by omega
  rcases this with rfl | rfl | rfl | rfl | rfl | rfl <;> decide
theorem pk_off {i j n : Nat} (h : i < 6) (hj : j < manyC i) (hn : n < 8) : offC i + 8 * j + n < 1648 ∧ pk (offC i + 8 * j + n) = ⟨((fromC i + j : Nat) : Int), (n : Int), 1, 0, 0, []⟩ := by
  have hb : offC i + 8 * j + n < 1648 := by
    unfold offC; unfold manyC at hj
    repeat' split at hj
    all_goals repeat' split
    all_goals omega
  refine ⟨hb, ?_⟩
  have h8 : (offC i + 8 * j + n) % 8 = n := by
    unfold offC
    repeat' split
    all_goals omega
  have hc : codeC (offC i + 8 * j + n) = fromC i + j := by
    have : i = 0 ∨ i = 1 ∨ i = 2 ∨ i = 3 ∨ i = 4 ∨ i = 5 := by omega
    rcases this with rfl | rfl | rfl | rfl | rfl | rfl
    all_goals
      simp only [offC, fromC, manyC] at *
      simp only [Nat.reduceLeDiff, Nat.reduceEqDiff, ↓reduceIte, Nat.reduceLT, Nat.reduceMul] at *
      unfold codeC
      repeat' split
      all_goals omega
  unfold pk
  rw [h8, hc]
theorem fs_spans {Gl : Gh → Prop} (hst : Stays Gl) : FS Tryz.prog Gl 52 [] [] [] (.agg spansAV) [] [] := by
  refine FS.ofW hm hst is_backspans rfl (by simp) fun γ hγ hfr => ?_
  (generalize hQ : (fun (ex : Ex) (_ _ : Nat) (s : St) => _) = Q; unfold ir_backspans)
  simp +contextual (maxSteps := 1000000) only [go_sem, reduceCtorEq, ↓reduceIte, Nat.reduceAdd, Nat.reduceEqDiff, Nat.reduceLeDiff, Nat.reduceMul, Nat.reduceBEq, Int.reduceBEq, Int.reduceBNe, Int.reduceLT, Int.reduceLE, Int.reduceGT, Int.reduceGE, Int.reduceToNat]
  rw [← hQ]
  refine ⟨trivial, .inl ⟨.agg spansAV, ?_, RepLe.refl _⟩⟩
  simp [resOf, getAll, IRes.get, lf, getH, spansAV]
theorem cand_tail {b : List UInt8} (i : Nat) : (candK b)[1648 + i]? = ((txtC b).filterMap fun p => if p.1 = true then some p.2 else none)[i]? := by
  unfold candK
  rw [List.getElem?_append_right (by simp)]
  congr 1; simp
theorem cand_t0 (b : List UInt8) : (candK b)[1648]? = some ⟨97, 0, 1, 0, 0, b⟩ := by
  rw [show 1648 = 1648 + 0 from rfl, cand_tail]; rfl
theorem cand_t1 {b : List UInt8} (h : altB b = true) : (candK b)[1649]? = some ⟨97, 2, 1, 0, 0, restB b⟩ := by
  rw [show 1649 = 1648 + 1 from rfl, cand_tail]
  simp [txtC, h]
theorem cand_t2 {b : List UInt8} (h : (backO b).2.2 = true) : (candK b)[if altB b = true then 1650 else 1649]? = some ⟨(backO b).1, (backO b).2.1, 1, shiftB b, 0, []⟩ := by
  cases ha : altB b with
  | true => rw [if_pos rfl, show 1650 = 1648 + 2 from rfl, cand_tail]; simp [txtC, h, ha]
  | false => rw [if_neg (by simp), show 1649 = 1648 + 1 from rfl, cand_tail]; simp [txtC, h, ha]
def posT (b : List UInt8) : Nat := if (backO b).2.2 = true then (if altB b = true then 1650 else 1649) + 1 else if altB b = true then 1650 else 1649
theorem cand_t3 {b : List UInt8} (h : altB b = true) : (candK b)[posT b]? = some ⟨57399, 2, 1, 0, 0, restB b⟩ := by
  unfold posT
  cases ho : (backO b).2.2 with
  | true => rw [if_pos rfl, if_pos h, show 1650 + 1 = 1648 + 3 from rfl, cand_tail]; simp [txtC, h, ho]
  | false => rw [if_neg (by simp), if_pos h, show 1650 = 1648 + 2 from rfl, cand_tail]; simp [txtC, h, ho]
theorem cand_len (b : List UInt8) : (candK b).length = if altB b = true then posT b + 1 else posT b := by
  unfold candK posT
  rw [List.length_append, List.length_map, List.length_range]
  cases ha : altB b <;> cases ho : (backO b).2.2 <;> simp [txtC, ha, ho]
theorem FSX.mono {P : Program} {Gl : Gh → Prop} {k : FuncId} {args : List AV} {H0 : Hp} {T0 : Tk} {R R' : Hp → Tk → Prop} (h : FSX P Gl k args H0 T0 R) (hR : ∀ H T, R H T → R' H T) : FSX P Gl k args H0 T0 R' :=
  ⟨h.1, fun g w vs Gm a b c d e => (h.2 g w vs Gm a b c d e).mono fun _ _ ⟨v, g', H1, T1, k1, k2⟩ => ⟨v, g', H1, T1, hR _ _ k1, k2⟩⟩
set_option maxHeartbeats 8000000 in
theorem it_cands {Gl : Gh → Prop} {b : List UInt8} {a a4 a3 : Nm} (n1 : a ≠ a4) (n2 : a ≠ a3) (n3 : a4 ≠ a3) (hb : b.length ≤ 1000000000) (hd : dcsOk b) :
    IterS Tryz.prog Gl 50 [.ptr a 0, .ptr a4 0, .ptr a3 0] [(a4, .cells [.bool (altB b)]), (a3, .cells [.sl none 1 (bytesAV (restB b))]), (a, .cells [.sl none 1 (bytesAV b)])] ((candK b).map fun k => [.agg (kyAV k)]) := by
  intro Gl' hst hG id J Jx hJid hround H T hJ
  refine FSX.of hm hst is_backcandidates1 (by simp) fun γ hγ hfr => ?_
  obtain ⟨S, hS⟩ : ∃ S : Bool → Nat → Hp → Tk → Prop, S = fun on pos Hj Tj => (on = true ∧ J pos Hj Tj) ∨ (on = false ∧ Jx Hj Tj) := ⟨_, rfl⟩
  have hag : a.1 ≠ γ := hfr.1 (a, .cells [.sl none 1 (bytesAV b)]) (by simp)
  have hag4 : a4.1 ≠ γ := hfr.1 (a4, .cells [.bool (altB b)]) (by simp)
  have hag3 : a3.1 ≠ γ := hfr.1 (a3, .cells [.sl none 1 (bytesAV (restB b))]) (by simp)
  have s0 : ∀ (i j : Nat) hb, setH H (γ, i, j) hb = H := fun i j hb => setH_ne fun q hq e => hfr.1 q (by simp [hq]) (by rw [e])
  have f1 : ∀ i j, (a = ((γ, i, j) : Nm)) = False := fun i j => eq_false fun e => hag (by rw [e])
  have f2 : ∀ i j, (a4 = ((γ, i, j) : Nm)) = False := fun i j => eq_false fun e => hag4 (by rw [e])
  have f3 : ∀ i j, (a3 = ((γ, i, j) : Nm)) = False := fun i j => eq_false fun e => hag3 (by rw [e])
  have g1 : ∀ i j, (((γ, i, j) : Nm) = a) = False := fun i j => eq_false fun e => hag (by rw [← e])
  have g2 : ∀ i j, (((γ, i, j) : Nm) = a4) = False := fun i j => eq_false fun e => hag4 (by rw [← e])
  have g3 : ∀ i j, (((γ, i, j) : Nm) = a3) = False := fun i j => eq_false fun e => hag3 (by rw [← e])
  have n1' : (a = a4) = False := eq_false n1
  have n2' : (a = a3) = False := eq_false n2
  have n3' : (a4 = a3) = False := eq_false n3
  have m1' : (a4 = a) = False := eq_false fun e => n1 e.symm
  have m2' : (a3 = a) = False := eq_false fun e => n2 e.symm
  have m3' : (a3 = a4) = False := eq_false fun e => n3 e.symm
  obtain ⟨Ap, hAp⟩ : ∃ Ap : Hp → Prop, Ap = fun Hj => ∀ q ∈ Hj, q.1 ≠ a4 ∧ q.1 ≠ a3 ∧ q.1 ≠ a ∧ q.1 ≠ ((γ, 1, 0) : Nm) ∧ q.1 ≠ ((γ, 0, 0) : Nm) := ⟨_, rfl⟩
  have hAp0 : Ap H := by
    rw [hAp]
    intro q hq
    have := hJid 0 H T hJ
    exact ⟨this (a4, .cells [.bool (altB b)]) (by simp) q hq, this (a3, .cells [.sl none 1 (bytesAV (restB b))]) (by simp) q hq, this (a, .cells [.sl none 1 (bytesAV b)]) (by simp) q hq, fun e => hfr.1 q (by simp [hq]) (by rw [e]), fun e => hfr.1 q (by simp [hq]) (by rw [e])⟩
  obtain ⟨Hc, hHc⟩ : ∃ Hc : Hp, Hc = [(a4, .cells [.bool (altB b)]), (a3, .cells [.sl none 1 (bytesAV (restB b))]), (a, .cells [.sl none 1 (bytesAV b)])] := ⟨_, rfl⟩
  have tr : ∀ (is : Bool) (k : Ky) (pos : Nat) (on : Bool) (Hj : Hp) (Tj : Tk), (is = true → (candK b)[pos]? = some { k with type := 1 }) → S on pos Hj Tj → Ap Hj →
      FSX Tryz.prog Gl' 51 [.bool is, .agg (kyAV k), .ptr (γ, 1, 0) 0, .ptr (γ, 0, 0) 0] ([((γ, 1, 0), .cells [.bool on]), ((γ, 0, 0), .cells [.yl id])] ++ Hj) Tj fun H' T' => ∃ on' H2, H' = [((γ, 1, 0), .cells [.bool on']), ((γ, 0, 0), .cells [.yl id])] ++ H2 ∧ (∀ q ∈ H2, q.1 ≠ ((γ, 1, 0) : Nm) ∧ q.1 ≠ ((γ, 0, 0) : Nm)) ∧ S on' (if is = true then pos + 1 else pos) H2 T' := by
    intro is k pos on Hj Tj hk hs ha
    rw [hAp] at ha
    refine FSX.mono (fx_try (R1 := fun H' T' => J (pos + 1) H' T') (R2 := Jx) hst (by simp) (fun q hq => ⟨(ha q hq).2.2.2.1, (ha q hq).2.2.2.2⟩) fun e1 e2 => ?_) ?_
    · subst e1
      rw [hS] at hs
      rcases hs with ⟨_, hs⟩ | ⟨e, _⟩
      · exact hround pos _ Hj Tj (by rw [List.getElem?_map, hk e2]; rfl) hs
      · cases e
    · rintro H' T' ⟨on', H2, rfl, h2, h3⟩
      refine ⟨on', H2, rfl, h2, ?_⟩
      rw [hS] at hs ⊢
      rcases h3 with ⟨rfl, rfl, h3⟩ | ⟨h3, rfl, rfl, rfl⟩
      · exact h3
      · rcases hs with ⟨rfl, hs⟩ | ⟨rfl, hs⟩
        · rw [if_neg (fun e => h3 ⟨rfl, e⟩)]
          exact .inl ⟨rfl, hs⟩
        · exact .inr ⟨rfl, hs⟩
  (generalize hQ : (fun (ex : Ex) (_ _ : Nat) (s : St) => _) = Q; unfold ir_backcandidates1)
  simp +contextual (maxSteps := 1000000) only [f1, f2, f3, s0, go_sem, reduceCtorEq, ↓reduceIte, Nat.reduceAdd, Nat.reduceEqDiff, Nat.reduceLeDiff, Nat.reduceMul, Nat.reduceBEq, Int.reduceBEq, Int.reduceBNe, Int.reduceLT, Int.reduceLE, Int.reduceGT, Int.reduceGE, Int.reduceToNat]
  (refine CallP.pure (fs_spans hst) (fun _ => rfl) ?_; simp +contextual (maxSteps := 1000000) only [go_sem, reduceCtorEq, ↓reduceIte, Nat.reduceAdd, Nat.reduceEqDiff, Nat.reduceLeDiff, Nat.reduceMul, Nat.reduceBEq, Int.reduceBEq, Int.reduceBNe, Int.reduceLT, Int.reduceLE, Int.reduceGT, Int.reduceGE, Int.reduceToNat])
  refine kLoop_ix (fun q : Nat × Bool × Hp × Tk => ⟨lf [(1, .ptr a 0), (2, .ptr a4 0), (3, .ptr a3 0), (5, .ptr (γ, 1, 0) 0), (6, .fn (.func 51) [] [.ptr (γ, 1, 0) 0, .ptr (γ, 0, 0) 0]), (15, .agg spansAV), (16, .int .i64 (q.1 : Int))], [(a4, .cells [.bool (altB b)]), (a3, .cells [.sl none 1 (bytesAV (restB b))]), (a, .cells [.sl none 1 (bytesAV b)])] ++ ([((γ, 1, 0), .cells [.bool q.2.1]), ((γ, 0, 0), .cells [.yl id])] ++ q.2.2.1), q.2.2.2⟩)
    (fun q => q.1 ≤ 6 ∧ S q.2.1 (offC q.1) q.2.2.1 q.2.2.2 ∧ Ap q.2.2.1) (fun q => 6 - q.1) 0 (0, true, H, T) (Wk.perm ?_ fun p hp => ?_) ⟨by simp, by rw [hS]; exact .inl ⟨rfl, hJ⟩, hAp0⟩ ?_
  · repeat' first | exact AVle.refl _ _ | exact trivial | refine And.intro ?_ ?_ | exact AVle.int (by simp only [IntKind.wrap_i64]; omega)
  · simp only [List.cons_append, List.nil_append, List.mem_cons] at hp ⊢
    rcases hp with h | h | h | h | h | h <;> simp [h]
  rintro γ' ⟨i, on, Hj, Tj⟩ hf ⟨hi, hs, ha⟩
  simp only at hi hs ha
  generalize hQ' : kIt _ _ _ _ _ = Q'
  unfold ir_backcandidates1_l2
  by_cases hlt : i < 6
  · have hdl : decide ((i : Int) < 6) = true := decide_eq_true (by omega)
    have hsp := spans_at ⟨i, hlt⟩
    simp only at hsp
    obtain ⟨ho1, ho2, ho3, ho4⟩ := off_next hlt
    have hge : ∀ q ∈ Hj, q.1.1 ≠ γ' := fun q hq => hf.2.1 q (by simp [hq])
    have ha1 : a.1 ≠ γ' := hf.2.1 (a, .cells [.sl none 1 (bytesAV b)]) (by simp)
    have ha2 : a4.1 ≠ γ' := hf.2.1 (a4, .cells [.bool (altB b)]) (by simp)
    have ha3 : a3.1 ≠ γ' := hf.2.1 (a3, .cells [.sl none 1 (bytesAV (restB b))]) (by simp)
    have hgg : γ ≠ γ' := hf.2.1 ((γ, 1, 0), .cells [.bool on]) (by simp)
    have k1 : ∀ i j, (a = ((γ', i, j) : Nm)) = False := fun i j => eq_false fun e => ha1 (by rw [e])
    have k2 : ∀ i j, (a4 = ((γ', i, j) : Nm)) = False := fun i j => eq_false fun e => ha2 (by rw [e])
    have k3 : ∀ i j, (a3 = ((γ', i, j) : Nm)) = False := fun i j => eq_false fun e => ha3 (by rw [e])
    have k4 : (γ = γ') = False := eq_false hgg
    have k5 : (γ' = γ) = False := eq_false fun e => hgg e.symm
    have sj : ∀ (i j : Nat) hb, setH Hj (γ', i, j) hb = Hj := fun i j hb => setH_ne fun q hq e => hge q hq (by rw [e])
    have hlen2 : 2 ≤ (List.drop (i * 2) spansAV).length := by rw [List.length_drop]; simp [spansAV]; omega
    simp +contextual (maxSteps := 1000000) only [hdl, hsp, k1, k2, k3, k4, k5, sj, false_and, Int.toNat_natCast, go_sem, reduceCtorEq, ↓reduceIte, Nat.reduceAdd, Nat.reduceEqDiff, Nat.reduceLeDiff, Nat.reduceMul, Nat.reduceBEq, Int.reduceBEq, Int.reduceBNe, Int.reduceLT, Int.reduceLE, Int.reduceGT, Int.reduceGE, Int.reduceToNat]
    refine ⟨⟨by omega, by omega, hlen2⟩, ?_⟩
    refine kLoop_ix (fun q : Nat × Bool × Hp × Tk => ⟨lf [(1, .ptr a 0), (2, .ptr a4 0), (3, .ptr a3 0), (5, .ptr (γ, 1, 0) 0), (6, .fn (.func 51) [] [.ptr (γ, 1, 0) 0, .ptr (γ, 0, 0) 0]), (8, .ptr (γ', 2, 0) 0), (9, .int .i64 ((fromC i + q.1 : Nat) : Int)), (15, .agg spansAV), (16, .int .i64 (i : Int))], [((γ', 2, 0), .cells [.int .i64 (fromC i : Int), .int .i64 ((fromC i + manyC i - 1 : Nat) : Int)]), (a4, .cells [.bool (altB b)]), (a3, .cells [.sl none 1 (bytesAV (restB b))]), (a, .cells [.sl none 1 (bytesAV b)])] ++ ([((γ, 1, 0), .cells [.bool q.2.1]), ((γ, 0, 0), .cells [.yl id])] ++ q.2.2.1), q.2.2.2⟩)
      (fun q => q.1 ≤ manyC i ∧ S q.2.1 (offC i + 8 * q.1) q.2.2.1 q.2.2.2 ∧ Ap q.2.2.1 ∧ ∀ p ∈ q.2.2.1, p.1 ≠ ((γ', 2, 0) : Nm)) (fun q => manyC i - q.1) 0 (0, on, Hj, Tj) (Wk.same ?_) ⟨by simp, hs, ha, fun p hp e => hge p hp (by rw [e])⟩ ?_
    · repeat' first | exact AVle.refl _ _ | exact trivial | refine And.intro ?_ ?_ | exact AVle.int (by simp only [IntKind.wrap_i64]; omega)
    rintro γ1 ⟨j, on1, H1, T1⟩ hf1 ⟨hj, hs1, ha1', hne1⟩
    simp only at hj hs1 ha1' hne1
    generalize hQ1 : kIt _ _ _ _ _ = Q1
    have hSf : ∀ p p' H T, S false p H T → S false p' H T := fun p p' H T h => by
      rw [hS] at h ⊢
      rcases h with ⟨e, _⟩ | h
      · cases e
      · exact .inr h
    have fin1 : S on1 (offC (i + 1)) H1 T1 → ∀ (γ0 c : Nat) (F : Nat → AV), F 1 = .ptr a 0 → F 2 = .ptr a4 0 → F 3 = .ptr a3 0 → F 5 = .ptr (γ, 1, 0) 0 → F 6 = .fn (.func 51) [] [.ptr (γ, 1, 0) 0, .ptr (γ, 0, 0) 0] → F 15 = .agg spansAV → F 16 = .int .i64 (i : Int) →
        Q1 (.exit 2) γ0 c ⟨F, [((γ', 2, 0), .cells [.int .i64 (fromC i : Int), .int .i64 ((fromC i + manyC i - 1 : Nat) : Int)]), (a4, .cells [.bool (altB b)]), (a3, .cells [.sl none 1 (bytesAV (restB b))]), (a, .cells [.sl none 1 (bytesAV b)])] ++ ([((γ, 1, 0), .cells [.bool on1]), ((γ, 0, 0), .cells [.yl id])] ++ H1), T1⟩ := by
      intro hS1 γ0 c F q1 q2 q3 q5 q6 q15 q16
      rw [← hQ1]
      simp only [w_kIt_e, w_kBlk_e, ↓reduceIte]
      simp +contextual (maxSteps := 1000000) only [q1, q2, q3, q5, q6, q15, q16, go_sem, reduceCtorEq, ↓reduceIte, Nat.reduceAdd, Nat.reduceEqDiff, Nat.reduceLeDiff, Nat.reduceMul, Nat.reduceBEq, Int.reduceBEq, Int.reduceBNe, Int.reduceLT, Int.reduceLE, Int.reduceGT, Int.reduceGE, Int.reduceToNat]
      rw [← hQ']
      simp only [w_kIt_n]
      refine ⟨0, (i + 1, on1, H1, T1), Wk.perm ?_ (fun p hp => List.mem_cons_of_mem _ hp), ⟨by simp only; omega, hS1, ha1'⟩, by simp only; omega⟩
      repeat' first | exact AVle.refl _ _ | exact trivial | refine And.intro ?_ ?_ | exact AVle.int (by simp only [IntKind.wrap_i64]; omega)
    unfold ir_backcandidates1_l1
    cases on1 with
    | false =>
      have hs2 := hSf _ (offC (i + 1)) _ _ hs1
      cases hdc : decide (((fromC i + j : Nat) : Int) ≤ ((fromC i + manyC i - 1 : Nat) : Int)) with
      | false =>
        simp +contextual (maxSteps := 1000000) only [hdc, k1, k2, k3, k4, k5, false_and, go_sem, reduceCtorEq, ↓reduceIte, Nat.reduceAdd, Nat.reduceEqDiff, Nat.reduceLeDiff, Nat.reduceMul, Nat.reduceBEq, Int.reduceBEq, Int.reduceBNe, Int.reduceLT, Int.reduceLE, Int.reduceGT, Int.reduceGE, Int.reduceToNat]
        exact fin1 hs2 _ _ _ rfl rfl rfl rfl rfl rfl rfl
      | true =>
        simp +contextual (maxSteps := 1000000) only [hdc, f1, f2, f3, k1, k2, k3, k4, k5, false_and, go_sem, reduceCtorEq, ↓reduceIte, Nat.reduceAdd, Nat.reduceEqDiff, Nat.reduceLeDiff, Nat.reduceMul, Nat.reduceBEq, Int.reduceBEq, Int.reduceBNe, Int.reduceLT, Int.reduceLE, Int.reduceGT, Int.reduceGE, Int.reduceToNat]
        exact fin1 hs2 _ _ _ rfl rfl rfl rfl rfl rfl rfl
    | true =>
      by_cases hlt1 : j < manyC i
      · have hdc : decide (((fromC i + j : Nat) : Int) ≤ ((fromC i + manyC i - 1 : Nat) : Int)) = true := decide_eq_true (by omega)
        have hwc : IntKind.i64.wrap (((fromC i + j : Nat) : Int) + 1) = ((fromC i + (j + 1) : Nat) : Int) := by rw [IntKind.wrap_i64]; omega
        simp +contextual (maxSteps := 1000000) only [hdc, f1, f2, f3, k1, k2, k3, k4, k5, false_and, go_sem, reduceCtorEq, ↓reduceIte, Nat.reduceAdd, Nat.reduceEqDiff, Nat.reduceLeDiff, Nat.reduceMul, Nat.reduceBEq, Int.reduceBEq, Int.reduceBNe, Int.reduceLT, Int.reduceLE, Int.reduceGT, Int.reduceGE, Int.reduceToNat]
        refine kLoop_ix (fun q : Nat × Bool × Hp × Tk => ⟨lf [(1, .ptr a 0), (2, .ptr a4 0), (3, .ptr a3 0), (5, .ptr (γ, 1, 0) 0), (6, .fn (.func 51) [] [.ptr (γ, 1, 0) 0, .ptr (γ, 0, 0) 0]), (8, .ptr (γ', 2, 0) 0), (9, .int .i64 ((fromC i + j : Nat) : Int)), (15, .agg spansAV), (16, .int .i64 (i : Int)), (30, .int .i64 (q.1 : Int))], [((γ', 2, 0), .cells [.int .i64 (fromC i : Int), .int .i64 ((fromC i + manyC i - 1 : Nat) : Int)]), (a4, .cells [.bool (altB b)]), (a3, .cells [.sl none 1 (bytesAV (restB b))]), (a, .cells [.sl none 1 (bytesAV b)])] ++ ([((γ, 1, 0), .cells [.bool q.2.1]), ((γ, 0, 0), .cells [.yl id])] ++ q.2.2.1), q.2.2.2⟩)
          (fun q => q.1 ≤ 8 ∧ S q.2.1 (offC i + 8 * j + q.1) q.2.2.1 q.2.2.2 ∧ Ap q.2.2.1 ∧ ∀ p ∈ q.2.2.1, p.1 ≠ ((γ', 2, 0) : Nm)) (fun q => 8 - q.1) 0 (0, true, H1, T1) (Wk.same ?_) ⟨by simp, hs1, ha1', hne1⟩ ?_
        · repeat' first | exact AVle.refl _ _ | exact trivial | refine And.intro ?_ ?_ | exact AVle.int (by simp only [IntKind.wrap_i64]; omega)
        rintro γ2 ⟨n, on2, H2, T2⟩ hf2 ⟨hn, hs2, ha2', hne2⟩
        simp only at hn hs2 ha2' hne2
        generalize hQ2 : kIt _ _ _ _ _ = Q2
        unfold ir_backcandidates1_l0
        by_cases hlt2 : n < 8
        · have hdn : decide ((n : Int) < 8) = true := decide_eq_true (by omega)
          obtain ⟨hp1, hp2⟩ := pk_off hlt hlt1 hlt2
          have hwn : IntKind.i64.wrap ((n : Int) + 1) = ((n + 1 : Nat) : Int) := by rw [IntKind.wrap_i64]; omega
          have ha2 := ha2'
          rw [hAp] at ha2
          simp +contextual (maxSteps := 1000000) only [hdn, go_sem, reduceCtorEq, ↓reduceIte, Nat.reduceAdd, Nat.reduceEqDiff, Nat.reduceLeDiff, Nat.reduceMul, Nat.reduceBEq, Int.reduceBEq, Int.reduceBNe, Int.reduceLT, Int.reduceLE, Int.reduceGT, Int.reduceGE, Int.reduceToNat]
          refine CallP.splitX (Ha := [((γ', 2, 0), .cells [.int .i64 (fromC i : Int), .int .i64 ((fromC i + manyC i - 1 : Nat) : Int)]), (a4, .cells [.bool (altB b)]), (a3, .cells [.sl none 1 (bytesAV (restB b))]), (a, .cells [.sl none 1 (bytesAV b)])]) (tr true ⟨((fromC i + j : Nat) : Int), (n : Int), 0, 0, 0, []⟩ (offC i + 8 * j + n) on2 H2 T2 (fun _ => by rw [cand_at hp1, hp2]) hs2 ha2') (fun p hp q hq => ?_) ?_
          · simp only [List.mem_cons, List.not_mem_nil, or_false] at hp
            simp only [List.cons_append, List.nil_append, List.mem_cons] at hq
            rcases hp with rfl | rfl | rfl | rfl <;> rcases hq with rfl | rfl | hq
            · simp [hgg]
            · simp [hgg]
            · exact hne2 q hq
            · simp [g2]
            · simp [g2]
            · exact (ha2 q hq).1
            · simp [g3]
            · simp [g3]
            · exact (ha2 q hq).2.1
            · simp [g1]
            · simp [g1]
            · exact (ha2 q hq).2.2.1
          · rintro H3 T3 ⟨on3, H4, rfl, hap4, hS4⟩ hN
            simp +contextual (maxSteps := 1000000) only [hwn, go_sem, reduceCtorEq, ↓reduceIte, Nat.reduceAdd, Nat.reduceEqDiff, Nat.reduceLeDiff, Nat.reduceMul, Nat.reduceBEq, Int.reduceBEq, Int.reduceBNe, Int.reduceLT, Int.reduceLE, Int.reduceGT, Int.reduceGE, Int.reduceToNat]
            rw [← hQ2]
            simp only [w_kIt_n]
            refine ⟨0, (n + 1, on3, H4, T3), Wk.same ?_, ⟨by simp only; omega, hS4, ?_, fun p hp => hN _ List.mem_cons_self p (by simp [hp])⟩, by simp only; omega⟩
            · repeat' first | exact AVle.refl _ _ | exact trivial | refine And.intro ?_ ?_ | exact AVle.int (by simp only [IntKind.wrap_i64]; omega)
            · rw [hAp]
              intro q hq
              exact ⟨hN (a4, .cells [.bool (altB b)]) (by simp) q (by simp [hq]), hN (a3, .cells [.sl none 1 (bytesAV (restB b))]) (by simp) q (by simp [hq]), hN (a, .cells [.sl none 1 (bytesAV b)]) (by simp) q (by simp [hq]), (hap4 q hq).1, (hap4 q hq).2⟩
        · have hn8 : n = 8 := by omega
          subst hn8
          have hdn : decide (((8 : Nat) : Int) < 8) = false := by simp
          simp +contextual (maxSteps := 1000000) only [hdn, go_sem, reduceCtorEq, ↓reduceIte, Nat.reduceAdd, Nat.reduceEqDiff, Nat.reduceLeDiff, Nat.reduceMul, Nat.reduceBEq, Int.reduceBEq, Int.reduceBNe, Int.reduceLT, Int.reduceLE, Int.reduceGT, Int.reduceGE, Int.reduceToNat]
          rw [← hQ2]
          simp only [w_kIt_e, w_kBlk_e, ↓reduceIte]
          simp +contextual (maxSteps := 1000000) only [go_sem, reduceCtorEq, ↓reduceIte, Nat.reduceAdd, Nat.reduceEqDiff, Nat.reduceLeDiff, Nat.reduceMul, Nat.reduceBEq, Int.reduceBEq, Int.reduceBNe, Int.reduceLT, Int.reduceLE, Int.reduceGT, Int.reduceGE, Int.reduceToNat]
          rw [← hQ1]
          simp only [w_kIt_n]
          refine ⟨0, (j + 1, on2, H2, T2), Wk.same ?_, ⟨by simp only; omega, ?_, ha2', hne2⟩, by simp only; omega⟩
          · rw [hwc]
            repeat' first | exact AVle.refl _ _ | exact trivial | refine And.intro ?_ ?_ | exact AVle.int (by simp only [IntKind.wrap_i64]; omega)
          · simp only
            rw [show offC i + 8 * (j + 1) = offC i + 8 * j + 8 by omega]
            exact hs2
      · have hjm : j = manyC i := by omega
        have hdc : decide (((fromC i + j : Nat) : Int) ≤ ((fromC i + manyC i - 1 : Nat) : Int)) = false := decide_eq_false (by omega)
        simp +contextual (maxSteps := 1000000) only [hdc, k1, k2, k3, k4, k5, false_and, go_sem, reduceCtorEq, ↓reduceIte, Nat.reduceAdd, Nat.reduceEqDiff, Nat.reduceLeDiff, Nat.reduceMul, Nat.reduceBEq, Int.reduceBEq, Int.reduceBNe, Int.reduceLT, Int.reduceLE, Int.reduceGT, Int.reduceGE, Int.reduceToNat]
        refine fin1 ?_ _ _ _ rfl rfl rfl rfl rfl rfl rfl
        rw [ho1, ← hjm]
        exact hs1
  · have hi6 : i = 6 := by omega
    subst hi6
    have hdl : decide (((6 : Nat) : Int) < 6) = false := by simp
    simp +contextual (maxSteps := 1000000) only [hdl, go_sem, reduceCtorEq, ↓reduceIte, Nat.reduceAdd, Nat.reduceEqDiff, Nat.reduceLeDiff, Nat.reduceMul, Nat.reduceBEq, Int.reduceBEq, Int.reduceBNe, Int.reduceLT, Int.reduceLE, Int.reduceGT, Int.reduceGE, Int.reduceToNat]
    rw [← hQ']
    simp only [w_kIt_e, w_kBlk_e, ↓reduceIte]
    have hcb := fs_oBackG (Gl := Gl') hst (b := b) (tb := none) (by omega) hd
    have apart : ∀ Hj on, Ap Hj → ∀ p ∈ ([(a4, .cells [.bool (altB b)]), (a3, .cells [.sl none 1 (bytesAV (restB b))]), (a, .cells [.sl none 1 (bytesAV b)])] : Hp), ∀ q ∈ [(((γ, 1, 0) : Nm), HB.cells [.bool on]), (((γ, 0, 0) : Nm), .cells [.yl id])] ++ Hj, q.1 ≠ p.1 := by
      intro Hj on ha p hp q hq
      rw [hAp] at ha
      simp only [List.mem_cons, List.not_mem_nil, or_false] at hp
      simp only [List.cons_append, List.nil_append, List.mem_cons] at hq
      rcases hp with rfl | rfl | rfl <;> rcases hq with rfl | rfl | hq
      · simp [g2]
      · simp [g2]
      · exact (ha q hq).1
      · simp [g3]
      · simp [g3]
      · exact (ha q hq).2.1
      · simp [g1]
      · simp [g1]
      · exact (ha q hq).2.2.1
    have back : ∀ (on' : Bool) (H2 : Hp), (∀ q ∈ H2, q.1 ≠ ((γ, 1, 0) : Nm) ∧ q.1 ≠ ((γ, 0, 0) : Nm)) → (∀ p ∈ ([(a4, .cells [.bool (altB b)]), (a3, .cells [.sl none 1 (bytesAV (restB b))]), (a, .cells [.sl none 1 (bytesAV b)])] : Hp), ∀ q ∈ [(((γ, 1, 0) : Nm), HB.cells [.bool on']), (((γ, 0, 0) : Nm), .cells [.yl id])] ++ H2, q.1 ≠ p.1) → Ap H2 := by
      intro on' H2 h1 hN
      rw [hAp]
      intro q hq
      exact ⟨hN (a4, .cells [.bool (altB b)]) (by simp) q (by simp [hq]), hN (a3, .cells [.sl none 1 (bytesAV (restB b))]) (by simp) q (by simp [hq]), hN (a, .cells [.sl none 1 (bytesAV b)]) (by simp) q (by simp [hq]), (h1 q hq).1, (h1 q hq).2⟩
    simp +contextual (maxSteps := 1000000) only [f1, f2, f3, n1', n2', n3', m1', m2', m3', go_sem, reduceCtorEq, ↓reduceIte, Nat.reduceAdd, Nat.reduceEqDiff, Nat.reduceLeDiff, Nat.reduceMul, Nat.reduceBEq, Int.reduceBEq, Int.reduceBNe, Int.reduceLT, Int.reduceLE, Int.reduceGT, Int.reduceGE, Int.reduceToNat]
    (refine CallP.pure (hcb) (fun _ => rfl) ?_; simp +contextual (maxSteps := 1000000) only [f1, f2, f3, n1', n2', n3', m1', m2', m3', bb_un, bb_is, implies_true, go_sem, reduceCtorEq, ↓reduceIte, Nat.reduceAdd, Nat.reduceEqDiff, Nat.reduceLeDiff, Nat.reduceMul, Nat.reduceBEq, Int.reduceBEq, Int.reduceBNe, Int.reduceLT, Int.reduceLE, Int.reduceGT, Int.reduceGE, Int.reduceToNat])
    refine CallP.splitX (Ha := [(a4, .cells [.bool (altB b)]), (a3, .cells [.sl none 1 (bytesAV (restB b))]), (a, .cells [.sl none 1 (bytesAV b)])]) (tr true ⟨97, 0, 0, 0, 0, b⟩ 1648 on Hj Tj (fun _ => cand_t0 b) hs ha) (apart _ _ ha) ?_
    rintro H3 T3 ⟨on3, H4, rfl, hap4, hS4⟩ hN
    have hS4 : S on3 1649 H4 T3 := hS4
    have ha4 := back _ _ hap4 hN
    clear hN
    simp +contextual (maxSteps := 1000000) only [f1, f2, f3, n1', n2', n3', m1', m2', m3', bb_un, bb_is, implies_true, go_sem, reduceCtorEq, ↓reduceIte, Nat.reduceAdd, Nat.reduceEqDiff, Nat.reduceLeDiff, Nat.reduceMul, Nat.reduceBEq, Int.reduceBEq, Int.reduceBNe, Int.reduceLT, Int.reduceLE, Int.reduceGT, Int.reduceGE, Int.reduceToNat]
    refine CallP.splitX (Ha := [(a4, .cells [.bool (altB b)]), (a3, .cells [.sl none 1 (bytesAV (restB b))]), (a, .cells [.sl none 1 (bytesAV b)])]) (tr (altB b) ⟨97, 2, 0, 0, 0, restB b⟩ 1649 on3 H4 T3 (fun h => cand_t1 h) hS4 ha4) (apart _ _ ha4) ?_
    rintro H5 T5 ⟨on5, H6, rfl, hap6, hS6⟩ hN
    have hS6 : S on5 (if altB b = true then 1650 else 1649) H6 T5 := hS6
    have ha6 := back _ _ hap6 hN
    clear hN
    simp +contextual (maxSteps := 1000000) only [f1, f2, f3, n1', n2', n3', m1', m2', m3', bb_un, bb_is, implies_true, go_sem, reduceCtorEq, ↓reduceIte, Nat.reduceAdd, Nat.reduceEqDiff, Nat.reduceLeDiff, Nat.reduceMul, Nat.reduceBEq, Int.reduceBEq, Int.reduceBNe, Int.reduceLT, Int.reduceLE, Int.reduceGT, Int.reduceGE, Int.reduceToNat]
    refine CallP.splitX (Ha := [(a4, .cells [.bool (altB b)]), (a3, .cells [.sl none 1 (bytesAV (restB b))]), (a, .cells [.sl none 1 (bytesAV b)])]) (tr (backO b).2.2 ⟨(backO b).1, (backO b).2.1, 0, shiftB b, 0, []⟩ _ on5 H6 T5 (fun h => cand_t2 h) hS6 ha6) (apart _ _ ha6) ?_
    rintro H7 T7 ⟨on7, H8, rfl, hap8, hS8⟩ hN
    have hS8 : S on7 (posT b) H8 T7 := hS8
    have ha8 := back _ _ hap8 hN
    clear hN
    simp +contextual (maxSteps := 1000000) only [f1, f2, f3, n1', n2', n3', m1', m2', m3', bb_un, bb_is, implies_true, go_sem, reduceCtorEq, ↓reduceIte, Nat.reduceAdd, Nat.reduceEqDiff, Nat.reduceLeDiff, Nat.reduceMul, Nat.reduceBEq, Int.reduceBEq, Int.reduceBNe, Int.reduceLT, Int.reduceLE, Int.reduceGT, Int.reduceGE, Int.reduceToNat]
    refine CallP.splitX (Ha := [(a4, .cells [.bool (altB b)]), (a3, .cells [.sl none 1 (bytesAV (restB b))]), (a, .cells [.sl none 1 (bytesAV b)])]) (tr (altB b) ⟨57399, 2, 0, 0, 0, restB b⟩ _ on7 H8 T7 (fun h => cand_t3 h) hS8 ha8) (apart _ _ ha8) ?_
    rintro H9 T9 ⟨on9, H10, rfl, hap10, hS10⟩ hN
    simp +contextual (maxSteps := 1000000) only [go_sem, reduceCtorEq, ↓reduceIte, Nat.reduceAdd, Nat.reduceEqDiff, Nat.reduceLeDiff, Nat.reduceMul, Nat.reduceBEq, Int.reduceBEq, Int.reduceBNe, Int.reduceLT, Int.reduceLE, Int.reduceGT, Int.reduceGE, Int.reduceToNat]
    rw [← hQ]
    refine ⟨trivial, H10, T9, ?_, fun p hp => by simp [hp], fun t ht => ht⟩
    rw [List.length_map, cand_len]
    rw [hS] at hS10
    rcases hS10 with ⟨_, h⟩ | ⟨_, h⟩
    · exact .inl h
    · exact .inr h
end Go.Proofs.YtjankibepgnbfaaGreatDoor

namespace Go.Proofs.YtjankibepgnbfaaGreatDoor
open Go Go.Ab
/- clavier/back.Key -/
def ir_backKey_b0 : ICode :=
 (.blk 1
 (.seq
 (.drw [⟨qA 14 (.ld (some 6) (.t 6)), []⟩,
 ⟨qA 15 (.call (qC 26) [(.t 14)]), [0]⟩,
 ⟨qM 16 15, [1,1]⟩,
 ⟨qG 17 16 true (.ld (some 10) (.t 2)), [2]⟩,
 ⟨qG 18 16 true (.ld (some 6) (.t 6)), [2]⟩,
 ⟨qG 19 16 true (.call (qC 13) [(.t 17), (qI 0), (.t 18)]), [3,4,2,2]⟩,
 ⟨qG 20 16 true (.ld none (.t 3)), [2]⟩,
 ⟨qG 21 16 true (.call (qC 21) [(.t 19), (.t 20)]), [5,6,5,2]⟩,
 ⟨qA 22 (.pick (.t 16) (.t 21) (qB false)), [2,7]⟩]
 [] (some [4,5,6,22]))
 (.cond (.t 22)
 (.seq
 (.reg [qA 23 (.ld (some 6) (.t 6)),
 qN (.st 6 (.t 4) (.t 23)),
 qN (.st 1 (.t 5) (qB true))] (some []))
 .ret)
 .skip)))
def ir_backKey : ICode :=
 (.seq
 (.reg [qA 2 (.box 23 (.t 0)),
 qA 3 (.box 34 (.t 1)),
 qA 4 (.box 27 (.c (.agg [(.int .i64 0), (.int .i64 0), (.int .i64 0), (.int .i64 0), (.int .i64 0), (.str [])]))),
 qA 5 (.box 4 (qB false))] (some [2,3,4,5]))
 (.seq
 (.seq
 (.reg [qL 7 3,
 qA 8 (.len (.t 7)),
 qA 9 (.bin .eql .none (.t 8) (qI 0))] (some [2,3,4,5,9]))
 (.cond (.t 9)
 (.seq
 (.reg [qA 10 (.bld [(.int .i64 0), (.int .i64 0), (.int .i64 0), (.int .i64 0), (.int .i64 0), (.str [])] []),
 qN (.st 6 (.t 4) (.t 10)),
 qN (.st 1 (.t 5) (qB false))] (some [4,5]))
 .ret)
 .skip))
 (.seq
 (.seq
 (.reg [qL 11 3,
 qA 12 (.call (qC 25) [(.t 11)])] (some [2,3,4,5,12]))
 (.blk 0
 (.rgf (.t 12) [13]
 (.reg [qA 6 (.box 27 (.c (.agg [(.int .i64 0), (.int .i64 0), (.int .i64 0), (.int .i64 0), (.int .i64 0), (.str [])]))),
 qN (.st 6 (.t 6) (.t 13))] (some [2,3,4,5,6]))
 ir_backKey_b0)))
 (.seq
 (.reg [qA 24 (.bld [(.int .i64 0), (.int .i64 0), (.int .i64 0), (.int .i64 0), (.int .i64 0), (.str [])] []),
 qN (.st 6 (.t 4) (.t 24)),
 qN (.st 1 (.t 5) (qB false))] (some [4,5]))
 .ret))))
theorem is_backKey : IrOf Tryz.prog 12 25 ir_backKey [.cell 4 (some 6), .cell 5 none] := ⟨_, Tryz.func12, rfl, by kernel_rfl, by kernel_rfl, by kernel_rfl⟩

def ir_backSame : ICode :=
 (.seq
 (.reg [qA 3 (.box 23 (.t 0)),
 qA 4 (.box 27 (.t 1)),
 qA 5 (.box 27 (.t 2)),
 qA 6 (.mov (qB false))] (some [3,4,5]))
 (.seq
 (.reg [qA 8 (.ld (some 10) (.t 3)),
 qA 9 (.ld (some 6) (.t 4)),
 qA 10 (.call (qC 13) [(.t 8), (qI 0), (.t 9)]),
 qM 7 10] (some [3,5,7]))
 (.seq
 (.reg [qM 11 7,
 qA 12 (.len (.t 11)),
 qA 13 (.bin .gtr .none (.t 12) (qI 0)),
 qM 14 13,
 qG 15 14 true (.mov (.t 7)),
 qG 16 14 true (.ld (some 10) (.t 3)),
 qG 17 14 true (.ld (some 6) (.t 5)),
 qG 18 14 true (.call (qC 13) [(.t 16), (qI 0), (.t 17)]),
 qG 19 14 true (.call (qC 21) [(.t 15), (.t 18)]),
 qA 20 (.pick (.t 14) (.t 19) (qB false)),
 qM 6 20] (some [6]))
 .ret)))
theorem is_backSame : IrOf Tryz.prog 9 21 ir_backSame [.t 6] := ⟨_, Tryz.func9, rfl, by kernel_rfl, by kernel_rfl, by kernel_rfl⟩

def hpCand (b : List UInt8) (a a3 a4 : Nm) : Hp := [(a4, .cells [.bool (altB b)]), (a3, .cells [.sl none 1 (bytesAV (restB b))]), (a, .cells [.sl none 1 (bytesAV b)])]
theorem fs_candidates {Gl : Gh → Prop} (hst : Stays Gl) {b : List UInt8} : FS Tryz.prog Gl 25 [.sl none 1 (bytesAV b)] [] [] (.fn (.func 50) [] [.ptr (0, 0, 0) 0, .ptr (0, 0, 2) 0, .ptr (0, 0, 1) 0]) (hpCand b (0, 0, 0) (0, 0, 1) (0, 0, 2)) [] := by
  refine FS.of hm hst is_backcandidates (by simp) fun γ hγ hfr => ?_
  have c1 := fun t : Option Nm => fs_CutPre (Gl := Gl) hst (a := b) (b := [27]) (ta := none) (tb := t)
  rw [show bytesAV [27] = [[.int .u8 27]] from rfl, show (if [27] <+: b then b.drop ([27] : List UInt8).length else b) = restB b from rfl, show decide ([27] <+: b) = altB b from rfl] at c1
  (generalize hQ : (fun (ex : Ex) (_ _ : Nat) (s : St) => _) = Q; unfold ir_backcandidates)
  simp +contextual (maxSteps := 1000000) only [go_sem, reduceCtorEq, ↓reduceIte, Nat.reduceAdd, Nat.reduceEqDiff, Nat.reduceLeDiff, Nat.reduceMul, Nat.reduceBEq, Int.reduceBEq, Int.reduceBNe, Int.reduceLT, Int.reduceLE, Int.reduceGT, Int.reduceGE, Int.reduceToNat]
  (refine CallP.pure (c1 _) (fun _ => rfl) ?_; simp +contextual (maxSteps := 1000000) only [go_sem, reduceCtorEq, ↓reduceIte, Nat.reduceAdd, Nat.reduceEqDiff, Nat.reduceLeDiff, Nat.reduceMul, Nat.reduceBEq, Int.reduceBEq, Int.reduceBNe, Int.reduceLT, Int.reduceLE, Int.reduceGT, Int.reduceGE, Int.reduceToNat])
  rw [← hQ]
  refine ⟨trivial, [(γ, 0, 0), (γ, 8, 0), (γ, 9, 0)], by simp, by simp, rfl, ?_, by simp, ?_, ?_, by simp⟩
  · simp [rnH, hpCand, rnN, rnHB, rnL, Ab.rn]
  · simp [AV.okIn, AV.okInL, nmOK]
  · simp [hpCand, AV.okIn, AV.okInL, nmOK, HB.okIn]
theorem backO_sz (b : List UInt8) : (backO b).2.1 ≤ 7 := by
  unfold backO
  cases takeW b with
  | none => simp
  | some sn =>
    obtain ⟨s, n⟩ := sn
    simp only
    repeat' split
    all_goals simp only
    all_goals omega
theorem rest_len (b : List UInt8) : (restB b).length ≤ b.length := by
  unfold restB
  split
  · rw [List.length_drop]; omega
  · exact Nat.le_refl _
theorem cand_sz {b : List UInt8} {k : Ky} (h : k ∈ candK b) : k.mods ≤ 255 ∧ k.text.length ≤ b.length := by
  unfold candK at h
  rcases List.mem_append.1 h with h | h
  · obtain ⟨i, _, rfl⟩ := List.mem_map.1 h
    exact ⟨by simp only [pk]; omega, Nat.zero_le _⟩
  · obtain ⟨⟨c, k'⟩, h1, h2⟩ := List.mem_filterMap.1 h
    simp only [Option.ite_none_right_eq_some, Option.some.injEq] at h2
    obtain ⟨_, rfl⟩ := h2
    have hr := rest_len b
    have hs := backO_sz b
    simp only [txtC, List.mem_cons, Prod.mk.injEq, List.not_mem_nil, or_false] at h1
    rcases h1 with ⟨_, rfl⟩ | ⟨_, rfl⟩ | ⟨_, rfl⟩ | ⟨_, rfl⟩ <;> simp only [List.length_nil] <;> omega
def ky0 : Ky := ⟨0, 0, 0, 0, 0, []⟩
theorem fs_sameBk {Gl : Gh → Prop} (hst : Stays Gl) {m : Md} {k j : Ky} (hk : k.mods ≤ 9223372036854775807) (hj : j.mods ≤ 9223372036854775807) (tk : k.text.length ≤ 1000000000000) (tj : j.text.length ≤ 1000000000000) : FS Tryz.prog Gl 9 [.agg (mdAV m), .agg (kyAV k), .agg (kyAV j)] [] [] (.bool (sameB m k j)) [] [] := by
  refine FS.of hm hst is_backSame (by simp) fun γ hγ hfr => ?_
  have c1 := fs_bKey (Gl := Gl) hst (m := m) (k := k) (fl := 0) (by omega) hk tk
  have c2 := fs_bKey (Gl := Gl) hst (m := m) (k := j) (fl := 0) (by omega) hj tj
  have c3 := fs_BEqual (Gl := Gl) hst (a := boardK m 0 k) (b := boardK m 0 j) (ta := none) (tb := none)
  have hky : ∀ k : Ky, kyAV k = [.int .i64 k.code, .int .i64 k.mods, .int .i64 k.type, .int .i64 k.shifted, .int .i64 k.base, .str k.text] := fun _ => rfl
  have hmd : mdAV m = [.bool m.cursor, .bool m.keypad, .bool m.back, .bool m.focus, .bool m.paste, .bool m.lock, .bool m.line, .int .i64 m.mouse, .int .i64 m.coding, .int .i64 m.other] := rfl
  have hsb : sameB m k j = (decide (0 < (boardK m 0 k).length) && decide (boardK m 0 k = boardK m 0 j)) := rfl
  generalize sameB m k j = r at *
  rw [hky k, hmd] at c1
  rw [hky j, hmd] at c2
  rw [hky k, hky j, hmd]
  generalize decide (boardK m 0 k = boardK m 0 j) = e at *
  generalize boardK m 0 k = x at *
  generalize boardK m 0 j = y at *
  (generalize hQ : (fun (ex : Ex) (_ _ : Nat) (s : St) => _) = Q; unfold ir_backSame)
  simp +contextual (maxSteps := 1000000) only [go_sem, reduceCtorEq, ↓reduceIte, Nat.reduceAdd, Nat.reduceEqDiff, Nat.reduceLeDiff, Nat.reduceMul, Nat.reduceBEq, Int.reduceBEq, Int.reduceBNe, Int.reduceLT, Int.reduceLE, Int.reduceGT, Int.reduceGE, Int.reduceToNat]
  cases hx : decide ((x.length : Int) > 0) with
  | false =>
    have : decide (0 < x.length) = false := decide_eq_false (by have := of_decide_eq_false hx; omega)
    rw [this, Bool.false_and] at hsb
    subst hsb
    (refine CallP.pure (c1) (fun _ => rfl) ?_; simp +contextual (maxSteps := 1000000) only [bytesAV_length', hx, go_sem, reduceCtorEq, ↓reduceIte, Nat.reduceAdd, Nat.reduceEqDiff, Nat.reduceLeDiff, Nat.reduceMul, Nat.reduceBEq, Int.reduceBEq, Int.reduceBNe, Int.reduceLT, Int.reduceLE, Int.reduceGT, Int.reduceGE, Int.reduceToNat])
    rw [← hQ]
    exact ⟨trivial, Ret.flat rfl rfl⟩
  | true =>
    have : decide (0 < x.length) = true := decide_eq_true (by have := of_decide_eq_true hx; omega)
    rw [this, Bool.true_and] at hsb
    subst hsb
    (refine CallP.pure (c1) (fun _ => rfl) ?_; simp +contextual (maxSteps := 1000000) only [bytesAV_length', hx, go_sem, reduceCtorEq, ↓reduceIte, Nat.reduceAdd, Nat.reduceEqDiff, Nat.reduceLeDiff, Nat.reduceMul, Nat.reduceBEq, Int.reduceBEq, Int.reduceBNe, Int.reduceLT, Int.reduceLE, Int.reduceGT, Int.reduceGE, Int.reduceToNat])
    (refine CallP.pure (c2) (fun _ => rfl) ?_; simp +contextual (maxSteps := 1000000) only [go_sem, reduceCtorEq, ↓reduceIte, Nat.reduceAdd, Nat.reduceEqDiff, Nat.reduceLeDiff, Nat.reduceMul, Nat.reduceBEq, Int.reduceBEq, Int.reduceBNe, Int.reduceLT, Int.reduceLE, Int.reduceGT, Int.reduceGE, Int.reduceToNat])
    (refine CallP.pure (c3) (fun _ => rfl) ?_; simp +contextual (maxSteps := 1000000) only [go_sem, reduceCtorEq, ↓reduceIte, Nat.reduceAdd, Nat.reduceEqDiff, Nat.reduceLeDiff, Nat.reduceMul, Nat.reduceBEq, Int.reduceBEq, Int.reduceBNe, Int.reduceLT, Int.reduceLE, Int.reduceGT, Int.reduceGE, Int.reduceToNat])
    rw [← hQ]
    exact ⟨trivial, Ret.flat rfl rfl⟩
end Go.Proofs.YtjankibepgnbfaaGreatDoor

namespace Go.Proofs.YtjankibepgnbfaaGreatDoor
open Go Go.Ab

theorem back_some {m : Md} {b : List UInt8} {i : Nat} {k : Ky} (hb : b ≠ []) (h : (candK b)[i]? = some k) (hk : hitK m b k = true) (hn : ∀ c ∈ (candK b).take i, hitK m b c = false) : backK m b = some k := by
  unfold backK
  rw [if_neg hb]
  obtain ⟨j, y, hj, hy, hp, hf⟩ := first_hit h hk
  rw [hf]
  rcases Nat.lt_or_ge j i with hlt | hge
  · have : y ∈ (candK b).take i := List.mem_of_getElem? (by rw [List.getElem?_take, if_pos hlt]; exact hy)
    rw [hn y this] at hp; cases hp
  · obtain rfl : j = i := by omega
    rw [hy] at h; exact h
theorem back_none {m : Md} {b : List UInt8} (hn : ∀ c ∈ candK b, hitK m b c = false) : backK m b = none := by
  unfold backK
  split
  · rfl
  · rw [List.find?_eq_none]
    intro c hc
    rw [hn c hc]; simp
set_option maxHeartbeats 8000000 in
theorem fs_backKey {Gl : Gh → Prop} (hst : Stays Gl) {m : Md} {b : List UInt8} {tb : Option Nm} (hb : b.length ≤ 1000000000) (hd : dcsOk b) : FS Tryz.prog Gl 12 [.agg (mdAV m), .sl tb 1 (bytesAV b)] [] [] (.tup [.agg (kyAV ((backK m b).getD ky0)), .bool (backK m b).isSome]) [] [] := by
  refine FS.args (args' := [.agg (mdAV m), .sl none 1 (bytesAV b)]) ?_ ⟨RepLe.refl _, RepLe.anon _ _ _, trivial⟩
  refine FS.ofW hm hst is_backKey rfl (by simp) fun γ hγ hfr => ?_
  have hky : ∀ k : Ky, kyAV k = [.int .i64 k.code, .int .i64 k.mods, .int .i64 k.type, .int .i64 k.shifted, .int .i64 k.base, .str k.text] := fun _ => rfl
  have hmd : mdAV m = [.bool m.cursor, .bool m.keypad, .bool m.back, .bool m.focus, .bool m.paste, .bool m.lock, .bool m.line, .int .i64 m.mouse, .int .i64 m.coding, .int .i64 m.other] := rfl
  have hml : (mdAV m).length = 10 := rfl
  have hmo : oneL (mdAV m) = True := by rw [eq_iff_iff, iff_true]; simp [mdAV, oneL, AV.one]
  (generalize hQ : (fun (ex : Ex) (_ _ : Nat) (s : St) => _) = Q; unfold ir_backKey)
  by_cases hb0 : b = []
  · have hl : ((b.length : Int) == 0) = true := by rw [hb0]; rfl
    have hbk : backK m b = none := by unfold backK; rw [if_pos hb0]
    simp +contextual (maxSteps := 1000000) only [hl, bytesAV_length', hml, hmo, go_sem, reduceCtorEq, ↓reduceIte, Nat.reduceAdd, Nat.reduceEqDiff, Nat.reduceLeDiff, Nat.reduceMul, Nat.reduceBEq, Int.reduceBEq, Int.reduceBNe, Int.reduceLT, Int.reduceLE, Int.reduceGT, Int.reduceGE, Int.reduceToNat]
    rw [← hQ, hbk]
    refine ⟨trivial, .inl ⟨.tup [.agg (kyAV ky0), .bool false], ?_, RepLe.refl _⟩⟩
    simp [resOf, getAll, IRes.get, lf, getH, kyAV, ky0]
  · have hl : ((b.length : Int) == 0) = false := by
      have := List.length_pos_iff.2 hb0
      rw [beq_eq_false_iff_ne]; omega
    simp +contextual (maxSteps := 1000000) only [hl, bytesAV_length', hml, hmo, go_sem, reduceCtorEq, ↓reduceIte, Nat.reduceAdd, Nat.reduceEqDiff, Nat.reduceLeDiff, Nat.reduceMul, Nat.reduceBEq, Int.reduceBEq, Int.reduceBNe, Int.reduceLT, Int.reduceLE, Int.reduceGT, Int.reduceGE, Int.reduceToNat]
    refine CallP.of (fs_candidates hst (b := b)) (by simp) (by simp) ?_
    simp only [rnH, hpCand, rnN, rnHB, rnL, Ab.rn]
    simp +contextual (maxSteps := 1000000) only [go_sem, reduceCtorEq, ↓reduceIte, Nat.reduceAdd, Nat.reduceEqDiff, Nat.reduceLeDiff, Nat.reduceMul, Nat.reduceBEq, Int.reduceBEq, Int.reduceBNe, Int.reduceLT, Int.reduceLE, Int.reduceGT, Int.reduceGE, Int.reduceToNat]
    refine rgf_of rfl ((candK b).map fun k => [.agg (kyAV k)])
      (fun i H T => (∀ c ∈ (candK b).take i, hitK m b c = false) ∧ ∃ pre : Hp, (∀ q ∈ pre, γ < q.1.1) ∧ H = pre ++ [((γ, 3, 0), .cells [.bool false]), ((γ, 2, 0), .cells [.int .i64 0, .int .i64 0, .int .i64 0, .int .i64 0, .int .i64 0, .str []]), ((γ, 1, 0), .cells [.sl none 1 (bytesAV b)]), ((γ, 0, 0), .cells (mdAV m))])
      (fun ex H T => ex = .ret ∧ ∃ (i : Nat) (k : Ky), (candK b)[i]? = some k ∧ hitK m b k = true ∧ (∀ c ∈ (candK b).take i, hitK m b c = false) ∧ ((γ, 2, 0), .cells (kyAV k)) ∈ H ∧ ((γ, 3, 0), .cells [.bool true]) ∈ H)
      [((γ, 8, 2), .cells [.bool (altB b)]), ((γ, 8, 1), .cells [.sl none 1 (bytesAV (restB b))]), ((γ, 8, 0), .cells [.sl none 1 (bytesAV b)])] [((γ, 3, 0), .cells [.bool false]), ((γ, 2, 0), .cells [.int .i64 0, .int .i64 0, .int .i64 0, .int .i64 0, .int .i64 0, .str []]), ((γ, 1, 0), .cells [.sl none 1 (bytesAV b)]), ((γ, 0, 0), .cells (mdAV m))] (fun _ => False)
      (it_cands (by simp) (by simp) (by simp) hb hd) (by simp) (by simp) (by simp) (by simp) ⟨by simp, [], by simp, rfl⟩ (fun x hx => by obtain ⟨p, _, rfl⟩ := List.mem_map.1 hx; rfl) ?_ ?_ ?_
    · rintro Gl' hst' hG i x H T γ' hx ⟨hne, pre, hpre, rfl⟩ hlt hfr'
      simp only [List.getElem?_map, Option.map_eq_some_iff] at hx
      obtain ⟨k, hp, rfl⟩ := hx
      have hkm : k ∈ candK b := List.mem_of_getElem? hp
      obtain ⟨hz1, hz2⟩ := cand_sz hkm
      have htk : (candK b).take (i + 1) = (candK b).take i ++ [k] := by rw [List.take_add_one, hp]; rfl
      have hit : hitK m b k = (mayK k && decide (boardK m 0 k = b)) := rfl
      generalize hK : kBd _ _ _ = K
      unfold ir_backKey_b0
      have hg1 : (γ = γ') = False := by rw [eq_iff_iff, iff_false]; omega
      have hg2 : (γ' = γ) = False := by rw [eq_iff_iff, iff_false]; omega
      have hn : ∀ q ∈ pre, q.1.1 ≠ γ' := fun q hq => hfr'.1 q (List.mem_append.2 (.inl hq))
      have hp0 : ∀ i j, setH pre (γ', i, j) = fun _ => pre := fun i j => by funext hb; exact setH_ne fun q hq e => hn q hq (by rw [e])
      have hgp : ∀ i j (L : Hp), getH (pre ++ L) (γ, i, j) = getH L (γ, i, j) := fun i j L => by
        rw [getH_append, getH_ne fun q hq e => by have := hpre q hq; rw [e] at this; simp only at this; omega]
      have hsp : ∀ i j hb (L : Hp), setH (pre ++ L) (γ, i, j) hb = pre ++ setH L (γ, i, j) hb := fun i j hb L => by
        rw [setH_append]; congr 1
        exact setH_ne fun q hq e => by have := hpre q hq; rw [e] at this; simp only at this; omega
      have hsq : ∀ i j hb (L : Hp), setH (pre ++ L) (γ', i, j) hb = pre ++ setH L (γ', i, j) hb := fun i j hb L => by rw [setH_append, hp0]
      have c1 := fs_MayK (Gl := Gl') hst' (k := k) (by omega)
      have c2 := fs_bKey (Gl := Gl') hst' (m := m) (k := k) (fl := 0) (by omega) (by omega) (by omega)
      have c3 := fs_BEqual (Gl := Gl') hst' (a := boardK m 0 k) (b := b) (ta := none) (tb := none)
      rw [hky] at c1
      rw [hky, hmd] at c2
      generalize hdq : decide (boardK m 0 k = b) = dq at *
      generalize boardK m 0 k = bk at *
      simp +contextual (maxSteps := 1000000) only [hky, hmd, hg1, hg2, false_and, hgp, hsp, hsq, go_sem, reduceCtorEq, ↓reduceIte, Nat.reduceAdd, Nat.reduceEqDiff, Nat.reduceLeDiff, Nat.reduceMul, Nat.reduceBEq, Int.reduceBEq, Int.reduceBNe, Int.reduceLT, Int.reduceLE, Int.reduceGT, Int.reduceGE, Int.reduceToNat]
      refine DCall.new c1 ?_
      cases hmk : mayK k with
      | false =>
        simp +contextual (maxSteps := 1000000) only [hmk, hky, hmd, hg1, hg2, false_and, hgp, hsp, hsq, go_sem, reduceCtorEq, ↓reduceIte, Nat.reduceAdd, Nat.reduceEqDiff, Nat.reduceLeDiff, Nat.reduceMul, Nat.reduceBEq, Int.reduceBEq, Int.reduceBNe, Int.reduceLT, Int.reduceLE, Int.reduceGT, Int.reduceGE, Int.reduceToNat]
        rw [← hK]
        refine ⟨fun c hc => ?_, ((γ', 0, 0), .cells (kyAV k)) :: pre, fun q hq => ?_, rfl⟩
        · rw [htk] at hc
          rcases List.mem_append.1 hc with h | h
          · exact hne c h
          · simp only [List.mem_singleton] at h
            rw [h, hit, hmk]; rfl
        · rcases List.mem_cons.1 hq with rfl | h
          · exact hlt
          · exact hpre q h
      | true =>
        simp +contextual (maxSteps := 1000000) only [hmk, hky, hmd, hg1, hg2, false_and, hgp, hsp, hsq, go_sem, reduceCtorEq, ↓reduceIte, Nat.reduceAdd, Nat.reduceEqDiff, Nat.reduceLeDiff, Nat.reduceMul, Nat.reduceBEq, Int.reduceBEq, Int.reduceBNe, Int.reduceLT, Int.reduceLE, Int.reduceGT, Int.reduceGE, Int.reduceToNat]
        refine DCall.new c2 ?_
        simp +contextual (maxSteps := 1000000) only [hg1, hg2, false_and, hgp, go_sem, reduceCtorEq, ↓reduceIte, Nat.reduceAdd, Nat.reduceEqDiff, Nat.reduceLeDiff, Nat.reduceMul, Nat.reduceBEq, Int.reduceBEq, Int.reduceBNe, Int.reduceLT, Int.reduceLE, Int.reduceGT, Int.reduceGE, Int.reduceToNat]
        refine DCall.new c3 ?_
        cases dq with
        | false =>
          simp +contextual (maxSteps := 1000000) only [hky, hmd, hg1, hg2, false_and, hgp, hsp, hsq, go_sem, reduceCtorEq, ↓reduceIte, Nat.reduceAdd, Nat.reduceEqDiff, Nat.reduceLeDiff, Nat.reduceMul, Nat.reduceBEq, Int.reduceBEq, Int.reduceBNe, Int.reduceLT, Int.reduceLE, Int.reduceGT, Int.reduceGE, Int.reduceToNat]
          rw [← hK]
          refine ⟨fun c hc => ?_, ((γ', 0, 0), .cells (kyAV k)) :: pre, fun q hq => ?_, rfl⟩
          · rw [htk] at hc
            rcases List.mem_append.1 hc with h | h
            · exact hne c h
            · simp only [List.mem_singleton] at h
              rw [h, hit, hmk]; rfl
          · rcases List.mem_cons.1 hq with rfl | h
            · exact hlt
            · exact hpre q h
        | true =>
          simp +contextual (maxSteps := 1000000) only [hky, hmd, hg1, hg2, false_and, hgp, hsp, hsq, go_sem, reduceCtorEq, ↓reduceIte, Nat.reduceAdd, Nat.reduceEqDiff, Nat.reduceLeDiff, Nat.reduceMul, Nat.reduceBEq, Int.reduceBEq, Int.reduceBNe, Int.reduceLT, Int.reduceLE, Int.reduceGT, Int.reduceGE, Int.reduceToNat]
          rw [← hK]
          refine ⟨rfl, i, k, hp, by rw [hit, hmk]; rfl, hne, ?_, ?_⟩
          · simp [hky]
          · simp
    · rintro H1 T1 ⟨hne, pre, hpre, rfl⟩
      rw [List.length_map, List.take_length] at hne
      have hbk := back_none hne
      refine ⟨[((γ, 3, 0), .cells [.bool false]), ((γ, 2, 0), .cells [.int .i64 0, .int .i64 0, .int .i64 0, .int .i64 0, .int .i64 0, .str []])], T1, fun p hp => List.mem_append.2 (.inl (List.mem_append.2 (.inr (by simp only [List.mem_cons, List.not_mem_nil, or_false] at hp ⊢; rcases hp with rfl | rfl <;> simp)))), fun _ h => .inl h, ?_⟩
      simp +contextual (maxSteps := 1000000) only [go_sem, reduceCtorEq, ↓reduceIte, Nat.reduceAdd, Nat.reduceEqDiff, Nat.reduceLeDiff, Nat.reduceMul, Nat.reduceBEq, Int.reduceBEq, Int.reduceBNe, Int.reduceLT, Int.reduceLE, Int.reduceGT, Int.reduceGE, Int.reduceToNat]
      rw [← hQ, hbk]
      refine ⟨trivial, .inl ⟨.tup [.agg (kyAV ky0), .bool false], ?_, RepLe.refl _⟩⟩
      simp [resOf, getAll, IRes.get, lf, getH, kyAV, ky0]
    · rintro ex H1 T1 ⟨rfl, i, k, hp, hk, hne, m1, m2⟩
      have hbk := back_some hb0 hp hk hne
      refine ⟨[((γ, 3, 0), .cells [.bool true]), ((γ, 2, 0), .cells (kyAV k))], fun _ => False, fun q hq => List.mem_append.2 (.inl ?_), fun _ h => h.elim, ?_⟩
      · simp only [List.mem_cons, List.not_mem_nil, or_false] at hq
        rcases hq with rfl | rfl
        · exact m2
        · exact m1
      · simp only [w_kBlk_r, w_kSeq_r]
        rw [← hQ, hbk]
        refine ⟨trivial, .inl ⟨.tup [.agg (kyAV k), .bool true], ?_, RepLe.refl _⟩⟩
        simp [resOf, getAll, IRes.get, lf, getH, kyAV]
end Go.Proofs.YtjankibepgnbfaaGreatDoor

namespace Go.Proofs.YtjankibepgnbfaaGreatDoor
open Go Go.Ab
def ir_clavierlaw23awake : ICode :=
 (.seq
 (.reg [qA 0 (.mov (qB false))] (some []))
 (.seq
 (.reg [qA 7 (.bld [(.bool false), (.bool false), (.bool false), (.bool false), (.bool false), (.bool false), (.bool false), (.int .i64 0), (.int .i64 0), (.int .i64 0)] []),
 qA 8 (.row 5 1 [(.c (.int .u8 9))]),
 qA 9 (.call (qC 12) [(.t 7), (.t 8)]),
 qM 6 9,
 qE 10 6 0,
 qE 11 6 1,
 qA 1 (.box 27 (.c (.agg [(.int .i64 0), (.int .i64 0), (.int .i64 0), (.int .i64 0), (.int .i64 0), (.str [])]))),
 qN (.st 6 (.t 1) (.t 10)),
 qM 2 11] (some [1,2]))
 (.seq
 (.reg [qA 13 (.bld [(.bool false), (.bool false), (.bool false), (.bool false), (.bool false), (.bool false), (.bool false), (.int .i64 0), (.int .i64 0), (.int .i64 0)] []),
 qA 14 (.row 5 1 [(.c (.int .u8 27)), (.c (.int .u8 91)), (.c (.int .u8 49)), (.c (.int .u8 59)), (.c (.int .u8 50)), (.c (.int .u8 65))]),
 qA 15 (.cvs (.t 14)),
 qA 16 (.call (qC 12) [(.t 13), (.t 15)]),
 qM 12 16,
 qE 17 12 0,
 qE 18 12 1,
 qA 3 (.box 27 (.c (.agg [(.int .i64 0), (.int .i64 0), (.int .i64 0), (.int .i64 0), (.int .i64 0), (.str [])]))),
 qN (.st 6 (.t 3) (.t 17)),
 qM 4 18] (some [1,2,3,4]))
 (.seq
 (.reg [qA 19 (.bld [(.int .i64 0), (.int .i64 0), (.int .i64 0), (.int .i64 0), (.int .i64 0), (.str [])] [(0, 1, (qI 105)), (1, 1, (qI 4)), (2, 1, (qI 1))]),
 qA 5 (.box 27 (.c (.agg [(.int .i64 0), (.int .i64 0), (.int .i64 0), (.int .i64 0), (.int .i64 0), (.str [])]))),
 qN (.st 6 (.t 5) (.t 19))] (some [1,2,3,4,5]))
 (.seq
 (.reg [qM 20 2,
 qM 21 20,
 qG 22 21 true (.ld (some 6) (.t 1)),
 qG 23 21 true (.bld [(.int .i64 0), (.int .i64 0), (.int .i64 0), (.int .i64 0), (.int .i64 0), (.str [])] [(0, 1, (qI 9)), (2, 1, (qI 1))]),
 qG 24 21 true (.bin .eql (.flat [.int, .int, .int, .int, .int, .str]) (.t 22) (.t 23)),
 qA 25 (.pick (.t 21) (.t 24) (qB false)),
 qM 26 25,
 qG 27 26 true (.mov (.t 4)),
 qA 28 (.pick (.t 26) (.t 27) (qB false)),
 qM 29 28,
 qG 30 29 true (.ld (some 6) (.t 3)),
 qG 31 29 true (.bld [(.int .i64 0), (.int .i64 0), (.int .i64 0), (.int .i64 0), (.int .i64 0), (.str [])] [(0, 1, (qI 57352)), (1, 1, (qI 1)), (2, 1, (qI 1))]),
 qG 32 29 true (.bin .eql (.flat [.int, .int, .int, .int, .int, .str]) (.t 30) (.t 31)),
 qA 33 (.pick (.t 29) (.t 32) (qB false)),
 qM 34 33,
 qG 35 34 true (.bld [(.bool false), (.bool false), (.bool false), (.bool false), (.bool false), (.bool false), (.bool false), (.int .i64 0), (.int .i64 0), (.int .i64 0)] []),
 qG 36 34 true (.ld (some 6) (.t 1)),
 qG 37 34 true (.ld (some 6) (.t 5)),
 qG 38 34 true (.call (qC 9) [(.t 35), (.t 36), (.t 37)]),
 qA 39 (.pick (.t 34) (.t 38) (qB false)),
 qM 40 39,
 qG 41 40 true (.bld [(.bool false), (.bool false), (.bool false), (.bool false), (.bool false), (.bool false), (.bool false), (.int .i64 0), (.int .i64 0), (.int .i64 0)] [(9, 1, (qI 2))]),
 qG 42 40 true (.ld (some 6) (.t 1)),
 qG 43 40 true (.ld (some 6) (.t 5)),
 qG 44 40 true (.call (qC 9) [(.t 41), (.t 42), (.t 43)]),
 qG 45 40 true (.un .not (.t 44)),
 qA 46 (.pick (.t 40) (.t 45) (qB false)),
 qM 0 46] (some [0]))
 .ret)))))
theorem is_clavierlaw23awake : IrOf Tryz.prog 7 47 ir_clavierlaw23awake [.t 0] := ⟨_, Tryz.func7, rfl, by kernel_rfl, by kernel_rfl, by kernel_rfl⟩

def ir_clavierref06mouse : ICode :=
 (.seq
 (.reg [qA 2 (.mov (qB false))] (some [0]))
 (.seq
 (.reg [qM 3 0,
 qA 4 (.bin .eql .none (.t 3) (qI 9)),
 qM 5 4,
 qG 6 5 false (.mov (.t 0)),
 qG 7 5 false (.bin .eql .none (.t 6) (qI 1000)),
 qA 8 (.pick (.t 5) (qB true) (.t 7)),
 qM 9 8,
 qG 10 9 false (.mov (.t 0)),
 qG 11 9 false (.bin .eql .none (.t 10) (qI 1002)),
 qA 12 (.pick (.t 9) (qB true) (.t 11)),
 qM 13 12,
 qG 14 13 false (.mov (.t 0)),
 qG 15 13 false (.bin .eql .none (.t 14) (qI 1003)),
 qA 16 (.pick (.t 13) (qB true) (.t 15)),
 qM 2 16] (some [2]))
 .ret))
theorem is_clavierref06mouse : IrOf Tryz.prog 19 17 ir_clavierref06mouse [.t 2] := ⟨_, Tryz.func19, rfl, by kernel_rfl, by kernel_rfl, by kernel_rfl⟩

def ir_clavierref06coding : ICode :=
 (.seq
 (.reg [qA 2 (.mov (qB false))] (some [0]))
 (.seq
 (.reg [qM 3 0,
 qA 4 (.bin .eql .none (.t 3) (qI 1005)),
 qM 5 4,
 qG 6 5 false (.mov (.t 0)),
 qG 7 5 false (.bin .eql .none (.t 6) (qI 1006)),
 qA 8 (.pick (.t 5) (qB true) (.t 7)),
 qM 9 8,
 qG 10 9 false (.mov (.t 0)),
 qG 11 9 false (.bin .eql .none (.t 10) (qI 1015)),
 qA 12 (.pick (.t 9) (qB true) (.t 11)),
 qM 2 12] (some [2]))
 .ret))
theorem is_clavierref06coding : IrOf Tryz.prog 20 13 ir_clavierref06coding [.t 2] := ⟨_, Tryz.func20, rfl, by kernel_rfl, by kernel_rfl, by kernel_rfl⟩

def ir_clavierref06May : ICode :=
 (.seq
 (.reg [qA 1 (.box 23 (.t 0)),
 qA 2 (.mov (qB false))] (some [1]))
 (.seq
 (.reg [qF 3 7 1,
 qL 4 3,
 qA 5 (.bin .eql .none (.t 4) (qI 0)),
 qM 6 5,
 qG 7 6 false (.fa 7 (.t 1)),
 qG 8 6 false (.ld none (.t 7)),
 qG 9 6 false (.call (qC 19) [(.t 8)]),
 qA 10 (.pick (.t 6) (qB true) (.t 9)),
 qM 11 10,
 qG 12 11 true (.fa 8 (.t 1)),
 qG 13 11 true (.ld none (.t 12)),
 qG 14 11 true (.bin .eql .none (.t 13) (qI 0)),
 qG 15 11 true (.mov (.t 14)),
 qG 16 15 false (.fa 8 (.t 1)),
 qG 17 15 false (.ld none (.t 16)),
 qG 18 15 false (.call (qC 20) [(.t 17)]),
 qG 19 11 true (.pick (.t 15) (qB true) (.t 18)),
 qA 20 (.pick (.t 11) (.t 19) (qB false)),
 qM 21 20,
 qG 22 21 true (.fa 9 (.t 1)),
 qG 23 21 true (.ld none (.t 22)),
 qG 24 21 true (.bin .geq .none (.t 23) (qI 0)),
 qA 25 (.pick (.t 21) (.t 24) (qB false)),
 qM 26 25,
 qG 27 26 true (.fa 9 (.t 1)),
 qG 28 26 true (.ld none (.t 27)),
 qG 29 26 true (.bin .leq .none (.t 28) (qI 2)),
 qA 30 (.pick (.t 26) (.t 29) (qB false)),
 qM 2 30] (some [2]))
 .ret))
theorem is_clavierref06May : IrOf Tryz.prog 8 31 ir_clavierref06May [.t 2] := ⟨_, Tryz.func8, rfl, by kernel_rfl, by kernel_rfl, by kernel_rfl⟩

def ir_clavierref23Text : ICode :=
 (.seq
 (.reg [qA 2 (.mov (qB false))] (some [0]))
 (.seq
 (.reg [qM 3 0,
 qA 4 (.call (qC 22) [(.t 3)]),
 qA 5 (.fld 0 none (.t 4)),
 qA 6 (.bin .eql .none (.t 5) (qI 1)),
 qM 2 6] (some [2]))
 .ret))
theorem is_clavierref23Text : IrOf Tryz.prog 11 7 ir_clavierref23Text [.t 2] := ⟨_, Tryz.func11, rfl, by kernel_rfl, by kernel_rfl, by kernel_rfl⟩

def mouse06 (n : Int) : Bool := (((n == 9) || (n == 1000)) || (n == 1002)) || (n == 1003)
def coding06 (n : Int) : Bool := ((n == 1005) || (n == 1006)) || (n == 1015)
def mayMd (m : Md) : Bool := ((((m.mouse == 0) || mouse06 m.mouse) && ((m.coding == 0) || coding06 m.coding)) && decide (m.other ≥ 0)) && decide (m.other ≤ 2)
theorem fs_mouse06 {Gl : Gh → Prop} (hst : Stays Gl) {n : Int} : FS Tryz.prog Gl 19 [.int .i64 n] [] [] (.bool (mouse06 n)) [] [] := by
  refine FS.of hm hst is_clavierref06mouse (by simp) fun γ hγ hfr => ?_
  have hr : mouse06 n = ((((n == 9) || (n == 1000)) || (n == 1002)) || (n == 1003)) := rfl
  generalize mouse06 n = r at *
  (generalize hQ : (fun (ex : Ex) (_ _ : Nat) (s : St) => _) = Q; unfold ir_clavierref06mouse)
  cases h1 : (n == 9) <;> cases h2 : (n == 1000) <;> cases h3 : (n == 1002) <;> cases h4 : (n == 1003) <;> rw [h1, h2, h3, h4] at hr <;> subst hr
  all_goals
    simp +contextual (maxSteps := 1000000) only [h1, h2, h3, h4, go_sem, reduceCtorEq, ↓reduceIte, Nat.reduceAdd, Nat.reduceEqDiff, Nat.reduceLeDiff, Nat.reduceMul, Nat.reduceBEq, Int.reduceBEq, Int.reduceBNe, Int.reduceLT, Int.reduceLE, Int.reduceGT, Int.reduceGE, Int.reduceToNat]
    rw [← hQ]
    exact ⟨trivial, Ret.flat rfl rfl⟩
theorem fs_coding06 {Gl : Gh → Prop} (hst : Stays Gl) {n : Int} : FS Tryz.prog Gl 20 [.int .i64 n] [] [] (.bool (coding06 n)) [] [] := by
  refine FS.of hm hst is_clavierref06coding (by simp) fun γ hγ hfr => ?_
  have hr : coding06 n = (((n == 1005) || (n == 1006)) || (n == 1015)) := rfl
  generalize coding06 n = r at *
  (generalize hQ : (fun (ex : Ex) (_ _ : Nat) (s : St) => _) = Q; unfold ir_clavierref06coding)
  cases h1 : (n == 1005) <;> cases h2 : (n == 1006) <;> cases h3 : (n == 1015) <;> rw [h1, h2, h3] at hr <;> subst hr
  all_goals
    simp +contextual (maxSteps := 1000000) only [h1, h2, h3, go_sem, reduceCtorEq, ↓reduceIte, Nat.reduceAdd, Nat.reduceEqDiff, Nat.reduceLeDiff, Nat.reduceMul, Nat.reduceBEq, Int.reduceBEq, Int.reduceBNe, Int.reduceLT, Int.reduceLE, Int.reduceGT, Int.reduceGE, Int.reduceToNat]
    rw [← hQ]
    exact ⟨trivial, Ret.flat rfl rfl⟩
theorem fs_rMayMd {Gl : Gh → Prop} (hst : Stays Gl) {m : Md} : FS Tryz.prog Gl 8 [.agg (mdAV m)] [] [] (.bool (mayMd m)) [] [] := by
  refine FS.of hm hst is_clavierref06May (by simp) fun γ hγ hfr => ?_
  have hmd : mdAV m = [.bool m.cursor, .bool m.keypad, .bool m.back, .bool m.focus, .bool m.paste, .bool m.lock, .bool m.line, .int .i64 m.mouse, .int .i64 m.coding, .int .i64 m.other] := rfl
  have hr : mayMd m = (((((m.mouse == 0) || mouse06 m.mouse) && ((m.coding == 0) || coding06 m.coding)) && decide (m.other ≥ 0)) && decide (m.other ≤ 2)) := rfl
  have c1 := fs_mouse06 (Gl := Gl) hst (n := m.mouse)
  have c2 := fs_coding06 (Gl := Gl) hst (n := m.coding)
  rw [hmd]
  generalize mayMd m = r at *
  generalize mouse06 m.mouse = x at *
  generalize coding06 m.coding = y at *
  generalize m.mouse = mo at *
  generalize m.coding = co at *
  generalize m.other = ot at *
  (generalize hQ : (fun (ex : Ex) (_ _ : Nat) (s : St) => _) = Q; unfold ir_clavierref06May)
  cases h1 : (mo == 0) <;> cases x <;> cases h2 : (co == 0) <;> cases y <;> cases h3 : decide (ot ≥ 0) <;> cases h4 : decide (ot ≤ 2) <;> rw [h1, h2, h3, h4] at hr <;> subst hr
  all_goals
    simp +contextual (maxSteps := 1000000) only [h1, h2, h3, h4, go_sem, reduceCtorEq, ↓reduceIte, Nat.reduceAdd, Nat.reduceEqDiff, Nat.reduceLeDiff, Nat.reduceMul, Nat.reduceBEq, Int.reduceBEq, Int.reduceBNe, Int.reduceLT, Int.reduceLE, Int.reduceGT, Int.reduceGE, Int.reduceToNat]
    try (refine CallP.pure (c1) (fun _ => rfl) ?_; simp +contextual (maxSteps := 1000000) only [h2, h3, h4, go_sem, reduceCtorEq, ↓reduceIte, Nat.reduceAdd, Nat.reduceEqDiff, Nat.reduceLeDiff, Nat.reduceMul, Nat.reduceBEq, Int.reduceBEq, Int.reduceBNe, Int.reduceLT, Int.reduceLE, Int.reduceGT, Int.reduceGE, Int.reduceToNat])
    try (refine CallP.pure (c2) (fun _ => rfl) ?_; simp +contextual (maxSteps := 1000000) only [h3, h4, go_sem, reduceCtorEq, ↓reduceIte, Nat.reduceAdd, Nat.reduceEqDiff, Nat.reduceLeDiff, Nat.reduceMul, Nat.reduceBEq, Int.reduceBEq, Int.reduceBNe, Int.reduceLT, Int.reduceLE, Int.reduceGT, Int.reduceGE, Int.reduceToNat])
    rw [← hQ]
    exact ⟨trivial, Ret.flat rfl rfl⟩
theorem fs_rText23 {Gl : Gh → Prop} (hst : Stays Gl) {c : Int} : FS Tryz.prog Gl 11 [.int .i64 c] [] [] (.bool (kindK c == 1)) [] [] := by
  refine FS.of hm hst is_clavierref23Text (by simp) fun γ hγ hfr => ?_
  have c1 := fs_rLook (Gl := Gl) hst (c := c)
  have he : entAV (lookR c) = [.int .i64 (kindK c), .int .u8 ((lookR c).final.toNat : Int), .int .i64 (lookR c).num, .int .i64 (lookR c).char, .bool (lookR c).keys] := rfl
  rw [he] at c1
  (generalize hQ : (fun (ex : Ex) (_ _ : Nat) (s : St) => _) = Q; unfold ir_clavierref23Text)
  simp +contextual (maxSteps := 1000000) only [go_sem, reduceCtorEq, ↓reduceIte, Nat.reduceAdd, Nat.reduceEqDiff, Nat.reduceLeDiff, Nat.reduceMul, Nat.reduceBEq, Int.reduceBEq, Int.reduceBNe, Int.reduceLT, Int.reduceLE, Int.reduceGT, Int.reduceGE, Int.reduceToNat]
  (refine CallP.pure (c1) (fun _ => rfl) ?_; simp +contextual (maxSteps := 1000000) only [go_sem, reduceCtorEq, ↓reduceIte, Nat.reduceAdd, Nat.reduceEqDiff, Nat.reduceLeDiff, Nat.reduceMul, Nat.reduceBEq, Int.reduceBEq, Int.reduceBNe, Int.reduceLT, Int.reduceLE, Int.reduceGT, Int.reduceGE, Int.reduceToNat])
  rw [← hQ]
  exact ⟨trivial, Ret.flat rfl rfl⟩
set_option maxHeartbeats 4000000 in
theorem fs_awake23 {Gl : Gh → Prop} (hst : Stays Gl) : FS Tryz.prog Gl 7 [] [] [] (.bool true) [] [] := by
  refine FS.of hm hst is_clavierlaw23awake (by simp) fun γ hγ hfr => ?_
  have c1 := fun t : Option Nm => fs_backKey (Gl := Gl) hst (m := md0) (b := [9]) (tb := t) (by simp) (no80_dcs (by decide))
  have c2 := fun t : Option Nm => fs_backKey (Gl := Gl) hst (m := md0) (b := [27, 91, 49, 59, 50, 65]) (tb := t) (by simp) (no80_dcs (by decide))
  rw [wake_back.1, show bytesAV [9] = [[.int .u8 9]] from rfl, show kyAV ((some (pk 0)).getD ky0) = [.int .i64 9, .int .i64 0, .int .i64 1, .int .i64 0, .int .i64 0, .str []] from rfl, show (some (pk 0)).isSome = true from rfl] at c1
  rw [wake_back.2, show bytesAV [27, 91, 49, 59, 50, 65] = [[.int .u8 27], [.int .u8 91], [.int .u8 49], [.int .u8 59], [.int .u8 50], [.int .u8 65]] from rfl, show kyAV ((some (pk 65)).getD ky0) = [.int .i64 57352, .int .i64 1, .int .i64 1, .int .i64 0, .int .i64 0, .str []] from rfl, show (some (pk 65)).isSome = true from rfl] at c2
  have c3 := fs_sameBk (Gl := Gl) hst (m := md0) (k := ⟨9, 0, 1, 0, 0, []⟩) (j := ⟨105, 4, 1, 0, 0, []⟩) (by simp) (by simp) (by simp) (by simp)
  have c4 := fs_sameBk (Gl := Gl) hst (m := { md0 with other := 2 }) (k := ⟨9, 0, 1, 0, 0, []⟩) (j := ⟨105, 4, 1, 0, 0, []⟩) (by simp) (by simp) (by simp) (by simp)
  rw [wake_same.1] at c3
  rw [wake_same.2] at c4
  (generalize hQ : (fun (ex : Ex) (_ _ : Nat) (s : St) => _) = Q; unfold ir_clavierlaw23awake)
  simp +contextual (maxSteps := 1000000) only [go_sem, reduceCtorEq, ↓reduceIte, Nat.reduceAdd, Nat.reduceEqDiff, Nat.reduceLeDiff, Nat.reduceMul, Nat.reduceBEq, Int.reduceBEq, Int.reduceBNe, Int.reduceLT, Int.reduceLE, Int.reduceGT, Int.reduceGE, Int.reduceToNat]
  (refine CallP.pure (c1 _) (fun _ => rfl) ?_; simp +contextual (maxSteps := 1000000) only [go_sem, reduceCtorEq, ↓reduceIte, Nat.reduceAdd, Nat.reduceEqDiff, Nat.reduceLeDiff, Nat.reduceMul, Nat.reduceBEq, Int.reduceBEq, Int.reduceBNe, Int.reduceLT, Int.reduceLE, Int.reduceGT, Int.reduceGE, Int.reduceToNat])
  refine ⟨⟨.inl trivial, by simp⟩, ?_⟩
  (refine CallP.pure (c2 _) (fun _ => rfl) ?_; simp +contextual (maxSteps := 1000000) only [go_sem, reduceCtorEq, ↓reduceIte, Nat.reduceAdd, Nat.reduceEqDiff, Nat.reduceLeDiff, Nat.reduceMul, Nat.reduceBEq, Int.reduceBEq, Int.reduceBNe, Int.reduceLT, Int.reduceLE, Int.reduceGT, Int.reduceGE, Int.reduceToNat])
  repeat' refine And.intro (by simp [Xev_t, Xev_c, upd_app, lf_cons, oneL, AV.one, AV.cells]; done) ?_
  (refine CallP.pure (c3) (fun _ => rfl) ?_; simp +contextual (maxSteps := 1000000) only [go_sem, reduceCtorEq, ↓reduceIte, Nat.reduceAdd, Nat.reduceEqDiff, Nat.reduceLeDiff, Nat.reduceMul, Nat.reduceBEq, Int.reduceBEq, Int.reduceBNe, Int.reduceLT, Int.reduceLE, Int.reduceGT, Int.reduceGE, Int.reduceToNat])
  (refine CallP.pure (c4) (fun _ => rfl) ?_; simp +contextual (maxSteps := 1000000) only [go_sem, reduceCtorEq, ↓reduceIte, Nat.reduceAdd, Nat.reduceEqDiff, Nat.reduceLeDiff, Nat.reduceMul, Nat.reduceBEq, Int.reduceBEq, Int.reduceBNe, Int.reduceLT, Int.reduceLE, Int.reduceGT, Int.reduceGE, Int.reduceToNat])
  rw [← hQ]
  exact ⟨trivial, Ret.flat rfl rfl⟩
end Go.Proofs.YtjankibepgnbfaaGreatDoor

namespace Go.Proofs.YtjankibepgnbfaaGreatDoor
open Go Go.Ab
def ir_clavierlaw23BackPlain : ICode :=
 (.seq
 (.reg [qA 2 (.box 23 (.t 0)),
 qA 3 (.box 27 (.t 1)),
 qA 4 (.mov (qB false))] (some [2,3]))
 (.seq
 (.reg [qA 8 (.call (qC 7) []),
 qM 5 8] (some [2,3,5]))
 (.seq
 (.seq
 (.reg [qA 9 (.ld (some 10) (.t 2)),
 qA 10 (.call (qC 8) [(.t 9)]),
 qA 11 (.un .not (.t 10)),
 qM 12 11,
 qG 13 12 false (.ld (some 6) (.t 3)),
 qG 14 12 false (.call (qC 10) [(.t 13)]),
 qG 15 12 false (.un .not (.t 14)),
 qA 16 (.pick (.t 12) (qB true) (.t 15)),
 qM 17 16,
 qG 18 17 false (.fa 0 (.t 3)),
 qG 19 17 false (.ld none (.t 18)),
 qG 20 17 false (.call (qC 11) [(.t 19)]),
 qA 21 (.pick (.t 17) (qB true) (.t 20)),
 qM 22 21,
 qG 23 22 false (.fa 5 (.t 3)),
 qG 24 22 false (.ld none (.t 23)),
 qG 25 22 false (.bin .neq .none (.t 24) (.c (.str []))),
 qA 26 (.pick (.t 22) (qB true) (.t 25))] (some [2,3,5,26]))
 (.cond (.t 26)
 (.seq
 (.reg [qM 27 5,
 qM 4 27] (some [4]))
 .ret)
 .skip))
 (.seq
 (.drwm [(), (), (), (), (), (), (), (), ()] [⟨qA 29 (.ld (some 10) (.t 2)), []⟩,
 ⟨qA 30 (.ld (some 10) (.t 2)), []⟩,
 ⟨qA 31 (.ld (some 6) (.t 3)), []⟩,
 ⟨qA 32 (.call (qC 13) [(.t 30), (qI 0), (.t 31)]), [1,2]⟩,
 ⟨qA 33 (.call (qC 12) [(.t 29), (.t 32)]), [0,3,3]⟩,
 ⟨qM 28 33, [4]⟩,
 ⟨qE 34 28 0, [5]⟩,
 ⟨qE 35 28 1, [5]⟩,
 ⟨qA 6 (.box 27 (.c (.agg [(.int .i64 0), (.int .i64 0), (.int .i64 0), (.int .i64 0), (.int .i64 0), (.str [])]))), []⟩,
 ⟨qN (.st 6 (.t 6) (.t 34)), [8,6,4,0,1,2,3,4,5,6,8]⟩]
 [qM 7 35] (some [5,6,7]))
 (.seq
 (.reg [qM 36 5,
 qM 37 36,
 qG 38 37 true (.mov (.t 7)),
 qG 39 37 true (.un .not (.t 38)),
 qG 40 37 true (.mov (.t 39)),
 qG 41 40 false (.fa 0 (.t 6)),
 qG 42 40 false (.ld none (.t 41)),
 qG 43 40 false (.call (qC 11) [(.t 42)]),
 qG 44 40 false (.un .not (.t 43)),
 qG 45 40 false (.mov (.t 44)),
 qG 46 45 true (.fa 1 (.t 6)),
 qG 47 45 true (.ld none (.t 46)),
 qG 48 45 true (.bin .lss .none (.t 47) (qI 8)),
 qG 49 40 false (.pick (.t 45) (.t 48) (qB false)),
 qG 50 40 false (.mov (.t 49)),
 qG 51 50 true (.fa 5 (.t 6)),
 qG 52 50 true (.ld none (.t 51)),
 qG 53 50 true (.bin .eql .none (.t 52) (.c (.str []))),
 qG 54 40 false (.pick (.t 50) (.t 53) (qB false)),
 qG 55 40 false (.mov (.t 54)),
 qG 56 55 true (.fa 2 (.t 6)),
 qG 57 55 true (.ld none (.t 56)),
 qG 58 55 true (.bin .eql .none (.t 57) (qI 1)),
 qG 59 40 false (.pick (.t 55) (.t 58) (qB false)),
 qG 60 37 true (.pick (.t 40) (qB true) (.t 59)),
 qA 61 (.pick (.t 37) (.t 60) (qB false)),
 qM 4 61] (some [4]))
 .ret)))))
theorem is_clavierlaw23BackPlain : IrOf Tryz.prog 4 62 ir_clavierlaw23BackPlain [.t 4] := ⟨_, Tryz.func4, rfl, by kernel_rfl, by kernel_rfl, by kernel_rfl⟩

set_option maxHeartbeats 4000000 in
theorem fs_BackPlain {Gl : Gh → Prop} (hst : Stays Gl) {m : Md} {k : Ky} (_ : True) (ht : k.text.length ≤ 1000000000) : FS Tryz.prog Gl 4 [.agg (mdAV m), .agg (kyAV k)] [] [] (.bool true) [] [] := by
  refine FS.of hm hst is_clavierlaw23BackPlain (by simp) fun γ hγ hfr => ?_
  have hky : ∀ k : Ky, kyAV k = [.int .i64 k.code, .int .i64 k.mods, .int .i64 k.type, .int .i64 k.shifted, .int .i64 k.base, .str k.text] := fun _ => rfl
  have hmd : mdAV m = [.bool m.cursor, .bool m.keypad, .bool m.back, .bool m.focus, .bool m.paste, .bool m.lock, .bool m.line, .int .i64 m.mouse, .int .i64 m.coding, .int .i64 m.other] := rfl
  have c1 := fs_rMayMd (Gl := Gl) hst (m := m)
  have c2 := fs_rMayK (Gl := Gl) hst (k := k) (by omega)
  have c3 := fs_rText23 (Gl := Gl) hst (c := k.code)
  rw [hmd] at c1 ⊢
  rw [hky] at c2 ⊢
  (generalize hQ : (fun (ex : Ex) (_ _ : Nat) (s : St) => _) = Q; unfold ir_clavierlaw23BackPlain)
  simp +contextual (maxSteps := 1000000) only [go_sem, reduceCtorEq, ↓reduceIte, Nat.reduceAdd, Nat.reduceEqDiff, Nat.reduceLeDiff, Nat.reduceMul, Nat.reduceBEq, Int.reduceBEq, Int.reduceBNe, Int.reduceLT, Int.reduceLE, Int.reduceGT, Int.reduceGE, Int.reduceToNat]
  (refine CallP.pure (fs_awake23 hst) (fun _ => rfl) ?_; simp +contextual (maxSteps := 1000000) only [go_sem, reduceCtorEq, ↓reduceIte, Nat.reduceAdd, Nat.reduceEqDiff, Nat.reduceLeDiff, Nat.reduceMul, Nat.reduceBEq, Int.reduceBEq, Int.reduceBNe, Int.reduceLT, Int.reduceLE, Int.reduceGT, Int.reduceGE, Int.reduceToNat])
  cases hmy : mayMd m with
  | false =>
    rw [hmy] at c1
    (refine CallP.pure (c1) (fun _ => rfl) ?_; simp +contextual (maxSteps := 1000000) only [go_sem, reduceCtorEq, ↓reduceIte, Nat.reduceAdd, Nat.reduceEqDiff, Nat.reduceLeDiff, Nat.reduceMul, Nat.reduceBEq, Int.reduceBEq, Int.reduceBNe, Int.reduceLT, Int.reduceLE, Int.reduceGT, Int.reduceGE, Int.reduceToNat])
    rw [← hQ]
    exact ⟨trivial, Ret.flat rfl rfl⟩
  | true =>
  rw [hmy] at c1
  cases hmk : mayK k with
  | false =>
    rw [hmk] at c2
    (refine CallP.pure (c1) (fun _ => rfl) ?_; simp +contextual (maxSteps := 1000000) only [go_sem, reduceCtorEq, ↓reduceIte, Nat.reduceAdd, Nat.reduceEqDiff, Nat.reduceLeDiff, Nat.reduceMul, Nat.reduceBEq, Int.reduceBEq, Int.reduceBNe, Int.reduceLT, Int.reduceLE, Int.reduceGT, Int.reduceGE, Int.reduceToNat])
    (refine CallP.pure (c2) (fun _ => rfl) ?_; simp +contextual (maxSteps := 1000000) only [go_sem, reduceCtorEq, ↓reduceIte, Nat.reduceAdd, Nat.reduceEqDiff, Nat.reduceLeDiff, Nat.reduceMul, Nat.reduceBEq, Int.reduceBEq, Int.reduceBNe, Int.reduceLT, Int.reduceLE, Int.reduceGT, Int.reduceGE, Int.reduceToNat])
    rw [← hQ]
    exact ⟨trivial, Ret.flat rfl rfl⟩
  | true =>
  rw [hmk] at c2
  cases hkd : (kindK k.code == 1) with
  | true =>
    rw [hkd] at c3
    (refine CallP.pure (c1) (fun _ => rfl) ?_; simp +contextual (maxSteps := 1000000) only [go_sem, reduceCtorEq, ↓reduceIte, Nat.reduceAdd, Nat.reduceEqDiff, Nat.reduceLeDiff, Nat.reduceMul, Nat.reduceBEq, Int.reduceBEq, Int.reduceBNe, Int.reduceLT, Int.reduceLE, Int.reduceGT, Int.reduceGE, Int.reduceToNat])
    (refine CallP.pure (c2) (fun _ => rfl) ?_; simp +contextual (maxSteps := 1000000) only [go_sem, reduceCtorEq, ↓reduceIte, Nat.reduceAdd, Nat.reduceEqDiff, Nat.reduceLeDiff, Nat.reduceMul, Nat.reduceBEq, Int.reduceBEq, Int.reduceBNe, Int.reduceLT, Int.reduceLE, Int.reduceGT, Int.reduceGE, Int.reduceToNat])
    (refine CallP.pure (c3) (fun _ => rfl) ?_; simp +contextual (maxSteps := 1000000) only [go_sem, reduceCtorEq, ↓reduceIte, Nat.reduceAdd, Nat.reduceEqDiff, Nat.reduceLeDiff, Nat.reduceMul, Nat.reduceBEq, Int.reduceBEq, Int.reduceBNe, Int.reduceLT, Int.reduceLE, Int.reduceGT, Int.reduceGE, Int.reduceToNat])
    rw [← hQ]
    exact ⟨trivial, Ret.flat rfl rfl⟩
  | false =>
  rw [hkd] at c3
  have hk1 : kindK k.code ≠ 1 := by rwa [beq_eq_false_iff_ne] at hkd
  by_cases htx : k.text = []
  · have M := mayK_iff.1 hmk
    have hbp := back_plain (m := m) M hk1 htx
    obtain ⟨hbd, hbl⟩ := board_dcs (m := m) M hk1 htx
    have hm255 := M.m1
    have c4 := fs_bKey (Gl := Gl) hst (m := m) (k := k) (fl := 0) (by omega) (by omega) (by omega)
    have c5 := fs_backKey (Gl := Gl) hst (m := m) (b := boardK m 0 k) (tb := none) (by omega) hbd
    rw [hky, hmd] at c4
    rw [hmd] at c5
    rw [htx] at c2 c4 ⊢
    have q1 : ∀ x : List UInt8, (decide (x ≠ x)) = false := by simp
    generalize boardK m 0 k = b at *
    (refine CallP.pure (c1) (fun _ => rfl) ?_; simp +contextual (maxSteps := 1000000) only [go_sem, reduceCtorEq, ↓reduceIte, Nat.reduceAdd, Nat.reduceEqDiff, Nat.reduceLeDiff, Nat.reduceMul, Nat.reduceBEq, Int.reduceBEq, Int.reduceBNe, Int.reduceLT, Int.reduceLE, Int.reduceGT, Int.reduceGE, Int.reduceToNat])
    (refine CallP.pure (c2) (fun _ => rfl) ?_; simp +contextual (maxSteps := 1000000) only [go_sem, reduceCtorEq, ↓reduceIte, Nat.reduceAdd, Nat.reduceEqDiff, Nat.reduceLeDiff, Nat.reduceMul, Nat.reduceBEq, Int.reduceBEq, Int.reduceBNe, Int.reduceLT, Int.reduceLE, Int.reduceGT, Int.reduceGE, Int.reduceToNat])
    (refine CallP.pure (c3) (fun _ => rfl) ?_; simp +contextual (maxSteps := 1000000) only [q1, go_sem, reduceCtorEq, ↓reduceIte, Nat.reduceAdd, Nat.reduceEqDiff, Nat.reduceLeDiff, Nat.reduceMul, Nat.reduceBEq, Int.reduceBEq, Int.reduceBNe, Int.reduceLT, Int.reduceLE, Int.reduceGT, Int.reduceGE, Int.reduceToNat])
    refine kDrwX_of [((γ, 1, 0), .cells [.int .i64 k.code, .int .i64 k.mods, .int .i64 k.type, .int .i64 k.shifted, .int .i64 k.base, .str []]), ((γ, 0, 0), .cells [.bool m.cursor, .bool m.keypad, .bool m.back, .bool m.focus, .bool m.paste, .bool m.lock, .bool m.line, .int .i64 m.mouse, .int .i64 m.coding, .int .i64 m.other])] (by simp) ?_
    simp +contextual (maxSteps := 1000000) only [go_sem, reduceCtorEq, ↓reduceIte, Nat.reduceAdd, Nat.reduceEqDiff, Nat.reduceLeDiff, Nat.reduceMul, Nat.reduceBEq, Int.reduceBEq, Int.reduceBNe, Int.reduceLT, Int.reduceLE, Int.reduceGT, Int.reduceGE, Int.reduceToNat]
    refine DCall.new c4 ?_
    simp +contextual (maxSteps := 1000000) only [go_sem, reduceCtorEq, ↓reduceIte, Nat.reduceAdd, Nat.reduceEqDiff, Nat.reduceLeDiff, Nat.reduceMul, Nat.reduceBEq, Int.reduceBEq, Int.reduceBNe, Int.reduceLT, Int.reduceLE, Int.reduceGT, Int.reduceGE, Int.reduceToNat]
    refine DCall.new c5 ?_
    cases hbk : backK m b with
    | none =>
      simp +contextual (maxSteps := 1000000) only [hky, Option.getD_none, Option.isSome_none, go_sem, reduceCtorEq, ↓reduceIte, Nat.reduceAdd, Nat.reduceEqDiff, Nat.reduceLeDiff, Nat.reduceMul, Nat.reduceBEq, Int.reduceBEq, Int.reduceBNe, Int.reduceLT, Int.reduceLE, Int.reduceGT, Int.reduceGE, Int.reduceToNat]
      refine ⟨⟨by omega, by decide⟩, by simp, ?_⟩
      rw [← hQ]
      exact ⟨trivial, Ret.flat rfl rfl⟩
    | some j =>
      rw [hbk] at hbp
      obtain ⟨jc, jm, jt, js, jb, jx⟩ := j
      obtain ⟨p1, p2, p3, p4⟩ := hbp
      simp only at p1 p2 p3 p4
      subst p3 p4
      have c6 := fs_rText23 (Gl := Gl) hst (c := jc)
      rw [beq_eq_false_iff_ne.2 p1] at c6
      have q2 : decide (jm < 8) = true := decide_eq_true p2
      simp +contextual (maxSteps := 1000000) only [hky, Option.getD_some, Option.isSome_some, q2, go_sem, reduceCtorEq, ↓reduceIte, Nat.reduceAdd, Nat.reduceEqDiff, Nat.reduceLeDiff, Nat.reduceMul, Nat.reduceBEq, Int.reduceBEq, Int.reduceBNe, Int.reduceLT, Int.reduceLE, Int.reduceGT, Int.reduceGE, Int.reduceToNat]
      refine ⟨⟨by omega, by decide⟩, by simp, ?_⟩
      (refine CallP.pure (c6) (fun _ => rfl) ?_; simp +contextual (maxSteps := 1000000) only [q2, go_sem, reduceCtorEq, ↓reduceIte, Nat.reduceAdd, Nat.reduceEqDiff, Nat.reduceLeDiff, Nat.reduceMul, Nat.reduceBEq, Int.reduceBEq, Int.reduceBNe, Int.reduceLT, Int.reduceLE, Int.reduceGT, Int.reduceGE, Int.reduceToNat])
      rw [← hQ]
      exact ⟨trivial, Ret.flat rfl rfl⟩
  · have hx : decide (k.text = []) = false := decide_eq_false htx
    have hx2 : decide (k.text ≠ []) = true := decide_eq_true htx
    (refine CallP.pure (c1) (fun _ => rfl) ?_; simp +contextual (maxSteps := 1000000) only [go_sem, reduceCtorEq, ↓reduceIte, Nat.reduceAdd, Nat.reduceEqDiff, Nat.reduceLeDiff, Nat.reduceMul, Nat.reduceBEq, Int.reduceBEq, Int.reduceBNe, Int.reduceLT, Int.reduceLE, Int.reduceGT, Int.reduceGE, Int.reduceToNat])
    (refine CallP.pure (c2) (fun _ => rfl) ?_; simp +contextual (maxSteps := 1000000) only [go_sem, reduceCtorEq, ↓reduceIte, Nat.reduceAdd, Nat.reduceEqDiff, Nat.reduceLeDiff, Nat.reduceMul, Nat.reduceBEq, Int.reduceBEq, Int.reduceBNe, Int.reduceLT, Int.reduceLE, Int.reduceGT, Int.reduceGE, Int.reduceToNat])
    (refine CallP.pure (c3) (fun _ => rfl) ?_; simp +contextual (maxSteps := 1000000) only [hx, hx2, go_sem, reduceCtorEq, ↓reduceIte, Nat.reduceAdd, Nat.reduceEqDiff, Nat.reduceLeDiff, Nat.reduceMul, Nat.reduceBEq, Int.reduceBEq, Int.reduceBNe, Int.reduceLT, Int.reduceLE, Int.reduceGT, Int.reduceGE, Int.reduceToNat])
    rw [← hQ]
    exact ⟨trivial, Ret.flat rfl rfl⟩
end Go.Proofs.YtjankibepgnbfaaGreatDoor

namespace Go.Proofs.YtjankibepgnbfaaGreatDoor
open Go Go.Ab Go.WideShapes Go.RowKit
theorem seat_own : ownKnob Tryz.prog.godebug = none := by kernel_rfl
theorem seat_laidOut : laidOutB Tryz.prog = true := by kernel_rfl
section
variable {H : Type} {enc : TypeId × Value → H} {W : World} {base : Nat} {v : Value} {d : DataW H} {p : List MemPlace}
end
end Go.Proofs.YtjankibepgnbfaaGreatDoor

namespace Go.Proofs.YtjankibepgnbfaaGreatDoor
open Go Go.Ab
end Go.Proofs.YtjankibepgnbfaaGreatDoor

namespace Go.Proofs.YtjankibepgnbfaaGreatDoor
open Go Go.Ab
theorem fixW_of5 {W : World} (h : laidMetH Tryz.prog [("math/bits.deBruijn32tab", Rows.laid_math_bits_deBruijn32tab), ("math/bits.deBruijn64tab", Rows.laid_math_bits_deBruijn64tab), ("internal/strconv.uint64pow10", Rows.laid_internal_strconv_uint64pow10), ("unicode/utf8.acceptRanges", Rows.laid_unicode_utf8_acceptRanges), ("unicode/utf8.first", Rows.laid_unicode_utf8_first)] W) : FixW W := by
  rw [MakeChecks.laidMetH_plain _ _ _ (by kernel_rfl)] at h
  have h2 := laidMet.filter (fun x => x.1 == "internal/strconv.uint64pow10") h
  have h3 : laidMet Tryz.prog [("internal/strconv.uint64pow10", Lib.tabData .u64 Lib.pow10Tab)] W := h2
  have h4 := Lib.tabIs_of_head (g := 3) (t := 254) (e := 244) (n := 20) (by kernel_rfl) (by kernel_rfl) (by kernel_rfl) (by kernel_rfl) (by kernel_rfl) (by kernel_rfl) h3
  intro p hp
  obtain rfl := List.mem_singleton.1 hp
  unfold Lib.TabIs World.var? at h4
  rw [show Program.globalNamed Tryz.prog "internal/strconv.uint64pow10" = some 3 from by kernel_rfl] at h4
  simp only [Option.bind_some] at h4
  split at h4
  · rename_i cs e fr hh
    simp only [Option.some.injEq] at h4
    refine ⟨e, fr, ?_⟩
    rw [hh, h4]
    simp [Lib.pow10Tab]
  · cases h4
end Go.Proofs.YtjankibepgnbfaaGreatDoor

namespace Go.Proofs.YtjankibepgnbfaaGreatDoor
open Go Go.Ab Go.WideShapes Go.RowKit
def zero_apiKey : Value := .agg #[.int .i64 0, .int .i64 0, .int .i64 0, .int .i64 0, .int .i64 0, .string ByteArray.empty]
section
variable {H : Type} {enc : TypeId × Value → H} {W : World} {base : Nat} {v : Value} {d : DataW H} {p : List MemPlace}
theorem key_is : structIs Tryz.prog 27 [(0, 3), (1, 3), (2, 3), (3, 3), (4, 3), (5, 9)] = true := by kernel_rfl
theorem tr_Key : TR enc Tryz.prog W 27 fun xs => ∃ k : Ky, xs = kyAV k ∧ k.text.length ≤ maxLen := by
  refine (TR.structL (Rs := [fun xs => ∃ n, xs = [.int .i64 n] ∧ IntKind.i64.min ≤ n ∧ n ≤ IntKind.i64.max, fun xs => ∃ n, xs = [.int .i64 n] ∧ IntKind.i64.min ≤ n ∧ n ≤ IntKind.i64.max, fun xs => ∃ n, xs = [.int .i64 n] ∧ IntKind.i64.min ≤ n ∧ n ≤ IntKind.i64.max, fun xs => ∃ n, xs = [.int .i64 n] ∧ IntKind.i64.min ≤ n ∧ n ≤ IntKind.i64.max, fun xs => ∃ n, xs = [.int .i64 n] ∧ IntKind.i64.min ≤ n ∧ n ≤ IntKind.i64.max, fun xs => ∃ s, xs = [.str s] ∧ s.length ≤ maxLen]) 6 key_is (by kernel_rfl) ?_).mono ?_
  · exact ⟨rfl, TR.int (by kernel_rfl), 1, by kernel_rfl, rfl, TR.int (by kernel_rfl), 1, by kernel_rfl, rfl, TR.int (by kernel_rfl), 1, by kernel_rfl, rfl, TR.int (by kernel_rfl), 1, by kernel_rfl, rfl, TR.int (by kernel_rfl), 1, by kernel_rfl, rfl, TR.str (by kernel_rfl), 1, by kernel_rfl, rfl⟩
  · rintro xs ⟨_, _, ⟨a, rfl, _⟩, ⟨_, _, ⟨b, rfl, _⟩, ⟨_, _, ⟨c, rfl, _⟩, ⟨_, _, ⟨e, rfl, _⟩, ⟨_, _, ⟨f, rfl, _⟩, ⟨_, _, ⟨t, rfl, ht⟩, h, rfl⟩, rfl⟩, rfl⟩, rfl⟩, rfl⟩, rfl⟩
    have h : _ = [] := h
    subst h
    exact ⟨⟨a, b, c, e, f, t⟩, rfl, ht⟩
theorem part_le {d : DataW H} {l : List (DataW H)} (h : d ∈ l) : Rows.uptoBulk d ≤ Rows.uptoBulkAll l := by
  induction l with
  | nil => cases h
  | cons x r ih =>
    simp only [Rows.uptoBulkAll]
    cases List.mem_cons.1 h with
    | inl e => subst e; omega
    | inr e => have := ih e; omega
theorem bulk_field {t : TypeId} {L : List (Nat × Nat)} {cs : Array Value} {s : ByteArray} {off ty : Nat} (h : structIs Tryz.prog t L = true) (hL : (off, ty) ∈ L) (hty : Tryz.prog.underlying ty = some .string) (hc : Tryz.prog.cellsOf ty = 1)
    (hs : cs.toList[off]? = some (.string s)) (hd : DataW.Trod enc Tryz.prog W 0 (fun _ => true) true t (.agg cs) d p) : s.data.toList.length + 1 ≤ Rows.uptoBulk d := by
  obtain ⟨fuel, hd⟩ := hd
  unfold structIs at h
  split at h
  · rename_i fs hu
    have := of_decide_eq_true h
    subst this
    cases fuel with
    | zero => simp [DataW.trod] at hd
    | succ fuel =>
      unfold DataW.trod at hd
      rw [hu] at hd
      simp only at hd
      split at hd
      · obtain ⟨ys, k1, k2⟩ := Option.map_eq_some_iff.1 hd
        simp only [Prod.mk.injEq] at k2
        obtain ⟨rfl, _⟩ := k2
        obtain ⟨f, hf, he⟩ := List.mem_map.1 hL
        simp only [Prod.mk.injEq] at he
        obtain ⟨rfl, rfl⟩ := he
        obtain ⟨j, hj, hfj⟩ := List.getElem_of_mem hf
        have hl := mapM_some_length k1
        have hg := mapM_some_get k1 j f (by rw [List.getElem?_eq_getElem hj, hfj])
        rw [List.getElem?_eq_getElem (by omega)] at hg
        have hcs : ((Value.agg cs).cells.toList.drop f.offset).take 1 = [.string s] := by
          show (cs.toList.drop f.offset).take 1 = _
          rw [List.getElem?_eq_some_iff] at hs
          obtain ⟨h1, h2⟩ := hs
          rw [List.drop_eq_getElem_cons h1, h2]; rfl
        rw [hc, hcs] at hg
        have hb : s.data.toList.length + 1 ≤ Rows.uptoBulk (ys[j]'(by omega)).1 := by
          cases fuel with
          | zero => simp [DataW.trod] at hg
          | succ fuel =>
            unfold DataW.trod at hg
            rw [hty] at hg
            simp only at hg
            split at hg
            · rw [← Option.some.inj hg]
              simp only [Rows.uptoBulk]
              exact Nat.le_refl _
            · cases hg
        have hm : (ys[j]'(by omega)).1 ∈ ys.map (·.1) := List.mem_map.2 ⟨_, List.getElem_mem _, rfl⟩
        have := part_le hm
        simp only [Rows.uptoBulk]
        omega
      · cases hd
  · cases h
theorem op_apiKeyB (hv : Value.okWide Tryz.prog W .any base 27 v) (hd : DataW.Trod enc Tryz.prog W 0 (fun _ => true) true 27 v d p) : ∃ k : Ky, k.text.length + 1 ≤ Rows.uptoBulk d ∧ Rep (gh0 W) (.agg (kyAV k)) v := by
  obtain ⟨cs, rfl⟩ := okWide_struct key_is hv
  obtain ⟨xs, ⟨k, rfl, h⟩, hr⟩ := tr_Key.argN hd
  refine ⟨k, ?_, hr⟩
  obtain ⟨vs, e, hl⟩ := hr
  obtain rfl : cs = vs := by cases e; rfl
  obtain ⟨x, h5, hx⟩ := RepL.get hl 5 (.str k.text) rfl
  have hx : x = .string ⟨k.text.toArray⟩ := hx
  subst hx
  have := bulk_field key_is (off := 5) (ty := 9) (by decide) (by kernel_rfl) (by kernel_rfl) h5 hd
  simpa using this
end
end Go.Proofs.YtjankibepgnbfaaGreatDoor

namespace Go.Proofs.YtjankibepgnbfaaGreatDoor
open Go Go.Ab Go.WideShapes Go.RowKit
def zero_apiModes : Value := .agg #[.bool false, .bool false, .bool false, .bool false, .bool false, .bool false, .bool false, .int .i64 0, .int .i64 0, .int .i64 0]
section
variable {H : Type} {enc : TypeId × Value → H} {W : World} {base : Nat} {v : Value} {d : DataW H} {p : List MemPlace}
theorem modes_is : structIs Tryz.prog 23 [(0, 4), (1, 4), (2, 4), (3, 4), (4, 4), (5, 4), (6, 4), (7, 3), (8, 3), (9, 3)] = true := by kernel_rfl
theorem tr_Modes : TR enc Tryz.prog W 23 fun xs => ∃ m : Md, xs = mdAV m := by
  refine (TR.structL (Rs := [fun xs => ∃ b, xs = [.bool b], fun xs => ∃ b, xs = [.bool b], fun xs => ∃ b, xs = [.bool b], fun xs => ∃ b, xs = [.bool b], fun xs => ∃ b, xs = [.bool b], fun xs => ∃ b, xs = [.bool b], fun xs => ∃ b, xs = [.bool b], fun xs => ∃ n, xs = [.int .i64 n] ∧ IntKind.i64.min ≤ n ∧ n ≤ IntKind.i64.max, fun xs => ∃ n, xs = [.int .i64 n] ∧ IntKind.i64.min ≤ n ∧ n ≤ IntKind.i64.max, fun xs => ∃ n, xs = [.int .i64 n] ∧ IntKind.i64.min ≤ n ∧ n ≤ IntKind.i64.max]) 10 modes_is (by kernel_rfl) ?_).mono ?_
  · exact ⟨rfl, TR.bool (by kernel_rfl), 1, by kernel_rfl, rfl, TR.bool (by kernel_rfl), 1, by kernel_rfl, rfl, TR.bool (by kernel_rfl), 1, by kernel_rfl, rfl, TR.bool (by kernel_rfl), 1, by kernel_rfl, rfl, TR.bool (by kernel_rfl), 1, by kernel_rfl, rfl, TR.bool (by kernel_rfl), 1, by kernel_rfl, rfl, TR.bool (by kernel_rfl), 1, by kernel_rfl, rfl, TR.int (by kernel_rfl), 1, by kernel_rfl, rfl, TR.int (by kernel_rfl), 1, by kernel_rfl, rfl, TR.int (by kernel_rfl), 1, by kernel_rfl, rfl⟩
  · rintro xs ⟨_, _, ⟨a, rfl⟩, ⟨_, _, ⟨b, rfl⟩, ⟨_, _, ⟨c, rfl⟩, ⟨_, _, ⟨e, rfl⟩, ⟨_, _, ⟨f, rfl⟩, ⟨_, _, ⟨g, rfl⟩, ⟨_, _, ⟨i, rfl⟩, ⟨_, _, ⟨j, rfl, _⟩, ⟨_, _, ⟨k, rfl, _⟩, ⟨_, _, ⟨l, rfl, _⟩, h, rfl⟩, rfl⟩, rfl⟩, rfl⟩, rfl⟩, rfl⟩, rfl⟩, rfl⟩, rfl⟩, rfl⟩
    have h : _ = [] := h
    subst h
    exact ⟨⟨a, b, c, e, f, g, i, j, k, l⟩, rfl⟩
theorem op_apiModes (hv : Value.okWide Tryz.prog W .any base 23 v) (hd : DataW.Trod enc Tryz.prog W 0 (fun _ => true) true 23 v d p) : ∃ m : Md, True ∧ Rep (gh0 W) (.agg (mdAV m)) v := by
  obtain ⟨cs, rfl⟩ := okWide_struct modes_is hv
  obtain ⟨xs, ⟨m, rfl⟩, hr⟩ := tr_Modes.argN hd
  exact ⟨m, trivial, hr⟩
end
end Go.Proofs.YtjankibepgnbfaaGreatDoor

namespace Go.Proofs.YtjankibepgnbfaaGreatDoor
open Go Go.Ab Go.ChangeShapes Go.WideShapes Go.ChangeAt Go.RowKit
theorem backPlain_lifted (os : Os) (started : os.Started) (H : Type) (enc : TypeId × Value → H) (F : Stop.Interp) :
    ReturnsInHanded {} Tryz.checked os 4 .any ((Rows.OpenSpec.upto Rows.backPlainSpec).preRow enc Tryz.prog Tryz.f4 Rows.backPlainUptoRow.domain false Rows.backPlainUptoRow.laid) (((Rows.OpenSpec.upto Rows.backPlainSpec).at F).post enc Tryz.prog Tryz.f4 false true false false) := by
  have hw : (DataW.whole enc Tryz.prog ((World.laidAll Tryz.prog os [("math/bits.deBruijn32tab", Rows.laid_math_bits_deBruijn32tab), ("math/bits.deBruijn64tab", Rows.laid_math_bits_deBruijn64tab), ("internal/strconv.uint64pow10", Rows.laid_internal_strconv_uint64pow10), ("unicode/utf8.acceptRanges", Rows.laid_unicode_utf8_acceptRanges), ("unicode/utf8.first", Rows.laid_unicode_utf8_first)]).forCall (fun _ _ => 0) ⟨#[], #[zero_apiModes, zero_apiKey], []⟩).memory Tryz.f4.params.toList (Rows.OpenSpec.upto Rows.backPlainSpec).vars false (#[zero_apiModes, zero_apiKey] : Array Value).toList 8).any (fun x => decide (Rows.uptoBulkAll (x.1 ++ x.2.1) ≤ 1048576)) = true := by kernel_rfl
  cases hx : DataW.whole enc Tryz.prog ((World.laidAll Tryz.prog os [("math/bits.deBruijn32tab", Rows.laid_math_bits_deBruijn32tab), ("math/bits.deBruijn64tab", Rows.laid_math_bits_deBruijn64tab), ("internal/strconv.uint64pow10", Rows.laid_internal_strconv_uint64pow10), ("unicode/utf8.acceptRanges", Rows.laid_unicode_utf8_acceptRanges), ("unicode/utf8.first", Rows.laid_unicode_utf8_first)]).forCall (fun _ _ => 0) ⟨#[], #[zero_apiModes, zero_apiKey], []⟩).memory Tryz.f4.params.toList (Rows.OpenSpec.upto Rows.backPlainSpec).vars false (#[zero_apiModes, zero_apiKey] : Array Value).toList 8 with
  | none => rw [hx] at hw; cases hw
  | some x =>
  rw [hx] at hw
  have hok : Input.okWideB Tryz.checked.prog ((World.laidAll Tryz.prog os [("math/bits.deBruijn32tab", Rows.laid_math_bits_deBruijn32tab), ("math/bits.deBruijn64tab", Rows.laid_math_bits_deBruijn64tab), ("internal/strconv.uint64pow10", Rows.laid_internal_strconv_uint64pow10), ("unicode/utf8.acceptRanges", Rows.laid_unicode_utf8_acceptRanges), ("unicode/utf8.first", Rows.laid_unicode_utf8_first)]).forCall (fun _ _ => 0) ⟨#[], #[zero_apiModes, zero_apiKey], []⟩) 4 ⟨#[], #[zero_apiModes, zero_apiKey], []⟩ = true := by kernel_rfl
  refine returnsInHanded_of_row (C := Tryz.checked) (s := (Rows.OpenSpec.upto Rows.backPlainSpec)) seat_own started (by kernel_rfl) Tryz.func4
    ⟨World.laidAll Tryz.prog os [("math/bits.deBruijn32tab", Rows.laid_math_bits_deBruijn32tab), ("math/bits.deBruijn64tab", Rows.laid_math_bits_deBruijn64tab), ("internal/strconv.uint64pow10", Rows.laid_internal_strconv_uint64pow10), ("unicode/utf8.acceptRanges", Rows.laid_unicode_utf8_acceptRanges), ("unicode/utf8.first", Rows.laid_unicode_utf8_first)], fun _ _ => 0, ⟨#[], #[zero_apiModes, zero_apiKey], []⟩, World.laidAll_os _ _ _, World.shaped_of_ZipB (by kernel_rfl) (by kernel_rfl), (Input.okWide_of_okWideB (base := 0) hok).1, (Input.okWide_of_okWideB hok).2,
      OpenSpec.preRow_of_cond 8 hx (by kernel_rfl) (fun k hk => by cases hk; exact hw) (by kernel_rfl) (by rw [show Rows.backPlainUptoRow.laid = [("math/bits.deBruijn32tab", Rows.laid_math_bits_deBruijn32tab), ("math/bits.deBruijn64tab", Rows.laid_math_bits_deBruijn64tab), ("internal/strconv.uint64pow10", Rows.laid_internal_strconv_uint64pow10), ("unicode/utf8.acceptRanges", Rows.laid_unicode_utf8_acceptRanges), ("unicode/utf8.first", Rows.laid_unicode_utf8_first)] from rfl, MakeChecks.laidMetH_plain _ _ _ (by kernel_rfl)]; exact laidMet_laidAll _ (by kernel_rfl) (by kernel_rfl)),
      by simp only [Assume.holds]; exact ⟨by simp, by simp, fun _ => Modest.zero, by simp, by simp⟩⟩ ?_
  intro W base args ds gs before hval0 hW _ hcond hreach hL _ _
  have hbulk : Rows.uptoBulkAll (ds ++ gs) ≤ 1048576 := of_decide_eq_true (hcond _ rfl)
  have hval : ∀ (j : Nat) t v, Tryz.f4.params[j]? = some t → args[j]? = some v → Value.okWide Tryz.prog W .any base t v := hval0
  have hW' := hW
  obtain ⟨p, q, hA0, hV, rfl, _, _⟩ := hW
  have hA : DataW.TrodAll enc Tryz.prog W 0 (fun _ => true) true Tryz.f4.params.toList args.toList ds p := hA0
  rw [Tryz.params4] at hA hval
  obtain ⟨v0, vs0, d0, ds0, p0, q0, hargs, rfl, rfl, h0, r0⟩ := trodAll_cons hA
  obtain ⟨v1, vs1, d1, ds1, p1, q1, rfl, rfl, rfl, h1, r1⟩ := trodAll_cons r0
  obtain ⟨rfl, rfl, rfl⟩ := trodAll_nil r1
  obtain rfl : args = #[v0, v1] := by cases args; simp_all
  obtain ⟨rfl, rfl⟩ := trodVars_none hV
  have lt0 : ∀ x ∈ p0, x.block < W.heap.size := by obtain ⟨m, hm⟩ := h0; exact DataW.trod_lt m _ _ _ hm
  obtain ⟨x0, c0, e0⟩ := op_apiModes (hval 0 23 v0 rfl rfl) h0
  have hb0 : Rows.uptoBulk d0 ≤ 1048576 := Nat.le_trans (part_le (by simp)) hbulk
  have lt1 : ∀ x ∈ p1, x.block < W.heap.size := by obtain ⟨m, hm⟩ := h1; exact DataW.trod_lt m _ _ _ hm
  obtain ⟨x1, c1, e1⟩ := op_apiKeyB (hval 1 27 v1 rfl rfl) h1
  have hb1 : Rows.uptoBulk d1 ≤ 1048576 := Nat.le_trans (part_le (by simp)) hbulk
  clear hA0 hval0
  refine ((fs_BackPlain (Gl := fun _ => True) (fun _ _ _ _ => trivial) c0 (by omega)).row (fixW_of5 hL) trivial ⟨_, _, rfl, e0, ⟨_, _, rfl, e1, rfl⟩⟩).mono fun e W' ⟨v, g', he, hr, bel⟩ => ?_
  obtain rfl : v = .bool true := hr
  subst he
  exact ⟨_, rfl, _, _, _, [], _, [], hW', trodAll_mk1 (shut_bool (show Tryz.prog.underlying 4 = some .bool by kernel_rfl) _), (trodAll_cons_mk (Below.trod seat_laidOut (by kernel_rfl) (of_decide_eq_true (by kernel_rfl)) h0 bel lt0) (trodAll_cons_mk (Below.trod seat_laidOut (by kernel_rfl) (of_decide_eq_true (by kernel_rfl)) h1 bel lt1) trodAll_mk0)), rfl, bel.frame _, fun h => by cases h⟩
theorem backPlain_holds : Rows.BackPlainUptoSaid :=
  OpenClaim.holds_of_cond 4 Tryz.f4 rfl rfl rfl rfl rfl rfl rfl ⟨rfl, rfl, rfl, rfl, rfl⟩ rfl rfl rfl rfl rfl (by kernel_rfl) Tryz.func4 (by kernel_rfl)
    (of_decide_eq_true (by kernel_rfl)) (by unfold Func.isWrapper; first | (rw [if_pos (by decide +kernel)]; kernel_rfl) | (rw [if_neg (by decide +kernel)]; exact ⟨rfl, rfl⟩))
    (fun os started H enc _ F => by rw [OpenClaim.pre_eq_preRow]; exact backPlain_lifted os started H enc F)
theorem backPlain_card : Rows.BackPlainUptoCardSaid :=
  Claim7.holds_tied_plain_at .later [] [.data, .data, .data, .data, .pinned] true (true, "cdedbc19828bd9d7fddf4a29b21eb35dd9b136a3d7342e95d289ee7242a32d41") false backPlain_holds (fun _ h => by cases h) (by kernel_rfl) (fun _ h => by cases h) backPlainUpto_row_tie rfl ⟨rfl, rfl⟩ (by kernel_rfl) rfl
    (fun f fn hf hfn => by
      obtain rfl : f = 4 := Option.some.inj ((show Tryz.prog.funcNamed "clavier/clavierlaw23.BackPlain" = some 4 by kernel_rfl).symm.trans hf) |>.symm
      obtain rfl : fn = Tryz.f4 := (Option.some.inj (Tryz.func4.symm.trans hfn)).symm
      exact ⟨by kernel_rfl, fun j t ht => by
        rw [Tryz.params4] at ht
        have hm : t ∈ ([23, 27] : List Nat) := by simpa using Array.mem_of_getElem? ht
        have hall : (([23, 27] : List Nat).all fun u => !Tryz.prog.wantsStandIn u) = true := by kernel_rfl
        exact (show Tryz.prog.wantsStandIn t = false by simpa using List.all_eq_true.1 hall t hm)⟩)
    (by kernel_rfl)
#print axioms backPlain_card
end Go.Proofs.YtjankibepgnbfaaGreatDoor

