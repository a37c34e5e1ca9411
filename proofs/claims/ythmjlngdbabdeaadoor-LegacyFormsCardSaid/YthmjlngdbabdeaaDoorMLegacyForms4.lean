/- Part 4 of 4 of a proof: the given statement LegacyForms, whatever the input that its row lets in. Conditions: those of the given row and card alone. -/
import Derived.Test.YthmjlngdbabdeaaDoorMLegacyForms3
import Derived.Test.YthmjlngdbabdeaaDoorAb13
import Derived.Test.YthmjlngdbabdeaaDoorMLegacyForms1
import Derived.WalkKit
import Derived.ProofKit
import Derived.SizedLaws
import Derived.Test.YthmjlngdbabdeaaDoorRows
import Derived.LaidSub
import Derived.Lib.LaidTab
import Derived.Lib.ItoaNum
import Derived.MakeChecks
import Derived.Test.YthmjlngdbabdeaaDoorCards
import Derived.Test.YthmjlngdbabdeaaDoorTie
import Derived.Deep.DeepHandedRow
import Derived.JoinedCond
import Derived.OpenShut
import Derived.ShutString
import Derived.ChangeOld
import Derived.Below
import Derived.Lay
import Derived.LaidOnce
import Derived.SevenTiedAt
/- The reader of sequences: numbers and parameters. -/
set_option linter.unusedVariables false
set_option linter.unusedSimpArgs false
set_option maxRecDepth 100000
namespace Go.Proofs.YthmjlngdbabdeaaDoor
open Go Go.Ab
/-- clavier/wire.number -/
def ir_wirenumber : ICode :=
 (.seq
  (.reg [⟨some 2, none, .mov (.c (.int .i64 0))⟩] (some [0]))
  (.seq
   (.seq
    (.reg [⟨some 5, none, .mov (.t 0)⟩,
      ⟨some 6, none, .bin .eql .none (.t 5) (.c (.str []))⟩] (some [0, 6]))
    (.cond (.t 6)
     (.seq
      (.reg [⟨some 2, none, .mov (.c (.int .i64 (-1)))⟩] (some [2]))
      .ret)
     .skip))
   (.seq
    (.reg [⟨some 8, none, .mov (.t 0)⟩,
      ⟨some 9, none, .s2b 5 (.t 8)⟩,
      ⟨some 10, none, .call (.c (.fn (.func 104) [] [])) [(.t 9)]⟩,
      ⟨some 7, none, .mov (.t 10)⟩,
      ⟨some 11, none, .ext (.t 7) 0⟩,
      ⟨some 12, none, .ext (.t 7) 1⟩,
      ⟨some 3, none, .mov (.t 11)⟩,
      ⟨some 4, none, .mov (.t 12)⟩] (some [3]))
    (.seq
     (.reg [⟨some 13, none, .mov (.t 3)⟩,
       ⟨some 2, none, .mov (.t 13)⟩] (some [2]))
     .ret))))
theorem is_wirenumber : IrOf Tryd.prog 88 14 ir_wirenumber [.t 2] := ⟨_, Tryd.func88, rfl, by kernel_rfl, by kernel_rfl, by kernel_rfl⟩

/- (*clavier/wire.reader).params -/
def ir_wirereaderparams_b0 : ICode :=
 (.blk 3
               (.drw [⟨⟨some 37, none, .ld none (.t 5)⟩, []⟩,
                 ⟨⟨some 38, none, .mov (.t 6)⟩, []⟩,
                 ⟨⟨some 39, none, .call (.c (.fn (.func 88) [] [])) [(.t 38)]⟩, [1]⟩,
                 ⟨⟨some 40, none, .row 3 1 [(.t 39)]⟩, [2]⟩,
                 ⟨⟨some 41, none, .app 3 1 8 (.t 37) (.t 40)⟩, [0, 3, 2]⟩]
                 [⟨none, none, .st 1 (.t 5) (.t 41)⟩] (some [])))
def ir_wirereaderparams_b1 : ICode :=
 (.blk 1
         (.seq
          (.reg [⟨some 5, none, .box 64 (.c .nils)⟩] (some [1, 4, 5]))
          (.seq
           (.seq
            (.reg [⟨some 34, none, .mov (.t 4)⟩,
              ⟨some 35, none, .call (.c (.fn (.func 87) [] [])) [(.t 34), (.c (.str [58]))]⟩] (some [1, 5, 35]))
            (.blk 2
             (.rgf (.t 35) [36]
              (.reg [⟨some 6, none, .mov (.t 36)⟩] (some [5, 6]))
              ir_wirereaderparams_b0)))
           (.drw [⟨⟨some 42, none, .ld none (.t 1)⟩, []⟩,
             ⟨⟨some 43, none, .ld none (.t 1)⟩, []⟩,
             ⟨⟨some 44, none, .nck (.t 43)⟩, [1]⟩,
             ⟨⟨some 45, none, .fa 2 (.t 44)⟩, [2]⟩,
             ⟨⟨some 46, none, .fa 2 (.t 45)⟩, [3]⟩,
             ⟨⟨some 47, none, .ld none (.t 46)⟩, [4]⟩,
             ⟨⟨some 48, none, .ld none (.t 5)⟩, []⟩,
             ⟨⟨some 49, none, .row 64 1 [(.t 48)]⟩, [6]⟩,
             ⟨⟨some 50, none, .app 64 1 24 (.t 47) (.t 49)⟩, [5, 7]⟩]
             [⟨some 51, none, .nck (.t 42)⟩,
             ⟨some 52, none, .fa 2 (.t 51)⟩,
             ⟨some 53, none, .fa 2 (.t 52)⟩,
             ⟨none, none, .st 1 (.t 53) (.t 50)⟩] (some [])))))
def ir_wirereaderparams_t4 : ICode :=
 (.seq
  (.reg [⟨some 31, none, .mov (.t 3)⟩,
        ⟨some 32, none, .call (.c (.fn (.func 87) [] [])) [(.t 31), (.c (.str [59]))]⟩] (some [1, 32]))
  (.blk 0
       (.rgf (.t 32) [33]
        (.reg [⟨some 4, none, .mov (.t 33)⟩] (some [1, 4]))
        ir_wirereaderparams_b1)))
def ir_wirereaderparams_t3 : ICode :=
 (.seq
  (.seq
      (.reg [⟨some 29, none, .mov (.t 3)⟩,
        ⟨some 30, none, .bin .eql .none (.t 29) (.c (.str []))⟩] (some [1, 3, 30]))
      (.cond (.t 30)
       .ret
       .skip))
  ir_wirereaderparams_t4)
def ir_wirereaderparams_t2 : ICode :=
 (.seq
  (.reg [⟨some 25, none, .ld none (.t 1)⟩,
      ⟨some 26, none, .nck (.t 25)⟩,
      ⟨some 27, none, .fa 0 (.t 26)⟩,
      ⟨some 28, none, .call (.c (.fn (.func 78) [] [])) [(.t 27), (.c (.int .u8 48)), (.c (.int .u8 59))]⟩,
      ⟨some 3, none, .mov (.t 28)⟩] (some [1, 3]))
  ir_wirereaderparams_t3)
def ir_wirereaderparams_t1 : ICode :=
 (.seq
  (.seq
    (.reg [⟨some 7, none, .ld none (.t 1)⟩,
      ⟨some 8, none, .nck (.t 7)⟩,
      ⟨some 9, none, .fa 0 (.t 8)⟩,
      ⟨some 10, none, .call (.c (.fn (.func 75) [] [])) [(.t 9)]⟩,
      ⟨some 2, none, .mov (.t 10)⟩] (some [1, 2]))
    (.seq
     (.reg [⟨some 11, none, .mov (.t 2)⟩,
       ⟨some 12, none, .bin .geq .none (.t 11) (.c (.int .u8 60))⟩,
       ⟨some 13, none, .mov (.t 12)⟩,
       ⟨some 14, some (13, true), .mov (.t 2)⟩,
       ⟨some 15, some (13, true), .bin .leq .none (.t 14) (.c (.int .u8 63))⟩,
       ⟨some 16, none, .pick (.t 13) (.t 15) (.c (.bool false))⟩] (some [1, 16]))
     (.cond (.t 16)
      (.drwm [(), (), (), ()] [⟨⟨some 17, none, .ld none (.t 1)⟩, []⟩,
        ⟨⟨some 18, none, .ld none (.t 1)⟩, []⟩,
        ⟨⟨some 19, none, .nck (.t 18)⟩, [1]⟩,
        ⟨⟨some 20, none, .fa 0 (.t 19)⟩, [2]⟩,
        ⟨⟨some 21, none, .call (.c (.fn (.func 74) [] [])) [(.t 20)]⟩, [3]⟩]
        [⟨some 22, none, .nck (.t 17)⟩,
        ⟨some 23, none, .fa 2 (.t 22)⟩,
        ⟨some 24, none, .fa 1 (.t 23)⟩,
        ⟨none, none, .st 1 (.t 24) (.t 21)⟩] (some [1]))
      .skip)))
  ir_wirereaderparams_t2)
def ir_wirereaderparams : ICode :=
 (.seq
  (.reg [⟨some 1, none, .box 102 (.t 0)⟩] (some [1]))
  ir_wirereaderparams_t1)
theorem is_wirereaderparams : IrOf Tryd.prog 76 54 ir_wirereaderparams [] := ⟨_, Tryd.func76, rfl, by kernel_rfl, by kernel_rfl, by kernel_rfl⟩


theorem fs_wNumber {Gl : Gh → Prop} (hst : Stays Gl) {t : List UInt8} (ht : t.length ≤ maxLen) : FS Tryd.prog Gl 88 [.str t] [] [] (.int .i64 (numW t)) [] [] := by
  refine FS.of hm hst is_wirenumber (by simp) fun γ hγ hfr => ?_
  (generalize hQ : (fun (ex : Ex) (_ _ : Nat) (s : St) => _) = Q; unfold ir_wirenumber)
  cases t with
  | nil =>
    simp +contextual (maxSteps := 1000000) only [go_sem, reduceCtorEq, ↓reduceIte, Nat.reduceAdd, Nat.reduceEqDiff, Nat.reduceLeDiff, Nat.reduceMul, Nat.reduceBEq, Int.reduceBEq, Int.reduceBNe, Int.reduceLT, Int.reduceLE, Int.reduceGT, Int.reduceGE, Int.reduceToNat, Int.natCast_one, Int.natCast_zero, Int.cast_ofNat_Int]
    rw [← hQ]
    exact ⟨trivial, Ret.flat rfl rfl⟩
  | cons c l =>
    have hl : (c :: l).length < 9223372036854775808 := Nat.lt_of_le_of_lt ht (by decide)
    simp +contextual (maxSteps := 1000000) only [ht, go_sem, reduceCtorEq, ↓reduceIte, Nat.reduceAdd, Nat.reduceEqDiff, Nat.reduceLeDiff, Nat.reduceMul, Nat.reduceBEq, Int.reduceBEq, Int.reduceBNe, Int.reduceLT, Int.reduceLE, Int.reduceGT, Int.reduceGE, Int.reduceToNat, Int.natCast_one, Int.natCast_zero, Int.cast_ofNat_Int]
    refine ⟨ht, ?_⟩
    (refine CallP.pure (fs_take hst hl) (fun _ => rfl) ?_; simp +contextual (maxSteps := 1000000) only [go_sem, reduceCtorEq, ↓reduceIte, Nat.reduceAdd, Nat.reduceEqDiff, Nat.reduceLeDiff, Nat.reduceMul, Nat.reduceBEq, Int.reduceBEq, Int.reduceBNe, Int.reduceLT, Int.reduceLE, Int.reduceGT, Int.reduceGE, Int.reduceToNat, Int.natCast_one, Int.natCast_zero, Int.cast_ofNat_Int])
    rw [← hQ]
    have : numW (c :: l) = ((takeN (c :: l) 0 0).1 : Int) := by unfold numW; rw [if_neg (by simp)]
    rw [this]
    exact ⟨trivial, Ret.flat rfl rfl⟩
theorem CallP.rdX {Gl : Gh → Prop} {k : FuncId} {args : List AV} {p : Nm} {H Ha : Hp} {b : List UInt8} {n n' : Nat} {s s' : Sq} {y : AV} {T : Tk} {f : Nat → Nm} {K : AV → Hp → Tk → Prop} (h : FS Tryd.prog Gl k args [(p, .cells (rdC b n s))] [] y [(p, .cells (rdC b n' s'))] []) (hp : 1 ≤ p.1) (hy : y.flatT = true) (hap : ∀ q ∈ Ha, p ≠ q.1)
    (hH : ∀ q ∈ (p, HB.cells (rdC b n s)) :: Ha, q ∈ H) (hK : K y ((p, .cells (rdC b n' s')) :: Ha) T) : CallP Tryd.prog Gl k args H T f K := by
  refine ⟨_, _, _, h, fun q hq => hH q (by simp only [List.mem_singleton] at hq; subst hq; exact List.mem_cons_self), by simp, ?_⟩
  rintro r H1 T1 ⟨rfl, rfl, rfl⟩
  refine ⟨(p, .cells (rdC b n' s')) :: Ha, T, fun q hq => ?_, fun t ht => .inr ⟨ht, by simp⟩, by rw [flatT_rn hy]; exact hK⟩
  rcases List.mem_cons.1 hq with rfl | hq
  · refine List.mem_append.2 (.inl ?_)
    simp only [rnH, List.map_cons, List.map_nil, nm_real hp, rdC_rn, List.mem_singleton]
  · refine List.mem_append.2 (.inr (List.mem_filter.2 ⟨hH q (List.mem_cons_of_mem _ hq), ?_⟩))
    simp only [List.all_cons, List.all_nil, Bool.and_true, decide_eq_true_eq]
    exact hap q hq
theorem rdC_rnH {f : Nat → Nm} {p : Nm} (hp : 1 ≤ p.1) {b : List UInt8} {n : Nat} {s : Sq} : rnH f [(p, .cells (rdC b n s))] = [(p, .cells (rdC b n s))] := by
  simp only [rnH, List.map_cons, List.map_nil, nm_real hp, rdC_rn]

set_option maxHeartbeats 4000000 in
theorem fs_wParams {Gl : Gh → Prop} (hst : Stays Gl) {p : Nm} (hp : 1 ≤ p.1) {b : List UInt8} {n : Nat} {s : Sq} (hn : n ≤ b.length) (hb : b.length ≤ 4000000000) (h1 : s.pr = 0) (h2 : s.ps = []) :
    FS Tryd.prog Gl 76 [.ptr p 0] [(p, .cells (rdC b n s))] [] (.tup []) [(p, .cells (rdC b (n + (headW (b.drop n)).2.2) { s with pr := (headW (b.drop n)).1, ps := (headW (b.drop n)).2.1 }))] [] := by
  obtain ⟨sk, spr, sps, sit, sfi, sda⟩ := s
  simp only at h1 h2
  subst h1 h2
  refine FS.ofK hm hst is_wirereaderparams (by simp) fun γ hγ hfr => ?_
  have hpg : p.1 ≠ γ := hfr.1 _ List.mem_cons_self
  have hne : ∀ i j, (p = (γ, i, j)) = False := fun i j => eq_false fun e => hpg (by rw [e])
  have hne2 : ∀ i j, ((γ, i, j) = p) = False := fun i j => eq_false fun e => hpg (by rw [← e])
  have hap : ∀ q ∈ ([((γ, 0, 0), .cells [.ptr p 0])] : Hp), p ≠ q.1 := fun q hq e => by simp only [List.mem_singleton] at hq; subst hq; exact hpg (by rw [e])
  (generalize hQ : (fun (ex : Ex) (_ _ : Nat) (s : St) => _) = Q; unfold ir_wirereaderparams)
  simp only [rdC]
  simp +contextual (maxSteps := 1000000) only [hne, hne2, go_sem, reduceCtorEq, ↓reduceIte, Nat.reduceAdd, Nat.reduceEqDiff, Nat.reduceLeDiff, Nat.reduceMul, Nat.reduceBEq, Int.reduceBEq, Int.reduceBNe, Int.reduceLT, Int.reduceLE, Int.reduceGT, Int.reduceGE, Int.reduceToNat, Int.natCast_one, Int.natCast_zero, Int.cast_ofNat_Int]
  unfold ir_wirereaderparams_t1
  simp +contextual (maxSteps := 1000000) only [hne, hne2, go_sem, reduceCtorEq, ↓reduceIte, Nat.reduceAdd, Nat.reduceEqDiff, Nat.reduceLeDiff, Nat.reduceMul, Nat.reduceBEq, Int.reduceBEq, Int.reduceBNe, Int.reduceLT, Int.reduceLE, Int.reduceGT, Int.reduceGE, Int.reduceToNat, Int.natCast_one, Int.natCast_zero, Int.cast_ofNat_Int]
  refine CallP.rdX (Ha := [((γ, 0, 0), .cells [.ptr p 0])]) (fs_peek (b := b) (n := n) (s := ⟨sk, 0, [], sit, sfi, sda⟩) hst hp) hp rfl hap (by simp [rdC]) ?_
  simp only [rdC]
  generalize hc : peekW b n = c
  have hcond : (decide ((c.toNat : Int) ≥ 60) && decide ((c.toNat : Int) ≤ 63)) = isPr c := by
    unfold isPr; rw [Bool.eq_iff_iff]; simp; omega
  -- behind the mark
  have go2 : ∀ (m : Nat) (pr : Int) (c' : Nat) (F : Nat → AV), F 1 = .ptr (γ, 0, 0) 0 → m ≤ b.length → headW (b.drop n) = (pr, numsW (runL 48 59 (b.drop m)), (m - n) + (runL 48 59 (b.drop m)).length) → n ≤ m →
      aw Tryd.prog Gl ir_wirereaderparams_t2 γ c' ⟨F, [(p, .cells [.sl none 1 (bytesAV b), .int .i64 m, .int .i64 sk, .int .u8 pr, pw [], .str sit, .int .u8 sfi, .str sda]), ((γ, 0, 0), .cells [.ptr p 0])], fun x => x ∈ []⟩ Q := by
    intro m pr c' F hF hm' hw hnm
    have cr : FS Tryd.prog Gl 78 [.ptr p 0, .int .u8 48, .int .u8 59] [(p, .cells (rdC b m ⟨sk, pr, [], sit, sfi, sda⟩))] [] (.str (runL 48 59 (b.drop m))) [(p, .cells (rdC b (m + (runL 48 59 (b.drop m)).length) ⟨sk, pr, [], sit, sfi, sda⟩))] [] := fs_run hst hp (x := 48) (y := 59) hm' (by omega)
    have htl := runL_le 48 59 (b.drop m)
    rw [List.length_drop] at htl
    generalize runL 48 59 (b.drop m) = t at cr htl hw
    unfold ir_wirereaderparams_t2
    simp +contextual (maxSteps := 1000000) only [hne, hne2, hF, go_sem, reduceCtorEq, ↓reduceIte, Nat.reduceAdd, Nat.reduceEqDiff, Nat.reduceLeDiff, Nat.reduceMul, Nat.reduceBEq, Int.reduceBEq, Int.reduceBNe, Int.reduceLT, Int.reduceLE, Int.reduceGT, Int.reduceGE, Int.reduceToNat, Int.natCast_one, Int.natCast_zero, Int.cast_ofNat_Int]
    refine CallP.rdX (Ha := [((γ, 0, 0), .cells [.ptr p 0])]) cr hp rfl hap (by simp [rdC]) ?_
    unfold ir_wirereaderparams_t3
    simp only [rdC]
    have hfin : n + ((m - n) + t.length) = m + t.length := by omega
    by_cases hte : t = []
    · have hd : decide (t = []) = true := decide_eq_true hte
      simp +contextual (maxSteps := 1000000) only [hne, hne2, hd, go_sem, reduceCtorEq, ↓reduceIte, Nat.reduceAdd, Nat.reduceEqDiff, Nat.reduceLeDiff, Nat.reduceMul, Nat.reduceBEq, Int.reduceBEq, Int.reduceBNe, Int.reduceLT, Int.reduceLE, Int.reduceGT, Int.reduceGE, Int.reduceToNat, Int.natCast_one, Int.natCast_zero, Int.cast_ofNat_Int]
      rw [← hQ, hw]
      refine ⟨trivial, 0, _, Wk.refl _ _ _, Ret.rd rfl rfl hp ?_⟩
      rw [hfin, hte]
      simp [rdC, numsW, pw]
    · have hd : decide (t = []) = false := decide_eq_false hte
      have hnums : numsW t = (splitB 59 t).map subsW := by unfold numsW; rw [if_neg hte]
      simp +contextual (maxSteps := 1000000) only [hne, hne2, hd, go_sem, reduceCtorEq, ↓reduceIte, Nat.reduceAdd, Nat.reduceEqDiff, Nat.reduceLeDiff, Nat.reduceMul, Nat.reduceBEq, Int.reduceBEq, Int.reduceBNe, Int.reduceLT, Int.reduceLE, Int.reduceGT, Int.reduceGE, Int.reduceToNat, Int.natCast_one, Int.natCast_zero, Int.cast_ofNat_Int]
      unfold ir_wirereaderparams_t4
      simp +contextual (maxSteps := 1000000) only [hne, hne2, go_sem, reduceCtorEq, ↓reduceIte, Nat.reduceAdd, Nat.reduceEqDiff, Nat.reduceLeDiff, Nat.reduceMul, Nat.reduceBEq, Int.reduceBEq, Int.reduceBNe, Int.reduceLT, Int.reduceLE, Int.reduceGT, Int.reduceGE, Int.reduceToNat, Int.natCast_one, Int.natCast_zero, Int.cast_ofNat_Int]
      refine CallP.of (fs_SplitSeq hst) (by simp) (by simp) ?_
      simp only [rnH, hpSplit, rnN, rnHB, rnL, Ab.rn]
      simp +contextual (maxSteps := 1000000) only [hne, hne2, go_sem, reduceCtorEq, ↓reduceIte, Nat.reduceAdd, Nat.reduceEqDiff, Nat.reduceLeDiff, Nat.reduceMul, Nat.reduceBEq, Int.reduceBEq, Int.reduceBNe, Int.reduceLT, Int.reduceLE, Int.reduceGT, Int.reduceGE, Int.reduceToNat, Int.natCast_one, Int.natCast_zero, Int.cast_ofNat_Int]
      refine rgf_of rfl ((splitB 59 t).map fun q => [.str q])
        (fun i H T => ∃ (tk : Option Nm) (Hx : Hp), (tk = none → i = 0) ∧ (∀ x, tk = some x → γ ≤ x.1 ∧ T x) ∧ H = (p, .cells [.sl none 1 (bytesAV b), .int .i64 ((m + t.length : Nat) : Int), .int .i64 sk, .int .u8 pr, sv tk 1 (parsAV (((splitB 59 t).take i).map subsW)), .str sit, .int .u8 sfi, .str sda]) :: ((γ, 0, 0), .cells [.ptr p 0]) :: Hx)
        (fun _ _ _ => False) (hpSplit t 59 (γ, c' + 5 + 2 + 1, 0) (γ, c' + 5 + 2 + 1, 1) (γ, c' + 5 + 2 + 1, 2)) [(p, .cells [.sl none 1 (bytesAV b), .int .i64 ((m + t.length : Nat) : Int), .int .i64 sk, .int .u8 pr, .nils, .str sit, .int .u8 sfi, .str sda]), ((γ, 0, 0), .cells [.ptr p 0])] (fun _ => False)
        (it_split (by simp) (by simp) (by simp) (by omega)) (by simp [hpSplit]) (by simp [hpSplit, hne]) (by simp [pw]) (by simp) ⟨none, [], by simp, by simp, rfl⟩ (by simp) ?_ ?_ (fun _ _ _ h => h.elim)
      · rintro Gl' hst' hG i x H T γ' hx ⟨tk, Hx, hk1, hk2, rfl⟩ hlt hfr'
        simp only [List.getElem?_map, Option.map_eq_some_iff] at hx
        obtain ⟨q, hq, rfl⟩ := hx
        have hqm : q ∈ splitB 59 t := List.mem_of_getElem? hq
        have hql := splitB_mem_len hqm
        have hil : i < (splitB 59 t).length := (List.getElem?_eq_some_iff.1 hq).1
        have hsl := splitB_len (c := 59) (l := t)
        have hpg' : p.1 ≠ γ' := hfr'.1 _ List.mem_cons_self
        have mne : ∀ i j, (p = (γ', i, j)) = False := fun i j => eq_false fun e => hpg' (by rw [e])
        have mne2 : ∀ i j, ((γ', i, j) = p) = False := fun i j => eq_false fun e => hpg' (by rw [← e])
        have gne : (γ = γ') = False := eq_false (by omega)
        have gne2 : (γ' = γ) = False := eq_false (by omega)
        generalize hK : kBd _ _ _ = K
        unfold ir_wirereaderparams_b1
        simp +contextual (maxSteps := 1000000) only [hne, hne2, mne, mne2, gne, gne2, hF, go_sem, reduceCtorEq, ↓reduceIte, Nat.reduceAdd, Nat.reduceEqDiff, Nat.reduceLeDiff, Nat.reduceMul, Nat.reduceBEq, Int.reduceBEq, Int.reduceBNe, Int.reduceLT, Int.reduceLE, Int.reduceGT, Int.reduceGE, Int.reduceToNat, Int.natCast_one, Int.natCast_zero, Int.cast_ofNat_Int]
        refine CallP.of (fs_SplitSeq hst') (by simp) (by simp) ?_
        simp only [rnH, hpSplit, rnN, rnHB, rnL, Ab.rn]
        simp +contextual (maxSteps := 1000000) only [hne, hne2, mne, mne2, gne, gne2, go_sem, reduceCtorEq, ↓reduceIte, Nat.reduceAdd, Nat.reduceEqDiff, Nat.reduceLeDiff, Nat.reduceMul, Nat.reduceBEq, Int.reduceBEq, Int.reduceBNe, Int.reduceLT, Int.reduceLE, Int.reduceGT, Int.reduceGE, Int.reduceToNat, Int.natCast_one, Int.natCast_zero, Int.cast_ofNat_Int]
        refine rgf_of rfl ((splitB 58 q).map fun r => [.str r])
          (fun j H T => ∃ tj : Option Nm, (tj = none → j = 0) ∧ (∀ x, tj = some x → γ' ≤ x.1 ∧ T x) ∧ H = [((γ', 1, 0), .cells [sv tj 1 (intsAV (((splitB 58 q).take j).map numW))])])
          (fun _ _ _ => False) (hpSplit q 58 (γ', 3, 0) (γ', 3, 1) (γ', 3, 2)) [((γ', 1, 0), .cells [.nils])] (fun _ => False)
          (it_split (by simp) (by simp) (by simp) (by omega)) (by simp [hpSplit]) (by simp [hpSplit]) (by simp) (by simp) ⟨none, by simp, by simp, rfl⟩ (by simp) ?_ ?_ (fun _ _ _ h => h.elim)
        · rintro Gl'' hst'' hG' j x H T' γ'' hx ⟨tj, hj1, hj2, rfl⟩ hlt' hfr''
          simp only [List.getElem?_map, Option.map_eq_some_iff] at hx
          obtain ⟨r, hr, rfl⟩ := hx
          have hrl := splitB_mem_len (List.mem_of_getElem? hr)
          have hjl := (List.getElem?_eq_some_iff.1 hr).1
          have hsl' := splitB_len (c := 58) (l := q)
          have hts : (splitB 58 q).take (j + 1) = (splitB 58 q).take j ++ [r] := by rw [List.take_add_one, hr]; rfl
          have hln : (intsAV (((splitB 58 q).take j).map numW)).length ≤ q.length + 1 := by simp [intsAV]; omega
          generalize hK' : kBd _ _ _ = K'
          unfold ir_wirereaderparams_b0
          cases tj with
          | none =>
            obtain rfl := hj1 rfl
            simp +contextual (maxSteps := 1000000) only [go_sem, reduceCtorEq, ↓reduceIte, Nat.reduceAdd, Nat.reduceEqDiff, Nat.reduceLeDiff, Nat.reduceMul, Nat.reduceBEq, Int.reduceBEq, Int.reduceBNe, Int.reduceLT, Int.reduceLE, Int.reduceGT, Int.reduceGE, Int.reduceToNat, Int.natCast_one, Int.natCast_zero, Int.cast_ofNat_Int]
            refine DCall.new (fs_wNumber hst'' (by simp only [maxLen]; omega)) ?_
            simp +contextual (maxSteps := 1000000) only [go_sem, reduceCtorEq, ↓reduceIte, Nat.reduceAdd, Nat.reduceEqDiff, Nat.reduceLeDiff, Nat.reduceMul, Nat.reduceBEq, Int.reduceBEq, Int.reduceBNe, Int.reduceLT, Int.reduceLE, Int.reduceGT, Int.reduceGE, Int.reduceToNat, Int.natCast_one, Int.natCast_zero, Int.cast_ofNat_Int]
            rw [← hK']
            refine ⟨some (γ'', 5, 0), by simp, fun x hx => ?_, ?_⟩
            · cases hx
              exact ⟨by simp only; omega, by simp⟩
            · rw [hts]
              simp [sv, intsAV]
          | some t0 =>
            simp +contextual (maxSteps := 1000000) only [go_sem, reduceCtorEq, ↓reduceIte, Nat.reduceAdd, Nat.reduceEqDiff, Nat.reduceLeDiff, Nat.reduceMul, Nat.reduceBEq, Int.reduceBEq, Int.reduceBNe, Int.reduceLT, Int.reduceLE, Int.reduceGT, Int.reduceGE, Int.reduceToNat, Int.natCast_one, Int.natCast_zero, Int.cast_ofNat_Int]
            refine DCall.new (fs_wNumber hst'' (by simp only [maxLen]; omega)) ?_
            simp +contextual (maxSteps := 1000000) only [go_sem, reduceCtorEq, ↓reduceIte, Nat.reduceAdd, Nat.reduceEqDiff, Nat.reduceLeDiff, Nat.reduceMul, Nat.reduceBEq, Int.reduceBEq, Int.reduceBNe, Int.reduceLT, Int.reduceLE, Int.reduceGT, Int.reduceGE, Int.reduceToNat, Int.natCast_one, Int.natCast_zero, Int.cast_ofNat_Int]
            refine ⟨.inl (hj2 t0 rfl).2, by omega, by simp, ?_⟩
            rw [← hK']
            refine ⟨some (γ'', 5, 0), by simp, fun x hx => ?_, ?_⟩
            · cases hx
              exact ⟨by simp only; omega, .inl (by simp), fun e => hfr''.2 t0 (hj2 t0 rfl).2 (by rw [← e])⟩
            · rw [hts]
              simp [sv, intsAV]
        · rintro H1 T1 ⟨tj, hj1, hj2, rfl⟩
          have hlen' : ((splitB 58 q).map fun r => [AV.str r]).length = (splitB 58 q).length := by simp
          rw [hlen'] at hj1 ⊢
          rw [List.take_length]
          cases tj with
          | none => exact absurd (List.length_eq_zero_iff.1 (hj1 rfl)) (splitB_ne _ _)
          | some u0 =>
            refine ⟨[(p, .cells [.sl none 1 (bytesAV b), .int .i64 ((m + t.length : Nat) : Int), .int .i64 sk, .int .u8 pr, sv tk 1 (parsAV (((splitB 59 t).take i).map subsW)), .str sit, .int .u8 sfi, .str sda]), ((γ, 0, 0), .cells [.ptr p 0]), ((γ', 1, 0), .cells [.sl (some u0) 1 (intsAV (subsW q))])], fun x => x = u0 ∨ T x, fun z hz => ?_, fun x hx => ?_, ?_⟩
            · simp only [List.mem_cons, List.not_mem_nil, or_false] at hz
              rcases hz with rfl | rfl | rfl
              · exact List.mem_append.2 (.inr (List.mem_filter.2 ⟨by simp, by simp [hpSplit, mne2]⟩))
              · exact List.mem_append.2 (.inr (List.mem_filter.2 ⟨by simp, by simp [hpSplit, gne2]⟩))
              · exact List.mem_append.2 (.inl (by simp [sv, subsW]))
            · rcases hx with rfl | hx
              · exact .inl (hj2 _ rfl).2
              · exact .inr ⟨.inr ⟨hx, by simp⟩, by simp⟩
            have hts : (splitB 59 t).take (i + 1) = (splitB 59 t).take i ++ [q] := by rw [List.take_add_one, hq]; rfl
            have hln : (parsAV (((splitB 59 t).take i).map subsW)).length ≤ t.length + 1 := by simp [parsAV]; omega
            cases tk with
            | none =>
              obtain rfl := hk1 rfl
              simp +contextual (maxSteps := 1000000) only [hne, hne2, mne, mne2, gne, gne2, go_sem, reduceCtorEq, ↓reduceIte, Nat.reduceAdd, Nat.reduceEqDiff, Nat.reduceLeDiff, Nat.reduceMul, Nat.reduceBEq, Int.reduceBEq, Int.reduceBNe, Int.reduceLT, Int.reduceLE, Int.reduceGT, Int.reduceGE, Int.reduceToNat, Int.natCast_one, Int.natCast_zero, Int.cast_ofNat_Int]
              rw [← hK]
              refine ⟨some (γ', 13, 0), [((γ', 1, 0), .cells [.sl (some u0) 1 (intsAV (subsW q))])], by simp, fun x hx => ?_, ?_⟩
              · cases hx
                exact ⟨by simp only; omega, by simp⟩
              · rw [hts]
                simp [sv, parsAV, intsV]
            | some t0 =>
              simp +contextual (maxSteps := 1000000) only [hne, hne2, mne, mne2, gne, gne2, go_sem, reduceCtorEq, ↓reduceIte, Nat.reduceAdd, Nat.reduceEqDiff, Nat.reduceLeDiff, Nat.reduceMul, Nat.reduceBEq, Int.reduceBEq, Int.reduceBNe, Int.reduceLT, Int.reduceLE, Int.reduceGT, Int.reduceGE, Int.reduceToNat, Int.natCast_one, Int.natCast_zero, Int.cast_ofNat_Int]
              refine ⟨.inl (.inr (hk2 t0 rfl).2), by omega, by simp, ?_⟩
              rw [← hK]
              refine ⟨some (γ', 13, 0), [((γ', 1, 0), .cells [.sl (some u0) 1 (intsAV (subsW q))])], by simp, fun x hx => ?_, ?_⟩
              · cases hx
                exact ⟨by simp only; omega, .inl (by simp), fun e => hfr'.2 t0 (hk2 t0 rfl).2 (by rw [← e])⟩
              · rw [hts]
                simp [sv, parsAV, intsV]
      · rintro H1 T1 ⟨tk, Hx, hk1, hk2, rfl⟩
        refine ⟨_, fun t => tk = some t, fun p hp => List.mem_append.2 (.inl hp), fun t ht => .inl (hk2 t ht).2, ?_⟩
        have hlen : ((splitB 59 t).map fun p => [AV.str p]).length = (splitB 59 t).length := by simp
        rw [hlen] at hk1 ⊢
        rw [List.take_length]
        cases tk with
        | none => exact absurd (List.length_eq_zero_iff.1 (hk1 rfl)) (splitB_ne _ _)
        | some t0 =>
          simp +contextual (maxSteps := 1000000) only [go_sem, reduceCtorEq, ↓reduceIte, Nat.reduceAdd, Nat.reduceEqDiff, Nat.reduceLeDiff, Nat.reduceMul, Nat.reduceBEq, Int.reduceBEq, Int.reduceBNe, Int.reduceLT, Int.reduceLE, Int.reduceGT, Int.reduceGE, Int.reduceToNat, Int.natCast_one, Int.natCast_zero, Int.cast_ofNat_Int]
          rw [← hQ, hw]
          refine ⟨trivial, 0, ⟨fun _ => .und, [(p, .cells (rdC b (m + t.length) ⟨sk, pr, (splitB 59 t).map subsW, sit, sfi, sda⟩))], fun x => x ∈ []⟩, ⟨fun _ => .und _ _, ?_, by simp⟩, Ret.rd rfl rfl hp ?_⟩
          · intro r hr
            simp only [List.mem_singleton] at hr
            subst hr
            refine ⟨_, List.mem_cons_self, rfl, rfl, fun i x y hx hy => ?_⟩
            have hpw : pw ((splitB 59 t).map subsW) = .sl none 1 (parsAV ((splitB 59 t).map subsW)) := by
              have := splitB_ne 59 t
              cases hs : splitB 59 t with
              | nil => exact absurd hs this
              | cons a l => rfl
            simp only [rdC, hpw] at hy
            rcases i with _ | _ | _ | _ | _ | _ | _ | _ | i <;> simp only [List.getElem?_cons_zero, List.getElem?_cons_succ, List.getElem?_nil, Option.some.injEq, reduceCtorEq] at hx hy <;> subst hx hy <;> first | exact AVle.refl _ _ | exact AVle.le (RepLe.anon' rfl)
          · rw [hfin, hnums]
            exact List.mem_singleton.2 rfl
  cases hpr : isPr c with
  | true =>
    rw [hpr] at hcond
    have hlt : n < b.length := by
      rcases Nat.lt_or_ge n b.length with h | h
      · exact h
      · rw [peek_ge h] at hc
        subst hc
        simp [isPr] at hpr
    have hh : headW (b.drop n) = ((c.toNat : Int), numsW (runL 48 59 (b.drop (n + 1))), (n + 1 - n) + (runL 48 59 (b.drop (n + 1))).length) := by
      unfold headW
      have : (b.drop n).headD 0 = c := hc
      rw [this, hpr]
      simp only [if_true, List.drop_drop]
      rw [show n + 1 - n = 1 by omega]
    simp +contextual (maxSteps := 1000000) only [hne, hne2, hcond, go_sem, reduceCtorEq, ↓reduceIte, Nat.reduceAdd, Nat.reduceEqDiff, Nat.reduceLeDiff, Nat.reduceMul, Nat.reduceBEq, Int.reduceBEq, Int.reduceBNe, Int.reduceLT, Int.reduceLE, Int.reduceGT, Int.reduceGE, Int.reduceToNat, Int.natCast_one, Int.natCast_zero, Int.cast_ofNat_Int]
    refine kDrwM_of [((γ, 0, 0), .cells [.ptr p 0])] [(p, .cells (rdC b n ⟨sk, 0, [], sit, sfi, sda⟩))] (by simp [rdC]) (fun q hq q' hq' => ?_) ?_
    · simp only [List.mem_singleton] at hq hq'
      subst hq hq'
      exact fun e => hpg (by rw [show p = (γ, 0, 0) from e])
    simp +contextual (maxSteps := 1000000) only [hne, hne2, go_sem, reduceCtorEq, ↓reduceIte, Nat.reduceAdd, Nat.reduceEqDiff, Nat.reduceLeDiff, Nat.reduceMul, Nat.reduceBEq, Int.reduceBEq, Int.reduceBNe, Int.reduceLT, Int.reduceLE, Int.reduceGT, Int.reduceGE, Int.reduceToNat, Int.natCast_one, Int.natCast_zero, Int.cast_ofNat_Int]
    refine MCall.of (fs_next hst hp (by omega)) (fun _ => rfl) (fun _ => rdC_rnH hp) (fun q hq q' hq' => ?_) ?_
    · simp only [List.mem_singleton] at hq hq'
      subst hq hq'
      exact fun e => hpg (by rw [← show (γ, 0, 0) = p from e])
    rw [hc]
    simp only [rdC]
    simp +contextual (maxSteps := 1000000) only [hne, hne2, go_sem, reduceCtorEq, ↓reduceIte, Nat.reduceAdd, Nat.reduceEqDiff, Nat.reduceLeDiff, Nat.reduceMul, Nat.reduceBEq, Int.reduceBEq, Int.reduceBNe, Int.reduceLT, Int.reduceLE, Int.reduceGT, Int.reduceGE, Int.reduceToNat, Int.natCast_one, Int.natCast_zero, Int.cast_ofNat_Int]
    exact go2 (n + 1) c.toNat _ _ rfl hlt hh (by omega)
  | false =>
    rw [hpr] at hcond
    simp +contextual (maxSteps := 1000000) only [hne, hne2, hcond, go_sem, reduceCtorEq, ↓reduceIte, Nat.reduceAdd, Nat.reduceEqDiff, Nat.reduceLeDiff, Nat.reduceMul, Nat.reduceBEq, Int.reduceBEq, Int.reduceBNe, Int.reduceLT, Int.reduceLE, Int.reduceGT, Int.reduceGE, Int.reduceToNat, Int.natCast_one, Int.natCast_zero, Int.cast_ofNat_Int]
    refine go2 n 0 _ _ rfl hn ?_ (Nat.le_refl n)
    unfold headW
    have : (b.drop n).headD 0 = c := hc
    rw [this, hpr]
    simp
end Go.Proofs.YthmjlngdbabdeaaDoor

/- The reader of sequences: what stands behind parameters; a sequence. -/
set_option linter.unusedVariables false
set_option linter.unusedSimpArgs false
set_option maxRecDepth 100000
namespace Go.Proofs.YthmjlngdbabdeaaDoor
open Go Go.Ab
/-- (*clavier/wire.reader).rest -/
def ir_wirereaderrest : ICode :=
 (.seq
  (.reg [⟨some 2, none, .mov (.t 0)⟩,
    ⟨some 3, none, .mov (.t 0)⟩,
    ⟨some 4, none, .nck (.t 3)⟩,
    ⟨some 5, none, .fa 0 (.t 4)⟩,
    ⟨some 6, none, .call (.c (.fn (.func 78) [] [])) [(.t 5), (.c (.int .u8 32)), (.c (.int .u8 47))]⟩,
    ⟨some 7, none, .nck (.t 2)⟩,
    ⟨some 8, none, .fa 2 (.t 7)⟩,
    ⟨some 9, none, .fa 3 (.t 8)⟩,
    ⟨none, none, .st 1 (.t 9) (.t 6)⟩] (some [0]))
  (.reg [⟨some 10, none, .mov (.t 0)⟩,
    ⟨some 11, none, .mov (.t 0)⟩,
    ⟨some 12, none, .nck (.t 11)⟩,
    ⟨some 13, none, .fa 0 (.t 12)⟩,
    ⟨some 14, none, .call (.c (.fn (.func 74) [] [])) [(.t 13)]⟩,
    ⟨some 15, none, .nck (.t 10)⟩,
    ⟨some 16, none, .fa 2 (.t 15)⟩,
    ⟨some 17, none, .fa 4 (.t 16)⟩,
    ⟨none, none, .st 1 (.t 17) (.t 14)⟩] (some [])))
theorem is_wirereaderrest : IrOf Tryd.prog 77 18 ir_wirereaderrest [] := ⟨_, Tryd.func77, rfl, by kernel_rfl, by kernel_rfl, by kernel_rfl⟩

/-- (*clavier/wire.reader).read -/
def ir_wirereaderread : ICode :=
 (.seq
  (.seq
   (.reg [⟨some 2, none, .mov (.t 0)⟩,
     ⟨some 3, none, .nck (.t 2)⟩,
     ⟨some 4, none, .fa 0 (.t 3)⟩,
     ⟨some 5, none, .call (.c (.fn (.func 74) [] [])) [(.t 4)]⟩,
     ⟨some 6, none, .bin .neq .none (.t 5) (.c (.int .u8 27))⟩] (some [0, 6]))
   (.cond (.t 6)
    .ret
    .skip))
  (.seq
   (.reg [⟨some 7, none, .mov (.t 0)⟩,
     ⟨some 8, none, .nck (.t 7)⟩,
     ⟨some 9, none, .fa 0 (.t 8)⟩,
     ⟨some 10, none, .call (.c (.fn (.func 75) [] [])) [(.t 9)]⟩] (some [0, 10]))
   (.blk 0
    (.seq
     (.reg [⟨some 18, none, .bin .eql .none (.t 10) (.c (.int .u8 91))⟩,
       ⟨some 17, none, .mov (.t 18)⟩] (some [0, 10, 17]))
     (.cond (.t 17)
      (.seq
       (.reg [⟨some 19, none, .mov (.t 0)⟩,
         ⟨some 20, none, .nck (.t 19)⟩,
         ⟨some 21, none, .fa 2 (.t 20)⟩,
         ⟨some 22, none, .fa 0 (.t 21)⟩,
         ⟨none, none, .st 1 (.t 22) (.c (.int .i64 1))⟩] (some [0]))
       (.seq
        (.reg [⟨some 23, none, .mov (.t 0)⟩,
          ⟨some 24, none, .nck (.t 23)⟩,
          ⟨some 25, none, .fa 0 (.t 24)⟩,
          ⟨some 26, none, .fa 1 (.t 25)⟩,
          ⟨some 27, none, .ld none (.t 26)⟩,
          ⟨some 28, none, .bin .add .none (.t 27) (.c (.int .i64 1))⟩,
          ⟨some 29, none, .nck (.t 23)⟩,
          ⟨some 30, none, .fa 0 (.t 29)⟩,
          ⟨some 31, none, .fa 1 (.t 30)⟩,
          ⟨none, none, .st 1 (.t 31) (.t 28)⟩] (some [0]))
        (.seq
         (.reg [⟨some 32, none, .mov (.t 0)⟩,
           ⟨some 33, none, .call (.c (.fn (.func 76) [] [])) [(.t 32)]⟩] (some [0]))
         (.reg [⟨some 34, none, .mov (.t 0)⟩,
           ⟨some 35, none, .call (.c (.fn (.func 77) [] [])) [(.t 34)]⟩] (some [])))))
      (.seq
       (.reg [⟨some 37, none, .bin .eql .none (.t 10) (.c (.int .u8 79))⟩,
         ⟨some 36, none, .mov (.t 37)⟩] (some [0, 10, 36]))
       (.cond (.t 36)
        (.seq
         (.reg [⟨some 38, none, .mov (.t 0)⟩,
           ⟨some 39, none, .nck (.t 38)⟩,
           ⟨some 40, none, .fa 2 (.t 39)⟩,
           ⟨some 41, none, .fa 0 (.t 40)⟩,
           ⟨none, none, .st 1 (.t 41) (.c (.int .i64 2))⟩] (some [0]))
         (.seq
          (.reg [⟨some 42, none, .mov (.t 0)⟩,
            ⟨some 43, none, .nck (.t 42)⟩,
            ⟨some 44, none, .fa 0 (.t 43)⟩,
            ⟨some 45, none, .fa 1 (.t 44)⟩,
            ⟨some 46, none, .ld none (.t 45)⟩,
            ⟨some 47, none, .bin .add .none (.t 46) (.c (.int .i64 1))⟩,
            ⟨some 48, none, .nck (.t 42)⟩,
            ⟨some 49, none, .fa 0 (.t 48)⟩,
            ⟨some 50, none, .fa 1 (.t 49)⟩,
            ⟨none, none, .st 1 (.t 50) (.t 47)⟩] (some [0]))
          (.reg [⟨some 51, none, .mov (.t 0)⟩,
            ⟨some 52, none, .mov (.t 0)⟩,
            ⟨some 53, none, .nck (.t 52)⟩,
            ⟨some 54, none, .fa 0 (.t 53)⟩,
            ⟨some 55, none, .call (.c (.fn (.func 74) [] [])) [(.t 54)]⟩,
            ⟨some 56, none, .nck (.t 51)⟩,
            ⟨some 57, none, .fa 2 (.t 56)⟩,
            ⟨some 58, none, .fa 4 (.t 57)⟩,
            ⟨none, none, .st 1 (.t 58) (.t 55)⟩] (some []))))
        (.seq
         (.reg [⟨some 60, none, .bin .eql .none (.t 10) (.c (.int .u8 80))⟩,
           ⟨some 59, none, .mov (.t 60)⟩] (some [0, 10, 59]))
         (.cond (.t 59)
          (.seq
           (.reg [⟨some 61, none, .mov (.t 0)⟩,
             ⟨some 62, none, .nck (.t 61)⟩,
             ⟨some 63, none, .fa 2 (.t 62)⟩,
             ⟨some 64, none, .fa 0 (.t 63)⟩,
             ⟨none, none, .st 1 (.t 64) (.c (.int .i64 3))⟩] (some [0]))
           (.seq
            (.reg [⟨some 65, none, .mov (.t 0)⟩,
              ⟨some 66, none, .nck (.t 65)⟩,
              ⟨some 67, none, .fa 0 (.t 66)⟩,
              ⟨some 68, none, .fa 1 (.t 67)⟩,
              ⟨some 69, none, .ld none (.t 68)⟩,
              ⟨some 70, none, .bin .add .none (.t 69) (.c (.int .i64 1))⟩,
              ⟨some 71, none, .nck (.t 65)⟩,
              ⟨some 72, none, .fa 0 (.t 71)⟩,
              ⟨some 73, none, .fa 1 (.t 72)⟩,
              ⟨none, none, .st 1 (.t 73) (.t 70)⟩] (some [0]))
            (.seq
             (.reg [⟨some 74, none, .mov (.t 0)⟩,
               ⟨some 75, none, .call (.c (.fn (.func 76) [] [])) [(.t 74)]⟩] (some [0]))
             (.seq
              (.reg [⟨some 76, none, .mov (.t 0)⟩,
                ⟨some 77, none, .call (.c (.fn (.func 77) [] [])) [(.t 76)]⟩] (some [0]))
              (.seq
               (.reg [⟨some 78, none, .mov (.t 0)⟩,
                 ⟨some 79, none, .mov (.t 0)⟩,
                 ⟨some 80, none, .nck (.t 79)⟩,
                 ⟨some 81, none, .fa 0 (.t 80)⟩,
                 ⟨some 82, none, .call (.c (.fn (.func 78) [] [])) [(.t 81), (.c (.int .u8 32)), (.c (.int .u8 126))]⟩,
                 ⟨some 83, none, .nck (.t 78)⟩,
                 ⟨some 84, none, .fa 2 (.t 83)⟩,
                 ⟨some 85, none, .fa 5 (.t 84)⟩,
                 ⟨none, none, .st 1 (.t 85) (.t 82)⟩] (some [0]))
               (.reg [⟨some 86, none, .mov (.t 0)⟩,
                 ⟨some 87, none, .nck (.t 86)⟩,
                 ⟨some 88, none, .fa 0 (.t 87)⟩,
                 ⟨some 89, none, .fa 1 (.t 88)⟩,
                 ⟨some 90, none, .ld none (.t 89)⟩,
                 ⟨some 91, none, .bin .add .none (.t 90) (.c (.int .i64 2))⟩,
                 ⟨some 92, none, .nck (.t 86)⟩,
                 ⟨some 93, none, .fa 0 (.t 92)⟩,
                 ⟨some 94, none, .fa 1 (.t 93)⟩,
                 ⟨none, none, .st 1 (.t 94) (.t 91)⟩] (some [])))))))
          (.seq
           (.reg [⟨some 96, none, .bin .eql .none (.t 10) (.c (.int .u8 93))⟩,
             ⟨some 95, none, .mov (.t 96)⟩] (some [0, 95]))
           (.cond (.t 95)
            (.seq
             (.reg [⟨some 97, none, .mov (.t 0)⟩,
               ⟨some 98, none, .nck (.t 97)⟩,
               ⟨some 99, none, .fa 2 (.t 98)⟩,
               ⟨some 100, none, .fa 0 (.t 99)⟩,
               ⟨none, none, .st 1 (.t 100) (.c (.int .i64 4))⟩] (some [0]))
             (.seq
              (.reg [⟨some 101, none, .mov (.t 0)⟩,
                ⟨some 102, none, .nck (.t 101)⟩,
                ⟨some 103, none, .fa 0 (.t 102)⟩,
                ⟨some 104, none, .fa 1 (.t 103)⟩,
                ⟨some 105, none, .ld none (.t 104)⟩,
                ⟨some 106, none, .bin .add .none (.t 105) (.c (.int .i64 1))⟩,
                ⟨some 107, none, .nck (.t 101)⟩,
                ⟨some 108, none, .fa 0 (.t 107)⟩,
                ⟨some 109, none, .fa 1 (.t 108)⟩,
                ⟨none, none, .st 1 (.t 109) (.t 106)⟩] (some [0]))
              (.seq
               (.reg [⟨some 110, none, .mov (.t 0)⟩,
                 ⟨some 111, none, .mov (.t 0)⟩,
                 ⟨some 112, none, .nck (.t 111)⟩,
                 ⟨some 113, none, .fa 0 (.t 112)⟩,
                 ⟨some 114, none, .call (.c (.fn (.func 78) [] [])) [(.t 113), (.c (.int .u8 32)), (.c (.int .u8 126))]⟩,
                 ⟨some 115, none, .nck (.t 110)⟩,
                 ⟨some 116, none, .fa 2 (.t 115)⟩,
                 ⟨some 117, none, .fa 5 (.t 116)⟩,
                 ⟨none, none, .st 1 (.t 117) (.t 114)⟩] (some [0]))
               (.reg [⟨some 118, none, .mov (.t 0)⟩,
                 ⟨some 119, none, .nck (.t 118)⟩,
                 ⟨some 120, none, .fa 0 (.t 119)⟩,
                 ⟨some 121, none, .fa 1 (.t 120)⟩,
                 ⟨some 122, none, .ld none (.t 121)⟩,
                 ⟨some 123, none, .bin .add .none (.t 122) (.c (.int .i64 2))⟩,
                 ⟨some 124, none, .nck (.t 118)⟩,
                 ⟨some 125, none, .fa 0 (.t 124)⟩,
                 ⟨some 126, none, .fa 1 (.t 125)⟩,
                 ⟨none, none, .st 1 (.t 126) (.t 123)⟩] (some [])))))
            (.seq
             (.reg [⟨some 11, none, .mov (.t 0)⟩,
               ⟨some 12, none, .nck (.t 11)⟩,
               ⟨some 13, none, .fa 2 (.t 12)⟩,
               ⟨some 14, none, .fa 0 (.t 13)⟩,
               ⟨none, none, .st 1 (.t 14) (.c (.int .i64 5))⟩] (some [0]))
             (.reg [⟨some 15, none, .mov (.t 0)⟩,
               ⟨some 16, none, .call (.c (.fn (.func 77) [] [])) [(.t 15)]⟩] (some []))))))))))))))
theorem is_wirereaderread : IrOf Tryd.prog 48 127 ir_wirereaderread [] := ⟨_, Tryd.func48, rfl, by kernel_rfl, by kernel_rfl, by kernel_rfl⟩


theorem peek_drop {b : List UInt8} {n k : Nat} : ((b.drop n).drop k).headD 0 = peekW b (n + k) := by unfold peekW; rw [List.drop_drop]
theorem headW_le (l : List UInt8) : (headW l).2.2 ≤ l.length := by
  unfold headW
  simp only
  split
  · rename_i h
    have h1 := runL_le 48 59 (l.drop 1)
    rw [List.length_drop] at h1
    cases l with
    | nil => simp [isPr] at h
    | cons c l => simp only [List.length_cons] at h1 ⊢; omega
  · have h1 := runL_le 48 59 (l.drop 0)
    rw [List.drop_zero] at h1 ⊢
    omega
theorem fs_wRest {Gl : Gh → Prop} (hst : Stays Gl) {p : Nm} (hp : 1 ≤ p.1) {b : List UInt8} {n : Nat} {s : Sq} (hn : n ≤ b.length) (hb : b.length ≤ 4000000000) :
    FS Tryd.prog Gl 77 [.ptr p 0] [(p, .cells (rdC b n s))] [] (.tup []) [(p, .cells (rdC b (n + (restW (b.drop n)).2.2) { s with it := (restW (b.drop n)).1, fi := (restW (b.drop n)).2.1 }))] [] := by
  refine FS.of hm hst is_wirereaderrest (by simp) fun γ hγ hfr => ?_
  have c1 : FS Tryd.prog Gl 78 [.ptr p 0, .int .u8 32, .int .u8 47] [(p, .cells (rdC b n s))] [] (.str (runL 32 47 (b.drop n))) [(p, .cells (rdC b (n + (runL 32 47 (b.drop n)).length) s))] [] := fs_run hst hp (x := 32) (y := 47) hn (by omega)
  have hle := runL_le 32 47 (b.drop n)
  rw [List.length_drop] at hle
  have hw : restW (b.drop n) = (runL 32 47 (b.drop n), ((peekW b (n + (runL 32 47 (b.drop n)).length)).toNat : Int), (runL 32 47 (b.drop n)).length + 1) := by
    unfold restW; simp only [peek_drop]
  rw [hw]
  generalize runL 32 47 (b.drop n) = t at c1 hle
  have c2 := fs_next (Gl := Gl) hst hp (b := b) (n := n + t.length) (s := { s with it := t }) (by omega)
  (generalize hQ : (fun (ex : Ex) (_ _ : Nat) (s : St) => _) = Q; unfold ir_wirereaderrest)
  simp only [rdC]
  simp +contextual (maxSteps := 1000000) only [go_sem, reduceCtorEq, ↓reduceIte, Nat.reduceAdd, Nat.reduceEqDiff, Nat.reduceLeDiff, Nat.reduceMul, Nat.reduceBEq, Int.reduceBEq, Int.reduceBNe, Int.reduceLT, Int.reduceLE, Int.reduceGT, Int.reduceGE, Int.reduceToNat, Int.natCast_one, Int.natCast_zero, Int.cast_ofNat_Int]
  refine CallP.rdX (Ha := []) c1 hp rfl (by simp) (by simp [rdC]) ?_
  simp only [rdC]
  simp +contextual (maxSteps := 1000000) only [go_sem, reduceCtorEq, ↓reduceIte, Nat.reduceAdd, Nat.reduceEqDiff, Nat.reduceLeDiff, Nat.reduceMul, Nat.reduceBEq, Int.reduceBEq, Int.reduceBNe, Int.reduceLT, Int.reduceLE, Int.reduceGT, Int.reduceGE, Int.reduceToNat, Int.natCast_one, Int.natCast_zero, Int.cast_ofNat_Int]
  refine CallP.rdX (Ha := []) c2 hp rfl (by simp) (by simp [rdC]) ?_
  simp only [rdC]
  simp +contextual (maxSteps := 1000000) only [go_sem, reduceCtorEq, ↓reduceIte, Nat.reduceAdd, Nat.reduceEqDiff, Nat.reduceLeDiff, Nat.reduceMul, Nat.reduceBEq, Int.reduceBEq, Int.reduceBNe, Int.reduceLT, Int.reduceLE, Int.reduceGT, Int.reduceGE, Int.reduceToNat, Int.natCast_one, Int.natCast_zero, Int.cast_ofNat_Int]
  rw [← hQ]
  exact ⟨trivial, Ret.rd rfl rfl hp (by simp [rdC, Nat.add_assoc])⟩

/-- No sequence with data is cut off ahead of these. -/
def dcsOk (b : List UInt8) : Prop := b.headD 0 = 27 → (b.drop 1).headD 0 = 80 → 2 + (headW (b.drop 2)).2.2 + (restW (b.drop (2 + (headW (b.drop 2)).2.2))).2.2 ≤ b.length
theorem u8_eq {c : UInt8} {k : Nat} (hk : k < 256) : ((c.toNat : Int) == (k : Int)) = decide (c = UInt8.ofNat k) := by
  rw [Bool.eq_iff_iff, beq_iff_eq, decide_eq_true_eq]
  constructor
  · intro h
    have h : c.toNat = k := by omega
    rw [← h, UInt8.ofNat_toNat]
  · rintro rfl
    rw [UInt8.toNat_ofNat', Nat.mod_eq_of_lt hk]
theorem u8_ne {c : UInt8} {k : Nat} (hk : k < 256) : ((c.toNat : Int) != (k : Int)) = !decide (c = UInt8.ofNat k) := by
  rw [bne, u8_eq hk]
set_option maxHeartbeats 4000000 in
theorem fs_wRead {Gl : Gh → Prop} (hst : Stays Gl) {p : Nm} (hp : 1 ≤ p.1) {b : List UInt8} (hb : b.length ≤ 4000000000) (hd : dcsOk b) :
    FS Tryd.prog Gl 48 [.ptr p 0] [(p, .cells (rdC b 0 zeroSq))] [] (.tup []) [(p, .cells (rdC b (readW b).2 (readW b).1))] [] := by
  refine FS.of hm hst is_wirereaderread (by simp) fun γ hγ hfr => ?_
  have w2 : IntKind.i64.wrap 2 = 2 := by decide
  (generalize hQ : (fun (ex : Ex) (_ _ : Nat) (s : St) => _) = Q; unfold ir_wirereaderread)
  simp +contextual (maxSteps := 1000000) only [go_sem, reduceCtorEq, ↓reduceIte, Nat.reduceAdd, Nat.reduceEqDiff, Nat.reduceLeDiff, Nat.reduceMul, Nat.reduceBEq, Int.reduceBEq, Int.reduceBNe, Int.reduceLT, Int.reduceLE, Int.reduceGT, Int.reduceGE, Int.reduceToNat, Int.natCast_one, Int.natCast_zero, Int.cast_ofNat_Int]
  refine CallP.rdX (Ha := []) (fs_next (b := b) (n := 0) (s := zeroSq) hst hp (by omega)) hp rfl (by simp) (by simp) ?_
  have hpk : peekW b 0 = b.headD 0 := by unfold peekW; rw [List.drop_zero]
  rw [hpk]
  have n1 : (((b.headD 0).toNat : Int) != 27) = !decide (b.headD 0 = 27) := u8_ne (k := 27) (by omega)
  by_cases h27 : b.headD 0 = 27
  · have n1 : (((b.headD 0).toNat : Int) != 27) = false := by rw [n1, decide_eq_true h27]; rfl
    have hl1 : 1 ≤ b.length := by
      cases b with
      | nil => simp at h27
      | cons c l => simp
    simp +contextual (maxSteps := 1000000) only [n1, go_sem, reduceCtorEq, ↓reduceIte, Nat.reduceAdd, Nat.reduceEqDiff, Nat.reduceLeDiff, Nat.reduceMul, Nat.reduceBEq, Int.reduceBEq, Int.reduceBNe, Int.reduceLT, Int.reduceLE, Int.reduceGT, Int.reduceGE, Int.reduceToNat, Int.natCast_one, Int.natCast_zero, Int.cast_ofNat_Int]
    refine CallP.rdX (Ha := []) (fs_peek (b := b) (n := 1) (s := zeroSq) hst hp) hp rfl (by simp) (by simp) ?_
    have hpk1 : peekW b 1 = (b.drop 1).headD 0 := rfl
    rw [hpk1]
    generalize hc : (b.drop 1).headD 0 = c
    have k2 : c ≠ 0 → 2 ≤ b.length := fun h => by
      rcases Nat.lt_or_ge 1 b.length with h' | h'
      · omega
      · rw [List.drop_eq_nil_of_le (by omega)] at hc
        exact absurd hc.symm h
    have g1 : ((c.toNat : Int) == 91) = decide (c = 91) := u8_eq (k := 91) (by omega)
    have g2 : ((c.toNat : Int) == 79) = decide (c = 79) := u8_eq (k := 79) (by omega)
    have g3 : ((c.toNat : Int) == 80) = decide (c = 80) := u8_eq (k := 80) (by omega)
    have g4 : ((c.toNat : Int) == 93) = decide (c = 93) := u8_eq (k := 93) (by omega)
    have hz : zeroSq = ⟨0, 0, [], [], 0, []⟩ := rfl
    have hl2 := headW_le (b.drop 2)
    rw [List.length_drop] at hl2
    have hrd : readW b = (if c = 91 then
        (⟨1, (headW (b.drop 2)).1, (headW (b.drop 2)).2.1, (restW (b.drop (2 + (headW (b.drop 2)).2.2))).1, (restW (b.drop (2 + (headW (b.drop 2)).2.2))).2.1, []⟩, 2 + (headW (b.drop 2)).2.2 + (restW (b.drop (2 + (headW (b.drop 2)).2.2))).2.2)
      else if c = 79 then (⟨2, 0, [], [], ((b.drop 2).headD 0).toNat, []⟩, 3)
      else if c = 80 then
        (⟨3, (headW (b.drop 2)).1, (headW (b.drop 2)).2.1, (restW (b.drop (2 + (headW (b.drop 2)).2.2))).1, (restW (b.drop (2 + (headW (b.drop 2)).2.2))).2.1, runL 32 126 (b.drop (2 + (headW (b.drop 2)).2.2 + (restW (b.drop (2 + (headW (b.drop 2)).2.2))).2.2))⟩, 2 + (headW (b.drop 2)).2.2 + (restW (b.drop (2 + (headW (b.drop 2)).2.2))).2.2 + (runL 32 126 (b.drop (2 + (headW (b.drop 2)).2.2 + (restW (b.drop (2 + (headW (b.drop 2)).2.2))).2.2))).length + 2)
      else if c = 93 then (⟨4, 0, [], [], 0, runL 32 126 (b.drop 2)⟩, 2 + (runL 32 126 (b.drop 2)).length + 2)
      else (⟨5, 0, [], (restW (b.drop 1)).1, (restW (b.drop 1)).2.1, []⟩, 1 + (restW (b.drop 1)).2.2)) := by
      unfold readW
      rw [if_neg (not_not_intro h27)]
      simp only [hc]
    have cp : ∀ k, 2 ≤ b.length → FS Tryd.prog Gl 76 [.ptr p 0] [(p, .cells (rdC b 2 ⟨k, 0, [], [], 0, []⟩))] [] (.tup []) [(p, .cells (rdC b (2 + (headW (b.drop 2)).2.2) ⟨k, (headW (b.drop 2)).1, (headW (b.drop 2)).2.1, [], 0, []⟩))] [] := fun k h => fs_wParams hst hp (s := ⟨k, 0, [], [], 0, []⟩) h hb rfl rfl
    have cq : ∀ k, 2 ≤ b.length → FS Tryd.prog Gl 77 [.ptr p 0] [(p, .cells (rdC b (2 + (headW (b.drop 2)).2.2) ⟨k, (headW (b.drop 2)).1, (headW (b.drop 2)).2.1, [], 0, []⟩))] [] (.tup []) [(p, .cells (rdC b (2 + (headW (b.drop 2)).2.2 + (restW (b.drop (2 + (headW (b.drop 2)).2.2))).2.2) ⟨k, (headW (b.drop 2)).1, (headW (b.drop 2)).2.1, (restW (b.drop (2 + (headW (b.drop 2)).2.2))).1, (restW (b.drop (2 + (headW (b.drop 2)).2.2))).2.1, []⟩))] [] := fun k h => fs_wRest hst hp (s := ⟨k, (headW (b.drop 2)).1, (headW (b.drop 2)).2.1, [], 0, []⟩) (by omega) hb
    simp only [rdC, hz]
    by_cases e1 : c = 91
    · have g1 : ((c.toNat : Int) == 91) = true := by rw [g1]; exact decide_eq_true e1
      rw [if_pos e1] at hrd
      have h2 := k2 (by rw [e1]; decide)
      simp +contextual (maxSteps := 1000000) only [g1, w2, go_sem, reduceCtorEq, ↓reduceIte, Nat.reduceAdd, Nat.reduceEqDiff, Nat.reduceLeDiff, Nat.reduceMul, Nat.reduceBEq, Int.reduceBEq, Int.reduceBNe, Int.reduceLT, Int.reduceLE, Int.reduceGT, Int.reduceGE, Int.reduceToNat, Int.natCast_one, Int.natCast_zero, Int.cast_ofNat_Int]
      refine CallP.rdX (Ha := []) (cp 1 h2) hp rfl (by simp) (by simp [rdC, pw, w2]) ?_
      simp +contextual (maxSteps := 1000000) only [go_sem, reduceCtorEq, ↓reduceIte, Nat.reduceAdd, Nat.reduceEqDiff, Nat.reduceLeDiff, Nat.reduceMul, Nat.reduceBEq, Int.reduceBEq, Int.reduceBNe, Int.reduceLT, Int.reduceLE, Int.reduceGT, Int.reduceGE, Int.reduceToNat, Int.natCast_one, Int.natCast_zero, Int.cast_ofNat_Int]
      refine CallP.rdX (Ha := []) (cq 1 h2) hp rfl (by simp) (by simp) ?_
      simp +contextual (maxSteps := 1000000) only [go_sem, reduceCtorEq, ↓reduceIte, Nat.reduceAdd, Nat.reduceEqDiff, Nat.reduceLeDiff, Nat.reduceMul, Nat.reduceBEq, Int.reduceBEq, Int.reduceBNe, Int.reduceLT, Int.reduceLE, Int.reduceGT, Int.reduceGE, Int.reduceToNat, Int.natCast_one, Int.natCast_zero, Int.cast_ofNat_Int]
      rw [← hQ, hrd]
      exact ⟨trivial, Ret.rd rfl rfl hp (by simp)⟩
    · have g1 : ((c.toNat : Int) == 91) = false := by rw [g1]; exact decide_eq_false e1
      rw [if_neg e1] at hrd
      by_cases e2 : c = 79
      · have g2 : ((c.toNat : Int) == 79) = true := by rw [g2]; exact decide_eq_true e2
        rw [if_pos e2] at hrd
        simp +contextual (maxSteps := 1000000) only [g1, g2, w2, go_sem, reduceCtorEq, ↓reduceIte, Nat.reduceAdd, Nat.reduceEqDiff, Nat.reduceLeDiff, Nat.reduceMul, Nat.reduceBEq, Int.reduceBEq, Int.reduceBNe, Int.reduceLT, Int.reduceLE, Int.reduceGT, Int.reduceGE, Int.reduceToNat, Int.natCast_one, Int.natCast_zero, Int.cast_ofNat_Int]
        refine CallP.rdX (Ha := []) (fs_next hst hp (b := b) (n := 2) (s := ⟨2, 0, [], [], 0, []⟩) (by omega)) hp rfl (by simp) (by simp [rdC, pw, w2]) ?_
        simp only [rdC]
        simp +contextual (maxSteps := 1000000) only [go_sem, reduceCtorEq, ↓reduceIte, Nat.reduceAdd, Nat.reduceEqDiff, Nat.reduceLeDiff, Nat.reduceMul, Nat.reduceBEq, Int.reduceBEq, Int.reduceBNe, Int.reduceLT, Int.reduceLE, Int.reduceGT, Int.reduceGE, Int.reduceToNat, Int.natCast_one, Int.natCast_zero, Int.cast_ofNat_Int]
        rw [← hQ, hrd]
        exact ⟨trivial, Ret.rd rfl rfl hp (by simp [rdC, peekW])⟩
      · have g2 : ((c.toNat : Int) == 79) = false := by rw [g2]; exact decide_eq_false e2
        rw [if_neg e2] at hrd
        by_cases e3 : c = 80
        · have g3 : ((c.toNat : Int) == 80) = true := by rw [g3]; exact decide_eq_true e3
          rw [if_pos e3] at hrd
          have h2 := k2 (by rw [e3]; decide)
          have hdd := hd h27 (by rw [hc]; exact e3)
          simp +contextual (maxSteps := 1000000) only [g1, g2, g3, w2, go_sem, reduceCtorEq, ↓reduceIte, Nat.reduceAdd, Nat.reduceEqDiff, Nat.reduceLeDiff, Nat.reduceMul, Nat.reduceBEq, Int.reduceBEq, Int.reduceBNe, Int.reduceLT, Int.reduceLE, Int.reduceGT, Int.reduceGE, Int.reduceToNat, Int.natCast_one, Int.natCast_zero, Int.cast_ofNat_Int]
          refine CallP.rdX (Ha := []) (cp 3 h2) hp rfl (by simp) (by simp [rdC, pw, w2]) ?_
          simp +contextual (maxSteps := 1000000) only [go_sem, reduceCtorEq, ↓reduceIte, Nat.reduceAdd, Nat.reduceEqDiff, Nat.reduceLeDiff, Nat.reduceMul, Nat.reduceBEq, Int.reduceBEq, Int.reduceBNe, Int.reduceLT, Int.reduceLE, Int.reduceGT, Int.reduceGE, Int.reduceToNat, Int.natCast_one, Int.natCast_zero, Int.cast_ofNat_Int]
          refine CallP.rdX (Ha := []) (cq 3 h2) hp rfl (by simp) (by simp) ?_
          generalize 2 + (headW (b.drop 2)).2.2 + (restW (b.drop (2 + (headW (b.drop 2)).2.2))).2.2 = n at hdd hrd ⊢
          have cr : ∀ s, FS Tryd.prog Gl 78 [.ptr p 0, .int .u8 32, .int .u8 126] [(p, .cells (rdC b n s))] [] (.str (runL 32 126 (b.drop n))) [(p, .cells (rdC b (n + (runL 32 126 (b.drop n)).length) s))] [] := fun s => fs_run hst hp (x := 32) (y := 126) hdd (by omega)
          have hrl := runL_le 32 126 (b.drop n)
          rw [List.length_drop] at hrl
          have hw : IntKind.i64.wrap (((n + (runL 32 126 (b.drop n)).length : Nat) : Int) + 2) = ((n + (runL 32 126 (b.drop n)).length + 2 : Nat) : Int) := by rw [IntKind.wrap_i64]; omega
          generalize runL 32 126 (b.drop n) = dt at cr hrl hw hrd
          simp +contextual (maxSteps := 1000000) only [go_sem, reduceCtorEq, ↓reduceIte, Nat.reduceAdd, Nat.reduceEqDiff, Nat.reduceLeDiff, Nat.reduceMul, Nat.reduceBEq, Int.reduceBEq, Int.reduceBNe, Int.reduceLT, Int.reduceLE, Int.reduceGT, Int.reduceGE, Int.reduceToNat, Int.natCast_one, Int.natCast_zero, Int.cast_ofNat_Int]
          refine CallP.rdX (Ha := []) (cr ⟨3, (headW (b.drop 2)).1, (headW (b.drop 2)).2.1, (restW (b.drop (2 + (headW (b.drop 2)).2.2))).1, (restW (b.drop (2 + (headW (b.drop 2)).2.2))).2.1, []⟩) hp rfl (by simp) (by simp) ?_
          simp only [rdC]
          simp +contextual (maxSteps := 1000000) only [hw, go_sem, reduceCtorEq, ↓reduceIte, Nat.reduceAdd, Nat.reduceEqDiff, Nat.reduceLeDiff, Nat.reduceMul, Nat.reduceBEq, Int.reduceBEq, Int.reduceBNe, Int.reduceLT, Int.reduceLE, Int.reduceGT, Int.reduceGE, Int.reduceToNat, Int.natCast_one, Int.natCast_zero, Int.cast_ofNat_Int]
          rw [← hQ, hrd]
          exact ⟨trivial, Ret.rd rfl rfl hp (by simp [rdC])⟩
        · have g3 : ((c.toNat : Int) == 80) = false := by rw [g3]; exact decide_eq_false e3
          rw [if_neg e3] at hrd
          by_cases e4 : c = 93
          · have g4 : ((c.toNat : Int) == 93) = true := by rw [g4]; exact decide_eq_true e4
            rw [if_pos e4] at hrd
            have h2 := k2 (by rw [e4]; decide)
            have cr : ∀ s, FS Tryd.prog Gl 78 [.ptr p 0, .int .u8 32, .int .u8 126] [(p, .cells (rdC b 2 s))] [] (.str (runL 32 126 (b.drop 2))) [(p, .cells (rdC b (2 + (runL 32 126 (b.drop 2)).length) s))] [] := fun s => fs_run hst hp (x := 32) (y := 126) h2 (by omega)
            have hrl := runL_le 32 126 (b.drop 2)
            rw [List.length_drop] at hrl
            have hw : IntKind.i64.wrap (((2 + (runL 32 126 (b.drop 2)).length : Nat) : Int) + 2) = ((2 + (runL 32 126 (b.drop 2)).length + 2 : Nat) : Int) := by rw [IntKind.wrap_i64]; omega
            generalize runL 32 126 (b.drop 2) = dt at cr hrl hw hrd
            simp +contextual (maxSteps := 1000000) only [g1, g2, g3, g4, w2, go_sem, reduceCtorEq, ↓reduceIte, Nat.reduceAdd, Nat.reduceEqDiff, Nat.reduceLeDiff, Nat.reduceMul, Nat.reduceBEq, Int.reduceBEq, Int.reduceBNe, Int.reduceLT, Int.reduceLE, Int.reduceGT, Int.reduceGE, Int.reduceToNat, Int.natCast_one, Int.natCast_zero, Int.cast_ofNat_Int]
            refine CallP.rdX (Ha := []) (cr ⟨4, 0, [], [], 0, []⟩) hp rfl (by simp) (by simp [rdC, pw, w2]) ?_
            simp only [rdC]
            simp +contextual (maxSteps := 1000000) only [hw, go_sem, reduceCtorEq, ↓reduceIte, Nat.reduceAdd, Nat.reduceEqDiff, Nat.reduceLeDiff, Nat.reduceMul, Nat.reduceBEq, Int.reduceBEq, Int.reduceBNe, Int.reduceLT, Int.reduceLE, Int.reduceGT, Int.reduceGE, Int.reduceToNat, Int.natCast_one, Int.natCast_zero, Int.cast_ofNat_Int]
            rw [← hQ, hrd]
            exact ⟨trivial, Ret.rd rfl rfl hp (by simp [rdC])⟩
          · have g4 : ((c.toNat : Int) == 93) = false := by rw [g4]; exact decide_eq_false e4
            rw [if_neg e4] at hrd
            simp +contextual (maxSteps := 1000000) only [g1, g2, g3, g4, go_sem, reduceCtorEq, ↓reduceIte, Nat.reduceAdd, Nat.reduceEqDiff, Nat.reduceLeDiff, Nat.reduceMul, Nat.reduceBEq, Int.reduceBEq, Int.reduceBNe, Int.reduceLT, Int.reduceLE, Int.reduceGT, Int.reduceGE, Int.reduceToNat, Int.natCast_one, Int.natCast_zero, Int.cast_ofNat_Int]
            refine CallP.rdX (Ha := []) (fs_wRest hst hp (b := b) (n := 1) (s := ⟨5, 0, [], [], 0, []⟩) hl1 hb) hp rfl (by simp) (by simp [rdC, pw, w2]) ?_
            simp +contextual (maxSteps := 1000000) only [go_sem, reduceCtorEq, ↓reduceIte, Nat.reduceAdd, Nat.reduceEqDiff, Nat.reduceLeDiff, Nat.reduceMul, Nat.reduceBEq, Int.reduceBEq, Int.reduceBNe, Int.reduceLT, Int.reduceLE, Int.reduceGT, Int.reduceGE, Int.reduceToNat, Int.natCast_one, Int.natCast_zero, Int.cast_ofNat_Int]
            rw [← hQ, hrd]
            exact ⟨trivial, Ret.rd rfl rfl hp (by simp)⟩
  · have n1 : (((b.headD 0).toNat : Int) != 27) = true := by rw [n1, decide_eq_false h27]; rfl
    simp +contextual (maxSteps := 1000000) only [n1, go_sem, reduceCtorEq, ↓reduceIte, Nat.reduceAdd, Nat.reduceEqDiff, Nat.reduceLeDiff, Nat.reduceMul, Nat.reduceBEq, Int.reduceBEq, Int.reduceBNe, Int.reduceLT, Int.reduceLE, Int.reduceGT, Int.reduceGE, Int.reduceToNat, Int.natCast_one, Int.natCast_zero, Int.cast_ofNat_Int]
    rw [← hQ]
    refine ⟨trivial, Ret.rd rfl rfl hp ?_⟩
    unfold readW
    rw [if_pos h27]
    exact List.mem_singleton.2 rfl
end Go.Proofs.YthmjlngdbabdeaaDoor

/- A sequence is read. -/
set_option linter.unusedVariables false
set_option linter.unusedSimpArgs false
set_option maxRecDepth 100000
namespace Go.Proofs.YthmjlngdbabdeaaDoor
open Go Go.Ab
/-- bytes.Equal -/
def ir_bytesEqual : ICode :=
 (.seq
  (.reg [⟨some 4, none, .mov (.c (.bool false))⟩] (some [0, 1]))
  (.seq
   (.reg [⟨some 5, none, .mov (.t 0)⟩,
     ⟨some 6, none, .b2s (.t 5)⟩,
     ⟨some 7, none, .mov (.t 1)⟩,
     ⟨some 8, none, .b2s (.t 7)⟩,
     ⟨some 9, none, .bin .eql .none (.t 6) (.t 8)⟩,
     ⟨some 4, none, .mov (.t 9)⟩] (some [4]))
   .ret))
theorem is_bytesEqual : IrOf Tryd.prog 79 10 ir_bytesEqual [.t 4] := ⟨_, Tryd.func79, rfl, by kernel_rfl, by kernel_rfl, by kernel_rfl⟩

/-- bytes.HasPrefix -/
def ir_bytesHasPrefix : ICode :=
 (.seq
  (.reg [⟨some 4, none, .mov (.c (.bool false))⟩] (some [0, 1]))
  (.seq
   (.reg [⟨some 5, none, .mov (.t 0)⟩,
     ⟨some 6, none, .len (.t 5)⟩,
     ⟨some 7, none, .mov (.t 1)⟩,
     ⟨some 8, none, .len (.t 7)⟩,
     ⟨some 9, none, .bin .geq .none (.t 6) (.t 8)⟩,
     ⟨some 10, none, .mov (.t 9)⟩,
     ⟨some 11, some (10, true), .mov (.t 0)⟩,
     ⟨some 12, some (10, true), .mov (.t 1)⟩,
     ⟨some 13, some (10, true), .len (.t 12)⟩,
     ⟨some 14, some (10, true), .sll 1 (.t 11) none (some (.t 13)) none⟩,
     ⟨some 15, some (10, true), .mov (.t 1)⟩,
     ⟨some 16, some (10, true), .call (.c (.fn (.func 79) [] [])) [(.t 14), (.t 15)]⟩,
     ⟨some 17, none, .pick (.t 10) (.t 16) (.c (.bool false))⟩,
     ⟨some 4, none, .mov (.t 17)⟩] (some [4]))
   .ret))
theorem is_bytesHasPrefix : IrOf Tryd.prog 49 18 ir_bytesHasPrefix [.t 4] := ⟨_, Tryd.func49, rfl, by kernel_rfl, by kernel_rfl, by kernel_rfl⟩

/-- clavier/wire.Take -/
def ir_wireTake : ICode :=
 (.seq
  (.reg [⟨some 2, none, .box 32 (.c (.agg [(.int .i64 0), (.int .u8 0), .nils, (.str []), (.int .u8 0), (.str [])]))⟩,
    ⟨some 3, none, .mov (.c (.int .i64 0))⟩,
    ⟨some 4, none, .mov (.c (.int .i64 0))⟩] (some [0, 2]))
  (.seq
   (.reg [⟨some 8, none, .mov (.t 0)⟩,
     ⟨some 9, none, .bld [.nils, (.int .i64 0)] [(0, 1, (.t 8))]⟩,
     ⟨some 10, none, .bld [.nils, (.int .i64 0), (.int .i64 0), (.int .u8 0), .nils, (.str []), (.int .u8 0), (.str [])] [(0, 2, (.t 9))]⟩,
     ⟨some 5, none, .box 80 (.c (.agg [.nils, (.int .i64 0), (.int .i64 0), (.int .u8 0), .nils, (.str []), (.int .u8 0), (.str [])]))⟩,
     ⟨none, none, .st 8 (.t 5) (.t 10)⟩] (some [0, 2, 5]))
   (.seq
    (.reg [⟨some 11, none, .call (.c (.fn (.func 48) [] [])) [(.t 5)]⟩] (some [0, 2, 5]))
    (.seq
     (.reg [⟨some 13, none, .fa 2 (.t 5)⟩,
       ⟨some 14, none, .ld (some 6) (.t 13)⟩,
       ⟨some 15, none, .call (.c (.fn (.func 29) [] [])) [(.t 14)]⟩,
       ⟨some 12, none, .mov (.t 15)⟩,
       ⟨some 16, none, .ext (.t 12) 0⟩,
       ⟨some 17, none, .ext (.t 12) 1⟩,
       ⟨some 6, none, .mov (.t 16)⟩,
       ⟨some 7, none, .mov (.t 17)⟩] (some [0, 2, 5, 6, 7]))
     (.seq
      (.seq
       (.reg [⟨some 18, none, .mov (.t 7)⟩,
         ⟨some 19, none, .bin .neq .none (.t 18) (.c (.int .i64 0))⟩,
         ⟨some 20, none, .mov (.t 19)⟩,
         ⟨some 21, some (20, false), .mov (.t 0)⟩,
         ⟨some 22, some (20, false), .mov (.t 6)⟩,
         ⟨some 23, some (20, false), .call (.c (.fn (.func 49) [] [])) [(.t 21), (.t 22)]⟩,
         ⟨some 24, some (20, false), .un .not (.t 23)⟩,
         ⟨some 25, none, .pick (.t 20) (.c (.bool true)) (.t 24)⟩,
         ⟨some 26, none, .mov (.t 25)⟩,
         ⟨some 27, some (26, false), .mov (.t 6)⟩,
         ⟨some 28, some (26, false), .len (.t 27)⟩,
         ⟨some 29, some (26, false), .fa 0 (.t 5)⟩,
         ⟨some 30, some (26, false), .fa 1 (.t 29)⟩,
         ⟨some 31, some (26, false), .ld none (.t 30)⟩,
         ⟨some 32, some (26, false), .bin .neq .none (.t 28) (.t 31)⟩,
         ⟨some 33, none, .pick (.t 26) (.c (.bool true)) (.t 32)⟩] (some [2, 5, 33]))
       (.cond (.t 33)
        (.seq
         (.reg [⟨some 34, none, .bld [(.int .i64 0), (.int .u8 0), .nils, (.str []), (.int .u8 0), (.str [])] []⟩,
           ⟨none, none, .st 6 (.t 2) (.t 34)⟩,
           ⟨some 3, none, .mov (.c (.int .i64 0))⟩,
           ⟨some 4, none, .mov (.c (.int .i64 2))⟩] (some [2, 3, 4]))
         .ret)
        .skip))
      (.seq
       (.drwm [(), (), (), (), ()] [⟨⟨some 35, none, .fa 2 (.t 5)⟩, []⟩,
         ⟨⟨some 36, none, .ld (some 6) (.t 35)⟩, [0]⟩,
         ⟨⟨some 37, none, .fa 0 (.t 5)⟩, []⟩,
         ⟨⟨some 38, none, .fa 1 (.t 37)⟩, [2]⟩,
         ⟨⟨some 39, none, .ld none (.t 38)⟩, [3]⟩,
         ⟨⟨none, none, .st 6 (.t 2) (.t 36)⟩, [1, 0, 1]⟩]
         [⟨some 3, none, .mov (.t 39)⟩,
         ⟨some 4, none, .mov (.c (.int .i64 0))⟩] (some [2, 3, 4]))
       .ret))))))
theorem is_wireTake : IrOf Tryd.prog 22 40 ir_wireTake [.cell 2 (some 6), .t 3, .t 4] := ⟨_, Tryd.func22, rfl, by kernel_rfl, by kernel_rfl, by kernel_rfl⟩


theorem fs_BEqual {Gl : Gh → Prop} (hst : Stays Gl) {a b : List UInt8} {ta tb : Option Nm} : FS Tryd.prog Gl 79 [.sl ta 1 (bytesAV a), .sl tb 1 (bytesAV b)] [] [] (.bool (decide (a = b))) [] [] := by
  refine FS.of hm hst is_bytesEqual (by simp) fun γ hγ hfr => ?_
  (generalize hQ : (fun (ex : Ex) (_ _ : Nat) (s : St) => _) = Q; unfold ir_bytesEqual)
  simp +contextual (maxSteps := 1000000) only [bb_un, bb_is, implies_true, go_sem, reduceCtorEq, ↓reduceIte, Nat.reduceAdd, Nat.reduceEqDiff, Nat.reduceLeDiff, Nat.reduceMul, Nat.reduceBEq, Int.reduceBEq, Int.reduceBNe, Int.reduceLT, Int.reduceLE, Int.reduceGT, Int.reduceGE, Int.reduceToNat, Int.natCast_one, Int.natCast_zero, Int.cast_ofNat_Int]
  rw [← hQ]
  exact ⟨trivial, Ret.flat rfl rfl⟩
theorem fs_BHasPrefix {Gl : Gh → Prop} (hst : Stays Gl) {a b : List UInt8} {ta tb : Option Nm} : FS Tryd.prog Gl 49 [.sl ta 1 (bytesAV a), .sl tb 1 (bytesAV b)] [] [] (.bool (decide (b <+: a))) [] [] := by
  refine FS.of hm hst is_bytesHasPrefix (by simp) fun γ hγ hfr => ?_
  (generalize hQ : (fun (ex : Ex) (_ _ : Nat) (s : St) => _) = Q; unfold ir_bytesHasPrefix)
  by_cases h : b.length ≤ a.length
  · have hd : decide ((a.length : Int) ≥ (b.length : Int)) = true := by simp; omega
    have e : decide (b <+: a) = decide (a.take b.length = b) := by
      rw [decide_eq_decide]
      constructor
      · rintro ⟨r, rfl⟩; simp
      · intro h'; rw [← h']; exact List.take_prefix _ _
    simp +contextual (maxSteps := 1000000) only [hd, bytesAV_length', bytesAV_take, Int.toNat_natCast, Int.toNat_zero, go_sem, reduceCtorEq, ↓reduceIte, Nat.reduceAdd, Nat.reduceEqDiff, Nat.reduceLeDiff, Nat.reduceMul, Nat.reduceBEq, Int.reduceBEq, Int.reduceBNe, Int.reduceLT, Int.reduceLE, Int.reduceGT, Int.reduceGE, Int.reduceToNat, Int.natCast_one, Int.natCast_zero, Int.cast_ofNat_Int]
    refine ⟨by omega, ?_⟩
    (refine CallP.pure (fs_BEqual hst) (fun _ => rfl) ?_; simp +contextual (maxSteps := 1000000) only [go_sem, reduceCtorEq, ↓reduceIte, Nat.reduceAdd, Nat.reduceEqDiff, Nat.reduceLeDiff, Nat.reduceMul, Nat.reduceBEq, Int.reduceBEq, Int.reduceBNe, Int.reduceLT, Int.reduceLE, Int.reduceGT, Int.reduceGE, Int.reduceToNat, Int.natCast_one, Int.natCast_zero, Int.cast_ofNat_Int])
    rw [← hQ, e]
    exact ⟨trivial, Ret.flat rfl rfl⟩
  · have hd : decide ((a.length : Int) ≥ (b.length : Int)) = false := by simp; omega
    simp +contextual (maxSteps := 1000000) only [hd, bytesAV_length', go_sem, reduceCtorEq, ↓reduceIte, Nat.reduceAdd, Nat.reduceEqDiff, Nat.reduceLeDiff, Nat.reduceMul, Nat.reduceBEq, Int.reduceBEq, Int.reduceBNe, Int.reduceLT, Int.reduceLE, Int.reduceGT, Int.reduceGE, Int.reduceToNat, Int.natCast_one, Int.natCast_zero, Int.cast_ofNat_Int]
    rw [← hQ]
    have e : decide (b <+: a) = false := decide_eq_false fun hh => h hh.length_le
    rw [e]
    exact ⟨trivial, Ret.flat rfl rfl⟩
theorem pw_args {k pr fi : Int} {ps : List (List Int)} {it da : List UInt8} : LeL [.agg [.int .i64 k, .int .u8 pr, pw ps, .str it, .int .u8 fi, .str da]] [.agg (Sq.c ⟨k, pr, ps, it, fi, da⟩)] :=
  ⟨RepLe.agg ⟨.refl _, .refl _, pw_le _, .refl _, .refl _, .refl _, trivial⟩, trivial⟩
theorem RepLe.tupL {xs ys : List AV} (h : LeL xs ys) : RepLe (.tup xs) (.tup ys) := fun g v ⟨vs, e, k⟩ => ⟨vs, e, h.rep k⟩
theorem zero_le : RepLe (.tup [.agg [.int .i64 0, .int .u8 0, .nils, .str [], .int .u8 0, .str []], .int .i64 0, .int .i64 2]) (.tup [.agg zeroSq.c, .int .i64 0, .int .i64 2]) :=
  RepLe.tupL ⟨RepLe.agg ⟨.refl _, .refl _, .nils 1, .refl _, .refl _, .refl _, trivial⟩, .refl _, .refl _, trivial⟩
def takeV (b : List UInt8) : AV := match takeW b with
  | some (s, n) => .tup [.agg s.c, .int .i64 (n : Int), .int .i64 0]
  | none => .tup [.agg zeroSq.c, .int .i64 0, .int .i64 2]
theorem headD_range (l : List UInt8) : 0 ≤ ((l.headD 0).toNat : Int) ∧ ((l.headD 0).toNat : Int) < 256 := by
  have := (l.headD 0).toNat_lt; omega
theorem headW_sz (l : List UInt8) : (0 ≤ (headW l).1 ∧ (headW l).1 < 256) ∧ (headW l).2.1.length ≤ l.length + 1 ∧ ∀ p ∈ (headW l).2.1, p.length ≤ l.length + 1 := by
  unfold headW
  simp only
  have hh := headD_range l
  refine ⟨by split <;> omega, ?_⟩
  generalize (if isPr (l.headD 0) = true then 1 else 0) = k
  have h1 := runL_le 48 59 (l.drop k)
  rw [List.length_drop] at h1
  generalize runL 48 59 (l.drop k) = t at h1
  unfold numsW
  split
  · simp
  · have h2 := splitB_len (c := 59) (l := t)
    refine ⟨by simp; omega, fun p hp => ?_⟩
    obtain ⟨q, hq, rfl⟩ := List.mem_map.1 hp
    have h3 := splitB_mem_len hq
    have h4 := splitB_len (c := 58) (l := q)
    simp [subsW]; omega
theorem restW_sz (l : List UInt8) : (restW l).1.length ≤ l.length ∧ 0 ≤ (restW l).2.1 ∧ (restW l).2.1 < 256 := by
  unfold restW
  exact ⟨runL_le _ _ _, headD_range _⟩
theorem readW_sz {b : List UInt8} (hb : b.length ≤ 4000000000) : (0 ≤ (readW b).1.pr ∧ (readW b).1.pr < 256) ∧ 0 ≤ (readW b).1.fi ∧ (readW b).1.fi < 256 ∧ (readW b).1.sm := by
  have a1 := headW_sz (b.drop 2)
  have a2 := fun n => restW_sz (b.drop n)
  have a3 := fun n => runL_le 32 126 (b.drop n)
  simp only [List.length_drop] at a1 a2 a3
  unfold readW
  split
  · exact ⟨by simp [zeroSq], by simp [zeroSq], by simp [zeroSq], ⟨by simp [zeroSq], by simp [zeroSq], by simp [zeroSq], by simp [zeroSq]⟩⟩
  · simp only
    split
    · have := a2 (2 + (headW (b.drop 2)).2.2)
      exact ⟨a1.1, this.2.1, this.2.2, ⟨by have := a1.2.1; simp only; omega, fun p hp => by have := a1.2.2 p hp; omega, by have := this.1; simp only; omega, by simp⟩⟩
    · split
      · have := headD_range (b.drop 2)
        exact ⟨by simp, this.1, this.2, ⟨by simp, by simp, by simp, by simp⟩⟩
      · split
        · have := a2 (2 + (headW (b.drop 2)).2.2)
          exact ⟨a1.1, this.2.1, this.2.2, ⟨by have := a1.2.1; simp only; omega, fun p hp => by have := a1.2.2 p hp; omega, by have := this.1; simp only; omega, Nat.lt_of_le_of_lt (a3 _) (by omega)⟩⟩
        · split
          · exact ⟨by simp, by simp, by simp, ⟨by simp, by simp, by simp, Nat.lt_of_le_of_lt (a3 _) (by omega)⟩⟩
          · have := a2 1
            exact ⟨by simp, this.2.1, this.2.2, ⟨by simp, by simp, by have := this.1; simp only; omega, by simp⟩⟩
set_option maxHeartbeats 4000000 in
theorem fs_wTake {Gl : Gh → Prop} (hst : Stays Gl) {b : List UInt8} {tb : Option Nm} (hb : b.length ≤ 4000000000) (hd : dcsOk b) (hf : (readW b).1.fi < 128) :
    FS Tryd.prog Gl 22 [.sl tb 1 (bytesAV b)] [] [] (takeV b) [] [] := by
  refine FS.args (args' := [.sl none 1 (bytesAV b)]) ?_ ⟨RepLe.anon _ _ _, trivial⟩
  have hfl : (takeV b).flatT = true := by
    unfold takeV; split <;> rfl
  obtain ⟨⟨p0, p1⟩, f0, _, hsm⟩ := readW_sz hb
  have c2 : FS Tryd.prog Gl 29 [.agg [.int .i64 (readW b).1.k, .int .u8 (readW b).1.pr, pw (readW b).1.ps, .str (readW b).1.it, .int .u8 (readW b).1.fi, .str (readW b).1.da]] [] [] (.tup [putV (readW b).1, .int .i64 (mayP (readW b).1)]) [] [] := FS.args (fs_wPut hst p0 p1 f0 hf hsm) pw_args
  refine FS.ofW hm hst is_wireTake hfl (by simp) fun γ hγ hfr => ?_
  (generalize hQ : (fun (ex : Ex) (_ _ : Nat) (s : St) => _) = Q; unfold ir_wireTake)
  simp +contextual (maxSteps := 1000000) only [go_sem, reduceCtorEq, ↓reduceIte, Nat.reduceAdd, Nat.reduceEqDiff, Nat.reduceLeDiff, Nat.reduceMul, Nat.reduceBEq, Int.reduceBEq, Int.reduceBNe, Int.reduceLT, Int.reduceLE, Int.reduceGT, Int.reduceGE, Int.reduceToNat, Int.natCast_one, Int.natCast_zero, Int.cast_ofNat_Int]
  refine CallP.rdX (Ha := [((γ, 0, 0), .cells [.int .i64 0, .int .u8 0, .nils, .str [], .int .u8 0, .str []])]) (fs_wRead (p := (γ, 6, 0)) hst hγ hb hd) hγ rfl (by simp) (by simp [rdC, pw, zeroSq]) ?_
  have htk : takeW b = if mayP (readW b).1 = 0 ∧ putB (readW b).1 <+: b ∧ (putB (readW b).1).length = (readW b).2 then some (readW b) else none := rfl
  have htv : takeV b = match takeW b with | some (s, n) => .tup [.agg s.c, .int .i64 (n : Int), .int .i64 0] | none => .tup [.agg zeroSq.c, .int .i64 0, .int .i64 2] := rfl
  generalize readW b = r at *
  obtain ⟨⟨k, pr, ps, it, fi, da⟩, n⟩ := r
  simp only at *
  have hpv : putV ⟨k, pr, ps, it, fi, da⟩ = if (mayP ⟨k, pr, ps, it, fi, da⟩ != 0) = true then .nils else .sl none 1 (bytesAV (putB ⟨k, pr, ps, it, fi, da⟩)) := rfl
  simp only [rdC]
  by_cases hmy : mayP ⟨k, pr, ps, it, fi, da⟩ = 0
  · rw [hmy] at hpv c2
    rw [show ((0 : Int) != 0) = false from rfl, if_neg (by simp)] at hpv
    rw [hpv] at c2
    rw [hmy] at htk
    simp +contextual (maxSteps := 1000000) only [go_sem, reduceCtorEq, ↓reduceIte, Nat.reduceAdd, Nat.reduceEqDiff, Nat.reduceLeDiff, Nat.reduceMul, Nat.reduceBEq, Int.reduceBEq, Int.reduceBNe, Int.reduceLT, Int.reduceLE, Int.reduceGT, Int.reduceGE, Int.reduceToNat, Int.natCast_one, Int.natCast_zero, Int.cast_ofNat_Int]
    (refine CallP.pure (c2) (fun _ => rfl) ?_; simp +contextual (maxSteps := 1000000) only [go_sem, reduceCtorEq, ↓reduceIte, Nat.reduceAdd, Nat.reduceEqDiff, Nat.reduceLeDiff, Nat.reduceMul, Nat.reduceBEq, Int.reduceBEq, Int.reduceBNe, Int.reduceLT, Int.reduceLE, Int.reduceGT, Int.reduceGE, Int.reduceToNat, Int.natCast_one, Int.natCast_zero, Int.cast_ofNat_Int])
    cases hpx : decide (putB ⟨k, pr, ps, it, fi, da⟩ <+: b) with
    | false =>
      have c3 := fs_BHasPrefix (Gl := Gl) hst (a := b) (b := putB ⟨k, pr, ps, it, fi, da⟩) (ta := none) (tb := none)
      rw [hpx] at c3
      (refine CallP.pure (c3) (fun _ => rfl) ?_; simp +contextual (maxSteps := 1000000) only [go_sem, reduceCtorEq, ↓reduceIte, Nat.reduceAdd, Nat.reduceEqDiff, Nat.reduceLeDiff, Nat.reduceMul, Nat.reduceBEq, Int.reduceBEq, Int.reduceBNe, Int.reduceLT, Int.reduceLE, Int.reduceGT, Int.reduceGE, Int.reduceToNat, Int.natCast_one, Int.natCast_zero, Int.cast_ofNat_Int])
      have hn0 : takeW b = none := by rw [htk, if_neg (fun h => of_decide_eq_false hpx h.2.1)]
      rw [← hQ, htv, hn0]
      refine ⟨trivial, .inl ⟨.tup [.agg [.int .i64 0, .int .u8 0, .nils, .str [], .int .u8 0, .str []], .int .i64 0, .int .i64 2], ?_, zero_le⟩⟩
      simp [resOf, getAll, IRes.get, lf, getH]
    | true =>
      have c3 := fs_BHasPrefix (Gl := Gl) hst (a := b) (b := putB ⟨k, pr, ps, it, fi, da⟩) (ta := none) (tb := none)
      rw [hpx] at c3
      by_cases hln : (putB ⟨k, pr, ps, it, fi, da⟩).length = n
      · have hq : (((putB ⟨k, pr, ps, it, fi, da⟩).length : Int) != (n : Int)) = false := by rw [bne_eq_false_iff_eq]; omega
        (refine CallP.pure (c3) (fun _ => rfl) ?_; simp +contextual (maxSteps := 1000000) only [bytesAV_length', hq, go_sem, reduceCtorEq, ↓reduceIte, Nat.reduceAdd, Nat.reduceEqDiff, Nat.reduceLeDiff, Nat.reduceMul, Nat.reduceBEq, Int.reduceBEq, Int.reduceBNe, Int.reduceLT, Int.reduceLE, Int.reduceGT, Int.reduceGE, Int.reduceToNat, Int.natCast_one, Int.natCast_zero, Int.cast_ofNat_Int])
        refine kDrwM_of [((γ, 6, 0), .cells [.sl none 1 (bytesAV b), .int .i64 n, .int .i64 k, .int .u8 pr, pw ps, .str it, .int .u8 fi, .str da])] [((γ, 0, 0), .cells [.int .i64 0, .int .u8 0, .nils, .str [], .int .u8 0, .str []])] (by simp) (by simp) ?_
        simp +contextual (maxSteps := 1000000) only [pw_cells, pw_one, go_sem, reduceCtorEq, ↓reduceIte, Nat.reduceAdd, Nat.reduceEqDiff, Nat.reduceLeDiff, Nat.reduceMul, Nat.reduceBEq, Int.reduceBEq, Int.reduceBNe, Int.reduceLT, Int.reduceLE, Int.reduceGT, Int.reduceGE, Int.reduceToNat, Int.natCast_one, Int.natCast_zero, Int.cast_ofNat_Int]
        refine ⟨by simp, ?_⟩
        have hs0 : takeW b = some (⟨k, pr, ps, it, fi, da⟩, n) := by rw [htk, if_pos ⟨rfl, of_decide_eq_true hpx, hln⟩]
        rw [← hQ, htv, hs0]
        refine ⟨trivial, .inl ⟨.tup [.agg [.int .i64 k, .int .u8 pr, pw ps, .str it, .int .u8 fi, .str da], .int .i64 n, .int .i64 0], ?_, RepLe.tupL ⟨RepLe.agg ⟨.refl _, .refl _, pw_le _, .refl _, .refl _, .refl _, trivial⟩, .refl _, .refl _, trivial⟩⟩⟩
        simp [resOf, getAll, IRes.get, lf, getH]
      · have hq : (((putB ⟨k, pr, ps, it, fi, da⟩).length : Int) != (n : Int)) = true := by rw [bne_iff_ne]; omega
        have hn0 : takeW b = none := by rw [htk, if_neg (fun h => hln h.2.2)]
        (refine CallP.pure (c3) (fun _ => rfl) ?_; simp +contextual (maxSteps := 1000000) only [bytesAV_length', hq, go_sem, reduceCtorEq, ↓reduceIte, Nat.reduceAdd, Nat.reduceEqDiff, Nat.reduceLeDiff, Nat.reduceMul, Nat.reduceBEq, Int.reduceBEq, Int.reduceBNe, Int.reduceLT, Int.reduceLE, Int.reduceGT, Int.reduceGE, Int.reduceToNat, Int.natCast_one, Int.natCast_zero, Int.cast_ofNat_Int])
        rw [← hQ, htv, hn0]
        refine ⟨trivial, .inl ⟨.tup [.agg [.int .i64 0, .int .u8 0, .nils, .str [], .int .u8 0, .str []], .int .i64 0, .int .i64 2], ?_, zero_le⟩⟩
        simp [resOf, getAll, IRes.get, lf, getH]
  · have hmb : (mayP ⟨k, pr, ps, it, fi, da⟩ != 0) = true := by rw [bne_iff_ne]; exact hmy
    rw [hmb, if_pos rfl] at hpv
    rw [hpv] at c2
    have hn0 : takeW b = none := by rw [htk, if_neg (fun h => hmy h.1)]
    simp +contextual (maxSteps := 1000000) only [go_sem, reduceCtorEq, ↓reduceIte, Nat.reduceAdd, Nat.reduceEqDiff, Nat.reduceLeDiff, Nat.reduceMul, Nat.reduceBEq, Int.reduceBEq, Int.reduceBNe, Int.reduceLT, Int.reduceLE, Int.reduceGT, Int.reduceGE, Int.reduceToNat, Int.natCast_one, Int.natCast_zero, Int.cast_ofNat_Int]
    (refine CallP.pure (c2) (fun _ => rfl) ?_; simp +contextual (maxSteps := 1000000) only [hmb, go_sem, reduceCtorEq, ↓reduceIte, Nat.reduceAdd, Nat.reduceEqDiff, Nat.reduceLeDiff, Nat.reduceMul, Nat.reduceBEq, Int.reduceBEq, Int.reduceBNe, Int.reduceLT, Int.reduceLE, Int.reduceGT, Int.reduceGE, Int.reduceToNat, Int.natCast_one, Int.natCast_zero, Int.cast_ofNat_Int])
    rw [← hQ, htv, hn0]
    refine ⟨trivial, .inl ⟨.tup [.agg [.int .i64 0, .int .u8 0, .nils, .str [], .int .u8 0, .str []], .int .i64 0, .int .i64 2], ?_, zero_le⟩⟩
    simp [resOf, getAll, IRes.get, lf, getH]
end Go.Proofs.YthmjlngdbabdeaaDoor

/- The first part of a parameter. -/
set_option linter.unusedVariables false
set_option linter.unusedSimpArgs false
set_option maxRecDepth 100000
namespace Go.Proofs.YthmjlngdbabdeaaDoor
open Go Go.Ab
/-- clavier/wire.Arg -/
def ir_wireArg : ICode :=
 (.seq
  (.reg [⟨some 3, none, .box 32 (.t 0)⟩,
    ⟨some 6, none, .mov (.c (.int .i64 0))⟩] (some [1, 2, 3]))
  (.seq
   (.seq
    (.reg [⟨some 7, none, .mov (.t 1)⟩,
      ⟨some 8, none, .bin .lss .none (.t 7) (.c (.int .i64 0))⟩,
      ⟨some 9, none, .mov (.t 8)⟩,
      ⟨some 10, some (9, false), .mov (.t 1)⟩,
      ⟨some 11, some (9, false), .fa 2 (.t 3)⟩,
      ⟨some 12, some (9, false), .ld none (.t 11)⟩,
      ⟨some 13, some (9, false), .len (.t 12)⟩,
      ⟨some 14, some (9, false), .bin .geq .none (.t 10) (.t 13)⟩,
      ⟨some 15, none, .pick (.t 9) (.c (.bool true)) (.t 14)⟩,
      ⟨some 16, none, .mov (.t 15)⟩,
      ⟨some 17, some (16, false), .fa 2 (.t 3)⟩,
      ⟨some 18, some (16, false), .ld none (.t 17)⟩,
      ⟨some 19, some (16, false), .mov (.t 1)⟩,
      ⟨some 20, some (16, false), .ia 1 (.t 18) (.t 19)⟩,
      ⟨some 21, some (16, false), .ld none (.t 20)⟩,
      ⟨some 22, some (16, false), .len (.t 21)⟩,
      ⟨some 23, some (16, false), .bin .eql .none (.t 22) (.c (.int .i64 0))⟩,
      ⟨some 24, none, .pick (.t 16) (.c (.bool true)) (.t 23)⟩,
      ⟨some 25, none, .mov (.t 24)⟩,
      ⟨some 26, some (25, false), .fa 2 (.t 3)⟩,
      ⟨some 27, some (25, false), .ld none (.t 26)⟩,
      ⟨some 28, some (25, false), .mov (.t 1)⟩,
      ⟨some 29, some (25, false), .ia 1 (.t 27) (.t 28)⟩,
      ⟨some 30, some (25, false), .ld none (.t 29)⟩,
      ⟨some 31, some (25, false), .ia 1 (.t 30) (.c (.int .i64 0))⟩,
      ⟨some 32, some (25, false), .ld none (.t 31)⟩,
      ⟨some 33, some (25, false), .bin .lss .none (.t 32) (.c (.int .i64 0))⟩,
      ⟨some 34, none, .pick (.t 25) (.c (.bool true)) (.t 33)⟩] (some [1, 2, 3, 34]))
    (.cond (.t 34)
     (.seq
      (.reg [⟨some 35, none, .mov (.t 2)⟩,
        ⟨some 6, none, .mov (.t 35)⟩] (some [6]))
      .ret)
     .skip))
   (.seq
    (.reg [⟨some 36, none, .fa 2 (.t 3)⟩,
      ⟨some 37, none, .ld none (.t 36)⟩,
      ⟨some 38, none, .mov (.t 1)⟩,
      ⟨some 39, none, .ia 1 (.t 37) (.t 38)⟩,
      ⟨some 40, none, .ld none (.t 39)⟩,
      ⟨some 41, none, .ia 1 (.t 40) (.c (.int .i64 0))⟩,
      ⟨some 42, none, .ld none (.t 41)⟩,
      ⟨some 6, none, .mov (.t 42)⟩] (some [6]))
    .ret)))
theorem is_wireArg : IrOf Tryd.prog 23 43 ir_wireArg [.t 6] := ⟨_, Tryd.func23, rfl, by kernel_rfl, by kernel_rfl, by kernel_rfl⟩


theorem dcs_of_len {b : List UInt8} (h : (readW b).2 ≤ b.length) : dcsOk b := by
  intro h1 h2
  unfold readW at h
  rw [if_neg (not_not_intro h1)] at h
  simp only at h
  rw [h2] at h
  rw [if_neg (by decide), if_neg (by decide), if_pos rfl] at h
  simp only at h
  omega
theorem fi_may {s : Sq} (h : mayP s = 0) : s.fi < 128 := by
  have h1 := (mayF h).sh
  unfold shapedP at h1
  repeat' split at h1
  all_goals simp only [Bool.and_eq_true, decide_eq_true_eq, beq_iff_eq, Bool.false_eq_true] at h1
  all_goals omega
/-- What is put is read back by the program too, whatever stands behind it. -/
theorem take_may {s : Sq} (h : mayP s = 0) (more : List UInt8) : dcsOk (putB s ++ more) ∧ (readW (putB s ++ more)).1.fi < 128 ∧ takeV (putB s ++ more) = .tup [.agg s.c, .int .i64 (putB s).length, .int .i64 0] := by
  have h1 := readW_put h more
  refine ⟨dcs_of_len (by rw [h1]; simp), by rw [h1]; exact fi_may h, ?_⟩
  unfold takeV
  rw [takeW_put h]
theorem putX_may {s : Sq} (h : mayP s = 0) : putX s = putB s := by unfold putX; rw [h]; rfl
def argW (ps : List (List Int)) (i : Nat) (o : Int) : Int := match ps[i]? with
  | some (x :: _) => if x < 0 then o else x
  | _ => o
theorem fs_wArg {Gl : Gh → Prop} (hst : Stays Gl) {k pr fi o : Int} {ps : List (List Int)} {it da : List UInt8} {i : Nat} : FS Tryd.prog Gl 23 [.agg [.int .i64 k, .int .u8 pr, .sl none 1 (parsAV ps), .str it, .int .u8 fi, .str da], .int .i64 (i : Int), .int .i64 o] [] [] (.int .i64 (argW ps i o)) [] [] := by
  refine FS.of hm hst is_wireArg (by simp) fun γ hγ hfr => ?_
  (generalize hQ : (fun (ex : Ex) (_ _ : Nat) (s : St) => _) = Q; unfold ir_wireArg)
  have h0 : decide ((i : Int) < 0) = false := by simp
  by_cases hlt : i < ps.length
  · have h1 : decide ((i : Int) ≥ (ps.length : Int)) = false := by simp; omega
    have hg : (parsAV ps).getD i [] = [intsV ps[i]] := by
      rw [List.getD_eq_getElem?_getD]; simp [parsAV, hlt]
    have hi : intsV ps[i] = .sl none 1 (intsAV ps[i]) := rfl
    cases hp : ps[i] with
    | nil =>
      rw [hi, hp] at hg
      have ha : argW ps i o = o := by unfold argW; rw [List.getElem?_eq_getElem hlt, hp]
      have hl : (((intsAV ([] : List Int)).length : Int) == 0) = true := rfl
      simp +contextual (maxSteps := 1000000) only [h0, h1, hg, hl, parsAV_length, Int.toNat_natCast, go_sem, reduceCtorEq, ↓reduceIte, Nat.reduceAdd, Nat.reduceEqDiff, Nat.reduceLeDiff, Nat.reduceMul, Nat.reduceBEq, Int.reduceBEq, Int.reduceBNe, Int.reduceLT, Int.reduceLE, Int.reduceGT, Int.reduceGE, Int.reduceToNat, Int.natCast_one, Int.natCast_zero, Int.cast_ofNat_Int]
      refine ⟨by omega, ?_⟩
      rw [← hQ, ha]
      exact ⟨trivial, Ret.flat rfl rfl⟩
    | cons x l =>
      rw [hi, hp] at hg
      have hg0 : (intsAV (x :: l)).getD 0 [] = [.int .i64 x] := rfl
      have hl : (((intsAV (x :: l)).length : Int) == 0) = false := by simp [intsAV]; omega
      have hl0 : (0 : Int) < ((intsAV (x :: l)).length : Int) := by rw [intsAV_length, List.length_cons]; omega
      by_cases hx : x < 0
      · have hd : decide (x < 0) = true := decide_eq_true hx
        have ha : argW ps i o = o := by unfold argW; rw [List.getElem?_eq_getElem hlt, hp]; exact if_pos hx
        simp +contextual (maxSteps := 1000000) only [h0, h1, hg, hg0, hl, hd, parsAV_length, Int.toNat_natCast, Int.toNat_zero, go_sem, reduceCtorEq, ↓reduceIte, Nat.reduceAdd, Nat.reduceEqDiff, Nat.reduceLeDiff, Nat.reduceMul, Nat.reduceBEq, Int.reduceBEq, Int.reduceBNe, Int.reduceLT, Int.reduceLE, Int.reduceGT, Int.reduceGE, Int.reduceToNat, Int.natCast_one, Int.natCast_zero, Int.cast_ofNat_Int]
        refine ⟨⟨by omega, by omega⟩, ⟨by omega, by omega⟩, hl0, ?_⟩
        rw [← hQ, ha]
        exact ⟨trivial, Ret.flat rfl rfl⟩
      · have hd : decide (x < 0) = false := decide_eq_false hx
        have ha : argW ps i o = x := by unfold argW; rw [List.getElem?_eq_getElem hlt, hp]; exact if_neg hx
        simp +contextual (maxSteps := 1000000) only [h0, h1, hg, hg0, hl, hd, parsAV_length, Int.toNat_natCast, Int.toNat_zero, go_sem, reduceCtorEq, ↓reduceIte, Nat.reduceAdd, Nat.reduceEqDiff, Nat.reduceLeDiff, Nat.reduceMul, Nat.reduceBEq, Int.reduceBEq, Int.reduceBNe, Int.reduceLT, Int.reduceLE, Int.reduceGT, Int.reduceGE, Int.reduceToNat, Int.natCast_one, Int.natCast_zero, Int.cast_ofNat_Int]
        refine ⟨⟨by omega, by omega⟩, ⟨by omega, by omega⟩, hl0, ⟨by omega, by omega⟩, hl0, ?_⟩
        rw [← hQ, ha]
        exact ⟨trivial, Ret.flat rfl rfl⟩
  · have h1 : decide ((i : Int) ≥ (ps.length : Int)) = true := by simp; omega
    have ha : argW ps i o = o := by unfold argW; rw [List.getElem?_eq_none (by omega)]
    simp +contextual (maxSteps := 1000000) only [h0, h1, parsAV_length, go_sem, reduceCtorEq, ↓reduceIte, Nat.reduceAdd, Nat.reduceEqDiff, Nat.reduceLeDiff, Nat.reduceMul, Nat.reduceBEq, Int.reduceBEq, Int.reduceBNe, Int.reduceLT, Int.reduceLE, Int.reduceGT, Int.reduceGE, Int.reduceToNat, Int.natCast_one, Int.natCast_zero, Int.cast_ofNat_Int]
    rw [← hQ, ha]
    exact ⟨trivial, Ret.flat rfl rfl⟩
end Go.Proofs.YthmjlngdbabdeaaDoor

/- The statements of chapter 11: a functional key's old form is one sequence. -/
set_option linter.unusedVariables false
set_option linter.unusedSimpArgs false
set_option maxRecDepth 100000
namespace Go.Proofs.YthmjlngdbabdeaaDoor
open Go Go.Ab
/-- clavier/clavierlaw11.LegacyForms -/
def ir_clavierlaw11LegacyForms : ICode :=
 (.seq
  (.reg [⟨some 3, none, .box 44 (.t 0)⟩,
    ⟨some 6, none, .mov (.c (.bool false))⟩] (some [1, 2, 3]))
  (.seq
   (.reg [⟨some 14, none, .call (.c (.fn (.func 18) [] [])) []⟩,
     ⟨some 7, none, .mov (.t 14)⟩] (some [1, 2, 3, 7]))
   (.seq
    (.reg [⟨some 15, none, .mov (.t 1)⟩,
      ⟨some 16, none, .bin .rem .none (.t 15) (.c (.int .u8 80))⟩,
      ⟨some 17, none, .cvi .i64 (.t 16)⟩,
      ⟨some 18, none, .bin .add .none (.c (.int .i64 57348)) (.t 17)⟩,
      ⟨some 19, none, .mov (.t 2)⟩,
      ⟨some 20, none, .bin .rem .none (.t 19) (.c (.int .u8 8))⟩,
      ⟨some 21, none, .cvi .i64 (.t 20)⟩,
      ⟨some 22, none, .bld [(.int .i64 0), (.int .i64 0), (.int .i64 0), (.int .i64 0), (.int .i64 0), (.str [])] [(0, 1, (.t 18)), (1, 1, (.t 21)), (2, 1, (.c (.int .i64 1)))]⟩,
      ⟨some 8, none, .box 23 (.c (.agg [(.int .i64 0), (.int .i64 0), (.int .i64 0), (.int .i64 0), (.int .i64 0), (.str [])]))⟩,
      ⟨none, none, .st 6 (.t 8) (.t 22)⟩] (some [3, 7, 8]))
    (.seq
     (.reg [⟨some 23, none, .fa 0 (.t 8)⟩,
       ⟨some 24, none, .ld none (.t 23)⟩,
       ⟨some 25, none, .call (.c (.fn (.func 15) [] [])) [(.t 24)]⟩,
       ⟨some 9, none, .box 35 (.c (.agg [(.int .i64 0), (.int .u8 0), (.int .i64 0), (.int .i64 0), (.bool false)]))⟩,
       ⟨none, none, .st 5 (.t 9) (.t 25)⟩] (some [3, 7, 8, 9]))
     (.seq
      (.seq
       (.reg [⟨some 26, none, .fa 0 (.t 9)⟩,
         ⟨some 27, none, .ld none (.t 26)⟩,
         ⟨some 28, none, .bin .neq .none (.t 27) (.c (.int .i64 3))⟩,
         ⟨some 29, none, .mov (.t 28)⟩,
         ⟨some 30, some (29, true), .fa 0 (.t 9)⟩,
         ⟨some 31, some (29, true), .ld none (.t 30)⟩,
         ⟨some 32, some (29, true), .bin .neq .none (.t 31) (.c (.int .i64 4))⟩,
         ⟨some 33, none, .pick (.t 29) (.t 32) (.c (.bool false))⟩] (some [3, 7, 8, 9, 33]))
       (.cond (.t 33)
        (.seq
         (.reg [⟨some 34, none, .mov (.t 7)⟩,
           ⟨some 6, none, .mov (.t 34)⟩] (some [6]))
         .ret)
        .skip))
      (.seq
       (.reg [⟨some 35, none, .ld (some 10) (.t 3)⟩,
         ⟨some 36, none, .ld (some 6) (.t 8)⟩,
         ⟨some 37, none, .call (.c (.fn (.func 19) [] [])) [(.t 35), (.t 36)]⟩,
         ⟨some 10, none, .mov (.t 37)⟩] (some [3, 7, 8, 9, 10]))
       (.seq
        (.reg [⟨some 39, none, .mov (.t 10)⟩,
          ⟨some 40, none, .call (.c (.fn (.func 22) [] [])) [(.t 39)]⟩,
          ⟨some 38, none, .mov (.t 40)⟩,
          ⟨some 41, none, .ext (.t 38) 0⟩,
          ⟨some 42, none, .ext (.t 38) 1⟩,
          ⟨some 43, none, .ext (.t 38) 2⟩,
          ⟨some 11, none, .box 32 (.c (.agg [(.int .i64 0), (.int .u8 0), .nils, (.str []), (.int .u8 0), (.str [])]))⟩,
          ⟨none, none, .st 6 (.t 11) (.t 41)⟩,
          ⟨some 12, none, .mov (.t 42)⟩,
          ⟨some 13, none, .mov (.t 43)⟩] (some [3, 7, 8, 9, 10, 11, 12, 13]))
        (.seq
         (.seq
          (.reg [⟨some 44, none, .mov (.t 13)⟩,
            ⟨some 45, none, .bin .neq .none (.t 44) (.c (.int .i64 0))⟩,
            ⟨some 46, none, .mov (.t 45)⟩,
            ⟨some 47, some (46, false), .mov (.t 12)⟩,
            ⟨some 48, some (46, false), .mov (.t 10)⟩,
            ⟨some 49, some (46, false), .len (.t 48)⟩,
            ⟨some 50, some (46, false), .bin .neq .none (.t 47) (.t 49)⟩,
            ⟨some 51, none, .pick (.t 46) (.c (.bool true)) (.t 50)⟩] (some [3, 7, 8, 9, 11, 51]))
          (.cond (.t 51)
           (.seq
            (.reg [⟨some 6, none, .mov (.c (.bool false))⟩] (some [6]))
            .ret)
           .skip))
         (.seq
          (.seq
           (.reg [⟨some 52, none, .fa 0 (.t 9)⟩,
             ⟨some 53, none, .ld none (.t 52)⟩,
             ⟨some 54, none, .bin .eql .none (.t 53) (.c (.int .i64 4))⟩] (some [3, 7, 8, 9, 11, 54]))
           (.cond (.t 54)
            (.seq
             (.drw [⟨⟨some 55, none, .mov (.t 7)⟩, []⟩,
               ⟨⟨some 56, none, .mov (.t 55)⟩, [0]⟩,
               ⟨⟨some 57, some (56, true), .fa 4 (.t 11)⟩, [1]⟩,
               ⟨⟨some 58, some (56, true), .ld none (.t 57)⟩, [2, 1]⟩,
               ⟨⟨some 59, some (56, true), .bin .eql .none (.t 58) (.c (.int .u8 126))⟩, [3, 1]⟩,
               ⟨⟨some 60, none, .pick (.t 56) (.t 59) (.c (.bool false))⟩, [1, 4]⟩,
               ⟨⟨some 61, none, .mov (.t 60)⟩, [5, 1]⟩,
               ⟨⟨some 62, some (61, true), .ld (some 6) (.t 11)⟩, [6]⟩,
               ⟨⟨some 63, some (61, true), .call (.c (.fn (.func 23) [] [])) [(.t 62), (.c (.int .i64 0)), (.c (.int .i64 0))]⟩, [7, 6, 6]⟩,
               ⟨⟨some 64, some (61, true), .fa 2 (.t 9)⟩, [6]⟩,
               ⟨⟨some 65, some (61, true), .ld none (.t 64)⟩, [9, 6]⟩,
               ⟨⟨some 66, some (61, true), .bin .eql .none (.t 63) (.t 65)⟩, [8, 10, 6]⟩,
               ⟨⟨some 67, none, .pick (.t 61) (.t 66) (.c (.bool false))⟩, [6, 11]⟩,
               ⟨⟨some 68, none, .mov (.t 67)⟩, [12, 8]⟩,
               ⟨⟨some 69, some (68, true), .ld (some 6) (.t 11)⟩, [13]⟩,
               ⟨⟨some 70, some (68, true), .call (.c (.fn (.func 23) [] [])) [(.t 69), (.c (.int .i64 1)), (.c (.int .i64 1))]⟩, [14, 13, 13]⟩,
               ⟨⟨some 71, some (68, true), .fa 1 (.t 8)⟩, [13]⟩,
               ⟨⟨some 72, some (68, true), .ld none (.t 71)⟩, [16, 13]⟩,
               ⟨⟨some 73, some (68, true), .bin .add .none (.c (.int .i64 1)) (.t 72)⟩, [17, 13]⟩,
               ⟨⟨some 74, some (68, true), .bin .eql .none (.t 70) (.t 73)⟩, [15, 18, 13]⟩,
               ⟨⟨some 75, none, .pick (.t 68) (.t 74) (.c (.bool false))⟩, [13, 19]⟩]
               [⟨some 6, none, .mov (.t 75)⟩] (some [6]))
             .ret)
            .skip))
          (.seq
           (.drw [⟨⟨some 76, none, .mov (.t 7)⟩, []⟩,
             ⟨⟨some 77, none, .mov (.t 76)⟩, [0]⟩,
             ⟨⟨some 78, some (77, true), .fa 4 (.t 11)⟩, [1]⟩,
             ⟨⟨some 79, some (77, true), .ld none (.t 78)⟩, [2, 1]⟩,
             ⟨⟨some 80, some (77, true), .fa 1 (.t 9)⟩, [1]⟩,
             ⟨⟨some 81, some (77, true), .ld none (.t 80)⟩, [4, 1]⟩,
             ⟨⟨some 82, some (77, true), .bin .eql .none (.t 79) (.t 81)⟩, [3, 5, 1]⟩,
             ⟨⟨some 83, none, .pick (.t 77) (.t 82) (.c (.bool false))⟩, [1, 6]⟩,
             ⟨⟨some 84, none, .mov (.t 83)⟩, [7, 1]⟩,
             ⟨⟨some 85, some (84, true), .ld (some 6) (.t 11)⟩, [8]⟩,
             ⟨⟨some 86, some (84, true), .call (.c (.fn (.func 23) [] [])) [(.t 85), (.c (.int .i64 1)), (.c (.int .i64 1))]⟩, [9, 8, 8]⟩,
             ⟨⟨some 87, some (84, true), .fa 1 (.t 8)⟩, [8]⟩,
             ⟨⟨some 88, some (84, true), .ld none (.t 87)⟩, [11, 8]⟩,
             ⟨⟨some 89, some (84, true), .bin .add .none (.c (.int .i64 1)) (.t 88)⟩, [12, 8]⟩,
             ⟨⟨some 90, some (84, true), .bin .eql .none (.t 86) (.t 89)⟩, [10, 13, 8]⟩,
             ⟨⟨some 91, none, .pick (.t 84) (.t 90) (.c (.bool false))⟩, [8, 14]⟩,
             ⟨⟨some 92, none, .mov (.t 91)⟩, [15, 10]⟩,
             ⟨⟨some 93, some (92, true), .fa 0 (.t 11)⟩, [16]⟩,
             ⟨⟨some 94, some (92, true), .ld none (.t 93)⟩, [17, 16]⟩,
             ⟨⟨some 95, some (92, true), .bin .eql .none (.t 94) (.c (.int .i64 2))⟩, [18, 16]⟩,
             ⟨⟨some 96, some (92, true), .fa 1 (.t 8)⟩, [16]⟩,
             ⟨⟨some 97, some (92, true), .ld none (.t 96)⟩, [20, 16]⟩,
             ⟨⟨some 98, some (92, true), .bin .eql .none (.t 97) (.c (.int .i64 0))⟩, [21, 16]⟩,
             ⟨⟨some 99, some (92, true), .mov (.t 98)⟩, [22, 16, 16]⟩,
             ⟨⟨some 100, some (99, true), .fa 0 (.t 3)⟩, [23]⟩,
             ⟨⟨some 101, some (99, true), .ld none (.t 100)⟩, [24, 23]⟩,
             ⟨⟨some 102, some (99, true), .mov (.t 101)⟩, [25, 23, 23]⟩,
             ⟨⟨some 103, some (102, false), .fa 1 (.t 9)⟩, [26]⟩,
             ⟨⟨some 104, some (102, false), .ld none (.t 103)⟩, [27, 26]⟩,
             ⟨⟨some 105, some (102, false), .bin .geq .none (.t 104) (.c (.int .u8 80))⟩, [28, 26]⟩,
             ⟨⟨some 106, some (99, true), .pick (.t 102) (.c (.bool true)) (.t 105)⟩, [26, 29, 23]⟩,
             ⟨⟨some 107, some (92, true), .pick (.t 99) (.t 106) (.c (.bool false))⟩, [23, 30, 16]⟩,
             ⟨⟨some 108, some (92, true), .bin .eql .bool (.t 95) (.t 107)⟩, [19, 31, 16]⟩,
             ⟨⟨some 109, none, .pick (.t 92) (.t 108) (.c (.bool false))⟩, [16, 32]⟩]
             [⟨some 6, none, .mov (.t 109)⟩] (some [6]))
           .ret))))))))))
theorem is_clavierlaw11LegacyForms : IrOf Tryd.prog 9 110 ir_clavierlaw11LegacyForms [.t 6] := ⟨_, Tryd.func9, rfl, by kernel_rfl, by kernel_rfl, by kernel_rfl⟩


theorem leg_may5 {m : Md} {k : Ky} (h : MayK k) (ht : k.type ≠ 3) : legK m k = formL m k := by
  unfold legK
  rw [mayK_iff.2 h, if_pos]
  rw [Bool.true_and, bne_iff_ne]; exact ht
/-- A functional key's sequence. -/
def formQ (cu : Bool) (c j : Int) : Sq :=
  if kindK c = 4 then numSq 1 0 126 (if (j != 0) = true then [(lookR c).num, 1 + j] else [(lookR c).num])
  else if (j != 0) = true then numSq 1 0 (lookR c).final.toNat [1, 1 + j]
  else if (cu || decide (((lookR c).final.toNat : Int) ≥ 80)) = true then numSq 2 0 (lookR c).final.toNat [] else numSq 1 0 (lookR c).final.toNat []
theorem formQ_may : ∀ (cu : Bool) (i : Fin 80) (j : Fin 8), (kindK (57348 + (i.val : Int)) = 3 ∨ kindK (57348 + (i.val : Int)) = 4) → mayP (formQ cu (57348 + (i.val : Int)) (j.val : Int)) = 0 ∧ 0 ≤ (lookR (57348 + (i.val : Int))).num ∧ (putB (formQ cu (57348 + (i.val : Int)) (j.val : Int))).length ≤ 100 := by decide +kernel
theorem formQ_leg {m : Md} {c j : Int} (h0 : 0 ≤ j) (h1 : j < 8) (hk : kindK c = 3 ∨ kindK c = 4) : legK m ⟨c, j, 1, 0, 0, []⟩ = putX (formQ m.cursor c j) := by
  have M : MayK ⟨c, j, 1, 0, 0, []⟩ := ⟨by rcases hk with h | h <;> simp [h], h0, by simp only; omega, by simp, by simp, .inl rfl, .inl rfl, (by decide +kernel : cleanK [] = true)⟩
  have ho : oldK j = j := by unfold oldK; omega
  have hp : paramK j = 1 + j := by unfold paramK; split <;> omega
  rw [leg_may5 M (by simp)]
  unfold formL formQ
  simp only
  rcases hk with h | h
  · rw [h]
    simp only [letterL, ho, hp, Int.reduceEq, if_false, if_true, ↓reduceIte]
    repeat' split
    all_goals rfl
  · rw [h]
    simp only [numberL, ho, hp, Int.reduceEq, if_false, if_true, ↓reduceIte]
set_option maxHeartbeats 4000000 in
theorem fs_LegacyForms {Gl : Gh → Prop} (hst : Stays Gl) {m : Md} {code mods : UInt8} (_ : True) (_ : True) (_ : True) : FS Tryd.prog Gl 9 [.agg (mdAV m), .int .u8 (code.toNat : Int), .int .u8 (mods.toNat : Int)] [] [] (.bool true) [] [] := by
  refine FS.of hm hst is_clavierlaw11LegacyForms (by simp) fun γ hγ hfr => ?_
  have hmd : mdAV m = [.bool m.cursor, .bool m.keypad, .bool m.back, .bool m.focus, .bool m.paste, .bool m.lock, .bool m.line, .int .i64 m.mouse, .int .i64 m.coding, .int .i64 m.other] := rfl
  have hwc : IntKind.i64.wrap (57348 + IntKind.i64.wrap ((code.toNat : Int).tmod 80)) = 57348 + ((code.toNat % 80 : Nat) : Int) := by
    rw [Int.tmod_eq_emod_of_nonneg (by omega), IntKind.wrap_i64, IntKind.wrap_i64]; omega
  have hwj : IntKind.i64.wrap ((mods.toNat : Int).tmod 8) = ((mods.toNat % 8 : Nat) : Int) := by
    rw [Int.tmod_eq_emod_of_nonneg (by omega), IntKind.wrap_i64]; omega
  have F1 := formQ_may m.cursor ⟨code.toNat % 80, Nat.mod_lt _ (by omega)⟩ ⟨mods.toNat % 8, Nat.mod_lt _ (by omega)⟩
  have F2 := formQ_leg (m := m) (c := 57348 + ((code.toNat % 80 : Nat) : Int)) (j := ((mods.toNat % 8 : Nat) : Int)) (by omega) (by omega)
  simp only at F1
  have hj0 : 0 ≤ ((mods.toNat % 8 : Nat) : Int) := by omega
  have hj8 : ((mods.toNat % 8 : Nat) : Int) < 8 := by omega
  generalize 57348 + ((code.toNat % 80 : Nat) : Int) = c at *
  generalize ((mods.toNat % 8 : Nat) : Int) = j at *
  have c1 := fs_Look (Gl := Gl) hst (c := c)
  rw [ent_eq] at c1
  have hkd : (lookR c).kind = kindK c := rfl
  (generalize hQ : (fun (ex : Ex) (_ _ : Nat) (s : St) => _) = Q; unfold ir_clavierlaw11LegacyForms)
  simp +contextual (maxSteps := 1000000) only [hmd, hwc, hwj, go_sem, reduceCtorEq, ↓reduceIte, Nat.reduceAdd, Nat.reduceEqDiff, Nat.reduceLeDiff, Nat.reduceMul, Nat.reduceBEq, Int.reduceBEq, Int.reduceBNe, Int.reduceLT, Int.reduceLE, Int.reduceGT, Int.reduceGE, Int.reduceToNat, Int.natCast_one, Int.natCast_zero, Int.cast_ofNat_Int]
  (refine CallP.pure (fs_awake11 hst) (fun _ => rfl) ?_; simp +contextual (maxSteps := 1000000) only [hwc, hwj, go_sem, reduceCtorEq, ↓reduceIte, Nat.reduceAdd, Nat.reduceEqDiff, Nat.reduceLeDiff, Nat.reduceMul, Nat.reduceBEq, Int.reduceBEq, Int.reduceBNe, Int.reduceLT, Int.reduceLE, Int.reduceGT, Int.reduceGE, Int.reduceToNat, Int.natCast_one, Int.natCast_zero, Int.cast_ofNat_Int])
  refine ⟨by omega, by omega, ?_⟩
  (refine CallP.pure (c1) (fun _ => rfl) ?_; simp +contextual (maxSteps := 1000000) only [hkd, go_sem, reduceCtorEq, ↓reduceIte, Nat.reduceAdd, Nat.reduceEqDiff, Nat.reduceLeDiff, Nat.reduceMul, Nat.reduceBEq, Int.reduceBEq, Int.reduceBNe, Int.reduceLT, Int.reduceLE, Int.reduceGT, Int.reduceGE, Int.reduceToNat, Int.natCast_one, Int.natCast_zero, Int.cast_ofNat_Int])
  by_cases hk : kindK c = 3 ∨ kindK c = 4
  · obtain ⟨f1, f2, f3⟩ := F1 hk
    have hlg := F2 hk
    rw [putX_may f1] at hlg
    obtain ⟨t1, t2, t3⟩ := take_may f1 []
    rw [List.append_nil] at t1 t2 t3
    have d1 := fs_legKey (Gl := Gl) hst (m := m) (k := ⟨c, j, 1, 0, 0, []⟩) (by simp)
    rw [hlg, hmd, kyAV] at d1
    have d2 := fs_wTake (Gl := Gl) hst (tb := none) (Nat.le_trans f3 (by omega)) t1 t2
    rw [t3] at d2
    have hs2 : (formQ m.cursor c j).c = [.int .i64 (formQ m.cursor c j).k, .int .u8 (formQ m.cursor c j).pr, .sl none 1 (parsAV (formQ m.cursor c j).ps), .str (formQ m.cursor c j).it, .int .u8 (formQ m.cursor c j).fi, .str (formQ m.cursor c j).da] := rfl
    rw [hs2] at d2
    have a0 := fun k pr fi o it da => fs_wArg (Gl := Gl) hst (k := k) (pr := pr) (fi := fi) (o := o) (ps := (formQ m.cursor c j).ps) (it := it) (da := da) (i := 0)
    have a1 := fun k pr fi o it da => fs_wArg (Gl := Gl) hst (k := k) (pr := pr) (fi := fi) (o := o) (ps := (formQ m.cursor c j).ps) (it := it) (da := da) (i := 1)
    have hw1 : IntKind.i64.wrap (1 + j) = 1 + j := by rw [IntKind.wrap_i64]; omega
    have hL : (((bytesAV (putB (formQ m.cursor c j))).length : Int) != ((bytesAV (putB (formQ m.cursor c j))).length : Int)) = false := by simp
    rw [← bytesAV_length'] at d2
    rcases hk with h | h
    · have q3 : (kindK c != 3) = false := by rw [h]; rfl
      have q4' : (kindK c != 4) = true := by rw [h]; rfl
      have q4 : (kindK c == 4) = false := by rw [h]; rfl
      have hq : formQ m.cursor c j = if (j != 0) = true then numSq 1 0 (lookR c).final.toNat [1, 1 + j]
          else if (m.cursor || decide (((lookR c).final.toNat : Int) ≥ 80)) = true then numSq 2 0 (lookR c).final.toNat [] else numSq 1 0 (lookR c).final.toNat [] := by
        unfold formQ; rw [if_neg (by rw [h]; decide)]
      have r1 : ((formQ m.cursor c j).fi == ((lookR c).final.toNat : Int)) = true := by
        rw [hq]; repeat' split
        all_goals simp [numSq]
      have r2 : (argW (formQ m.cursor c j).ps 1 1 == 1 + j) = true := by
        rw [hq]
        by_cases hj : j = 0
        · subst hj; rw [if_neg (by simp)]; split <;> rfl
        · rw [if_pos (by rw [bne_iff_ne]; exact hj), beq_iff_eq]
          simp only [numSq, List.map_cons, List.map_nil, argW, List.getElem?_cons_succ, List.getElem?_cons_zero]
          rw [if_neg (by omega)]
      have r3 : (((formQ m.cursor c j).k == 2) == ((j == 0) && (m.cursor || decide (((lookR c).final.toNat : Int) ≥ 80)))) = true := by
        rw [hq]
        by_cases hj : j = 0
        · subst hj
          rw [if_neg (by simp)]
          cases hcu : (m.cursor || decide (((lookR c).final.toNat : Int) ≥ 80)) with
          | true => rw [if_pos rfl]; rfl
          | false => rw [if_neg (by simp)]; rfl
        · rw [if_pos (by rw [bne_iff_ne]; exact hj)]
          have : (j == 0) = false := by rw [beq_eq_false_iff_ne]; exact hj
          rw [this]; rfl
      have r4 : ((formQ m.cursor c j).k == 2) = ((j == 0) && (m.cursor || decide (((lookR c).final.toNat : Int) ≥ 80))) := eq_of_beq r3
      clear hq r3
      generalize formQ m.cursor c j = s at *
      have done : ∀ {γ' c' : Nat} {st : St}, st.F 6 = .bool true → Q .ret γ' c' st := by
        intro γ' c' st h
        rw [← hQ]
        exact ⟨trivial, Ret.flat (by simp only [resOf, getAll, IRes.get, h]) rfl⟩
      simp +contextual (maxSteps := 1000000) only [q3, q4', hkd, go_sem, reduceCtorEq, ↓reduceIte, Nat.reduceAdd, Nat.reduceEqDiff, Nat.reduceLeDiff, Nat.reduceMul, Nat.reduceBEq, Int.reduceBEq, Int.reduceBNe, Int.reduceLT, Int.reduceLE, Int.reduceGT, Int.reduceGE, Int.reduceToNat, Int.natCast_one, Int.natCast_zero, Int.cast_ofNat_Int]
      refine CallP.pure d1 (fun _ => rfl) ?_
      simp +contextual (maxSteps := 1000000) only [go_sem, reduceCtorEq, ↓reduceIte, Nat.reduceAdd, Nat.reduceEqDiff, Nat.reduceLeDiff, Nat.reduceMul, Nat.reduceBEq, Int.reduceBEq, Int.reduceBNe, Int.reduceLT, Int.reduceLE, Int.reduceGT, Int.reduceGE, Int.reduceToNat, Int.natCast_one, Int.natCast_zero, Int.cast_ofNat_Int]
      (refine CallP.pure (d2) (fun _ => rfl) ?_; simp +contextual (maxSteps := 1000000) only [hL, q4, r1, go_sem, reduceCtorEq, ↓reduceIte, Nat.reduceAdd, Nat.reduceEqDiff, Nat.reduceLeDiff, Nat.reduceMul, Nat.reduceBEq, Int.reduceBEq, Int.reduceBNe, Int.reduceLT, Int.reduceLE, Int.reduceGT, Int.reduceGE, Int.reduceToNat, Int.natCast_one, Int.natCast_zero, Int.cast_ofNat_Int])
      refine DCall.new (a1 _ _ _ 1 _ _) ?_
      cases hjb : (j == 0) <;> cases hcu : m.cursor <;> cases hf8 : decide (((lookR c).final.toNat : Int) ≥ 80) <;> simp only [hjb, hcu, hf8, Bool.and_true, Bool.true_and, Bool.false_and, Bool.or_true, Bool.or_false, Bool.true_or, Bool.and_false, Bool.false_or] at r4
      all_goals simp +contextual (maxSteps := 1000000) only [r2, hw1, hjb, hcu, hf8, r4, go_sem, reduceCtorEq, ↓reduceIte, Nat.reduceAdd, Nat.reduceEqDiff, Nat.reduceLeDiff, Nat.reduceMul, Nat.reduceBEq, Int.reduceBEq, Int.reduceBNe, Int.reduceLT, Int.reduceLE, Int.reduceGT, Int.reduceGE, Int.reduceToNat, Int.natCast_one, Int.natCast_zero, Int.cast_ofNat_Int]
      all_goals exact done rfl
    · have q3 : (kindK c != 3) = true := by rw [h]; rfl
      have q4 : (kindK c != 4) = false := by rw [h]; rfl
      have q5 : (kindK c == 4) = true := by rw [h]; rfl
      have hq : formQ m.cursor c j = numSq 1 0 126 (if (j != 0) = true then [(lookR c).num, 1 + j] else [(lookR c).num]) := by
        unfold formQ; rw [if_pos h]
      have r1 : ((formQ m.cursor c j).fi == 126) = true := by rw [hq]; rfl
      have r2 : (argW (formQ m.cursor c j).ps 1 1 == 1 + j) = true := by
        rw [hq]
        by_cases hj : j = 0
        · subst hj; rw [if_neg (by simp)]; rfl
        · rw [if_pos (by rw [bne_iff_ne]; exact hj), beq_iff_eq]
          simp only [numSq, List.map_cons, List.map_nil, argW, List.getElem?_cons_succ, List.getElem?_cons_zero]
          rw [if_neg (by omega)]
      have r3 : (argW (formQ m.cursor c j).ps 0 0 == (lookR c).num) = true := by
        rw [hq, beq_iff_eq]
        split <;> simp only [numSq, List.map_cons, List.map_nil, argW, List.getElem?_cons_zero] <;> rw [if_neg (by omega)]
      simp +contextual (maxSteps := 1000000) only [q3, q4, hkd, go_sem, reduceCtorEq, ↓reduceIte, Nat.reduceAdd, Nat.reduceEqDiff, Nat.reduceLeDiff, Nat.reduceMul, Nat.reduceBEq, Int.reduceBEq, Int.reduceBNe, Int.reduceLT, Int.reduceLE, Int.reduceGT, Int.reduceGE, Int.reduceToNat, Int.natCast_one, Int.natCast_zero, Int.cast_ofNat_Int]
      (refine CallP.pure (d1) (fun _ => rfl) ?_; simp +contextual (maxSteps := 1000000) only [go_sem, reduceCtorEq, ↓reduceIte, Nat.reduceAdd, Nat.reduceEqDiff, Nat.reduceLeDiff, Nat.reduceMul, Nat.reduceBEq, Int.reduceBEq, Int.reduceBNe, Int.reduceLT, Int.reduceLE, Int.reduceGT, Int.reduceGE, Int.reduceToNat, Int.natCast_one, Int.natCast_zero, Int.cast_ofNat_Int])
      (refine CallP.pure (d2) (fun _ => rfl) ?_; simp +contextual (maxSteps := 1000000) only [hL, q5, r1, go_sem, reduceCtorEq, ↓reduceIte, Nat.reduceAdd, Nat.reduceEqDiff, Nat.reduceLeDiff, Nat.reduceMul, Nat.reduceBEq, Int.reduceBEq, Int.reduceBNe, Int.reduceLT, Int.reduceLE, Int.reduceGT, Int.reduceGE, Int.reduceToNat, Int.natCast_one, Int.natCast_zero, Int.cast_ofNat_Int])
      refine DCall.new (a0 _ _ _ 0 _ _) ?_
      simp +contextual (maxSteps := 1000000) only [r3, go_sem, reduceCtorEq, ↓reduceIte, Nat.reduceAdd, Nat.reduceEqDiff, Nat.reduceLeDiff, Nat.reduceMul, Nat.reduceBEq, Int.reduceBEq, Int.reduceBNe, Int.reduceLT, Int.reduceLE, Int.reduceGT, Int.reduceGE, Int.reduceToNat, Int.natCast_one, Int.natCast_zero, Int.cast_ofNat_Int]
      refine DCall.new (a1 _ _ _ 1 _ _) ?_
      simp +contextual (maxSteps := 1000000) only [r2, hw1, go_sem, reduceCtorEq, ↓reduceIte, Nat.reduceAdd, Nat.reduceEqDiff, Nat.reduceLeDiff, Nat.reduceMul, Nat.reduceBEq, Int.reduceBEq, Int.reduceBNe, Int.reduceLT, Int.reduceLE, Int.reduceGT, Int.reduceGE, Int.reduceToNat, Int.natCast_one, Int.natCast_zero, Int.cast_ofNat_Int]
      rw [← hQ]
      exact ⟨trivial, Ret.flat rfl rfl⟩
  · have q3 : (kindK c != 3) = true := by rw [bne_iff_ne]; exact fun e => hk (.inl e)
    have q4 : (kindK c != 4) = true := by rw [bne_iff_ne]; exact fun e => hk (.inr e)
    simp +contextual (maxSteps := 1000000) only [q3, q4, hkd, go_sem, reduceCtorEq, ↓reduceIte, Nat.reduceAdd, Nat.reduceEqDiff, Nat.reduceLeDiff, Nat.reduceMul, Nat.reduceBEq, Int.reduceBEq, Int.reduceBNe, Int.reduceLT, Int.reduceLE, Int.reduceGT, Int.reduceGE, Int.reduceToNat, Int.natCast_one, Int.natCast_zero, Int.cast_ofNat_Int]
    rw [← hQ]
    exact ⟨trivial, Ret.flat rfl rfl⟩
end Go.Proofs.YthmjlngdbabdeaaDoor

/- The seat's facts that all rows want; arguments opened. -/
set_option linter.unusedVariables false
set_option linter.unusedSimpArgs false
set_option maxRecDepth 100000
namespace Go.Proofs.YthmjlngdbabdeaaDoor
open Go Go.Ab Go.WideShapes Go.RowKit
theorem seat_own : ownKnob Tryd.prog.godebug = none := by kernel_rfl
theorem seat_laidOut : laidOutB Tryd.prog = true := by kernel_rfl
section
variable {H : Type} {enc : TypeId × Value → H} {W : World} {base : Nat} {v : Value} {d : DataW H} {p : List MemPlace}
theorem tr_bytes : TR enc Tryd.prog W 26 fun xs => ∃ l : List UInt8, xs = [.sl none 1 (bytesAV l)] ∧ l.length ≤ maxLen := by
  refine (TR.slice (e := 5) (sz := 1) (by kernel_rfl) (by kernel_rfl) (by omega) (TR.int (k := .u8) (by kernel_rfl))).mono ?_
  rintro xs ⟨rows, rfl, h1, h2⟩
  obtain ⟨l, rfl⟩ := bytesAV_of fun r hr => (h2 r hr).1
  exact ⟨l, rfl, by rwa [bytesAV_length] at h1⟩
theorem op_bytes (hv : Value.okWide Tryd.prog W .any base 26 v) (hd : DataW.Trod enc Tryd.prog W 0 (fun _ => true) true 26 v d p) : ∃ l : List UInt8, l.length ≤ maxLen ∧ Rep (gh0 W) (.sl none 1 (bytesAV l)) v := by
  obtain ⟨a, len, cap, rfl⟩ := okWide_slice (P := Tryd.prog) (e := 5) (by kernel_rfl) hv
  obtain ⟨x, ⟨l, h1, h2⟩, hr⟩ := tr_bytes.arg1 rfl hd
  simp only [List.cons.injEq, and_true] at h1
  subst h1
  exact ⟨l, h2, hr⟩
theorem u8_of {n : Int} (h1 : IntKind.u8.min ≤ n) (h2 : n ≤ IntKind.u8.max) : ∃ c : UInt8, (c.toNat : Int) = n := by
  have h1' : 0 ≤ n := by simpa [IntKind.min, IntKind.signed] using h1
  have h2' : n ≤ 255 := by simpa [IntKind.max, IntKind.signed, IntKind.bits] using h2
  refine ⟨UInt8.ofNat n.toNat, ?_⟩
  rw [UInt8.toNat_ofNat', Nat.mod_eq_of_lt (by omega)]; omega
theorem op_u8 (hv : Value.okWide Tryd.prog W .any base 5 v) (hd : DataW.Trod enc Tryd.prog W 0 (fun _ => true) true 5 v d p) : ∃ c : UInt8, True ∧ Rep (gh0 W) (.int .u8 (c.toNat : Int)) v := by
  obtain ⟨n, rfl⟩ := okWide_int (P := Tryd.prog) (k := .u8) (by kernel_rfl) hv
  obtain ⟨x, ⟨m, h1, h2, h3⟩, hr⟩ := (TR.int (P := Tryd.prog) (k := .u8) (by kernel_rfl)).arg1 rfl hd
  simp only [List.cons.injEq, and_true] at h1
  subst h1
  obtain ⟨c, rfl⟩ := u8_of h2 h3
  exact ⟨c, trivial, hr⟩
theorem op_int (hv : Value.okWide Tryd.prog W .any base 3 v) (hd : DataW.Trod enc Tryd.prog W 0 (fun _ => true) true 3 v d p) : ∃ n : Int, (-9223372036854775808 ≤ n ∧ n ≤ 9223372036854775807) ∧ Rep (gh0 W) (.int .i64 n) v := by
  obtain ⟨n, rfl⟩ := okWide_int (P := Tryd.prog) (k := .i64) (by kernel_rfl) hv
  obtain ⟨x, ⟨m, h1, h2, h3⟩, hr⟩ := (TR.int (P := Tryd.prog) (k := .i64) (by kernel_rfl)).arg1 rfl hd
  simp only [List.cons.injEq, and_true] at h1
  subst h1
  exact ⟨m, ⟨by simpa [IntKind.min, IntKind.signed, IntKind.bits] using h2, by simpa [IntKind.max, IntKind.signed, IntKind.bits] using h3⟩, hr⟩
theorem op_bool (hv : Value.okWide Tryd.prog W .any base 4 v) (hd : DataW.Trod enc Tryd.prog W 0 (fun _ => true) true 4 v d p) : ∃ b : Bool, True ∧ Rep (gh0 W) (.bool b) v := by
  obtain ⟨b, rfl⟩ := okWide_bool (P := Tryd.prog) (by kernel_rfl) hv
  obtain ⟨x, ⟨c, h1⟩, hr⟩ := (TR.bool (P := Tryd.prog) (by kernel_rfl)).arg1 rfl hd
  simp only [List.cons.injEq, and_true] at h1
  subst h1
  exact ⟨c, trivial, hr⟩
end
end Go.Proofs.YthmjlngdbabdeaaDoor

/- The library's table, as the rows list it: what the seat's invariant wants of it. -/
set_option linter.unusedVariables false
set_option maxRecDepth 100000
namespace Go.Proofs.YthmjlngdbabdeaaDoor
open Go Go.Ab
theorem fixW_of {W : World} (h : laidMetH Tryd.prog [("math/bits.deBruijn32tab", Rows.laid_math_bits_deBruijn32tab), ("math/bits.deBruijn64tab", Rows.laid_math_bits_deBruijn64tab), ("internal/strconv.uint64pow10", Rows.laid_internal_strconv_uint64pow10)] W) : FixW W := by
  rw [MakeChecks.laidMetH_plain _ _ _ (by kernel_rfl)] at h
  have h2 := laidMet.filter (fun x => x.1 == "internal/strconv.uint64pow10") h
  have h3 : laidMet Tryd.prog [("internal/strconv.uint64pow10", Lib.tabData .u64 Lib.pow10Tab)] W := h2
  have h4 := Lib.tabIs_of_head (g := 3) (t := 166) (e := 157) (n := 20) (by kernel_rfl) (by kernel_rfl) (by kernel_rfl) (by kernel_rfl) (by kernel_rfl) (by kernel_rfl) h3
  intro p hp
  obtain rfl := List.mem_singleton.1 hp
  unfold Lib.TabIs World.var? at h4
  rw [show Program.globalNamed Tryd.prog "internal/strconv.uint64pow10" = some 3 from by kernel_rfl] at h4
  simp only [Option.bind_some] at h4
  split at h4
  · rename_i cs e fr hh
    simp only [Option.some.injEq] at h4
    refine ⟨e, fr, ?_⟩
    rw [hh, h4]
    simp [Lib.pow10Tab]
  · cases h4
end Go.Proofs.YthmjlngdbabdeaaDoor

/- The library's table, as the rows list it that reach the tables of utf8 too. -/
set_option linter.unusedVariables false
set_option maxRecDepth 100000
namespace Go.Proofs.YthmjlngdbabdeaaDoor
open Go Go.Ab
theorem fixW_of5 {W : World} (h : laidMetH Tryd.prog [("math/bits.deBruijn32tab", Rows.laid_math_bits_deBruijn32tab), ("math/bits.deBruijn64tab", Rows.laid_math_bits_deBruijn64tab), ("internal/strconv.uint64pow10", Rows.laid_internal_strconv_uint64pow10), ("unicode/utf8.acceptRanges", Rows.laid_unicode_utf8_acceptRanges), ("unicode/utf8.first", Rows.laid_unicode_utf8_first)] W) : FixW W := by
  rw [MakeChecks.laidMetH_plain _ _ _ (by kernel_rfl)] at h
  have h2 := laidMet.filter (fun x => x.1 == "internal/strconv.uint64pow10") h
  have h3 : laidMet Tryd.prog [("internal/strconv.uint64pow10", Lib.tabData .u64 Lib.pow10Tab)] W := h2
  have h4 := Lib.tabIs_of_head (g := 3) (t := 166) (e := 157) (n := 20) (by kernel_rfl) (by kernel_rfl) (by kernel_rfl) (by kernel_rfl) (by kernel_rfl) (by kernel_rfl) h3
  intro p hp
  obtain rfl := List.mem_singleton.1 hp
  unfold Lib.TabIs World.var? at h4
  rw [show Program.globalNamed Tryd.prog "internal/strconv.uint64pow10" = some 3 from by kernel_rfl] at h4
  simp only [Option.bind_some] at h4
  split at h4
  · rename_i cs e fr hh
    simp only [Option.some.injEq] at h4
    refine ⟨e, fr, ?_⟩
    rw [hh, h4]
    simp [Lib.pow10Tab]
  · cases h4
end Go.Proofs.YthmjlngdbabdeaaDoor

/- Arguments that are a key's event, opened; what the bound of an Upto row gives. -/
set_option linter.unusedVariables false
set_option linter.unusedSimpArgs false
set_option maxRecDepth 100000
namespace Go.Proofs.YthmjlngdbabdeaaDoor
open Go Go.Ab Go.WideShapes Go.RowKit
def zero_apiKey : Value := .agg #[.int .i64 0, .int .i64 0, .int .i64 0, .int .i64 0, .int .i64 0, .string ByteArray.empty]
section
variable {H : Type} {enc : TypeId × Value → H} {W : World} {base : Nat} {v : Value} {d : DataW H} {p : List MemPlace}
theorem key_is : structIs Tryd.prog 23 [(0, 3), (1, 3), (2, 3), (3, 3), (4, 3), (5, 9)] = true := by kernel_rfl
theorem tr_Key : TR enc Tryd.prog W 23 fun xs => ∃ k : Ky, xs = kyAV k ∧ k.text.length ≤ maxLen := by
  refine (TR.structL (Rs := [fun xs => ∃ n, xs = [.int .i64 n] ∧ IntKind.i64.min ≤ n ∧ n ≤ IntKind.i64.max, fun xs => ∃ n, xs = [.int .i64 n] ∧ IntKind.i64.min ≤ n ∧ n ≤ IntKind.i64.max, fun xs => ∃ n, xs = [.int .i64 n] ∧ IntKind.i64.min ≤ n ∧ n ≤ IntKind.i64.max, fun xs => ∃ n, xs = [.int .i64 n] ∧ IntKind.i64.min ≤ n ∧ n ≤ IntKind.i64.max, fun xs => ∃ n, xs = [.int .i64 n] ∧ IntKind.i64.min ≤ n ∧ n ≤ IntKind.i64.max, fun xs => ∃ s, xs = [.str s] ∧ s.length ≤ maxLen]) 6 key_is (by kernel_rfl) ?_).mono ?_
  · exact ⟨rfl, TR.int (by kernel_rfl), 1, by kernel_rfl, rfl, TR.int (by kernel_rfl), 1, by kernel_rfl, rfl, TR.int (by kernel_rfl), 1, by kernel_rfl, rfl, TR.int (by kernel_rfl), 1, by kernel_rfl, rfl, TR.int (by kernel_rfl), 1, by kernel_rfl, rfl, TR.str (by kernel_rfl), 1, by kernel_rfl, rfl⟩
  · rintro xs ⟨_, _, ⟨a, rfl, _⟩, ⟨_, _, ⟨b, rfl, _⟩, ⟨_, _, ⟨c, rfl, _⟩, ⟨_, _, ⟨e, rfl, _⟩, ⟨_, _, ⟨f, rfl, _⟩, ⟨_, _, ⟨t, rfl, ht⟩, h, rfl⟩, rfl⟩, rfl⟩, rfl⟩, rfl⟩, rfl⟩
    have h : _ = [] := h
    subst h
    exact ⟨⟨a, b, c, e, f, t⟩, rfl, ht⟩
theorem op_apiKey (hv : Value.okWide Tryd.prog W .any base 23 v) (hd : DataW.Trod enc Tryd.prog W 0 (fun _ => true) true 23 v d p) : ∃ k : Ky, k.text.length ≤ maxLen ∧ Rep (gh0 W) (.agg (kyAV k)) v := by
  obtain ⟨cs, rfl⟩ := okWide_struct key_is hv
  obtain ⟨xs, ⟨k, rfl, h⟩, hr⟩ := tr_Key.argN hd
  exact ⟨k, h, hr⟩
theorem part_le {d : DataW H} {l : List (DataW H)} (h : d ∈ l) : Rows.uptoBulk d ≤ Rows.uptoBulkAll l := by
  induction l with
  | nil => cases h
  | cons x r ih =>
    simp only [Rows.uptoBulkAll]
    cases List.mem_cons.1 h with
    | inl e => subst e; omega
    | inr e => have := ih e; omega
/-- A text in a struct counts in its bulk. -/
theorem bulk_field {t : TypeId} {L : List (Nat × Nat)} {cs : Array Value} {s : ByteArray} {off ty : Nat} (h : structIs Tryd.prog t L = true) (hL : (off, ty) ∈ L) (hty : Tryd.prog.underlying ty = some .string) (hc : Tryd.prog.cellsOf ty = 1)
    (hs : cs.toList[off]? = some (.string s)) (hd : DataW.Trod enc Tryd.prog W 0 (fun _ => true) true t (.agg cs) d p) : s.data.toList.length + 1 ≤ Rows.uptoBulk d := by
  obtain ⟨fuel, hd⟩ := hd
  unfold structIs at h
  split at h
  · rename_i fs hu
    have := of_decide_eq_true h
    subst this
    cases fuel with
    | zero => simp [DataW.trod] at hd
    | succ fuel =>
      unfold DataW.trod at hd
      rw [hu] at hd
      simp only at hd
      split at hd
      · obtain ⟨ys, k1, k2⟩ := Option.map_eq_some_iff.1 hd
        simp only [Prod.mk.injEq] at k2
        obtain ⟨rfl, _⟩ := k2
        obtain ⟨f, hf, he⟩ := List.mem_map.1 hL
        simp only [Prod.mk.injEq] at he
        obtain ⟨rfl, rfl⟩ := he
        obtain ⟨j, hj, hfj⟩ := List.getElem_of_mem hf
        have hl := mapM_some_length k1
        have hg := mapM_some_get k1 j f (by rw [List.getElem?_eq_getElem hj, hfj])
        rw [List.getElem?_eq_getElem (by omega)] at hg
        have hcs : ((Value.agg cs).cells.toList.drop f.offset).take 1 = [.string s] := by
          show (cs.toList.drop f.offset).take 1 = _
          rw [List.getElem?_eq_some_iff] at hs
          obtain ⟨h1, h2⟩ := hs
          rw [List.drop_eq_getElem_cons h1, h2]; rfl
        rw [hc, hcs] at hg
        have hb : s.data.toList.length + 1 ≤ Rows.uptoBulk (ys[j]'(by omega)).1 := by
          cases fuel with
          | zero => simp [DataW.trod] at hg
          | succ fuel =>
            unfold DataW.trod at hg
            rw [hty] at hg
            simp only at hg
            split at hg
            · rw [← Option.some.inj hg]
              simp only [Rows.uptoBulk]
              exact Nat.le_refl _
            · cases hg
        have hm : (ys[j]'(by omega)).1 ∈ ys.map (·.1) := List.mem_map.2 ⟨_, List.getElem_mem _, rfl⟩
        have := part_le hm
        simp only [Rows.uptoBulk]
        omega
      · cases hd
  · cases h
theorem op_apiKeyB (hv : Value.okWide Tryd.prog W .any base 23 v) (hd : DataW.Trod enc Tryd.prog W 0 (fun _ => true) true 23 v d p) : ∃ k : Ky, k.text.length + 1 ≤ Rows.uptoBulk d ∧ Rep (gh0 W) (.agg (kyAV k)) v := by
  obtain ⟨cs, rfl⟩ := okWide_struct key_is hv
  obtain ⟨xs, ⟨k, rfl, h⟩, hr⟩ := tr_Key.argN hd
  refine ⟨k, ?_, hr⟩
  obtain ⟨vs, e, hl⟩ := hr
  obtain rfl : cs = vs := by cases e; rfl
  obtain ⟨x, h5, hx⟩ := RepL.get hl 5 (.str k.text) rfl
  have hx : x = .string ⟨k.text.toArray⟩ := hx
  subst hx
  have := bulk_field key_is (off := 5) (ty := 9) (by decide) (by kernel_rfl) (by kernel_rfl) h5 hd
  simpa using this
theorem tr_u8 : TR enc Tryd.prog W 5 fun xs => ∃ c : UInt8, xs = [.int .u8 (c.toNat : Int)] := by
  refine (TR.int (k := .u8) (by kernel_rfl)).mono ?_
  rintro xs ⟨n, rfl, h1, h2⟩
  obtain ⟨c, rfl⟩ := u8_of h1 h2
  exact ⟨c, rfl⟩
theorem okWide_array {t e : TypeId} {n base : Nat} {v : Value} {r : Reach} (h : Tryd.prog.underlying t = some (.array n e)) (hv : Value.okWide Tryd.prog W r base t v) : ∃ cs, v = .agg cs := by
  simp only [Value.okWide, h] at hv
  obtain ⟨cs, h, _⟩ := hv
  exact ⟨cs, h⟩
def zero_2uint8 : Value := .agg #[.int .u8 0, .int .u8 0]
end
end Go.Proofs.YthmjlngdbabdeaaDoor

/- Arguments that are modes, opened. -/
set_option linter.unusedVariables false
set_option linter.unusedSimpArgs false
set_option maxRecDepth 100000
namespace Go.Proofs.YthmjlngdbabdeaaDoor
open Go Go.Ab Go.WideShapes Go.RowKit
def zero_apiModes : Value := .agg #[.bool false, .bool false, .bool false, .bool false, .bool false, .bool false, .bool false, .int .i64 0, .int .i64 0, .int .i64 0]
section
variable {H : Type} {enc : TypeId × Value → H} {W : World} {base : Nat} {v : Value} {d : DataW H} {p : List MemPlace}
theorem modes_is : structIs Tryd.prog 44 [(0, 4), (1, 4), (2, 4), (3, 4), (4, 4), (5, 4), (6, 4), (7, 3), (8, 3), (9, 3)] = true := by kernel_rfl
theorem tr_Modes : TR enc Tryd.prog W 44 fun xs => ∃ m : Md, xs = mdAV m := by
  refine (TR.structL (Rs := [fun xs => ∃ b, xs = [.bool b], fun xs => ∃ b, xs = [.bool b], fun xs => ∃ b, xs = [.bool b], fun xs => ∃ b, xs = [.bool b], fun xs => ∃ b, xs = [.bool b], fun xs => ∃ b, xs = [.bool b], fun xs => ∃ b, xs = [.bool b], fun xs => ∃ n, xs = [.int .i64 n] ∧ IntKind.i64.min ≤ n ∧ n ≤ IntKind.i64.max, fun xs => ∃ n, xs = [.int .i64 n] ∧ IntKind.i64.min ≤ n ∧ n ≤ IntKind.i64.max, fun xs => ∃ n, xs = [.int .i64 n] ∧ IntKind.i64.min ≤ n ∧ n ≤ IntKind.i64.max]) 10 modes_is (by kernel_rfl) ?_).mono ?_
  · exact ⟨rfl, TR.bool (by kernel_rfl), 1, by kernel_rfl, rfl, TR.bool (by kernel_rfl), 1, by kernel_rfl, rfl, TR.bool (by kernel_rfl), 1, by kernel_rfl, rfl, TR.bool (by kernel_rfl), 1, by kernel_rfl, rfl, TR.bool (by kernel_rfl), 1, by kernel_rfl, rfl, TR.bool (by kernel_rfl), 1, by kernel_rfl, rfl, TR.bool (by kernel_rfl), 1, by kernel_rfl, rfl, TR.int (by kernel_rfl), 1, by kernel_rfl, rfl, TR.int (by kernel_rfl), 1, by kernel_rfl, rfl, TR.int (by kernel_rfl), 1, by kernel_rfl, rfl⟩
  · rintro xs ⟨_, _, ⟨a, rfl⟩, ⟨_, _, ⟨b, rfl⟩, ⟨_, _, ⟨c, rfl⟩, ⟨_, _, ⟨e, rfl⟩, ⟨_, _, ⟨f, rfl⟩, ⟨_, _, ⟨g, rfl⟩, ⟨_, _, ⟨i, rfl⟩, ⟨_, _, ⟨j, rfl, _⟩, ⟨_, _, ⟨k, rfl, _⟩, ⟨_, _, ⟨l, rfl, _⟩, h, rfl⟩, rfl⟩, rfl⟩, rfl⟩, rfl⟩, rfl⟩, rfl⟩, rfl⟩, rfl⟩, rfl⟩
    have h : _ = [] := h
    subst h
    exact ⟨⟨a, b, c, e, f, g, i, j, k, l⟩, rfl⟩
theorem op_apiModes (hv : Value.okWide Tryd.prog W .any base 44 v) (hd : DataW.Trod enc Tryd.prog W 0 (fun _ => true) true 44 v d p) : ∃ m : Md, True ∧ Rep (gh0 W) (.agg (mdAV m)) v := by
  obtain ⟨cs, rfl⟩ := okWide_struct modes_is hv
  obtain ⟨xs, ⟨m, rfl⟩, hr⟩ := tr_Modes.argN hd
  exact ⟨m, trivial, hr⟩
end
end Go.Proofs.YthmjlngdbabdeaaDoor

/- LegacyForms: whatever the input that the row lets in: true, and the input reads as it did. Conditions: those of the given row and card alone. -/
set_option linter.unusedVariables false
set_option linter.unusedSimpArgs false
set_option maxRecDepth 100000
namespace Go.Proofs.YthmjlngdbabdeaaDoor
open Go Go.Ab Go.ChangeShapes Go.WideShapes Go.ChangeAt Go.RowKit
theorem legacyForms_lifted (os : Os) (started : os.Started) (H : Type) (enc : TypeId × Value → H) (F : Stop.Interp) :
    ReturnsInHanded {} Tryd.checked os 9 .any ((OpenSpec.ofChange Rows.legacyFormsSpec).preRow enc Tryd.prog Tryd.f9 Rows.legacyFormsRow.domain false Rows.legacyFormsRow.laid) (((OpenSpec.ofChange Rows.legacyFormsSpec).at F).post enc Tryd.prog Tryd.f9 false true false false) := by
  have hw : (DataW.whole enc Tryd.prog ((World.laidAll Tryd.prog os [("math/bits.deBruijn32tab", Rows.laid_math_bits_deBruijn32tab), ("math/bits.deBruijn64tab", Rows.laid_math_bits_deBruijn64tab), ("internal/strconv.uint64pow10", Rows.laid_internal_strconv_uint64pow10), ("unicode/utf8.acceptRanges", Rows.laid_unicode_utf8_acceptRanges), ("unicode/utf8.first", Rows.laid_unicode_utf8_first)]).forCall (fun _ _ => 0) ⟨#[], #[zero_apiModes, .int .u8 0, .int .u8 0], []⟩).memory Tryd.f9.params.toList (OpenSpec.ofChange Rows.legacyFormsSpec).vars false (#[zero_apiModes, .int .u8 0, .int .u8 0] : Array Value).toList 8).any (fun x => true) = true := by kernel_rfl
  cases hx : DataW.whole enc Tryd.prog ((World.laidAll Tryd.prog os [("math/bits.deBruijn32tab", Rows.laid_math_bits_deBruijn32tab), ("math/bits.deBruijn64tab", Rows.laid_math_bits_deBruijn64tab), ("internal/strconv.uint64pow10", Rows.laid_internal_strconv_uint64pow10), ("unicode/utf8.acceptRanges", Rows.laid_unicode_utf8_acceptRanges), ("unicode/utf8.first", Rows.laid_unicode_utf8_first)]).forCall (fun _ _ => 0) ⟨#[], #[zero_apiModes, .int .u8 0, .int .u8 0], []⟩).memory Tryd.f9.params.toList (OpenSpec.ofChange Rows.legacyFormsSpec).vars false (#[zero_apiModes, .int .u8 0, .int .u8 0] : Array Value).toList 8 with
  | none => rw [hx] at hw; cases hw
  | some x =>
  rw [hx] at hw
  have hok : Input.okWideB Tryd.checked.prog ((World.laidAll Tryd.prog os [("math/bits.deBruijn32tab", Rows.laid_math_bits_deBruijn32tab), ("math/bits.deBruijn64tab", Rows.laid_math_bits_deBruijn64tab), ("internal/strconv.uint64pow10", Rows.laid_internal_strconv_uint64pow10), ("unicode/utf8.acceptRanges", Rows.laid_unicode_utf8_acceptRanges), ("unicode/utf8.first", Rows.laid_unicode_utf8_first)]).forCall (fun _ _ => 0) ⟨#[], #[zero_apiModes, .int .u8 0, .int .u8 0], []⟩) 9 ⟨#[], #[zero_apiModes, .int .u8 0, .int .u8 0], []⟩ = true := by kernel_rfl
  refine returnsInHanded_of_row (C := Tryd.checked) (s := (OpenSpec.ofChange Rows.legacyFormsSpec)) seat_own started (by kernel_rfl) Tryd.func9
    ⟨World.laidAll Tryd.prog os [("math/bits.deBruijn32tab", Rows.laid_math_bits_deBruijn32tab), ("math/bits.deBruijn64tab", Rows.laid_math_bits_deBruijn64tab), ("internal/strconv.uint64pow10", Rows.laid_internal_strconv_uint64pow10), ("unicode/utf8.acceptRanges", Rows.laid_unicode_utf8_acceptRanges), ("unicode/utf8.first", Rows.laid_unicode_utf8_first)], fun _ _ => 0, ⟨#[], #[zero_apiModes, .int .u8 0, .int .u8 0], []⟩, World.laidAll_os _ _ _, World.shaped_of_ZipB (by kernel_rfl) (by kernel_rfl), (Input.okWide_of_okWideB (base := 0) hok).1, (Input.okWide_of_okWideB hok).2,
      OpenSpec.preRow_of_cond 8 hx (by kernel_rfl) (fun k hk => by cases hk) (by kernel_rfl) (by rw [show Rows.legacyFormsRow.laid = [("math/bits.deBruijn32tab", Rows.laid_math_bits_deBruijn32tab), ("math/bits.deBruijn64tab", Rows.laid_math_bits_deBruijn64tab), ("internal/strconv.uint64pow10", Rows.laid_internal_strconv_uint64pow10), ("unicode/utf8.acceptRanges", Rows.laid_unicode_utf8_acceptRanges), ("unicode/utf8.first", Rows.laid_unicode_utf8_first)] from rfl, MakeChecks.laidMetH_plain _ _ _ (by kernel_rfl)]; exact laidMet_laidAll _ (by kernel_rfl) (by kernel_rfl)),
      by simp only [Assume.holds]; exact ⟨by simp, by simp, fun _ => Modest.zero, by simp, by simp⟩⟩ ?_
  intro W base args ds gs before hval0 hW _ hcond hreach hL _ _
  have hval : ∀ (j : Nat) t v, Tryd.f9.params[j]? = some t → args[j]? = some v → Value.okWide Tryd.prog W .any base t v := hval0
  have hW' := hW
  obtain ⟨p, q, hA0, hV, rfl, _, _⟩ := hW
  have hA : DataW.TrodAll enc Tryd.prog W 0 (fun _ => true) true Tryd.f9.params.toList args.toList ds p := hA0
  rw [Tryd.params9] at hA hval
  obtain ⟨v0, vs0, d0, ds0, p0, q0, hargs, rfl, rfl, h0, r0⟩ := trodAll_cons hA
  obtain ⟨v1, vs1, d1, ds1, p1, q1, rfl, rfl, rfl, h1, r1⟩ := trodAll_cons r0
  obtain ⟨v2, vs2, d2, ds2, p2, q2, rfl, rfl, rfl, h2, r2⟩ := trodAll_cons r1
  obtain ⟨rfl, rfl, rfl⟩ := trodAll_nil r2
  obtain rfl : args = #[v0, v1, v2] := by cases args; simp_all
  obtain ⟨rfl, rfl⟩ := trodVars_none hV
  have lt0 : ∀ x ∈ p0, x.block < W.heap.size := by obtain ⟨m, hm⟩ := h0; exact DataW.trod_lt m _ _ _ hm
  obtain ⟨x0, c0, e0⟩ := op_apiModes (hval 0 44 v0 rfl rfl) h0
  have lt1 : ∀ x ∈ p1, x.block < W.heap.size := by obtain ⟨m, hm⟩ := h1; exact DataW.trod_lt m _ _ _ hm
  obtain ⟨x1, c1, e1⟩ := op_u8 (hval 1 5 v1 rfl rfl) h1
  have lt2 : ∀ x ∈ p2, x.block < W.heap.size := by obtain ⟨m, hm⟩ := h2; exact DataW.trod_lt m _ _ _ hm
  obtain ⟨x2, c2, e2⟩ := op_u8 (hval 2 5 v2 rfl rfl) h2
  clear hA0 hval0
  refine ((fs_LegacyForms (Gl := fun _ => True) (fun _ _ _ _ => trivial) c0 c1 c2).row (fixW_of5 hL) trivial ⟨_, _, rfl, e0, ⟨_, _, rfl, e1, ⟨_, _, rfl, e2, rfl⟩⟩⟩).mono fun e W' ⟨v, g', he, hr, bel⟩ => ?_
  obtain rfl : v = .bool true := hr
  subst he
  exact ⟨_, rfl, _, _, _, [], _, [], hW', trodAll_mk1 (shut_bool (show Tryd.prog.underlying 4 = some .bool by kernel_rfl) _), (trodAll_cons_mk (Below.trod seat_laidOut (by kernel_rfl) (of_decide_eq_true (by kernel_rfl)) h0 bel lt0) (trodAll_cons_mk (Below.trod seat_laidOut (by kernel_rfl) (of_decide_eq_true (by kernel_rfl)) h1 bel lt1) (trodAll_cons_mk (Below.trod seat_laidOut (by kernel_rfl) (of_decide_eq_true (by kernel_rfl)) h2 bel lt2) trodAll_mk0))), rfl, bel.frame _, fun h => by cases h⟩
theorem legacyForms_holds : Rows.LegacyFormsSaid :=
  OpenClaim.holds_of_cond 9 Tryd.f9 rfl rfl rfl rfl rfl rfl rfl ⟨rfl, rfl, rfl, rfl, rfl⟩ rfl rfl rfl rfl rfl (by kernel_rfl) Tryd.func9 (by kernel_rfl)
    (of_decide_eq_true (by kernel_rfl)) (by unfold Func.isWrapper; first | (rw [if_pos (by decide +kernel)]; kernel_rfl) | (rw [if_neg (by decide +kernel)]; exact ⟨rfl, rfl⟩))
    (fun os started H enc _ F => by rw [OpenClaim.pre_eq_preRow]; exact legacyForms_lifted os started H enc F)
theorem legacyForms_card : Rows.LegacyFormsCardSaid :=
  Claim7.holds_tied_plain_at .later [] [.data, .data, .data, .data, .pinned] true (true, "10d7e15395e41b53405f503ad2025702628cc14fe275b052672ea38bef7cccf1") false legacyForms_holds (fun _ h => by cases h) (by kernel_rfl) (fun _ h => by cases h) legacyForms_row_tie rfl ⟨rfl, rfl⟩ (by kernel_rfl) rfl
    (fun f fn hf hfn => by
      obtain rfl : f = 9 := Option.some.inj ((show Tryd.prog.funcNamed "clavier/clavierlaw11.LegacyForms" = some 9 by kernel_rfl).symm.trans hf) |>.symm
      obtain rfl : fn = Tryd.f9 := (Option.some.inj (Tryd.func9.symm.trans hfn)).symm
      exact ⟨by kernel_rfl, fun j t ht => by
        rw [Tryd.params9] at ht
        have hm : t ∈ ([44, 5, 5] : List Nat) := by simpa using Array.mem_of_getElem? ht
        have hall : (([44, 5, 5] : List Nat).all fun u => !Tryd.prog.wantsStandIn u) = true := by kernel_rfl
        exact (show Tryd.prog.wantsStandIn t = false by simpa using List.all_eq_true.1 hall t hm)⟩)
    (by kernel_rfl)
#print axioms legacyForms_card
end Go.Proofs.YthmjlngdbabdeaaDoor

