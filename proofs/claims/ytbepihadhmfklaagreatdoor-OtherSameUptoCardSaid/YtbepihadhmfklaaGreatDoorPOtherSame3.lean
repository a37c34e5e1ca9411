/- Part 3 of 3 of a proof: the given statement OtherSame, whatever the input that its row lets in. Conditions: those of the given row and card alone. -/
import Derived.Test.YtbepihadhmfklaaGreatDoorPOtherSame2
import Derived.Test.YtbepihadhmfklaaGreatDoorPOtherSameAb13
import Derived.Test.YtbepihadhmfklaaGreatDoorPOtherSame1
import Derived.WalkKit
import Derived.ProofKit
import Derived.SizedLaws
import Derived.Test.YtbepihadhmfklaaGreatDoorRows
import Derived.LaidSub
import Derived.Lib.LaidTab
import Derived.Lib.ItoaNum
import Derived.MakeChecks
import Derived.Test.YtbepihadhmfklaaGreatDoorCards
import Derived.Test.YtbepihadhmfklaaGreatDoorTie
import Derived.Deep.DeepHandedRow
import Derived.JoinedCond
import Derived.OpenShut
import Derived.ShutString
import Derived.ChangeOld
import Derived.Below
import Derived.Lay
import Derived.LaidOnce
import Derived.SevenTiedAt
set_option linter.unusedVariables false
set_option linter.unusedSimpArgs false
set_option maxRecDepth 100000
namespace Go.Proofs.YtbepihadhmfklaaGreatDoor
open Go Go.Ab
/-- clavier/wire.number -/
def ir_wirenumber : ICode :=
 (.seq
  (.reg [⟨some 2, none, .mov (.c (.int .i64 0))⟩] (some [0]))
  (.seq
   (.seq
    (.reg [⟨some 5, none, .mov (.t 0)⟩,
      ⟨some 6, none, .bin .eql .none (.t 5) (.c (.str []))⟩] (some [0, 6]))
    (.cond (.t 6)
     (.seq
      (.reg [⟨some 2, none, .mov (.c (.int .i64 (-1)))⟩] (some [2]))
      .ret)
     .skip))
   (.seq
    (.reg [⟨some 8, none, .mov (.t 0)⟩,
      ⟨some 9, none, .s2b 5 (.t 8)⟩,
      ⟨some 10, none, .call (.c (.fn (.func 144) [] [])) [(.t 9)]⟩,
      ⟨some 7, none, .mov (.t 10)⟩,
      ⟨some 11, none, .ext (.t 7) 0⟩,
      ⟨some 12, none, .ext (.t 7) 1⟩,
      ⟨some 3, none, .mov (.t 11)⟩,
      ⟨some 4, none, .mov (.t 12)⟩] (some [3]))
    (.seq
     (.reg [⟨some 13, none, .mov (.t 3)⟩,
       ⟨some 2, none, .mov (.t 13)⟩] (some [2]))
     .ret))))
theorem is_wirenumber : IrOf Tryz.prog 130 14 ir_wirenumber [.t 2] := ⟨_, Tryz.func130, rfl, by kernel_rfl, by kernel_rfl, by kernel_rfl⟩

/- (*clavier/wire.reader).params -/
def ir_wirereaderparams_b0 : ICode :=
 (.blk 3
               (.drw [⟨⟨some 37, none, .ld none (.t 5)⟩, []⟩,
                 ⟨⟨some 38, none, .mov (.t 6)⟩, []⟩,
                 ⟨⟨some 39, none, .call (.c (.fn (.func 130) [] [])) [(.t 38)]⟩, [1]⟩,
                 ⟨⟨some 40, none, .row 3 1 [(.t 39)]⟩, [2]⟩,
                 ⟨⟨some 41, none, .app 3 1 8 (.t 37) (.t 40)⟩, [0, 3, 2]⟩]
                 [⟨none, none, .st 1 (.t 5) (.t 41)⟩] (some [])))
def ir_wirereaderparams_b1 : ICode :=
 (.blk 1
         (.seq
          (.reg [⟨some 5, none, .box 64 (.c .nils)⟩] (some [1, 4, 5]))
          (.seq
           (.seq
            (.reg [⟨some 34, none, .mov (.t 4)⟩,
              ⟨some 35, none, .call (.c (.fn (.func 129) [] [])) [(.t 34), (.c (.str [58]))]⟩] (some [1, 5, 35]))
            (.blk 2
             (.rgf (.t 35) [36]
              (.reg [⟨some 6, none, .mov (.t 36)⟩] (some [5, 6]))
              ir_wirereaderparams_b0)))
           (.drw [⟨⟨some 42, none, .ld none (.t 1)⟩, []⟩,
             ⟨⟨some 43, none, .ld none (.t 1)⟩, []⟩,
             ⟨⟨some 44, none, .nck (.t 43)⟩, [1]⟩,
             ⟨⟨some 45, none, .fa 2 (.t 44)⟩, [2]⟩,
             ⟨⟨some 46, none, .fa 2 (.t 45)⟩, [3]⟩,
             ⟨⟨some 47, none, .ld none (.t 46)⟩, [4]⟩,
             ⟨⟨some 48, none, .ld none (.t 5)⟩, []⟩,
             ⟨⟨some 49, none, .row 64 1 [(.t 48)]⟩, [6]⟩,
             ⟨⟨some 50, none, .app 64 1 24 (.t 47) (.t 49)⟩, [5, 7]⟩]
             [⟨some 51, none, .nck (.t 42)⟩,
             ⟨some 52, none, .fa 2 (.t 51)⟩,
             ⟨some 53, none, .fa 2 (.t 52)⟩,
             ⟨none, none, .st 1 (.t 53) (.t 50)⟩] (some [])))))
def ir_wirereaderparams_t4 : ICode :=
 (.seq
  (.reg [⟨some 31, none, .mov (.t 3)⟩,
        ⟨some 32, none, .call (.c (.fn (.func 129) [] [])) [(.t 31), (.c (.str [59]))]⟩] (some [1, 32]))
  (.blk 0
       (.rgf (.t 32) [33]
        (.reg [⟨some 4, none, .mov (.t 33)⟩] (some [1, 4]))
        ir_wirereaderparams_b1)))
def ir_wirereaderparams_t3 : ICode :=
 (.seq
  (.seq
      (.reg [⟨some 29, none, .mov (.t 3)⟩,
        ⟨some 30, none, .bin .eql .none (.t 29) (.c (.str []))⟩] (some [1, 3, 30]))
      (.cond (.t 30)
       .ret
       .skip))
  ir_wirereaderparams_t4)
def ir_wirereaderparams_t2 : ICode :=
 (.seq
  (.reg [⟨some 25, none, .ld none (.t 1)⟩,
      ⟨some 26, none, .nck (.t 25)⟩,
      ⟨some 27, none, .fa 0 (.t 26)⟩,
      ⟨some 28, none, .call (.c (.fn (.func 104) [] [])) [(.t 27), (.c (.int .u8 48)), (.c (.int .u8 59))]⟩,
      ⟨some 3, none, .mov (.t 28)⟩] (some [1, 3]))
  ir_wirereaderparams_t3)
def ir_wirereaderparams_t1 : ICode :=
 (.seq
  (.seq
    (.reg [⟨some 7, none, .ld none (.t 1)⟩,
      ⟨some 8, none, .nck (.t 7)⟩,
      ⟨some 9, none, .fa 0 (.t 8)⟩,
      ⟨some 10, none, .call (.c (.fn (.func 101) [] [])) [(.t 9)]⟩,
      ⟨some 2, none, .mov (.t 10)⟩] (some [1, 2]))
    (.seq
     (.reg [⟨some 11, none, .mov (.t 2)⟩,
       ⟨some 12, none, .bin .geq .none (.t 11) (.c (.int .u8 60))⟩,
       ⟨some 13, none, .mov (.t 12)⟩,
       ⟨some 14, some (13, true), .mov (.t 2)⟩,
       ⟨some 15, some (13, true), .bin .leq .none (.t 14) (.c (.int .u8 63))⟩,
       ⟨some 16, none, .pick (.t 13) (.t 15) (.c (.bool false))⟩] (some [1, 16]))
     (.cond (.t 16)
      (.drwm [(), (), (), ()] [⟨⟨some 17, none, .ld none (.t 1)⟩, []⟩,
        ⟨⟨some 18, none, .ld none (.t 1)⟩, []⟩,
        ⟨⟨some 19, none, .nck (.t 18)⟩, [1]⟩,
        ⟨⟨some 20, none, .fa 0 (.t 19)⟩, [2]⟩,
        ⟨⟨some 21, none, .call (.c (.fn (.func 100) [] [])) [(.t 20)]⟩, [3]⟩]
        [⟨some 22, none, .nck (.t 17)⟩,
        ⟨some 23, none, .fa 2 (.t 22)⟩,
        ⟨some 24, none, .fa 1 (.t 23)⟩,
        ⟨none, none, .st 1 (.t 24) (.t 21)⟩] (some [1]))
      .skip)))
  ir_wirereaderparams_t2)
def ir_wirereaderparams : ICode :=
 (.seq
  (.reg [⟨some 1, none, .box 115 (.t 0)⟩] (some [1]))
  ir_wirereaderparams_t1)
theorem is_wirereaderparams : IrOf Tryz.prog 102 54 ir_wirereaderparams [] := ⟨_, Tryz.func102, rfl, by kernel_rfl, by kernel_rfl, by kernel_rfl⟩


theorem fs_wNumber {Gl : Gh → Prop} (hst : Stays Gl) {t : List UInt8} (ht : t.length ≤ maxLen) : FS Tryz.prog Gl 130 [.str t] [] [] (.int .i64 (numW t)) [] [] := by
  refine FS.of hm hst is_wirenumber (by simp) fun γ hγ hfr => ?_
  (generalize hQ : (fun (ex : Ex) (_ _ : Nat) (s : St) => _) = Q; unfold ir_wirenumber)
  cases t with
  | nil =>
    simp +contextual (maxSteps := 1000000) only [go_sem, reduceCtorEq, ↓reduceIte, Nat.reduceAdd, Nat.reduceEqDiff, Nat.reduceLeDiff, Nat.reduceMul, Nat.reduceBEq, Int.reduceBEq, Int.reduceBNe, Int.reduceLT, Int.reduceLE, Int.reduceGT, Int.reduceGE, Int.reduceToNat, Int.natCast_one, Int.natCast_zero, Int.cast_ofNat_Int]
    rw [← hQ]
    exact ⟨trivial, Ret.flat rfl rfl⟩
  | cons c l =>
    have hl : (c :: l).length < 9223372036854775808 := Nat.lt_of_le_of_lt ht (by decide)
    simp +contextual (maxSteps := 1000000) only [ht, go_sem, reduceCtorEq, ↓reduceIte, Nat.reduceAdd, Nat.reduceEqDiff, Nat.reduceLeDiff, Nat.reduceMul, Nat.reduceBEq, Int.reduceBEq, Int.reduceBNe, Int.reduceLT, Int.reduceLE, Int.reduceGT, Int.reduceGE, Int.reduceToNat, Int.natCast_one, Int.natCast_zero, Int.cast_ofNat_Int]
    refine ⟨ht, ?_⟩
    (refine CallP.pure (fs_take hst hl) (fun _ => rfl) ?_; simp +contextual (maxSteps := 1000000) only [go_sem, reduceCtorEq, ↓reduceIte, Nat.reduceAdd, Nat.reduceEqDiff, Nat.reduceLeDiff, Nat.reduceMul, Nat.reduceBEq, Int.reduceBEq, Int.reduceBNe, Int.reduceLT, Int.reduceLE, Int.reduceGT, Int.reduceGE, Int.reduceToNat, Int.natCast_one, Int.natCast_zero, Int.cast_ofNat_Int])
    rw [← hQ]
    have : numW (c :: l) = ((takeN (c :: l) 0 0).1 : Int) := by unfold numW; rw [if_neg (by simp)]
    rw [this]
    exact ⟨trivial, Ret.flat rfl rfl⟩
theorem CallP.rdX {Gl : Gh → Prop} {k : FuncId} {args : List AV} {p : Nm} {H Ha : Hp} {b : List UInt8} {n n' : Nat} {s s' : Sq} {y : AV} {T : Tk} {f : Nat → Nm} {K : AV → Hp → Tk → Prop} (h : FS Tryz.prog Gl k args [(p, .cells (rdC b n s))] [] y [(p, .cells (rdC b n' s'))] []) (hp : 1 ≤ p.1) (hy : y.flatT = true) (hap : ∀ q ∈ Ha, p ≠ q.1)
    (hH : ∀ q ∈ (p, HB.cells (rdC b n s)) :: Ha, q ∈ H) (hK : K y ((p, .cells (rdC b n' s')) :: Ha) T) : CallP Tryz.prog Gl k args H T f K := by
  refine ⟨_, _, _, h, fun q hq => hH q (by simp only [List.mem_singleton] at hq; subst hq; exact List.mem_cons_self), by simp, ?_⟩
  rintro r H1 T1 ⟨rfl, rfl, rfl⟩
  refine ⟨(p, .cells (rdC b n' s')) :: Ha, T, fun q hq => ?_, fun t ht => .inr ⟨ht, by simp⟩, by rw [flatT_rn hy]; exact hK⟩
  rcases List.mem_cons.1 hq with rfl | hq
  · refine List.mem_append.2 (.inl ?_)
    simp only [rnH, List.map_cons, List.map_nil, nm_real hp, rdC_rn, List.mem_singleton]
  · refine List.mem_append.2 (.inr (List.mem_filter.2 ⟨hH q (List.mem_cons_of_mem _ hq), ?_⟩))
    simp only [List.all_cons, List.all_nil, Bool.and_true, decide_eq_true_eq]
    exact hap q hq
theorem rdC_rnH {f : Nat → Nm} {p : Nm} (hp : 1 ≤ p.1) {b : List UInt8} {n : Nat} {s : Sq} : rnH f [(p, .cells (rdC b n s))] = [(p, .cells (rdC b n s))] := by
  simp only [rnH, List.map_cons, List.map_nil, nm_real hp, rdC_rn]

set_option maxHeartbeats 4000000 in
theorem fs_wParams {Gl : Gh → Prop} (hst : Stays Gl) {p : Nm} (hp : 1 ≤ p.1) {b : List UInt8} {n : Nat} {s : Sq} (hn : n ≤ b.length) (hb : b.length ≤ 4000000000) (h1 : s.pr = 0) (h2 : s.ps = []) :
    FS Tryz.prog Gl 102 [.ptr p 0] [(p, .cells (rdC b n s))] [] (.tup []) [(p, .cells (rdC b (n + (headW (b.drop n)).2.2) { s with pr := (headW (b.drop n)).1, ps := (headW (b.drop n)).2.1 }))] [] := by
  obtain ⟨sk, spr, sps, sit, sfi, sda⟩ := s
  simp only at h1 h2
  subst h1 h2
  refine FS.ofK hm hst is_wirereaderparams (by simp) fun γ hγ hfr => ?_
  have hpg : p.1 ≠ γ := hfr.1 _ List.mem_cons_self
  have hne : ∀ i j, (p = (γ, i, j)) = False := fun i j => eq_false fun e => hpg (by rw [e])
  have hne2 : ∀ i j, ((γ, i, j) = p) = False := fun i j => eq_false fun e => hpg (by rw [← e])
  have hap : ∀ q ∈ ([((γ, 0, 0), .cells [.ptr p 0])] : Hp), p ≠ q.1 := fun q hq e => by simp only [List.mem_singleton] at hq; subst hq; exact hpg (by rw [e])
  (generalize hQ : (fun (ex : Ex) (_ _ : Nat) (s : St) => _) = Q; unfold ir_wirereaderparams)
  simp only [rdC]
  simp +contextual (maxSteps := 1000000) only [hne, hne2, go_sem, reduceCtorEq, ↓reduceIte, Nat.reduceAdd, Nat.reduceEqDiff, Nat.reduceLeDiff, Nat.reduceMul, Nat.reduceBEq, Int.reduceBEq, Int.reduceBNe, Int.reduceLT, Int.reduceLE, Int.reduceGT, Int.reduceGE, Int.reduceToNat, Int.natCast_one, Int.natCast_zero, Int.cast_ofNat_Int]
  unfold ir_wirereaderparams_t1
  simp +contextual (maxSteps := 1000000) only [hne, hne2, go_sem, reduceCtorEq, ↓reduceIte, Nat.reduceAdd, Nat.reduceEqDiff, Nat.reduceLeDiff, Nat.reduceMul, Nat.reduceBEq, Int.reduceBEq, Int.reduceBNe, Int.reduceLT, Int.reduceLE, Int.reduceGT, Int.reduceGE, Int.reduceToNat, Int.natCast_one, Int.natCast_zero, Int.cast_ofNat_Int]
  refine CallP.rdX (Ha := [((γ, 0, 0), .cells [.ptr p 0])]) (fs_peek (b := b) (n := n) (s := ⟨sk, 0, [], sit, sfi, sda⟩) hst hp) hp rfl hap (by simp [rdC]) ?_
  simp only [rdC]
  generalize hc : peekW b n = c
  have hcond : (decide ((c.toNat : Int) ≥ 60) && decide ((c.toNat : Int) ≤ 63)) = isPr c := by
    unfold isPr; rw [Bool.eq_iff_iff]; simp; omega
  -- behind the mark
  have go2 : ∀ (m : Nat) (pr : Int) (c' : Nat) (F : Nat → AV), F 1 = .ptr (γ, 0, 0) 0 → m ≤ b.length → headW (b.drop n) = (pr, numsW (runL 48 59 (b.drop m)), (m - n) + (runL 48 59 (b.drop m)).length) → n ≤ m →
      aw Tryz.prog Gl ir_wirereaderparams_t2 γ c' ⟨F, [(p, .cells [.sl none 1 (bytesAV b), .int .i64 m, .int .i64 sk, .int .u8 pr, pw [], .str sit, .int .u8 sfi, .str sda]), ((γ, 0, 0), .cells [.ptr p 0])], fun x => x ∈ []⟩ Q := by
    intro m pr c' F hF hm' hw hnm
    have cr : FS Tryz.prog Gl 104 [.ptr p 0, .int .u8 48, .int .u8 59] [(p, .cells (rdC b m ⟨sk, pr, [], sit, sfi, sda⟩))] [] (.str (runL 48 59 (b.drop m))) [(p, .cells (rdC b (m + (runL 48 59 (b.drop m)).length) ⟨sk, pr, [], sit, sfi, sda⟩))] [] := fs_run hst hp (x := 48) (y := 59) hm' (by omega)
    have htl := runL_le 48 59 (b.drop m)
    rw [List.length_drop] at htl
    generalize runL 48 59 (b.drop m) = t at cr htl hw
    unfold ir_wirereaderparams_t2
    simp +contextual (maxSteps := 1000000) only [hne, hne2, hF, go_sem, reduceCtorEq, ↓reduceIte, Nat.reduceAdd, Nat.reduceEqDiff, Nat.reduceLeDiff, Nat.reduceMul, Nat.reduceBEq, Int.reduceBEq, Int.reduceBNe, Int.reduceLT, Int.reduceLE, Int.reduceGT, Int.reduceGE, Int.reduceToNat, Int.natCast_one, Int.natCast_zero, Int.cast_ofNat_Int]
    refine CallP.rdX (Ha := [((γ, 0, 0), .cells [.ptr p 0])]) cr hp rfl hap (by simp [rdC]) ?_
    unfold ir_wirereaderparams_t3
    simp only [rdC]
    have hfin : n + ((m - n) + t.length) = m + t.length := by omega
    by_cases hte : t = []
    · have hd : decide (t = []) = true := decide_eq_true hte
      simp +contextual (maxSteps := 1000000) only [hne, hne2, hd, go_sem, reduceCtorEq, ↓reduceIte, Nat.reduceAdd, Nat.reduceEqDiff, Nat.reduceLeDiff, Nat.reduceMul, Nat.reduceBEq, Int.reduceBEq, Int.reduceBNe, Int.reduceLT, Int.reduceLE, Int.reduceGT, Int.reduceGE, Int.reduceToNat, Int.natCast_one, Int.natCast_zero, Int.cast_ofNat_Int]
      rw [← hQ, hw]
      refine ⟨trivial, 0, _, Wk.refl _ _ _, Ret.rd rfl rfl hp ?_⟩
      rw [hfin, hte]
      simp [rdC, numsW, pw]
    · have hd : decide (t = []) = false := decide_eq_false hte
      have hnums : numsW t = (splitB 59 t).map subsW := by unfold numsW; rw [if_neg hte]
      simp +contextual (maxSteps := 1000000) only [hne, hne2, hd, go_sem, reduceCtorEq, ↓reduceIte, Nat.reduceAdd, Nat.reduceEqDiff, Nat.reduceLeDiff, Nat.reduceMul, Nat.reduceBEq, Int.reduceBEq, Int.reduceBNe, Int.reduceLT, Int.reduceLE, Int.reduceGT, Int.reduceGE, Int.reduceToNat, Int.natCast_one, Int.natCast_zero, Int.cast_ofNat_Int]
      unfold ir_wirereaderparams_t4
      simp +contextual (maxSteps := 1000000) only [hne, hne2, go_sem, reduceCtorEq, ↓reduceIte, Nat.reduceAdd, Nat.reduceEqDiff, Nat.reduceLeDiff, Nat.reduceMul, Nat.reduceBEq, Int.reduceBEq, Int.reduceBNe, Int.reduceLT, Int.reduceLE, Int.reduceGT, Int.reduceGE, Int.reduceToNat, Int.natCast_one, Int.natCast_zero, Int.cast_ofNat_Int]
      refine CallP.of (fs_SplitSeq hst) (by simp) (by simp) ?_
      simp only [rnH, hpSplit, rnN, rnHB, rnL, Ab.rn]
      simp +contextual (maxSteps := 1000000) only [hne, hne2, go_sem, reduceCtorEq, ↓reduceIte, Nat.reduceAdd, Nat.reduceEqDiff, Nat.reduceLeDiff, Nat.reduceMul, Nat.reduceBEq, Int.reduceBEq, Int.reduceBNe, Int.reduceLT, Int.reduceLE, Int.reduceGT, Int.reduceGE, Int.reduceToNat, Int.natCast_one, Int.natCast_zero, Int.cast_ofNat_Int]
      refine rgf_of rfl ((splitB 59 t).map fun q => [.str q])
        (fun i H T => ∃ (tk : Option Nm) (Hx : Hp), (tk = none → i = 0) ∧ (∀ x, tk = some x → γ ≤ x.1 ∧ T x) ∧ H = (p, .cells [.sl none 1 (bytesAV b), .int .i64 ((m + t.length : Nat) : Int), .int .i64 sk, .int .u8 pr, sv tk 1 (parsAV (((splitB 59 t).take i).map subsW)), .str sit, .int .u8 sfi, .str sda]) :: ((γ, 0, 0), .cells [.ptr p 0]) :: Hx)
        (fun _ _ _ => False) (hpSplit t 59 (γ, c' + 5 + 2 + 1, 0) (γ, c' + 5 + 2 + 1, 1) (γ, c' + 5 + 2 + 1, 2)) [(p, .cells [.sl none 1 (bytesAV b), .int .i64 ((m + t.length : Nat) : Int), .int .i64 sk, .int .u8 pr, .nils, .str sit, .int .u8 sfi, .str sda]), ((γ, 0, 0), .cells [.ptr p 0])] (fun _ => False)
        (it_split (by simp) (by simp) (by simp) (by omega)) (by simp [hpSplit]) (by simp [hpSplit, hne]) (by simp [pw]) (by simp) ⟨none, [], by simp, by simp, rfl⟩ (by simp) ?_ ?_ (fun _ _ _ h => h.elim)
      · rintro Gl' hst' hG i x H T γ' hx ⟨tk, Hx, hk1, hk2, rfl⟩ hlt hfr'
        simp only [List.getElem?_map, Option.map_eq_some_iff] at hx
        obtain ⟨q, hq, rfl⟩ := hx
        have hqm : q ∈ splitB 59 t := List.mem_of_getElem? hq
        have hql := splitB_mem_len hqm
        have hil : i < (splitB 59 t).length := (List.getElem?_eq_some_iff.1 hq).1
        have hsl := splitB_len (c := 59) (l := t)
        have hpg' : p.1 ≠ γ' := hfr'.1 _ List.mem_cons_self
        have mne : ∀ i j, (p = (γ', i, j)) = False := fun i j => eq_false fun e => hpg' (by rw [e])
        have mne2 : ∀ i j, ((γ', i, j) = p) = False := fun i j => eq_false fun e => hpg' (by rw [← e])
        have gne : (γ = γ') = False := eq_false (by omega)
        have gne2 : (γ' = γ) = False := eq_false (by omega)
        generalize hK : kBd _ _ _ = K
        unfold ir_wirereaderparams_b1
        simp +contextual (maxSteps := 1000000) only [hne, hne2, mne, mne2, gne, gne2, hF, go_sem, reduceCtorEq, ↓reduceIte, Nat.reduceAdd, Nat.reduceEqDiff, Nat.reduceLeDiff, Nat.reduceMul, Nat.reduceBEq, Int.reduceBEq, Int.reduceBNe, Int.reduceLT, Int.reduceLE, Int.reduceGT, Int.reduceGE, Int.reduceToNat, Int.natCast_one, Int.natCast_zero, Int.cast_ofNat_Int]
        refine CallP.of (fs_SplitSeq hst') (by simp) (by simp) ?_
        simp only [rnH, hpSplit, rnN, rnHB, rnL, Ab.rn]
        simp +contextual (maxSteps := 1000000) only [hne, hne2, mne, mne2, gne, gne2, go_sem, reduceCtorEq, ↓reduceIte, Nat.reduceAdd, Nat.reduceEqDiff, Nat.reduceLeDiff, Nat.reduceMul, Nat.reduceBEq, Int.reduceBEq, Int.reduceBNe, Int.reduceLT, Int.reduceLE, Int.reduceGT, Int.reduceGE, Int.reduceToNat, Int.natCast_one, Int.natCast_zero, Int.cast_ofNat_Int]
        refine rgf_of rfl ((splitB 58 q).map fun r => [.str r])
          (fun j H T => ∃ tj : Option Nm, (tj = none → j = 0) ∧ (∀ x, tj = some x → γ' ≤ x.1 ∧ T x) ∧ H = [((γ', 1, 0), .cells [sv tj 1 (intsAV (((splitB 58 q).take j).map numW))])])
          (fun _ _ _ => False) (hpSplit q 58 (γ', 3, 0) (γ', 3, 1) (γ', 3, 2)) [((γ', 1, 0), .cells [.nils])] (fun _ => False)
          (it_split (by simp) (by simp) (by simp) (by omega)) (by simp [hpSplit]) (by simp [hpSplit]) (by simp) (by simp) ⟨none, by simp, by simp, rfl⟩ (by simp) ?_ ?_ (fun _ _ _ h => h.elim)
        · rintro Gl'' hst'' hG' j x H T' γ'' hx ⟨tj, hj1, hj2, rfl⟩ hlt' hfr''
          simp only [List.getElem?_map, Option.map_eq_some_iff] at hx
          obtain ⟨r, hr, rfl⟩ := hx
          have hrl := splitB_mem_len (List.mem_of_getElem? hr)
          have hjl := (List.getElem?_eq_some_iff.1 hr).1
          have hsl' := splitB_len (c := 58) (l := q)
          have hts : (splitB 58 q).take (j + 1) = (splitB 58 q).take j ++ [r] := by rw [List.take_add_one, hr]; rfl
          have hln : (intsAV (((splitB 58 q).take j).map numW)).length ≤ q.length + 1 := by simp [intsAV]; omega
          generalize hK' : kBd _ _ _ = K'
          unfold ir_wirereaderparams_b0
          cases tj with
          | none =>
            obtain rfl := hj1 rfl
            simp +contextual (maxSteps := 1000000) only [go_sem, reduceCtorEq, ↓reduceIte, Nat.reduceAdd, Nat.reduceEqDiff, Nat.reduceLeDiff, Nat.reduceMul, Nat.reduceBEq, Int.reduceBEq, Int.reduceBNe, Int.reduceLT, Int.reduceLE, Int.reduceGT, Int.reduceGE, Int.reduceToNat, Int.natCast_one, Int.natCast_zero, Int.cast_ofNat_Int]
            refine DCall.new (fs_wNumber hst'' (by simp only [maxLen]; omega)) ?_
            simp +contextual (maxSteps := 1000000) only [go_sem, reduceCtorEq, ↓reduceIte, Nat.reduceAdd, Nat.reduceEqDiff, Nat.reduceLeDiff, Nat.reduceMul, Nat.reduceBEq, Int.reduceBEq, Int.reduceBNe, Int.reduceLT, Int.reduceLE, Int.reduceGT, Int.reduceGE, Int.reduceToNat, Int.natCast_one, Int.natCast_zero, Int.cast_ofNat_Int]
            rw [← hK']
            refine ⟨some (γ'', 5, 0), by simp, fun x hx => ?_, ?_⟩
            · cases hx
              exact ⟨by simp only; omega, by simp⟩
            · rw [hts]
              simp [sv, intsAV]
          | some t0 =>
            simp +contextual (maxSteps := 1000000) only [go_sem, reduceCtorEq, ↓reduceIte, Nat.reduceAdd, Nat.reduceEqDiff, Nat.reduceLeDiff, Nat.reduceMul, Nat.reduceBEq, Int.reduceBEq, Int.reduceBNe, Int.reduceLT, Int.reduceLE, Int.reduceGT, Int.reduceGE, Int.reduceToNat, Int.natCast_one, Int.natCast_zero, Int.cast_ofNat_Int]
            refine DCall.new (fs_wNumber hst'' (by simp only [maxLen]; omega)) ?_
            simp +contextual (maxSteps := 1000000) only [go_sem, reduceCtorEq, ↓reduceIte, Nat.reduceAdd, Nat.reduceEqDiff, Nat.reduceLeDiff, Nat.reduceMul, Nat.reduceBEq, Int.reduceBEq, Int.reduceBNe, Int.reduceLT, Int.reduceLE, Int.reduceGT, Int.reduceGE, Int.reduceToNat, Int.natCast_one, Int.natCast_zero, Int.cast_ofNat_Int]
            refine ⟨.inl (hj2 t0 rfl).2, by omega, by simp, ?_⟩
            rw [← hK']
            refine ⟨some (γ'', 5, 0), by simp, fun x hx => ?_, ?_⟩
            · cases hx
              exact ⟨by simp only; omega, .inl (by simp), fun e => hfr''.2 t0 (hj2 t0 rfl).2 (by rw [← e])⟩
            · rw [hts]
              simp [sv, intsAV]
        · rintro H1 T1 ⟨tj, hj1, hj2, rfl⟩
          have hlen' : ((splitB 58 q).map fun r => [AV.str r]).length = (splitB 58 q).length := by simp
          rw [hlen'] at hj1 ⊢
          rw [List.take_length]
          cases tj with
          | none => exact absurd (List.length_eq_zero_iff.1 (hj1 rfl)) (splitB_ne _ _)
          | some u0 =>
            refine ⟨[(p, .cells [.sl none 1 (bytesAV b), .int .i64 ((m + t.length : Nat) : Int), .int .i64 sk, .int .u8 pr, sv tk 1 (parsAV (((splitB 59 t).take i).map subsW)), .str sit, .int .u8 sfi, .str sda]), ((γ, 0, 0), .cells [.ptr p 0]), ((γ', 1, 0), .cells [.sl (some u0) 1 (intsAV (subsW q))])], fun x => x = u0 ∨ T x, fun z hz => ?_, fun x hx => ?_, ?_⟩
            · simp only [List.mem_cons, List.not_mem_nil, or_false] at hz
              rcases hz with rfl | rfl | rfl
              · exact List.mem_append.2 (.inr (List.mem_filter.2 ⟨by simp, by simp [hpSplit, mne2]⟩))
              · exact List.mem_append.2 (.inr (List.mem_filter.2 ⟨by simp, by simp [hpSplit, gne2]⟩))
              · exact List.mem_append.2 (.inl (by simp [sv, subsW]))
            · rcases hx with rfl | hx
              · exact .inl (hj2 _ rfl).2
              · exact .inr ⟨.inr ⟨hx, by simp⟩, by simp⟩
            have hts : (splitB 59 t).take (i + 1) = (splitB 59 t).take i ++ [q] := by rw [List.take_add_one, hq]; rfl
            have hln : (parsAV (((splitB 59 t).take i).map subsW)).length ≤ t.length + 1 := by simp [parsAV]; omega
            cases tk with
            | none =>
              obtain rfl := hk1 rfl
              simp +contextual (maxSteps := 1000000) only [hne, hne2, mne, mne2, gne, gne2, go_sem, reduceCtorEq, ↓reduceIte, Nat.reduceAdd, Nat.reduceEqDiff, Nat.reduceLeDiff, Nat.reduceMul, Nat.reduceBEq, Int.reduceBEq, Int.reduceBNe, Int.reduceLT, Int.reduceLE, Int.reduceGT, Int.reduceGE, Int.reduceToNat, Int.natCast_one, Int.natCast_zero, Int.cast_ofNat_Int]
              rw [← hK]
              refine ⟨some (γ', 13, 0), [((γ', 1, 0), .cells [.sl (some u0) 1 (intsAV (subsW q))])], by simp, fun x hx => ?_, ?_⟩
              · cases hx
                exact ⟨by simp only; omega, by simp⟩
              · rw [hts]
                simp [sv, parsAV, intsV]
            | some t0 =>
              simp +contextual (maxSteps := 1000000) only [hne, hne2, mne, mne2, gne, gne2, go_sem, reduceCtorEq, ↓reduceIte, Nat.reduceAdd, Nat.reduceEqDiff, Nat.reduceLeDiff, Nat.reduceMul, Nat.reduceBEq, Int.reduceBEq, Int.reduceBNe, Int.reduceLT, Int.reduceLE, Int.reduceGT, Int.reduceGE, Int.reduceToNat, Int.natCast_one, Int.natCast_zero, Int.cast_ofNat_Int]
              refine ⟨.inl (.inr (hk2 t0 rfl).2), by omega, by simp, ?_⟩
              rw [← hK]
              refine ⟨some (γ', 13, 0), [((γ', 1, 0), .cells [.sl (some u0) 1 (intsAV (subsW q))])], by simp, fun x hx => ?_, ?_⟩
              · cases hx
                exact ⟨by simp only; omega, .inl (by simp), fun e => hfr'.2 t0 (hk2 t0 rfl).2 (by rw [← e])⟩
              · rw [hts]
                simp [sv, parsAV, intsV]
      · rintro H1 T1 ⟨tk, Hx, hk1, hk2, rfl⟩
        refine ⟨_, fun t => tk = some t, fun p hp => List.mem_append.2 (.inl hp), fun t ht => .inl (hk2 t ht).2, ?_⟩
        have hlen : ((splitB 59 t).map fun p => [AV.str p]).length = (splitB 59 t).length := by simp
        rw [hlen] at hk1 ⊢
        rw [List.take_length]
        cases tk with
        | none => exact absurd (List.length_eq_zero_iff.1 (hk1 rfl)) (splitB_ne _ _)
        | some t0 =>
          simp +contextual (maxSteps := 1000000) only [go_sem, reduceCtorEq, ↓reduceIte, Nat.reduceAdd, Nat.reduceEqDiff, Nat.reduceLeDiff, Nat.reduceMul, Nat.reduceBEq, Int.reduceBEq, Int.reduceBNe, Int.reduceLT, Int.reduceLE, Int.reduceGT, Int.reduceGE, Int.reduceToNat, Int.natCast_one, Int.natCast_zero, Int.cast_ofNat_Int]
          rw [← hQ, hw]
          refine ⟨trivial, 0, ⟨fun _ => .und, [(p, .cells (rdC b (m + t.length) ⟨sk, pr, (splitB 59 t).map subsW, sit, sfi, sda⟩))], fun x => x ∈ []⟩, ⟨fun _ => .und _ _, ?_, by simp⟩, Ret.rd rfl rfl hp ?_⟩
          · intro r hr
            simp only [List.mem_singleton] at hr
            subst hr
            refine ⟨_, List.mem_cons_self, rfl, rfl, fun i x y hx hy => ?_⟩
            have hpw : pw ((splitB 59 t).map subsW) = .sl none 1 (parsAV ((splitB 59 t).map subsW)) := by
              have := splitB_ne 59 t
              cases hs : splitB 59 t with
              | nil => exact absurd hs this
              | cons a l => rfl
            simp only [rdC, hpw] at hy
            rcases i with _ | _ | _ | _ | _ | _ | _ | _ | i <;> simp only [List.getElem?_cons_zero, List.getElem?_cons_succ, List.getElem?_nil, Option.some.injEq, reduceCtorEq] at hx hy <;> subst hx hy <;> first | exact AVle.refl _ _ | exact AVle.le (RepLe.anon' rfl)
          · rw [hfin, hnums]
            exact List.mem_singleton.2 rfl
  cases hpr : isPr c with
  | true =>
    rw [hpr] at hcond
    have hlt : n < b.length := by
      rcases Nat.lt_or_ge n b.length with h | h
      · exact h
      · rw [peek_ge h] at hc
        subst hc
        simp [isPr] at hpr
    have hh : headW (b.drop n) = ((c.toNat : Int), numsW (runL 48 59 (b.drop (n + 1))), (n + 1 - n) + (runL 48 59 (b.drop (n + 1))).length) := by
      unfold headW
      have : (b.drop n).headD 0 = c := hc
      rw [this, hpr]
      simp only [if_true, List.drop_drop]
      rw [show n + 1 - n = 1 by omega]
    simp +contextual (maxSteps := 1000000) only [hne, hne2, hcond, go_sem, reduceCtorEq, ↓reduceIte, Nat.reduceAdd, Nat.reduceEqDiff, Nat.reduceLeDiff, Nat.reduceMul, Nat.reduceBEq, Int.reduceBEq, Int.reduceBNe, Int.reduceLT, Int.reduceLE, Int.reduceGT, Int.reduceGE, Int.reduceToNat, Int.natCast_one, Int.natCast_zero, Int.cast_ofNat_Int]
    refine kDrwM_of [((γ, 0, 0), .cells [.ptr p 0])] [(p, .cells (rdC b n ⟨sk, 0, [], sit, sfi, sda⟩))] (by simp [rdC]) (fun q hq q' hq' => ?_) ?_
    · simp only [List.mem_singleton] at hq hq'
      subst hq hq'
      exact fun e => hpg (by rw [show p = (γ, 0, 0) from e])
    simp +contextual (maxSteps := 1000000) only [hne, hne2, go_sem, reduceCtorEq, ↓reduceIte, Nat.reduceAdd, Nat.reduceEqDiff, Nat.reduceLeDiff, Nat.reduceMul, Nat.reduceBEq, Int.reduceBEq, Int.reduceBNe, Int.reduceLT, Int.reduceLE, Int.reduceGT, Int.reduceGE, Int.reduceToNat, Int.natCast_one, Int.natCast_zero, Int.cast_ofNat_Int]
    refine MCall.of (fs_next hst hp (by omega)) (fun _ => rfl) (fun _ => rdC_rnH hp) (fun q hq q' hq' => ?_) ?_
    · simp only [List.mem_singleton] at hq hq'
      subst hq hq'
      exact fun e => hpg (by rw [← show (γ, 0, 0) = p from e])
    rw [hc]
    simp only [rdC]
    simp +contextual (maxSteps := 1000000) only [hne, hne2, go_sem, reduceCtorEq, ↓reduceIte, Nat.reduceAdd, Nat.reduceEqDiff, Nat.reduceLeDiff, Nat.reduceMul, Nat.reduceBEq, Int.reduceBEq, Int.reduceBNe, Int.reduceLT, Int.reduceLE, Int.reduceGT, Int.reduceGE, Int.reduceToNat, Int.natCast_one, Int.natCast_zero, Int.cast_ofNat_Int]
    exact go2 (n + 1) c.toNat _ _ rfl hlt hh (by omega)
  | false =>
    rw [hpr] at hcond
    simp +contextual (maxSteps := 1000000) only [hne, hne2, hcond, go_sem, reduceCtorEq, ↓reduceIte, Nat.reduceAdd, Nat.reduceEqDiff, Nat.reduceLeDiff, Nat.reduceMul, Nat.reduceBEq, Int.reduceBEq, Int.reduceBNe, Int.reduceLT, Int.reduceLE, Int.reduceGT, Int.reduceGE, Int.reduceToNat, Int.natCast_one, Int.natCast_zero, Int.cast_ofNat_Int]
    refine go2 n 0 _ _ rfl hn ?_ (Nat.le_refl n)
    unfold headW
    have : (b.drop n).headD 0 = c := hc
    rw [this, hpr]
    simp
end Go.Proofs.YtbepihadhmfklaaGreatDoor

set_option linter.unusedVariables false
set_option linter.unusedSimpArgs false
set_option maxRecDepth 100000
namespace Go.Proofs.YtbepihadhmfklaaGreatDoor
open Go Go.Ab
/-- (*clavier/wire.reader).rest -/
def ir_wirereaderrest : ICode :=
 (.seq
  (.reg [⟨some 2, none, .mov (.t 0)⟩,
    ⟨some 3, none, .mov (.t 0)⟩,
    ⟨some 4, none, .nck (.t 3)⟩,
    ⟨some 5, none, .fa 0 (.t 4)⟩,
    ⟨some 6, none, .call (.c (.fn (.func 104) [] [])) [(.t 5), (.c (.int .u8 32)), (.c (.int .u8 47))]⟩,
    ⟨some 7, none, .nck (.t 2)⟩,
    ⟨some 8, none, .fa 2 (.t 7)⟩,
    ⟨some 9, none, .fa 3 (.t 8)⟩,
    ⟨none, none, .st 1 (.t 9) (.t 6)⟩] (some [0]))
  (.reg [⟨some 10, none, .mov (.t 0)⟩,
    ⟨some 11, none, .mov (.t 0)⟩,
    ⟨some 12, none, .nck (.t 11)⟩,
    ⟨some 13, none, .fa 0 (.t 12)⟩,
    ⟨some 14, none, .call (.c (.fn (.func 100) [] [])) [(.t 13)]⟩,
    ⟨some 15, none, .nck (.t 10)⟩,
    ⟨some 16, none, .fa 2 (.t 15)⟩,
    ⟨some 17, none, .fa 4 (.t 16)⟩,
    ⟨none, none, .st 1 (.t 17) (.t 14)⟩] (some [])))
theorem is_wirereaderrest : IrOf Tryz.prog 103 18 ir_wirereaderrest [] := ⟨_, Tryz.func103, rfl, by kernel_rfl, by kernel_rfl, by kernel_rfl⟩

/-- (*clavier/wire.reader).read -/
def ir_wirereaderread : ICode :=
 (.seq
  (.seq
   (.reg [⟨some 2, none, .mov (.t 0)⟩,
     ⟨some 3, none, .nck (.t 2)⟩,
     ⟨some 4, none, .fa 0 (.t 3)⟩,
     ⟨some 5, none, .call (.c (.fn (.func 100) [] [])) [(.t 4)]⟩,
     ⟨some 6, none, .bin .neq .none (.t 5) (.c (.int .u8 27))⟩] (some [0, 6]))
   (.cond (.t 6)
    .ret
    .skip))
  (.seq
   (.reg [⟨some 7, none, .mov (.t 0)⟩,
     ⟨some 8, none, .nck (.t 7)⟩,
     ⟨some 9, none, .fa 0 (.t 8)⟩,
     ⟨some 10, none, .call (.c (.fn (.func 101) [] [])) [(.t 9)]⟩] (some [0, 10]))
   (.blk 0
    (.seq
     (.reg [⟨some 18, none, .bin .eql .none (.t 10) (.c (.int .u8 91))⟩,
       ⟨some 17, none, .mov (.t 18)⟩] (some [0, 10, 17]))
     (.cond (.t 17)
      (.seq
       (.reg [⟨some 19, none, .mov (.t 0)⟩,
         ⟨some 20, none, .nck (.t 19)⟩,
         ⟨some 21, none, .fa 2 (.t 20)⟩,
         ⟨some 22, none, .fa 0 (.t 21)⟩,
         ⟨none, none, .st 1 (.t 22) (.c (.int .i64 1))⟩] (some [0]))
       (.seq
        (.reg [⟨some 23, none, .mov (.t 0)⟩,
          ⟨some 24, none, .nck (.t 23)⟩,
          ⟨some 25, none, .fa 0 (.t 24)⟩,
          ⟨some 26, none, .fa 1 (.t 25)⟩,
          ⟨some 27, none, .ld none (.t 26)⟩,
          ⟨some 28, none, .bin .add .none (.t 27) (.c (.int .i64 1))⟩,
          ⟨some 29, none, .nck (.t 23)⟩,
          ⟨some 30, none, .fa 0 (.t 29)⟩,
          ⟨some 31, none, .fa 1 (.t 30)⟩,
          ⟨none, none, .st 1 (.t 31) (.t 28)⟩] (some [0]))
        (.seq
         (.reg [⟨some 32, none, .mov (.t 0)⟩,
           ⟨some 33, none, .call (.c (.fn (.func 102) [] [])) [(.t 32)]⟩] (some [0]))
         (.reg [⟨some 34, none, .mov (.t 0)⟩,
           ⟨some 35, none, .call (.c (.fn (.func 103) [] [])) [(.t 34)]⟩] (some [])))))
      (.seq
       (.reg [⟨some 37, none, .bin .eql .none (.t 10) (.c (.int .u8 79))⟩,
         ⟨some 36, none, .mov (.t 37)⟩] (some [0, 10, 36]))
       (.cond (.t 36)
        (.seq
         (.reg [⟨some 38, none, .mov (.t 0)⟩,
           ⟨some 39, none, .nck (.t 38)⟩,
           ⟨some 40, none, .fa 2 (.t 39)⟩,
           ⟨some 41, none, .fa 0 (.t 40)⟩,
           ⟨none, none, .st 1 (.t 41) (.c (.int .i64 2))⟩] (some [0]))
         (.seq
          (.reg [⟨some 42, none, .mov (.t 0)⟩,
            ⟨some 43, none, .nck (.t 42)⟩,
            ⟨some 44, none, .fa 0 (.t 43)⟩,
            ⟨some 45, none, .fa 1 (.t 44)⟩,
            ⟨some 46, none, .ld none (.t 45)⟩,
            ⟨some 47, none, .bin .add .none (.t 46) (.c (.int .i64 1))⟩,
            ⟨some 48, none, .nck (.t 42)⟩,
            ⟨some 49, none, .fa 0 (.t 48)⟩,
            ⟨some 50, none, .fa 1 (.t 49)⟩,
            ⟨none, none, .st 1 (.t 50) (.t 47)⟩] (some [0]))
          (.reg [⟨some 51, none, .mov (.t 0)⟩,
            ⟨some 52, none, .mov (.t 0)⟩,
            ⟨some 53, none, .nck (.t 52)⟩,
            ⟨some 54, none, .fa 0 (.t 53)⟩,
            ⟨some 55, none, .call (.c (.fn (.func 100) [] [])) [(.t 54)]⟩,
            ⟨some 56, none, .nck (.t 51)⟩,
            ⟨some 57, none, .fa 2 (.t 56)⟩,
            ⟨some 58, none, .fa 4 (.t 57)⟩,
            ⟨none, none, .st 1 (.t 58) (.t 55)⟩] (some []))))
        (.seq
         (.reg [⟨some 60, none, .bin .eql .none (.t 10) (.c (.int .u8 80))⟩,
           ⟨some 59, none, .mov (.t 60)⟩] (some [0, 10, 59]))
         (.cond (.t 59)
          (.seq
           (.reg [⟨some 61, none, .mov (.t 0)⟩,
             ⟨some 62, none, .nck (.t 61)⟩,
             ⟨some 63, none, .fa 2 (.t 62)⟩,
             ⟨some 64, none, .fa 0 (.t 63)⟩,
             ⟨none, none, .st 1 (.t 64) (.c (.int .i64 3))⟩] (some [0]))
           (.seq
            (.reg [⟨some 65, none, .mov (.t 0)⟩,
              ⟨some 66, none, .nck (.t 65)⟩,
              ⟨some 67, none, .fa 0 (.t 66)⟩,
              ⟨some 68, none, .fa 1 (.t 67)⟩,
              ⟨some 69, none, .ld none (.t 68)⟩,
              ⟨some 70, none, .bin .add .none (.t 69) (.c (.int .i64 1))⟩,
              ⟨some 71, none, .nck (.t 65)⟩,
              ⟨some 72, none, .fa 0 (.t 71)⟩,
              ⟨some 73, none, .fa 1 (.t 72)⟩,
              ⟨none, none, .st 1 (.t 73) (.t 70)⟩] (some [0]))
            (.seq
             (.reg [⟨some 74, none, .mov (.t 0)⟩,
               ⟨some 75, none, .call (.c (.fn (.func 102) [] [])) [(.t 74)]⟩] (some [0]))
             (.seq
              (.reg [⟨some 76, none, .mov (.t 0)⟩,
                ⟨some 77, none, .call (.c (.fn (.func 103) [] [])) [(.t 76)]⟩] (some [0]))
              (.seq
               (.reg [⟨some 78, none, .mov (.t 0)⟩,
                 ⟨some 79, none, .mov (.t 0)⟩,
                 ⟨some 80, none, .nck (.t 79)⟩,
                 ⟨some 81, none, .fa 0 (.t 80)⟩,
                 ⟨some 82, none, .call (.c (.fn (.func 104) [] [])) [(.t 81), (.c (.int .u8 32)), (.c (.int .u8 126))]⟩,
                 ⟨some 83, none, .nck (.t 78)⟩,
                 ⟨some 84, none, .fa 2 (.t 83)⟩,
                 ⟨some 85, none, .fa 5 (.t 84)⟩,
                 ⟨none, none, .st 1 (.t 85) (.t 82)⟩] (some [0]))
               (.reg [⟨some 86, none, .mov (.t 0)⟩,
                 ⟨some 87, none, .nck (.t 86)⟩,
                 ⟨some 88, none, .fa 0 (.t 87)⟩,
                 ⟨some 89, none, .fa 1 (.t 88)⟩,
                 ⟨some 90, none, .ld none (.t 89)⟩,
                 ⟨some 91, none, .bin .add .none (.t 90) (.c (.int .i64 2))⟩,
                 ⟨some 92, none, .nck (.t 86)⟩,
                 ⟨some 93, none, .fa 0 (.t 92)⟩,
                 ⟨some 94, none, .fa 1 (.t 93)⟩,
                 ⟨none, none, .st 1 (.t 94) (.t 91)⟩] (some [])))))))
          (.seq
           (.reg [⟨some 96, none, .bin .eql .none (.t 10) (.c (.int .u8 93))⟩,
             ⟨some 95, none, .mov (.t 96)⟩] (some [0, 95]))
           (.cond (.t 95)
            (.seq
             (.reg [⟨some 97, none, .mov (.t 0)⟩,
               ⟨some 98, none, .nck (.t 97)⟩,
               ⟨some 99, none, .fa 2 (.t 98)⟩,
               ⟨some 100, none, .fa 0 (.t 99)⟩,
               ⟨none, none, .st 1 (.t 100) (.c (.int .i64 4))⟩] (some [0]))
             (.seq
              (.reg [⟨some 101, none, .mov (.t 0)⟩,
                ⟨some 102, none, .nck (.t 101)⟩,
                ⟨some 103, none, .fa 0 (.t 102)⟩,
                ⟨some 104, none, .fa 1 (.t 103)⟩,
                ⟨some 105, none, .ld none (.t 104)⟩,
                ⟨some 106, none, .bin .add .none (.t 105) (.c (.int .i64 1))⟩,
                ⟨some 107, none, .nck (.t 101)⟩,
                ⟨some 108, none, .fa 0 (.t 107)⟩,
                ⟨some 109, none, .fa 1 (.t 108)⟩,
                ⟨none, none, .st 1 (.t 109) (.t 106)⟩] (some [0]))
              (.seq
               (.reg [⟨some 110, none, .mov (.t 0)⟩,
                 ⟨some 111, none, .mov (.t 0)⟩,
                 ⟨some 112, none, .nck (.t 111)⟩,
                 ⟨some 113, none, .fa 0 (.t 112)⟩,
                 ⟨some 114, none, .call (.c (.fn (.func 104) [] [])) [(.t 113), (.c (.int .u8 32)), (.c (.int .u8 126))]⟩,
                 ⟨some 115, none, .nck (.t 110)⟩,
                 ⟨some 116, none, .fa 2 (.t 115)⟩,
                 ⟨some 117, none, .fa 5 (.t 116)⟩,
                 ⟨none, none, .st 1 (.t 117) (.t 114)⟩] (some [0]))
               (.reg [⟨some 118, none, .mov (.t 0)⟩,
                 ⟨some 119, none, .nck (.t 118)⟩,
                 ⟨some 120, none, .fa 0 (.t 119)⟩,
                 ⟨some 121, none, .fa 1 (.t 120)⟩,
                 ⟨some 122, none, .ld none (.t 121)⟩,
                 ⟨some 123, none, .bin .add .none (.t 122) (.c (.int .i64 2))⟩,
                 ⟨some 124, none, .nck (.t 118)⟩,
                 ⟨some 125, none, .fa 0 (.t 124)⟩,
                 ⟨some 126, none, .fa 1 (.t 125)⟩,
                 ⟨none, none, .st 1 (.t 126) (.t 123)⟩] (some [])))))
            (.seq
             (.reg [⟨some 11, none, .mov (.t 0)⟩,
               ⟨some 12, none, .nck (.t 11)⟩,
               ⟨some 13, none, .fa 2 (.t 12)⟩,
               ⟨some 14, none, .fa 0 (.t 13)⟩,
               ⟨none, none, .st 1 (.t 14) (.c (.int .i64 5))⟩] (some [0]))
             (.reg [⟨some 15, none, .mov (.t 0)⟩,
               ⟨some 16, none, .call (.c (.fn (.func 103) [] [])) [(.t 15)]⟩] (some []))))))))))))))
theorem is_wirereaderread : IrOf Tryz.prog 52 127 ir_wirereaderread [] := ⟨_, Tryz.func52, rfl, by kernel_rfl, by kernel_rfl, by kernel_rfl⟩


theorem peek_drop {b : List UInt8} {n k : Nat} : ((b.drop n).drop k).headD 0 = peekW b (n + k) := by unfold peekW; rw [List.drop_drop]
theorem headW_le (l : List UInt8) : (headW l).2.2 ≤ l.length := by
  unfold headW
  simp only
  split
  · rename_i h
    have h1 := runL_le 48 59 (l.drop 1)
    rw [List.length_drop] at h1
    cases l with
    | nil => simp [isPr] at h
    | cons c l => simp only [List.length_cons] at h1 ⊢; omega
  · have h1 := runL_le 48 59 (l.drop 0)
    rw [List.drop_zero] at h1 ⊢
    omega
theorem fs_wRest {Gl : Gh → Prop} (hst : Stays Gl) {p : Nm} (hp : 1 ≤ p.1) {b : List UInt8} {n : Nat} {s : Sq} (hn : n ≤ b.length) (hb : b.length ≤ 4000000000) :
    FS Tryz.prog Gl 103 [.ptr p 0] [(p, .cells (rdC b n s))] [] (.tup []) [(p, .cells (rdC b (n + (restW (b.drop n)).2.2) { s with it := (restW (b.drop n)).1, fi := (restW (b.drop n)).2.1 }))] [] := by
  refine FS.of hm hst is_wirereaderrest (by simp) fun γ hγ hfr => ?_
  have c1 : FS Tryz.prog Gl 104 [.ptr p 0, .int .u8 32, .int .u8 47] [(p, .cells (rdC b n s))] [] (.str (runL 32 47 (b.drop n))) [(p, .cells (rdC b (n + (runL 32 47 (b.drop n)).length) s))] [] := fs_run hst hp (x := 32) (y := 47) hn (by omega)
  have hle := runL_le 32 47 (b.drop n)
  rw [List.length_drop] at hle
  have hw : restW (b.drop n) = (runL 32 47 (b.drop n), ((peekW b (n + (runL 32 47 (b.drop n)).length)).toNat : Int), (runL 32 47 (b.drop n)).length + 1) := by
    unfold restW; simp only [peek_drop]
  rw [hw]
  generalize runL 32 47 (b.drop n) = t at c1 hle
  have c2 := fs_next (Gl := Gl) hst hp (b := b) (n := n + t.length) (s := { s with it := t }) (by omega)
  (generalize hQ : (fun (ex : Ex) (_ _ : Nat) (s : St) => _) = Q; unfold ir_wirereaderrest)
  simp only [rdC]
  simp +contextual (maxSteps := 1000000) only [go_sem, reduceCtorEq, ↓reduceIte, Nat.reduceAdd, Nat.reduceEqDiff, Nat.reduceLeDiff, Nat.reduceMul, Nat.reduceBEq, Int.reduceBEq, Int.reduceBNe, Int.reduceLT, Int.reduceLE, Int.reduceGT, Int.reduceGE, Int.reduceToNat, Int.natCast_one, Int.natCast_zero, Int.cast_ofNat_Int]
  refine CallP.rdX (Ha := []) c1 hp rfl (by simp) (by simp [rdC]) ?_
  simp only [rdC]
  simp +contextual (maxSteps := 1000000) only [go_sem, reduceCtorEq, ↓reduceIte, Nat.reduceAdd, Nat.reduceEqDiff, Nat.reduceLeDiff, Nat.reduceMul, Nat.reduceBEq, Int.reduceBEq, Int.reduceBNe, Int.reduceLT, Int.reduceLE, Int.reduceGT, Int.reduceGE, Int.reduceToNat, Int.natCast_one, Int.natCast_zero, Int.cast_ofNat_Int]
  refine CallP.rdX (Ha := []) c2 hp rfl (by simp) (by simp [rdC]) ?_
  simp only [rdC]
  simp +contextual (maxSteps := 1000000) only [go_sem, reduceCtorEq, ↓reduceIte, Nat.reduceAdd, Nat.reduceEqDiff, Nat.reduceLeDiff, Nat.reduceMul, Nat.reduceBEq, Int.reduceBEq, Int.reduceBNe, Int.reduceLT, Int.reduceLE, Int.reduceGT, Int.reduceGE, Int.reduceToNat, Int.natCast_one, Int.natCast_zero, Int.cast_ofNat_Int]
  rw [← hQ]
  exact ⟨trivial, Ret.rd rfl rfl hp (by simp [rdC, Nat.add_assoc])⟩

/-- No sequence with data is cut off ahead of these. -/
def dcsOk (b : List UInt8) : Prop := b.headD 0 = 27 → (b.drop 1).headD 0 = 80 → 2 + (headW (b.drop 2)).2.2 + (restW (b.drop (2 + (headW (b.drop 2)).2.2))).2.2 ≤ b.length
theorem u8_eq {c : UInt8} {k : Nat} (hk : k < 256) : ((c.toNat : Int) == (k : Int)) = decide (c = UInt8.ofNat k) := by
  rw [Bool.eq_iff_iff, beq_iff_eq, decide_eq_true_eq]
  constructor
  · intro h
    have h : c.toNat = k := by omega
    rw [← h, UInt8.ofNat_toNat]
  · rintro rfl
    rw [UInt8.toNat_ofNat', Nat.mod_eq_of_lt hk]
theorem u8_ne {c : UInt8} {k : Nat} (hk : k < 256) : ((c.toNat : Int) != (k : Int)) = !decide (c = UInt8.ofNat k) := by
  rw [bne, u8_eq hk]
set_option maxHeartbeats 4000000 in
theorem fs_wRead {Gl : Gh → Prop} (hst : Stays Gl) {p : Nm} (hp : 1 ≤ p.1) {b : List UInt8} (hb : b.length ≤ 4000000000) (hd : dcsOk b) :
    FS Tryz.prog Gl 52 [.ptr p 0] [(p, .cells (rdC b 0 zeroSq))] [] (.tup []) [(p, .cells (rdC b (readW b).2 (readW b).1))] [] := by
  refine FS.of hm hst is_wirereaderread (by simp) fun γ hγ hfr => ?_
  have w2 : IntKind.i64.wrap 2 = 2 := by decide
  (generalize hQ : (fun (ex : Ex) (_ _ : Nat) (s : St) => _) = Q; unfold ir_wirereaderread)
  simp +contextual (maxSteps := 1000000) only [go_sem, reduceCtorEq, ↓reduceIte, Nat.reduceAdd, Nat.reduceEqDiff, Nat.reduceLeDiff, Nat.reduceMul, Nat.reduceBEq, Int.reduceBEq, Int.reduceBNe, Int.reduceLT, Int.reduceLE, Int.reduceGT, Int.reduceGE, Int.reduceToNat, Int.natCast_one, Int.natCast_zero, Int.cast_ofNat_Int]
  refine CallP.rdX (Ha := []) (fs_next (b := b) (n := 0) (s := zeroSq) hst hp (by omega)) hp rfl (by simp) (by simp) ?_
  have hpk : peekW b 0 = b.headD 0 := by unfold peekW; rw [List.drop_zero]
  rw [hpk]
  have n1 : (((b.headD 0).toNat : Int) != 27) = !decide (b.headD 0 = 27) := u8_ne (k := 27) (by omega)
  by_cases h27 : b.headD 0 = 27
  · have n1 : (((b.headD 0).toNat : Int) != 27) = false := by rw [n1, decide_eq_true h27]; rfl
    have hl1 : 1 ≤ b.length := by
      cases b with
      | nil => simp at h27
      | cons c l => simp
    simp +contextual (maxSteps := 1000000) only [n1, go_sem, reduceCtorEq, ↓reduceIte, Nat.reduceAdd, Nat.reduceEqDiff, Nat.reduceLeDiff, Nat.reduceMul, Nat.reduceBEq, Int.reduceBEq, Int.reduceBNe, Int.reduceLT, Int.reduceLE, Int.reduceGT, Int.reduceGE, Int.reduceToNat, Int.natCast_one, Int.natCast_zero, Int.cast_ofNat_Int]
    refine CallP.rdX (Ha := []) (fs_peek (b := b) (n := 1) (s := zeroSq) hst hp) hp rfl (by simp) (by simp) ?_
    have hpk1 : peekW b 1 = (b.drop 1).headD 0 := rfl
    rw [hpk1]
    generalize hc : (b.drop 1).headD 0 = c
    have k2 : c ≠ 0 → 2 ≤ b.length := fun h => by
      rcases Nat.lt_or_ge 1 b.length with h' | h'
      · omega
      · rw [List.drop_eq_nil_of_le (by omega)] at hc
        exact absurd hc.symm h
    have g1 : ((c.toNat : Int) == 91) = decide (c = 91) := u8_eq (k := 91) (by omega)
    have g2 : ((c.toNat : Int) == 79) = decide (c = 79) := u8_eq (k := 79) (by omega)
    have g3 : ((c.toNat : Int) == 80) = decide (c = 80) := u8_eq (k := 80) (by omega)
    have g4 : ((c.toNat : Int) == 93) = decide (c = 93) := u8_eq (k := 93) (by omega)
    have hz : zeroSq = ⟨0, 0, [], [], 0, []⟩ := rfl
    have hl2 := headW_le (b.drop 2)
    rw [List.length_drop] at hl2
    have hrd : readW b = (if c = 91 then
        (⟨1, (headW (b.drop 2)).1, (headW (b.drop 2)).2.1, (restW (b.drop (2 + (headW (b.drop 2)).2.2))).1, (restW (b.drop (2 + (headW (b.drop 2)).2.2))).2.1, []⟩, 2 + (headW (b.drop 2)).2.2 + (restW (b.drop (2 + (headW (b.drop 2)).2.2))).2.2)
      else if c = 79 then (⟨2, 0, [], [], ((b.drop 2).headD 0).toNat, []⟩, 3)
      else if c = 80 then
        (⟨3, (headW (b.drop 2)).1, (headW (b.drop 2)).2.1, (restW (b.drop (2 + (headW (b.drop 2)).2.2))).1, (restW (b.drop (2 + (headW (b.drop 2)).2.2))).2.1, runL 32 126 (b.drop (2 + (headW (b.drop 2)).2.2 + (restW (b.drop (2 + (headW (b.drop 2)).2.2))).2.2))⟩, 2 + (headW (b.drop 2)).2.2 + (restW (b.drop (2 + (headW (b.drop 2)).2.2))).2.2 + (runL 32 126 (b.drop (2 + (headW (b.drop 2)).2.2 + (restW (b.drop (2 + (headW (b.drop 2)).2.2))).2.2))).length + 2)
      else if c = 93 then (⟨4, 0, [], [], 0, runL 32 126 (b.drop 2)⟩, 2 + (runL 32 126 (b.drop 2)).length + 2)
      else (⟨5, 0, [], (restW (b.drop 1)).1, (restW (b.drop 1)).2.1, []⟩, 1 + (restW (b.drop 1)).2.2)) := by
      unfold readW
      rw [if_neg (not_not_intro h27)]
      simp only [hc]
    have cp : ∀ k, 2 ≤ b.length → FS Tryz.prog Gl 102 [.ptr p 0] [(p, .cells (rdC b 2 ⟨k, 0, [], [], 0, []⟩))] [] (.tup []) [(p, .cells (rdC b (2 + (headW (b.drop 2)).2.2) ⟨k, (headW (b.drop 2)).1, (headW (b.drop 2)).2.1, [], 0, []⟩))] [] := fun k h => fs_wParams hst hp (s := ⟨k, 0, [], [], 0, []⟩) h hb rfl rfl
    have cq : ∀ k, 2 ≤ b.length → FS Tryz.prog Gl 103 [.ptr p 0] [(p, .cells (rdC b (2 + (headW (b.drop 2)).2.2) ⟨k, (headW (b.drop 2)).1, (headW (b.drop 2)).2.1, [], 0, []⟩))] [] (.tup []) [(p, .cells (rdC b (2 + (headW (b.drop 2)).2.2 + (restW (b.drop (2 + (headW (b.drop 2)).2.2))).2.2) ⟨k, (headW (b.drop 2)).1, (headW (b.drop 2)).2.1, (restW (b.drop (2 + (headW (b.drop 2)).2.2))).1, (restW (b.drop (2 + (headW (b.drop 2)).2.2))).2.1, []⟩))] [] := fun k h => fs_wRest hst hp (s := ⟨k, (headW (b.drop 2)).1, (headW (b.drop 2)).2.1, [], 0, []⟩) (by omega) hb
    simp only [rdC, hz]
    by_cases e1 : c = 91
    · have g1 : ((c.toNat : Int) == 91) = true := by rw [g1]; exact decide_eq_true e1
      rw [if_pos e1] at hrd
      have h2 := k2 (by rw [e1]; decide)
      simp +contextual (maxSteps := 1000000) only [g1, w2, go_sem, reduceCtorEq, ↓reduceIte, Nat.reduceAdd, Nat.reduceEqDiff, Nat.reduceLeDiff, Nat.reduceMul, Nat.reduceBEq, Int.reduceBEq, Int.reduceBNe, Int.reduceLT, Int.reduceLE, Int.reduceGT, Int.reduceGE, Int.reduceToNat, Int.natCast_one, Int.natCast_zero, Int.cast_ofNat_Int]
      refine CallP.rdX (Ha := []) (cp 1 h2) hp rfl (by simp) (by simp [rdC, pw, w2]) ?_
      simp +contextual (maxSteps := 1000000) only [go_sem, reduceCtorEq, ↓reduceIte, Nat.reduceAdd, Nat.reduceEqDiff, Nat.reduceLeDiff, Nat.reduceMul, Nat.reduceBEq, Int.reduceBEq, Int.reduceBNe, Int.reduceLT, Int.reduceLE, Int.reduceGT, Int.reduceGE, Int.reduceToNat, Int.natCast_one, Int.natCast_zero, Int.cast_ofNat_Int]
      refine CallP.rdX (Ha := []) (cq 1 h2) hp rfl (by simp) (by simp) ?_
      simp +contextual (maxSteps := 1000000) only [go_sem, reduceCtorEq, ↓reduceIte, Nat.reduceAdd, Nat.reduceEqDiff, Nat.reduceLeDiff, Nat.reduceMul, Nat.reduceBEq, Int.reduceBEq, Int.reduceBNe, Int.reduceLT, Int.reduceLE, Int.reduceGT, Int.reduceGE, Int.reduceToNat, Int.natCast_one, Int.natCast_zero, Int.cast_ofNat_Int]
      rw [← hQ, hrd]
      exact ⟨trivial, Ret.rd rfl rfl hp (by simp)⟩
    · have g1 : ((c.toNat : Int) == 91) = false := by rw [g1]; exact decide_eq_false e1
      rw [if_neg e1] at hrd
      by_cases e2 : c = 79
      · have g2 : ((c.toNat : Int) == 79) = true := by rw [g2]; exact decide_eq_true e2
        rw [if_pos e2] at hrd
        simp +contextual (maxSteps := 1000000) only [g1, g2, w2, go_sem, reduceCtorEq, ↓reduceIte, Nat.reduceAdd, Nat.reduceEqDiff, Nat.reduceLeDiff, Nat.reduceMul, Nat.reduceBEq, Int.reduceBEq, Int.reduceBNe, Int.reduceLT, Int.reduceLE, Int.reduceGT, Int.reduceGE, Int.reduceToNat, Int.natCast_one, Int.natCast_zero, Int.cast_ofNat_Int]
        refine CallP.rdX (Ha := []) (fs_next hst hp (b := b) (n := 2) (s := ⟨2, 0, [], [], 0, []⟩) (by omega)) hp rfl (by simp) (by simp [rdC, pw, w2]) ?_
        simp only [rdC]
        simp +contextual (maxSteps := 1000000) only [go_sem, reduceCtorEq, ↓reduceIte, Nat.reduceAdd, Nat.reduceEqDiff, Nat.reduceLeDiff, Nat.reduceMul, Nat.reduceBEq, Int.reduceBEq, Int.reduceBNe, Int.reduceLT, Int.reduceLE, Int.reduceGT, Int.reduceGE, Int.reduceToNat, Int.natCast_one, Int.natCast_zero, Int.cast_ofNat_Int]
        rw [← hQ, hrd]
        exact ⟨trivial, Ret.rd rfl rfl hp (by simp [rdC, peekW])⟩
      · have g2 : ((c.toNat : Int) == 79) = false := by rw [g2]; exact decide_eq_false e2
        rw [if_neg e2] at hrd
        by_cases e3 : c = 80
        · have g3 : ((c.toNat : Int) == 80) = true := by rw [g3]; exact decide_eq_true e3
          rw [if_pos e3] at hrd
          have h2 := k2 (by rw [e3]; decide)
          have hdd := hd h27 (by rw [hc]; exact e3)
          simp +contextual (maxSteps := 1000000) only [g1, g2, g3, w2, go_sem, reduceCtorEq, ↓reduceIte, Nat.reduceAdd, Nat.reduceEqDiff, Nat.reduceLeDiff, Nat.reduceMul, Nat.reduceBEq, Int.reduceBEq, Int.reduceBNe, Int.reduceLT, Int.reduceLE, Int.reduceGT, Int.reduceGE, Int.reduceToNat, Int.natCast_one, Int.natCast_zero, Int.cast_ofNat_Int]
          refine CallP.rdX (Ha := []) (cp 3 h2) hp rfl (by simp) (by simp [rdC, pw, w2]) ?_
          simp +contextual (maxSteps := 1000000) only [go_sem, reduceCtorEq, ↓reduceIte, Nat.reduceAdd, Nat.reduceEqDiff, Nat.reduceLeDiff, Nat.reduceMul, Nat.reduceBEq, Int.reduceBEq, Int.reduceBNe, Int.reduceLT, Int.reduceLE, Int.reduceGT, Int.reduceGE, Int.reduceToNat, Int.natCast_one, Int.natCast_zero, Int.cast_ofNat_Int]
          refine CallP.rdX (Ha := []) (cq 3 h2) hp rfl (by simp) (by simp) ?_
          generalize 2 + (headW (b.drop 2)).2.2 + (restW (b.drop (2 + (headW (b.drop 2)).2.2))).2.2 = n at hdd hrd ⊢
          have cr : ∀ s, FS Tryz.prog Gl 104 [.ptr p 0, .int .u8 32, .int .u8 126] [(p, .cells (rdC b n s))] [] (.str (runL 32 126 (b.drop n))) [(p, .cells (rdC b (n + (runL 32 126 (b.drop n)).length) s))] [] := fun s => fs_run hst hp (x := 32) (y := 126) hdd (by omega)
          have hrl := runL_le 32 126 (b.drop n)
          rw [List.length_drop] at hrl
          have hw : IntKind.i64.wrap (((n + (runL 32 126 (b.drop n)).length : Nat) : Int) + 2) = ((n + (runL 32 126 (b.drop n)).length + 2 : Nat) : Int) := by rw [IntKind.wrap_i64]; omega
          generalize runL 32 126 (b.drop n) = dt at cr hrl hw hrd
          simp +contextual (maxSteps := 1000000) only [go_sem, reduceCtorEq, ↓reduceIte, Nat.reduceAdd, Nat.reduceEqDiff, Nat.reduceLeDiff, Nat.reduceMul, Nat.reduceBEq, Int.reduceBEq, Int.reduceBNe, Int.reduceLT, Int.reduceLE, Int.reduceGT, Int.reduceGE, Int.reduceToNat, Int.natCast_one, Int.natCast_zero, Int.cast_ofNat_Int]
          refine CallP.rdX (Ha := []) (cr ⟨3, (headW (b.drop 2)).1, (headW (b.drop 2)).2.1, (restW (b.drop (2 + (headW (b.drop 2)).2.2))).1, (restW (b.drop (2 + (headW (b.drop 2)).2.2))).2.1, []⟩) hp rfl (by simp) (by simp) ?_
          simp only [rdC]
          simp +contextual (maxSteps := 1000000) only [hw, go_sem, reduceCtorEq, ↓reduceIte, Nat.reduceAdd, Nat.reduceEqDiff, Nat.reduceLeDiff, Nat.reduceMul, Nat.reduceBEq, Int.reduceBEq, Int.reduceBNe, Int.reduceLT, Int.reduceLE, Int.reduceGT, Int.reduceGE, Int.reduceToNat, Int.natCast_one, Int.natCast_zero, Int.cast_ofNat_Int]
          rw [← hQ, hrd]
          exact ⟨trivial, Ret.rd rfl rfl hp (by simp [rdC])⟩
        · have g3 : ((c.toNat : Int) == 80) = false := by rw [g3]; exact decide_eq_false e3
          rw [if_neg e3] at hrd
          by_cases e4 : c = 93
          · have g4 : ((c.toNat : Int) == 93) = true := by rw [g4]; exact decide_eq_true e4
            rw [if_pos e4] at hrd
            have h2 := k2 (by rw [e4]; decide)
            have cr : ∀ s, FS Tryz.prog Gl 104 [.ptr p 0, .int .u8 32, .int .u8 126] [(p, .cells (rdC b 2 s))] [] (.str (runL 32 126 (b.drop 2))) [(p, .cells (rdC b (2 + (runL 32 126 (b.drop 2)).length) s))] [] := fun s => fs_run hst hp (x := 32) (y := 126) h2 (by omega)
            have hrl := runL_le 32 126 (b.drop 2)
            rw [List.length_drop] at hrl
            have hw : IntKind.i64.wrap (((2 + (runL 32 126 (b.drop 2)).length : Nat) : Int) + 2) = ((2 + (runL 32 126 (b.drop 2)).length + 2 : Nat) : Int) := by rw [IntKind.wrap_i64]; omega
            generalize runL 32 126 (b.drop 2) = dt at cr hrl hw hrd
            simp +contextual (maxSteps := 1000000) only [g1, g2, g3, g4, w2, go_sem, reduceCtorEq, ↓reduceIte, Nat.reduceAdd, Nat.reduceEqDiff, Nat.reduceLeDiff, Nat.reduceMul, Nat.reduceBEq, Int.reduceBEq, Int.reduceBNe, Int.reduceLT, Int.reduceLE, Int.reduceGT, Int.reduceGE, Int.reduceToNat, Int.natCast_one, Int.natCast_zero, Int.cast_ofNat_Int]
            refine CallP.rdX (Ha := []) (cr ⟨4, 0, [], [], 0, []⟩) hp rfl (by simp) (by simp [rdC, pw, w2]) ?_
            simp only [rdC]
            simp +contextual (maxSteps := 1000000) only [hw, go_sem, reduceCtorEq, ↓reduceIte, Nat.reduceAdd, Nat.reduceEqDiff, Nat.reduceLeDiff, Nat.reduceMul, Nat.reduceBEq, Int.reduceBEq, Int.reduceBNe, Int.reduceLT, Int.reduceLE, Int.reduceGT, Int.reduceGE, Int.reduceToNat, Int.natCast_one, Int.natCast_zero, Int.cast_ofNat_Int]
            rw [← hQ, hrd]
            exact ⟨trivial, Ret.rd rfl rfl hp (by simp [rdC])⟩
          · have g4 : ((c.toNat : Int) == 93) = false := by rw [g4]; exact decide_eq_false e4
            rw [if_neg e4] at hrd
            simp +contextual (maxSteps := 1000000) only [g1, g2, g3, g4, go_sem, reduceCtorEq, ↓reduceIte, Nat.reduceAdd, Nat.reduceEqDiff, Nat.reduceLeDiff, Nat.reduceMul, Nat.reduceBEq, Int.reduceBEq, Int.reduceBNe, Int.reduceLT, Int.reduceLE, Int.reduceGT, Int.reduceGE, Int.reduceToNat, Int.natCast_one, Int.natCast_zero, Int.cast_ofNat_Int]
            refine CallP.rdX (Ha := []) (fs_wRest hst hp (b := b) (n := 1) (s := ⟨5, 0, [], [], 0, []⟩) hl1 hb) hp rfl (by simp) (by simp [rdC, pw, w2]) ?_
            simp +contextual (maxSteps := 1000000) only [go_sem, reduceCtorEq, ↓reduceIte, Nat.reduceAdd, Nat.reduceEqDiff, Nat.reduceLeDiff, Nat.reduceMul, Nat.reduceBEq, Int.reduceBEq, Int.reduceBNe, Int.reduceLT, Int.reduceLE, Int.reduceGT, Int.reduceGE, Int.reduceToNat, Int.natCast_one, Int.natCast_zero, Int.cast_ofNat_Int]
            rw [← hQ, hrd]
            exact ⟨trivial, Ret.rd rfl rfl hp (by simp)⟩
  · have n1 : (((b.headD 0).toNat : Int) != 27) = true := by rw [n1, decide_eq_false h27]; rfl
    simp +contextual (maxSteps := 1000000) only [n1, go_sem, reduceCtorEq, ↓reduceIte, Nat.reduceAdd, Nat.reduceEqDiff, Nat.reduceLeDiff, Nat.reduceMul, Nat.reduceBEq, Int.reduceBEq, Int.reduceBNe, Int.reduceLT, Int.reduceLE, Int.reduceGT, Int.reduceGE, Int.reduceToNat, Int.natCast_one, Int.natCast_zero, Int.cast_ofNat_Int]
    rw [← hQ]
    refine ⟨trivial, Ret.rd rfl rfl hp ?_⟩
    unfold readW
    rw [if_pos h27]
    exact List.mem_singleton.2 rfl
end Go.Proofs.YtbepihadhmfklaaGreatDoor

set_option linter.unusedVariables false
set_option linter.unusedSimpArgs false
set_option maxRecDepth 100000
namespace Go.Proofs.YtbepihadhmfklaaGreatDoor
open Go Go.Ab
/-- bytes.Equal -/
def ir_bytesEqual : ICode :=
 (.seq
  (.reg [⟨some 4, none, .mov (.c (.bool false))⟩] (some [0, 1]))
  (.seq
   (.reg [⟨some 5, none, .mov (.t 0)⟩,
     ⟨some 6, none, .b2s (.t 5)⟩,
     ⟨some 7, none, .mov (.t 1)⟩,
     ⟨some 8, none, .b2s (.t 7)⟩,
     ⟨some 9, none, .bin .eql .none (.t 6) (.t 8)⟩,
     ⟨some 4, none, .mov (.t 9)⟩] (some [4]))
   .ret))
theorem is_bytesEqual : IrOf Tryz.prog 105 10 ir_bytesEqual [.t 4] := ⟨_, Tryz.func105, rfl, by kernel_rfl, by kernel_rfl, by kernel_rfl⟩

/-- bytes.HasPrefix -/
def ir_bytesHasPrefix : ICode :=
 (.seq
  (.reg [⟨some 4, none, .mov (.c (.bool false))⟩] (some [0, 1]))
  (.seq
   (.reg [⟨some 5, none, .mov (.t 0)⟩,
     ⟨some 6, none, .len (.t 5)⟩,
     ⟨some 7, none, .mov (.t 1)⟩,
     ⟨some 8, none, .len (.t 7)⟩,
     ⟨some 9, none, .bin .geq .none (.t 6) (.t 8)⟩,
     ⟨some 10, none, .mov (.t 9)⟩,
     ⟨some 11, some (10, true), .mov (.t 0)⟩,
     ⟨some 12, some (10, true), .mov (.t 1)⟩,
     ⟨some 13, some (10, true), .len (.t 12)⟩,
     ⟨some 14, some (10, true), .sll 1 (.t 11) none (some (.t 13)) none⟩,
     ⟨some 15, some (10, true), .mov (.t 1)⟩,
     ⟨some 16, some (10, true), .call (.c (.fn (.func 105) [] [])) [(.t 14), (.t 15)]⟩,
     ⟨some 17, none, .pick (.t 10) (.t 16) (.c (.bool false))⟩,
     ⟨some 4, none, .mov (.t 17)⟩] (some [4]))
   .ret))
theorem is_bytesHasPrefix : IrOf Tryz.prog 53 18 ir_bytesHasPrefix [.t 4] := ⟨_, Tryz.func53, rfl, by kernel_rfl, by kernel_rfl, by kernel_rfl⟩

/-- clavier/wire.Take -/
def ir_wireTake : ICode :=
 (.seq
  (.reg [⟨some 2, none, .box 47 (.c (.agg [(.int .i64 0), (.int .u8 0), .nils, (.str []), (.int .u8 0), (.str [])]))⟩,
    ⟨some 3, none, .mov (.c (.int .i64 0))⟩,
    ⟨some 4, none, .mov (.c (.int .i64 0))⟩] (some [0, 2]))
  (.seq
   (.reg [⟨some 8, none, .mov (.t 0)⟩,
     ⟨some 9, none, .bld [.nils, (.int .i64 0)] [(0, 1, (.t 8))]⟩,
     ⟨some 10, none, .bld [.nils, (.int .i64 0), (.int .i64 0), (.int .u8 0), .nils, (.str []), (.int .u8 0), (.str [])] [(0, 2, (.t 9))]⟩,
     ⟨some 5, none, .box 77 (.c (.agg [.nils, (.int .i64 0), (.int .i64 0), (.int .u8 0), .nils, (.str []), (.int .u8 0), (.str [])]))⟩,
     ⟨none, none, .st 8 (.t 5) (.t 10)⟩] (some [0, 2, 5]))
   (.seq
    (.reg [⟨some 11, none, .call (.c (.fn (.func 52) [] [])) [(.t 5)]⟩] (some [0, 2, 5]))
    (.seq
     (.reg [⟨some 13, none, .fa 2 (.t 5)⟩,
       ⟨some 14, none, .ld (some 6) (.t 13)⟩,
       ⟨some 15, none, .call (.c (.fn (.func 40) [] [])) [(.t 14)]⟩,
       ⟨some 12, none, .mov (.t 15)⟩,
       ⟨some 16, none, .ext (.t 12) 0⟩,
       ⟨some 17, none, .ext (.t 12) 1⟩,
       ⟨some 6, none, .mov (.t 16)⟩,
       ⟨some 7, none, .mov (.t 17)⟩] (some [0, 2, 5, 6, 7]))
     (.seq
      (.seq
       (.reg [⟨some 18, none, .mov (.t 7)⟩,
         ⟨some 19, none, .bin .neq .none (.t 18) (.c (.int .i64 0))⟩,
         ⟨some 20, none, .mov (.t 19)⟩,
         ⟨some 21, some (20, false), .mov (.t 0)⟩,
         ⟨some 22, some (20, false), .mov (.t 6)⟩,
         ⟨some 23, some (20, false), .call (.c (.fn (.func 53) [] [])) [(.t 21), (.t 22)]⟩,
         ⟨some 24, some (20, false), .un .not (.t 23)⟩,
         ⟨some 25, none, .pick (.t 20) (.c (.bool true)) (.t 24)⟩,
         ⟨some 26, none, .mov (.t 25)⟩,
         ⟨some 27, some (26, false), .mov (.t 6)⟩,
         ⟨some 28, some (26, false), .len (.t 27)⟩,
         ⟨some 29, some (26, false), .fa 0 (.t 5)⟩,
         ⟨some 30, some (26, false), .fa 1 (.t 29)⟩,
         ⟨some 31, some (26, false), .ld none (.t 30)⟩,
         ⟨some 32, some (26, false), .bin .neq .none (.t 28) (.t 31)⟩,
         ⟨some 33, none, .pick (.t 26) (.c (.bool true)) (.t 32)⟩] (some [2, 5, 33]))
       (.cond (.t 33)
        (.seq
         (.reg [⟨some 34, none, .bld [(.int .i64 0), (.int .u8 0), .nils, (.str []), (.int .u8 0), (.str [])] []⟩,
           ⟨none, none, .st 6 (.t 2) (.t 34)⟩,
           ⟨some 3, none, .mov (.c (.int .i64 0))⟩,
           ⟨some 4, none, .mov (.c (.int .i64 2))⟩] (some [2, 3, 4]))
         .ret)
        .skip))
      (.seq
       (.drwm [(), (), (), (), ()] [⟨⟨some 35, none, .fa 2 (.t 5)⟩, []⟩,
         ⟨⟨some 36, none, .ld (some 6) (.t 35)⟩, [0]⟩,
         ⟨⟨some 37, none, .fa 0 (.t 5)⟩, []⟩,
         ⟨⟨some 38, none, .fa 1 (.t 37)⟩, [2]⟩,
         ⟨⟨some 39, none, .ld none (.t 38)⟩, [3]⟩,
         ⟨⟨none, none, .st 6 (.t 2) (.t 36)⟩, [1, 0, 1]⟩]
         [⟨some 3, none, .mov (.t 39)⟩,
         ⟨some 4, none, .mov (.c (.int .i64 0))⟩] (some [2, 3, 4]))
       .ret))))))
theorem is_wireTake : IrOf Tryz.prog 26 40 ir_wireTake [.cell 2 (some 6), .t 3, .t 4] := ⟨_, Tryz.func26, rfl, by kernel_rfl, by kernel_rfl, by kernel_rfl⟩


theorem fs_BEqual {Gl : Gh → Prop} (hst : Stays Gl) {a b : List UInt8} {ta tb : Option Nm} : FS Tryz.prog Gl 105 [.sl ta 1 (bytesAV a), .sl tb 1 (bytesAV b)] [] [] (.bool (decide (a = b))) [] [] := by
  refine FS.of hm hst is_bytesEqual (by simp) fun γ hγ hfr => ?_
  (generalize hQ : (fun (ex : Ex) (_ _ : Nat) (s : St) => _) = Q; unfold ir_bytesEqual)
  simp +contextual (maxSteps := 1000000) only [bb_un, bb_is, implies_true, go_sem, reduceCtorEq, ↓reduceIte, Nat.reduceAdd, Nat.reduceEqDiff, Nat.reduceLeDiff, Nat.reduceMul, Nat.reduceBEq, Int.reduceBEq, Int.reduceBNe, Int.reduceLT, Int.reduceLE, Int.reduceGT, Int.reduceGE, Int.reduceToNat, Int.natCast_one, Int.natCast_zero, Int.cast_ofNat_Int]
  rw [← hQ]
  exact ⟨trivial, Ret.flat rfl rfl⟩
theorem fs_BHasPrefix {Gl : Gh → Prop} (hst : Stays Gl) {a b : List UInt8} {ta tb : Option Nm} : FS Tryz.prog Gl 53 [.sl ta 1 (bytesAV a), .sl tb 1 (bytesAV b)] [] [] (.bool (decide (b <+: a))) [] [] := by
  refine FS.of hm hst is_bytesHasPrefix (by simp) fun γ hγ hfr => ?_
  (generalize hQ : (fun (ex : Ex) (_ _ : Nat) (s : St) => _) = Q; unfold ir_bytesHasPrefix)
  by_cases h : b.length ≤ a.length
  · have hd : decide ((a.length : Int) ≥ (b.length : Int)) = true := by simp; omega
    have e : decide (b <+: a) = decide (a.take b.length = b) := by
      rw [decide_eq_decide]
      constructor
      · rintro ⟨r, rfl⟩; simp
      · intro h'; rw [← h']; exact List.take_prefix _ _
    simp +contextual (maxSteps := 1000000) only [hd, bytesAV_length', bytesAV_take, Int.toNat_natCast, Int.toNat_zero, go_sem, reduceCtorEq, ↓reduceIte, Nat.reduceAdd, Nat.reduceEqDiff, Nat.reduceLeDiff, Nat.reduceMul, Nat.reduceBEq, Int.reduceBEq, Int.reduceBNe, Int.reduceLT, Int.reduceLE, Int.reduceGT, Int.reduceGE, Int.reduceToNat, Int.natCast_one, Int.natCast_zero, Int.cast_ofNat_Int]
    refine ⟨by omega, ?_⟩
    (refine CallP.pure (fs_BEqual hst) (fun _ => rfl) ?_; simp +contextual (maxSteps := 1000000) only [go_sem, reduceCtorEq, ↓reduceIte, Nat.reduceAdd, Nat.reduceEqDiff, Nat.reduceLeDiff, Nat.reduceMul, Nat.reduceBEq, Int.reduceBEq, Int.reduceBNe, Int.reduceLT, Int.reduceLE, Int.reduceGT, Int.reduceGE, Int.reduceToNat, Int.natCast_one, Int.natCast_zero, Int.cast_ofNat_Int])
    rw [← hQ, e]
    exact ⟨trivial, Ret.flat rfl rfl⟩
  · have hd : decide ((a.length : Int) ≥ (b.length : Int)) = false := by simp; omega
    simp +contextual (maxSteps := 1000000) only [hd, bytesAV_length', go_sem, reduceCtorEq, ↓reduceIte, Nat.reduceAdd, Nat.reduceEqDiff, Nat.reduceLeDiff, Nat.reduceMul, Nat.reduceBEq, Int.reduceBEq, Int.reduceBNe, Int.reduceLT, Int.reduceLE, Int.reduceGT, Int.reduceGE, Int.reduceToNat, Int.natCast_one, Int.natCast_zero, Int.cast_ofNat_Int]
    rw [← hQ]
    have e : decide (b <+: a) = false := decide_eq_false fun hh => h hh.length_le
    rw [e]
    exact ⟨trivial, Ret.flat rfl rfl⟩
theorem pw_args {k pr fi : Int} {ps : List (List Int)} {it da : List UInt8} : LeL [.agg [.int .i64 k, .int .u8 pr, pw ps, .str it, .int .u8 fi, .str da]] [.agg (Sq.c ⟨k, pr, ps, it, fi, da⟩)] :=
  ⟨RepLe.agg ⟨.refl _, .refl _, pw_le _, .refl _, .refl _, .refl _, trivial⟩, trivial⟩
theorem RepLe.tupL {xs ys : List AV} (h : LeL xs ys) : RepLe (.tup xs) (.tup ys) := fun g v ⟨vs, e, k⟩ => ⟨vs, e, h.rep k⟩
theorem zero_le : RepLe (.tup [.agg [.int .i64 0, .int .u8 0, .nils, .str [], .int .u8 0, .str []], .int .i64 0, .int .i64 2]) (.tup [.agg zeroSq.c, .int .i64 0, .int .i64 2]) :=
  RepLe.tupL ⟨RepLe.agg ⟨.refl _, .refl _, .nils 1, .refl _, .refl _, .refl _, trivial⟩, .refl _, .refl _, trivial⟩
def takeV (b : List UInt8) : AV := match takeW b with
  | some (s, n) => .tup [.agg s.c, .int .i64 (n : Int), .int .i64 0]
  | none => .tup [.agg zeroSq.c, .int .i64 0, .int .i64 2]
theorem headD_range (l : List UInt8) : 0 ≤ ((l.headD 0).toNat : Int) ∧ ((l.headD 0).toNat : Int) < 256 := by
  have := (l.headD 0).toNat_lt; omega
theorem headW_sz (l : List UInt8) : (0 ≤ (headW l).1 ∧ (headW l).1 < 256) ∧ (headW l).2.1.length ≤ l.length + 1 ∧ ∀ p ∈ (headW l).2.1, p.length ≤ l.length + 1 := by
  unfold headW
  simp only
  have hh := headD_range l
  refine ⟨by split <;> omega, ?_⟩
  generalize (if isPr (l.headD 0) = true then 1 else 0) = k
  have h1 := runL_le 48 59 (l.drop k)
  rw [List.length_drop] at h1
  generalize runL 48 59 (l.drop k) = t at h1
  unfold numsW
  split
  · simp
  · have h2 := splitB_len (c := 59) (l := t)
    refine ⟨by simp; omega, fun p hp => ?_⟩
    obtain ⟨q, hq, rfl⟩ := List.mem_map.1 hp
    have h3 := splitB_mem_len hq
    have h4 := splitB_len (c := 58) (l := q)
    simp [subsW]; omega
theorem restW_sz (l : List UInt8) : (restW l).1.length ≤ l.length ∧ 0 ≤ (restW l).2.1 ∧ (restW l).2.1 < 256 := by
  unfold restW
  exact ⟨runL_le _ _ _, headD_range _⟩
theorem readW_sz {b : List UInt8} (hb : b.length ≤ 4000000000) : (0 ≤ (readW b).1.pr ∧ (readW b).1.pr < 256) ∧ 0 ≤ (readW b).1.fi ∧ (readW b).1.fi < 256 ∧ (readW b).1.sm := by
  have a1 := headW_sz (b.drop 2)
  have a2 := fun n => restW_sz (b.drop n)
  have a3 := fun n => runL_le 32 126 (b.drop n)
  simp only [List.length_drop] at a1 a2 a3
  unfold readW
  split
  · exact ⟨by simp [zeroSq], by simp [zeroSq], by simp [zeroSq], ⟨by simp [zeroSq], by simp [zeroSq], by simp [zeroSq], by simp [zeroSq]⟩⟩
  · simp only
    split
    · have := a2 (2 + (headW (b.drop 2)).2.2)
      exact ⟨a1.1, this.2.1, this.2.2, ⟨by have := a1.2.1; simp only; omega, fun p hp => by have := a1.2.2 p hp; omega, by have := this.1; simp only; omega, by simp⟩⟩
    · split
      · have := headD_range (b.drop 2)
        exact ⟨by simp, this.1, this.2, ⟨by simp, by simp, by simp, by simp⟩⟩
      · split
        · have := a2 (2 + (headW (b.drop 2)).2.2)
          exact ⟨a1.1, this.2.1, this.2.2, ⟨by have := a1.2.1; simp only; omega, fun p hp => by have := a1.2.2 p hp; omega, by have := this.1; simp only; omega, Nat.lt_of_le_of_lt (a3 _) (by omega)⟩⟩
        · split
          · exact ⟨by simp, by simp, by simp, ⟨by simp, by simp, by simp, Nat.lt_of_le_of_lt (a3 _) (by omega)⟩⟩
          · have := a2 1
            exact ⟨by simp, this.2.1, this.2.2, ⟨by simp, by simp, by have := this.1; simp only; omega, by simp⟩⟩
set_option maxHeartbeats 4000000 in
theorem fs_wTake {Gl : Gh → Prop} (hst : Stays Gl) {b : List UInt8} {tb : Option Nm} (hb : b.length ≤ 4000000000) (hd : dcsOk b) (hf : (readW b).1.fi < 128) :
    FS Tryz.prog Gl 26 [.sl tb 1 (bytesAV b)] [] [] (takeV b) [] [] := by
  refine FS.args (args' := [.sl none 1 (bytesAV b)]) ?_ ⟨RepLe.anon _ _ _, trivial⟩
  have hfl : (takeV b).flatT = true := by
    unfold takeV; split <;> rfl
  obtain ⟨⟨p0, p1⟩, f0, _, hsm⟩ := readW_sz hb
  have c2 : FS Tryz.prog Gl 40 [.agg [.int .i64 (readW b).1.k, .int .u8 (readW b).1.pr, pw (readW b).1.ps, .str (readW b).1.it, .int .u8 (readW b).1.fi, .str (readW b).1.da]] [] [] (.tup [putV (readW b).1, .int .i64 (mayP (readW b).1)]) [] [] := FS.args (fs_wPut hst p0 p1 f0 hf hsm) pw_args
  refine FS.ofW hm hst is_wireTake hfl (by simp) fun γ hγ hfr => ?_
  (generalize hQ : (fun (ex : Ex) (_ _ : Nat) (s : St) => _) = Q; unfold ir_wireTake)
  simp +contextual (maxSteps := 1000000) only [go_sem, reduceCtorEq, ↓reduceIte, Nat.reduceAdd, Nat.reduceEqDiff, Nat.reduceLeDiff, Nat.reduceMul, Nat.reduceBEq, Int.reduceBEq, Int.reduceBNe, Int.reduceLT, Int.reduceLE, Int.reduceGT, Int.reduceGE, Int.reduceToNat, Int.natCast_one, Int.natCast_zero, Int.cast_ofNat_Int]
  refine CallP.rdX (Ha := [((γ, 0, 0), .cells [.int .i64 0, .int .u8 0, .nils, .str [], .int .u8 0, .str []])]) (fs_wRead (p := (γ, 6, 0)) hst hγ hb hd) hγ rfl (by simp) (by simp [rdC, pw, zeroSq]) ?_
  have htk : takeW b = if mayP (readW b).1 = 0 ∧ putB (readW b).1 <+: b ∧ (putB (readW b).1).length = (readW b).2 then some (readW b) else none := rfl
  have htv : takeV b = match takeW b with | some (s, n) => .tup [.agg s.c, .int .i64 (n : Int), .int .i64 0] | none => .tup [.agg zeroSq.c, .int .i64 0, .int .i64 2] := rfl
  generalize readW b = r at *
  obtain ⟨⟨k, pr, ps, it, fi, da⟩, n⟩ := r
  simp only at *
  have hpv : putV ⟨k, pr, ps, it, fi, da⟩ = if (mayP ⟨k, pr, ps, it, fi, da⟩ != 0) = true then .nils else .sl none 1 (bytesAV (putB ⟨k, pr, ps, it, fi, da⟩)) := rfl
  simp only [rdC]
  by_cases hmy : mayP ⟨k, pr, ps, it, fi, da⟩ = 0
  · rw [hmy] at hpv c2
    rw [show ((0 : Int) != 0) = false from rfl, if_neg (by simp)] at hpv
    rw [hpv] at c2
    rw [hmy] at htk
    simp +contextual (maxSteps := 1000000) only [go_sem, reduceCtorEq, ↓reduceIte, Nat.reduceAdd, Nat.reduceEqDiff, Nat.reduceLeDiff, Nat.reduceMul, Nat.reduceBEq, Int.reduceBEq, Int.reduceBNe, Int.reduceLT, Int.reduceLE, Int.reduceGT, Int.reduceGE, Int.reduceToNat, Int.natCast_one, Int.natCast_zero, Int.cast_ofNat_Int]
    (refine CallP.pure (c2) (fun _ => rfl) ?_; simp +contextual (maxSteps := 1000000) only [go_sem, reduceCtorEq, ↓reduceIte, Nat.reduceAdd, Nat.reduceEqDiff, Nat.reduceLeDiff, Nat.reduceMul, Nat.reduceBEq, Int.reduceBEq, Int.reduceBNe, Int.reduceLT, Int.reduceLE, Int.reduceGT, Int.reduceGE, Int.reduceToNat, Int.natCast_one, Int.natCast_zero, Int.cast_ofNat_Int])
    cases hpx : decide (putB ⟨k, pr, ps, it, fi, da⟩ <+: b) with
    | false =>
      have c3 := fs_BHasPrefix (Gl := Gl) hst (a := b) (b := putB ⟨k, pr, ps, it, fi, da⟩) (ta := none) (tb := none)
      rw [hpx] at c3
      (refine CallP.pure (c3) (fun _ => rfl) ?_; simp +contextual (maxSteps := 1000000) only [go_sem, reduceCtorEq, ↓reduceIte, Nat.reduceAdd, Nat.reduceEqDiff, Nat.reduceLeDiff, Nat.reduceMul, Nat.reduceBEq, Int.reduceBEq, Int.reduceBNe, Int.reduceLT, Int.reduceLE, Int.reduceGT, Int.reduceGE, Int.reduceToNat, Int.natCast_one, Int.natCast_zero, Int.cast_ofNat_Int])
      have hn0 : takeW b = none := by rw [htk, if_neg (fun h => of_decide_eq_false hpx h.2.1)]
      rw [← hQ, htv, hn0]
      refine ⟨trivial, .inl ⟨.tup [.agg [.int .i64 0, .int .u8 0, .nils, .str [], .int .u8 0, .str []], .int .i64 0, .int .i64 2], ?_, zero_le⟩⟩
      simp [resOf, getAll, IRes.get, lf, getH]
    | true =>
      have c3 := fs_BHasPrefix (Gl := Gl) hst (a := b) (b := putB ⟨k, pr, ps, it, fi, da⟩) (ta := none) (tb := none)
      rw [hpx] at c3
      by_cases hln : (putB ⟨k, pr, ps, it, fi, da⟩).length = n
      · have hq : (((putB ⟨k, pr, ps, it, fi, da⟩).length : Int) != (n : Int)) = false := by rw [bne_eq_false_iff_eq]; omega
        (refine CallP.pure (c3) (fun _ => rfl) ?_; simp +contextual (maxSteps := 1000000) only [bytesAV_length', hq, go_sem, reduceCtorEq, ↓reduceIte, Nat.reduceAdd, Nat.reduceEqDiff, Nat.reduceLeDiff, Nat.reduceMul, Nat.reduceBEq, Int.reduceBEq, Int.reduceBNe, Int.reduceLT, Int.reduceLE, Int.reduceGT, Int.reduceGE, Int.reduceToNat, Int.natCast_one, Int.natCast_zero, Int.cast_ofNat_Int])
        refine kDrwM_of [((γ, 6, 0), .cells [.sl none 1 (bytesAV b), .int .i64 n, .int .i64 k, .int .u8 pr, pw ps, .str it, .int .u8 fi, .str da])] [((γ, 0, 0), .cells [.int .i64 0, .int .u8 0, .nils, .str [], .int .u8 0, .str []])] (by simp) (by simp) ?_
        simp +contextual (maxSteps := 1000000) only [pw_cells, pw_one, go_sem, reduceCtorEq, ↓reduceIte, Nat.reduceAdd, Nat.reduceEqDiff, Nat.reduceLeDiff, Nat.reduceMul, Nat.reduceBEq, Int.reduceBEq, Int.reduceBNe, Int.reduceLT, Int.reduceLE, Int.reduceGT, Int.reduceGE, Int.reduceToNat, Int.natCast_one, Int.natCast_zero, Int.cast_ofNat_Int]
        refine ⟨by simp, ?_⟩
        have hs0 : takeW b = some (⟨k, pr, ps, it, fi, da⟩, n) := by rw [htk, if_pos ⟨rfl, of_decide_eq_true hpx, hln⟩]
        rw [← hQ, htv, hs0]
        refine ⟨trivial, .inl ⟨.tup [.agg [.int .i64 k, .int .u8 pr, pw ps, .str it, .int .u8 fi, .str da], .int .i64 n, .int .i64 0], ?_, RepLe.tupL ⟨RepLe.agg ⟨.refl _, .refl _, pw_le _, .refl _, .refl _, .refl _, trivial⟩, .refl _, .refl _, trivial⟩⟩⟩
        simp [resOf, getAll, IRes.get, lf, getH]
      · have hq : (((putB ⟨k, pr, ps, it, fi, da⟩).length : Int) != (n : Int)) = true := by rw [bne_iff_ne]; omega
        have hn0 : takeW b = none := by rw [htk, if_neg (fun h => hln h.2.2)]
        (refine CallP.pure (c3) (fun _ => rfl) ?_; simp +contextual (maxSteps := 1000000) only [bytesAV_length', hq, go_sem, reduceCtorEq, ↓reduceIte, Nat.reduceAdd, Nat.reduceEqDiff, Nat.reduceLeDiff, Nat.reduceMul, Nat.reduceBEq, Int.reduceBEq, Int.reduceBNe, Int.reduceLT, Int.reduceLE, Int.reduceGT, Int.reduceGE, Int.reduceToNat, Int.natCast_one, Int.natCast_zero, Int.cast_ofNat_Int])
        rw [← hQ, htv, hn0]
        refine ⟨trivial, .inl ⟨.tup [.agg [.int .i64 0, .int .u8 0, .nils, .str [], .int .u8 0, .str []], .int .i64 0, .int .i64 2], ?_, zero_le⟩⟩
        simp [resOf, getAll, IRes.get, lf, getH]
  · have hmb : (mayP ⟨k, pr, ps, it, fi, da⟩ != 0) = true := by rw [bne_iff_ne]; exact hmy
    rw [hmb, if_pos rfl] at hpv
    rw [hpv] at c2
    have hn0 : takeW b = none := by rw [htk, if_neg (fun h => hmy h.1)]
    simp +contextual (maxSteps := 1000000) only [go_sem, reduceCtorEq, ↓reduceIte, Nat.reduceAdd, Nat.reduceEqDiff, Nat.reduceLeDiff, Nat.reduceMul, Nat.reduceBEq, Int.reduceBEq, Int.reduceBNe, Int.reduceLT, Int.reduceLE, Int.reduceGT, Int.reduceGE, Int.reduceToNat, Int.natCast_one, Int.natCast_zero, Int.cast_ofNat_Int]
    (refine CallP.pure (c2) (fun _ => rfl) ?_; simp +contextual (maxSteps := 1000000) only [hmb, go_sem, reduceCtorEq, ↓reduceIte, Nat.reduceAdd, Nat.reduceEqDiff, Nat.reduceLeDiff, Nat.reduceMul, Nat.reduceBEq, Int.reduceBEq, Int.reduceBNe, Int.reduceLT, Int.reduceLE, Int.reduceGT, Int.reduceGE, Int.reduceToNat, Int.natCast_one, Int.natCast_zero, Int.cast_ofNat_Int])
    rw [← hQ, htv, hn0]
    refine ⟨trivial, .inl ⟨.tup [.agg [.int .i64 0, .int .u8 0, .nils, .str [], .int .u8 0, .str []], .int .i64 0, .int .i64 2], ?_, zero_le⟩⟩
    simp [resOf, getAll, IRes.get, lf, getH]
end Go.Proofs.YtbepihadhmfklaaGreatDoor

set_option linter.unusedVariables false
set_option linter.unusedSimpArgs false
set_option maxRecDepth 100000
namespace Go.Proofs.YtbepihadhmfklaaGreatDoor
open Go Go.Ab
/-- clavier/wire.Arg -/
def ir_wireArg : ICode :=
 (.seq
  (.reg [⟨some 3, none, .box 47 (.t 0)⟩,
    ⟨some 6, none, .mov (.c (.int .i64 0))⟩] (some [1, 2, 3]))
  (.seq
   (.seq
    (.reg [⟨some 7, none, .mov (.t 1)⟩,
      ⟨some 8, none, .bin .lss .none (.t 7) (.c (.int .i64 0))⟩,
      ⟨some 9, none, .mov (.t 8)⟩,
      ⟨some 10, some (9, false), .mov (.t 1)⟩,
      ⟨some 11, some (9, false), .fa 2 (.t 3)⟩,
      ⟨some 12, some (9, false), .ld none (.t 11)⟩,
      ⟨some 13, some (9, false), .len (.t 12)⟩,
      ⟨some 14, some (9, false), .bin .geq .none (.t 10) (.t 13)⟩,
      ⟨some 15, none, .pick (.t 9) (.c (.bool true)) (.t 14)⟩,
      ⟨some 16, none, .mov (.t 15)⟩,
      ⟨some 17, some (16, false), .fa 2 (.t 3)⟩,
      ⟨some 18, some (16, false), .ld none (.t 17)⟩,
      ⟨some 19, some (16, false), .mov (.t 1)⟩,
      ⟨some 20, some (16, false), .ia 1 (.t 18) (.t 19)⟩,
      ⟨some 21, some (16, false), .ld none (.t 20)⟩,
      ⟨some 22, some (16, false), .len (.t 21)⟩,
      ⟨some 23, some (16, false), .bin .eql .none (.t 22) (.c (.int .i64 0))⟩,
      ⟨some 24, none, .pick (.t 16) (.c (.bool true)) (.t 23)⟩,
      ⟨some 25, none, .mov (.t 24)⟩,
      ⟨some 26, some (25, false), .fa 2 (.t 3)⟩,
      ⟨some 27, some (25, false), .ld none (.t 26)⟩,
      ⟨some 28, some (25, false), .mov (.t 1)⟩,
      ⟨some 29, some (25, false), .ia 1 (.t 27) (.t 28)⟩,
      ⟨some 30, some (25, false), .ld none (.t 29)⟩,
      ⟨some 31, some (25, false), .ia 1 (.t 30) (.c (.int .i64 0))⟩,
      ⟨some 32, some (25, false), .ld none (.t 31)⟩,
      ⟨some 33, some (25, false), .bin .lss .none (.t 32) (.c (.int .i64 0))⟩,
      ⟨some 34, none, .pick (.t 25) (.c (.bool true)) (.t 33)⟩] (some [1, 2, 3, 34]))
    (.cond (.t 34)
     (.seq
      (.reg [⟨some 35, none, .mov (.t 2)⟩,
        ⟨some 6, none, .mov (.t 35)⟩] (some [6]))
      .ret)
     .skip))
   (.seq
    (.reg [⟨some 36, none, .fa 2 (.t 3)⟩,
      ⟨some 37, none, .ld none (.t 36)⟩,
      ⟨some 38, none, .mov (.t 1)⟩,
      ⟨some 39, none, .ia 1 (.t 37) (.t 38)⟩,
      ⟨some 40, none, .ld none (.t 39)⟩,
      ⟨some 41, none, .ia 1 (.t 40) (.c (.int .i64 0))⟩,
      ⟨some 42, none, .ld none (.t 41)⟩,
      ⟨some 6, none, .mov (.t 42)⟩] (some [6]))
    .ret)))
theorem is_wireArg : IrOf Tryz.prog 47 43 ir_wireArg [.t 6] := ⟨_, Tryz.func47, rfl, by kernel_rfl, by kernel_rfl, by kernel_rfl⟩


theorem dcs_of_len {b : List UInt8} (h : (readW b).2 ≤ b.length) : dcsOk b := by
  intro h1 h2
  unfold readW at h
  rw [if_neg (not_not_intro h1)] at h
  simp only at h
  rw [h2] at h
  rw [if_neg (by decide), if_neg (by decide), if_pos rfl] at h
  simp only at h
  omega
theorem fi_may {s : Sq} (h : mayP s = 0) : s.fi < 128 := by
  have h1 := (mayF h).sh
  unfold shapedP at h1
  repeat' split at h1
  all_goals simp only [Bool.and_eq_true, decide_eq_true_eq, beq_iff_eq, Bool.false_eq_true] at h1
  all_goals omega
/-- What is put is read back by the program too, whatever stands behind it. -/
theorem take_may {s : Sq} (h : mayP s = 0) (more : List UInt8) : dcsOk (putB s ++ more) ∧ (readW (putB s ++ more)).1.fi < 128 ∧ takeV (putB s ++ more) = .tup [.agg s.c, .int .i64 (putB s).length, .int .i64 0] := by
  have h1 := readW_put h more
  refine ⟨dcs_of_len (by rw [h1]; simp), by rw [h1]; exact fi_may h, ?_⟩
  unfold takeV
  rw [takeW_put h]
def argW (ps : List (List Int)) (i : Nat) (o : Int) : Int := match ps[i]? with
  | some (x :: _) => if x < 0 then o else x
  | _ => o
theorem fs_wArg {Gl : Gh → Prop} (hst : Stays Gl) {k pr fi o : Int} {ps : List (List Int)} {it da : List UInt8} {i : Nat} : FS Tryz.prog Gl 47 [.agg [.int .i64 k, .int .u8 pr, .sl none 1 (parsAV ps), .str it, .int .u8 fi, .str da], .int .i64 (i : Int), .int .i64 o] [] [] (.int .i64 (argW ps i o)) [] [] := by
  refine FS.of hm hst is_wireArg (by simp) fun γ hγ hfr => ?_
  (generalize hQ : (fun (ex : Ex) (_ _ : Nat) (s : St) => _) = Q; unfold ir_wireArg)
  have h0 : decide ((i : Int) < 0) = false := by simp
  by_cases hlt : i < ps.length
  · have h1 : decide ((i : Int) ≥ (ps.length : Int)) = false := by simp; omega
    have hg : (parsAV ps).getD i [] = [intsV ps[i]] := by
      rw [List.getD_eq_getElem?_getD]; simp [parsAV, hlt]
    have hi : intsV ps[i] = .sl none 1 (intsAV ps[i]) := rfl
    cases hp : ps[i] with
    | nil =>
      rw [hi, hp] at hg
      have ha : argW ps i o = o := by unfold argW; rw [List.getElem?_eq_getElem hlt, hp]
      have hl : (((intsAV ([] : List Int)).length : Int) == 0) = true := rfl
      simp +contextual (maxSteps := 1000000) only [h0, h1, hg, hl, parsAV_length, Int.toNat_natCast, go_sem, reduceCtorEq, ↓reduceIte, Nat.reduceAdd, Nat.reduceEqDiff, Nat.reduceLeDiff, Nat.reduceMul, Nat.reduceBEq, Int.reduceBEq, Int.reduceBNe, Int.reduceLT, Int.reduceLE, Int.reduceGT, Int.reduceGE, Int.reduceToNat, Int.natCast_one, Int.natCast_zero, Int.cast_ofNat_Int]
      refine ⟨by omega, ?_⟩
      rw [← hQ, ha]
      exact ⟨trivial, Ret.flat rfl rfl⟩
    | cons x l =>
      rw [hi, hp] at hg
      have hg0 : (intsAV (x :: l)).getD 0 [] = [.int .i64 x] := rfl
      have hl : (((intsAV (x :: l)).length : Int) == 0) = false := by simp [intsAV]; omega
      have hl0 : (0 : Int) < ((intsAV (x :: l)).length : Int) := by rw [intsAV_length, List.length_cons]; omega
      by_cases hx : x < 0
      · have hd : decide (x < 0) = true := decide_eq_true hx
        have ha : argW ps i o = o := by unfold argW; rw [List.getElem?_eq_getElem hlt, hp]; exact if_pos hx
        simp +contextual (maxSteps := 1000000) only [h0, h1, hg, hg0, hl, hd, parsAV_length, Int.toNat_natCast, Int.toNat_zero, go_sem, reduceCtorEq, ↓reduceIte, Nat.reduceAdd, Nat.reduceEqDiff, Nat.reduceLeDiff, Nat.reduceMul, Nat.reduceBEq, Int.reduceBEq, Int.reduceBNe, Int.reduceLT, Int.reduceLE, Int.reduceGT, Int.reduceGE, Int.reduceToNat, Int.natCast_one, Int.natCast_zero, Int.cast_ofNat_Int]
        refine ⟨⟨by omega, by omega⟩, ⟨by omega, by omega⟩, hl0, ?_⟩
        rw [← hQ, ha]
        exact ⟨trivial, Ret.flat rfl rfl⟩
      · have hd : decide (x < 0) = false := decide_eq_false hx
        have ha : argW ps i o = x := by unfold argW; rw [List.getElem?_eq_getElem hlt, hp]; exact if_neg hx
        simp +contextual (maxSteps := 1000000) only [h0, h1, hg, hg0, hl, hd, parsAV_length, Int.toNat_natCast, Int.toNat_zero, go_sem, reduceCtorEq, ↓reduceIte, Nat.reduceAdd, Nat.reduceEqDiff, Nat.reduceLeDiff, Nat.reduceMul, Nat.reduceBEq, Int.reduceBEq, Int.reduceBNe, Int.reduceLT, Int.reduceLE, Int.reduceGT, Int.reduceGE, Int.reduceToNat, Int.natCast_one, Int.natCast_zero, Int.cast_ofNat_Int]
        refine ⟨⟨by omega, by omega⟩, ⟨by omega, by omega⟩, hl0, ⟨by omega, by omega⟩, hl0, ?_⟩
        rw [← hQ, ha]
        exact ⟨trivial, Ret.flat rfl rfl⟩
  · have h1 : decide ((i : Int) ≥ (ps.length : Int)) = true := by simp; omega
    have ha : argW ps i o = o := by unfold argW; rw [List.getElem?_eq_none (by omega)]
    simp +contextual (maxSteps := 1000000) only [h0, h1, parsAV_length, go_sem, reduceCtorEq, ↓reduceIte, Nat.reduceAdd, Nat.reduceEqDiff, Nat.reduceLeDiff, Nat.reduceMul, Nat.reduceBEq, Int.reduceBEq, Int.reduceBNe, Int.reduceLT, Int.reduceLE, Int.reduceGT, Int.reduceGE, Int.reduceToNat, Int.natCast_one, Int.natCast_zero, Int.cast_ofNat_Int]
    rw [← hQ, ha]
    exact ⟨trivial, Ret.flat rfl rfl⟩
end Go.Proofs.YtbepihadhmfklaaGreatDoor

set_option linter.unusedVariables false
set_option linter.unusedSimpArgs false
set_option maxRecDepth 100000
namespace Go.Proofs.YtbepihadhmfklaaGreatDoor
open Go Go.Ab

/-- A key's character. -/
def charK (k : Ky) : Int := if kindK k.code = 1 then shownK k else k.code
def allO (k : Ky) : Bool := (oldK k.mods != 0) && ((kindK k.code == 2) || (oldK k.mods != 1))
def fewO (k : Ky) : Bool := allO k && hasK k.mods 4 && (if kindK k.code = 2 then (k.code == 9) || (k.code == 13) else hasK k.mods 1 || !(foldK (shownK k)).isSome)
def lvO (o : Int) (k : Ky) : Bool := if o = 1 then fewO k else if o = 2 then allO k else false
/-- Is a key told by a sequence of its own? -/
def isO (o : Int) (k : Ky) : Bool := ((kindK k.code == 1) || (kindK k.code == 2)) && mayK k && (k.type != 3) && lvO o k
def othSq (k : Ky) : Sq := numSq 1 0 126 [27, 1 + oldK k.mods, charK k]
def othK (o : Int) (k : Ky) : List UInt8 := if isO o k = true then putB (othSq k) else []
theorem old_lt (m : Int) : 0 ≤ oldK m ∧ oldK m < 8 := by unfold oldK; omega
theorem isO_iff {o : Int} {k : Ky} : isO o k = true ↔ (kindK k.code = 1 ∨ kindK k.code = 2) ∧ MayK k ∧ k.type ≠ 3 ∧ lvO o k = true := by
  unfold isO
  simp only [Bool.and_eq_true, Bool.or_eq_true, beq_iff_eq, bne_iff_ne, mayK_iff, and_assoc]
theorem char_range {k : Ky} (M : MayK k) : 0 ≤ charK k ∧ charK k ≤ 1114111 := by
  unfold charK
  split
  · rename_i h
    obtain ⟨n, h1, h2, _⟩ := isCP_spec (shown_cp h M.sh).1
    omega
  · exact kind_range M.kind
theorem may3 {a b c : Int} (ha : 0 ≤ a ∧ a ≤ 1114111) (hb : 0 ≤ b ∧ b ≤ 1114111) (hc : 0 ≤ c ∧ c ≤ 1114111) : mayP (numSq 1 0 126 [a, b, c]) = 0 := by
  have hp : parsOk (([a, b, c] : List Int).map fun n => [n]) = true := by
    simp only [parsOk, List.map_cons, List.map_nil, List.any_cons, List.any_nil, parBad, List.length_cons, List.length_nil]
    have q : ∀ {x : Int}, 0 ≤ x ∧ x ≤ 1114111 → (decide (x < -1) || decide (x > 1114111)) = false := fun h => by
      rw [decide_eq_false (by omega), decide_eq_false (by omega)]; rfl
    rw [q ha, q hb, q hc]
    simp
  unfold mayP numSq
  rw [hp]
  simp [within, shapedP]
theorem oth_may {k : Ky} (M : MayK k) : mayP (othSq k) = 0 := by
  have := old_lt k.mods
  exact may3 (by omega) (by omega) (char_range M)
theorem lv_old {o : Int} {k : Ky} (h : lvO o k = true) : oldK k.mods ≠ 0 := by
  have : allO k = true := by
    unfold lvO at h
    split at h
    · unfold fewO at h
      simp only [Bool.and_eq_true] at h
      exact h.1.1
    · split at h
      · exact h
      · cases h
  unfold allO at this
  simp only [Bool.and_eq_true, bne_iff_ne] at this
  exact this.1
/-- What is told back. -/
theorem oth_back {o : Int} {k : Ky} (h : isO o k = true) : 2 ≤ 1 + oldK k.mods ∧ 1 + oldK k.mods ≤ 8 ∧ 0 ≤ charK k ∧ charK k ≤ 1114111 := by
  obtain ⟨_, M, _, hl⟩ := isO_iff.1 h
  have := old_lt k.mods
  have := lv_old hl
  have := char_range M
  omega
/-- Sequences of two keys. -/
theorem oth_inj {k j : Ky} (hk : MayK k) (hj : MayK j) : putB (othSq k) = putB (othSq j) ↔ charK k = charK j ∧ oldK k.mods = oldK j.mods := by
  constructor
  · intro h
    have := putB_inj (oth_may hk) (oth_may hj) h
    simp only [othSq, numSq, Sq.mk.injEq, List.map_cons, List.map_nil, List.cons.injEq, and_true, true_and] at this
    omega
  · rintro ⟨h1, h2⟩
    unfold othSq
    rw [h1, h2]
end Go.Proofs.YtbepihadhmfklaaGreatDoor

set_option linter.unusedVariables false
set_option linter.unusedSimpArgs false
set_option maxRecDepth 100000
namespace Go.Proofs.YtbepihadhmfklaaGreatDoor
open Go Go.Ab
/-- clavier/other.plain -/
def ir_otherplain : ICode :=
 (.seq
  (.reg [⟨some 1, none, .box 25 (.t 0)⟩,
    ⟨some 2, none, .mov (.c (.bool false))⟩] (some [1]))
  (.seq
   (.reg [⟨some 3, none, .fa 0 (.t 1)⟩,
     ⟨some 4, none, .ld none (.t 3)⟩,
     ⟨some 5, none, .call (.c (.fn (.func 24) [] [])) [(.t 4)]⟩,
     ⟨some 6, none, .fld 0 none (.t 5)⟩,
     ⟨some 7, none, .bin .eql .none (.t 6) (.c (.int .i64 2))⟩,
     ⟨some 2, none, .mov (.t 7)⟩] (some [2]))
   .ret))
theorem is_otherplain : IrOf Tryz.prog 82 8 ir_otherplain [.t 2] := ⟨_, Tryz.func82, rfl, by kernel_rfl, by kernel_rfl, by kernel_rfl⟩

/-- clavier/other.char -/
def ir_otherchar : ICode :=
 (.seq
  (.reg [⟨some 1, none, .box 25 (.t 0)⟩,
    ⟨some 2, none, .mov (.c (.int .i64 0))⟩,
    ⟨some 3, none, .mov (.c (.bool false))⟩] (some [1]))
  (.seq
   (.seq
    (.reg [⟨some 4, none, .fa 0 (.t 1)⟩,
      ⟨some 5, none, .ld none (.t 4)⟩,
      ⟨some 6, none, .call (.c (.fn (.func 24) [] [])) [(.t 5)]⟩,
      ⟨some 7, none, .fld 0 none (.t 6)⟩] (some [1, 7]))
    (.blk 0
     (.seq
      (.reg [⟨some 9, none, .bin .eql .none (.t 7) (.c (.int .i64 1))⟩,
        ⟨some 8, none, .mov (.t 9)⟩] (some [1, 7, 8]))
      (.cond (.t 8)
       (.seq
        (.reg [⟨some 10, none, .ld (some 6) (.t 1)⟩,
          ⟨some 11, none, .call (.c (.fn (.func 84) [] [])) [(.t 10)]⟩,
          ⟨some 2, none, .mov (.t 11)⟩,
          ⟨some 3, none, .mov (.c (.bool true))⟩] (some [2, 3]))
        .ret)
       (.seq
        (.reg [⟨some 13, none, .bin .eql .none (.t 7) (.c (.int .i64 2))⟩,
          ⟨some 12, none, .mov (.t 13)⟩] (some [1, 12]))
        (.cond (.t 12)
         (.seq
          (.reg [⟨some 14, none, .fa 0 (.t 1)⟩,
            ⟨some 15, none, .ld none (.t 14)⟩,
            ⟨some 2, none, .mov (.t 15)⟩,
            ⟨some 3, none, .mov (.c (.bool true))⟩] (some [2, 3]))
          .ret)
         .skip))))))
   (.seq
    (.reg [⟨some 2, none, .mov (.c (.int .i64 0))⟩,
      ⟨some 3, none, .mov (.c (.bool false))⟩] (some [2, 3]))
    .ret)))
theorem is_otherchar : IrOf Tryz.prog 38 16 ir_otherchar [.t 2, .t 3] := ⟨_, Tryz.func38, rfl, by kernel_rfl, by kernel_rfl, by kernel_rfl⟩

/-- clavier/other.all -/
def ir_otherall : ICode :=
 (.seq
  (.reg [⟨some 1, none, .box 25 (.t 0)⟩,
    ⟨some 2, none, .mov (.c (.bool false))⟩] (some [1]))
  (.seq
   (.reg [⟨some 4, none, .fa 1 (.t 1)⟩,
     ⟨some 5, none, .ld none (.t 4)⟩,
     ⟨some 6, none, .call (.c (.fn (.func 43) [] [])) [(.t 5)]⟩,
     ⟨some 3, none, .mov (.t 6)⟩] (some [1, 3]))
   (.seq
    (.reg [⟨some 7, none, .mov (.t 3)⟩,
      ⟨some 8, none, .bin .neq .none (.t 7) (.c (.int .i64 0))⟩,
      ⟨some 9, none, .mov (.t 8)⟩,
      ⟨some 10, some (9, true), .ld (some 6) (.t 1)⟩,
      ⟨some 11, some (9, true), .call (.c (.fn (.func 82) [] [])) [(.t 10)]⟩,
      ⟨some 12, some (9, true), .mov (.t 11)⟩,
      ⟨some 13, some (12, false), .mov (.t 3)⟩,
      ⟨some 14, some (12, false), .bin .neq .none (.t 13) (.c (.int .i64 1))⟩,
      ⟨some 15, some (9, true), .pick (.t 12) (.c (.bool true)) (.t 14)⟩,
      ⟨some 16, none, .pick (.t 9) (.t 15) (.c (.bool false))⟩,
      ⟨some 2, none, .mov (.t 16)⟩] (some [2]))
    .ret)))
theorem is_otherall : IrOf Tryz.prog 37 17 ir_otherall [.t 2] := ⟨_, Tryz.func37, rfl, by kernel_rfl, by kernel_rfl, by kernel_rfl⟩

/-- clavier/other.few -/
def ir_otherfew : ICode :=
 (.seq
  (.reg [⟨some 1, none, .box 25 (.t 0)⟩,
    ⟨some 2, none, .mov (.c (.bool false))⟩] (some [1]))
  (.seq
   (.seq
    (.reg [⟨some 5, none, .ld (some 6) (.t 1)⟩,
      ⟨some 6, none, .call (.c (.fn (.func 37) [] [])) [(.t 5)]⟩,
      ⟨some 7, none, .un .not (.t 6)⟩,
      ⟨some 8, none, .mov (.t 7)⟩,
      ⟨some 9, some (8, false), .fa 1 (.t 1)⟩,
      ⟨some 10, some (8, false), .ld none (.t 9)⟩,
      ⟨some 11, some (8, false), .bin .and .none (.t 10) (.c (.int .i64 4))⟩,
      ⟨some 12, some (8, false), .bin .eql .none (.t 11) (.c (.int .i64 0))⟩,
      ⟨some 13, none, .pick (.t 8) (.c (.bool true)) (.t 12)⟩] (some [1, 13]))
    (.cond (.t 13)
     (.seq
      (.reg [⟨some 2, none, .mov (.c (.bool false))⟩] (some [2]))
      .ret)
     .skip))
   (.seq
    (.seq
     (.reg [⟨some 14, none, .ld (some 6) (.t 1)⟩,
       ⟨some 15, none, .call (.c (.fn (.func 82) [] [])) [(.t 14)]⟩] (some [1, 15]))
     (.cond (.t 15)
      (.seq
       (.reg [⟨some 16, none, .fa 0 (.t 1)⟩,
         ⟨some 17, none, .ld none (.t 16)⟩,
         ⟨some 18, none, .bin .eql .none (.t 17) (.c (.int .i64 9))⟩,
         ⟨some 19, none, .mov (.t 18)⟩,
         ⟨some 20, some (19, false), .fa 0 (.t 1)⟩,
         ⟨some 21, some (19, false), .ld none (.t 20)⟩,
         ⟨some 22, some (19, false), .bin .eql .none (.t 21) (.c (.int .i64 13))⟩,
         ⟨some 23, none, .pick (.t 19) (.c (.bool true)) (.t 22)⟩,
         ⟨some 2, none, .mov (.t 23)⟩] (some [2]))
       .ret)
      .skip))
    (.seq
     (.reg [⟨some 25, none, .ld (some 6) (.t 1)⟩,
       ⟨some 26, none, .call (.c (.fn (.func 84) [] [])) [(.t 25)]⟩,
       ⟨some 27, none, .call (.c (.fn (.func 83) [] [])) [(.t 26)]⟩,
       ⟨some 24, none, .mov (.t 27)⟩,
       ⟨some 28, none, .ext (.t 24) 0⟩,
       ⟨some 29, none, .ext (.t 24) 1⟩,
       ⟨some 3, none, .mov (.t 28)⟩,
       ⟨some 4, none, .mov (.t 29)⟩] (some [1, 4]))
     (.seq
      (.reg [⟨some 30, none, .fa 1 (.t 1)⟩,
        ⟨some 31, none, .ld none (.t 30)⟩,
        ⟨some 32, none, .bin .and .none (.t 31) (.c (.int .i64 1))⟩,
        ⟨some 33, none, .bin .neq .none (.t 32) (.c (.int .i64 0))⟩,
        ⟨some 34, none, .mov (.t 33)⟩,
        ⟨some 35, some (34, false), .mov (.t 4)⟩,
        ⟨some 36, some (34, false), .un .not (.t 35)⟩,
        ⟨some 37, none, .pick (.t 34) (.c (.bool true)) (.t 36)⟩,
        ⟨some 2, none, .mov (.t 37)⟩] (some [2]))
      .ret)))))
theorem is_otherfew : IrOf Tryz.prog 36 38 ir_otherfew [.t 2] := ⟨_, Tryz.func36, rfl, by kernel_rfl, by kernel_rfl, by kernel_rfl⟩

/-- clavier/other.Key -/
def ir_otherKey : ICode :=
 (.seq
  (.reg [⟨some 2, none, .box 23 (.t 0)⟩,
    ⟨some 3, none, .box 25 (.t 1)⟩,
    ⟨some 4, none, .mov (.c .nils)⟩,
    ⟨some 5, none, .mov (.c (.bool false))⟩] (some [2, 3]))
  (.seq
   (.reg [⟨some 12, none, .bld [.nilf, .nilf] [(0, 1, (.c (.fn (.func 36) [] []))), (1, 1, (.c (.fn (.func 37) [] [])))]⟩,
     ⟨some 6, none, .box 58 (.c (.agg [.nilf, .nilf]))⟩,
     ⟨none, none, .st 2 (.t 6) (.t 12)⟩] (some [2, 3, 6]))
   (.seq
    (.reg [⟨some 14, none, .ld (some 6) (.t 3)⟩,
      ⟨some 15, none, .call (.c (.fn (.func 38) [] [])) [(.t 14)]⟩,
      ⟨some 13, none, .mov (.t 15)⟩,
      ⟨some 16, none, .ext (.t 13) 0⟩,
      ⟨some 17, none, .ext (.t 13) 1⟩,
      ⟨some 7, none, .mov (.t 16)⟩,
      ⟨some 8, none, .mov (.t 17)⟩] (some [2, 3, 6, 7, 8]))
    (.seq
     (.seq
      (.reg [⟨some 18, none, .mov (.t 8)⟩,
        ⟨some 19, none, .un .not (.t 18)⟩,
        ⟨some 20, none, .mov (.t 19)⟩,
        ⟨some 21, some (20, false), .fa 9 (.t 2)⟩,
        ⟨some 22, some (20, false), .ld none (.t 21)⟩,
        ⟨some 23, some (20, false), .bin .lss .none (.t 22) (.c (.int .i64 1))⟩,
        ⟨some 24, none, .pick (.t 20) (.c (.bool true)) (.t 23)⟩,
        ⟨some 25, none, .mov (.t 24)⟩,
        ⟨some 26, some (25, false), .fa 9 (.t 2)⟩,
        ⟨some 27, some (25, false), .ld none (.t 26)⟩,
        ⟨some 28, some (25, false), .bin .gtr .none (.t 27) (.c (.int .i64 2))⟩,
        ⟨some 29, none, .pick (.t 25) (.c (.bool true)) (.t 28)⟩,
        ⟨some 30, none, .mov (.t 29)⟩,
        ⟨some 31, some (30, false), .ld (some 6) (.t 3)⟩,
        ⟨some 32, some (30, false), .call (.c (.fn (.func 39) [] [])) [(.t 31)]⟩,
        ⟨some 33, some (30, false), .un .not (.t 32)⟩,
        ⟨some 34, none, .pick (.t 30) (.c (.bool true)) (.t 33)⟩,
        ⟨some 35, none, .mov (.t 34)⟩,
        ⟨some 36, some (35, false), .fa 2 (.t 3)⟩,
        ⟨some 37, some (35, false), .ld none (.t 36)⟩,
        ⟨some 38, some (35, false), .bin .eql .none (.t 37) (.c (.int .i64 3))⟩,
        ⟨some 39, none, .pick (.t 35) (.c (.bool true)) (.t 38)⟩] (some [2, 3, 6, 7, 39]))
      (.cond (.t 39)
       (.seq
        (.reg [⟨some 4, none, .mov (.c .nils)⟩,
          ⟨some 5, none, .mov (.c (.bool false))⟩] (some [4, 5]))
        .ret)
       .skip))
     (.seq
      (.seq
       (.reg [⟨some 40, none, .fa 9 (.t 2)⟩,
         ⟨some 41, none, .ld none (.t 40)⟩,
         ⟨some 42, none, .bin .sub .none (.t 41) (.c (.int .i64 1))⟩,
         ⟨some 43, none, .iar 2 1 (.t 6) (.t 42)⟩,
         ⟨some 44, none, .ld none (.t 43)⟩,
         ⟨some 9, none, .mov (.t 44)⟩] (some [3, 7, 9]))
       (.seq
        (.reg [⟨some 45, none, .mov (.t 9)⟩,
          ⟨some 46, none, .ld (some 6) (.t 3)⟩,
          ⟨some 47, none, .call (.t 45) [(.t 46)]⟩,
          ⟨some 48, none, .un .not (.t 47)⟩] (some [3, 7, 48]))
        (.cond (.t 48)
         (.seq
          (.reg [⟨some 4, none, .mov (.c .nils)⟩,
            ⟨some 5, none, .mov (.c (.bool false))⟩] (some [4, 5]))
          .ret)
         .skip)))
      (.seq
       (.reg [⟨some 50, none, .fa 1 (.t 3)⟩,
         ⟨some 51, none, .ld none (.t 50)⟩,
         ⟨some 52, none, .call (.c (.fn (.func 43) [] [])) [(.t 51)]⟩,
         ⟨some 53, none, .call (.c (.fn (.func 42) [] [])) [(.t 52)]⟩,
         ⟨some 54, none, .mov (.t 7)⟩,
         ⟨some 55, none, .row 3 1 [(.c (.int .i64 27)), (.t 53), (.t 54)]⟩,
         ⟨some 56, none, .call (.c (.fn (.func 41) [] [])) [(.c (.int .u8 0)), (.c (.int .u8 126)), (.t 55)]⟩,
         ⟨some 57, none, .call (.c (.fn (.func 40) [] [])) [(.t 56)]⟩,
         ⟨some 49, none, .mov (.t 57)⟩,
         ⟨some 58, none, .ext (.t 49) 0⟩,
         ⟨some 59, none, .ext (.t 49) 1⟩,
         ⟨some 10, none, .mov (.t 58)⟩,
         ⟨some 11, none, .mov (.t 59)⟩] (some [10, 11]))
       (.seq
        (.reg [⟨some 60, none, .mov (.t 10)⟩,
          ⟨some 61, none, .mov (.t 11)⟩,
          ⟨some 62, none, .bin .eql .none (.t 61) (.c (.int .i64 0))⟩,
          ⟨some 4, none, .mov (.t 60)⟩,
          ⟨some 5, none, .mov (.t 62)⟩] (some [4, 5]))
        .ret)))))))
theorem is_otherKey : IrOf Tryz.prog 20 63 ir_otherKey [.t 4, .t 5] := ⟨_, Tryz.func20, rfl, by kernel_rfl, by kernel_rfl, by kernel_rfl⟩


theorem fs_oPlain {Gl : Gh → Prop} (hst : Stays Gl) {k : Ky} : FS Tryz.prog Gl 82 [.agg (kyAV k)] [] [] (.bool (kindK k.code == 2)) [] [] := by
  refine FS.of hm hst is_otherplain (by simp) fun γ hγ hfr => ?_
  have hky : kyAV k = [.int .i64 k.code, .int .i64 k.mods, .int .i64 k.type, .int .i64 k.shifted, .int .i64 k.base, .str k.text] := rfl
  have c1 := fs_Look (Gl := Gl) hst (c := k.code)
  have hkd : (lookR k.code).kind = kindK k.code := rfl
  rw [ent_eq, hkd] at c1
  simp only [hky]
  (generalize hQ : (fun (ex : Ex) (_ _ : Nat) (s : St) => _) = Q; unfold ir_otherplain)
  simp +contextual (maxSteps := 1000000) only [go_sem, reduceCtorEq, ↓reduceIte, Nat.reduceAdd, Nat.reduceEqDiff, Nat.reduceLeDiff, Nat.reduceMul, Nat.reduceBEq, Int.reduceBEq, Int.reduceBNe, Int.reduceLT, Int.reduceLE, Int.reduceGT, Int.reduceGE, Int.reduceToNat, Int.natCast_one, Int.natCast_zero, Int.cast_ofNat_Int]
  (refine CallP.pure (c1) (fun _ => rfl) ?_; simp +contextual (maxSteps := 1000000) only [go_sem, reduceCtorEq, ↓reduceIte, Nat.reduceAdd, Nat.reduceEqDiff, Nat.reduceLeDiff, Nat.reduceMul, Nat.reduceBEq, Int.reduceBEq, Int.reduceBNe, Int.reduceLT, Int.reduceLE, Int.reduceGT, Int.reduceGE, Int.reduceToNat, Int.natCast_one, Int.natCast_zero, Int.cast_ofNat_Int])
  rw [← hQ]
  exact ⟨trivial, Ret.flat rfl rfl⟩
theorem fs_oChar {Gl : Gh → Prop} (hst : Stays Gl) {k : Ky} (hmm : k.mods ≤ 9223372036854775807) : FS Tryz.prog Gl 38 [.agg (kyAV k)] [] [] (.tup [.int .i64 (if kindK k.code = 1 ∨ kindK k.code = 2 then charK k else 0), .bool ((kindK k.code == 1) || (kindK k.code == 2))]) [] [] := by
  refine FS.of hm hst is_otherchar (by simp) fun γ hγ hfr => ?_
  have hky : kyAV k = [.int .i64 k.code, .int .i64 k.mods, .int .i64 k.type, .int .i64 k.shifted, .int .i64 k.base, .str k.text] := rfl
  have c1 := fs_Look (Gl := Gl) hst (c := k.code)
  have hkd : (lookR k.code).kind = kindK k.code := rfl
  rw [ent_eq, hkd] at c1
  have c2 := fs_Shown (Gl := Gl) hst (k := k) hmm
  rw [hky] at c2
  simp only [hky]
  (generalize hQ : (fun (ex : Ex) (_ _ : Nat) (s : St) => _) = Q; unfold ir_otherchar)
  simp +contextual (maxSteps := 1000000) only [go_sem, reduceCtorEq, ↓reduceIte, Nat.reduceAdd, Nat.reduceEqDiff, Nat.reduceLeDiff, Nat.reduceMul, Nat.reduceBEq, Int.reduceBEq, Int.reduceBNe, Int.reduceLT, Int.reduceLE, Int.reduceGT, Int.reduceGE, Int.reduceToNat, Int.natCast_one, Int.natCast_zero, Int.cast_ofNat_Int]
  (refine CallP.pure (c1) (fun _ => rfl) ?_; simp +contextual (maxSteps := 1000000) only [go_sem, reduceCtorEq, ↓reduceIte, Nat.reduceAdd, Nat.reduceEqDiff, Nat.reduceLeDiff, Nat.reduceMul, Nat.reduceBEq, Int.reduceBEq, Int.reduceBNe, Int.reduceLT, Int.reduceLE, Int.reduceGT, Int.reduceGE, Int.reduceToNat, Int.natCast_one, Int.natCast_zero, Int.cast_ofNat_Int])
  by_cases h1 : kindK k.code = 1
  · have q1 : (kindK k.code == 1) = true := beq_iff_eq.2 h1
    have hc : charK k = shownK k := if_pos h1
    simp +contextual (maxSteps := 1000000) only [q1, go_sem, reduceCtorEq, ↓reduceIte, Nat.reduceAdd, Nat.reduceEqDiff, Nat.reduceLeDiff, Nat.reduceMul, Nat.reduceBEq, Int.reduceBEq, Int.reduceBNe, Int.reduceLT, Int.reduceLE, Int.reduceGT, Int.reduceGE, Int.reduceToNat, Int.natCast_one, Int.natCast_zero, Int.cast_ofNat_Int]
    (refine CallP.pure (c2) (fun _ => rfl) ?_; simp +contextual (maxSteps := 1000000) only [go_sem, reduceCtorEq, ↓reduceIte, Nat.reduceAdd, Nat.reduceEqDiff, Nat.reduceLeDiff, Nat.reduceMul, Nat.reduceBEq, Int.reduceBEq, Int.reduceBNe, Int.reduceLT, Int.reduceLE, Int.reduceGT, Int.reduceGE, Int.reduceToNat, Int.natCast_one, Int.natCast_zero, Int.cast_ofNat_Int])
    rw [← hQ, if_pos (.inl h1), hc, q1]
    exact ⟨trivial, Ret.flatT rfl rfl⟩
  · have q1 : (kindK k.code == 1) = false := beq_eq_false_iff_ne.2 h1
    by_cases h2 : kindK k.code = 2
    · have q2 : (kindK k.code == 2) = true := beq_iff_eq.2 h2
      have hc : charK k = k.code := if_neg h1
      simp +contextual (maxSteps := 1000000) only [q1, q2, go_sem, reduceCtorEq, ↓reduceIte, Nat.reduceAdd, Nat.reduceEqDiff, Nat.reduceLeDiff, Nat.reduceMul, Nat.reduceBEq, Int.reduceBEq, Int.reduceBNe, Int.reduceLT, Int.reduceLE, Int.reduceGT, Int.reduceGE, Int.reduceToNat, Int.natCast_one, Int.natCast_zero, Int.cast_ofNat_Int]
      rw [← hQ, if_pos (.inr h2), hc, q1, q2]
      exact ⟨trivial, Ret.flatT rfl rfl⟩
    · have q2 : (kindK k.code == 2) = false := beq_eq_false_iff_ne.2 h2
      simp +contextual (maxSteps := 1000000) only [q1, q2, go_sem, reduceCtorEq, ↓reduceIte, Nat.reduceAdd, Nat.reduceEqDiff, Nat.reduceLeDiff, Nat.reduceMul, Nat.reduceBEq, Int.reduceBEq, Int.reduceBNe, Int.reduceLT, Int.reduceLE, Int.reduceGT, Int.reduceGE, Int.reduceToNat, Int.natCast_one, Int.natCast_zero, Int.cast_ofNat_Int]
      rw [← hQ, if_neg (by omega), q1, q2]
      exact ⟨trivial, Ret.flatT rfl rfl⟩
theorem fs_oAll {Gl : Gh → Prop} (hst : Stays Gl) {k : Ky} (h1 : k.mods ≤ 9223372036854775807) : FS Tryz.prog Gl 37 [.agg (kyAV k)] [] [] (.bool (allO k)) [] [] := by
  refine FS.of hm hst is_otherall (by simp) fun γ hγ hfr => ?_
  have hky : kyAV k = [.int .i64 k.code, .int .i64 k.mods, .int .i64 k.type, .int .i64 k.shifted, .int .i64 k.base, .str k.text] := rfl
  have c1 := fs_Old (Gl := Gl) hst (m := k.mods) h1
  have c2 := fs_oPlain (Gl := Gl) hst (k := k)
  have hz : allO k = ((oldK k.mods != 0) && ((kindK k.code == 2) || (oldK k.mods != 1))) := rfl
  rw [hky] at c2
  simp only [hky]
  (generalize hQ : (fun (ex : Ex) (_ _ : Nat) (s : St) => _) = Q; unfold ir_otherall)
  simp +contextual (maxSteps := 1000000) only [go_sem, reduceCtorEq, ↓reduceIte, Nat.reduceAdd, Nat.reduceEqDiff, Nat.reduceLeDiff, Nat.reduceMul, Nat.reduceBEq, Int.reduceBEq, Int.reduceBNe, Int.reduceLT, Int.reduceLE, Int.reduceGT, Int.reduceGE, Int.reduceToNat, Int.natCast_one, Int.natCast_zero, Int.cast_ofNat_Int]
  (refine CallP.pure (c1) (fun _ => rfl) ?_; simp +contextual (maxSteps := 1000000) only [go_sem, reduceCtorEq, ↓reduceIte, Nat.reduceAdd, Nat.reduceEqDiff, Nat.reduceLeDiff, Nat.reduceMul, Nat.reduceBEq, Int.reduceBEq, Int.reduceBNe, Int.reduceLT, Int.reduceLE, Int.reduceGT, Int.reduceGE, Int.reduceToNat, Int.natCast_one, Int.natCast_zero, Int.cast_ofNat_Int])
  (refine kGc_call (c2) (fun _ => rfl) (fun hgc => ?_) ?_; (focus (first | (rw [Bool.not_eq_true'] at hgc; simp only [List.map_cons, List.map_nil, List.nil_append, List.append_nil, List.cons_append, Xev_t, Xev_c, upd_app, lf_cons, lf_nil, Nat.reduceEqDiff, ↓reduceIte, hgc, Bool.false_eq_true, Bool.true_eq_false, reduceCtorEq]; done) | (simp only [List.map_cons, List.map_nil, List.nil_append, List.append_nil, List.cons_append, Xev_t, Xev_c, upd_app, lf_cons, lf_nil, Nat.reduceEqDiff, ↓reduceIte, hgc, Bool.false_eq_true, Bool.true_eq_false, reduceCtorEq]; done) | (revert hgc; simp +contextual [Xev_t, Xev_c, upd_app, lf_cons, lf_nil]; done) | simp [Xev_t, Xev_c, upd_app, lf_cons, lf_nil])); simp +contextual (maxSteps := 1000000) only [go_sem, reduceCtorEq, ↓reduceIte, Nat.reduceAdd, Nat.reduceEqDiff, Nat.reduceLeDiff, Nat.reduceMul, Nat.reduceBEq, Int.reduceBEq, Int.reduceBNe, Int.reduceLT, Int.reduceLE, Int.reduceGT, Int.reduceGE, Int.reduceToNat, Int.natCast_one, Int.natCast_zero, Int.cast_ofNat_Int])
  rw [← hQ, hz]
  exact ⟨trivial, Ret.flat rfl rfl⟩
theorem fs_oFew {Gl : Gh → Prop} (hst : Stays Gl) {k : Ky} (h0 : 0 ≤ k.mods) (h1 : k.mods ≤ 255) : FS Tryz.prog Gl 36 [.agg (kyAV k)] [] [] (.bool (fewO k)) [] [] := by
  refine FS.of hm hst is_otherfew (by simp) fun γ hγ hfr => ?_
  have hky : kyAV k = [.int .i64 k.code, .int .i64 k.mods, .int .i64 k.type, .int .i64 k.shifted, .int .i64 k.base, .str k.text] := rfl
  have c1 := fs_oAll (Gl := Gl) hst (k := k) (by omega)
  have c2 := fs_oPlain (Gl := Gl) hst (k := k)
  have c3 := fs_Shown (Gl := Gl) hst (k := k) (by omega)
  have c4 : FS Tryz.prog Gl 83 [.int .i64 (shownK k)] [] [] (.tup [.int .i64 ((foldK (shownK k)).getD 0), .bool (foldK (shownK k)).isSome]) [] [] := fs_Fold (Gl := Gl) hst
  have q4 : (bits .and .i64 k.mods 4 != 0) = hasK k.mods 4 := hasB h0 h1 2 (by omega)
  have q4' : (bits .and .i64 k.mods 4 == 0) = !hasK k.mods 4 := by rw [← q4, bne, Bool.not_not]
  have q1 : (bits .and .i64 k.mods 1 != 0) = hasK k.mods 1 := hasB h0 h1 0 (by omega)
  have hz : fewO k = (allO k && hasK k.mods 4 && (if kindK k.code = 2 then (k.code == 9) || (k.code == 13) else hasK k.mods 1 || !(foldK (shownK k)).isSome)) := rfl
  rw [hky] at c1 c2 c3
  simp only [hky]
  (generalize hQ : (fun (ex : Ex) (_ _ : Nat) (s : St) => _) = Q; unfold ir_otherfew)
  simp +contextual (maxSteps := 1000000) only [go_sem, reduceCtorEq, ↓reduceIte, Nat.reduceAdd, Nat.reduceEqDiff, Nat.reduceLeDiff, Nat.reduceMul, Nat.reduceBEq, Int.reduceBEq, Int.reduceBNe, Int.reduceLT, Int.reduceLE, Int.reduceGT, Int.reduceGE, Int.reduceToNat, Int.natCast_one, Int.natCast_zero, Int.cast_ofNat_Int]
  (refine CallP.pure (c1) (fun _ => rfl) ?_; simp +contextual (maxSteps := 1000000) only [q4', go_sem, reduceCtorEq, ↓reduceIte, Nat.reduceAdd, Nat.reduceEqDiff, Nat.reduceLeDiff, Nat.reduceMul, Nat.reduceBEq, Int.reduceBEq, Int.reduceBNe, Int.reduceLT, Int.reduceLE, Int.reduceGT, Int.reduceGE, Int.reduceToNat, Int.natCast_one, Int.natCast_zero, Int.cast_ofNat_Int])
  cases hA : allO k with
  | false =>
    simp +contextual (maxSteps := 1000000) only [hA, go_sem, reduceCtorEq, ↓reduceIte, Nat.reduceAdd, Nat.reduceEqDiff, Nat.reduceLeDiff, Nat.reduceMul, Nat.reduceBEq, Int.reduceBEq, Int.reduceBNe, Int.reduceLT, Int.reduceLE, Int.reduceGT, Int.reduceGE, Int.reduceToNat, Int.natCast_one, Int.natCast_zero, Int.cast_ofNat_Int]
    rw [← hQ, hz, hA]
    exact ⟨trivial, Ret.flat rfl rfl⟩
  | true =>
    cases hB : hasK k.mods 4 with
    | false =>
      simp +contextual (maxSteps := 1000000) only [hA, hB, go_sem, reduceCtorEq, ↓reduceIte, Nat.reduceAdd, Nat.reduceEqDiff, Nat.reduceLeDiff, Nat.reduceMul, Nat.reduceBEq, Int.reduceBEq, Int.reduceBNe, Int.reduceLT, Int.reduceLE, Int.reduceGT, Int.reduceGE, Int.reduceToNat, Int.natCast_one, Int.natCast_zero, Int.cast_ofNat_Int]
      rw [← hQ, hz, hA, hB]
      exact ⟨trivial, Ret.flat rfl rfl⟩
    | true =>
      simp +contextual (maxSteps := 1000000) only [hA, hB, go_sem, reduceCtorEq, ↓reduceIte, Nat.reduceAdd, Nat.reduceEqDiff, Nat.reduceLeDiff, Nat.reduceMul, Nat.reduceBEq, Int.reduceBEq, Int.reduceBNe, Int.reduceLT, Int.reduceLE, Int.reduceGT, Int.reduceGE, Int.reduceToNat, Int.natCast_one, Int.natCast_zero, Int.cast_ofNat_Int]
      (refine CallP.pure (c2) (fun _ => rfl) ?_; simp +contextual (maxSteps := 1000000) only [go_sem, reduceCtorEq, ↓reduceIte, Nat.reduceAdd, Nat.reduceEqDiff, Nat.reduceLeDiff, Nat.reduceMul, Nat.reduceBEq, Int.reduceBEq, Int.reduceBNe, Int.reduceLT, Int.reduceLE, Int.reduceGT, Int.reduceGE, Int.reduceToNat, Int.natCast_one, Int.natCast_zero, Int.cast_ofNat_Int])
      by_cases h2 : kindK k.code = 2
      · have q2 : (kindK k.code == 2) = true := beq_iff_eq.2 h2
        simp +contextual (maxSteps := 1000000) only [q2, go_sem, reduceCtorEq, ↓reduceIte, Nat.reduceAdd, Nat.reduceEqDiff, Nat.reduceLeDiff, Nat.reduceMul, Nat.reduceBEq, Int.reduceBEq, Int.reduceBNe, Int.reduceLT, Int.reduceLE, Int.reduceGT, Int.reduceGE, Int.reduceToNat, Int.natCast_one, Int.natCast_zero, Int.cast_ofNat_Int]
        rw [← hQ, hz, hA, hB, if_pos h2]
        exact ⟨trivial, Ret.flat rfl rfl⟩
      · have q2 : (kindK k.code == 2) = false := beq_eq_false_iff_ne.2 h2
        simp +contextual (maxSteps := 1000000) only [q2, go_sem, reduceCtorEq, ↓reduceIte, Nat.reduceAdd, Nat.reduceEqDiff, Nat.reduceLeDiff, Nat.reduceMul, Nat.reduceBEq, Int.reduceBEq, Int.reduceBNe, Int.reduceLT, Int.reduceLE, Int.reduceGT, Int.reduceGE, Int.reduceToNat, Int.natCast_one, Int.natCast_zero, Int.cast_ofNat_Int]
        (refine CallP.pure (c3) (fun _ => rfl) ?_; simp +contextual (maxSteps := 1000000) only [go_sem, reduceCtorEq, ↓reduceIte, Nat.reduceAdd, Nat.reduceEqDiff, Nat.reduceLeDiff, Nat.reduceMul, Nat.reduceBEq, Int.reduceBEq, Int.reduceBNe, Int.reduceLT, Int.reduceLE, Int.reduceGT, Int.reduceGE, Int.reduceToNat, Int.natCast_one, Int.natCast_zero, Int.cast_ofNat_Int])
        (refine CallP.pure (c4) (fun _ => rfl) ?_; simp +contextual (maxSteps := 1000000) only [q1, go_sem, reduceCtorEq, ↓reduceIte, Nat.reduceAdd, Nat.reduceEqDiff, Nat.reduceLeDiff, Nat.reduceMul, Nat.reduceBEq, Int.reduceBEq, Int.reduceBNe, Int.reduceLT, Int.reduceLE, Int.reduceGT, Int.reduceGE, Int.reduceToNat, Int.natCast_one, Int.natCast_zero, Int.cast_ofNat_Int])
        rw [← hQ, hz, hA, hB, if_neg h2]
        exact ⟨trivial, Ret.flat rfl rfl⟩
theorem isO_prog (o : Int) (k : Ky) : isO o k = (!((((!((kindK k.code == 1) || (kindK k.code == 2)) || decide (o < 1)) || decide (o > 2)) || !mayK k) || (k.type == 3)) && lvO o k) := by
  have hl : (o < 1 ∨ o > 2) → lvO o k = false := fun h => by unfold lvO; rw [if_neg (by omega), if_neg (by omega)]
  unfold isO
  by_cases h1 : o < 1
  · rw [hl (.inl h1)]; simp
  · by_cases h2 : o > 2
    · rw [hl (.inr h2)]; simp
    · rw [decide_eq_false h1, decide_eq_false h2]
      simp only [bne]
      cases (kindK k.code == 1) <;> cases (kindK k.code == 2) <;> cases mayK k <;> cases (k.type == 3) <;> rfl
set_option maxHeartbeats 4000000 in
theorem fs_oKey {Gl : Gh → Prop} (hst : Stays Gl) {m : Md} {k : Ky} (hmm : k.mods ≤ 9223372036854775807) (ht : k.text.length ≤ 1000000000000) : FS Tryz.prog Gl 20 [.agg (mdAV m), .agg (kyAV k)] [] [] (.tup [.sl none 1 (bytesAV (othK m.other k)), .bool (isO m.other k)]) [] [] := by
  refine FS.ofW hm hst is_otherKey rfl (by simp) fun γ hγ hfr => ?_
  have hky : kyAV k = [.int .i64 k.code, .int .i64 k.mods, .int .i64 k.type, .int .i64 k.shifted, .int .i64 k.base, .str k.text] := rfl
  have hmd : mdAV m = [.bool m.cursor, .bool m.keypad, .bool m.back, .bool m.focus, .bool m.paste, .bool m.lock, .bool m.line, .int .i64 m.mouse, .int .i64 m.coding, .int .i64 m.other] := rfl
  have c1 := fs_oChar (Gl := Gl) hst (k := k) hmm
  have c2 := fs_MayK (Gl := Gl) hst ht
  have c3 := fs_oAll (Gl := Gl) hst (k := k) hmm
  have c4 := fun (M : MayK k) => fs_oFew (Gl := Gl) hst (k := k) M.m0 M.m1
  have c5 := fs_Old (Gl := Gl) hst (m := k.mods) hmm
  have c6 := fs_Param (Gl := Gl) hst (m := oldK k.mods)
  have hold := old_lt k.mods
  rw [show paramK (oldK k.mods) = 1 + oldK k.mods by unfold paramK; split <;> omega] at c6
  have c7 := fun t : Option Nm => fs_NumV (Gl := Gl) hst (pr := 0) (fi := 126) (nums := [27, 1 + oldK k.mods, charK k]) (tn := t) (by simp)
  have hi3 : intsAV [27, 1 + oldK k.mods, charK k] = [[.int .i64 27], [.int .i64 (1 + oldK k.mods)], [.int .i64 (charK k)]] := rfl
  rw [hi3] at c7
  have c8 : MayK k → FS Tryz.prog Gl 40 [.agg [.int .i64 1, .int .u8 0, .sl none 1 (parsAV (([27, 1 + oldK k.mods, charK k] : List Int).map fun n => [n])), .str [], .int .u8 126, .str []]] [] [] (.tup [.sl none 1 (bytesAV (putB (othSq k))), .int .i64 0]) [] [] := fun M => by
    have h := oth_may M
    have := fs_wPut (Gl := Gl) hst (s := othSq k) (by simp [othSq, numSq]) (by simp [othSq, numSq]) (by simp [othSq, numSq]) (by simp [othSq, numSq]) (sm_num (by simp))
    rw [show putV (othSq k) = .sl none 1 (bytesAV (putB (othSq k))) by unfold putV; rw [h]; rfl, h] at this
    exact this
  have hz := isO_prog m.other k
  have hw : othK m.other k = if isO m.other k = true then putB (othSq k) else [] := rfl
  rw [hky] at c1 c2 c3 c4
  simp only [hky, hmd]
  (generalize hQ : (fun (ex : Ex) (_ _ : Nat) (s : St) => _) = Q; unfold ir_otherKey)
  have no : ∀ {γ' c' : Nat} {st : St}, isO m.other k = false → st.F 4 = .nils → st.F 5 = .bool false → Q .ret γ' c' st := by
    intro γ' c' st h h4 h5
    rw [← hQ, hw, h]
    exact ⟨trivial, .inl ⟨.tup [.nils, .bool false], by simp only [resOf, getAll, IRes.get, h4, h5], RepLe.tupL ⟨.nils 1, .refl _, trivial⟩⟩⟩
  simp +contextual (maxSteps := 1000000) only [go_sem, reduceCtorEq, ↓reduceIte, Nat.reduceAdd, Nat.reduceEqDiff, Nat.reduceLeDiff, Nat.reduceMul, Nat.reduceBEq, Int.reduceBEq, Int.reduceBNe, Int.reduceLT, Int.reduceLE, Int.reduceGT, Int.reduceGE, Int.reduceToNat, Int.natCast_one, Int.natCast_zero, Int.cast_ofNat_Int]
  (refine CallP.pure (c1) (fun _ => rfl) ?_; simp +contextual (maxSteps := 1000000) only [go_sem, reduceCtorEq, ↓reduceIte, Nat.reduceAdd, Nat.reduceEqDiff, Nat.reduceLeDiff, Nat.reduceMul, Nat.reduceBEq, Int.reduceBEq, Int.reduceBNe, Int.reduceLT, Int.reduceLE, Int.reduceGT, Int.reduceGE, Int.reduceToNat, Int.natCast_one, Int.natCast_zero, Int.cast_ofNat_Int])
  (refine kGc_call (c2) (fun _ => rfl) (fun hgc => ?_) ?_; (focus (first | (rw [Bool.not_eq_true'] at hgc; simp only [List.map_cons, List.map_nil, List.nil_append, List.append_nil, List.cons_append, Xev_t, Xev_c, upd_app, lf_cons, lf_nil, Nat.reduceEqDiff, ↓reduceIte, hgc, Bool.false_eq_true, Bool.true_eq_false, reduceCtorEq]; done) | (simp only [List.map_cons, List.map_nil, List.nil_append, List.append_nil, List.cons_append, Xev_t, Xev_c, upd_app, lf_cons, lf_nil, Nat.reduceEqDiff, ↓reduceIte, hgc, Bool.false_eq_true, Bool.true_eq_false, reduceCtorEq]; done) | (revert hgc; simp +contextual [Xev_t, Xev_c, upd_app, lf_cons, lf_nil]; done) | simp [Xev_t, Xev_c, upd_app, lf_cons, lf_nil])); simp +contextual (maxSteps := 1000000) only [go_sem, reduceCtorEq, ↓reduceIte, Nat.reduceAdd, Nat.reduceEqDiff, Nat.reduceLeDiff, Nat.reduceMul, Nat.reduceBEq, Int.reduceBEq, Int.reduceBNe, Int.reduceLT, Int.reduceLE, Int.reduceGT, Int.reduceGE, Int.reduceToNat, Int.natCast_one, Int.natCast_zero, Int.cast_ofNat_Int])
  cases hB : ((((!((kindK k.code == 1) || (kindK k.code == 2)) || decide (m.other < 1)) || decide (m.other > 2)) || !mayK k) || (k.type == 3)) with
  | true =>
    simp +contextual (maxSteps := 1000000) only [hB, go_sem, reduceCtorEq, ↓reduceIte, Nat.reduceAdd, Nat.reduceEqDiff, Nat.reduceLeDiff, Nat.reduceMul, Nat.reduceBEq, Int.reduceBEq, Int.reduceBNe, Int.reduceLT, Int.reduceLE, Int.reduceGT, Int.reduceGE, Int.reduceToNat, Int.natCast_one, Int.natCast_zero, Int.cast_ofNat_Int]
    exact no (by rw [hz, hB]; rfl) rfl rfl
  | false =>
    have hB' := hB
    simp only [Bool.or_eq_false_iff, Bool.not_eq_false', decide_eq_false_iff_not, beq_eq_false_iff_ne, Bool.or_eq_true, beq_iff_eq] at hB'
    obtain ⟨⟨⟨⟨hk, ho1⟩, ho2⟩, hmk⟩, ht3⟩ := hB'
    have M := mayK_iff.1 hmk
    have c4 := c4 M
    have c8 := c8 M
    have hz' : isO m.other k = lvO m.other k := by rw [hz, hB]; rfl
    have yes : ∀ {γ' c' : Nat} {st : St}, isO m.other k = true → st.F 4 = .sl none 1 (bytesAV (putB (othSq k))) → st.F 5 = .bool true → Q .ret γ' c' st := by
      intro γ' c' st h h4 h5
      rw [← hQ, hw, h]
      exact ⟨trivial, .inl ⟨.tup [.sl none 1 (bytesAV (putB (othSq k))), .bool true], by simp only [resOf, getAll, IRes.get, h4, h5], RepLe.refl _⟩⟩
    have hch : (if kindK k.code = 1 ∨ kindK k.code = 2 then charK k else 0) = charK k := if_pos hk
    rcases (show m.other = 1 ∨ m.other = 2 by omega) with e | e
    · have hl : lvO m.other k = fewO k := by rw [e]; rfl
      have hwr : IntKind.i64.wrap (m.other - 1) = 0 := by rw [e]; rfl
      cases hC : fewO k with
      | false =>
        rw [hC] at c4
        simp +contextual (maxSteps := 1000000) only [hB, hwr, hch, go_sem, reduceCtorEq, ↓reduceIte, Nat.reduceAdd, Nat.reduceEqDiff, Nat.reduceLeDiff, Nat.reduceMul, Nat.reduceBEq, Int.reduceBEq, Int.reduceBNe, Int.reduceLT, Int.reduceLE, Int.reduceGT, Int.reduceGE, Int.reduceToNat, Int.natCast_one, Int.natCast_zero, Int.cast_ofNat_Int]
        (refine CallP.pure (c4) (fun _ => rfl) ?_; simp +contextual (maxSteps := 1000000) only [go_sem, reduceCtorEq, ↓reduceIte, Nat.reduceAdd, Nat.reduceEqDiff, Nat.reduceLeDiff, Nat.reduceMul, Nat.reduceBEq, Int.reduceBEq, Int.reduceBNe, Int.reduceLT, Int.reduceLE, Int.reduceGT, Int.reduceGE, Int.reduceToNat, Int.natCast_one, Int.natCast_zero, Int.cast_ofNat_Int])
        exact no (by rw [hz', hl, hC]) rfl rfl
      | true =>
        rw [hC] at c4
        simp +contextual (maxSteps := 1000000) only [hB, hwr, hch, go_sem, reduceCtorEq, ↓reduceIte, Nat.reduceAdd, Nat.reduceEqDiff, Nat.reduceLeDiff, Nat.reduceMul, Nat.reduceBEq, Int.reduceBEq, Int.reduceBNe, Int.reduceLT, Int.reduceLE, Int.reduceGT, Int.reduceGE, Int.reduceToNat, Int.natCast_one, Int.natCast_zero, Int.cast_ofNat_Int]
        (refine CallP.pure (c4) (fun _ => rfl) ?_; simp +contextual (maxSteps := 1000000) only [go_sem, reduceCtorEq, ↓reduceIte, Nat.reduceAdd, Nat.reduceEqDiff, Nat.reduceLeDiff, Nat.reduceMul, Nat.reduceBEq, Int.reduceBEq, Int.reduceBNe, Int.reduceLT, Int.reduceLE, Int.reduceGT, Int.reduceGE, Int.reduceToNat, Int.natCast_one, Int.natCast_zero, Int.cast_ofNat_Int])
        (refine CallP.pure (c5) (fun _ => rfl) ?_; simp +contextual (maxSteps := 1000000) only [go_sem, reduceCtorEq, ↓reduceIte, Nat.reduceAdd, Nat.reduceEqDiff, Nat.reduceLeDiff, Nat.reduceMul, Nat.reduceBEq, Int.reduceBEq, Int.reduceBNe, Int.reduceLT, Int.reduceLE, Int.reduceGT, Int.reduceGE, Int.reduceToNat, Int.natCast_one, Int.natCast_zero, Int.cast_ofNat_Int])
        (refine CallP.pure (c6) (fun _ => rfl) ?_; simp +contextual (maxSteps := 1000000) only [go_sem, reduceCtorEq, ↓reduceIte, Nat.reduceAdd, Nat.reduceEqDiff, Nat.reduceLeDiff, Nat.reduceMul, Nat.reduceBEq, Int.reduceBEq, Int.reduceBNe, Int.reduceLT, Int.reduceLE, Int.reduceGT, Int.reduceGE, Int.reduceToNat, Int.natCast_one, Int.natCast_zero, Int.cast_ofNat_Int])
        (refine CallP.pure (c7 _) (fun _ => rfl) ?_; simp +contextual (maxSteps := 1000000) only [go_sem, reduceCtorEq, ↓reduceIte, Nat.reduceAdd, Nat.reduceEqDiff, Nat.reduceLeDiff, Nat.reduceMul, Nat.reduceBEq, Int.reduceBEq, Int.reduceBNe, Int.reduceLT, Int.reduceLE, Int.reduceGT, Int.reduceGE, Int.reduceToNat, Int.natCast_one, Int.natCast_zero, Int.cast_ofNat_Int])
        (refine CallP.pure (c8) (fun _ => rfl) ?_; simp +contextual (maxSteps := 1000000) only [go_sem, reduceCtorEq, ↓reduceIte, Nat.reduceAdd, Nat.reduceEqDiff, Nat.reduceLeDiff, Nat.reduceMul, Nat.reduceBEq, Int.reduceBEq, Int.reduceBNe, Int.reduceLT, Int.reduceLE, Int.reduceGT, Int.reduceGE, Int.reduceToNat, Int.natCast_one, Int.natCast_zero, Int.cast_ofNat_Int])
        exact yes (by rw [hz', hl, hC]) rfl rfl
    · have hl : lvO m.other k = allO k := by rw [e]; rfl
      have hwr : IntKind.i64.wrap (m.other - 1) = 1 := by rw [e]; rfl
      cases hC : allO k with
      | false =>
        rw [hC] at c3
        simp +contextual (maxSteps := 1000000) only [hB, hwr, hch, go_sem, reduceCtorEq, ↓reduceIte, Nat.reduceAdd, Nat.reduceEqDiff, Nat.reduceLeDiff, Nat.reduceMul, Nat.reduceBEq, Int.reduceBEq, Int.reduceBNe, Int.reduceLT, Int.reduceLE, Int.reduceGT, Int.reduceGE, Int.reduceToNat, Int.natCast_one, Int.natCast_zero, Int.cast_ofNat_Int]
        (refine CallP.pure (c3) (fun _ => rfl) ?_; simp +contextual (maxSteps := 1000000) only [go_sem, reduceCtorEq, ↓reduceIte, Nat.reduceAdd, Nat.reduceEqDiff, Nat.reduceLeDiff, Nat.reduceMul, Nat.reduceBEq, Int.reduceBEq, Int.reduceBNe, Int.reduceLT, Int.reduceLE, Int.reduceGT, Int.reduceGE, Int.reduceToNat, Int.natCast_one, Int.natCast_zero, Int.cast_ofNat_Int])
        exact no (by rw [hz', hl, hC]) rfl rfl
      | true =>
        rw [hC] at c3
        simp +contextual (maxSteps := 1000000) only [hB, hwr, hch, go_sem, reduceCtorEq, ↓reduceIte, Nat.reduceAdd, Nat.reduceEqDiff, Nat.reduceLeDiff, Nat.reduceMul, Nat.reduceBEq, Int.reduceBEq, Int.reduceBNe, Int.reduceLT, Int.reduceLE, Int.reduceGT, Int.reduceGE, Int.reduceToNat, Int.natCast_one, Int.natCast_zero, Int.cast_ofNat_Int]
        (refine CallP.pure (c3) (fun _ => rfl) ?_; simp +contextual (maxSteps := 1000000) only [go_sem, reduceCtorEq, ↓reduceIte, Nat.reduceAdd, Nat.reduceEqDiff, Nat.reduceLeDiff, Nat.reduceMul, Nat.reduceBEq, Int.reduceBEq, Int.reduceBNe, Int.reduceLT, Int.reduceLE, Int.reduceGT, Int.reduceGE, Int.reduceToNat, Int.natCast_one, Int.natCast_zero, Int.cast_ofNat_Int])
        (refine CallP.pure (c5) (fun _ => rfl) ?_; simp +contextual (maxSteps := 1000000) only [go_sem, reduceCtorEq, ↓reduceIte, Nat.reduceAdd, Nat.reduceEqDiff, Nat.reduceLeDiff, Nat.reduceMul, Nat.reduceBEq, Int.reduceBEq, Int.reduceBNe, Int.reduceLT, Int.reduceLE, Int.reduceGT, Int.reduceGE, Int.reduceToNat, Int.natCast_one, Int.natCast_zero, Int.cast_ofNat_Int])
        (refine CallP.pure (c6) (fun _ => rfl) ?_; simp +contextual (maxSteps := 1000000) only [go_sem, reduceCtorEq, ↓reduceIte, Nat.reduceAdd, Nat.reduceEqDiff, Nat.reduceLeDiff, Nat.reduceMul, Nat.reduceBEq, Int.reduceBEq, Int.reduceBNe, Int.reduceLT, Int.reduceLE, Int.reduceGT, Int.reduceGE, Int.reduceToNat, Int.natCast_one, Int.natCast_zero, Int.cast_ofNat_Int])
        (refine CallP.pure (c7 _) (fun _ => rfl) ?_; simp +contextual (maxSteps := 1000000) only [go_sem, reduceCtorEq, ↓reduceIte, Nat.reduceAdd, Nat.reduceEqDiff, Nat.reduceLeDiff, Nat.reduceMul, Nat.reduceBEq, Int.reduceBEq, Int.reduceBNe, Int.reduceLT, Int.reduceLE, Int.reduceGT, Int.reduceGE, Int.reduceToNat, Int.natCast_one, Int.natCast_zero, Int.cast_ofNat_Int])
        (refine CallP.pure (c8) (fun _ => rfl) ?_; simp +contextual (maxSteps := 1000000) only [go_sem, reduceCtorEq, ↓reduceIte, Nat.reduceAdd, Nat.reduceEqDiff, Nat.reduceLeDiff, Nat.reduceMul, Nat.reduceBEq, Int.reduceBEq, Int.reduceBNe, Int.reduceLT, Int.reduceLE, Int.reduceGT, Int.reduceGE, Int.reduceToNat, Int.natCast_one, Int.natCast_zero, Int.cast_ofNat_Int])
        exact yes (by rw [hz', hl, hC]) rfl rfl
end Go.Proofs.YtbepihadhmfklaaGreatDoor

set_option linter.unusedVariables false
set_option linter.unusedSimpArgs false
set_option maxRecDepth 100000
namespace Go.Proofs.YtbepihadhmfklaaGreatDoor
open Go Go.Ab
/-- slices.EqualFunc[[][]int,[][]int,[]int,[]int] -/
def ir_slicesEqualFuncintintintint : ICode :=
 (.seq
  (.reg [⟨some 6, none, .mov (.c (.bool false))⟩] (some [0, 1, 2]))
  (.seq
   (.seq
    (.reg [⟨some 10, none, .mov (.t 0)⟩,
      ⟨some 11, none, .len (.t 10)⟩,
      ⟨some 12, none, .mov (.t 1)⟩,
      ⟨some 13, none, .len (.t 12)⟩,
      ⟨some 14, none, .bin .neq .none (.t 11) (.t 13)⟩] (some [0, 1, 2, 14]))
    (.cond (.t 14)
     (.seq
      (.reg [⟨some 6, none, .mov (.c (.bool false))⟩] (some [6]))
      .ret)
     .skip))
   (.seq
    (.seq
     (.reg [⟨some 15, none, .mov (.t 0)⟩,
       ⟨some 16, none, .len (.t 15)⟩,
       ⟨some 17, none, .mov (.c (.int .i64 0))⟩] (some [1, 2, 15, 16, 17]))
     (.blk 0
      (.loop
       (.seq
        (.reg [⟨some 18, none, .bin .lss .none (.t 17) (.t 16)⟩] (some [1, 2, 15, 16, 17, 18]))
        (.seq
         (.cond (.t 18)
          .skip
          (.exit 0))
         (.seq
          (.blk 1
           (.seq
            (.reg [⟨some 19, none, .mov (.t 17)⟩,
              ⟨some 20, none, .ia 1 (.t 15) (.t 17)⟩,
              ⟨some 21, none, .ld none (.t 20)⟩,
              ⟨some 7, none, .mov (.t 19)⟩,
              ⟨some 8, none, .mov (.t 21)⟩] (some [1, 2, 7, 8, 15, 16, 17]))
            (.seq
             (.reg [⟨some 22, none, .mov (.t 1)⟩,
               ⟨some 23, none, .mov (.t 7)⟩,
               ⟨some 24, none, .ia 1 (.t 22) (.t 23)⟩,
               ⟨some 25, none, .ld none (.t 24)⟩,
               ⟨some 9, none, .mov (.t 25)⟩] (some [1, 2, 8, 9, 15, 16, 17]))
             (.seq
              (.reg [⟨some 26, none, .mov (.t 2)⟩,
                ⟨some 27, none, .mov (.t 8)⟩,
                ⟨some 28, none, .mov (.t 9)⟩,
                ⟨some 29, none, .call (.t 26) [(.t 27), (.t 28)]⟩,
                ⟨some 30, none, .un .not (.t 29)⟩] (some [1, 2, 15, 16, 17, 30]))
              (.cond (.t 30)
               (.seq
                (.reg [⟨some 6, none, .mov (.c (.bool false))⟩] (some [6]))
                .ret)
               .skip)))))
          (.reg [⟨some 31, none, .bin .add .none (.t 17) (.c (.int .i64 1))⟩,
            ⟨some 17, none, .mov (.t 31)⟩] (some [1, 2, 15, 16, 17]))))))))
    (.seq
     (.reg [⟨some 6, none, .mov (.c (.bool true))⟩] (some [6]))
     .ret))))
theorem is_slicesEqualFuncintintintint : IrOf Tryz.prog 93 32 ir_slicesEqualFuncintintintint [.t 6] := ⟨_, Tryz.func93, rfl, by kernel_rfl, by kernel_rfl, by kernel_rfl⟩

/-- clavier/wire.Same -/
def ir_wireSame : ICode :=
 (.seq
  (.reg [⟨some 2, none, .box 47 (.t 0)⟩,
    ⟨some 3, none, .box 47 (.t 1)⟩,
    ⟨some 4, none, .mov (.c (.bool false))⟩] (some [2, 3]))
  (.seq
   (.seq
    (.reg [⟨some 6, none, .fa 2 (.t 2)⟩,
      ⟨some 7, none, .ld none (.t 6)⟩,
      ⟨some 8, none, .fa 2 (.t 3)⟩,
      ⟨some 9, none, .ld none (.t 8)⟩,
      ⟨some 10, none, .call (.c (.fn (.func 93) [] [])) [(.t 7), (.t 9), (.c (.fn (.func 94) [] []))]⟩,
      ⟨some 11, none, .un .not (.t 10)⟩] (some [2, 3, 11]))
    (.cond (.t 11)
     (.seq
      (.reg [⟨some 4, none, .mov (.c (.bool false))⟩] (some [4]))
      .ret)
     .skip))
   (.seq
    (.reg [⟨some 12, none, .fa 0 (.t 2)⟩,
      ⟨some 13, none, .ld none (.t 12)⟩,
      ⟨some 14, none, .fa 0 (.t 3)⟩,
      ⟨some 15, none, .ld none (.t 14)⟩,
      ⟨some 16, none, .bin .eql .none (.t 13) (.t 15)⟩,
      ⟨some 17, none, .mov (.t 16)⟩,
      ⟨some 18, some (17, true), .fa 1 (.t 2)⟩,
      ⟨some 19, some (17, true), .ld none (.t 18)⟩,
      ⟨some 20, some (17, true), .fa 1 (.t 3)⟩,
      ⟨some 21, some (17, true), .ld none (.t 20)⟩,
      ⟨some 22, some (17, true), .bin .eql .none (.t 19) (.t 21)⟩,
      ⟨some 23, none, .pick (.t 17) (.t 22) (.c (.bool false))⟩,
      ⟨some 24, none, .mov (.t 23)⟩,
      ⟨some 25, some (24, true), .fa 4 (.t 2)⟩,
      ⟨some 26, some (24, true), .ld none (.t 25)⟩,
      ⟨some 27, some (24, true), .fa 4 (.t 3)⟩,
      ⟨some 28, some (24, true), .ld none (.t 27)⟩,
      ⟨some 29, some (24, true), .bin .eql .none (.t 26) (.t 28)⟩,
      ⟨some 30, none, .pick (.t 24) (.t 29) (.c (.bool false))⟩,
      ⟨some 5, none, .mov (.t 30)⟩] (some [2, 3, 5]))
    (.seq
     (.reg [⟨some 31, none, .mov (.t 5)⟩,
       ⟨some 32, none, .mov (.t 31)⟩,
       ⟨some 33, some (32, true), .fa 3 (.t 2)⟩,
       ⟨some 34, some (32, true), .ld none (.t 33)⟩,
       ⟨some 35, some (32, true), .fa 3 (.t 3)⟩,
       ⟨some 36, some (32, true), .ld none (.t 35)⟩,
       ⟨some 37, some (32, true), .bin .eql .none (.t 34) (.t 36)⟩,
       ⟨some 38, none, .pick (.t 32) (.t 37) (.c (.bool false))⟩,
       ⟨some 39, none, .mov (.t 38)⟩,
       ⟨some 40, some (39, true), .fa 5 (.t 2)⟩,
       ⟨some 41, some (39, true), .ld none (.t 40)⟩,
       ⟨some 42, some (39, true), .fa 5 (.t 3)⟩,
       ⟨some 43, some (39, true), .ld none (.t 42)⟩,
       ⟨some 44, some (39, true), .bin .eql .none (.t 41) (.t 43)⟩,
       ⟨some 45, none, .pick (.t 39) (.t 44) (.c (.bool false))⟩,
       ⟨some 4, none, .mov (.t 45)⟩] (some [4]))
     .ret))))
theorem is_wireSame : IrOf Tryz.prog 48 46 ir_wireSame [.t 4] := ⟨_, Tryz.func48, rfl, by kernel_rfl, by kernel_rfl, by kernel_rfl⟩


theorem fs_EqualPars {Gl : Gh → Prop} (hst : Stays Gl) {a b : List (List Int)} {ta tb : Option Nm} (ha : a.length < 9223372036854775808) (hb : b.length < 9223372036854775808) (hpa : ∀ p ∈ a, p.length < 9223372036854775808) (hpb : ∀ p ∈ b, p.length < 9223372036854775808) : FS Tryz.prog Gl 93 [.sl ta 1 (parsAV a), .sl tb 1 (parsAV b), .fn (.func 94) [] []] [] [] (.bool (decide (a = b))) [] [] := by
  refine FS.of hm hst is_slicesEqualFuncintintintint (by simp) fun γ hγ hfr => ?_
  (generalize hQ : (fun (ex : Ex) (_ _ : Nat) (s : St) => _) = Q; unfold ir_slicesEqualFuncintintintint)
  simp +contextual (maxSteps := 1000000) only [parsAV_length, go_sem, reduceCtorEq, ↓reduceIte, Nat.reduceAdd, Nat.reduceEqDiff, Nat.reduceLeDiff, Nat.reduceMul, Nat.reduceBEq, Int.reduceBEq, Int.reduceBNe, Int.reduceLT, Int.reduceLE, Int.reduceGT, Int.reduceGE, Int.reduceToNat, Int.natCast_one, Int.natCast_zero, Int.cast_ofNat_Int]
  refine kCond_split (fun h => ?_) (fun h => ?_)
  · simp +contextual (maxSteps := 1000000) only [go_sem, reduceCtorEq, ↓reduceIte, Nat.reduceAdd, Nat.reduceEqDiff, Nat.reduceLeDiff, Nat.reduceMul, Nat.reduceBEq, Int.reduceBEq, Int.reduceBNe, Int.reduceLT, Int.reduceLE, Int.reduceGT, Int.reduceGE, Int.reduceToNat, Int.natCast_one, Int.natCast_zero, Int.cast_ofNat_Int]
    rw [← hQ]
    have : decide (a = b) = false := by
      simp only [bne_iff_ne, ne_eq] at h
      rw [decide_eq_false_iff_not]; intro e; subst e; simp at h
    rw [this]
    exact ⟨trivial, Ret.flat rfl rfl⟩
  · have hl : a.length = b.length := by simp at h; omega
    simp +contextual (maxSteps := 1000000) only [parsAV_length, go_sem, reduceCtorEq, ↓reduceIte, Nat.reduceAdd, Nat.reduceEqDiff, Nat.reduceLeDiff, Nat.reduceMul, Nat.reduceBEq, Int.reduceBEq, Int.reduceBNe, Int.reduceLT, Int.reduceLE, Int.reduceGT, Int.reduceGE, Int.reduceToNat, Int.natCast_one, Int.natCast_zero, Int.cast_ofNat_Int]
    refine kLoop_ix (fun i : Nat => ⟨lf [(1, .sl tb 1 (parsAV b)), (2, .fn (.func 94) [] []), (15, .sl ta 1 (parsAV a)), (16, .int .i64 a.length), (17, .int .i64 i)], [], fun x => x ∈ []⟩) (fun i => i ≤ a.length ∧ a.take i = b.take i) (fun i => a.length - i) 0 0 (Wk.same ?_) ?_ ?_
    · (simp only [lfOK, upd, initF]; repeat' first | exact AVle.refl _ _ | exact trivial | refine And.intro ?_ ?_ | exact AVle.int (by simp only [IntKind.wrap_i64]; omega))
    · simp
    · rintro γ' i hf ⟨hi, hinv⟩
      generalize hQ' : kIt _ _ _ _ _ = Q'
      by_cases hlt : i < a.length
      · have hd : decide ((i : Int) < (a.length : Int)) = true := by simp; omega
        have hi2 : intsV a[i] = .sl none 1 (intsAV a[i]) := rfl
        have hi3 : intsV (b[i]'(by omega)) = .sl none 1 (intsAV (b[i]'(by omega))) := rfl
        have g1 : (parsAV a).getD (i : Int).toNat [] = [intsV a[i]] := by rw [Int.toNat_natCast]; exact parsAV_get hlt
        have g2 : (parsAV b).getD (i : Int).toNat [] = [intsV (b[i]'(by omega))] := by rw [Int.toNat_natCast]; exact parsAV_get (by omega)
        rw [hi2] at g1
        rw [hi3] at g2
        have c1 := fs_EqualInts (Gl := Gl) hst (a := a[i]) (b := b[i]'(by omega)) (ta := none) (tb := none) (hpa _ (List.getElem_mem _)) (hpb _ (List.getElem_mem _))
        simp +contextual (maxSteps := 1000000) only [parsAV_length, hd, g1, g2, go_sem, reduceCtorEq, ↓reduceIte, Nat.reduceAdd, Nat.reduceEqDiff, Nat.reduceLeDiff, Nat.reduceMul, Nat.reduceBEq, Int.reduceBEq, Int.reduceBNe, Int.reduceLT, Int.reduceLE, Int.reduceGT, Int.reduceGE, Int.reduceToNat, Int.natCast_one, Int.natCast_zero, Int.cast_ofNat_Int]
        refine ⟨by omega, by omega, ?_⟩
        (refine CallP.pure (c1) (fun _ => rfl) ?_; simp +contextual (maxSteps := 1000000) only [go_sem, reduceCtorEq, ↓reduceIte, Nat.reduceAdd, Nat.reduceEqDiff, Nat.reduceLeDiff, Nat.reduceMul, Nat.reduceBEq, Int.reduceBEq, Int.reduceBNe, Int.reduceLT, Int.reduceLE, Int.reduceGT, Int.reduceGE, Int.reduceToNat, Int.natCast_one, Int.natCast_zero, Int.cast_ofNat_Int])
        cases hc : decide (a[i] = b[i]'(by omega)) with
        | false =>
          simp +contextual (maxSteps := 1000000) only [hc, go_sem, reduceCtorEq, ↓reduceIte, Nat.reduceAdd, Nat.reduceEqDiff, Nat.reduceLeDiff, Nat.reduceMul, Nat.reduceBEq, Int.reduceBEq, Int.reduceBNe, Int.reduceLT, Int.reduceLE, Int.reduceGT, Int.reduceGE, Int.reduceToNat, Int.natCast_one, Int.natCast_zero, Int.cast_ofNat_Int]
          rw [← hQ']
          simp only [w_kIt_r, w_kBlk_r, w_kSeq_r]
          have e : decide (a = b) = false := by
            rw [decide_eq_false_iff_not]; intro e; subst e; exact of_decide_eq_false hc rfl
          rw [← hQ, e]
          exact ⟨trivial, Ret.flat rfl rfl⟩
        | true =>
          simp +contextual (maxSteps := 1000000) only [hc, go_sem, reduceCtorEq, ↓reduceIte, Nat.reduceAdd, Nat.reduceEqDiff, Nat.reduceLeDiff, Nat.reduceMul, Nat.reduceBEq, Int.reduceBEq, Int.reduceBNe, Int.reduceLT, Int.reduceLE, Int.reduceGT, Int.reduceGE, Int.reduceToNat, Int.natCast_one, Int.natCast_zero, Int.cast_ofNat_Int]
          rw [← hQ']
          simp only [w_kIt_n]
          refine ⟨0, i + 1, Wk.same ?_, ⟨by omega, ?_⟩, by omega⟩
          · repeat' first | exact AVle.refl _ _ | exact trivial | refine And.intro ?_ ?_ | exact AVle.int (by simp only [IntKind.wrap_i64]; omega)
          · have h2 : a[i] = b[i]'(by omega) := of_decide_eq_true hc
            rw [List.take_add_one, List.take_add_one, hinv, List.getElem?_eq_getElem hlt, List.getElem?_eq_getElem (show i < b.length by omega), h2]
      · have hd : decide ((i : Int) < (a.length : Int)) = false := by simp; omega
        simp +contextual (maxSteps := 1000000) only [parsAV_length, hd, go_sem, reduceCtorEq, ↓reduceIte, Nat.reduceAdd, Nat.reduceEqDiff, Nat.reduceLeDiff, Nat.reduceMul, Nat.reduceBEq, Int.reduceBEq, Int.reduceBNe, Int.reduceLT, Int.reduceLE, Int.reduceGT, Int.reduceGE, Int.reduceToNat, Int.natCast_one, Int.natCast_zero, Int.cast_ofNat_Int]
        rw [← hQ']
        simp only [w_kIt_e, w_kBlk_e, ↓reduceIte]
        simp +contextual (maxSteps := 1000000) only [go_sem, reduceCtorEq, ↓reduceIte, Nat.reduceAdd, Nat.reduceEqDiff, Nat.reduceLeDiff, Nat.reduceMul, Nat.reduceBEq, Int.reduceBEq, Int.reduceBNe, Int.reduceLT, Int.reduceLE, Int.reduceGT, Int.reduceGE, Int.reduceToNat, Int.natCast_one, Int.natCast_zero, Int.cast_ofNat_Int]
        have e : decide (a = b) = true := by
          rw [decide_eq_true_eq]
          have h3 := hinv
          rw [List.take_of_length_le (by omega), List.take_of_length_le (by omega)] at h3
          exact h3
        rw [← hQ, e]
        exact ⟨trivial, Ret.flat rfl rfl⟩
/-- Sizes that a slice may have. -/
structure Sq.szP (s : Sq) : Prop where
  ps : s.ps.length < 9223372036854775808
  pp : ∀ p ∈ s.ps, p.length < 9223372036854775808
theorem fs_wSame {Gl : Gh → Prop} (hst : Stays Gl) {a b : Sq} (ha : a.szP) (hb : b.szP) : FS Tryz.prog Gl 48 [.agg a.c, .agg b.c] [] [] (.bool (decide (a = b))) [] [] := by
  refine FS.of hm hst is_wireSame (by simp) fun γ hγ hfr => ?_
  obtain ⟨k, pr, ps, it, fi, da⟩ := a
  obtain ⟨k2, pr2, ps2, it2, fi2, da2⟩ := b
  have c1 := fs_EqualPars (Gl := Gl) hst (a := ps) (b := ps2) (ta := none) (tb := none) ha.ps hb.ps ha.pp hb.pp
  have hcc : ∀ (k pr : Int) ps it fi da, Sq.c ⟨k, pr, ps, it, fi, da⟩ = [.int .i64 k, .int .u8 pr, .sl none 1 (parsAV ps), .str it, .int .u8 fi, .str da] := fun _ _ _ _ _ _ => rfl
  have hz : decide ((⟨k, pr, ps, it, fi, da⟩ : Sq) = ⟨k2, pr2, ps2, it2, fi2, da2⟩) = (decide (ps = ps2) && ((((k == k2) && (pr == pr2)) && (fi == fi2)) && decide (it = it2) && decide (da = da2))) := by
    rw [Bool.eq_iff_iff]
    simp only [Sq.mk.injEq, decide_eq_true_eq, Bool.and_eq_true, beq_iff_eq]
    constructor
    · rintro ⟨a, b, c, d, e, f⟩; exact ⟨c, ⟨⟨⟨a, b⟩, e⟩, d⟩, f⟩
    · rintro ⟨c, ⟨⟨⟨a, b⟩, e⟩, d⟩, f⟩; exact ⟨a, b, c, d, e, f⟩
  (generalize hQ : (fun (ex : Ex) (_ _ : Nat) (s : St) => _) = Q; unfold ir_wireSame)
  simp +contextual (maxSteps := 1000000) only [hcc, go_sem, reduceCtorEq, ↓reduceIte, Nat.reduceAdd, Nat.reduceEqDiff, Nat.reduceLeDiff, Nat.reduceMul, Nat.reduceBEq, Int.reduceBEq, Int.reduceBNe, Int.reduceLT, Int.reduceLE, Int.reduceGT, Int.reduceGE, Int.reduceToNat, Int.natCast_one, Int.natCast_zero, Int.cast_ofNat_Int]
  (refine CallP.pure (c1) (fun _ => rfl) ?_; simp +contextual (maxSteps := 1000000) only [go_sem, reduceCtorEq, ↓reduceIte, Nat.reduceAdd, Nat.reduceEqDiff, Nat.reduceLeDiff, Nat.reduceMul, Nat.reduceBEq, Int.reduceBEq, Int.reduceBNe, Int.reduceLT, Int.reduceLE, Int.reduceGT, Int.reduceGE, Int.reduceToNat, Int.natCast_one, Int.natCast_zero, Int.cast_ofNat_Int])
  cases hc : decide (ps = ps2) with
  | false =>
    simp +contextual (maxSteps := 1000000) only [hc, go_sem, reduceCtorEq, ↓reduceIte, Nat.reduceAdd, Nat.reduceEqDiff, Nat.reduceLeDiff, Nat.reduceMul, Nat.reduceBEq, Int.reduceBEq, Int.reduceBNe, Int.reduceLT, Int.reduceLE, Int.reduceGT, Int.reduceGE, Int.reduceToNat, Int.natCast_one, Int.natCast_zero, Int.cast_ofNat_Int]
    rw [← hQ, hz, hc]
    exact ⟨trivial, Ret.flat rfl rfl⟩
  | true =>
    simp +contextual (maxSteps := 1000000) only [hc, go_sem, reduceCtorEq, ↓reduceIte, Nat.reduceAdd, Nat.reduceEqDiff, Nat.reduceLeDiff, Nat.reduceMul, Nat.reduceBEq, Int.reduceBEq, Int.reduceBNe, Int.reduceLT, Int.reduceLE, Int.reduceGT, Int.reduceGE, Int.reduceToNat, Int.natCast_one, Int.natCast_zero, Int.cast_ofNat_Int]
    rw [← hQ, hz, hc]
    exact ⟨trivial, Ret.flat rfl rfl⟩
end Go.Proofs.YtbepihadhmfklaaGreatDoor

set_option linter.unusedVariables false
set_option linter.unusedSimpArgs false
set_option maxRecDepth 100000
namespace Go.Proofs.YtbepihadhmfklaaGreatDoor
open Go Go.Ab
/-- clavier/other.Back -/
def ir_otherBack : ICode :=
 (.seq
  (.reg [⟨some 2, none, .mov (.c (.int .i64 0))⟩,
    ⟨some 3, none, .mov (.c (.int .i64 0))⟩,
    ⟨some 4, none, .mov (.c (.bool false))⟩] (some [0]))
  (.seq
   (.reg [⟨some 12, none, .mov (.t 0)⟩,
     ⟨some 13, none, .call (.c (.fn (.func 26) [] [])) [(.t 12)]⟩,
     ⟨some 11, none, .mov (.t 13)⟩,
     ⟨some 14, none, .ext (.t 11) 0⟩,
     ⟨some 15, none, .ext (.t 11) 1⟩,
     ⟨some 16, none, .ext (.t 11) 2⟩,
     ⟨some 5, none, .box 47 (.c (.agg [(.int .i64 0), (.int .u8 0), .nils, (.str []), (.int .u8 0), (.str [])]))⟩,
     ⟨none, none, .st 6 (.t 5) (.t 14)⟩,
     ⟨some 6, none, .mov (.t 15)⟩,
     ⟨some 7, none, .mov (.t 16)⟩] (some [0, 5, 6, 7]))
   (.seq
    (.seq
     (.reg [⟨some 17, none, .mov (.t 7)⟩,
       ⟨some 18, none, .bin .neq .none (.t 17) (.c (.int .i64 0))⟩,
       ⟨some 19, none, .mov (.t 18)⟩,
       ⟨some 20, some (19, false), .mov (.t 6)⟩,
       ⟨some 21, some (19, false), .mov (.t 0)⟩,
       ⟨some 22, some (19, false), .len (.t 21)⟩,
       ⟨some 23, some (19, false), .bin .neq .none (.t 20) (.t 22)⟩,
       ⟨some 24, none, .pick (.t 19) (.c (.bool true)) (.t 23)⟩,
       ⟨some 25, none, .mov (.t 24)⟩,
       ⟨some 26, some (25, false), .fa 2 (.t 5)⟩,
       ⟨some 27, some (25, false), .ld none (.t 26)⟩,
       ⟨some 28, some (25, false), .len (.t 27)⟩,
       ⟨some 29, some (25, false), .bin .neq .none (.t 28) (.c (.int .i64 3))⟩,
       ⟨some 30, none, .pick (.t 25) (.c (.bool true)) (.t 29)⟩] (some [5, 30]))
     (.cond (.t 30)
      (.seq
       (.reg [⟨some 2, none, .mov (.c (.int .i64 0))⟩,
         ⟨some 3, none, .mov (.c (.int .i64 0))⟩,
         ⟨some 4, none, .mov (.c (.bool false))⟩] (some [2, 3, 4]))
       .ret)
      .skip))
    (.seq
     (.drw [⟨⟨some 31, none, .ld (some 6) (.t 5)⟩, []⟩,
       ⟨⟨some 32, none, .call (.c (.fn (.func 47) [] [])) [(.t 31), (.c (.int .i64 1)), (.c (.int .i64 0))]⟩, [0]⟩,
       ⟨⟨some 33, none, .ld (some 6) (.t 5)⟩, []⟩,
       ⟨⟨some 34, none, .call (.c (.fn (.func 47) [] [])) [(.t 33), (.c (.int .i64 2)), (.c (.int .i64 (-1)))]⟩, [2, 1]⟩,
       ⟨⟨some 8, none, .mov (.t 32)⟩, [1, 3, 0, 1]⟩]
       [⟨some 9, none, .mov (.t 34)⟩] (some [5, 8, 9]))
     (.seq
      (.drw [⟨⟨some 35, none, .ld (some 6) (.t 5)⟩, []⟩,
        ⟨⟨some 36, none, .mov (.t 8)⟩, []⟩,
        ⟨⟨some 37, none, .mov (.t 9)⟩, []⟩,
        ⟨⟨some 38, none, .row 3 1 [(.c (.int .i64 27)), (.t 36), (.t 37)]⟩, [1, 2]⟩,
        ⟨⟨some 39, none, .call (.c (.fn (.func 41) [] [])) [(.c (.int .u8 0)), (.c (.int .u8 126)), (.t 38)]⟩, [3]⟩,
        ⟨⟨some 40, none, .call (.c (.fn (.func 48) [] [])) [(.t 35), (.t 39)]⟩, [0, 4, 4]⟩]
        [⟨some 10, none, .mov (.t 40)⟩] (some [8, 9, 10]))
      (.seq
       (.seq
        (.reg [⟨some 41, none, .mov (.t 10)⟩,
          ⟨some 42, none, .un .not (.t 41)⟩,
          ⟨some 43, none, .mov (.t 42)⟩,
          ⟨some 44, some (43, false), .mov (.t 8)⟩,
          ⟨some 45, some (43, false), .bin .lss .none (.t 44) (.c (.int .i64 2))⟩,
          ⟨some 46, none, .pick (.t 43) (.c (.bool true)) (.t 45)⟩,
          ⟨some 47, none, .mov (.t 46)⟩,
          ⟨some 48, some (47, false), .mov (.t 8)⟩,
          ⟨some 49, some (47, false), .bin .gtr .none (.t 48) (.c (.int .i64 8))⟩,
          ⟨some 50, none, .pick (.t 47) (.c (.bool true)) (.t 49)⟩,
          ⟨some 51, none, .mov (.t 50)⟩,
          ⟨some 52, some (51, false), .mov (.t 9)⟩,
          ⟨some 53, some (51, false), .bin .lss .none (.t 52) (.c (.int .i64 0))⟩,
          ⟨some 54, none, .pick (.t 51) (.c (.bool true)) (.t 53)⟩] (some [8, 9, 54]))
        (.cond (.t 54)
         (.seq
          (.reg [⟨some 2, none, .mov (.c (.int .i64 0))⟩,
            ⟨some 3, none, .mov (.c (.int .i64 0))⟩,
            ⟨some 4, none, .mov (.c (.bool false))⟩] (some [2, 3, 4]))
          .ret)
         .skip))
       (.seq
        (.reg [⟨some 55, none, .mov (.t 9)⟩,
          ⟨some 56, none, .mov (.t 8)⟩,
          ⟨some 57, none, .bin .sub .none (.t 56) (.c (.int .i64 1))⟩,
          ⟨some 2, none, .mov (.t 55)⟩,
          ⟨some 3, none, .mov (.t 57)⟩,
          ⟨some 4, none, .mov (.c (.bool true))⟩] (some [2, 3, 4]))
        .ret)))))))
theorem is_otherBack : IrOf Tryz.prog 22 58 ir_otherBack [.t 2, .t 3, .t 4] := ⟨_, Tryz.func22, rfl, by kernel_rfl, by kernel_rfl, by kernel_rfl⟩


set_option maxHeartbeats 4000000 in
theorem fs_oBack {Gl : Gh → Prop} (hst : Stays Gl) {p c : Int} {tb : Option Nm} (h2 : 2 ≤ p) (h8 : p ≤ 8) (h0 : 0 ≤ c) (h1 : c ≤ 1114111) : FS Tryz.prog Gl 22 [.sl tb 1 (bytesAV (putB (numSq 1 0 126 [27, p, c])))] [] [] (.tup [.int .i64 c, .int .i64 (p - 1), .bool true]) [] [] := by
  refine FS.args (args' := [.sl none 1 (bytesAV (putB (numSq 1 0 126 [27, p, c])))]) ?_ ⟨RepLe.anon _ _ _, trivial⟩
  have hmy : mayP (numSq 1 0 126 [27, p, c]) = 0 := may3 (by omega) (by omega) (by omega)
  obtain ⟨t1, t2, t3⟩ := take_may hmy []
  rw [List.append_nil] at t1 t2 t3
  have hlen : (putB (numSq 1 0 126 [27, p, c])).length ≤ 4000 := by
    have := bodyB_len hmy
    unfold putB
    rw [if_pos (by rfl)]
    simp only [List.length_append, List.length_cons, List.length_nil]
    omega
  refine FS.of hm hst is_otherBack (by simp) fun γ hγ hfr => ?_
  have c1 := fs_wTake (Gl := Gl) hst (b := putB (numSq 1 0 126 [27, p, c])) (tb := none) (by omega) t1 t2
  rw [t3] at c1
  have c2 := fs_wArg (Gl := Gl) hst (k := 1) (pr := 0) (fi := 126) (o := 0) (ps := [[27], [p], [c]]) (it := []) (da := []) (i := 1)
  have c3 := fs_wArg (Gl := Gl) hst (k := 1) (pr := 0) (fi := 126) (o := -1) (ps := [[27], [p], [c]]) (it := []) (da := []) (i := 2)
  have a1 : argW [[27], [p], [c]] 1 0 = p := by unfold argW; simp; omega
  have a2 : argW [[27], [p], [c]] 2 (-1) = c := by unfold argW; simp; omega
  rw [a1] at c2
  rw [a2] at c3
  have hq : numSq 1 0 126 [27, p, c] = ⟨1, 0, [[27], [p], [c]], [], 126, []⟩ := rfl
  have c4 := fun t : Option Nm => fs_NumV (Gl := Gl) hst (pr := 0) (fi := 126) (nums := [27, p, c]) (tn := t) (by simp)
  have hsz : Sq.szP ⟨1, 0, [[27], [p], [c]], [], 126, []⟩ := ⟨by simp, by simp⟩
  have c5 := fs_wSame (Gl := Gl) hst hsz hsz
  rw [decide_eq_true rfl] at c5
  have hcc : Sq.c ⟨1, 0, [[27], [p], [c]], [], 126, []⟩ = [.int .i64 1, .int .u8 0, .sl none 1 (parsAV [[27], [p], [c]]), .str [], .int .u8 126, .str []] := rfl
  have hi3 : intsAV [27, p, c] = [[.int .i64 27], [.int .i64 p], [.int .i64 c]] := rfl
  have hl3 : ((parsAV [[27], [p], [c]]).length : Int) = 3 := rfl
  have hw : IntKind.i64.wrap (p - 1) = p - 1 := by rw [IntKind.wrap_i64]; omega
  have q1 : decide (p < 2) = false := decide_eq_false (by omega)
  have q2 : decide (p > 8) = false := decide_eq_false (by omega)
  have q3 : decide (c < 0) = false := decide_eq_false (by omega)
  rw [hq, hcc] at c1
  rw [hcc] at c5
  rw [hi3] at c4
  simp only [List.map_cons, List.map_nil] at c4
  generalize parsAV [[27], [p], [c]] = rows at *
  rw [hq]
  generalize putB ⟨1, 0, [[27], [p], [c]], [], 126, []⟩ = b at *
  have q0 : ∀ x : Int, (x != x) = false := by simp
  (generalize hQ : (fun (ex : Ex) (_ _ : Nat) (s : St) => _) = Q; unfold ir_otherBack)
  simp +contextual (maxSteps := 1000000) only [go_sem, reduceCtorEq, ↓reduceIte, Nat.reduceAdd, Nat.reduceEqDiff, Nat.reduceLeDiff, Nat.reduceMul, Nat.reduceBEq, Int.reduceBEq, Int.reduceBNe, Int.reduceLT, Int.reduceLE, Int.reduceGT, Int.reduceGE, Int.reduceToNat, Int.natCast_one, Int.natCast_zero, Int.cast_ofNat_Int]
  (refine CallP.pure (c1) (fun _ => rfl) ?_; simp +contextual (maxSteps := 1000000) only [bytesAV_length', hl3, q0, go_sem, reduceCtorEq, ↓reduceIte, Nat.reduceAdd, Nat.reduceEqDiff, Nat.reduceLeDiff, Nat.reduceMul, Nat.reduceBEq, Int.reduceBEq, Int.reduceBNe, Int.reduceLT, Int.reduceLE, Int.reduceGT, Int.reduceGE, Int.reduceToNat, Int.natCast_one, Int.natCast_zero, Int.cast_ofNat_Int])
  refine DCall.new c2 ?_
  simp +contextual (maxSteps := 1000000) only [go_sem, reduceCtorEq, ↓reduceIte, Nat.reduceAdd, Nat.reduceEqDiff, Nat.reduceLeDiff, Nat.reduceMul, Nat.reduceBEq, Int.reduceBEq, Int.reduceBNe, Int.reduceLT, Int.reduceLE, Int.reduceGT, Int.reduceGE, Int.reduceToNat, Int.natCast_one, Int.natCast_zero, Int.cast_ofNat_Int]
  refine DCall.new c3 ?_
  simp +contextual (maxSteps := 1000000) only [go_sem, reduceCtorEq, ↓reduceIte, Nat.reduceAdd, Nat.reduceEqDiff, Nat.reduceLeDiff, Nat.reduceMul, Nat.reduceBEq, Int.reduceBEq, Int.reduceBNe, Int.reduceLT, Int.reduceLE, Int.reduceGT, Int.reduceGE, Int.reduceToNat, Int.natCast_one, Int.natCast_zero, Int.cast_ofNat_Int]
  refine ⟨by simp [AV.closedL, AV.closed], DCall.new (c4 _) ?_⟩
  simp +contextual (maxSteps := 1000000) only [go_sem, reduceCtorEq, ↓reduceIte, Nat.reduceAdd, Nat.reduceEqDiff, Nat.reduceLeDiff, Nat.reduceMul, Nat.reduceBEq, Int.reduceBEq, Int.reduceBNe, Int.reduceLT, Int.reduceLE, Int.reduceGT, Int.reduceGE, Int.reduceToNat, Int.natCast_one, Int.natCast_zero, Int.cast_ofNat_Int]
  refine DCall.new c5 ?_
  simp +contextual (maxSteps := 1000000) only [q1, q2, q3, hw, go_sem, reduceCtorEq, ↓reduceIte, Nat.reduceAdd, Nat.reduceEqDiff, Nat.reduceLeDiff, Nat.reduceMul, Nat.reduceBEq, Int.reduceBEq, Int.reduceBNe, Int.reduceLT, Int.reduceLE, Int.reduceGT, Int.reduceGE, Int.reduceToNat, Int.natCast_one, Int.natCast_zero, Int.cast_ofNat_Int]
  rw [← hQ]
  exact ⟨trivial, Ret.flatT rfl rfl⟩
end Go.Proofs.YtbepihadhmfklaaGreatDoor

set_option linter.unusedVariables false
set_option linter.unusedSimpArgs false
set_option maxRecDepth 100000
namespace Go.Proofs.YtbepihadhmfklaaGreatDoor
open Go Go.Ab
/-- clavier/clavierlaw12.awake -/
def ir_clavierlaw12awake : ICode :=
 (.seq
  (.reg [⟨some 0, none, .mov (.c (.bool false))⟩] (some []))
  (.seq
   (.reg [⟨some 9, none, .bld [(.bool false), (.bool false), (.bool false), (.bool false), (.bool false), (.bool false), (.bool false), (.int .i64 0), (.int .i64 0), (.int .i64 0)] [(9, 1, (.c (.int .i64 2)))]⟩,
     ⟨some 10, none, .bld [(.int .i64 0), (.int .i64 0), (.int .i64 0), (.int .i64 0), (.int .i64 0), (.str [])] [(0, 1, (.c (.int .i64 105))), (1, 1, (.c (.int .i64 4))), (2, 1, (.c (.int .i64 1)))]⟩,
     ⟨some 11, none, .call (.c (.fn (.func 20) [] [])) [(.t 9), (.t 10)]⟩,
     ⟨some 8, none, .mov (.t 11)⟩,
     ⟨some 12, none, .ext (.t 8) 0⟩,
     ⟨some 13, none, .ext (.t 8) 1⟩,
     ⟨some 1, none, .mov (.t 12)⟩,
     ⟨some 2, none, .mov (.t 13)⟩] (some [1, 2]))
   (.seq
    (.reg [⟨some 15, none, .row 5 1 [(.c (.int .u8 27)), (.c (.int .u8 91)), (.c (.int .u8 50)), (.c (.int .u8 55)), (.c (.int .u8 59)), (.c (.int .u8 53)), (.c (.int .u8 59)), (.c (.int .u8 49)), (.c (.int .u8 48)), (.c (.int .u8 53)), (.c (.int .u8 126))]⟩,
      ⟨some 16, none, .cvs (.t 15)⟩,
      ⟨some 17, none, .call (.c (.fn (.func 22) [] [])) [(.t 16)]⟩,
      ⟨some 14, none, .mov (.t 17)⟩,
      ⟨some 18, none, .ext (.t 14) 0⟩,
      ⟨some 19, none, .ext (.t 14) 1⟩,
      ⟨some 20, none, .ext (.t 14) 2⟩,
      ⟨some 3, none, .mov (.t 18)⟩,
      ⟨some 4, none, .mov (.t 19)⟩,
      ⟨some 5, none, .mov (.t 20)⟩] (some [1, 2, 3, 4, 5]))
    (.seq
     (.reg [⟨some 22, none, .bld [(.bool false), (.bool false), (.bool false), (.bool false), (.bool false), (.bool false), (.bool false), (.int .i64 0), (.int .i64 0), (.int .i64 0)] [(9, 1, (.c (.int .i64 1)))]⟩,
       ⟨some 23, none, .bld [(.int .i64 0), (.int .i64 0), (.int .i64 0), (.int .i64 0), (.int .i64 0), (.str [])] [(0, 1, (.c (.int .i64 105))), (1, 1, (.c (.int .i64 4))), (2, 1, (.c (.int .i64 1)))]⟩,
       ⟨some 24, none, .call (.c (.fn (.func 20) [] [])) [(.t 22), (.t 23)]⟩,
       ⟨some 21, none, .mov (.t 24)⟩,
       ⟨some 25, none, .ext (.t 21) 0⟩,
       ⟨some 26, none, .ext (.t 21) 1⟩,
       ⟨some 6, none, .mov (.t 25)⟩,
       ⟨some 7, none, .mov (.t 26)⟩] (some [1, 2, 3, 4, 5, 7]))
     (.seq
      (.reg [⟨some 27, none, .mov (.t 2)⟩,
        ⟨some 28, none, .mov (.t 27)⟩,
        ⟨some 29, some (28, true), .mov (.t 1)⟩,
        ⟨some 30, some (28, true), .b2s (.t 29)⟩,
        ⟨some 31, some (28, true), .bin .eql .none (.t 30) (.c (.str [27, 91, 50, 55, 59, 53, 59, 49, 48, 53, 126]))⟩,
        ⟨some 32, none, .pick (.t 28) (.t 31) (.c (.bool false))⟩,
        ⟨some 33, none, .mov (.t 32)⟩,
        ⟨some 34, some (33, true), .mov (.t 5)⟩,
        ⟨some 35, none, .pick (.t 33) (.t 34) (.c (.bool false))⟩,
        ⟨some 36, none, .mov (.t 35)⟩,
        ⟨some 37, some (36, true), .mov (.t 3)⟩,
        ⟨some 38, some (36, true), .bin .eql .none (.t 37) (.c (.int .i64 105))⟩,
        ⟨some 39, none, .pick (.t 36) (.t 38) (.c (.bool false))⟩,
        ⟨some 40, none, .mov (.t 39)⟩,
        ⟨some 41, some (40, true), .mov (.t 4)⟩,
        ⟨some 42, some (40, true), .bin .eql .none (.t 41) (.c (.int .i64 4))⟩,
        ⟨some 43, none, .pick (.t 40) (.t 42) (.c (.bool false))⟩,
        ⟨some 44, none, .mov (.t 43)⟩,
        ⟨some 45, some (44, true), .mov (.t 7)⟩,
        ⟨some 46, some (44, true), .un .not (.t 45)⟩,
        ⟨some 47, none, .pick (.t 44) (.t 46) (.c (.bool false))⟩,
        ⟨some 0, none, .mov (.t 47)⟩] (some [0]))
      .ret)))))
theorem is_clavierlaw12awake : IrOf Tryz.prog 19 48 ir_clavierlaw12awake [.t 0] := ⟨_, Tryz.func19, rfl, by kernel_rfl, by kernel_rfl, by kernel_rfl⟩

/-- clavier/clavierlaw12.OtherSame -/
def ir_clavierlaw12OtherSame : ICode :=
 (.seq
  (.reg [⟨some 2, none, .box 25 (.t 0)⟩,
    ⟨some 3, none, .box 25 (.t 1)⟩,
    ⟨some 4, none, .mov (.c (.bool false))⟩] (some [2, 3]))
  (.seq
   (.reg [⟨some 17, none, .call (.c (.fn (.func 19) [] [])) []⟩,
     ⟨some 5, none, .mov (.t 17)⟩] (some [2, 3, 5]))
   (.seq
    (.seq
     (.reg [⟨some 18, none, .ld (some 6) (.t 2)⟩,
       ⟨some 19, none, .call (.c (.fn (.func 17) [] [])) [(.t 18)]⟩,
       ⟨some 20, none, .un .not (.t 19)⟩,
       ⟨some 21, none, .mov (.t 20)⟩,
       ⟨some 22, some (21, false), .ld (some 6) (.t 3)⟩,
       ⟨some 23, some (21, false), .call (.c (.fn (.func 17) [] [])) [(.t 22)]⟩,
       ⟨some 24, some (21, false), .un .not (.t 23)⟩,
       ⟨some 25, none, .pick (.t 21) (.c (.bool true)) (.t 24)⟩] (some [2, 3, 5, 25]))
     (.cond (.t 25)
      (.seq
       (.reg [⟨some 26, none, .mov (.t 5)⟩,
         ⟨some 4, none, .mov (.t 26)⟩] (some [4]))
       .ret)
      .skip))
    (.seq
     (.reg [⟨some 27, none, .bld [(.bool false), (.bool false), (.bool false), (.bool false), (.bool false), (.bool false), (.bool false), (.int .i64 0), (.int .i64 0), (.int .i64 0)] [(9, 1, (.c (.int .i64 2)))]⟩,
       ⟨some 6, none, .box 23 (.c (.agg [(.bool false), (.bool false), (.bool false), (.bool false), (.bool false), (.bool false), (.bool false), (.int .i64 0), (.int .i64 0), (.int .i64 0)]))⟩,
       ⟨none, none, .st 10 (.t 6) (.t 27)⟩] (some [2, 3, 5, 6]))
     (.seq
      (.reg [⟨some 29, none, .ld (some 10) (.t 6)⟩,
        ⟨some 30, none, .ld (some 6) (.t 2)⟩,
        ⟨some 31, none, .call (.c (.fn (.func 20) [] [])) [(.t 29), (.t 30)]⟩,
        ⟨some 28, none, .mov (.t 31)⟩,
        ⟨some 32, none, .ext (.t 28) 0⟩,
        ⟨some 33, none, .ext (.t 28) 1⟩,
        ⟨some 7, none, .mov (.t 32)⟩,
        ⟨some 8, none, .mov (.t 33)⟩] (some [3, 5, 6, 7, 8]))
      (.seq
       (.reg [⟨some 35, none, .ld (some 10) (.t 6)⟩,
         ⟨some 36, none, .ld (some 6) (.t 3)⟩,
         ⟨some 37, none, .call (.c (.fn (.func 20) [] [])) [(.t 35), (.t 36)]⟩,
         ⟨some 34, none, .mov (.t 37)⟩,
         ⟨some 38, none, .ext (.t 34) 0⟩,
         ⟨some 39, none, .ext (.t 34) 1⟩,
         ⟨some 9, none, .mov (.t 38)⟩,
         ⟨some 10, none, .mov (.t 39)⟩] (some [5, 7, 8, 9, 10]))
       (.seq
        (.seq
         (.reg [⟨some 40, none, .mov (.t 8)⟩,
           ⟨some 41, none, .un .not (.t 40)⟩,
           ⟨some 42, none, .mov (.t 41)⟩,
           ⟨some 43, some (42, false), .mov (.t 10)⟩,
           ⟨some 44, some (42, false), .un .not (.t 43)⟩,
           ⟨some 45, none, .pick (.t 42) (.c (.bool true)) (.t 44)⟩] (some [5, 7, 9, 45]))
         (.cond (.t 45)
          (.seq
           (.reg [⟨some 46, none, .mov (.t 5)⟩,
             ⟨some 4, none, .mov (.t 46)⟩] (some [4]))
           .ret)
          .skip))
        (.seq
         (.reg [⟨some 48, none, .mov (.t 7)⟩,
           ⟨some 49, none, .call (.c (.fn (.func 22) [] [])) [(.t 48)]⟩,
           ⟨some 47, none, .mov (.t 49)⟩,
           ⟨some 50, none, .ext (.t 47) 0⟩,
           ⟨some 51, none, .ext (.t 47) 1⟩,
           ⟨some 52, none, .ext (.t 47) 2⟩,
           ⟨some 11, none, .mov (.t 50)⟩,
           ⟨some 12, none, .mov (.t 51)⟩,
           ⟨some 13, none, .mov (.t 52)⟩] (some [5, 7, 9, 11, 12]))
         (.seq
          (.reg [⟨some 54, none, .mov (.t 9)⟩,
            ⟨some 55, none, .call (.c (.fn (.func 22) [] [])) [(.t 54)]⟩,
            ⟨some 53, none, .mov (.t 55)⟩,
            ⟨some 56, none, .ext (.t 53) 0⟩,
            ⟨some 57, none, .ext (.t 53) 1⟩,
            ⟨some 58, none, .ext (.t 53) 2⟩,
            ⟨some 14, none, .mov (.t 56)⟩,
            ⟨some 15, none, .mov (.t 57)⟩,
            ⟨some 16, none, .mov (.t 58)⟩] (some [5, 7, 9, 11, 12, 14, 15]))
          (.seq
           (.reg [⟨some 59, none, .mov (.t 5)⟩,
             ⟨some 60, none, .mov (.t 59)⟩,
             ⟨some 61, some (60, true), .mov (.t 7)⟩,
             ⟨some 62, some (60, true), .b2s (.t 61)⟩,
             ⟨some 63, some (60, true), .mov (.t 9)⟩,
             ⟨some 64, some (60, true), .b2s (.t 63)⟩,
             ⟨some 65, some (60, true), .bin .eql .none (.t 62) (.t 64)⟩,
             ⟨some 66, some (60, true), .mov (.t 11)⟩,
             ⟨some 67, some (60, true), .mov (.t 14)⟩,
             ⟨some 68, some (60, true), .bin .eql .none (.t 66) (.t 67)⟩,
             ⟨some 69, some (60, true), .mov (.t 68)⟩,
             ⟨some 70, some (69, true), .mov (.t 12)⟩,
             ⟨some 71, some (69, true), .mov (.t 15)⟩,
             ⟨some 72, some (69, true), .bin .eql .none (.t 70) (.t 71)⟩,
             ⟨some 73, some (60, true), .pick (.t 69) (.t 72) (.c (.bool false))⟩,
             ⟨some 74, some (60, true), .bin .eql .bool (.t 65) (.t 73)⟩,
             ⟨some 75, none, .pick (.t 60) (.t 74) (.c (.bool false))⟩,
             ⟨some 4, none, .mov (.t 75)⟩] (some [4]))
           .ret))))))))))
theorem is_clavierlaw12OtherSame : IrOf Tryz.prog 9 76 ir_clavierlaw12OtherSame [.t 4] := ⟨_, Tryz.func9, rfl, by kernel_rfl, by kernel_rfl, by kernel_rfl⟩


def MdO : Md := ⟨false, false, false, false, false, false, false, 0, 0, 0⟩
theorem oth_a : othK 2 ⟨105, 4, 1, 0, 0, []⟩ = [27, 91, 50, 55, 59, 53, 59, 49, 48, 53, 126] ∧ isO 2 ⟨105, 4, 1, 0, 0, []⟩ = true := by decide +kernel
theorem oth_b : othK 1 ⟨105, 4, 1, 0, 0, []⟩ = [] ∧ isO 1 ⟨105, 4, 1, 0, 0, []⟩ = false := by decide +kernel
theorem oth_c : putB (numSq 1 0 126 [27, 5, 105]) = [27, 91, 50, 55, 59, 53, 59, 49, 48, 53, 126] := by decide +kernel
theorem fs_awake12 {Gl : Gh → Prop} (hst : Stays Gl) : FS Tryz.prog Gl 19 [] [] [] (.bool true) [] [] := by
  refine FS.of hm hst is_clavierlaw12awake (by simp) fun γ hγ hfr => ?_
  have c1 := fs_oKey (Gl := Gl) hst (m := { MdO with other := 2 }) (k := ⟨105, 4, 1, 0, 0, []⟩) (by simp) (by simp)
  have c2 := fs_oKey (Gl := Gl) hst (m := { MdO with other := 1 }) (k := ⟨105, 4, 1, 0, 0, []⟩) (by simp) (by simp)
  have c3 := fun t : Option Nm => fs_oBack (Gl := Gl) hst (p := 5) (c := 105) (tb := t) (by omega) (by omega) (by omega) (by omega)
  rw [oth_c] at c3
  simp only [oth_a.1, oth_a.2, kyAV, mdAV, MdO] at c1
  simp only [oth_b.1, oth_b.2, kyAV, mdAV, MdO] at c2
  (generalize hQ : (fun (ex : Ex) (_ _ : Nat) (s : St) => _) = Q; unfold ir_clavierlaw12awake)
  simp +contextual (maxSteps := 1000000) only [go_sem, reduceCtorEq, ↓reduceIte, Nat.reduceAdd, Nat.reduceEqDiff, Nat.reduceLeDiff, Nat.reduceMul, Nat.reduceBEq, Int.reduceBEq, Int.reduceBNe, Int.reduceLT, Int.reduceLE, Int.reduceGT, Int.reduceGE, Int.reduceToNat, Int.natCast_one, Int.natCast_zero, Int.cast_ofNat_Int]
  (refine CallP.pure (c1) (fun _ => rfl) ?_; simp +contextual (maxSteps := 1000000) only [go_sem, reduceCtorEq, ↓reduceIte, Nat.reduceAdd, Nat.reduceEqDiff, Nat.reduceLeDiff, Nat.reduceMul, Nat.reduceBEq, Int.reduceBEq, Int.reduceBNe, Int.reduceLT, Int.reduceLE, Int.reduceGT, Int.reduceGE, Int.reduceToNat, Int.natCast_one, Int.natCast_zero, Int.cast_ofNat_Int])
  refine ⟨⟨.inl trivial, by simp⟩, ?_⟩
  (refine CallP.pure (c3 _) (fun _ => rfl) ?_; simp +contextual (maxSteps := 1000000) only [go_sem, reduceCtorEq, ↓reduceIte, Nat.reduceAdd, Nat.reduceEqDiff, Nat.reduceLeDiff, Nat.reduceMul, Nat.reduceBEq, Int.reduceBEq, Int.reduceBNe, Int.reduceLT, Int.reduceLE, Int.reduceGT, Int.reduceGE, Int.reduceToNat, Int.natCast_one, Int.natCast_zero, Int.cast_ofNat_Int])
  (refine CallP.pure (c2) (fun _ => rfl) ?_; simp +contextual (maxSteps := 1000000) only [bb_un, bb_is, go_sem, reduceCtorEq, ↓reduceIte, Nat.reduceAdd, Nat.reduceEqDiff, Nat.reduceLeDiff, Nat.reduceMul, Nat.reduceBEq, Int.reduceBEq, Int.reduceBNe, Int.reduceLT, Int.reduceLE, Int.reduceGT, Int.reduceGE, Int.reduceToNat, Int.natCast_one, Int.natCast_zero, Int.cast_ofNat_Int])
  rw [← hQ]
  exact ⟨trivial, Ret.flat rfl rfl⟩
set_option maxHeartbeats 4000000 in
theorem fs_OtherSame {Gl : Gh → Prop} (hst : Stays Gl) {k j : Ky} (ht : k.text.length ≤ 1000000000000) (hj : j.text.length ≤ 1000000000000) : FS Tryz.prog Gl 9 [.agg (kyAV k), .agg (kyAV j)] [] [] (.bool true) [] [] := by
  refine FS.of hm hst is_clavierlaw12OtherSame (by simp) fun γ hγ hfr => ?_
  have hky : ∀ k : Ky, kyAV k = [.int .i64 k.code, .int .i64 k.mods, .int .i64 k.type, .int .i64 k.shifted, .int .i64 k.base, .str k.text] := fun _ => rfl
  have c1 := fs_rMayK (Gl := Gl) hst ht
  have c2 := fs_rMayK (Gl := Gl) hst hj
  rw [hky] at c1 c2
  simp only [hky]
  (generalize hQ : (fun (ex : Ex) (_ _ : Nat) (s : St) => _) = Q; unfold ir_clavierlaw12OtherSame)
  simp +contextual (maxSteps := 1000000) only [go_sem, reduceCtorEq, ↓reduceIte, Nat.reduceAdd, Nat.reduceEqDiff, Nat.reduceLeDiff, Nat.reduceMul, Nat.reduceBEq, Int.reduceBEq, Int.reduceBNe, Int.reduceLT, Int.reduceLE, Int.reduceGT, Int.reduceGE, Int.reduceToNat, Int.natCast_one, Int.natCast_zero, Int.cast_ofNat_Int]
  (refine CallP.pure (fs_awake12 hst) (fun _ => rfl) ?_; simp +contextual (maxSteps := 1000000) only [go_sem, reduceCtorEq, ↓reduceIte, Nat.reduceAdd, Nat.reduceEqDiff, Nat.reduceLeDiff, Nat.reduceMul, Nat.reduceBEq, Int.reduceBEq, Int.reduceBNe, Int.reduceLT, Int.reduceLE, Int.reduceGT, Int.reduceGE, Int.reduceToNat, Int.natCast_one, Int.natCast_zero, Int.cast_ofNat_Int])
  (refine CallP.pure (c1) (fun _ => rfl) ?_; simp +contextual (maxSteps := 1000000) only [go_sem, reduceCtorEq, ↓reduceIte, Nat.reduceAdd, Nat.reduceEqDiff, Nat.reduceLeDiff, Nat.reduceMul, Nat.reduceBEq, Int.reduceBEq, Int.reduceBNe, Int.reduceLT, Int.reduceLE, Int.reduceGT, Int.reduceGE, Int.reduceToNat, Int.natCast_one, Int.natCast_zero, Int.cast_ofNat_Int])
  (refine kGc_call (c2) (fun _ => rfl) (fun hgc => ?_) ?_; (focus (first | (rw [Bool.not_eq_true'] at hgc; simp only [List.map_cons, List.map_nil, List.nil_append, List.append_nil, List.cons_append, Xev_t, Xev_c, upd_app, lf_cons, lf_nil, Nat.reduceEqDiff, ↓reduceIte, hgc, Bool.false_eq_true, Bool.true_eq_false, reduceCtorEq]; done) | (simp only [List.map_cons, List.map_nil, List.nil_append, List.append_nil, List.cons_append, Xev_t, Xev_c, upd_app, lf_cons, lf_nil, Nat.reduceEqDiff, ↓reduceIte, hgc, Bool.false_eq_true, Bool.true_eq_false, reduceCtorEq]; done) | (revert hgc; simp +contextual [Xev_t, Xev_c, upd_app, lf_cons, lf_nil]; done) | simp [Xev_t, Xev_c, upd_app, lf_cons, lf_nil])); simp +contextual (maxSteps := 1000000) only [go_sem, reduceCtorEq, ↓reduceIte, Nat.reduceAdd, Nat.reduceEqDiff, Nat.reduceLeDiff, Nat.reduceMul, Nat.reduceBEq, Int.reduceBEq, Int.reduceBNe, Int.reduceLT, Int.reduceLE, Int.reduceGT, Int.reduceGE, Int.reduceToNat, Int.natCast_one, Int.natCast_zero, Int.cast_ofNat_Int])
  cases hA : (!mayK k || !mayK j) with
  | true =>
    simp +contextual (maxSteps := 1000000) only [hA, go_sem, reduceCtorEq, ↓reduceIte, Nat.reduceAdd, Nat.reduceEqDiff, Nat.reduceLeDiff, Nat.reduceMul, Nat.reduceBEq, Int.reduceBEq, Int.reduceBNe, Int.reduceLT, Int.reduceLE, Int.reduceGT, Int.reduceGE, Int.reduceToNat, Int.natCast_one, Int.natCast_zero, Int.cast_ofNat_Int]
    rw [← hQ]
    exact ⟨trivial, Ret.flat rfl rfl⟩
  | false =>
    simp only [Bool.or_eq_false_iff, Bool.not_eq_false'] at hA
    obtain ⟨hmk, hmj⟩ := hA
    have M := mayK_iff.1 hmk
    have N := mayK_iff.1 hmj
    have hm1 := M.m1
    have hn1 := N.m1
    have c3 := fs_oKey (Gl := Gl) hst (m := { MdO with other := 2 }) (k := k) (by omega) ht
    have c4 := fs_oKey (Gl := Gl) hst (m := { MdO with other := 2 }) (k := j) (by omega) hj
    simp only [hky, mdAV, MdO] at c3 c4
    simp +contextual (maxSteps := 1000000) only [hmk, hmj, go_sem, reduceCtorEq, ↓reduceIte, Nat.reduceAdd, Nat.reduceEqDiff, Nat.reduceLeDiff, Nat.reduceMul, Nat.reduceBEq, Int.reduceBEq, Int.reduceBNe, Int.reduceLT, Int.reduceLE, Int.reduceGT, Int.reduceGE, Int.reduceToNat, Int.natCast_one, Int.natCast_zero, Int.cast_ofNat_Int]
    (refine CallP.pure (c3) (fun _ => rfl) ?_; simp +contextual (maxSteps := 1000000) only [go_sem, reduceCtorEq, ↓reduceIte, Nat.reduceAdd, Nat.reduceEqDiff, Nat.reduceLeDiff, Nat.reduceMul, Nat.reduceBEq, Int.reduceBEq, Int.reduceBNe, Int.reduceLT, Int.reduceLE, Int.reduceGT, Int.reduceGE, Int.reduceToNat, Int.natCast_one, Int.natCast_zero, Int.cast_ofNat_Int])
    (refine CallP.pure (c4) (fun _ => rfl) ?_; simp +contextual (maxSteps := 1000000) only [go_sem, reduceCtorEq, ↓reduceIte, Nat.reduceAdd, Nat.reduceEqDiff, Nat.reduceLeDiff, Nat.reduceMul, Nat.reduceBEq, Int.reduceBEq, Int.reduceBNe, Int.reduceLT, Int.reduceLE, Int.reduceGT, Int.reduceGE, Int.reduceToNat, Int.natCast_one, Int.natCast_zero, Int.cast_ofNat_Int])
    cases hB : (!isO 2 k || !isO 2 j) with
    | true =>
      simp +contextual (maxSteps := 1000000) only [hB, go_sem, reduceCtorEq, ↓reduceIte, Nat.reduceAdd, Nat.reduceEqDiff, Nat.reduceLeDiff, Nat.reduceMul, Nat.reduceBEq, Int.reduceBEq, Int.reduceBNe, Int.reduceLT, Int.reduceLE, Int.reduceGT, Int.reduceGE, Int.reduceToNat, Int.natCast_one, Int.natCast_zero, Int.cast_ofNat_Int]
      rw [← hQ]
      exact ⟨trivial, Ret.flat rfl rfl⟩
    | false =>
      have hB2 := hB
      simp only [Bool.or_eq_false_iff, Bool.not_eq_false'] at hB2
      obtain ⟨o1, o2⟩ := hB2
      obtain ⟨a1, a2, a3, a4⟩ := oth_back o1
      obtain ⟨b1, b2, b3, b4⟩ := oth_back o2
      have c5 := fs_oBack (Gl := Gl) hst (p := 1 + oldK k.mods) (c := charK k) (tb := none) a1 a2 a3 a4
      have c6 := fs_oBack (Gl := Gl) hst (p := 1 + oldK j.mods) (c := charK j) (tb := none) b1 b2 b3 b4
      rw [show 1 + oldK k.mods - 1 = oldK k.mods by omega, show numSq 1 0 126 [27, 1 + oldK k.mods, charK k] = othSq k from rfl] at c5
      rw [show 1 + oldK j.mods - 1 = oldK j.mods by omega, show numSq 1 0 126 [27, 1 + oldK j.mods, charK j] = othSq j from rfl] at c6
      have e1 : othK 2 k = putB (othSq k) := if_pos o1
      have e2 : othK 2 j = putB (othSq j) := if_pos o2
      have hi := oth_inj M N
      have hlast : (decide (putB (othSq k) = putB (othSq j)) == ((charK k == charK j) && (oldK k.mods == oldK j.mods))) = true := by
        rw [beq_iff_eq, Bool.eq_iff_iff, decide_eq_true_eq, Bool.and_eq_true, beq_iff_eq, beq_iff_eq]
        exact hi
      simp +contextual (maxSteps := 1000000) only [hB, e1, e2, go_sem, reduceCtorEq, ↓reduceIte, Nat.reduceAdd, Nat.reduceEqDiff, Nat.reduceLeDiff, Nat.reduceMul, Nat.reduceBEq, Int.reduceBEq, Int.reduceBNe, Int.reduceLT, Int.reduceLE, Int.reduceGT, Int.reduceGE, Int.reduceToNat, Int.natCast_one, Int.natCast_zero, Int.cast_ofNat_Int]
      (refine CallP.pure (c5) (fun _ => rfl) ?_; simp +contextual (maxSteps := 1000000) only [go_sem, reduceCtorEq, ↓reduceIte, Nat.reduceAdd, Nat.reduceEqDiff, Nat.reduceLeDiff, Nat.reduceMul, Nat.reduceBEq, Int.reduceBEq, Int.reduceBNe, Int.reduceLT, Int.reduceLE, Int.reduceGT, Int.reduceGE, Int.reduceToNat, Int.natCast_one, Int.natCast_zero, Int.cast_ofNat_Int])
      (refine CallP.pure (c6) (fun _ => rfl) ?_; simp +contextual (maxSteps := 1000000) only [bb_un, bb_is, hlast, go_sem, reduceCtorEq, ↓reduceIte, Nat.reduceAdd, Nat.reduceEqDiff, Nat.reduceLeDiff, Nat.reduceMul, Nat.reduceBEq, Int.reduceBEq, Int.reduceBNe, Int.reduceLT, Int.reduceLE, Int.reduceGT, Int.reduceGE, Int.reduceToNat, Int.natCast_one, Int.natCast_zero, Int.cast_ofNat_Int])
      rw [← hQ]
      exact ⟨trivial, Ret.flat rfl rfl⟩
end Go.Proofs.YtbepihadhmfklaaGreatDoor

set_option linter.unusedVariables false
set_option linter.unusedSimpArgs false
set_option maxRecDepth 100000
namespace Go.Proofs.YtbepihadhmfklaaGreatDoor
open Go Go.Ab Go.WideShapes Go.RowKit
theorem seat_own : ownKnob Tryz.prog.godebug = none := by kernel_rfl
theorem seat_laidOut : laidOutB Tryz.prog = true := by kernel_rfl
section
variable {H : Type} {enc : TypeId × Value → H} {W : World} {base : Nat} {v : Value} {d : DataW H} {p : List MemPlace}
end
end Go.Proofs.YtbepihadhmfklaaGreatDoor

set_option linter.unusedVariables false
set_option maxRecDepth 100000
namespace Go.Proofs.YtbepihadhmfklaaGreatDoor
open Go Go.Ab
end Go.Proofs.YtbepihadhmfklaaGreatDoor

set_option linter.unusedVariables false
set_option maxRecDepth 100000
namespace Go.Proofs.YtbepihadhmfklaaGreatDoor
open Go Go.Ab
theorem fixW_of5 {W : World} (h : laidMetH Tryz.prog [("math/bits.deBruijn32tab", Rows.laid_math_bits_deBruijn32tab), ("math/bits.deBruijn64tab", Rows.laid_math_bits_deBruijn64tab), ("internal/strconv.uint64pow10", Rows.laid_internal_strconv_uint64pow10), ("unicode/utf8.acceptRanges", Rows.laid_unicode_utf8_acceptRanges), ("unicode/utf8.first", Rows.laid_unicode_utf8_first)] W) : FixW W := by
  rw [MakeChecks.laidMetH_plain _ _ _ (by kernel_rfl)] at h
  have h2 := laidMet.filter (fun x => x.1 == "internal/strconv.uint64pow10") h
  have h3 : laidMet Tryz.prog [("internal/strconv.uint64pow10", Lib.tabData .u64 Lib.pow10Tab)] W := h2
  have h4 := Lib.tabIs_of_head (g := 3) (t := 184) (e := 175) (n := 20) (by kernel_rfl) (by kernel_rfl) (by kernel_rfl) (by kernel_rfl) (by kernel_rfl) (by kernel_rfl) h3
  intro p hp
  obtain rfl := List.mem_singleton.1 hp
  unfold Lib.TabIs World.var? at h4
  rw [show Program.globalNamed Tryz.prog "internal/strconv.uint64pow10" = some 3 from by kernel_rfl] at h4
  simp only [Option.bind_some] at h4
  split at h4
  · rename_i cs e fr hh
    simp only [Option.some.injEq] at h4
    refine ⟨e, fr, ?_⟩
    rw [hh, h4]
    simp [Lib.pow10Tab]
  · cases h4
end Go.Proofs.YtbepihadhmfklaaGreatDoor

set_option linter.unusedVariables false
set_option linter.unusedSimpArgs false
set_option maxRecDepth 100000
namespace Go.Proofs.YtbepihadhmfklaaGreatDoor
open Go Go.Ab Go.WideShapes Go.RowKit
def zero_apiKey : Value := .agg #[.int .i64 0, .int .i64 0, .int .i64 0, .int .i64 0, .int .i64 0, .string ByteArray.empty]
section
variable {H : Type} {enc : TypeId × Value → H} {W : World} {base : Nat} {v : Value} {d : DataW H} {p : List MemPlace}
theorem key_is : structIs Tryz.prog 25 [(0, 3), (1, 3), (2, 3), (3, 3), (4, 3), (5, 9)] = true := by kernel_rfl
theorem tr_Key : TR enc Tryz.prog W 25 fun xs => ∃ k : Ky, xs = kyAV k ∧ k.text.length ≤ maxLen := by
  refine (TR.structL (Rs := [fun xs => ∃ n, xs = [.int .i64 n] ∧ IntKind.i64.min ≤ n ∧ n ≤ IntKind.i64.max, fun xs => ∃ n, xs = [.int .i64 n] ∧ IntKind.i64.min ≤ n ∧ n ≤ IntKind.i64.max, fun xs => ∃ n, xs = [.int .i64 n] ∧ IntKind.i64.min ≤ n ∧ n ≤ IntKind.i64.max, fun xs => ∃ n, xs = [.int .i64 n] ∧ IntKind.i64.min ≤ n ∧ n ≤ IntKind.i64.max, fun xs => ∃ n, xs = [.int .i64 n] ∧ IntKind.i64.min ≤ n ∧ n ≤ IntKind.i64.max, fun xs => ∃ s, xs = [.str s] ∧ s.length ≤ maxLen]) 6 key_is (by kernel_rfl) ?_).mono ?_
  · exact ⟨rfl, TR.int (by kernel_rfl), 1, by kernel_rfl, rfl, TR.int (by kernel_rfl), 1, by kernel_rfl, rfl, TR.int (by kernel_rfl), 1, by kernel_rfl, rfl, TR.int (by kernel_rfl), 1, by kernel_rfl, rfl, TR.int (by kernel_rfl), 1, by kernel_rfl, rfl, TR.str (by kernel_rfl), 1, by kernel_rfl, rfl⟩
  · rintro xs ⟨_, _, ⟨a, rfl, _⟩, ⟨_, _, ⟨b, rfl, _⟩, ⟨_, _, ⟨c, rfl, _⟩, ⟨_, _, ⟨e, rfl, _⟩, ⟨_, _, ⟨f, rfl, _⟩, ⟨_, _, ⟨t, rfl, ht⟩, h, rfl⟩, rfl⟩, rfl⟩, rfl⟩, rfl⟩, rfl⟩
    have h : _ = [] := h
    subst h
    exact ⟨⟨a, b, c, e, f, t⟩, rfl, ht⟩
theorem part_le {d : DataW H} {l : List (DataW H)} (h : d ∈ l) : Rows.uptoBulk d ≤ Rows.uptoBulkAll l := by
  induction l with
  | nil => cases h
  | cons x r ih =>
    simp only [Rows.uptoBulkAll]
    cases List.mem_cons.1 h with
    | inl e => subst e; omega
    | inr e => have := ih e; omega
/-- A text in a struct counts in its bulk. -/
theorem bulk_field {t : TypeId} {L : List (Nat × Nat)} {cs : Array Value} {s : ByteArray} {off ty : Nat} (h : structIs Tryz.prog t L = true) (hL : (off, ty) ∈ L) (hty : Tryz.prog.underlying ty = some .string) (hc : Tryz.prog.cellsOf ty = 1)
    (hs : cs.toList[off]? = some (.string s)) (hd : DataW.Trod enc Tryz.prog W 0 (fun _ => true) true t (.agg cs) d p) : s.data.toList.length + 1 ≤ Rows.uptoBulk d := by
  obtain ⟨fuel, hd⟩ := hd
  unfold structIs at h
  split at h
  · rename_i fs hu
    have := of_decide_eq_true h
    subst this
    cases fuel with
    | zero => simp [DataW.trod] at hd
    | succ fuel =>
      unfold DataW.trod at hd
      rw [hu] at hd
      simp only at hd
      split at hd
      · obtain ⟨ys, k1, k2⟩ := Option.map_eq_some_iff.1 hd
        simp only [Prod.mk.injEq] at k2
        obtain ⟨rfl, _⟩ := k2
        obtain ⟨f, hf, he⟩ := List.mem_map.1 hL
        simp only [Prod.mk.injEq] at he
        obtain ⟨rfl, rfl⟩ := he
        obtain ⟨j, hj, hfj⟩ := List.getElem_of_mem hf
        have hl := mapM_some_length k1
        have hg := mapM_some_get k1 j f (by rw [List.getElem?_eq_getElem hj, hfj])
        rw [List.getElem?_eq_getElem (by omega)] at hg
        have hcs : ((Value.agg cs).cells.toList.drop f.offset).take 1 = [.string s] := by
          show (cs.toList.drop f.offset).take 1 = _
          rw [List.getElem?_eq_some_iff] at hs
          obtain ⟨h1, h2⟩ := hs
          rw [List.drop_eq_getElem_cons h1, h2]; rfl
        rw [hc, hcs] at hg
        have hb : s.data.toList.length + 1 ≤ Rows.uptoBulk (ys[j]'(by omega)).1 := by
          cases fuel with
          | zero => simp [DataW.trod] at hg
          | succ fuel =>
            unfold DataW.trod at hg
            rw [hty] at hg
            simp only at hg
            split at hg
            · rw [← Option.some.inj hg]
              simp only [Rows.uptoBulk]
              exact Nat.le_refl _
            · cases hg
        have hm : (ys[j]'(by omega)).1 ∈ ys.map (·.1) := List.mem_map.2 ⟨_, List.getElem_mem _, rfl⟩
        have := part_le hm
        simp only [Rows.uptoBulk]
        omega
      · cases hd
  · cases h
theorem op_apiKeyB (hv : Value.okWide Tryz.prog W .any base 25 v) (hd : DataW.Trod enc Tryz.prog W 0 (fun _ => true) true 25 v d p) : ∃ k : Ky, k.text.length + 1 ≤ Rows.uptoBulk d ∧ Rep (gh0 W) (.agg (kyAV k)) v := by
  obtain ⟨cs, rfl⟩ := okWide_struct key_is hv
  obtain ⟨xs, ⟨k, rfl, h⟩, hr⟩ := tr_Key.argN hd
  refine ⟨k, ?_, hr⟩
  obtain ⟨vs, e, hl⟩ := hr
  obtain rfl : cs = vs := by cases e; rfl
  obtain ⟨x, h5, hx⟩ := RepL.get hl 5 (.str k.text) rfl
  have hx : x = .string ⟨k.text.toArray⟩ := hx
  subst hx
  have := bulk_field key_is (off := 5) (ty := 9) (by decide) (by kernel_rfl) (by kernel_rfl) h5 hd
  simpa using this
end
end Go.Proofs.YtbepihadhmfklaaGreatDoor

set_option linter.unusedVariables false
set_option linter.unusedSimpArgs false
set_option maxRecDepth 100000
namespace Go.Proofs.YtbepihadhmfklaaGreatDoor
open Go Go.Ab Go.ChangeShapes Go.WideShapes Go.ChangeAt Go.RowKit
theorem otherSame_lifted (os : Os) (started : os.Started) (H : Type) (enc : TypeId × Value → H) (F : Stop.Interp) :
    ReturnsInHanded {} Tryz.checked os 9 .any ((Rows.OpenSpec.upto Rows.otherSameSpec).preRow enc Tryz.prog Tryz.f9 Rows.otherSameUptoRow.domain false Rows.otherSameUptoRow.laid) (((Rows.OpenSpec.upto Rows.otherSameSpec).at F).post enc Tryz.prog Tryz.f9 false true false false) := by
  have hw : (DataW.whole enc Tryz.prog ((World.laidAll Tryz.prog os [("math/bits.deBruijn32tab", Rows.laid_math_bits_deBruijn32tab), ("math/bits.deBruijn64tab", Rows.laid_math_bits_deBruijn64tab), ("internal/strconv.uint64pow10", Rows.laid_internal_strconv_uint64pow10), ("unicode/utf8.acceptRanges", Rows.laid_unicode_utf8_acceptRanges), ("unicode/utf8.first", Rows.laid_unicode_utf8_first)]).forCall (fun _ _ => 0) ⟨#[], #[zero_apiKey, zero_apiKey], []⟩).memory Tryz.f9.params.toList (Rows.OpenSpec.upto Rows.otherSameSpec).vars false (#[zero_apiKey, zero_apiKey] : Array Value).toList 8).any (fun x => decide (Rows.uptoBulkAll (x.1 ++ x.2.1) ≤ 1048576)) = true := by kernel_rfl
  cases hx : DataW.whole enc Tryz.prog ((World.laidAll Tryz.prog os [("math/bits.deBruijn32tab", Rows.laid_math_bits_deBruijn32tab), ("math/bits.deBruijn64tab", Rows.laid_math_bits_deBruijn64tab), ("internal/strconv.uint64pow10", Rows.laid_internal_strconv_uint64pow10), ("unicode/utf8.acceptRanges", Rows.laid_unicode_utf8_acceptRanges), ("unicode/utf8.first", Rows.laid_unicode_utf8_first)]).forCall (fun _ _ => 0) ⟨#[], #[zero_apiKey, zero_apiKey], []⟩).memory Tryz.f9.params.toList (Rows.OpenSpec.upto Rows.otherSameSpec).vars false (#[zero_apiKey, zero_apiKey] : Array Value).toList 8 with
  | none => rw [hx] at hw; cases hw
  | some x =>
  rw [hx] at hw
  have hok : Input.okWideB Tryz.checked.prog ((World.laidAll Tryz.prog os [("math/bits.deBruijn32tab", Rows.laid_math_bits_deBruijn32tab), ("math/bits.deBruijn64tab", Rows.laid_math_bits_deBruijn64tab), ("internal/strconv.uint64pow10", Rows.laid_internal_strconv_uint64pow10), ("unicode/utf8.acceptRanges", Rows.laid_unicode_utf8_acceptRanges), ("unicode/utf8.first", Rows.laid_unicode_utf8_first)]).forCall (fun _ _ => 0) ⟨#[], #[zero_apiKey, zero_apiKey], []⟩) 9 ⟨#[], #[zero_apiKey, zero_apiKey], []⟩ = true := by kernel_rfl
  refine returnsInHanded_of_row (C := Tryz.checked) (s := (Rows.OpenSpec.upto Rows.otherSameSpec)) seat_own started (by kernel_rfl) Tryz.func9
    ⟨World.laidAll Tryz.prog os [("math/bits.deBruijn32tab", Rows.laid_math_bits_deBruijn32tab), ("math/bits.deBruijn64tab", Rows.laid_math_bits_deBruijn64tab), ("internal/strconv.uint64pow10", Rows.laid_internal_strconv_uint64pow10), ("unicode/utf8.acceptRanges", Rows.laid_unicode_utf8_acceptRanges), ("unicode/utf8.first", Rows.laid_unicode_utf8_first)], fun _ _ => 0, ⟨#[], #[zero_apiKey, zero_apiKey], []⟩, World.laidAll_os _ _ _, World.shaped_of_ZipB (by kernel_rfl) (by kernel_rfl), (Input.okWide_of_okWideB (base := 0) hok).1, (Input.okWide_of_okWideB hok).2,
      OpenSpec.preRow_of_cond 8 hx (by kernel_rfl) (fun k hk => by cases hk; exact hw) (by kernel_rfl) (by rw [show Rows.otherSameUptoRow.laid = [("math/bits.deBruijn32tab", Rows.laid_math_bits_deBruijn32tab), ("math/bits.deBruijn64tab", Rows.laid_math_bits_deBruijn64tab), ("internal/strconv.uint64pow10", Rows.laid_internal_strconv_uint64pow10), ("unicode/utf8.acceptRanges", Rows.laid_unicode_utf8_acceptRanges), ("unicode/utf8.first", Rows.laid_unicode_utf8_first)] from rfl, MakeChecks.laidMetH_plain _ _ _ (by kernel_rfl)]; exact laidMet_laidAll _ (by kernel_rfl) (by kernel_rfl)),
      by simp only [Assume.holds]; exact ⟨by simp, by simp, fun _ => Modest.zero, by simp, by simp⟩⟩ ?_
  intro W base args ds gs before hval0 hW _ hcond hreach hL _ _
  have hbulk : Rows.uptoBulkAll (ds ++ gs) ≤ 1048576 := of_decide_eq_true (hcond _ rfl)
  have hval : ∀ (j : Nat) t v, Tryz.f9.params[j]? = some t → args[j]? = some v → Value.okWide Tryz.prog W .any base t v := hval0
  have hW' := hW
  obtain ⟨p, q, hA0, hV, rfl, _, _⟩ := hW
  have hA : DataW.TrodAll enc Tryz.prog W 0 (fun _ => true) true Tryz.f9.params.toList args.toList ds p := hA0
  rw [Tryz.params9] at hA hval
  obtain ⟨v0, vs0, d0, ds0, p0, q0, hargs, rfl, rfl, h0, r0⟩ := trodAll_cons hA
  obtain ⟨v1, vs1, d1, ds1, p1, q1, rfl, rfl, rfl, h1, r1⟩ := trodAll_cons r0
  obtain ⟨rfl, rfl, rfl⟩ := trodAll_nil r1
  obtain rfl : args = #[v0, v1] := by cases args; simp_all
  obtain ⟨rfl, rfl⟩ := trodVars_none hV
  have lt0 : ∀ x ∈ p0, x.block < W.heap.size := by obtain ⟨m, hm⟩ := h0; exact DataW.trod_lt m _ _ _ hm
  obtain ⟨x0, c0, e0⟩ := op_apiKeyB (hval 0 25 v0 rfl rfl) h0
  have hb0 : Rows.uptoBulk d0 ≤ 1048576 := Nat.le_trans (part_le (by simp)) hbulk
  have lt1 : ∀ x ∈ p1, x.block < W.heap.size := by obtain ⟨m, hm⟩ := h1; exact DataW.trod_lt m _ _ _ hm
  obtain ⟨x1, c1, e1⟩ := op_apiKeyB (hval 1 25 v1 rfl rfl) h1
  have hb1 : Rows.uptoBulk d1 ≤ 1048576 := Nat.le_trans (part_le (by simp)) hbulk
  clear hA0 hval0
  refine ((fs_OtherSame (Gl := fun _ => True) (fun _ _ _ _ => trivial) (by omega) (by omega)).row (fixW_of5 hL) trivial ⟨_, _, rfl, e0, ⟨_, _, rfl, e1, rfl⟩⟩).mono fun e W' ⟨v, g', he, hr, bel⟩ => ?_
  obtain rfl : v = .bool true := hr
  subst he
  exact ⟨_, rfl, _, _, _, [], _, [], hW', trodAll_mk1 (shut_bool (show Tryz.prog.underlying 4 = some .bool by kernel_rfl) _), (trodAll_cons_mk (Below.trod seat_laidOut (by kernel_rfl) (of_decide_eq_true (by kernel_rfl)) h0 bel lt0) (trodAll_cons_mk (Below.trod seat_laidOut (by kernel_rfl) (of_decide_eq_true (by kernel_rfl)) h1 bel lt1) trodAll_mk0)), rfl, bel.frame _, fun h => by cases h⟩
theorem otherSame_holds : Rows.OtherSameUptoSaid :=
  OpenClaim.holds_of_cond 9 Tryz.f9 rfl rfl rfl rfl rfl rfl rfl ⟨rfl, rfl, rfl, rfl, rfl⟩ rfl rfl rfl rfl rfl (by kernel_rfl) Tryz.func9 (by kernel_rfl)
    (of_decide_eq_true (by kernel_rfl)) (by unfold Func.isWrapper; first | (rw [if_pos (by decide +kernel)]; kernel_rfl) | (rw [if_neg (by decide +kernel)]; exact ⟨rfl, rfl⟩))
    (fun os started H enc _ F => by rw [OpenClaim.pre_eq_preRow]; exact otherSame_lifted os started H enc F)
theorem otherSame_card : Rows.OtherSameUptoCardSaid :=
  Claim7.holds_tied_plain_at .later [] [.data, .data, .data, .data, .pinned] true (true, "798a7f6d89e2fbcbaaa72b0a22000f9d7fe649e4bc8b0faaeb42ca29a5786512") false otherSame_holds (fun _ h => by cases h) (by kernel_rfl) (fun _ h => by cases h) otherSameUpto_row_tie rfl ⟨rfl, rfl⟩ (by kernel_rfl) rfl
    (fun f fn hf hfn => by
      obtain rfl : f = 9 := Option.some.inj ((show Tryz.prog.funcNamed "clavier/clavierlaw12.OtherSame" = some 9 by kernel_rfl).symm.trans hf) |>.symm
      obtain rfl : fn = Tryz.f9 := (Option.some.inj (Tryz.func9.symm.trans hfn)).symm
      exact ⟨by kernel_rfl, fun j t ht => by
        rw [Tryz.params9] at ht
        have hm : t ∈ ([25, 25] : List Nat) := by simpa using Array.mem_of_getElem? ht
        have hall : (([25, 25] : List Nat).all fun u => !Tryz.prog.wantsStandIn u) = true := by kernel_rfl
        exact (show Tryz.prog.wantsStandIn t = false by simpa using List.all_eq_true.1 hall t hm)⟩)
    (by kernel_rfl)
#print axioms otherSame_card
end Go.Proofs.YtbepihadhmfklaaGreatDoor

