/- Part 1 of 3 of a proof: the given statement HostTells, whatever the input that its row lets in. Conditions: those of the given row and card alone. -/
import Derived.Test.YtgdgfefojfgpaaaDoorChecked
import Derived.Test.YtgdgfefojfgpaaaDoorAb12
import Derived.Laws.RangeAny
import Derived.Lib.RuneCount
import Derived.Test.YtgdgfefojfgpaaaDoorShelf
/- The data that the program handles, as values. -/
set_option linter.unusedVariables false
set_option linter.unusedSimpArgs false
namespace Go.Proofs.YtgdgfefojfgpaaaDoor
open Go Go.Ab
theorem hm : Tryd.prog.follows .mixedOrders = true := by kernel_rfl
def intsAV (l : List Int) : List (List AV) := l.map fun n => [.int .i64 n]
theorem intsAV_length (l : List Int) : (intsAV l).length = l.length := by simp [intsAV]
theorem intsAV_get {l : List Int} {i : Nat} (h : i < l.length) : (intsAV l).getD i [] = [.int .i64 l[i]] := by
  rw [List.getD_eq_getElem?_getD]; simp [intsAV, h]
/-- A slice of numbers, of parameters. -/
def intsV (l : List Int) : AV := .sl none 1 (intsAV l)
def parsAV (l : List (List Int)) : List (List AV) := l.map fun p => [intsV p]
def parsV (l : List (List Int)) : AV := .sl none 1 (parsAV l)
theorem parsAV_length (l : List (List Int)) : (parsAV l).length = l.length := by simp [parsAV]
theorem parsAV_get {l : List (List Int)} {i : Nat} (h : i < l.length) : (parsAV l).getD i [] = [intsV l[i]] := by
  rw [List.getD_eq_getElem?_getD]; simp [parsAV, h]
theorem bytesAV_length' (l : List UInt8) : (bytesAV l).length = l.length := by simp [bytesAV]
/-- A control sequence. -/
structure Sq where
  k : Int
  pr : Int
  ps : List (List Int)
  it : List UInt8
  fi : Int
  da : List UInt8
  deriving DecidableEq
def Sq.c (s : Sq) : List AV := [.int .i64 s.k, .int .u8 s.pr, parsV s.ps, .str s.it, .int .u8 s.fi, .str s.da]
theorem c_intsV (l : List Int) : (intsV l).cells = [intsV l] := rfl
theorem o_intsV (l : List Int) : (intsV l).one = true := rfl
theorem c_parsV (l : List (List Int)) : (parsV l).cells = [parsV l] := rfl
theorem o_parsV (l : List (List Int)) : (parsV l).one = true := rfl
theorem s_intsV (l : List Int) : (intsV l).strip = intsV l := rfl
theorem s_parsV (l : List (List Int)) : (parsV l).strip = parsV l := rfl
theorem cl_intsV (l : List Int) : (intsV l).closed = true := rfl
theorem cl_parsV (l : List (List Int)) : (parsV l).closed = true := rfl
attribute [go_sem] c_intsV o_intsV c_parsV o_parsV s_intsV s_parsV cl_intsV cl_parsV
/-- A slice with a token, or nil. -/
def sv (t : Option Nm) (sz : Nat) (rows : List (List AV)) : AV :=
  match t with
  | none => .nils
  | some t => .sl (some t) sz rows
theorem sv_one {t : Option Nm} {sz : Nat} {rows : List (List AV)} : (sv t sz rows).one = true := by cases t <;> rfl
theorem sv_cells {t : Option Nm} {sz : Nat} {rows : List (List AV)} : (sv t sz rows).cells = [sv t sz rows] := by cases t <;> rfl
theorem sv_none {sz : Nat} {rows : List (List AV)} : sv none sz rows = .nils := rfl
theorem sv_some {nm : Nm} {sz : Nat} {rows : List (List AV)} : sv (some nm) sz rows = .sl (some nm) sz rows := rfl
attribute [go_sem] sv_one sv_cells sv_none sv_some
end Go.Proofs.YtgdgfefojfgpaaaDoor

/- Numbers as texts: the reference's Text, walked. -/
set_option linter.unusedVariables false
set_option linter.unusedSimpArgs false
set_option maxRecDepth 100000
namespace Go.Proofs.YtgdgfefojfgpaaaDoor
open Go Go.Ab
/-- clavier/clavierref01.Text -/
def ir_clavierref01Text : ICode :=
 (.seq
  (.reg [⟨some 2, none, .mov (.c (.str []))⟩] (some [0]))
  (.seq
   (.seq
    (.reg [⟨some 3, none, .mov (.t 0)⟩,
      ⟨some 4, none, .bin .lss .none (.t 3) (.c (.int .i64 0))⟩] (some [0, 4]))
    (.cond (.t 4)
     (.seq
      (.reg [⟨some 2, none, .mov (.c (.str []))⟩] (some [2]))
      .ret)
     .skip))
   (.seq
    (.seq
     (.reg [⟨some 5, none, .mov (.t 0)⟩,
       ⟨some 6, none, .bin .lss .none (.t 5) (.c (.int .i64 10))⟩] (some [0, 6]))
     (.cond (.t 6)
      (.seq
       (.reg [⟨some 7, none, .mov (.t 0)⟩,
         ⟨some 8, none, .bin .add .none (.c (.int .i64 48)) (.t 7)⟩,
         ⟨some 9, none, .cvi .u8 (.t 8)⟩,
         ⟨some 10, none, .row 5 1 [(.t 9)]⟩,
         ⟨some 11, none, .b2s (.t 10)⟩,
         ⟨some 2, none, .mov (.t 11)⟩] (some [2]))
       .ret)
      .skip))
    (.seq
     (.drw [⟨⟨some 12, none, .mov (.t 0)⟩, []⟩,
       ⟨⟨some 13, none, .bin .quo .none (.t 12) (.c (.int .i64 10))⟩, [0]⟩,
       ⟨⟨some 14, none, .call (.c (.fn (.func 26) [] [])) [(.t 13)]⟩, [1]⟩,
       ⟨⟨some 15, none, .mov (.t 0)⟩, []⟩,
       ⟨⟨some 16, none, .bin .rem .none (.t 15) (.c (.int .i64 10))⟩, [3]⟩,
       ⟨⟨some 17, none, .bin .add .none (.c (.int .i64 48)) (.t 16)⟩, [4]⟩,
       ⟨⟨some 18, none, .cvi .u8 (.t 17)⟩, [5]⟩,
       ⟨⟨some 19, none, .row 5 1 [(.t 18)]⟩, [6]⟩,
       ⟨⟨some 20, none, .b2s (.t 19)⟩, [7]⟩,
       ⟨⟨some 21, none, .bin .add .none (.t 14) (.t 20)⟩, [2, 8]⟩]
       [⟨some 2, none, .mov (.t 21)⟩] (some [2]))
     .ret))))
theorem is_clavierref01Text : IrOf Tryd.prog 26 22 ir_clavierref01Text [.t 2] := ⟨_, Tryd.func26, rfl, by kernel_rfl, by kernel_rfl, by kernel_rfl⟩


/-- A number in figures. -/
def decB (n : Nat) : List UInt8 := if n < 10 then [UInt8.ofNat (48 + n)] else decB (n / 10) ++ [UInt8.ofNat (48 + n % 10)]
termination_by n
decreasing_by omega
def textZ (n : Int) : List UInt8 := if n < 0 then [] else decB n.toNat
theorem textZ_nat (k : Nat) : textZ (k : Int) = decB k := by rw [textZ, if_neg (by omega), Int.toNat_natCast]
theorem decB_len : ∀ n : Nat, (decB n).length ≤ n + 1 := by
  intro n
  induction n using Nat.strongRecOn with
  | ind n ih =>
    rw [decB]
    split
    · simp
    · have := ih (n / 10) (by omega)
      simp; omega
theorem decB_len20 {n : Nat} (h : n < 10000000000000000000) : (decB n).length ≤ 19 := by
  have key : ∀ (k n : Nat), n < 10 ^ (k + 1) → (decB n).length ≤ k + 1 := by
    intro k
    induction k with
    | zero => intro n h; rw [decB, if_pos (by omega)]; simp
    | succ k ih =>
      intro n h
      rw [decB]
      split
      · simp
      · have := ih (n / 10) (by rw [Nat.pow_succ] at h; omega)
        simp; omega
  exact key 18 n h
theorem u8wrap {n : Nat} (h : n < 256) : IntKind.u8.wrap (n : Int) = ((UInt8.ofNat n).toNat : Int) := by
  rw [UInt8.toNat_ofNat', Nat.mod_eq_of_lt (by omega), IntKind.wrap_u8]; omega
theorem isByte_one (c : UInt8) : (∀ r ∈ [[AV.int .u8 (c.toNat : Int)]], isByte r) = True := by
  simp only [List.mem_singleton, forall_eq, isByte_c]
theorem unbyte_c (c : UInt8) : [[AV.int .u8 (c.toNat : Int)]].map unbyte = [c] := by
  simp [unbyte]
set_option maxHeartbeats 1000000 in
theorem fs_rText {Gl : Gh → Prop} (hst : Stays Gl) : ∀ {n : Int}, n < 9223372036854775808 → FS Tryd.prog Gl 26 [.int .i64 n] [] [] (.str (textZ n)) [] [] := by
  have key : ∀ (m : Nat) {n : Int}, n.toNat = m → n < 9223372036854775808 → FS Tryd.prog Gl 26 [.int .i64 n] [] [] (.str (textZ n)) [] [] := by
    intro m
    induction m using Nat.strongRecOn with
    | ind m ih =>
      intro n hm2 hn
      refine FS.of hm hst is_clavierref01Text (by simp) fun γ hγ hfr => ?_
      (generalize hQ : (fun (ex : Ex) (_ _ : Nat) (s : St) => _) = Q; unfold ir_clavierref01Text)
      simp +contextual (maxSteps := 1000000) only [go_sem, reduceCtorEq, ↓reduceIte, Nat.reduceAdd, Nat.reduceEqDiff, Nat.reduceLeDiff, Nat.reduceMul, Nat.reduceBEq, Int.reduceBEq, Int.reduceBNe, Int.reduceLT, Int.reduceLE, Int.reduceGT, Int.reduceGE, Int.reduceToNat, Int.natCast_one, Int.natCast_zero, Int.cast_ofNat_Int]
      refine kCond_split (fun h => ?_) (fun h => ?_)
      · simp +contextual (maxSteps := 1000000) only [go_sem, reduceCtorEq, ↓reduceIte, Nat.reduceAdd, Nat.reduceEqDiff, Nat.reduceLeDiff, Nat.reduceMul, Nat.reduceBEq, Int.reduceBEq, Int.reduceBNe, Int.reduceLT, Int.reduceLE, Int.reduceGT, Int.reduceGE, Int.reduceToNat, Int.natCast_one, Int.natCast_zero, Int.cast_ofNat_Int]
        rw [← hQ]
        refine ⟨trivial, Ret.flat ?_ rfl⟩
        rw [textZ, if_pos (by simpa using h)]; rfl
      · have hn0 : 0 ≤ n := by simpa using h
        obtain ⟨k, rfl⟩ := Int.eq_ofNat_of_zero_le hn0
        have hk : k = m := by simpa using hm2
        subst hk
        have ht : textZ (k : Int) = decB k := textZ_nat k
        rw [ht] at hQ
        simp +contextual (maxSteps := 1000000) only [go_sem, reduceCtorEq, ↓reduceIte, Nat.reduceAdd, Nat.reduceEqDiff, Nat.reduceLeDiff, Nat.reduceMul, Nat.reduceBEq, Int.reduceBEq, Int.reduceBNe, Int.reduceLT, Int.reduceLE, Int.reduceGT, Int.reduceGE, Int.reduceToNat, Int.natCast_one, Int.natCast_zero, Int.cast_ofNat_Int]
        refine kCond_split (fun h => ?_) (fun h => ?_)
        · have hk10 : k < 10 := by simp at h; omega
          have hw : IntKind.u8.wrap (IntKind.i64.wrap (48 + (k : Int))) = ((UInt8.ofNat (48 + k)).toNat : Int) := by
            exact (congrArg IntKind.u8.wrap (by rw [IntKind.wrap_i64]; omega)).trans (u8wrap (by omega))
          simp +contextual (maxSteps := 1000000) only [hw, isByte_one, unbyte_c, go_sem, reduceCtorEq, ↓reduceIte, Nat.reduceAdd, Nat.reduceEqDiff, Nat.reduceLeDiff, Nat.reduceMul, Nat.reduceBEq, Int.reduceBEq, Int.reduceBNe, Int.reduceLT, Int.reduceLE, Int.reduceGT, Int.reduceGE, Int.reduceToNat, Int.natCast_one, Int.natCast_zero, Int.cast_ofNat_Int]
          rw [← hQ]
          refine ⟨trivial, Ret.flat ?_ rfl⟩
          rw [decB, if_pos hk10]; rfl
        · have hk10 : 10 ≤ k := by simp at h; omega
          have hq : IntKind.i64.wrap ((k : Int).tdiv 10) = ((k / 10 : Nat) : Int) := by
            rw [IntKind.wrap_i64, show ((k : Int).tdiv 10) = ((k / 10 : Nat) : Int) from (Int.ofNat_tdiv k 10).symm]; omega
          have hr : IntKind.u8.wrap (IntKind.i64.wrap (48 + (k : Int).tmod 10)) = ((UInt8.ofNat (48 + k % 10)).toNat : Int) := by
            have h1 : ((k : Int).tmod 10) = ((k % 10 : Nat) : Int) := (Int.ofNat_tmod k 10).symm
            exact (congrArg IntKind.u8.wrap (by rw [h1, IntKind.wrap_i64]; omega)).trans (u8wrap (by omega))
          have hd : textZ ((k / 10 : Nat) : Int) = decB (k / 10) := textZ_nat _
          have he : decB k = decB (k / 10) ++ [UInt8.ofNat (48 + k % 10)] := by rw [decB, if_neg (by omega)]
          have c1 := ih (k / 10) (by omega) (n := ((k / 10 : Nat) : Int)) (Int.toNat_natCast _) (by omega)
          rw [hd] at c1
          have hl := decB_len20 (n := k / 10) (by omega)
          simp +contextual (maxSteps := 1000000) only [hq, go_sem, reduceCtorEq, ↓reduceIte, Nat.reduceAdd, Nat.reduceEqDiff, Nat.reduceLeDiff, Nat.reduceMul, Nat.reduceBEq, Int.reduceBEq, Int.reduceBNe, Int.reduceLT, Int.reduceLE, Int.reduceGT, Int.reduceGE, Int.reduceToNat, Int.natCast_one, Int.natCast_zero, Int.cast_ofNat_Int]
          refine ⟨by decide, DCall.new c1 ?_⟩
          simp +contextual (maxSteps := 1000000) only [hr, isByte_one, unbyte_c, go_sem, reduceCtorEq, ↓reduceIte, Nat.reduceAdd, Nat.reduceEqDiff, Nat.reduceLeDiff, Nat.reduceMul, Nat.reduceBEq, Int.reduceBEq, Int.reduceBNe, Int.reduceLT, Int.reduceLE, Int.reduceGT, Int.reduceGE, Int.reduceToNat, Int.natCast_one, Int.natCast_zero, Int.cast_ofNat_Int]
          refine ⟨by decide, by omega, ?_⟩
          rw [← hQ]
          refine ⟨trivial, Ret.flat ?_ rfl⟩
          rw [he]; rfl
  exact fun {n} hn => key _ rfl hn
end Go.Proofs.YtgdgfefojfgpaaaDoor

/- The reference's functions of layer 3, walked. -/
set_option linter.unusedVariables false
set_option linter.unusedSimpArgs false
set_option maxRecDepth 100000
namespace Go.Proofs.YtgdgfefojfgpaaaDoor
open Go Go.Ab
/-- clavier/clavierref03.within -/
def ir_clavierref03within : ICode :=
 (.seq
  (.reg [⟨some 6, none, .mov (.c (.bool false))⟩] (some [0, 1, 2]))
  (.seq
   (.seq
    (.reg [⟨some 7, none, .mov (.c (.int .i64 0))⟩] (some [0, 1, 2, 7]))
    (.blk 0
     (.loop
      (.seq
       (.seq
        (.reg [⟨some 8, none, .mov (.t 7)⟩,
          ⟨some 9, none, .mov (.t 0)⟩,
          ⟨some 10, none, .lns (.t 9)⟩,
          ⟨some 11, none, .bin .lss .none (.t 8) (.t 10)⟩] (some [0, 1, 2, 7, 11]))
        (.cond (.t 11)
         .skip
         (.exit 0)))
       (.seq
        (.blk 1
         (.seq
          (.reg [⟨some 14, none, .mov (.t 0)⟩,
            ⟨some 15, none, .mov (.t 7)⟩,
            ⟨some 16, none, .ixs (.t 14) (.t 15)⟩,
            ⟨some 17, none, .mov (.t 1)⟩,
            ⟨some 18, none, .bin .lss .none (.t 16) (.t 17)⟩,
            ⟨some 19, none, .mov (.t 18)⟩,
            ⟨some 20, some (19, false), .mov (.t 0)⟩,
            ⟨some 21, some (19, false), .mov (.t 7)⟩,
            ⟨some 22, some (19, false), .ixs (.t 20) (.t 21)⟩,
            ⟨some 23, some (19, false), .mov (.t 2)⟩,
            ⟨some 24, some (19, false), .bin .gtr .none (.t 22) (.t 23)⟩,
            ⟨some 25, none, .pick (.t 19) (.c (.bool true)) (.t 24)⟩] (some [0, 1, 2, 7, 25]))
          (.cond (.t 25)
           (.seq
            (.reg [⟨some 6, none, .mov (.c (.bool false))⟩] (some [6]))
            .ret)
           .skip)))
        (.reg [⟨some 12, none, .mov (.t 7)⟩,
          ⟨some 13, none, .bin .add .none (.t 12) (.c (.int .i64 1))⟩,
          ⟨some 7, none, .mov (.t 13)⟩] (some [0, 1, 2, 7])))))))
   (.seq
    (.reg [⟨some 6, none, .mov (.c (.bool true))⟩] (some [6]))
    .ret)))
theorem is_clavierref03within : IrOf Tryd.prog 23 26 ir_clavierref03within [.t 6] := ⟨_, Tryd.func23, rfl, by kernel_rfl, by kernel_rfl, by kernel_rfl⟩


theorem fs_within {Gl : Gh → Prop} (hst : Stays Gl) {s : List UInt8} {x y : Int} (hl : s.length < 9223372036854775808) : FS Tryd.prog Gl 23 [.str s, .int .u8 x, .int .u8 y] [] [] (.bool (s.all fun c => decide (x ≤ c.toNat) && decide ((c.toNat : Int) ≤ y))) [] [] := by
  refine FS.of hm hst is_clavierref03within (by simp) fun γ hγ hfr => ?_
  (generalize hQ : (fun (ex : Ex) (_ _ : Nat) (s : St) => _) = Q; unfold ir_clavierref03within)
  simp +contextual (maxSteps := 1000000) only [go_sem, reduceCtorEq, ↓reduceIte, Nat.reduceAdd, Nat.reduceEqDiff, Nat.reduceLeDiff, Nat.reduceMul, Nat.reduceBEq, Int.reduceBEq, Int.reduceBNe, Int.reduceLT, Int.reduceLE, Int.reduceGT, Int.reduceGE, Int.reduceToNat, Int.natCast_one, Int.natCast_zero, Int.cast_ofNat_Int]
  refine kLoop_ix (fun i : Nat => ⟨lf [(0, .str s), (1, .int .u8 x), (2, .int .u8 y), (7, .int .i64 i)], [], fun x => x ∈ []⟩) (fun i => i ≤ s.length ∧ (s.all fun c => decide (x ≤ c.toNat) && decide ((c.toNat : Int) ≤ y)) = ((s.drop i).all fun c => decide (x ≤ c.toNat) && decide ((c.toNat : Int) ≤ y))) (fun i => s.length - i) 0 0 (Wk.same ?_) (by simp) ?_
  · (simp only [lfOK, upd, initF]; repeat' first | exact AVle.refl _ _ | exact trivial | refine And.intro ?_ ?_ | exact AVle.int (by simp only [IntKind.wrap_i64]; omega))
  · rintro γ' i hf ⟨hi, hinv⟩
    generalize hQ' : kIt _ _ _ _ _ = Q'
    by_cases hlt : i < s.length
    · have hd : decide ((i : Int) < (s.length : Int)) = true := by simp; omega
      have hg0 : s.getD (i : Int).toNat 0 = s[i] := by rw [Int.toNat_natCast, List.getD_eq_getElem?_getD, List.getElem?_eq_getElem hlt]; rfl
      have hdrop : s.drop i = s[i] :: s.drop (i + 1) := List.drop_eq_getElem_cons hlt
      rw [hdrop, List.all_cons] at hinv
      have hor : (decide (((s[i]).toNat : Int) < x) || decide (((s[i]).toNat : Int) > y)) = !(decide (x ≤ (s[i]).toNat) && decide (((s[i]).toNat : Int) ≤ y)) := by
        rw [Bool.eq_iff_iff]; simp
      generalize (decide (x ≤ (s[i]).toNat) && decide (((s[i]).toNat : Int) ≤ y)) = q at hor hinv
      (simp +contextual (maxSteps := 1000000) only [hd, hg0, go_sem, reduceCtorEq, ↓reduceIte, Nat.reduceAdd, Nat.reduceEqDiff, Nat.reduceLeDiff, Nat.reduceMul, Nat.reduceBEq, Int.reduceBEq, Int.reduceBNe, Int.reduceLT, Int.reduceLE, Int.reduceGT, Int.reduceGE, Int.reduceToNat, Int.natCast_one, Int.natCast_zero, Int.cast_ofNat_Int]; repeat' first | ((first | refine kCond_split (fun hg => ?_) (fun hg => ?_) | refine kGc_split (fun hg => ?_) (fun hg => ?_) | refine kPreG_split (fun hg => ?_) (fun hg => ?_)) <;> (try rw [hg]) <;> simp +contextual (maxSteps := 1000000) only [hd, hg0, go_sem, reduceCtorEq, ↓reduceIte, Nat.reduceAdd, Nat.reduceEqDiff, Nat.reduceLeDiff, Nat.reduceMul, Nat.reduceBEq, Int.reduceBEq, Int.reduceBNe, Int.reduceLT, Int.reduceLE, Int.reduceGT, Int.reduceGE, Int.reduceToNat, Int.natCast_one, Int.natCast_zero, Int.cast_ofNat_Int]) | refine And.intro (by omega) ?_)
      all_goals rw [← hQ']; simp only [w_kIt_n, w_kIt_e, w_kIt_r, w_kBlk_n, w_kBlk_e, w_kBlk_r, w_kSeq_n, w_kSeq_e, w_kSeq_r, ↓reduceIte]
      · have hq : q = false := by rw [hor] at hg; simpa using hg
        rw [← hQ, hinv, hq]
        exact ⟨trivial, Ret.flat rfl rfl⟩
      · have hq : q = true := by rw [hor] at hg; simpa using hg
        refine ⟨0, i + 1, Wk.same ?_, ⟨by omega, ?_⟩, by omega⟩
        · repeat' first | exact AVle.refl _ _ | exact trivial | refine And.intro ?_ ?_ | exact AVle.int (by simp only [IntKind.wrap_i64]; omega)
        · rw [hinv, hq, Bool.true_and]
    · have hd : decide ((i : Int) < (s.length : Int)) = false := by simp; omega
      simp +contextual (maxSteps := 1000000) only [hd, go_sem, reduceCtorEq, ↓reduceIte, Nat.reduceAdd, Nat.reduceEqDiff, Nat.reduceLeDiff, Nat.reduceMul, Nat.reduceBEq, Int.reduceBEq, Int.reduceBNe, Int.reduceLT, Int.reduceLE, Int.reduceGT, Int.reduceGE, Int.reduceToNat, Int.natCast_one, Int.natCast_zero, Int.cast_ofNat_Int]
      rw [← hQ']
      simp only [w_kIt_e, w_kBlk_e, ↓reduceIte]
      simp +contextual (maxSteps := 1000000) only [go_sem, reduceCtorEq, ↓reduceIte, Nat.reduceAdd, Nat.reduceEqDiff, Nat.reduceLeDiff, Nat.reduceMul, Nat.reduceBEq, Int.reduceBEq, Int.reduceBNe, Int.reduceLT, Int.reduceLE, Int.reduceGT, Int.reduceGE, Int.reduceToNat, Int.natCast_one, Int.natCast_zero, Int.cast_ofNat_Int]
      rw [List.drop_of_length_le (by omega)] at hinv
      rw [← hQ, hinv]
      exact ⟨trivial, Ret.flat rfl rfl⟩
end Go.Proofs.YtgdgfefojfgpaaaDoor

/- The library's strings.IndexFunc and ContainsFunc, walked with any function. -/
set_option linter.unusedVariables false
set_option linter.unusedSimpArgs false
set_option maxRecDepth 100000
namespace Go.Proofs.YtgdgfefojfgpaaaDoor
open Go Go.Ab
/-- strings.indexFunc -/
def ir_stringsindexFunc : ICode :=
 (.seq
  (.reg [⟨some 6, none, .mov (.c (.int .i64 0))⟩] (some [0, 1, 2]))
  (.seq
   (.seq
    (.reg [⟨some 9, none, .mov (.t 0)⟩,
      ⟨some 10, none, .rng (.t 9)⟩] (some [1, 2, 10]))
    (.blk 0
     (.loop
      (.seq
       (.reg [⟨some 11, none, .nxt (.t 10)⟩,
         ⟨some 12, none, .ext (.t 11) 0⟩] (some [1, 2, 10, 11, 12]))
       (.seq
        (.cond (.t 12)
         .skip
         (.exit 0))
        (.blk 1
         (.seq
          (.reg [⟨some 13, none, .ext (.t 11) 1⟩,
            ⟨some 14, none, .ext (.t 11) 2⟩,
            ⟨some 7, none, .mov (.t 13)⟩,
            ⟨some 8, none, .mov (.t 14)⟩] (some [1, 2, 7, 8, 10]))
          (.seq
           (.reg [⟨some 15, none, .mov (.t 1)⟩,
             ⟨some 16, none, .mov (.t 8)⟩,
             ⟨some 17, none, .call (.t 15) [(.t 16)]⟩,
             ⟨some 18, none, .mov (.t 2)⟩,
             ⟨some 19, none, .bin .eql .bool (.t 17) (.t 18)⟩] (some [1, 2, 7, 10, 19]))
           (.cond (.t 19)
            (.seq
             (.reg [⟨some 20, none, .mov (.t 7)⟩,
               ⟨some 6, none, .mov (.t 20)⟩] (some [6]))
             .ret)
            .skip)))))))))
   (.seq
    (.reg [⟨some 6, none, .mov (.c (.int .i64 (-1)))⟩] (some [6]))
    .ret)))
theorem is_stringsindexFunc : IrOf Tryd.prog 63 21 ir_stringsindexFunc [.t 6] := ⟨_, Tryd.func63, rfl, by kernel_rfl, by kernel_rfl, by kernel_rfl⟩

/-- strings.IndexFunc -/
def ir_stringsIndexFunc : ICode :=
 (.seq
  (.reg [⟨some 4, none, .mov (.c (.int .i64 0))⟩] (some [0, 1]))
  (.seq
   (.reg [⟨some 5, none, .mov (.t 0)⟩,
     ⟨some 6, none, .mov (.t 1)⟩,
     ⟨some 7, none, .call (.c (.fn (.func 63) [] [])) [(.t 5), (.t 6), (.c (.bool true))]⟩,
     ⟨some 4, none, .mov (.t 7)⟩] (some [4]))
   .ret))
theorem is_stringsIndexFunc : IrOf Tryd.prog 59 8 ir_stringsIndexFunc [.t 4] := ⟨_, Tryd.func59, rfl, by kernel_rfl, by kernel_rfl, by kernel_rfl⟩

/-- strings.ContainsFunc -/
def ir_stringsContainsFunc : ICode :=
 (.seq
  (.reg [⟨some 4, none, .mov (.c (.bool false))⟩] (some [0, 1]))
  (.seq
   (.reg [⟨some 5, none, .mov (.t 0)⟩,
     ⟨some 6, none, .mov (.t 1)⟩,
     ⟨some 7, none, .call (.c (.fn (.func 59) [] [])) [(.t 5), (.t 6)]⟩,
     ⟨some 8, none, .bin .geq .none (.t 7) (.c (.int .i64 0))⟩,
     ⟨some 4, none, .mov (.t 8)⟩] (some [4]))
   .ret))
theorem is_stringsContainsFunc : IrOf Tryd.prog 51 9 ir_stringsContainsFunc [.t 4] := ⟨_, Tryd.func51, rfl, by kernel_rfl, by kernel_rfl, by kernel_rfl⟩


def idxF (s : ByteArray) (q : Nat → Bool) : Nat → Nat → Int
  | 0, _ => -1
  | m + 1, pos => if pos < s.size then if q (Utf8.decode s pos).1 = true then pos else idxF s q m (pos + (Utf8.decode s pos).2) else -1

theorem fs_indexFunc {Gl : Gh → Prop} (hst : Stays Gl) {s : List UInt8} {k : Nat} {caps : List AV} {Hc : Hp} {q : Nat → Bool} (hs : s.length < 9223372036854775808) (hR : Rd Hc)
    (hk : ∀ c : Nat, FS Tryd.prog Gl k (.int .i32 c :: caps) Hc [] (.bool (q c)) Hc []) :
    FS Tryd.prog Gl 63 [.str s, .fn (.func k) [] caps, .bool true] Hc [] (.int .i64 (idxF ⟨s.toArray⟩ q (s.length + 1) 0)) Hc [] := by
  refine FS.of hm hst is_stringsindexFunc (by simp) fun γ hγ hfr => ?_
  generalize hQ : (fun (ex : Ex) (_ _ : Nat) (s : St) => _) = Q
  unfold ir_stringsindexFunc
  simp +contextual (maxSteps := 1000000) only [go_sem, reduceCtorEq, ↓reduceIte, Nat.reduceAdd, Nat.reduceEqDiff, Nat.reduceLeDiff, Nat.reduceMul, Nat.reduceBEq, Int.reduceBEq, Int.reduceBNe, Int.reduceLT, Int.reduceLE, Int.reduceGT, Int.reduceGE, Int.reduceToNat, Int.natCast_one, Int.natCast_zero, Int.cast_ofNat_Int]
  have hap : ∀ p ∈ Hc, p.1 ≠ ((γ, 2, 0) : Nm) := fun p hp e => hfr.1 p hp (by rw [e])
  refine kLoop_ix (fun pos : Nat => ⟨lf [(1, .fn (.func k) [] caps), (2, .bool true), (10, .ptr (γ, 2, 0) 0)], Hc ++ [((γ, 2, 0), .obj (.stringIter ⟨s.toArray⟩ pos))], fun x => x ∈ []⟩) (fun pos => ∃ m, s.length - pos < m ∧ idxF ⟨s.toArray⟩ q (s.length + 1) 0 = idxF ⟨s.toArray⟩ q m pos) (fun pos => s.length - pos) 0 0 (Wk.perm ?_ ?_) ?_ ?_
  · simp only [lfOK, upd, initF]
    repeat' first | exact AVle.refl _ _ | exact trivial | refine And.intro ?_ ?_
  · intro p hp; simp only [List.mem_append, List.mem_singleton, List.mem_cons] at hp ⊢; rcases hp with h | h; exact .inr h; exact .inl (by simpa using h)
  · exact ⟨s.length + 1, by omega, rfl⟩
  · rintro γ' pos hf ⟨m, hm1, hinv⟩
    generalize hQ' : kIt _ _ _ _ _ = Q'
    have hget : getH (Hc ++ [((γ, 2, 0), HB.obj (.stringIter ⟨s.toArray⟩ pos))]) (γ, 2, 0) = some (.obj (.stringIter ⟨s.toArray⟩ pos)) := getH_last hap
    have hset : ∀ o, setH (Hc ++ [((γ, 2, 0), HB.obj (.stringIter ⟨s.toArray⟩ pos))]) (γ, 2, 0) (.obj o) = Hc ++ [((γ, 2, 0), HB.obj o)] := fun o => setH_last hap
    have hsz : (⟨s.toArray⟩ : ByteArray).size = s.length := by simp [ByteArray.size]
    obtain ⟨m, rfl⟩ : ∃ m', m = m' + 1 := ⟨m - 1, by omega⟩
    have hmem : ∀ o, ∀ p ∈ Hc, p ∈ Hc ++ [(((γ, 2, 0) : Nm), HB.obj o)] := fun o p hp => List.mem_append.2 (.inl hp)
    by_cases hlt : pos < s.length
    · have hw := Lib.decode_width_pos ⟨s.toArray⟩ pos (by rw [hsz]; exact hlt)
      simp +contextual (maxSteps := 1000000) only [hget, hset, hsz, hlt, if_true, go_sem, reduceCtorEq, ↓reduceIte, Nat.reduceAdd, Nat.reduceEqDiff, Nat.reduceLeDiff, Nat.reduceMul, Nat.reduceBEq, Int.reduceBEq, Int.reduceBNe, Int.reduceLT, Int.reduceLE, Int.reduceGT, Int.reduceGE, Int.reduceToNat, Int.natCast_one, Int.natCast_zero, Int.cast_ofNat_Int]
      refine CallP.read (hk _) (fun _ => rfl) hR.rn (fun p hp q' hq' => ?_) ?_
      · simp only [List.mem_singleton] at hp; subst hp; exact hap q' hq'
      · cases hq' : q (Utf8.decode ⟨s.toArray⟩ pos).1 with
        | true =>
          simp +contextual (maxSteps := 1000000) only [go_sem, reduceCtorEq, ↓reduceIte, Nat.reduceAdd, Nat.reduceEqDiff, Nat.reduceLeDiff, Nat.reduceMul, Nat.reduceBEq, Int.reduceBEq, Int.reduceBNe, Int.reduceLT, Int.reduceLE, Int.reduceGT, Int.reduceGE, Int.reduceToNat, Int.natCast_one, Int.natCast_zero, Int.cast_ofNat_Int]
          rw [← hQ']
          simp only [w_kIt_r, w_kBlk_r, w_kSeq_r]
          rw [← hQ, hinv, idxF, if_pos (by rw [hsz]; exact hlt), if_pos hq']
          exact ⟨trivial, Ret.reads hR rfl rfl (hmem _)⟩
        | false =>
          simp +contextual (maxSteps := 1000000) only [go_sem, reduceCtorEq, ↓reduceIte, Nat.reduceAdd, Nat.reduceEqDiff, Nat.reduceLeDiff, Nat.reduceMul, Nat.reduceBEq, Int.reduceBEq, Int.reduceBNe, Int.reduceLT, Int.reduceLE, Int.reduceGT, Int.reduceGE, Int.reduceToNat, Int.natCast_one, Int.natCast_zero, Int.cast_ofNat_Int]
          rw [← hQ']
          simp only [w_kIt_n]
          refine ⟨0, pos + (Utf8.decode ⟨s.toArray⟩ pos).2, Wk.perm ?_ (fun p hp => hp), ⟨m, by omega, ?_⟩, by omega⟩
          · repeat' first | exact AVle.refl _ _ | exact trivial | refine And.intro ?_ ?_
          · rw [hinv, idxF, if_pos (by rw [hsz]; exact hlt), if_neg (by rw [hq']; simp)]
    · simp +contextual (maxSteps := 1000000) only [hget, hset, hsz, hlt, if_false, go_sem, reduceCtorEq, ↓reduceIte, Nat.reduceAdd, Nat.reduceEqDiff, Nat.reduceLeDiff, Nat.reduceMul, Nat.reduceBEq, Int.reduceBEq, Int.reduceBNe, Int.reduceLT, Int.reduceLE, Int.reduceGT, Int.reduceGE, Int.reduceToNat, Int.natCast_one, Int.natCast_zero, Int.cast_ofNat_Int]
      rw [← hQ']
      simp only [w_kIt_e, w_kBlk_e, ↓reduceIte]
      simp +contextual (maxSteps := 1000000) only [go_sem, reduceCtorEq, ↓reduceIte, Nat.reduceAdd, Nat.reduceEqDiff, Nat.reduceLeDiff, Nat.reduceMul, Nat.reduceBEq, Int.reduceBEq, Int.reduceBNe, Int.reduceLT, Int.reduceLE, Int.reduceGT, Int.reduceGE, Int.reduceToNat, Int.natCast_one, Int.natCast_zero, Int.cast_ofNat_Int]
      rw [← hQ, hinv, idxF, if_neg (by rw [hsz]; exact hlt)]
      exact ⟨trivial, Ret.reads hR rfl rfl (hmem _)⟩

theorem fs_IndexFunc {Gl : Gh → Prop} (hst : Stays Gl) {s : List UInt8} {k : Nat} {caps : List AV} {Hc : Hp} {q : Nat → Bool} (hs : s.length < 9223372036854775808) (hR : Rd Hc)
    (hk : ∀ c : Nat, FS Tryd.prog Gl k (.int .i32 c :: caps) Hc [] (.bool (q c)) Hc []) :
    FS Tryd.prog Gl 59 [.str s, .fn (.func k) [] caps] Hc [] (.int .i64 (idxF ⟨s.toArray⟩ q (s.length + 1) 0)) Hc [] := by
  refine FS.of hm hst is_stringsIndexFunc (by simp) fun γ hγ hfr => ?_
  generalize hQ : (fun (ex : Ex) (_ _ : Nat) (s : St) => _) = Q
  unfold ir_stringsIndexFunc
  simp +contextual (maxSteps := 1000000) only [go_sem, reduceCtorEq, ↓reduceIte, Nat.reduceAdd, Nat.reduceEqDiff, Nat.reduceLeDiff, Nat.reduceMul, Nat.reduceBEq, Int.reduceBEq, Int.reduceBNe, Int.reduceLT, Int.reduceLE, Int.reduceGT, Int.reduceGE, Int.reduceToNat, Int.natCast_one, Int.natCast_zero, Int.cast_ofNat_Int]
  refine CallP.all (fs_indexFunc hst hs hR hk) (fun _ => rfl) hR.rn ?_
  simp +contextual (maxSteps := 1000000) only [go_sem, reduceCtorEq, ↓reduceIte, Nat.reduceAdd, Nat.reduceEqDiff, Nat.reduceLeDiff, Nat.reduceMul, Nat.reduceBEq, Int.reduceBEq, Int.reduceBNe, Int.reduceLT, Int.reduceLE, Int.reduceGT, Int.reduceGE, Int.reduceToNat, Int.natCast_one, Int.natCast_zero, Int.cast_ofNat_Int]
  rw [← hQ]
  exact ⟨trivial, Ret.reads hR rfl rfl (fun _ h => h)⟩

theorem fs_ContainsFunc {Gl : Gh → Prop} (hst : Stays Gl) {s : List UInt8} {k : Nat} {caps : List AV} {Hc : Hp} {q : Nat → Bool} (hs : s.length < 9223372036854775808) (hR : Rd Hc)
    (hk : ∀ c : Nat, FS Tryd.prog Gl k (.int .i32 c :: caps) Hc [] (.bool (q c)) Hc []) :
    FS Tryd.prog Gl 51 [.str s, .fn (.func k) [] caps] Hc [] (.bool (decide (idxF ⟨s.toArray⟩ q (s.length + 1) 0 ≥ 0))) Hc [] := by
  refine FS.of hm hst is_stringsContainsFunc (by simp) fun γ hγ hfr => ?_
  generalize hQ : (fun (ex : Ex) (_ _ : Nat) (s : St) => _) = Q
  unfold ir_stringsContainsFunc
  simp +contextual (maxSteps := 1000000) only [go_sem, reduceCtorEq, ↓reduceIte, Nat.reduceAdd, Nat.reduceEqDiff, Nat.reduceLeDiff, Nat.reduceMul, Nat.reduceBEq, Int.reduceBEq, Int.reduceBNe, Int.reduceLT, Int.reduceLE, Int.reduceGT, Int.reduceGE, Int.reduceToNat, Int.natCast_one, Int.natCast_zero, Int.cast_ofNat_Int]
  refine CallP.all (fs_IndexFunc hst hs hR hk) (fun _ => rfl) hR.rn ?_
  simp +contextual (maxSteps := 1000000) only [go_sem, reduceCtorEq, ↓reduceIte, Nat.reduceAdd, Nat.reduceEqDiff, Nat.reduceLeDiff, Nat.reduceMul, Nat.reduceBEq, Int.reduceBEq, Int.reduceBNe, Int.reduceLT, Int.reduceLE, Int.reduceGT, Int.reduceGE, Int.reduceToNat, Int.natCast_one, Int.natCast_zero, Int.cast_ofNat_Int]
  rw [← hQ]
  exact ⟨trivial, Ret.reads hR rfl rfl (fun _ h => h)⟩
end Go.Proofs.YtgdgfefojfgpaaaDoor

/- Whether all of a text stands between two bytes, walked. -/
set_option linter.unusedVariables false
set_option linter.unusedSimpArgs false
set_option maxRecDepth 100000
namespace Go.Proofs.YtgdgfefojfgpaaaDoor
open Go Go.Ab
/-- clavier/wire.between$1 -/
def ir_wirebetween1 : ICode :=
 (.seq
  (.reg [⟨some 4, none, .mov (.c (.bool false))⟩] (some [0, 1, 2]))
  (.seq
   (.reg [⟨some 5, none, .mov (.t 0)⟩,
     ⟨some 6, none, .ld none (.t 1)⟩,
     ⟨some 7, none, .cvi .i32 (.t 6)⟩,
     ⟨some 8, none, .bin .lss .none (.t 5) (.t 7)⟩,
     ⟨some 9, none, .mov (.t 8)⟩,
     ⟨some 10, some (9, false), .mov (.t 0)⟩,
     ⟨some 11, some (9, false), .ld none (.t 2)⟩,
     ⟨some 12, some (9, false), .cvi .i32 (.t 11)⟩,
     ⟨some 13, some (9, false), .bin .gtr .none (.t 10) (.t 12)⟩,
     ⟨some 14, none, .pick (.t 9) (.c (.bool true)) (.t 13)⟩,
     ⟨some 4, none, .mov (.t 14)⟩] (some [4]))
   .ret))
theorem is_wirebetween1 : IrOf Tryd.prog 52 15 ir_wirebetween1 [.t 4] := ⟨_, Tryd.func52, rfl, by kernel_rfl, by kernel_rfl, by kernel_rfl⟩

/-- clavier/wire.between -/
def ir_wirebetween : ICode :=
 (.seq
  (.reg [⟨some 4, none, .box 5 (.t 1)⟩,
    ⟨some 5, none, .box 5 (.t 2)⟩,
    ⟨some 6, none, .mov (.c (.bool false))⟩] (some [0, 4, 5]))
  (.seq
   (.reg [⟨some 7, none, .mov (.t 0)⟩,
     ⟨some 8, none, .mkf (.func 52) [] [(.t 4), (.t 5)]⟩,
     ⟨some 9, none, .call (.c (.fn (.func 51) [] [])) [(.t 7), (.t 8)]⟩,
     ⟨some 10, none, .un .not (.t 9)⟩,
     ⟨some 6, none, .mov (.t 10)⟩] (some [6]))
   .ret))
theorem is_wirebetween : IrOf Tryd.prog 40 11 ir_wirebetween [.t 6] := ⟨_, Tryd.func40, rfl, by kernel_rfl, by kernel_rfl, by kernel_rfl⟩


theorem rd2 {a b : Nm} {x y : Int} (ha : 1 ≤ a.1) (hb : 1 ≤ b.1) : Rd [(b, HB.cells [.int .u8 y]), (a, .cells [.int .u8 x])] := by
  refine ⟨fun f => ?_, fun p hp => ?_⟩
  · have e1 : rnN f a = a := by unfold rnN; rw [if_neg]; omega
    have e2 : rnN f b = b := by unfold rnN; rw [if_neg]; omega
    simp only [rnH, List.map_cons, List.map_nil, e1, e2, rnHB, rnL, Ab.rn]
  · simp only [List.mem_cons, List.not_mem_nil, or_false] at hp
    rcases hp with rfl | rfl
    · exact ⟨by unfold nmOK; rw [if_neg (by simp only; omega)]; simp, trivial, trivial⟩
    · exact ⟨by unfold nmOK; rw [if_neg (by simp only; omega)]; simp, trivial, trivial⟩

theorem fs_between1 {Gl : Gh → Prop} (hst : Stays Gl) {c : Nat} {x y : Int} {a b : Nm} (hab : a ≠ b) (ha : 1 ≤ a.1) (hb : 1 ≤ b.1) (hx : 0 ≤ x ∧ x < 256) (hy : 0 ≤ y ∧ y < 256) :
    FS Tryd.prog Gl 52 [.int .i32 c, .ptr a 0, .ptr b 0] [(b, .cells [.int .u8 y]), (a, .cells [.int .u8 x])] [] (.bool (decide ((c : Int) < x) || decide ((c : Int) > y))) [(b, .cells [.int .u8 y]), (a, .cells [.int .u8 x])] [] := by
  refine FS.of hm hst is_wirebetween1 (by simp) fun γ hγ hfr => ?_
  have hR := rd2 (x := x) (y := y) ha hb
  have w1 : IntKind.i32.wrap x = x := by rw [IntKind.wrap_i32]; omega
  have w2 : IntKind.i32.wrap y = y := by rw [IntKind.wrap_i32]; omega
  generalize hQ : (fun (ex : Ex) (_ _ : Nat) (s : St) => _) = Q
  unfold ir_wirebetween1
  simp +contextual (maxSteps := 1000000) only [hab, (Ne.symm hab), w1, w2, go_sem, reduceCtorEq, ↓reduceIte, Nat.reduceAdd, Nat.reduceEqDiff, Nat.reduceLeDiff, Nat.reduceMul, Nat.reduceBEq, Int.reduceBEq, Int.reduceBNe, Int.reduceLT, Int.reduceLE, Int.reduceGT, Int.reduceGE, Int.reduceToNat, Int.natCast_one, Int.natCast_zero, Int.cast_ofNat_Int]
  rw [← hQ]; exact ⟨trivial, Ret.reads hR rfl rfl (fun _ h => h)⟩

theorem bytes_get (s : List UInt8) (pos : Nat) (h : pos < s.length) (h' : pos < (⟨s.toArray⟩ : ByteArray).size) : (⟨s.toArray⟩ : ByteArray)[pos]'h' = s[pos] := rfl
theorem idxF_all {s : List UInt8} {x y : Int} (hy : y < 128) : ∀ (m pos : Nat), s.length - pos < m → (decide (idxF ⟨s.toArray⟩ (fun c => decide ((c : Int) < x) || decide ((c : Int) > y)) m pos ≥ 0) = !((s.drop pos).all fun c => decide (x ≤ c.toNat) && decide ((c.toNat : Int) ≤ y)))
  | 0, pos, h => by omega
  | m + 1, pos, h => by
    have hsz : (⟨s.toArray⟩ : ByteArray).size = s.length := by simp [ByteArray.size]
    unfold idxF
    by_cases hlt : pos < s.length
    · rw [if_pos (by rw [hsz]; exact hlt)]
      have hd : s.drop pos = s[pos] :: s.drop (pos + 1) := List.drop_eq_getElem_cons hlt
      by_cases ha : (s[pos]).toNat < 128
      · have hdec := decode_ascii ⟨s.toArray⟩ pos (by rw [hsz]; exact hlt) ha
        rw [bytes_get s pos hlt] at hdec
        rw [hdec, hd]
        simp only [List.all_cons]
        by_cases hq : (decide (((s[pos]).toNat : Int) < x) || decide (((s[pos]).toNat : Int) > y)) = true
        · rw [if_pos hq]
          have : (decide (x ≤ ((s[pos]).toNat : Int)) && decide (((s[pos]).toNat : Int) ≤ y)) = false := by
            rw [Bool.eq_false_iff]; simp at hq ⊢; omega
          rw [this]
          simp
        · rw [if_neg hq, idxF_all hy m (pos + 1) (by omega)]
          have : (decide (x ≤ ((s[pos]).toNat : Int)) && decide (((s[pos]).toNat : Int) ≤ y)) = true := by
            simp at hq ⊢; omega
          rw [this, Bool.true_and]
      · have hdec := decode_high ⟨s.toArray⟩ pos (by rw [hsz]; exact hlt) (by rw [bytes_get s pos hlt]; omega)
        rw [if_pos (by simp; right; omega), hd]
        have : (decide (x ≤ ((s[pos]).toNat : Int)) && decide (((s[pos]).toNat : Int) ≤ y)) = false := by
          rw [Bool.eq_false_iff]; simp; omega
        simp only [List.all_cons, this]
        simp
    · rw [if_neg (by rw [hsz]; exact hlt), List.drop_eq_nil_of_le (by omega)]
      simp

theorem fs_between {Gl : Gh → Prop} (hst : Stays Gl) {s : List UInt8} {x y : Int} (hs : s.length < 9223372036854775808) (hx : 0 ≤ x ∧ x < 256) (hy : 0 ≤ y ∧ y < 128) :
    FS Tryd.prog Gl 40 [.str s, .int .u8 x, .int .u8 y] [] [] (.bool (s.all fun c => decide (x ≤ c.toNat) && decide ((c.toNat : Int) ≤ y))) [] [] := by
  refine FS.of hm hst is_wirebetween (by simp) fun γ hγ hfr => ?_
  generalize hQ : (fun (ex : Ex) (_ _ : Nat) (s : St) => _) = Q
  unfold ir_wirebetween
  simp +contextual (maxSteps := 1000000) only [go_sem, reduceCtorEq, ↓reduceIte, Nat.reduceAdd, Nat.reduceEqDiff, Nat.reduceLeDiff, Nat.reduceMul, Nat.reduceBEq, Int.reduceBEq, Int.reduceBNe, Int.reduceLT, Int.reduceLE, Int.reduceGT, Int.reduceGE, Int.reduceToNat, Int.natCast_one, Int.natCast_zero, Int.cast_ofNat_Int]
  refine CallP.all (fs_ContainsFunc hst hs (rd2 hγ hγ) fun c => fs_between1 hst (by simp) hγ hγ hx (by omega)) (fun _ => rfl) (rd2 hγ hγ).rn ?_
  simp +contextual (maxSteps := 1000000) only [go_sem, reduceCtorEq, ↓reduceIte, Nat.reduceAdd, Nat.reduceEqDiff, Nat.reduceLeDiff, Nat.reduceMul, Nat.reduceBEq, Int.reduceBEq, Int.reduceBNe, Int.reduceLT, Int.reduceLE, Int.reduceGT, Int.reduceGE, Int.reduceToNat, Int.natCast_one, Int.natCast_zero, Int.cast_ofNat_Int]
  rw [← hQ]
  have e := idxF_all (s := s) (x := x) hy.2 (s.length + 1) 0 (by omega)
  rw [List.drop_zero] at e
  refine ⟨trivial, ?_⟩
  rw [e, Bool.not_not]
  exact Ret.flat rfl rfl
end Go.Proofs.YtgdgfefojfgpaaaDoor

/- Numbers in figures, walked. -/
set_option linter.unusedVariables false
set_option linter.unusedSimpArgs false
set_option maxRecDepth 100000
namespace Go.Proofs.YtgdgfefojfgpaaaDoor
open Go Go.Ab
/-- clavier/num.Take$1 -/
def ir_numTake1 : ICode :=
 (.seq
  (.reg [⟨some 2, none, .mov (.c (.bool false))⟩] (some [0]))
  (.seq
   (.reg [⟨some 3, none, .mov (.t 0)⟩,
     ⟨some 4, none, .bin .geq .none (.t 3) (.c (.int .u8 48))⟩,
     ⟨some 5, none, .mov (.t 4)⟩,
     ⟨some 6, some (5, true), .mov (.t 0)⟩,
     ⟨some 7, some (5, true), .bin .leq .none (.t 6) (.c (.int .u8 57))⟩,
     ⟨some 8, none, .pick (.t 5) (.t 7) (.c (.bool false))⟩,
     ⟨some 2, none, .mov (.t 8)⟩] (some [2]))
   .ret))
theorem is_numTake1 : IrOf Tryd.prog 50 9 ir_numTake1 [.t 2] := ⟨_, Tryd.func50, rfl, by kernel_rfl, by kernel_rfl, by kernel_rfl⟩

/-- clavier/num.Take -/
def ir_numTake : ICode :=
 (.seq
  (.reg [⟨some 2, none, .mov (.c (.int .i64 0))⟩,
    ⟨some 3, none, .mov (.c (.int .i64 0))⟩] (some [0]))
  (.seq
   (.reg [⟨some 4, none, .mov (.c (.fn (.func 50) [] []))⟩] (some [0, 4]))
   (.seq
    (.reg [⟨some 5, none, .mov (.c (.int .i64 0))⟩] (some [0, 4, 5]))
    (.seq
     (.seq
      (.reg [⟨some 7, none, .mov (.t 0)⟩,
        ⟨some 8, none, .len (.t 7)⟩,
        ⟨some 9, none, .mov (.c (.int .i64 0))⟩] (some [0, 4, 5, 8, 9]))
      (.blk 0
       (.loop
        (.seq
         (.reg [⟨some 10, none, .bin .lss .none (.t 9) (.t 8)⟩] (some [0, 4, 5, 8, 9, 10]))
         (.seq
          (.cond (.t 10)
           .skip
           (.exit 0))
          (.seq
           (.blk 1
            (.seq
             (.reg [⟨some 11, none, .mov (.t 9)⟩,
               ⟨some 6, none, .mov (.t 11)⟩] (some [0, 4, 5, 6, 8, 9]))
             (.seq
              (.seq
               (.reg [⟨some 12, none, .mov (.t 4)⟩,
                 ⟨some 13, none, .mov (.t 0)⟩,
                 ⟨some 14, none, .mov (.t 6)⟩,
                 ⟨some 15, none, .ia 1 (.t 13) (.t 14)⟩,
                 ⟨some 16, none, .ld none (.t 15)⟩,
                 ⟨some 17, none, .call (.t 12) [(.t 16)]⟩,
                 ⟨some 18, none, .un .not (.t 17)⟩] (some [0, 4, 5, 6, 8, 9, 18]))
               (.cond (.t 18)
                (.seq
                 (.reg [⟨some 19, none, .mov (.t 5)⟩,
                   ⟨some 20, none, .mov (.t 6)⟩,
                   ⟨some 2, none, .mov (.t 19)⟩,
                   ⟨some 3, none, .mov (.t 20)⟩] (some [2, 3]))
                 .ret)
                .skip))
              (.reg [⟨some 21, none, .mov (.t 5)⟩,
                ⟨some 22, none, .bin .mul .none (.c (.int .i64 10)) (.t 21)⟩,
                ⟨some 23, none, .mov (.t 0)⟩,
                ⟨some 24, none, .mov (.t 6)⟩,
                ⟨some 25, none, .ia 1 (.t 23) (.t 24)⟩,
                ⟨some 26, none, .ld none (.t 25)⟩,
                ⟨some 27, none, .bin .sub .none (.t 26) (.c (.int .u8 48))⟩,
                ⟨some 28, none, .cvi .i64 (.t 27)⟩,
                ⟨some 29, none, .bin .add .none (.t 22) (.t 28)⟩,
                ⟨some 30, none, .mm true (.t 29) (.c (.int .i64 1114111))⟩,
                ⟨some 5, none, .mov (.t 30)⟩] (some [0, 4, 5, 8, 9])))))
           (.reg [⟨some 31, none, .bin .add .none (.t 9) (.c (.int .i64 1))⟩,
             ⟨some 9, none, .mov (.t 31)⟩] (some [0, 4, 5, 8, 9]))))))))
     (.seq
      (.reg [⟨some 32, none, .mov (.t 5)⟩,
        ⟨some 33, none, .mov (.t 0)⟩,
        ⟨some 34, none, .len (.t 33)⟩,
        ⟨some 2, none, .mov (.t 32)⟩,
        ⟨some 3, none, .mov (.t 34)⟩] (some [2, 3]))
      .ret)))))
theorem is_numTake : IrOf Tryd.prog 39 35 ir_numTake [.t 2, .t 3] := ⟨_, Tryd.func39, rfl, by kernel_rfl, by kernel_rfl, by kernel_rfl⟩


def fig (c : UInt8) : Bool := decide (48 ≤ c.toNat) && decide (c.toNat ≤ 57)
theorem fs_take1 {Gl : Gh → Prop} (hst : Stays Gl) {c : UInt8} : FS Tryd.prog Gl 50 [.int .u8 (c.toNat : Int)] [] [] (.bool (fig c)) [] [] := by
  refine FS.of hm hst is_numTake1 (by simp) fun γ hγ hfr => ?_
  generalize hQ : (fun (ex : Ex) (_ _ : Nat) (s : St) => _) = Q
  unfold ir_numTake1
  simp +contextual (maxSteps := 1000000) only [go_sem, reduceCtorEq, ↓reduceIte, Nat.reduceAdd, Nat.reduceEqDiff, Nat.reduceLeDiff, Nat.reduceMul, Nat.reduceBEq, Int.reduceBEq, Int.reduceBNe, Int.reduceLT, Int.reduceLE, Int.reduceGT, Int.reduceGE, Int.reduceToNat, Int.natCast_one, Int.natCast_zero, Int.cast_ofNat_Int]
  have e : (decide ((c.toNat : Int) ≥ 48) && decide ((c.toNat : Int) ≤ 57)) = fig c := by
    unfold fig; rw [Bool.eq_iff_iff]; simp; omega
  rw [← hQ, e]
  exact ⟨trivial, Ret.flat rfl rfl⟩

/-- The number with which bytes begin, and how many these are. -/
def takeN : List UInt8 → Nat → Nat → Nat × Nat
  | [], n, k => (n, k)
  | c :: l, n, k => if fig c = true then takeN l (min (10 * n + (c.toNat - 48)) 1114111) (k + 1) else (n, k)

theorem bytesAV_get {b : List UInt8} {i : Nat} (h : i < b.length) : (bytesAV b).getD i [] = [.int .u8 ((b[i]).toNat : Int)] := by
  rw [List.getD_eq_getElem?_getD]
  simp [bytesAV, h]

theorem fs_take {Gl : Gh → Prop} (hst : Stays Gl) {b : List UInt8} {t0 : Option Nm} (hb : b.length < 9223372036854775808) : FS Tryd.prog Gl 39 [.sl t0 1 (bytesAV b)] [] [] (.tup [.int .i64 (takeN b 0 0).1, .int .i64 (takeN b 0 0).2]) [] [] := by
  refine FS.of hm hst is_numTake (by simp) fun γ hγ hfr => ?_
  generalize hQ : (fun (ex : Ex) (_ _ : Nat) (s : St) => _) = Q
  unfold ir_numTake
  simp +contextual (maxSteps := 1000000) only [go_sem, reduceCtorEq, ↓reduceIte, Nat.reduceAdd, Nat.reduceEqDiff, Nat.reduceLeDiff, Nat.reduceMul, Nat.reduceBEq, Int.reduceBEq, Int.reduceBNe, Int.reduceLT, Int.reduceLE, Int.reduceGT, Int.reduceGE, Int.reduceToNat, Int.natCast_one, Int.natCast_zero, Int.cast_ofNat_Int]
  refine kLoop_ix (fun q : Nat × Nat => ⟨lf [(0, .sl t0 1 (bytesAV b)), (4, .fn (.func 50) [] []), (5, .int .i64 (q.2 : Int)), (8, .int .i64 (b.length : Int)), (9, .int .i64 (q.1 : Int))], [], fun x => x ∈ []⟩) (fun q => q.1 ≤ b.length ∧ q.2 ≤ 1114111 ∧ takeN b 0 0 = takeN (b.drop q.1) q.2 q.1) (fun q => b.length - q.1) 0 (0, 0) (Wk.same ?_) ?_ ?_
  · simp only [lfOK, upd, initF, bytesAV_length]
    repeat' first | exact AVle.refl _ _ | exact trivial | refine And.intro ?_ ?_
  · simp
  · rintro γ' ⟨i, n⟩ hf ⟨hi, hn, hinv⟩
    simp only at hi hn hinv
    generalize hQ' : kIt _ _ _ _ _ = Q'
    by_cases hlt : i < b.length
    · have hd : decide ((i : Int) < (b.length : Int)) = true := by simp; omega
      have hget : (bytesAV b).getD (i : Int).toNat [] = [.int .u8 ((b[i]).toNat : Int)] := by rw [Int.toNat_natCast]; exact bytesAV_get hlt
      have hdrop : b.drop i = b[i] :: b.drop (i + 1) := (List.drop_eq_getElem_cons hlt)
      simp +contextual (maxSteps := 1000000) only [hd, hget, bytesAV_length, go_sem, reduceCtorEq, ↓reduceIte, Nat.reduceAdd, Nat.reduceEqDiff, Nat.reduceLeDiff, Nat.reduceMul, Nat.reduceBEq, Int.reduceBEq, Int.reduceBNe, Int.reduceLT, Int.reduceLE, Int.reduceGT, Int.reduceGE, Int.reduceToNat, Int.natCast_one, Int.natCast_zero, Int.cast_ofNat_Int]
      refine ⟨by omega, CallP.pure (fs_take1 hst) (fun _ => rfl) ?_⟩
      cases hfig : fig b[i] with
      | false =>
        simp +contextual (maxSteps := 1000000) only [go_sem, reduceCtorEq, ↓reduceIte, Nat.reduceAdd, Nat.reduceEqDiff, Nat.reduceLeDiff, Nat.reduceMul, Nat.reduceBEq, Int.reduceBEq, Int.reduceBNe, Int.reduceLT, Int.reduceLE, Int.reduceGT, Int.reduceGE, Int.reduceToNat, Int.natCast_one, Int.natCast_zero, Int.cast_ofNat_Int]
        rw [← hQ']
        simp only [w_kIt_r, w_kBlk_r, w_kSeq_r]
        rw [← hQ, hinv, hdrop, takeN, if_neg (by rw [hfig]; simp)]
        exact ⟨trivial, Ret.flat2⟩
      | true =>
        simp +contextual (maxSteps := 1000000) only [hget, bytesAV_length, go_sem, reduceCtorEq, ↓reduceIte, Nat.reduceAdd, Nat.reduceEqDiff, Nat.reduceLeDiff, Nat.reduceMul, Nat.reduceBEq, Int.reduceBEq, Int.reduceBNe, Int.reduceLT, Int.reduceLE, Int.reduceGT, Int.reduceGE, Int.reduceToNat, Int.natCast_one, Int.natCast_zero, Int.cast_ofNat_Int]
        refine ⟨by omega, ?_⟩
        have hc : 48 ≤ (b[i]).toNat ∧ (b[i]).toNat ≤ 57 := by simpa [fig] using hfig
        rw [← hQ']
        simp only [w_kIt_n]
        refine ⟨0, (i + 1, min (10 * n + ((b[i]).toNat - 48)) 1114111), Wk.same ?_, ⟨by simp only; omega, by simp only; omega, ?_⟩, by simp only; omega⟩
        · repeat' first | exact AVle.refl _ _ | exact trivial | refine And.intro ?_ ?_
          · refine AVle.int ?_
            simp only [IntKind.wrap_i64, IntKind.wrap_u8]
            split <;> omega
          · exact AVle.int (by simp only [IntKind.wrap_i64]; omega)
        · simp only
          rw [hinv, hdrop, takeN, if_pos hfig]
    · have hd : decide ((i : Int) < (b.length : Int)) = false := by simp; omega
      simp +contextual (maxSteps := 1000000) only [hd, go_sem, reduceCtorEq, ↓reduceIte, Nat.reduceAdd, Nat.reduceEqDiff, Nat.reduceLeDiff, Nat.reduceMul, Nat.reduceBEq, Int.reduceBEq, Int.reduceBNe, Int.reduceLT, Int.reduceLE, Int.reduceGT, Int.reduceGE, Int.reduceToNat, Int.natCast_one, Int.natCast_zero, Int.cast_ofNat_Int]
      rw [← hQ']
      simp only [w_kIt_e, w_kBlk_e, ↓reduceIte]
      simp +contextual (maxSteps := 1000000) only [go_sem, reduceCtorEq, ↓reduceIte, Nat.reduceAdd, Nat.reduceEqDiff, Nat.reduceLeDiff, Nat.reduceMul, Nat.reduceBEq, Int.reduceBEq, Int.reduceBNe, Int.reduceLT, Int.reduceLE, Int.reduceGT, Int.reduceGE, Int.reduceToNat, Int.natCast_one, Int.natCast_zero, Int.cast_ofNat_Int]
      have hi' : i = b.length := by omega
      rw [← hQ, hinv, hi', List.drop_length, takeN]
      refine ⟨trivial, ?_⟩
      rw [bytesAV_length]
      exact Ret.flat2
end Go.Proofs.YtgdgfefojfgpaaaDoor

/- The iterator of strings.SplitSeq. -/
set_option linter.unusedVariables false
set_option linter.unusedSimpArgs false
set_option maxRecDepth 100000
namespace Go.Proofs.YtgdgfefojfgpaaaDoor
open Go Go.Ab
/-- strings.Index -/
def ir_stringsIndex : ICode :=
 (.seq
  (.reg [⟨some 4, none, .mov (.c (.int .i64 0))⟩] (some [0, 1]))
  (.seq
   (.reg [⟨some 5, none, .mov (.t 0)⟩,
     ⟨some 6, none, .mov (.t 1)⟩,
     ⟨some 7, none, .call (.c (.fn (.func 58) [] [])) [(.t 5), (.t 6)]⟩,
     ⟨some 4, none, .mov (.t 7)⟩] (some [4]))
   .ret))
theorem is_stringsIndex : IrOf Tryd.prog 49 8 ir_stringsIndex [.t 4] := ⟨_, Tryd.func49, rfl, by kernel_rfl, by kernel_rfl, by kernel_rfl⟩

/-- strings.splitSeq$1 -/
def ir_stringssplitSeq1 : ICode :=
 (.seq
  (.seq
   (.reg [⟨some 9, none, .ld none (.t 1)⟩,
     ⟨some 10, none, .lns (.t 9)⟩,
     ⟨some 11, none, .bin .eql .none (.t 10) (.c (.int .i64 0))⟩] (some [0, 1, 2, 3, 11]))
   (.cond (.t 11)
    (.seq
     (.blk 0
      (.loop
       (.seq
        (.seq
         (.reg [⟨some 12, none, .ld none (.t 2)⟩,
           ⟨some 13, none, .lns (.t 12)⟩,
           ⟨some 14, none, .bin .gtr .none (.t 13) (.c (.int .i64 0))⟩] (some [0, 2, 14]))
         (.cond (.t 14)
          .skip
          (.exit 0)))
        (.blk 1
         (.seq
          (.reg [⟨some 16, none, .ld none (.t 2)⟩,
            ⟨some 17, none, .call (.c (.fn (.func 48) [] [])) [(.t 16)]⟩,
            ⟨some 15, none, .mov (.t 17)⟩,
            ⟨some 18, none, .ext (.t 15) 0⟩,
            ⟨some 19, none, .ext (.t 15) 1⟩,
            ⟨some 5, none, .mov (.t 18)⟩,
            ⟨some 6, none, .mov (.t 19)⟩] (some [0, 2, 6]))
          (.seq
           (.seq
            (.reg [⟨some 20, none, .mov (.t 0)⟩,
              ⟨some 21, none, .ld none (.t 2)⟩,
              ⟨some 22, none, .mov (.t 6)⟩,
              ⟨some 23, none, .sls (.t 21) none (some (.t 22))⟩,
              ⟨some 24, none, .call (.t 20) [(.t 23)]⟩,
              ⟨some 25, none, .un .not (.t 24)⟩] (some [0, 2, 6, 25]))
            (.cond (.t 25)
             .ret
             .skip))
           (.reg [⟨some 26, none, .ld none (.t 2)⟩,
             ⟨some 27, none, .mov (.t 6)⟩,
             ⟨some 28, none, .sls (.t 26) (some (.t 27)) none⟩,
             ⟨none, none, .st 1 (.t 2) (.t 28)⟩] (some [0, 2]))))))))
     .ret)
    .skip))
  (.seq
   (.blk 2
    (.loop
     (.blk 3
      (.seq
       (.reg [⟨some 29, none, .ld none (.t 2)⟩,
         ⟨some 30, none, .ld none (.t 1)⟩,
         ⟨some 31, none, .call (.c (.fn (.func 49) [] [])) [(.t 29), (.t 30)]⟩,
         ⟨some 7, none, .mov (.t 31)⟩] (some [0, 1, 2, 3, 7]))
       (.seq
        (.seq
         (.reg [⟨some 32, none, .mov (.t 7)⟩,
           ⟨some 33, none, .bin .lss .none (.t 32) (.c (.int .i64 0))⟩] (some [0, 1, 2, 3, 7, 33]))
         (.cond (.t 33)
          (.exit 2)
          .skip))
        (.seq
         (.reg [⟨some 34, none, .ld none (.t 2)⟩,
           ⟨some 35, none, .mov (.t 7)⟩,
           ⟨some 36, none, .ld none (.t 3)⟩,
           ⟨some 37, none, .bin .add .none (.t 35) (.t 36)⟩,
           ⟨some 38, none, .sls (.t 34) none (some (.t 37))⟩,
           ⟨some 8, none, .mov (.t 38)⟩] (some [0, 1, 2, 3, 7, 8]))
         (.seq
          (.seq
           (.reg [⟨some 39, none, .mov (.t 0)⟩,
             ⟨some 40, none, .mov (.t 8)⟩,
             ⟨some 41, none, .call (.t 39) [(.t 40)]⟩,
             ⟨some 42, none, .un .not (.t 41)⟩] (some [0, 1, 2, 3, 7, 42]))
           (.cond (.t 42)
            .ret
            .skip))
          (.reg [⟨some 43, none, .ld none (.t 2)⟩,
            ⟨some 44, none, .mov (.t 7)⟩,
            ⟨some 45, none, .ld none (.t 1)⟩,
            ⟨some 46, none, .lns (.t 45)⟩,
            ⟨some 47, none, .bin .add .none (.t 44) (.t 46)⟩,
            ⟨some 48, none, .sls (.t 43) (some (.t 47)) none⟩,
            ⟨none, none, .st 1 (.t 2) (.t 48)⟩] (some [0, 1, 2, 3])))))))))
   (.reg [⟨some 49, none, .mov (.t 0)⟩,
     ⟨some 50, none, .ld none (.t 2)⟩,
     ⟨some 51, none, .call (.t 49) [(.t 50)]⟩] (some []))))
theorem is_stringssplitSeq1 : IrOf Tryd.prog 47 52 ir_stringssplitSeq1 [] := ⟨_, Tryd.func47, rfl, by kernel_rfl, by kernel_rfl, by kernel_rfl⟩

/-- strings.splitSeq -/
def ir_stringssplitSeq : ICode :=
 (.seq
  (.reg [⟨some 3, none, .box 9 (.t 0)⟩,
    ⟨some 4, none, .box 9 (.t 1)⟩,
    ⟨some 5, none, .box 3 (.t 2)⟩,
    ⟨some 6, none, .mov (.c .nilf)⟩] (some [3, 4, 5]))
  (.seq
   (.reg [⟨some 7, none, .mkf (.func 47) [] [(.t 4), (.t 3), (.t 5)]⟩,
     ⟨some 6, none, .mov (.t 7)⟩] (some [6]))
   .ret))
theorem is_stringssplitSeq : IrOf Tryd.prog 38 8 ir_stringssplitSeq [.t 6] := ⟨_, Tryd.func38, rfl, by kernel_rfl, by kernel_rfl, by kernel_rfl⟩

/-- strings.SplitSeq -/
def ir_stringsSplitSeq : ICode :=
 (.seq
  (.reg [⟨some 4, none, .mov (.c .nilf)⟩] (some [0, 1]))
  (.seq
   (.reg [⟨some 5, none, .mov (.t 0)⟩,
     ⟨some 6, none, .mov (.t 1)⟩,
     ⟨some 7, none, .call (.c (.fn (.func 38) [] [])) [(.t 5), (.t 6), (.c (.int .i64 0))]⟩,
     ⟨some 4, none, .mov (.t 7)⟩] (some [4]))
   .ret))
theorem is_stringsSplitSeq : IrOf Tryd.prog 31 8 ir_stringsSplitSeq [.t 4] := ⟨_, Tryd.func31, rfl, by kernel_rfl, by kernel_rfl, by kernel_rfl⟩


/-- Where a byte stands first. -/
def idxB (c : UInt8) : List UInt8 → Option Nat
  | [] => none
  | d :: l => if d = c then some 0 else (idxB c l).map (· + 1)
/-- The parts between bytes. -/
def splitB (c : UInt8) : List UInt8 → List (List UInt8)
  | [] => [[]]
  | d :: l => if d = c then [] :: splitB c l else match splitB c l with
    | p :: ps => (d :: p) :: ps
    | [] => [[d]]
theorem splitB_ne (c : UInt8) : ∀ l, splitB c l ≠ []
  | [] => by simp [splitB]
  | d :: l => by
    simp only [splitB]
    split
    · simp
    · split <;> simp
theorem splitB_eq (c : UInt8) : ∀ l, splitB c l = match idxB c l with | none => [l] | some i => l.take i :: splitB c (l.drop (i + 1))
  | [] => rfl
  | d :: l => by
    simp only [splitB, idxB]
    split
    · rename_i h; simp
    · have ih := splitB_eq c l
      cases h : idxB c l with
      | none => rw [h] at ih; simp only at ih; rw [ih]; simp
      | some i => rw [h] at ih; simp only at ih; rw [ih]; simp
theorem idxB_lt {c : UInt8} : ∀ {l : List UInt8} {i : Nat}, idxB c l = some i → i < l.length
  | [], _, h => by simp [idxB] at h
  | d :: l, i, h => by
    simp only [idxB] at h
    split at h
    · cases h; simp
    · obtain ⟨j, hj, rfl⟩ := Option.map_eq_some_iff.1 h
      have := idxB_lt hj
      simp; omega
theorem indexByte_idxB (c : UInt8) : ∀ l, Lib.indexByte l c = match idxB c l with | some i => (i : Int) | none => -1
  | [] => rfl
  | d :: l => by
    simp only [Lib.indexByte, idxB, indexByte_idxB c l]
    by_cases h : d = c
    · simp [h]
    · have hb : (d == c) = false := by simpa using h
      rw [hb, if_neg h]
      cases hi : idxB c l with
      | none => simp
      | some i =>
        simp only [Option.map_some]
        have : ((i : Int) == -1) = false := by simp
        simp [this]

theorem fs_index {Gl : Gh → Prop} {s : List UInt8} {c : UInt8} : FS Tryd.prog Gl 49 [.str s, .str [c]] [] [] (.int .i64 (match idxB c s with | some i => (i : Int) | none => -1)) [] [] := by
  refine FS.of_calls is_stringsIndex.enters (fun _ => rfl) fun g w vs hinv hgl hargs => ?_
  obtain ⟨v1, r1, rfl, h1, v2, r2, rfl, h2, h3⟩ := hargs
  cases h1; cases h2; cases h3
  refine ⟨_, rfl, (Tryd.strings_Index_one ⟨s.toArray⟩ c w).mono ?_⟩
  rintro e w' ⟨rfl, rfl⟩
  exact ⟨by rw [indexByte_idxB], rfl⟩

theorem it_split {Gl : Gh → Prop} {s : List UInt8} {c : UInt8} {a b d : Nm} (hab : a ≠ b) (had : a ≠ d) (hbd : b ≠ d) (hs : s.length < 4294967281) :
    IterS Tryd.prog Gl 47 [.ptr b 0, .ptr a 0, .ptr d 0] [(d, .cells [.int .i64 0]), (b, .cells [.str [c]]), (a, .cells [.str s])] ((splitB c s).map fun p => [.str p]) := by
  intro Gl' hst hG id J Jx hJid hround H T hJ
  refine FSX.of hm hst is_stringssplitSeq1 (by simp) fun γ hγ hfr => ?_
  generalize hQ : (fun (ex : Ex) (_ _ : Nat) (s : St) => _) = Q
  unfold ir_stringssplitSeq1
  simp +contextual (maxSteps := 1000000) only [hab, had, hbd, (Ne.symm hab), (Ne.symm had), (Ne.symm hbd), go_sem, reduceCtorEq, ↓reduceIte, Nat.reduceAdd, Nat.reduceEqDiff, Nat.reduceLeDiff, Nat.reduceMul, Nat.reduceBEq, Int.reduceBEq, Int.reduceBNe, Int.reduceLT, Int.reduceLE, Int.reduceGT, Int.reduceGE, Int.reduceToNat, Int.natCast_one, Int.natCast_zero, Int.cast_ofNat_Int]
  -- j parts yielded, r left, the caller's part of the heap
  refine kLoop_ix (fun q : Nat × List UInt8 × Hp × Tk => ⟨lf [(0, .yl id), (1, .ptr b 0), (2, .ptr a 0), (3, .ptr d 0)], [(d, .cells [.int .i64 0]), (b, .cells [.str [c]]), (a, .cells [.str q.2.1])] ++ q.2.2.1, q.2.2.2⟩)
    (fun q => J q.1 q.2.2.1 q.2.2.2 ∧ q.2.1.length ≤ s.length ∧ ∃ done : List (List UInt8), done.length = q.1 ∧ splitB c s = done ++ splitB c q.2.1)
    (fun q => q.2.1.length) 0 (0, s, H, T) ?_ ?_ ?_
  · refine Wk.same ?_
    simp only [lfOK, upd, initF]
    repeat' first | exact AVle.refl _ _ | exact trivial | refine And.intro ?_ ?_
  · exact ⟨hJ, Nat.le_refl _, [], rfl, rfl⟩
  · rintro γ' ⟨j, r, Hj, Tj⟩ hf ⟨hJj, hrl, done, hdone, hsp⟩
    simp only at hJj hrl hdone hsp
    generalize hQ' : kIt _ _ _ _ _ = Q'
    have hap := hJid j Hj Tj hJj
    simp +contextual (maxSteps := 1000000) only [hab, had, hbd, (Ne.symm hab), (Ne.symm had), (Ne.symm hbd), go_sem, reduceCtorEq, ↓reduceIte, Nat.reduceAdd, Nat.reduceEqDiff, Nat.reduceLeDiff, Nat.reduceMul, Nat.reduceBEq, Int.reduceBEq, Int.reduceBNe, Int.reduceLT, Int.reduceLE, Int.reduceGT, Int.reduceGE, Int.reduceToNat, Int.natCast_one, Int.natCast_zero, Int.cast_ofNat_Int]
    refine CallP.pure fs_index (fun _ => rfl) ?_
    rw [splitB_eq c r] at hsp
    cases hix : idxB c r with
    | none =>
      rw [hix] at hsp
      simp only at hsp
      simp +contextual (maxSteps := 1000000) only [hab, had, hbd, (Ne.symm hab), (Ne.symm had), (Ne.symm hbd), go_sem, reduceCtorEq, ↓reduceIte, Nat.reduceAdd, Nat.reduceEqDiff, Nat.reduceLeDiff, Nat.reduceMul, Nat.reduceBEq, Int.reduceBEq, Int.reduceBNe, Int.reduceLT, Int.reduceLE, Int.reduceGT, Int.reduceGE, Int.reduceToNat, Int.natCast_one, Int.natCast_zero, Int.cast_ofNat_Int]
      rw [← hQ']
      simp +contextual (maxSteps := 1000000) only [hab, had, hbd, (Ne.symm hab), (Ne.symm had), (Ne.symm hbd), go_sem, reduceCtorEq, ↓reduceIte, Nat.reduceAdd, Nat.reduceEqDiff, Nat.reduceLeDiff, Nat.reduceMul, Nat.reduceBEq, Int.reduceBEq, Int.reduceBNe, Int.reduceLT, Int.reduceLE, Int.reduceGT, Int.reduceGE, Int.reduceToNat, Int.natCast_one, Int.natCast_zero, Int.cast_ofNat_Int]
      have hit : ((splitB c s).map fun p => [AV.str p])[j]? = some [.str r] := by
        rw [hsp, ← hdone]; simp
      have hlen : ((splitB c s).map fun p => [AV.str p]).length = j + 1 := by rw [hsp]; simp [hdone]
      refine CallY.splitT (Ha := [(d, .cells [.int .i64 0]), (b, .cells [.str [c]]), (a, .cells [.str r])]) (hround j _ Hj Tj hit hJj) (fun p hp q hq => ?_) fun rv H1 T1 hR => ?_
      · simp only [List.mem_cons, List.not_mem_nil, or_false] at hp
        rcases hp with rfl | rfl | rfl
        · exact hap _ (by simp) q hq
        · exact hap _ (List.mem_cons_of_mem _ List.mem_cons_self) q hq
        · exact hap _ (List.mem_cons_of_mem _ (List.mem_cons_of_mem _ List.mem_cons_self)) q hq
      · simp +contextual (maxSteps := 1000000) only [go_sem, reduceCtorEq, ↓reduceIte, Nat.reduceAdd, Nat.reduceEqDiff, Nat.reduceLeDiff, Nat.reduceMul, Nat.reduceBEq, Int.reduceBEq, Int.reduceBNe, Int.reduceLT, Int.reduceLE, Int.reduceGT, Int.reduceGE, Int.reduceToNat, Int.natCast_one, Int.natCast_zero, Int.cast_ofNat_Int]
        rw [← hQ]
        refine ⟨trivial, H1, T1, ?_, fun p hp => by simp [hp], fun t ht => ht⟩
        rw [hlen]
        rcases hR with ⟨_, h⟩ | ⟨_, h⟩
        · exact .inl h
        · exact .inr h
    | some i =>
      rw [hix] at hsp
      simp only at hsp
      have hil := idxB_lt hix
      have hd : decide ((i : Int) < 0) = false := by simp
      have hw : IntKind.i64.wrap ((i : Int) + 0) = i := by rw [IntKind.wrap_i64]; omega
      have hw2 : IntKind.i64.wrap ((i : Int) + 1) = ((i + 1 : Nat) : Int) := by rw [IntKind.wrap_i64]; omega
      simp +contextual (maxSteps := 1000000) only [hab, had, hbd, (Ne.symm hab), (Ne.symm had), (Ne.symm hbd), hd, hw, Int.toNat_natCast, Int.toNat_zero, go_sem, reduceCtorEq, ↓reduceIte, Nat.reduceAdd, Nat.reduceEqDiff, Nat.reduceLeDiff, Nat.reduceMul, Nat.reduceBEq, Int.reduceBEq, Int.reduceBNe, Int.reduceLT, Int.reduceLE, Int.reduceGT, Int.reduceGE, Int.reduceToNat, Int.natCast_one, Int.natCast_zero, Int.cast_ofNat_Int]
      refine ⟨⟨by omega, by omega⟩, ?_⟩
      have hit : ((splitB c s).map fun p => [AV.str p])[j]? = some [.str (r.take i)] := by
        rw [hsp, ← hdone]; simp
      refine CallY.splitT (Ha := [(d, .cells [.int .i64 0]), (b, .cells [.str [c]]), (a, .cells [.str r])]) (hround j _ Hj Tj hit hJj) (fun p hp q hq => ?_) fun rv H1 T1 hR => ?_
      · simp only [List.mem_cons, List.not_mem_nil, or_false] at hp
        rcases hp with rfl | rfl | rfl
        · exact hap _ (by simp) q hq
        · exact hap _ (List.mem_cons_of_mem _ List.mem_cons_self) q hq
        · exact hap _ (List.mem_cons_of_mem _ (List.mem_cons_of_mem _ List.mem_cons_self)) q hq
      · rcases hR with ⟨rfl, hR⟩ | ⟨rfl, hR⟩
        · have hs1 : ∀ hb, setH H1 a hb = H1 := fun hb => setH_ne fun q hq => hJid _ _ _ hR (a, .cells [.str s]) (by simp) q hq
          simp +contextual (maxSteps := 1000000) only [hab, had, hbd, (Ne.symm hab), (Ne.symm had), (Ne.symm hbd), hw2, hs1, Int.toNat_natCast, Int.toNat_zero, go_sem, reduceCtorEq, ↓reduceIte, Nat.reduceAdd, Nat.reduceEqDiff, Nat.reduceLeDiff, Nat.reduceMul, Nat.reduceBEq, Int.reduceBEq, Int.reduceBNe, Int.reduceLT, Int.reduceLE, Int.reduceGT, Int.reduceGE, Int.reduceToNat, Int.natCast_one, Int.natCast_zero, Int.cast_ofNat_Int]
          refine ⟨⟨by omega, by omega, by omega⟩, ?_⟩
          rw [← hQ']
          simp only [w_kIt_n, w_kBlk_n, w_kSeq_n]
          refine ⟨0, (j + 1, r.drop (i + 1), H1, T1), ?_, ⟨hR, by simp only [List.length_drop]; omega, done ++ [r.take i], by simp [hdone], by rw [hsp]; simp⟩, by simp only [List.length_drop]; omega⟩
          refine Wk.perm ?_ (fun p hp => ?_)
          · repeat' first | exact AVle.refl _ _ | exact trivial | refine And.intro ?_ ?_
          · simp only [List.take_length]
            exact hp
        · simp +contextual (maxSteps := 1000000) only [hab, had, hbd, (Ne.symm hab), (Ne.symm had), (Ne.symm hbd), go_sem, reduceCtorEq, ↓reduceIte, Nat.reduceAdd, Nat.reduceEqDiff, Nat.reduceLeDiff, Nat.reduceMul, Nat.reduceBEq, Int.reduceBEq, Int.reduceBNe, Int.reduceLT, Int.reduceLE, Int.reduceGT, Int.reduceGE, Int.reduceToNat, Int.natCast_one, Int.natCast_zero, Int.cast_ofNat_Int]
          rw [← hQ']
          simp +contextual (maxSteps := 1000000) only [go_sem, reduceCtorEq, ↓reduceIte, Nat.reduceAdd, Nat.reduceEqDiff, Nat.reduceLeDiff, Nat.reduceMul, Nat.reduceBEq, Int.reduceBEq, Int.reduceBNe, Int.reduceLT, Int.reduceLE, Int.reduceGT, Int.reduceGE, Int.reduceToNat, Int.natCast_one, Int.natCast_zero, Int.cast_ofNat_Int]
          rw [← hQ]
          exact ⟨trivial, H1, T1, .inr hR, fun p hp => by simp [hp], fun t ht => ht⟩

/-- The iterator's own variables. -/
def hpSplit (s : List UInt8) (c : UInt8) (a b d : Nm) : Hp := [(d, .cells [.int .i64 0]), (b, .cells [.str [c]]), (a, .cells [.str s])]
theorem fs_splitSeq0 {Gl : Gh → Prop} (hst : Stays Gl) {s : List UInt8} {c : UInt8} : FS Tryd.prog Gl 38 [.str s, .str [c], .int .i64 0] [] [] (.fn (.func 47) [] [.ptr (0, 0, 1) 0, .ptr (0, 0, 0) 0, .ptr (0, 0, 2) 0]) (hpSplit s c (0, 0, 0) (0, 0, 1) (0, 0, 2)) [] := by
  refine FS.of hm hst is_stringssplitSeq (by simp) fun γ hγ hfr => ?_
  generalize hQ : (fun (ex : Ex) (_ _ : Nat) (s : St) => _) = Q
  unfold ir_stringssplitSeq
  simp +contextual (maxSteps := 1000000) only [go_sem, reduceCtorEq, ↓reduceIte, Nat.reduceAdd, Nat.reduceEqDiff, Nat.reduceLeDiff, Nat.reduceMul, Nat.reduceBEq, Int.reduceBEq, Int.reduceBNe, Int.reduceLT, Int.reduceLE, Int.reduceGT, Int.reduceGE, Int.reduceToNat, Int.natCast_one, Int.natCast_zero, Int.cast_ofNat_Int]
  rw [← hQ]
  refine ⟨trivial, [(γ, 0, 0), (γ, 1, 0), (γ, 2, 0)], by simp, by simp, rfl, ?_, by simp, ?_, ?_, by simp⟩
  · simp [rnH, hpSplit, rnN, rnHB, rnL, Ab.rn]
  · simp [AV.okIn, AV.okInL, nmOK]
  · simp [hpSplit, AV.okIn, AV.okInL, nmOK, HB.okIn]
theorem fs_SplitSeq {Gl : Gh → Prop} (hst : Stays Gl) {s : List UInt8} {c : UInt8} : FS Tryd.prog Gl 31 [.str s, .str [c]] [] [] (.fn (.func 47) [] [.ptr (0, 0, 1) 0, .ptr (0, 0, 0) 0, .ptr (0, 0, 2) 0]) (hpSplit s c (0, 0, 0) (0, 0, 1) (0, 0, 2)) [] := by
  refine FS.of hm hst is_stringsSplitSeq (by simp) fun γ hγ hfr => ?_
  generalize hQ : (fun (ex : Ex) (_ _ : Nat) (s : St) => _) = Q
  unfold ir_stringsSplitSeq
  simp +contextual (maxSteps := 1000000) only [go_sem, reduceCtorEq, ↓reduceIte, Nat.reduceAdd, Nat.reduceEqDiff, Nat.reduceLeDiff, Nat.reduceMul, Nat.reduceBEq, Int.reduceBEq, Int.reduceBNe, Int.reduceLT, Int.reduceLE, Int.reduceGT, Int.reduceGE, Int.reduceToNat, Int.natCast_one, Int.natCast_zero, Int.cast_ofNat_Int]
  refine CallP.of (fs_splitSeq0 hst) (by simp) (by simp) ?_
  simp only [rnH, hpSplit, rnN, rnHB, rnL, Ab.rn]
  simp +contextual (maxSteps := 1000000) only [go_sem, reduceCtorEq, ↓reduceIte, Nat.reduceAdd, Nat.reduceEqDiff, Nat.reduceLeDiff, Nat.reduceMul, Nat.reduceBEq, Int.reduceBEq, Int.reduceBNe, Int.reduceLT, Int.reduceLE, Int.reduceGT, Int.reduceGE, Int.reduceToNat, Int.natCast_one, Int.natCast_zero, Int.cast_ofNat_Int]
  rw [← hQ]
  refine ⟨trivial, [(γ, 3, 0), (γ, 3, 1), (γ, 3, 2)], by simp, by simp, rfl, ?_, by simp, ?_, ?_, by simp⟩
  · simp [rnH, hpSplit, rnN, rnHB, rnL, Ab.rn]
  · simp [AV.okIn, AV.okInL, nmOK]
  · simp [hpSplit, AV.okIn, AV.okInL, nmOK, HB.okIn]
end Go.Proofs.YtgdgfefojfgpaaaDoor

/- Whether a sequence may be (layer 3 of the program). -/
set_option linter.unusedVariables false
set_option linter.unusedSimpArgs false
set_option maxRecDepth 100000
namespace Go.Proofs.YtgdgfefojfgpaaaDoor
open Go Go.Ab
/-- slices.Equal[[]int,int] -/
def ir_slicesEqualintint : ICode :=
 (.seq
  (.reg [⟨some 4, none, .mov (.c (.bool false))⟩] (some [0, 1]))
  (.seq
   (.seq
    (.reg [⟨some 6, none, .mov (.t 0)⟩,
      ⟨some 7, none, .len (.t 6)⟩,
      ⟨some 8, none, .mov (.t 1)⟩,
      ⟨some 9, none, .len (.t 8)⟩,
      ⟨some 10, none, .bin .neq .none (.t 7) (.t 9)⟩] (some [0, 1, 10]))
    (.cond (.t 10)
     (.seq
      (.reg [⟨some 4, none, .mov (.c (.bool false))⟩] (some [4]))
      .ret)
     .skip))
   (.seq
    (.seq
     (.reg [⟨some 11, none, .mov (.t 0)⟩,
       ⟨some 12, none, .len (.t 11)⟩,
       ⟨some 13, none, .mov (.c (.int .i64 0))⟩] (some [0, 1, 12, 13]))
     (.blk 0
      (.loop
       (.seq
        (.reg [⟨some 14, none, .bin .lss .none (.t 13) (.t 12)⟩] (some [0, 1, 12, 13, 14]))
        (.seq
         (.cond (.t 14)
          .skip
          (.exit 0))
         (.seq
          (.blk 1
           (.seq
            (.reg [⟨some 15, none, .mov (.t 13)⟩,
              ⟨some 5, none, .mov (.t 15)⟩] (some [0, 1, 5, 12, 13]))
            (.seq
             (.drw [⟨⟨some 16, none, .mov (.t 0)⟩, []⟩,
               ⟨⟨some 17, none, .mov (.t 5)⟩, []⟩,
               ⟨⟨some 18, none, .ia 1 (.t 16) (.t 17)⟩, [0, 1]⟩,
               ⟨⟨some 19, none, .ld none (.t 18)⟩, [2]⟩,
               ⟨⟨some 20, none, .mov (.t 1)⟩, []⟩,
               ⟨⟨some 21, none, .mov (.t 5)⟩, []⟩,
               ⟨⟨some 22, none, .ia 1 (.t 20) (.t 21)⟩, [4, 5]⟩,
               ⟨⟨some 23, none, .ld none (.t 22)⟩, [6]⟩,
               ⟨⟨some 24, none, .bin .neq .none (.t 19) (.t 23)⟩, [3, 7]⟩]
               [] (some [0, 1, 12, 13, 24]))
             (.cond (.t 24)
              (.seq
               (.reg [⟨some 4, none, .mov (.c (.bool false))⟩] (some [4]))
               .ret)
              .skip))))
          (.reg [⟨some 25, none, .bin .add .none (.t 13) (.c (.int .i64 1))⟩,
            ⟨some 13, none, .mov (.t 25)⟩] (some [0, 1, 12, 13]))))))))
    (.seq
     (.reg [⟨some 4, none, .mov (.c (.bool true))⟩] (some [4]))
     .ret))))
theorem is_slicesEqualintint : IrOf Tryd.prog 53 26 ir_slicesEqualintint [.t 4] := ⟨_, Tryd.func53, rfl, by kernel_rfl, by kernel_rfl, by kernel_rfl⟩

/-- slices.IndexFunc[[]int,int] -/
def ir_slicesIndexFuncintint : ICode :=
 (.seq
  (.reg [⟨some 4, none, .mov (.c (.int .i64 0))⟩] (some [0, 1]))
  (.seq
   (.seq
    (.reg [⟨some 6, none, .mov (.t 0)⟩,
      ⟨some 7, none, .len (.t 6)⟩,
      ⟨some 8, none, .mov (.c (.int .i64 0))⟩] (some [0, 1, 7, 8]))
    (.blk 0
     (.loop
      (.seq
       (.reg [⟨some 9, none, .bin .lss .none (.t 8) (.t 7)⟩] (some [0, 1, 7, 8, 9]))
       (.seq
        (.cond (.t 9)
         .skip
         (.exit 0))
        (.seq
         (.blk 1
          (.seq
           (.reg [⟨some 10, none, .mov (.t 8)⟩,
             ⟨some 5, none, .mov (.t 10)⟩] (some [0, 1, 5, 7, 8]))
           (.seq
            (.reg [⟨some 11, none, .mov (.t 1)⟩,
              ⟨some 12, none, .mov (.t 0)⟩,
              ⟨some 13, none, .mov (.t 5)⟩,
              ⟨some 14, none, .ia 1 (.t 12) (.t 13)⟩,
              ⟨some 15, none, .ld none (.t 14)⟩,
              ⟨some 16, none, .call (.t 11) [(.t 15)]⟩] (some [0, 1, 5, 7, 8, 16]))
            (.cond (.t 16)
             (.seq
              (.reg [⟨some 17, none, .mov (.t 5)⟩,
                ⟨some 4, none, .mov (.t 17)⟩] (some [4]))
              .ret)
             .skip))))
         (.reg [⟨some 18, none, .bin .add .none (.t 8) (.c (.int .i64 1))⟩,
           ⟨some 8, none, .mov (.t 18)⟩] (some [0, 1, 7, 8]))))))))
   (.seq
    (.reg [⟨some 4, none, .mov (.c (.int .i64 (-1)))⟩] (some [4]))
    .ret)))
theorem is_slicesIndexFuncintint : IrOf Tryd.prog 60 19 ir_slicesIndexFuncintint [.t 4] := ⟨_, Tryd.func60, rfl, by kernel_rfl, by kernel_rfl, by kernel_rfl⟩

/-- slices.ContainsFunc[[]int,int] -/
def ir_slicesContainsFuncintint : ICode :=
 (.seq
  (.reg [⟨some 4, none, .mov (.c (.bool false))⟩] (some [0, 1]))
  (.seq
   (.reg [⟨some 5, none, .mov (.t 0)⟩,
     ⟨some 6, none, .mov (.t 1)⟩,
     ⟨some 7, none, .call (.c (.fn (.func 60) [] [])) [(.t 5), (.t 6)]⟩,
     ⟨some 8, none, .bin .geq .none (.t 7) (.c (.int .i64 0))⟩,
     ⟨some 4, none, .mov (.t 8)⟩] (some [4]))
   .ret))
theorem is_slicesContainsFuncintint : IrOf Tryd.prog 54 9 ir_slicesContainsFuncintint [.t 4] := ⟨_, Tryd.func54, rfl, by kernel_rfl, by kernel_rfl, by kernel_rfl⟩

/-- clavier/wire.listed$1 -/
def ir_wirelisted1 : ICode :=
 (.seq
  (.reg [⟨some 2, none, .mov (.c (.bool false))⟩] (some [0]))
  (.seq
   (.reg [⟨some 3, none, .mov (.t 0)⟩,
     ⟨some 4, none, .bin .lss .none (.t 3) (.c (.int .i64 (-1)))⟩,
     ⟨some 5, none, .mov (.t 4)⟩,
     ⟨some 6, some (5, false), .mov (.t 0)⟩,
     ⟨some 7, some (5, false), .bin .gtr .none (.t 6) (.c (.int .i64 1114111))⟩,
     ⟨some 8, none, .pick (.t 5) (.c (.bool true)) (.t 7)⟩,
     ⟨some 2, none, .mov (.t 8)⟩] (some [2]))
   .ret))
theorem is_wirelisted1 : IrOf Tryd.prog 55 9 ir_wirelisted1 [.t 2] := ⟨_, Tryd.func55, rfl, by kernel_rfl, by kernel_rfl, by kernel_rfl⟩

/- clavier/wire.listed -/
def ir_wirelisted_l0 : ICode :=
 (.seq
        (.reg [⟨some 24, none, .bin .lss .none (.t 23) (.t 22)⟩] (some [21, 22, 23, 24]))
        (.seq
         (.cond (.t 24)
          .skip
          (.exit 0))
         (.seq
          (.blk 1
           (.seq
            (.reg [⟨some 25, none, .ia 1 (.t 21) (.t 23)⟩,
              ⟨some 26, none, .ld none (.t 25)⟩,
              ⟨some 4, none, .mov (.t 26)⟩] (some [4, 21, 22, 23]))
            (.seq
             (.reg [⟨some 27, none, .mov (.t 4)⟩,
               ⟨some 28, none, .call (.c (.fn (.func 54) [] [])) [(.t 27), (.c (.fn (.func 55) [] []))]⟩,
               ⟨some 5, none, .mov (.t 28)⟩] (some [4, 5, 21, 22, 23]))
             (.seq
              (.reg [⟨some 29, none, .mov (.t 5)⟩,
                ⟨some 30, none, .mov (.t 29)⟩,
                ⟨some 31, some (30, false), .mov (.t 4)⟩,
                ⟨some 32, some (30, false), .len (.t 31)⟩,
                ⟨some 33, some (30, false), .bin .lss .none (.t 32) (.c (.int .i64 1))⟩,
                ⟨some 34, none, .pick (.t 30) (.c (.bool true)) (.t 33)⟩,
                ⟨some 35, none, .mov (.t 34)⟩,
                ⟨some 36, some (35, false), .mov (.t 4)⟩,
                ⟨some 37, some (35, false), .len (.t 36)⟩,
                ⟨some 38, some (35, false), .bin .gtr .none (.t 37) (.c (.int .i64 8))⟩,
                ⟨some 39, none, .pick (.t 35) (.c (.bool true)) (.t 38)⟩] (some [21, 22, 23, 39]))
              (.cond (.t 39)
               (.seq
                (.reg [⟨some 2, none, .mov (.c (.bool false))⟩] (some [2]))
                .ret)
               .skip)))))
          (.reg [⟨some 40, none, .bin .add .none (.t 23) (.c (.int .i64 1))⟩,
            ⟨some 23, none, .mov (.t 40)⟩] (some [21, 22, 23])))))
def ir_wirelisted : ICode :=
 (.seq
  (.reg [⟨some 2, none, .mov (.c (.bool false))⟩] (some [0]))
  (.seq
   (.seq
    (.reg [⟨some 6, none, .mov (.t 0)⟩,
      ⟨some 7, none, .len (.t 6)⟩,
      ⟨some 8, none, .bin .gtr .none (.t 7) (.c (.int .i64 16))⟩,
      ⟨some 9, none, .mov (.t 8)⟩,
      ⟨some 10, some (9, false), .mov (.t 0)⟩,
      ⟨some 11, some (9, false), .len (.t 10)⟩,
      ⟨some 12, some (9, false), .bin .eql .none (.t 11) (.c (.int .i64 1))⟩,
      ⟨some 13, some (9, false), .mov (.t 12)⟩,
      ⟨some 14, some (13, true), .mov (.t 0)⟩,
      ⟨some 15, some (13, true), .ia 1 (.t 14) (.c (.int .i64 0))⟩,
      ⟨some 16, some (13, true), .ld none (.t 15)⟩,
      ⟨some 17, some (13, true), .row 3 1 [(.c (.int .i64 (-1)))]⟩,
      ⟨some 18, some (13, true), .call (.c (.fn (.func 53) [] [])) [(.t 16), (.t 17)]⟩,
      ⟨some 19, some (9, false), .pick (.t 13) (.t 18) (.c (.bool false))⟩,
      ⟨some 20, none, .pick (.t 9) (.c (.bool true)) (.t 19)⟩] (some [0, 20]))
    (.cond (.t 20)
     (.seq
      (.reg [⟨some 2, none, .mov (.c (.bool false))⟩] (some [2]))
      .ret)
     .skip))
   (.seq
    (.seq
     (.reg [⟨some 21, none, .mov (.t 0)⟩,
       ⟨some 22, none, .len (.t 21)⟩,
       ⟨some 23, none, .mov (.c (.int .i64 0))⟩] (some [21, 22, 23]))
     (.blk 0
      (.loop
       ir_wirelisted_l0)))
    (.seq
     (.reg [⟨some 2, none, .mov (.c (.bool true))⟩] (some [2]))
     .ret))))
theorem is_wirelisted : IrOf Tryd.prog 41 41 ir_wirelisted [.t 2] := ⟨_, Tryd.func41, rfl, by kernel_rfl, by kernel_rfl, by kernel_rfl⟩


theorem fs_EqualInts {Gl : Gh → Prop} (hst : Stays Gl) {a b : List Int} {ta tb : Option Nm} (ha : a.length < 9223372036854775808) (hb : b.length < 9223372036854775808) : FS Tryd.prog Gl 53 [.sl ta 1 (intsAV a), .sl tb 1 (intsAV b)] [] [] (.bool (decide (a = b))) [] [] := by
  refine FS.of hm hst is_slicesEqualintint (by simp) fun γ hγ hfr => ?_
  (generalize hQ : (fun (ex : Ex) (_ _ : Nat) (s : St) => _) = Q; unfold ir_slicesEqualintint)
  simp +contextual (maxSteps := 1000000) only [intsAV_length, go_sem, reduceCtorEq, ↓reduceIte, Nat.reduceAdd, Nat.reduceEqDiff, Nat.reduceLeDiff, Nat.reduceMul, Nat.reduceBEq, Int.reduceBEq, Int.reduceBNe, Int.reduceLT, Int.reduceLE, Int.reduceGT, Int.reduceGE, Int.reduceToNat, Int.natCast_one, Int.natCast_zero, Int.cast_ofNat_Int]
  refine kCond_split (fun h => ?_) (fun h => ?_)
  · simp +contextual (maxSteps := 1000000) only [go_sem, reduceCtorEq, ↓reduceIte, Nat.reduceAdd, Nat.reduceEqDiff, Nat.reduceLeDiff, Nat.reduceMul, Nat.reduceBEq, Int.reduceBEq, Int.reduceBNe, Int.reduceLT, Int.reduceLE, Int.reduceGT, Int.reduceGE, Int.reduceToNat, Int.natCast_one, Int.natCast_zero, Int.cast_ofNat_Int]
    rw [← hQ]
    have : decide (a = b) = false := by
      simp only [bne_iff_ne, ne_eq] at h
      rw [decide_eq_false_iff_not]; intro e; subst e; simp at h
    rw [this]
    exact ⟨trivial, Ret.flat rfl rfl⟩
  · have hl : a.length = b.length := by simp at h; omega
    simp +contextual (maxSteps := 1000000) only [intsAV_length, go_sem, reduceCtorEq, ↓reduceIte, Nat.reduceAdd, Nat.reduceEqDiff, Nat.reduceLeDiff, Nat.reduceMul, Nat.reduceBEq, Int.reduceBEq, Int.reduceBNe, Int.reduceLT, Int.reduceLE, Int.reduceGT, Int.reduceGE, Int.reduceToNat, Int.natCast_one, Int.natCast_zero, Int.cast_ofNat_Int]
    refine kLoop_ix (fun i : Nat => ⟨lf [(0, .sl ta 1 (intsAV a)), (1, .sl tb 1 (intsAV b)), (12, .int .i64 a.length), (13, .int .i64 i)], [], fun x => x ∈ []⟩) (fun i => i ≤ a.length ∧ a.take i = b.take i) (fun i => a.length - i) 0 0 (Wk.same ?_) ?_ ?_
    · (simp only [lfOK, upd, initF]; repeat' first | exact AVle.refl _ _ | exact trivial | refine And.intro ?_ ?_ | exact AVle.int (by simp only [IntKind.wrap_i64]; omega))
    · simp
    · rintro γ' i hf ⟨hi, hinv⟩
      generalize hQ' : kIt _ _ _ _ _ = Q'
      by_cases hlt : i < a.length
      · have hd : decide ((i : Int) < (a.length : Int)) = true := by simp; omega
        have g1 : (intsAV a).getD (i : Int).toNat [] = [.int .i64 a[i]] := by rw [Int.toNat_natCast]; exact intsAV_get hlt
        have g2 : (intsAV b).getD (i : Int).toNat [] = [.int .i64 (b[i]'(by omega))] := by rw [Int.toNat_natCast]; exact intsAV_get (by omega)
        simp +contextual (maxSteps := 1000000) only [intsAV_length, hd, g1, g2, go_sem, reduceCtorEq, ↓reduceIte, Nat.reduceAdd, Nat.reduceEqDiff, Nat.reduceLeDiff, Nat.reduceMul, Nat.reduceBEq, Int.reduceBEq, Int.reduceBNe, Int.reduceLT, Int.reduceLE, Int.reduceGT, Int.reduceGE, Int.reduceToNat, Int.natCast_one, Int.natCast_zero, Int.cast_ofNat_Int]
        refine ⟨by omega, by omega, kCond_split (fun h1 => ?_) (fun h1 => ?_)⟩
        · simp +contextual (maxSteps := 1000000) only [go_sem, reduceCtorEq, ↓reduceIte, Nat.reduceAdd, Nat.reduceEqDiff, Nat.reduceLeDiff, Nat.reduceMul, Nat.reduceBEq, Int.reduceBEq, Int.reduceBNe, Int.reduceLT, Int.reduceLE, Int.reduceGT, Int.reduceGE, Int.reduceToNat, Int.natCast_one, Int.natCast_zero, Int.cast_ofNat_Int]
          rw [← hQ']
          simp only [w_kIt_r, w_kBlk_r, w_kSeq_r]
          have e : decide (a = b) = false := by
            simp only [bne_iff_ne, ne_eq] at h1
            rw [decide_eq_false_iff_not]; intro e; subst e; exact h1 rfl
          rw [← hQ, e]
          exact ⟨trivial, Ret.flat rfl rfl⟩
        · simp +contextual (maxSteps := 1000000) only [go_sem, reduceCtorEq, ↓reduceIte, Nat.reduceAdd, Nat.reduceEqDiff, Nat.reduceLeDiff, Nat.reduceMul, Nat.reduceBEq, Int.reduceBEq, Int.reduceBNe, Int.reduceLT, Int.reduceLE, Int.reduceGT, Int.reduceGE, Int.reduceToNat, Int.natCast_one, Int.natCast_zero, Int.cast_ofNat_Int]
          rw [← hQ']
          simp only [w_kIt_n]
          refine ⟨0, i + 1, Wk.same ?_, ⟨by omega, ?_⟩, by omega⟩
          · repeat' first | exact AVle.refl _ _ | exact trivial | refine And.intro ?_ ?_ | exact AVle.int (by simp only [IntKind.wrap_i64]; omega)
          · have h2 : a[i] = b[i]'(by omega) := by simpa using h1
            rw [List.take_add_one, List.take_add_one, hinv, List.getElem?_eq_getElem hlt, List.getElem?_eq_getElem (show i < b.length by omega), h2]
      · have hd : decide ((i : Int) < (a.length : Int)) = false := by simp; omega
        simp +contextual (maxSteps := 1000000) only [intsAV_length, hd, go_sem, reduceCtorEq, ↓reduceIte, Nat.reduceAdd, Nat.reduceEqDiff, Nat.reduceLeDiff, Nat.reduceMul, Nat.reduceBEq, Int.reduceBEq, Int.reduceBNe, Int.reduceLT, Int.reduceLE, Int.reduceGT, Int.reduceGE, Int.reduceToNat, Int.natCast_one, Int.natCast_zero, Int.cast_ofNat_Int]
        rw [← hQ']
        simp only [w_kIt_e, w_kBlk_e, ↓reduceIte]
        simp +contextual (maxSteps := 1000000) only [go_sem, reduceCtorEq, ↓reduceIte, Nat.reduceAdd, Nat.reduceEqDiff, Nat.reduceLeDiff, Nat.reduceMul, Nat.reduceBEq, Int.reduceBEq, Int.reduceBNe, Int.reduceLT, Int.reduceLE, Int.reduceGT, Int.reduceGE, Int.reduceToNat, Int.natCast_one, Int.natCast_zero, Int.cast_ofNat_Int]
        have e : decide (a = b) = true := by
          rw [decide_eq_true_eq]
          have h3 := hinv
          rw [List.take_of_length_le (by omega), List.take_of_length_le (by omega)] at h3
          exact h3
        rw [← hQ, e]
        exact ⟨trivial, Ret.flat rfl rfl⟩

/-- Where a number stands first of which something holds. -/
def idxP (q : Int → Bool) : List Int → Option Nat
  | [] => none
  | n :: l => if q n = true then some 0 else (idxP q l).map (· + 1)
theorem idxP_any (q : Int → Bool) : ∀ l, (idxP q l).isSome = l.any q
  | [] => rfl
  | n :: l => by
    simp only [idxP, List.any_cons]
    split
    · rename_i h; simp [h]
    · rename_i h
      have h : q n = false := by simpa using h
      simp [h, idxP_any q l]
theorem fs_IndexFuncInts {Gl : Gh → Prop} (hst : Stays Gl) {a : List Int} {ta : Option Nm} {k : Nat} {caps : List AV} {q : Int → Bool} (ha : a.length < 9223372036854775808) (hk : ∀ c, c ∈ a → FS Tryd.prog Gl k (.int .i64 c :: caps) [] [] (.bool (q c)) [] []) :
    FS Tryd.prog Gl 60 [.sl ta 1 (intsAV a), .fn (.func k) [] caps] [] [] (.int .i64 (match idxP q a with | some i => (i : Int) | none => -1)) [] [] := by
  refine FS.of hm hst is_slicesIndexFuncintint (by simp) fun γ hγ hfr => ?_
  (generalize hQ : (fun (ex : Ex) (_ _ : Nat) (s : St) => _) = Q; unfold ir_slicesIndexFuncintint)
  simp +contextual (maxSteps := 1000000) only [intsAV_length, go_sem, reduceCtorEq, ↓reduceIte, Nat.reduceAdd, Nat.reduceEqDiff, Nat.reduceLeDiff, Nat.reduceMul, Nat.reduceBEq, Int.reduceBEq, Int.reduceBNe, Int.reduceLT, Int.reduceLE, Int.reduceGT, Int.reduceGE, Int.reduceToNat, Int.natCast_one, Int.natCast_zero, Int.cast_ofNat_Int]
  refine kLoop_ix (fun i : Nat => ⟨lf [(0, .sl ta 1 (intsAV a)), (1, .fn (.func k) [] caps), (7, .int .i64 a.length), (8, .int .i64 i)], [], fun x => x ∈ []⟩) (fun i => i ≤ a.length ∧ idxP q a = (idxP q (a.drop i)).map (· + i)) (fun i => a.length - i) 0 0 (Wk.same ?_) ?_ ?_
  · (simp only [lfOK, upd, initF]; repeat' first | exact AVle.refl _ _ | exact trivial | refine And.intro ?_ ?_ | exact AVle.int (by simp only [IntKind.wrap_i64]; omega))
  · simp
  · rintro γ' i hf ⟨hi, hinv⟩
    generalize hQ' : kIt _ _ _ _ _ = Q'
    by_cases hlt : i < a.length
    · have hd : decide ((i : Int) < (a.length : Int)) = true := by simp; omega
      have g1 : (intsAV a).getD (i : Int).toNat [] = [.int .i64 a[i]] := by rw [Int.toNat_natCast]; exact intsAV_get hlt
      have hdrop : a.drop i = a[i] :: a.drop (i + 1) := List.drop_eq_getElem_cons hlt
      rw [hdrop] at hinv
      simp +contextual (maxSteps := 1000000) only [intsAV_length, hd, g1, go_sem, reduceCtorEq, ↓reduceIte, Nat.reduceAdd, Nat.reduceEqDiff, Nat.reduceLeDiff, Nat.reduceMul, Nat.reduceBEq, Int.reduceBEq, Int.reduceBNe, Int.reduceLT, Int.reduceLE, Int.reduceGT, Int.reduceGE, Int.reduceToNat, Int.natCast_one, Int.natCast_zero, Int.cast_ofNat_Int]
      refine ⟨by omega, CallP.pure (hk _ (List.getElem_mem hlt)) (fun _ => rfl) ?_⟩
      cases hq : q a[i] with
      | true =>
        simp +contextual (maxSteps := 1000000) only [go_sem, reduceCtorEq, ↓reduceIte, Nat.reduceAdd, Nat.reduceEqDiff, Nat.reduceLeDiff, Nat.reduceMul, Nat.reduceBEq, Int.reduceBEq, Int.reduceBNe, Int.reduceLT, Int.reduceLE, Int.reduceGT, Int.reduceGE, Int.reduceToNat, Int.natCast_one, Int.natCast_zero, Int.cast_ofNat_Int]
        rw [← hQ', ← hQ, hinv]
        simp only [w_kIt_r, w_kBlk_r, w_kSeq_r, idxP, hq, if_true]
        exact ⟨trivial, Ret.flat (by simp [resOf, getAll, IRes.get, lf]) rfl⟩
      | false =>
        simp +contextual (maxSteps := 1000000) only [go_sem, reduceCtorEq, ↓reduceIte, Nat.reduceAdd, Nat.reduceEqDiff, Nat.reduceLeDiff, Nat.reduceMul, Nat.reduceBEq, Int.reduceBEq, Int.reduceBNe, Int.reduceLT, Int.reduceLE, Int.reduceGT, Int.reduceGE, Int.reduceToNat, Int.natCast_one, Int.natCast_zero, Int.cast_ofNat_Int]
        rw [← hQ']
        simp only [w_kIt_n]
        refine ⟨0, i + 1, Wk.same ?_, ⟨by omega, ?_⟩, by omega⟩
        · repeat' first | exact AVle.refl _ _ | exact trivial | refine And.intro ?_ ?_ | exact AVle.int (by simp only [IntKind.wrap_i64]; omega)
        · rw [hinv]
          simp only [idxP, hq, Bool.false_eq_true, if_false, Option.map_map]
          congr 1
          funext x; simp; omega
    · have hd : decide ((i : Int) < (a.length : Int)) = false := by simp; omega
      simp +contextual (maxSteps := 1000000) only [intsAV_length, hd, go_sem, reduceCtorEq, ↓reduceIte, Nat.reduceAdd, Nat.reduceEqDiff, Nat.reduceLeDiff, Nat.reduceMul, Nat.reduceBEq, Int.reduceBEq, Int.reduceBNe, Int.reduceLT, Int.reduceLE, Int.reduceGT, Int.reduceGE, Int.reduceToNat, Int.natCast_one, Int.natCast_zero, Int.cast_ofNat_Int]
      rw [← hQ']
      simp only [w_kIt_e, w_kBlk_e, ↓reduceIte]
      simp +contextual (maxSteps := 1000000) only [go_sem, reduceCtorEq, ↓reduceIte, Nat.reduceAdd, Nat.reduceEqDiff, Nat.reduceLeDiff, Nat.reduceMul, Nat.reduceBEq, Int.reduceBEq, Int.reduceBNe, Int.reduceLT, Int.reduceLE, Int.reduceGT, Int.reduceGE, Int.reduceToNat, Int.natCast_one, Int.natCast_zero, Int.cast_ofNat_Int]
      rw [List.drop_of_length_le (by omega)] at hinv
      rw [← hQ, hinv]
      exact ⟨trivial, Ret.flat rfl rfl⟩

theorem fs_ContainsFuncInts {Gl : Gh → Prop} (hst : Stays Gl) {a : List Int} {ta : Option Nm} {k : Nat} {caps : List AV} {q : Int → Bool} (ha : a.length < 9223372036854775808) (hk : ∀ c, c ∈ a → FS Tryd.prog Gl k (.int .i64 c :: caps) [] [] (.bool (q c)) [] []) :
    FS Tryd.prog Gl 54 [.sl ta 1 (intsAV a), .fn (.func k) [] caps] [] [] (.bool (a.any q)) [] [] := by
  refine FS.of hm hst is_slicesContainsFuncintint (by simp) fun γ hγ hfr => ?_
  (generalize hQ : (fun (ex : Ex) (_ _ : Nat) (s : St) => _) = Q; unfold ir_slicesContainsFuncintint)
  simp +contextual (maxSteps := 1000000) only [go_sem, reduceCtorEq, ↓reduceIte, Nat.reduceAdd, Nat.reduceEqDiff, Nat.reduceLeDiff, Nat.reduceMul, Nat.reduceBEq, Int.reduceBEq, Int.reduceBNe, Int.reduceLT, Int.reduceLE, Int.reduceGT, Int.reduceGE, Int.reduceToNat, Int.natCast_one, Int.natCast_zero, Int.cast_ofNat_Int]
  refine CallP.pure (fs_IndexFuncInts hst ha hk) (fun _ => rfl) ?_
  have hi : decide ((match idxP q a with | some i => (i : Int) | none => -1) ≥ 0) = a.any q := by
    rw [← idxP_any]
    cases idxP q a with
    | none => rfl
    | some i => simp
  generalize (match idxP q a with | some i => (i : Int) | none => -1) = x at hi
  simp +contextual (maxSteps := 1000000) only [hi, go_sem, reduceCtorEq, ↓reduceIte, Nat.reduceAdd, Nat.reduceEqDiff, Nat.reduceLeDiff, Nat.reduceMul, Nat.reduceBEq, Int.reduceBEq, Int.reduceBNe, Int.reduceLT, Int.reduceLE, Int.reduceGT, Int.reduceGE, Int.reduceToNat, Int.natCast_one, Int.natCast_zero, Int.cast_ofNat_Int]
  rw [← hQ]
  exact ⟨trivial, Ret.flat rfl rfl⟩

theorem fs_listed1 {Gl : Gh → Prop} (hst : Stays Gl) {n : Int} : FS Tryd.prog Gl 55 [.int .i64 n] [] [] (.bool (decide (n < -1) || decide (n > 1114111))) [] [] := by
  refine FS.of hm hst is_wirelisted1 (by simp) fun γ hγ hfr => ?_
  (generalize hQ : (fun (ex : Ex) (_ _ : Nat) (s : St) => _) = Q; unfold ir_wirelisted1)
  simp +contextual (maxSteps := 1000000) only [go_sem, reduceCtorEq, ↓reduceIte, Nat.reduceAdd, Nat.reduceEqDiff, Nat.reduceLeDiff, Nat.reduceMul, Nat.reduceBEq, Int.reduceBEq, Int.reduceBNe, Int.reduceLT, Int.reduceLE, Int.reduceGT, Int.reduceGE, Int.reduceToNat, Int.natCast_one, Int.natCast_zero, Int.cast_ofNat_Int]
  rw [← hQ]
  exact ⟨trivial, Ret.flat rfl rfl⟩

/-- A parameter that may not be. -/
def parBad (p : List Int) : Bool := p.any (fun n => decide (n < -1) || decide (n > 1114111)) || (decide (p.length < 1) || decide (p.length > 8))
theorem lp_listed {Gl : Gh → Prop} (hst : Stays Gl) {l : List (List Int)} (ha : l.length < 9223372036854775808) (hb : ∀ p ∈ l, p.length < 9223372036854775808) {γ c : Nat} {F : Nat → AV} {T : Tk} {K : Ex → Nat → Nat → St → Prop}
    (hF : lfOK [] F [(21, .sl none 1 (parsAV l)), (22, .int .i64 l.length), (23, .int .i64 0)])
    (hret : l.any parBad = true → ∀ γ c F, F 2 = .bool false → K .ret γ c ⟨F, [], T⟩) (hex : l.any parBad = false → ∀ γ c F, K (.exit 0) γ c ⟨F, [], T⟩) : kLoop Tryd.prog Gl ir_wirelisted_l0 γ c ⟨F, [], T⟩ K := by
  refine kLoop_ix (fun i : Nat => ⟨lf [(21, .sl none 1 (parsAV l)), (22, .int .i64 l.length), (23, .int .i64 i)], [], T⟩) (fun i => i ≤ l.length ∧ l.any parBad = (l.drop i).any parBad) (fun i => l.length - i) 0 0 (Wk.same hF) (by simp) ?_
  rintro γ' i hf ⟨hi, hinv⟩
  generalize hK : kIt _ _ _ _ _ = K'
  unfold ir_wirelisted_l0
  by_cases hlt : i < l.length
  · have hd : decide ((i : Int) < (l.length : Int)) = true := by simp; omega
    have g1 : (parsAV l).getD (i : Int).toNat [] = [intsV l[i]] := by rw [Int.toNat_natCast]; exact parsAV_get hlt
    have hdrop : l.drop i = l[i] :: l.drop (i + 1) := List.drop_eq_getElem_cons hlt
    rw [hdrop, List.any_cons] at hinv
    have hm : l[i] ∈ l := List.getElem_mem hlt
    generalize l[i] = p at g1 hinv hm
    simp +contextual (maxSteps := 1000000) only [parsAV_length, hd, g1, go_sem, reduceCtorEq, ↓reduceIte, Nat.reduceAdd, Nat.reduceEqDiff, Nat.reduceLeDiff, Nat.reduceMul, Nat.reduceBEq, Int.reduceBEq, Int.reduceBNe, Int.reduceLT, Int.reduceLE, Int.reduceGT, Int.reduceGE, Int.reduceToNat, Int.natCast_one, Int.natCast_zero, Int.cast_ofNat_Int]
    refine ⟨by omega, CallP.pure (fs_ContainsFuncInts hst (hb p hm) (fun c _ => fs_listed1 hst)) (fun _ => rfl) ?_⟩
    have fin1 : parBad p = true → ∀ γ c F, F 2 = .bool false → K' .ret γ c ⟨F, [], T⟩ := fun h γ c F hF => by
      rw [← hK]; simp only [w_kIt_r]; exact hret (by rw [hinv, h]; rfl) γ c F hF
    have fin2 : parBad p = false → ∀ γ c F, F 21 = .sl none 1 (parsAV l) → F 22 = .int .i64 l.length → F 23 = .int .i64 (i + 1 : Nat) → K' .normal γ c ⟨F, [], T⟩ := fun h γ c F h1 h2 h3 => by
      rw [← hK]; simp only [w_kIt_n]
      refine ⟨0, i + 1, Wk.same ⟨.inl h1.symm, .inl h2.symm, .inl h3.symm, trivial⟩, ⟨by omega, ?_⟩, by omega⟩
      rw [hinv, h]; rfl
    have hw : IntKind.i64.wrap ((i : Int) + 1) = ((i + 1 : Nat) : Int) := by rw [IntKind.wrap_i64]; omega
    unfold parBad at fin1 fin2
    cases h1 : p.any (fun n => decide (n < -1) || decide (n > 1114111)) with
    | true =>
      rw [h1] at fin1
      simp +contextual (maxSteps := 1000000) only [go_sem, reduceCtorEq, ↓reduceIte, Nat.reduceAdd, Nat.reduceEqDiff, Nat.reduceLeDiff, Nat.reduceMul, Nat.reduceBEq, Int.reduceBEq, Int.reduceBNe, Int.reduceLT, Int.reduceLE, Int.reduceGT, Int.reduceGE, Int.reduceToNat, Int.natCast_one, Int.natCast_zero, Int.cast_ofNat_Int]
      exact fin1 rfl _ _ _ rfl
    | false =>
      rw [h1] at fin1 fin2
      have i1 : decide ((p.length : Int) < 1) = decide (p.length < 1) := by rw [decide_eq_decide]; omega
      have i2 : decide ((p.length : Int) > 8) = decide (p.length > 8) := by rw [decide_eq_decide]; omega
      cases h2 : decide (p.length < 1) with
      | true =>
        rw [h2] at fin1
        simp +contextual (maxSteps := 1000000) only [intsV, intsAV_length, i1, h2, go_sem, reduceCtorEq, ↓reduceIte, Nat.reduceAdd, Nat.reduceEqDiff, Nat.reduceLeDiff, Nat.reduceMul, Nat.reduceBEq, Int.reduceBEq, Int.reduceBNe, Int.reduceLT, Int.reduceLE, Int.reduceGT, Int.reduceGE, Int.reduceToNat, Int.natCast_one, Int.natCast_zero, Int.cast_ofNat_Int]
        exact fin1 rfl _ _ _ rfl
      | false =>
        rw [h2] at fin1 fin2
        cases h3 : decide (p.length > 8) with
        | true =>
          rw [h3] at fin1
          simp +contextual (maxSteps := 1000000) only [intsV, intsAV_length, i1, h2, i2, h3, go_sem, reduceCtorEq, ↓reduceIte, Nat.reduceAdd, Nat.reduceEqDiff, Nat.reduceLeDiff, Nat.reduceMul, Nat.reduceBEq, Int.reduceBEq, Int.reduceBNe, Int.reduceLT, Int.reduceLE, Int.reduceGT, Int.reduceGE, Int.reduceToNat, Int.natCast_one, Int.natCast_zero, Int.cast_ofNat_Int]
          exact fin1 rfl _ _ _ rfl
        | false =>
          rw [h3] at fin2
          simp +contextual (maxSteps := 1000000) only [intsV, intsAV_length, i1, h2, i2, h3, hw, go_sem, reduceCtorEq, ↓reduceIte, Nat.reduceAdd, Nat.reduceEqDiff, Nat.reduceLeDiff, Nat.reduceMul, Nat.reduceBEq, Int.reduceBEq, Int.reduceBNe, Int.reduceLT, Int.reduceLE, Int.reduceGT, Int.reduceGE, Int.reduceToNat, Int.natCast_one, Int.natCast_zero, Int.cast_ofNat_Int]
          exact fin2 rfl _ _ _ rfl rfl rfl
  · have hd : decide ((i : Int) < (l.length : Int)) = false := by simp; omega
    simp +contextual (maxSteps := 1000000) only [hd, go_sem, reduceCtorEq, ↓reduceIte, Nat.reduceAdd, Nat.reduceEqDiff, Nat.reduceLeDiff, Nat.reduceMul, Nat.reduceBEq, Int.reduceBEq, Int.reduceBNe, Int.reduceLT, Int.reduceLE, Int.reduceGT, Int.reduceGE, Int.reduceToNat, Int.natCast_one, Int.natCast_zero, Int.cast_ofNat_Int]
    rw [← hK]
    simp only [w_kIt_e]
    rw [List.drop_of_length_le (by omega)] at hinv
    exact hex hinv _ _ _

def parsOk (l : List (List Int)) : Bool := !(decide (l.length > 16) || decide (l = [[-1]])) && !l.any parBad
set_option maxHeartbeats 1000000 in
theorem fs_listed {Gl : Gh → Prop} (hst : Stays Gl) {l : List (List Int)} (ha : l.length < 9223372036854775808) (hb : ∀ p ∈ l, p.length < 9223372036854775808) : FS Tryd.prog Gl 41 [parsV l] [] [] (.bool (parsOk l)) [] [] := by
  refine FS.of hm hst is_wirelisted (by simp) fun γ hγ hfr => ?_
  (generalize hQ : (fun (ex : Ex) (_ _ : Nat) (s : St) => _) = Q; unfold ir_wirelisted)
  simp only [parsV]
  have i1 : decide ((l.length : Int) > 16) = decide (l.length > 16) := by rw [decide_eq_decide]; omega
  have i2 : ((l.length : Int) == 1) = decide (l.length = 1) := by rw [Bool.eq_iff_iff]; simp; omega
  have loop : ∀ c F T, lfOK [] F [(21, .sl none 1 (parsAV l)), (22, .int .i64 l.length), (23, .int .i64 0)] → decide (l.length > 16) = false → decide (l = [[-1]]) = false →
      kLoop Tryd.prog Gl ir_wirelisted_l0 γ c ⟨F, [], T⟩ (kBlk 0 (kSeq Tryd.prog Gl (.seq (.reg [⟨some 2, none, .mov (.c (.bool true))⟩] (some [2])) .ret) Q)) := fun c F T hF h16 h1 => by
    refine lp_listed hst ha hb hF (fun h γ c F hF => ?_) (fun h γ c F => ?_)
    · simp +contextual (maxSteps := 1000000) only [go_sem, reduceCtorEq, ↓reduceIte, Nat.reduceAdd, Nat.reduceEqDiff, Nat.reduceLeDiff, Nat.reduceMul, Nat.reduceBEq, Int.reduceBEq, Int.reduceBNe, Int.reduceLT, Int.reduceLE, Int.reduceGT, Int.reduceGE, Int.reduceToNat, Int.natCast_one, Int.natCast_zero, Int.cast_ofNat_Int]
      rw [← hQ, parsOk, h16, h1, h]
      exact ⟨trivial, Ret.flat (by simp [resOf, getAll, IRes.get, hF]) rfl⟩
    · simp +contextual (maxSteps := 1000000) only [go_sem, reduceCtorEq, ↓reduceIte, Nat.reduceAdd, Nat.reduceEqDiff, Nat.reduceLeDiff, Nat.reduceMul, Nat.reduceBEq, Int.reduceBEq, Int.reduceBNe, Int.reduceLT, Int.reduceLE, Int.reduceGT, Int.reduceGE, Int.reduceToNat, Int.natCast_one, Int.natCast_zero, Int.cast_ofNat_Int]
      rw [← hQ, parsOk, h16, h1, h]
      exact ⟨trivial, Ret.flat rfl rfl⟩
  cases h16 : decide (l.length > 16) with
  | true =>
    simp +contextual (maxSteps := 1000000) only [parsAV_length, i1, h16, go_sem, reduceCtorEq, ↓reduceIte, Nat.reduceAdd, Nat.reduceEqDiff, Nat.reduceLeDiff, Nat.reduceMul, Nat.reduceBEq, Int.reduceBEq, Int.reduceBNe, Int.reduceLT, Int.reduceLE, Int.reduceGT, Int.reduceGE, Int.reduceToNat, Int.natCast_one, Int.natCast_zero, Int.cast_ofNat_Int]
    rw [← hQ, parsOk, h16]
    exact ⟨trivial, Ret.flat rfl rfl⟩
  | false =>
    cases h1 : decide (l.length = 1) with
    | false =>
      simp +contextual (maxSteps := 1000000) only [parsAV_length, i1, h16, i2, h1, go_sem, reduceCtorEq, ↓reduceIte, Nat.reduceAdd, Nat.reduceEqDiff, Nat.reduceLeDiff, Nat.reduceMul, Nat.reduceBEq, Int.reduceBEq, Int.reduceBNe, Int.reduceLT, Int.reduceLE, Int.reduceGT, Int.reduceGE, Int.reduceToNat, Int.natCast_one, Int.natCast_zero, Int.cast_ofNat_Int]
      refine loop _ _ _ ?_ h16 ?_
      · (simp only [lfOK, upd, initF]; repeat' first | exact AVle.refl _ _ | exact trivial | refine And.intro ?_ ?_ | exact AVle.int (by simp only [IntKind.wrap_i64]; omega))
      · simp only [decide_eq_false_iff_not] at h1 ⊢
        intro e; subst e; exact h1 rfl
    | true =>
      obtain ⟨p, rfl⟩ : ∃ p, l = [p] := by
        match l, h1 with
        | [p], _ => exact ⟨p, rfl⟩
        | [], h => simp at h
        | _ :: _ :: _, h => simp at h
      have hp := hb p (by simp)
      have g1 : (parsAV [p]).getD 0 [] = [intsV p] := rfl
      simp +contextual (maxSteps := 1000000) only [parsAV_length, g1, go_sem, reduceCtorEq, ↓reduceIte, Nat.reduceAdd, Nat.reduceEqDiff, Nat.reduceLeDiff, Nat.reduceMul, Nat.reduceBEq, Int.reduceBEq, Int.reduceBNe, Int.reduceLT, Int.reduceLE, Int.reduceGT, Int.reduceGE, Int.reduceToNat, Int.natCast_one, Int.natCast_zero, Int.cast_ofNat_Int]
      have hfs : FS Tryd.prog Gl 53 [intsV p, .sl (some (γ, 12, 0)) 1 [[.int .i64 (-1)]]] [] [] (.bool (decide (p = [-1]))) [] [] := fs_EqualInts (ta := none) (b := [-1]) hst hp (by simp)
      refine CallP.pure hfs (fun _ => rfl) ?_
      cases h2 : decide (p = [-1]) with
      | true =>
        have hp1 : decide ([p] = [[-1]]) = true := by simpa using h2
        simp +contextual (maxSteps := 1000000) only [go_sem, reduceCtorEq, ↓reduceIte, Nat.reduceAdd, Nat.reduceEqDiff, Nat.reduceLeDiff, Nat.reduceMul, Nat.reduceBEq, Int.reduceBEq, Int.reduceBNe, Int.reduceLT, Int.reduceLE, Int.reduceGT, Int.reduceGE, Int.reduceToNat, Int.natCast_one, Int.natCast_zero, Int.cast_ofNat_Int]
        rw [← hQ, parsOk, h16, hp1]
        exact ⟨trivial, Ret.flat rfl rfl⟩
      | false =>
        have hp1 : decide ([p] = [[-1]]) = false := by simpa using h2
        simp +contextual (maxSteps := 1000000) only [go_sem, reduceCtorEq, ↓reduceIte, Nat.reduceAdd, Nat.reduceEqDiff, Nat.reduceLeDiff, Nat.reduceMul, Nat.reduceBEq, Int.reduceBEq, Int.reduceBNe, Int.reduceLT, Int.reduceLE, Int.reduceGT, Int.reduceGE, Int.reduceToNat, Int.natCast_one, Int.natCast_zero, Int.cast_ofNat_Int]
        refine loop _ _ _ ?_ h16 hp1
        (simp only [lfOK, upd, initF]; repeat' first | exact AVle.refl _ _ | exact trivial | refine And.intro ?_ ?_ | exact AVle.int (by simp only [IntKind.wrap_i64]; omega))
end Go.Proofs.YtgdgfefojfgpaaaDoor

/- Whether a sequence may be (layer 3 of the program): its shape, and all. -/
set_option linter.unusedVariables false
set_option linter.unusedSimpArgs false
set_option maxRecDepth 100000
namespace Go.Proofs.YtgdgfefojfgpaaaDoor
open Go Go.Ab
/-- strings.ContainsRune -/
def ir_stringsContainsRune : ICode :=
 (.seq
  (.reg [⟨some 4, none, .mov (.c (.bool false))⟩] (some [0, 1]))
  (.seq
   (.reg [⟨some 5, none, .mov (.t 0)⟩,
     ⟨some 6, none, .mov (.t 1)⟩,
     ⟨some 7, none, .call (.c (.fn (.func 34) [] [])) [(.t 5), (.t 6)]⟩,
     ⟨some 8, none, .bin .geq .none (.t 7) (.c (.int .i64 0))⟩,
     ⟨some 4, none, .mov (.t 8)⟩] (some [4]))
   .ret))
theorem is_stringsContainsRune : IrOf Tryd.prog 29 9 ir_stringsContainsRune [.t 4] := ⟨_, Tryd.func29, rfl, by kernel_rfl, by kernel_rfl, by kernel_rfl⟩

/-- clavier/wire.shaped -/
def ir_wireshaped : ICode :=
 (.seq
  (.reg [⟨some 1, none, .box 32 (.t 0)⟩,
    ⟨some 2, none, .mov (.c (.bool false))⟩] (some [1]))
  (.seq
   (.reg [⟨some 5, none, .fa 1 (.t 1)⟩,
     ⟨some 6, none, .ld none (.t 5)⟩,
     ⟨some 7, none, .bin .eql .none (.t 6) (.c (.int .u8 0))⟩,
     ⟨some 8, none, .mov (.t 7)⟩,
     ⟨some 9, some (8, true), .fa 2 (.t 1)⟩,
     ⟨some 10, some (8, true), .ld none (.t 9)⟩,
     ⟨some 11, some (8, true), .len (.t 10)⟩,
     ⟨some 12, some (8, true), .bin .eql .none (.t 11) (.c (.int .i64 0))⟩,
     ⟨some 13, none, .pick (.t 8) (.t 12) (.c (.bool false))⟩,
     ⟨some 3, none, .mov (.t 13)⟩] (some [1, 3]))
   (.seq
    (.seq
     (.reg [⟨some 14, none, .fa 0 (.t 1)⟩,
       ⟨some 15, none, .ld none (.t 14)⟩] (some [1, 3, 15]))
     (.blk 0
      (.seq
       (.reg [⟨some 17, none, .bin .eql .none (.t 15) (.c (.int .i64 1))⟩,
         ⟨some 16, none, .mov (.t 17)⟩] (some [1, 3, 15, 16]))
       (.cond (.t 16)
        (.seq
         (.reg [⟨some 18, none, .fa 5 (.t 1)⟩,
           ⟨some 19, none, .ld none (.t 18)⟩,
           ⟨some 20, none, .bin .eql .none (.t 19) (.c (.str []))⟩,
           ⟨some 21, none, .mov (.t 20)⟩,
           ⟨some 22, some (21, true), .fa 4 (.t 1)⟩,
           ⟨some 23, some (21, true), .ld none (.t 22)⟩,
           ⟨some 24, some (21, true), .bin .geq .none (.t 23) (.c (.int .u8 64))⟩,
           ⟨some 25, none, .pick (.t 21) (.t 24) (.c (.bool false))⟩,
           ⟨some 26, none, .mov (.t 25)⟩,
           ⟨some 27, some (26, true), .fa 4 (.t 1)⟩,
           ⟨some 28, some (26, true), .ld none (.t 27)⟩,
           ⟨some 29, some (26, true), .bin .leq .none (.t 28) (.c (.int .u8 126))⟩,
           ⟨some 30, none, .pick (.t 26) (.t 29) (.c (.bool false))⟩,
           ⟨some 2, none, .mov (.t 30)⟩] (some [2]))
         .ret)
        (.seq
         (.reg [⟨some 32, none, .bin .eql .none (.t 15) (.c (.int .i64 3))⟩,
           ⟨some 31, none, .mov (.t 32)⟩] (some [1, 3, 15, 31]))
         (.cond (.t 31)
          (.seq
           (.reg [⟨some 33, none, .fa 4 (.t 1)⟩,
             ⟨some 34, none, .ld none (.t 33)⟩,
             ⟨some 35, none, .bin .geq .none (.t 34) (.c (.int .u8 64))⟩,
             ⟨some 36, none, .mov (.t 35)⟩,
             ⟨some 37, some (36, true), .fa 4 (.t 1)⟩,
             ⟨some 38, some (36, true), .ld none (.t 37)⟩,
             ⟨some 39, some (36, true), .bin .leq .none (.t 38) (.c (.int .u8 126))⟩,
             ⟨some 40, none, .pick (.t 36) (.t 39) (.c (.bool false))⟩,
             ⟨some 2, none, .mov (.t 40)⟩] (some [2]))
           .ret)
          (.seq
           (.reg [⟨some 42, none, .bin .eql .none (.t 15) (.c (.int .i64 2))⟩,
             ⟨some 41, none, .mov (.t 42)⟩] (some [1, 3, 15, 41]))
           (.cond (.t 41)
            (.seq
             (.reg [⟨some 43, none, .mov (.t 3)⟩,
               ⟨some 44, none, .mov (.t 43)⟩,
               ⟨some 45, some (44, true), .fa 3 (.t 1)⟩,
               ⟨some 46, some (44, true), .ld none (.t 45)⟩,
               ⟨some 47, some (44, true), .bin .eql .none (.t 46) (.c (.str []))⟩,
               ⟨some 48, none, .pick (.t 44) (.t 47) (.c (.bool false))⟩,
               ⟨some 49, none, .mov (.t 48)⟩,
               ⟨some 50, some (49, true), .fa 5 (.t 1)⟩,
               ⟨some 51, some (49, true), .ld none (.t 50)⟩,
               ⟨some 52, some (49, true), .bin .eql .none (.t 51) (.c (.str []))⟩,
               ⟨some 53, none, .pick (.t 49) (.t 52) (.c (.bool false))⟩,
               ⟨some 54, none, .mov (.t 53)⟩,
               ⟨some 55, some (54, true), .fa 4 (.t 1)⟩,
               ⟨some 56, some (54, true), .ld none (.t 55)⟩,
               ⟨some 57, some (54, true), .bin .geq .none (.t 56) (.c (.int .u8 64))⟩,
               ⟨some 58, none, .pick (.t 54) (.t 57) (.c (.bool false))⟩,
               ⟨some 59, none, .mov (.t 58)⟩,
               ⟨some 60, some (59, true), .fa 4 (.t 1)⟩,
               ⟨some 61, some (59, true), .ld none (.t 60)⟩,
               ⟨some 62, some (59, true), .bin .leq .none (.t 61) (.c (.int .u8 126))⟩,
               ⟨some 63, none, .pick (.t 59) (.t 62) (.c (.bool false))⟩,
               ⟨some 2, none, .mov (.t 63)⟩] (some [2]))
             .ret)
            (.seq
             (.reg [⟨some 65, none, .bin .eql .none (.t 15) (.c (.int .i64 4))⟩,
               ⟨some 64, none, .mov (.t 65)⟩] (some [1, 3, 15, 64]))
             (.cond (.t 64)
              (.seq
               (.reg [⟨some 66, none, .mov (.t 3)⟩,
                 ⟨some 67, none, .mov (.t 66)⟩,
                 ⟨some 68, some (67, true), .fa 3 (.t 1)⟩,
                 ⟨some 69, some (67, true), .ld none (.t 68)⟩,
                 ⟨some 70, some (67, true), .bin .eql .none (.t 69) (.c (.str []))⟩,
                 ⟨some 71, none, .pick (.t 67) (.t 70) (.c (.bool false))⟩,
                 ⟨some 72, none, .mov (.t 71)⟩,
                 ⟨some 73, some (72, true), .fa 4 (.t 1)⟩,
                 ⟨some 74, some (72, true), .ld none (.t 73)⟩,
                 ⟨some 75, some (72, true), .bin .eql .none (.t 74) (.c (.int .u8 0))⟩,
                 ⟨some 76, none, .pick (.t 72) (.t 75) (.c (.bool false))⟩,
                 ⟨some 2, none, .mov (.t 76)⟩] (some [2]))
               .ret)
              (.seq
               (.reg [⟨some 78, none, .bin .eql .none (.t 15) (.c (.int .i64 5))⟩,
                 ⟨some 77, none, .mov (.t 78)⟩] (some [1, 3, 77]))
               (.cond (.t 77)
                (.seq
                 (.reg [⟨some 79, none, .fa 3 (.t 1)⟩,
                   ⟨some 80, none, .ld none (.t 79)⟩,
                   ⟨some 81, none, .bin .neq .none (.t 80) (.c (.str []))⟩,
                   ⟨some 82, none, .mov (.t 81)⟩,
                   ⟨some 83, some (82, false), .fa 4 (.t 1)⟩,
                   ⟨some 84, some (82, false), .ld none (.t 83)⟩,
                   ⟨some 85, some (82, false), .cvi .i32 (.t 84)⟩,
                   ⟨some 86, some (82, false), .call (.c (.fn (.func 29) [] [])) [(.c (.str [79, 80, 88, 91, 93, 92, 94, 95])), (.t 85)]⟩,
                   ⟨some 87, some (82, false), .un .not (.t 86)⟩,
                   ⟨some 88, none, .pick (.t 82) (.c (.bool true)) (.t 87)⟩,
                   ⟨some 4, none, .mov (.t 88)⟩] (some [1, 3, 4]))
                 (.seq
                  (.reg [⟨some 89, none, .mov (.t 3)⟩,
                    ⟨some 90, none, .mov (.t 89)⟩,
                    ⟨some 91, some (90, true), .fa 5 (.t 1)⟩,
                    ⟨some 92, some (90, true), .ld none (.t 91)⟩,
                    ⟨some 93, some (90, true), .bin .eql .none (.t 92) (.c (.str []))⟩,
                    ⟨some 94, none, .pick (.t 90) (.t 93) (.c (.bool false))⟩,
                    ⟨some 95, none, .mov (.t 94)⟩,
                    ⟨some 96, some (95, true), .mov (.t 4)⟩,
                    ⟨some 97, none, .pick (.t 95) (.t 96) (.c (.bool false))⟩,
                    ⟨some 98, none, .mov (.t 97)⟩,
                    ⟨some 99, some (98, true), .fa 4 (.t 1)⟩,
                    ⟨some 100, some (98, true), .ld none (.t 99)⟩,
                    ⟨some 101, some (98, true), .bin .geq .none (.t 100) (.c (.int .u8 48))⟩,
                    ⟨some 102, none, .pick (.t 98) (.t 101) (.c (.bool false))⟩,
                    ⟨some 103, none, .mov (.t 102)⟩,
                    ⟨some 104, some (103, true), .fa 4 (.t 1)⟩,
                    ⟨some 105, some (103, true), .ld none (.t 104)⟩,
                    ⟨some 106, some (103, true), .bin .leq .none (.t 105) (.c (.int .u8 126))⟩,
                    ⟨some 107, none, .pick (.t 103) (.t 106) (.c (.bool false))⟩,
                    ⟨some 2, none, .mov (.t 107)⟩] (some [2]))
                  .ret))
                .skip))))))))))))
    (.seq
     (.reg [⟨some 2, none, .mov (.c (.bool false))⟩] (some [2]))
     .ret))))
theorem is_wireshaped : IrOf Tryd.prog 42 108 ir_wireshaped [.t 2] := ⟨_, Tryd.func42, rfl, by kernel_rfl, by kernel_rfl, by kernel_rfl⟩


theorem indexByte_mem : ∀ (l : List UInt8) (c : UInt8), decide (0 ≤ Lib.indexByte l c) = l.contains c
  | [], c => rfl
  | d :: l, c => by
    have ih := indexByte_mem l c
    have hg := Lib.indexByte_ge l c
    rw [List.contains_cons]
    have hu : Lib.indexByte (d :: l) c = if d == c then 0 else if Lib.indexByte l c == -1 then -1 else Lib.indexByte l c + 1 := rfl
    rw [hu]
    by_cases h : d = c
    · subst h; simp
    · have hb : (d == c) = false := by simpa using h
      have hb2 : (c == d) = false := by simpa using Ne.symm h
      rw [hb2, Bool.false_or, ← ih, decide_eq_decide]
      simp only [hb, Bool.false_eq_true, if_false]
      by_cases h1 : Lib.indexByte l c = -1
      · simp [h1]
      · have : (Lib.indexByte l c == -1) = false := by simpa using h1
        simp only [this, Bool.false_eq_true, if_false]
        omega
theorem fs_ContainsRune {Gl : Gh → Prop} {s : List UInt8} {r : Int} (h0 : 0 ≤ r) (h1 : r < 128) : FS Tryd.prog Gl 29 [.str s, .int .i32 r] [] [] (.bool (s.contains r.toNat.toUInt8)) [] [] := by
  refine FS.of_calls is_stringsContainsRune.enters (fun _ => rfl) fun g w vs hinv hgl hargs => ?_
  obtain ⟨v1, r1, rfl, h1', v2, r2, rfl, h2', h3'⟩ := hargs
  cases h1'; cases h2'; cases h3'
  refine ⟨_, rfl, (Tryd.strings_ContainsRune_ascii ⟨s.toArray⟩ r w h0 h1).mono ?_⟩
  rintro e w' ⟨rfl, rfl⟩
  exact ⟨by rw [indexByte_mem], rfl⟩

/-- What a kind has. -/
def shapedP (s : Sq) : Bool :=
  if s.k = 1 then decide (s.da = []) && decide (s.fi ≥ 64) && decide (s.fi ≤ 126)
  else if s.k = 3 then decide (s.fi ≥ 64) && decide (s.fi ≤ 126)
  else if s.k = 2 then s.pr == 0 && (s.ps.length : Int) == 0 && decide (s.it = []) && decide (s.da = []) && decide (s.fi ≥ 64) && decide (s.fi ≤ 126)
  else if s.k = 4 then s.pr == 0 && (s.ps.length : Int) == 0 && decide (s.it = []) && s.fi == 0
  else if s.k = 5 then s.pr == 0 && (s.ps.length : Int) == 0 && decide (s.da = []) && (!decide (s.it = []) || !([79, 80, 88, 91, 93, 92, 94, 95] : List UInt8).contains s.fi.toNat.toUInt8) && decide (s.fi ≥ 48) && decide (s.fi ≤ 126)
  else false

theorem fs_shaped {Gl : Gh → Prop} (hst : Stays Gl) {s : Sq} (hf0 : 0 ≤ s.fi) (hf1 : s.fi < 128) : FS Tryd.prog Gl 42 [.agg s.c] [] [] (.bool (shapedP s)) [] [] := by
  refine FS.of hm hst is_wireshaped (by simp) fun γ hγ hfr => ?_
  obtain ⟨k, pr, ps, it, fi, da⟩ := s
  simp only [Sq.c] at hf0 hf1 ⊢
  have hw : IntKind.i32.wrap fi = fi := by rw [IntKind.wrap_i32]; omega
  simp only [shapedP]
  generalize hp0 : (pr == 0) = p0
  generalize hps : ((ps.length : Int) == 0) = ps0
  generalize hda : decide (da = []) = da0
  generalize hit : decide (it = []) = it0
  generalize h64 : decide (fi ≥ 64) = f64
  generalize h126 : decide (fi ≤ 126) = f126
  generalize h48 : decide (fi ≥ 48) = f48
  generalize hfz : (fi == 0) = fz
  generalize hcr : ([79, 80, 88, 91, 93, 92, 94, 95] : List UInt8).contains fi.toNat.toUInt8 = cr
  have hcall : FS Tryd.prog Gl 29 [.str [79, 80, 88, 91, 93, 92, 94, 95], .int .i32 fi] [] [] (.bool cr) [] [] := hcr ▸ fs_ContainsRune hf0 hf1
  have x1 : (k == 1) = decide (k = 1) := by rw [Bool.eq_iff_iff]; simp
  have x3 : (k == 3) = decide (k = 3) := by rw [Bool.eq_iff_iff]; simp
  have x2 : (k == 2) = decide (k = 2) := by rw [Bool.eq_iff_iff]; simp
  have x4 : (k == 4) = decide (k = 4) := by rw [Bool.eq_iff_iff]; simp
  have x5 : (k == 5) = decide (k = 5) := by rw [Bool.eq_iff_iff]; simp
  by_cases h1 : k = 1
  · simp only [if_pos h1]
    (generalize hQ : (fun (ex : Ex) (_ _ : Nat) (s : St) => _) = Q; unfold ir_wireshaped)
    simp +contextual (maxSteps := 1000000) only [parsV, parsAV_length, hp0, hps, hda, hit, h64, h126, h48, hfz, hw, x1, h1, if_true, if_false, go_sem, reduceCtorEq, ↓reduceIte, Nat.reduceAdd, Nat.reduceEqDiff, Nat.reduceLeDiff, Nat.reduceMul, Nat.reduceBEq, Int.reduceBEq, Int.reduceBNe, Int.reduceLT, Int.reduceLE, Int.reduceGT, Int.reduceGE, Int.reduceToNat, Int.natCast_one, Int.natCast_zero, Int.cast_ofNat_Int]
    rw [← hQ]; exact ⟨trivial, Ret.flat rfl rfl⟩
  by_cases h3 : k = 3
  · simp only [if_neg h1, if_pos h3]
    (generalize hQ : (fun (ex : Ex) (_ _ : Nat) (s : St) => _) = Q; unfold ir_wireshaped)
    simp +contextual (maxSteps := 1000000) only [parsV, parsAV_length, hp0, hps, hda, hit, h64, h126, h48, hfz, hw, x1, h1, x3, h3, if_true, if_false, go_sem, reduceCtorEq, ↓reduceIte, Nat.reduceAdd, Nat.reduceEqDiff, Nat.reduceLeDiff, Nat.reduceMul, Nat.reduceBEq, Int.reduceBEq, Int.reduceBNe, Int.reduceLT, Int.reduceLE, Int.reduceGT, Int.reduceGE, Int.reduceToNat, Int.natCast_one, Int.natCast_zero, Int.cast_ofNat_Int]
    rw [← hQ]; exact ⟨trivial, Ret.flat rfl rfl⟩
  by_cases h2 : k = 2
  · simp only [if_neg h1, if_neg h3, if_pos h2]
    (generalize hQ : (fun (ex : Ex) (_ _ : Nat) (s : St) => _) = Q; unfold ir_wireshaped)
    simp +contextual (maxSteps := 1000000) only [parsV, parsAV_length, hp0, hps, hda, hit, h64, h126, h48, hfz, hw, x1, h1, x3, h3, x2, h2, if_true, if_false, go_sem, reduceCtorEq, ↓reduceIte, Nat.reduceAdd, Nat.reduceEqDiff, Nat.reduceLeDiff, Nat.reduceMul, Nat.reduceBEq, Int.reduceBEq, Int.reduceBNe, Int.reduceLT, Int.reduceLE, Int.reduceGT, Int.reduceGE, Int.reduceToNat, Int.natCast_one, Int.natCast_zero, Int.cast_ofNat_Int]
    rw [← hQ]; exact ⟨trivial, Ret.flat rfl rfl⟩
  by_cases h4 : k = 4
  · simp only [if_neg h1, if_neg h3, if_neg h2, if_pos h4]
    (generalize hQ : (fun (ex : Ex) (_ _ : Nat) (s : St) => _) = Q; unfold ir_wireshaped)
    simp +contextual (maxSteps := 1000000) only [parsV, parsAV_length, hp0, hps, hda, hit, h64, h126, h48, hfz, hw, x1, h1, x3, h3, x2, h2, x4, h4, if_true, if_false, go_sem, reduceCtorEq, ↓reduceIte, Nat.reduceAdd, Nat.reduceEqDiff, Nat.reduceLeDiff, Nat.reduceMul, Nat.reduceBEq, Int.reduceBEq, Int.reduceBNe, Int.reduceLT, Int.reduceLE, Int.reduceGT, Int.reduceGE, Int.reduceToNat, Int.natCast_one, Int.natCast_zero, Int.cast_ofNat_Int]
    rw [← hQ]; exact ⟨trivial, Ret.flat rfl rfl⟩
  by_cases h5 : k = 5
  · simp only [if_neg h1, if_neg h3, if_neg h2, if_neg h4, if_pos h5]
    (generalize hQ : (fun (ex : Ex) (_ _ : Nat) (s : St) => _) = Q; unfold ir_wireshaped)
    simp +contextual (maxSteps := 1000000) only [parsV, parsAV_length, hp0, hps, hda, hit, h64, h126, h48, hfz, hw, x1, h1, x3, h3, x2, h2, x4, h4, x5, h5, if_true, if_false, go_sem, reduceCtorEq, ↓reduceIte, Nat.reduceAdd, Nat.reduceEqDiff, Nat.reduceLeDiff, Nat.reduceMul, Nat.reduceBEq, Int.reduceBEq, Int.reduceBNe, Int.reduceLT, Int.reduceLE, Int.reduceGT, Int.reduceGE, Int.reduceToNat, Int.natCast_one, Int.natCast_zero, Int.cast_ofNat_Int]
    refine kGc_call hcall (fun _ => rfl) (fun hg => ?_) ?_
    · revert hg
      simp +contextual [Xev_t, Xev_c, upd_app, lf_cons, lf_nil]
    · simp +contextual (maxSteps := 1000000) only [parsV, parsAV_length, hp0, hps, hda, hit, h64, h126, h48, hfz, go_sem, reduceCtorEq, ↓reduceIte, Nat.reduceAdd, Nat.reduceEqDiff, Nat.reduceLeDiff, Nat.reduceMul, Nat.reduceBEq, Int.reduceBEq, Int.reduceBNe, Int.reduceLT, Int.reduceLE, Int.reduceGT, Int.reduceGE, Int.reduceToNat, Int.natCast_one, Int.natCast_zero, Int.cast_ofNat_Int]
      rw [← hQ]; exact ⟨trivial, Ret.flat rfl rfl⟩
  have e1 : decide (k = 1) = false := decide_eq_false h1
  have e2 : decide (k = 2) = false := decide_eq_false h2
  have e3 : decide (k = 3) = false := decide_eq_false h3
  have e4 : decide (k = 4) = false := decide_eq_false h4
  have e5 : decide (k = 5) = false := decide_eq_false h5
  simp only [if_neg h1, if_neg h3, if_neg h2, if_neg h4, if_neg h5]
  (generalize hQ : (fun (ex : Ex) (_ _ : Nat) (s : St) => _) = Q; unfold ir_wireshaped)
  simp +contextual (maxSteps := 1000000) only [parsV, parsAV_length, hp0, hps, x1, x2, x3, x4, x5, e1, e2, e3, e4, e5, go_sem, reduceCtorEq, ↓reduceIte, Nat.reduceAdd, Nat.reduceEqDiff, Nat.reduceLeDiff, Nat.reduceMul, Nat.reduceBEq, Int.reduceBEq, Int.reduceBNe, Int.reduceLT, Int.reduceLE, Int.reduceGT, Int.reduceGE, Int.reduceToNat, Int.natCast_one, Int.natCast_zero, Int.cast_ofNat_Int]
  rw [← hQ]; exact ⟨trivial, Ret.flat rfl rfl⟩
end Go.Proofs.YtgdgfefojfgpaaaDoor

/- Whether a sequence may be (layer 3 of the program): all. -/
set_option linter.unusedVariables false
set_option linter.unusedSimpArgs false
set_option maxRecDepth 100000
namespace Go.Proofs.YtgdgfefojfgpaaaDoor
open Go Go.Ab
/-- clavier/wire.May -/
def ir_wireMay : ICode :=
 (.seq
  (.reg [⟨some 1, none, .box 32 (.t 0)⟩,
    ⟨some 2, none, .mov (.c (.int .i64 0))⟩] (some [1]))
  (.seq
   (.reg [⟨some 5, none, .fa 1 (.t 1)⟩,
     ⟨some 6, none, .ld none (.t 5)⟩,
     ⟨some 7, none, .bin .eql .none (.t 6) (.c (.int .u8 0))⟩,
     ⟨some 8, none, .mov (.t 7)⟩,
     ⟨some 9, some (8, false), .fa 1 (.t 1)⟩,
     ⟨some 10, some (8, false), .ld none (.t 9)⟩,
     ⟨some 11, some (8, false), .bin .geq .none (.t 10) (.c (.int .u8 60))⟩,
     ⟨some 12, some (8, false), .mov (.t 11)⟩,
     ⟨some 13, some (12, true), .fa 1 (.t 1)⟩,
     ⟨some 14, some (12, true), .ld none (.t 13)⟩,
     ⟨some 15, some (12, true), .bin .leq .none (.t 14) (.c (.int .u8 63))⟩,
     ⟨some 16, some (8, false), .pick (.t 12) (.t 15) (.c (.bool false))⟩,
     ⟨some 17, none, .pick (.t 8) (.c (.bool true)) (.t 16)⟩,
     ⟨some 3, none, .mov (.t 17)⟩] (some [1, 3]))
   (.seq
    (.reg [⟨some 18, none, .fa 3 (.t 1)⟩,
      ⟨some 19, none, .ld none (.t 18)⟩,
      ⟨some 20, none, .lns (.t 19)⟩,
      ⟨some 21, none, .bin .leq .none (.t 20) (.c (.int .i64 2))⟩,
      ⟨some 22, none, .mov (.t 21)⟩,
      ⟨some 23, some (22, true), .fa 3 (.t 1)⟩,
      ⟨some 24, some (22, true), .ld none (.t 23)⟩,
      ⟨some 25, some (22, true), .call (.c (.fn (.func 40) [] [])) [(.t 24), (.c (.int .u8 32)), (.c (.int .u8 47))]⟩,
      ⟨some 26, none, .pick (.t 22) (.t 25) (.c (.bool false))⟩,
      ⟨some 4, none, .mov (.t 26)⟩] (some [1, 3, 4]))
    (.seq
     (.blk 0
      (.seq
       (.reg [⟨some 28, none, .fa 5 (.t 1)⟩,
         ⟨some 29, none, .ld none (.t 28)⟩,
         ⟨some 30, none, .lns (.t 29)⟩,
         ⟨some 31, none, .bin .gtr .none (.t 30) (.c (.int .i64 4096))⟩,
         ⟨some 27, none, .mov (.t 31)⟩] (some [1, 3, 4, 27]))
       (.cond (.t 27)
        (.seq
         (.reg [⟨some 2, none, .mov (.c (.int .i64 4))⟩] (some [2]))
         .ret)
        (.seq
         (.reg [⟨some 33, none, .mov (.t 3)⟩,
           ⟨some 34, none, .un .not (.t 33)⟩,
           ⟨some 35, none, .mov (.t 34)⟩,
           ⟨some 36, some (35, false), .mov (.t 4)⟩,
           ⟨some 37, some (35, false), .un .not (.t 36)⟩,
           ⟨some 38, none, .pick (.t 35) (.c (.bool true)) (.t 37)⟩,
           ⟨some 39, none, .mov (.t 38)⟩,
           ⟨some 40, some (39, false), .fa 2 (.t 1)⟩,
           ⟨some 41, some (39, false), .ld none (.t 40)⟩,
           ⟨some 42, some (39, false), .call (.c (.fn (.func 41) [] [])) [(.t 41)]⟩,
           ⟨some 43, some (39, false), .un .not (.t 42)⟩,
           ⟨some 44, none, .pick (.t 39) (.c (.bool true)) (.t 43)⟩,
           ⟨some 45, none, .mov (.t 44)⟩,
           ⟨some 46, some (45, false), .fa 5 (.t 1)⟩,
           ⟨some 47, some (45, false), .ld none (.t 46)⟩,
           ⟨some 48, some (45, false), .call (.c (.fn (.func 40) [] [])) [(.t 47), (.c (.int .u8 32)), (.c (.int .u8 126))]⟩,
           ⟨some 49, some (45, false), .un .not (.t 48)⟩,
           ⟨some 50, none, .pick (.t 45) (.c (.bool true)) (.t 49)⟩,
           ⟨some 51, none, .mov (.t 50)⟩,
           ⟨some 52, some (51, false), .ld (some 6) (.t 1)⟩,
           ⟨some 53, some (51, false), .call (.c (.fn (.func 42) [] [])) [(.t 52)]⟩,
           ⟨some 54, some (51, false), .un .not (.t 53)⟩,
           ⟨some 55, none, .pick (.t 51) (.c (.bool true)) (.t 54)⟩,
           ⟨some 32, none, .mov (.t 55)⟩] (some [32]))
         (.cond (.t 32)
          (.seq
           (.reg [⟨some 2, none, .mov (.c (.int .i64 1))⟩] (some [2]))
           .ret)
          .skip)))))
     (.seq
      (.reg [⟨some 2, none, .mov (.c (.int .i64 0))⟩] (some [2]))
      .ret)))))
theorem is_wireMay : IrOf Tryd.prog 33 56 ir_wireMay [.t 2] := ⟨_, Tryd.func33, rfl, by kernel_rfl, by kernel_rfl, by kernel_rfl⟩


def within (x y : Int) (s : List UInt8) : Bool := s.all fun c => decide (x ≤ c.toNat) && decide ((c.toNat : Int) ≤ y)
/-- Whether a sequence may be: 0; 4: too long; 1: not. -/
def mayP (s : Sq) : Int :=
  if decide ((s.da.length : Int) > 4096) = true then 4
  else if (!(s.pr == 0 || (decide (s.pr ≥ 60) && decide (s.pr ≤ 63))) || !(decide ((s.it.length : Int) ≤ 2) && within 32 47 s.it) || !parsOk s.ps || !within 32 126 s.da || !shapedP s) = true then 1 else 0

set_option maxHeartbeats 2000000 in
theorem fs_May {Gl : Gh → Prop} (hst : Stays Gl) {s : Sq} (hf0 : 0 ≤ s.fi) (hf1 : s.fi < 128) (h1 : s.ps.length < 9223372036854775808) (h2 : ∀ p ∈ s.ps, p.length < 9223372036854775808) (h3 : s.it.length < 9223372036854775808) (h4 : s.da.length < 9223372036854775808) :
    FS Tryd.prog Gl 33 [.agg s.c] [] [] (.int .i64 (mayP s)) [] [] := by
  have c1 := fs_between hst h3 (x := 32) (y := 47) (by omega) (by omega)
  have c2 := fs_listed hst h1 h2
  have c3 := fs_between hst h4 (x := 32) (y := 126) (by omega) (by omega)
  have c4 := fs_shaped hst hf0 hf1
  refine FS.of hm hst is_wireMay (by simp) fun γ hγ hfr => ?_
  have hsp : mayP s = if decide ((s.da.length : Int) > 4096) = true then 4 else if (!(s.pr == 0 || (decide (s.pr ≥ 60) && decide (s.pr ≤ 63))) || !(decide ((s.it.length : Int) ≤ 2) && within 32 47 s.it) || !parsOk s.ps || !within 32 126 s.da || !shapedP s) = true then 1 else 0 := rfl
  rw [hsp]
  change FS _ _ _ _ _ _ (.bool (within 32 47 s.it)) _ _ at c1
  change FS _ _ _ _ _ _ (.bool (within 32 126 s.da)) _ _ at c3
  obtain ⟨k, pr, ps, it, fi, da⟩ := s
  simp only at c1 c2 c3 c4 ⊢
  generalize hp0 : (pr == 0) = p0
  generalize hp1 : decide (pr ≥ 60) = p1
  generalize hp2 : decide (pr ≤ 63) = p2
  generalize hit : decide ((it.length : Int) ≤ 2) = it2
  generalize hda : decide ((da.length : Int) > 4096) = da4
  generalize within 32 47 it = w1 at c1
  generalize within 32 126 da = w2 at c3
  generalize parsOk ps = pk at c2
  generalize shapedP _ = sh at c4
  simp only [Sq.c] at c4 ⊢
  have cl : AV.closedL [AV.int .i64 k, .int .u8 pr, parsV ps, .str it, .int .u8 fi, .str da] = true := rfl
  (generalize hQ : (fun (ex : Ex) (_ _ : Nat) (s : St) => _) = Q; unfold ir_wireMay)
  simp +contextual (maxSteps := 1000000) only [hp0, hp1, hp2, hit, hda, go_sem, reduceCtorEq, ↓reduceIte, Nat.reduceAdd, Nat.reduceEqDiff, Nat.reduceLeDiff, Nat.reduceMul, Nat.reduceBEq, Int.reduceBEq, Int.reduceBNe, Int.reduceLT, Int.reduceLE, Int.reduceGT, Int.reduceGE, Int.reduceToNat, Int.natCast_one, Int.natCast_zero, Int.cast_ofNat_Int]
  generalize (p0 || p1 && p2) = b0 at hQ ⊢
  (refine kGc_call (c1) (fun _ => rfl) (fun hgc => ?_) ?_; (focus (first | (rw [Bool.not_eq_true'] at hgc; simp only [List.map_cons, List.map_nil, List.nil_append, List.append_nil, List.cons_append, Xev_t, Xev_c, upd_app, lf_cons, lf_nil, Nat.reduceEqDiff, ↓reduceIte, hgc, Bool.false_eq_true, Bool.true_eq_false, reduceCtorEq]; done) | (simp only [List.map_cons, List.map_nil, List.nil_append, List.append_nil, List.cons_append, Xev_t, Xev_c, upd_app, lf_cons, lf_nil, Nat.reduceEqDiff, ↓reduceIte, hgc, Bool.false_eq_true, Bool.true_eq_false, reduceCtorEq]; done) | (revert hgc; simp +contextual [Xev_t, Xev_c, upd_app, lf_cons, lf_nil]; done) | simp [Xev_t, Xev_c, upd_app, lf_cons, lf_nil])); simp +contextual (maxSteps := 1000000) only [hp0, hp1, hp2, hit, hda, go_sem, reduceCtorEq, ↓reduceIte, Nat.reduceAdd, Nat.reduceEqDiff, Nat.reduceLeDiff, Nat.reduceMul, Nat.reduceBEq, Int.reduceBEq, Int.reduceBNe, Int.reduceLT, Int.reduceLE, Int.reduceGT, Int.reduceGE, Int.reduceToNat, Int.natCast_one, Int.natCast_zero, Int.cast_ofNat_Int])
  generalize (it2 && w1) = b1 at hQ ⊢
  cases da4
  · simp +contextual (maxSteps := 1000000) only [go_sem, reduceCtorEq, ↓reduceIte, Nat.reduceAdd, Nat.reduceEqDiff, Nat.reduceLeDiff, Nat.reduceMul, Nat.reduceBEq, Int.reduceBEq, Int.reduceBNe, Int.reduceLT, Int.reduceLE, Int.reduceGT, Int.reduceGE, Int.reduceToNat, Int.natCast_one, Int.natCast_zero, Int.cast_ofNat_Int]
    (refine kGc_call (c2) (fun _ => rfl) (fun hgc => ?_) ?_; (focus (first | (rw [Bool.not_eq_true'] at hgc; simp only [List.map_cons, List.map_nil, List.nil_append, List.append_nil, List.cons_append, Xev_t, Xev_c, upd_app, lf_cons, lf_nil, Nat.reduceEqDiff, ↓reduceIte, hgc, Bool.false_eq_true, Bool.true_eq_false, reduceCtorEq]; done) | (simp only [List.map_cons, List.map_nil, List.nil_append, List.append_nil, List.cons_append, Xev_t, Xev_c, upd_app, lf_cons, lf_nil, Nat.reduceEqDiff, ↓reduceIte, hgc, Bool.false_eq_true, Bool.true_eq_false, reduceCtorEq]; done) | (revert hgc; simp +contextual [Xev_t, Xev_c, upd_app, lf_cons, lf_nil]; done) | simp [Xev_t, Xev_c, upd_app, lf_cons, lf_nil])); simp +contextual (maxSteps := 1000000) only [hp0, go_sem, reduceCtorEq, ↓reduceIte, Nat.reduceAdd, Nat.reduceEqDiff, Nat.reduceLeDiff, Nat.reduceMul, Nat.reduceBEq, Int.reduceBEq, Int.reduceBNe, Int.reduceLT, Int.reduceLE, Int.reduceGT, Int.reduceGE, Int.reduceToNat, Int.natCast_one, Int.natCast_zero, Int.cast_ofNat_Int])
    (refine kGc_call (c3) (fun _ => rfl) (fun hgc => ?_) ?_; (focus (first | (rw [Bool.not_eq_true'] at hgc; simp only [List.map_cons, List.map_nil, List.nil_append, List.append_nil, List.cons_append, Xev_t, Xev_c, upd_app, lf_cons, lf_nil, Nat.reduceEqDiff, ↓reduceIte, hgc, Bool.false_eq_true, Bool.true_eq_false, reduceCtorEq]; done) | (simp only [List.map_cons, List.map_nil, List.nil_append, List.append_nil, List.cons_append, Xev_t, Xev_c, upd_app, lf_cons, lf_nil, Nat.reduceEqDiff, ↓reduceIte, hgc, Bool.false_eq_true, Bool.true_eq_false, reduceCtorEq]; done) | (revert hgc; simp +contextual [Xev_t, Xev_c, upd_app, lf_cons, lf_nil]; done) | simp [Xev_t, Xev_c, upd_app, lf_cons, lf_nil])); simp +contextual (maxSteps := 1000000) only [hp0, go_sem, reduceCtorEq, ↓reduceIte, Nat.reduceAdd, Nat.reduceEqDiff, Nat.reduceLeDiff, Nat.reduceMul, Nat.reduceBEq, Int.reduceBEq, Int.reduceBNe, Int.reduceLT, Int.reduceLE, Int.reduceGT, Int.reduceGE, Int.reduceToNat, Int.natCast_one, Int.natCast_zero, Int.cast_ofNat_Int])
    (refine kGc_call (c4) (fun _ => rfl) (fun hgc => ?_) ?_; (focus (first | (rw [Bool.not_eq_true'] at hgc; simp only [List.map_cons, List.map_nil, List.nil_append, List.append_nil, List.cons_append, Xev_t, Xev_c, upd_app, lf_cons, lf_nil, Nat.reduceEqDiff, ↓reduceIte, hgc, Bool.false_eq_true, Bool.true_eq_false, reduceCtorEq]; done) | (simp only [List.map_cons, List.map_nil, List.nil_append, List.append_nil, List.cons_append, Xev_t, Xev_c, upd_app, lf_cons, lf_nil, Nat.reduceEqDiff, ↓reduceIte, hgc, Bool.false_eq_true, Bool.true_eq_false, reduceCtorEq]; done) | (revert hgc; simp +contextual [Xev_t, Xev_c, upd_app, lf_cons, lf_nil]; done) | simp [Xev_t, Xev_c, upd_app, lf_cons, lf_nil])); simp +contextual (maxSteps := 1000000) only [hp0, go_sem, reduceCtorEq, ↓reduceIte, Nat.reduceAdd, Nat.reduceEqDiff, Nat.reduceLeDiff, Nat.reduceMul, Nat.reduceBEq, Int.reduceBEq, Int.reduceBNe, Int.reduceLT, Int.reduceLE, Int.reduceGT, Int.reduceGE, Int.reduceToNat, Int.natCast_one, Int.natCast_zero, Int.cast_ofNat_Int])
    cases hb : (!b0 || !b1 || !pk || !w2 || !sh) <;> rw [hb] at hQ <;> simp +contextual (maxSteps := 1000000) only [hb, go_sem, reduceCtorEq, ↓reduceIte, Nat.reduceAdd, Nat.reduceEqDiff, Nat.reduceLeDiff, Nat.reduceMul, Nat.reduceBEq, Int.reduceBEq, Int.reduceBNe, Int.reduceLT, Int.reduceLE, Int.reduceGT, Int.reduceGE, Int.reduceToNat, Int.natCast_one, Int.natCast_zero, Int.cast_ofNat_Int] <;> rw [← hQ] <;> exact ⟨trivial, Ret.flat rfl rfl⟩
  · simp +contextual (maxSteps := 1000000) only [go_sem, reduceCtorEq, ↓reduceIte, Nat.reduceAdd, Nat.reduceEqDiff, Nat.reduceLeDiff, Nat.reduceMul, Nat.reduceBEq, Int.reduceBEq, Int.reduceBNe, Int.reduceLT, Int.reduceLE, Int.reduceGT, Int.reduceGE, Int.reduceToNat, Int.natCast_one, Int.natCast_zero, Int.cast_ofNat_Int]
    rw [← hQ]; exact ⟨trivial, Ret.flat rfl rfl⟩
end Go.Proofs.YtgdgfefojfgpaaaDoor

/- The reference's layer 3: whether a sequence may be, walked. -/
set_option linter.unusedVariables false
set_option linter.unusedSimpArgs false
set_option maxRecDepth 100000
namespace Go.Proofs.YtgdgfefojfgpaaaDoor
open Go Go.Ab
/- clavier/clavierref03.params -/
def ir_clavierref03params_l0 : ICode :=
 (.seq
               (.seq
                (.reg [⟨some 48, none, .mov (.t 4)⟩,
                  ⟨some 49, none, .mov (.t 0)⟩,
                  ⟨some 50, none, .mov (.t 3)⟩,
                  ⟨some 51, none, .ia 1 (.t 49) (.t 50)⟩,
                  ⟨some 52, none, .ld none (.t 51)⟩,
                  ⟨some 53, none, .len (.t 52)⟩,
                  ⟨some 54, none, .bin .lss .none (.t 48) (.t 53)⟩] (some [0, 3, 4, 54]))
                (.cond (.t 54)
                 .skip
                 (.exit 2)))
               (.seq
                (.blk 3
                 (.seq
                  (.reg [⟨some 57, none, .mov (.t 0)⟩,
                    ⟨some 58, none, .mov (.t 3)⟩,
                    ⟨some 59, none, .ia 1 (.t 57) (.t 58)⟩,
                    ⟨some 60, none, .ld none (.t 59)⟩,
                    ⟨some 61, none, .mov (.t 4)⟩,
                    ⟨some 62, none, .ia 1 (.t 60) (.t 61)⟩,
                    ⟨some 63, none, .ld none (.t 62)⟩,
                    ⟨some 64, none, .bin .lss .none (.t 63) (.c (.int .i64 (-1)))⟩,
                    ⟨some 65, none, .mov (.t 64)⟩,
                    ⟨some 66, some (65, false), .mov (.t 0)⟩,
                    ⟨some 67, some (65, false), .mov (.t 3)⟩,
                    ⟨some 68, some (65, false), .ia 1 (.t 66) (.t 67)⟩,
                    ⟨some 69, some (65, false), .ld none (.t 68)⟩,
                    ⟨some 70, some (65, false), .mov (.t 4)⟩,
                    ⟨some 71, some (65, false), .ia 1 (.t 69) (.t 70)⟩,
                    ⟨some 72, some (65, false), .ld none (.t 71)⟩,
                    ⟨some 73, some (65, false), .bin .gtr .none (.t 72) (.c (.int .i64 1114111))⟩,
                    ⟨some 74, none, .pick (.t 65) (.c (.bool true)) (.t 73)⟩] (some [0, 3, 4, 74]))
                  (.cond (.t 74)
                   (.seq
                    (.reg [⟨some 2, none, .mov (.c (.bool false))⟩] (some [2]))
                    .ret)
                   .skip)))
                (.reg [⟨some 55, none, .mov (.t 4)⟩,
                  ⟨some 56, none, .bin .add .none (.t 55) (.c (.int .i64 1))⟩,
                  ⟨some 4, none, .mov (.t 56)⟩] (some [0, 3, 4]))))
def ir_clavierref03params_l1 : ICode :=
 (.seq
        (.seq
         (.reg [⟨some 28, none, .mov (.t 3)⟩,
           ⟨some 29, none, .mov (.t 0)⟩,
           ⟨some 30, none, .len (.t 29)⟩,
           ⟨some 31, none, .bin .lss .none (.t 28) (.t 30)⟩] (some [0, 3, 31]))
         (.cond (.t 31)
          .skip
          (.exit 0)))
        (.seq
         (.blk 1
          (.seq
           (.seq
            (.reg [⟨some 34, none, .mov (.t 0)⟩,
              ⟨some 35, none, .mov (.t 3)⟩,
              ⟨some 36, none, .ia 1 (.t 34) (.t 35)⟩,
              ⟨some 37, none, .ld none (.t 36)⟩,
              ⟨some 38, none, .len (.t 37)⟩,
              ⟨some 39, none, .bin .lss .none (.t 38) (.c (.int .i64 1))⟩,
              ⟨some 40, none, .mov (.t 39)⟩,
              ⟨some 41, some (40, false), .mov (.t 0)⟩,
              ⟨some 42, some (40, false), .mov (.t 3)⟩,
              ⟨some 43, some (40, false), .ia 1 (.t 41) (.t 42)⟩,
              ⟨some 44, some (40, false), .ld none (.t 43)⟩,
              ⟨some 45, some (40, false), .len (.t 44)⟩,
              ⟨some 46, some (40, false), .bin .gtr .none (.t 45) (.c (.int .i64 8))⟩,
              ⟨some 47, none, .pick (.t 40) (.c (.bool true)) (.t 46)⟩] (some [0, 3, 47]))
            (.cond (.t 47)
             (.seq
              (.reg [⟨some 2, none, .mov (.c (.bool false))⟩] (some [2]))
              .ret)
             .skip))
           (.seq
            (.reg [⟨some 4, none, .mov (.c (.int .i64 0))⟩] (some [0, 3, 4]))
            (.blk 2
             (.loop
              ir_clavierref03params_l0)))))
         (.reg [⟨some 32, none, .mov (.t 3)⟩,
           ⟨some 33, none, .bin .add .none (.t 32) (.c (.int .i64 1))⟩,
           ⟨some 3, none, .mov (.t 33)⟩] (some [0, 3]))))
def ir_clavierref03params_t3 : ICode :=
 (.seq
  (.reg [⟨some 2, none, .mov (.c (.bool true))⟩] (some [2]))
  .ret)
def ir_clavierref03params_t2 : ICode :=
 (.seq
  (.seq
     (.reg [⟨some 3, none, .mov (.c (.int .i64 0))⟩] (some [0, 3]))
     (.blk 0
      (.loop
       ir_clavierref03params_l1)))
  ir_clavierref03params_t3)
def ir_clavierref03params_t1 : ICode :=
 (.seq
  (.seq
    (.reg [⟨some 5, none, .mov (.t 0)⟩,
      ⟨some 6, none, .len (.t 5)⟩,
      ⟨some 7, none, .bin .gtr .none (.t 6) (.c (.int .i64 16))⟩,
      ⟨some 8, none, .mov (.t 7)⟩,
      ⟨some 9, some (8, false), .mov (.t 0)⟩,
      ⟨some 10, some (8, false), .len (.t 9)⟩,
      ⟨some 11, some (8, false), .bin .eql .none (.t 10) (.c (.int .i64 1))⟩,
      ⟨some 12, some (8, false), .mov (.t 11)⟩,
      ⟨some 13, some (12, true), .mov (.t 0)⟩,
      ⟨some 14, some (12, true), .ia 1 (.t 13) (.c (.int .i64 0))⟩,
      ⟨some 15, some (12, true), .ld none (.t 14)⟩,
      ⟨some 16, some (12, true), .len (.t 15)⟩,
      ⟨some 17, some (12, true), .bin .eql .none (.t 16) (.c (.int .i64 1))⟩,
      ⟨some 18, some (8, false), .pick (.t 12) (.t 17) (.c (.bool false))⟩,
      ⟨some 19, some (8, false), .mov (.t 18)⟩,
      ⟨some 20, some (19, true), .mov (.t 0)⟩,
      ⟨some 21, some (19, true), .ia 1 (.t 20) (.c (.int .i64 0))⟩,
      ⟨some 22, some (19, true), .ld none (.t 21)⟩,
      ⟨some 23, some (19, true), .ia 1 (.t 22) (.c (.int .i64 0))⟩,
      ⟨some 24, some (19, true), .ld none (.t 23)⟩,
      ⟨some 25, some (19, true), .bin .eql .none (.t 24) (.c (.int .i64 (-1)))⟩,
      ⟨some 26, some (8, false), .pick (.t 19) (.t 25) (.c (.bool false))⟩,
      ⟨some 27, none, .pick (.t 8) (.c (.bool true)) (.t 26)⟩] (some [0, 27]))
    (.cond (.t 27)
     (.seq
      (.reg [⟨some 2, none, .mov (.c (.bool false))⟩] (some [2]))
      .ret)
     .skip))
  ir_clavierref03params_t2)
def ir_clavierref03params : ICode :=
 (.seq
  (.reg [⟨some 2, none, .mov (.c (.bool false))⟩] (some [0]))
  ir_clavierref03params_t1)
theorem is_clavierref03params : IrOf Tryd.prog 22 75 ir_clavierref03params [.t 2] := ⟨_, Tryd.func22, rfl, by kernel_rfl, by kernel_rfl, by kernel_rfl⟩


def subBad (n : Int) : Bool := decide (n < -1) || decide (n > 1114111)
theorem parBad_eq (p : List Int) : parBad p = (p.any subBad || (decide (p.length < 1) || decide (p.length > 8))) := rfl
set_option maxHeartbeats 1000000 in
theorem fs_rParams {Gl : Gh → Prop} (hst : Stays Gl) {l : List (List Int)} (ha : l.length < 9223372036854775808) (hb : ∀ p ∈ l, p.length < 9223372036854775808) : FS Tryd.prog Gl 22 [parsV l] [] [] (.bool (parsOk l)) [] [] := by
  refine FS.of hm hst is_clavierref03params (by simp) fun γ hγ hfr => ?_
  (generalize hQ : (fun (ex : Ex) (_ _ : Nat) (s : St) => _) = Q; unfold ir_clavierref03params)
  simp only [parsV]
  simp +contextual (maxSteps := 1000000) only [go_sem, reduceCtorEq, ↓reduceIte, Nat.reduceAdd, Nat.reduceEqDiff, Nat.reduceLeDiff, Nat.reduceMul, Nat.reduceBEq, Int.reduceBEq, Int.reduceBNe, Int.reduceLT, Int.reduceLE, Int.reduceGT, Int.reduceGE, Int.reduceToNat, Int.natCast_one, Int.natCast_zero, Int.cast_ofNat_Int]
  unfold ir_clavierref03params_t1
  have i1 : decide ((l.length : Int) > 16) = decide (l.length > 16) := by rw [decide_eq_decide]; omega
  have i2 : ((l.length : Int) == 1) = decide (l.length = 1) := by rw [Bool.eq_iff_iff]; simp; omega
  have loop : ∀ F c, lfOK [] F [(0, .sl none 1 (parsAV l)), (3, .int .i64 0)] → decide (l.length > 16) = false → decide (l = [[-1]]) = false → kLoop Tryd.prog Gl ir_clavierref03params_l1 γ c ⟨F, [], fun x => x ∈ []⟩ (kBlk 0 (kSeq Tryd.prog Gl ir_clavierref03params_t3 Q)) := by
    intro F c hF e1 e2
    refine kLoop_ix (fun i : Nat => ⟨lf [(0, .sl none 1 (parsAV l)), (3, .int .i64 i)], [], fun x => x ∈ []⟩) (fun i => i ≤ l.length ∧ l.any parBad = (l.drop i).any parBad) (fun i => l.length - i) 0 0 (Wk.same hF) (by simp) ?_
    rintro γ' i hf ⟨hi, hinv⟩
    generalize hQ' : kIt _ _ _ _ _ = Q'
    unfold ir_clavierref03params_l1
    by_cases hlt : i < l.length
    · have hd : decide ((i : Int) < (l.length : Int)) = true := by simp; omega
      have hg1 : (parsAV l).getD i [] = [intsV l[i]] := parsAV_get hlt
      have hdrop : l.drop i = l[i] :: l.drop (i + 1) := List.drop_eq_getElem_cons hlt
      have hpl := hb _ (List.getElem_mem hlt)
      have hw : IntKind.i64.wrap ((i : Int) + 1) = ((i + 1 : Nat) : Int) := by rw [IntKind.wrap_i64]; omega
      rw [hdrop, List.any_cons] at hinv
      generalize l[i] = p at hg1 hinv hpl
      have i3 : decide ((p.length : Int) < 1) = decide (p.length < 1) := by rw [decide_eq_decide]; omega
      have i4 : decide ((p.length : Int) > 8) = decide (p.length > 8) := by rw [decide_eq_decide]; omega
      simp +contextual (maxSteps := 1000000) only [hd, hg1, parsAV_length, Int.toNat_natCast, intsV, intsAV_length, i3, i4, go_sem, reduceCtorEq, ↓reduceIte, Nat.reduceAdd, Nat.reduceEqDiff, Nat.reduceLeDiff, Nat.reduceMul, Nat.reduceBEq, Int.reduceBEq, Int.reduceBNe, Int.reduceLT, Int.reduceLE, Int.reduceGT, Int.reduceGE, Int.reduceToNat, Int.natCast_one, Int.natCast_zero, Int.cast_ofNat_Int]
      refine ⟨by omega, by omega, ?_⟩
      refine kCond_split (fun h => ?_) (fun h => ?_)
      · simp +contextual (maxSteps := 1000000) only [go_sem, reduceCtorEq, ↓reduceIte, Nat.reduceAdd, Nat.reduceEqDiff, Nat.reduceLeDiff, Nat.reduceMul, Nat.reduceBEq, Int.reduceBEq, Int.reduceBNe, Int.reduceLT, Int.reduceLE, Int.reduceGT, Int.reduceGE, Int.reduceToNat, Int.natCast_one, Int.natCast_zero, Int.cast_ofNat_Int]
        rw [← hQ']
        simp only [w_kIt_r, w_kBlk_r, w_kSeq_r]
        rw [← hQ]
        refine ⟨trivial, Ret.flat ?_ rfl⟩
        have e : parBad p = true := by rw [parBad_eq, h, Bool.or_true]
        have : parsOk l = false := by simp only [parsOk, hinv, e, Bool.true_or, Bool.not_true, Bool.and_false]
        rw [this]; rfl
      · have h' : p.any subBad = parBad p := by
          rw [parBad_eq]
          rw [h, Bool.or_false]
        simp +contextual (maxSteps := 1000000) only [go_sem, reduceCtorEq, ↓reduceIte, Nat.reduceAdd, Nat.reduceEqDiff, Nat.reduceLeDiff, Nat.reduceMul, Nat.reduceBEq, Int.reduceBEq, Int.reduceBNe, Int.reduceLT, Int.reduceLE, Int.reduceGT, Int.reduceGE, Int.reduceToNat, Int.natCast_one, Int.natCast_zero, Int.cast_ofNat_Int]
        refine kLoop_ix (fun k : Nat => ⟨lf [(0, .sl none 1 (parsAV l)), (3, .int .i64 i), (4, .int .i64 k)], [], fun x => x ∈ []⟩) (fun k => k ≤ p.length ∧ p.any subBad = (p.drop k).any subBad) (fun k => p.length - k) 0 0 (Wk.same ?_) (by simp) ?_
        · (simp only [lfOK, upd, initF]; repeat' first | exact AVle.refl _ _ | exact trivial | refine And.intro ?_ ?_ | exact AVle.int (by simp only [IntKind.wrap_i64]; omega))
        rintro γ2 k hf2 ⟨hk, hinv2⟩
        generalize hQ2 : kIt _ _ _ _ _ = Q2
        unfold ir_clavierref03params_l0
        by_cases hlt2 : k < p.length
        · have hd2 : decide ((k : Int) < (p.length : Int)) = true := by simp; omega
          have hg2 : (intsAV p).getD k [] = [.int .i64 p[k]] := intsAV_get hlt2
          have hdrop2 : p.drop k = p[k] :: p.drop (k + 1) := List.drop_eq_getElem_cons hlt2
          have hw2 : IntKind.i64.wrap ((k : Int) + 1) = ((k + 1 : Nat) : Int) := by rw [IntKind.wrap_i64]; omega
          rw [hdrop2, List.any_cons] at hinv2
          generalize p[k] = x at hg2 hinv2
          simp +contextual (maxSteps := 1000000) only [hd2, hg1, hg2, parsAV_length, Int.toNat_natCast, intsV, intsAV_length, go_sem, reduceCtorEq, ↓reduceIte, Nat.reduceAdd, Nat.reduceEqDiff, Nat.reduceLeDiff, Nat.reduceMul, Nat.reduceBEq, Int.reduceBEq, Int.reduceBNe, Int.reduceLT, Int.reduceLE, Int.reduceGT, Int.reduceGE, Int.reduceToNat, Int.natCast_one, Int.natCast_zero, Int.cast_ofNat_Int]
          refine ⟨by omega, by omega, by omega, fun _ => by omega, fun _ => by omega, ?_⟩
          refine kCond_split (fun h2 => ?_) (fun h2 => ?_)
          · simp +contextual (maxSteps := 1000000) only [go_sem, reduceCtorEq, ↓reduceIte, Nat.reduceAdd, Nat.reduceEqDiff, Nat.reduceLeDiff, Nat.reduceMul, Nat.reduceBEq, Int.reduceBEq, Int.reduceBNe, Int.reduceLT, Int.reduceLE, Int.reduceGT, Int.reduceGE, Int.reduceToNat, Int.natCast_one, Int.natCast_zero, Int.cast_ofNat_Int]
            rw [← hQ2]
            simp only [w_kIt_r, w_kBlk_r, w_kSeq_r]
            rw [← hQ']
            simp only [w_kIt_r, w_kBlk_r, w_kSeq_r]
            rw [← hQ]
            refine ⟨trivial, Ret.flat ?_ rfl⟩
            have e : parBad p = true := by rw [← h', hinv2, subBad, h2, Bool.true_or]
            have : parsOk l = false := by simp only [parsOk, hinv, e, Bool.true_or, Bool.not_true, Bool.and_false]
            rw [this]; rfl
          · simp +contextual (maxSteps := 1000000) only [hw2, go_sem, reduceCtorEq, ↓reduceIte, Nat.reduceAdd, Nat.reduceEqDiff, Nat.reduceLeDiff, Nat.reduceMul, Nat.reduceBEq, Int.reduceBEq, Int.reduceBNe, Int.reduceLT, Int.reduceLE, Int.reduceGT, Int.reduceGE, Int.reduceToNat, Int.natCast_one, Int.natCast_zero, Int.cast_ofNat_Int]
            rw [← hQ2]
            simp only [w_kIt_n]
            refine ⟨0, k + 1, Wk.same ?_, ⟨by omega, ?_⟩, by omega⟩
            · repeat' first | exact AVle.refl _ _ | exact trivial | refine And.intro ?_ ?_ | exact AVle.int (by simp only [IntKind.wrap_i64]; omega)
            · rw [hinv2, subBad, h2, Bool.false_or]
        · have hd2 : decide ((k : Int) < (p.length : Int)) = false := by simp; omega
          simp +contextual (maxSteps := 1000000) only [hd2, hg1, parsAV_length, Int.toNat_natCast, intsV, intsAV_length, go_sem, reduceCtorEq, ↓reduceIte, Nat.reduceAdd, Nat.reduceEqDiff, Nat.reduceLeDiff, Nat.reduceMul, Nat.reduceBEq, Int.reduceBEq, Int.reduceBNe, Int.reduceLT, Int.reduceLE, Int.reduceGT, Int.reduceGE, Int.reduceToNat, Int.natCast_one, Int.natCast_zero, Int.cast_ofNat_Int]
          refine ⟨by omega, ?_⟩
          rw [← hQ2]
          simp only [w_kIt_e, w_kBlk_e, ↓reduceIte]
          simp +contextual (maxSteps := 1000000) only [hw, go_sem, reduceCtorEq, ↓reduceIte, Nat.reduceAdd, Nat.reduceEqDiff, Nat.reduceLeDiff, Nat.reduceMul, Nat.reduceBEq, Int.reduceBEq, Int.reduceBNe, Int.reduceLT, Int.reduceLE, Int.reduceGT, Int.reduceGE, Int.reduceToNat, Int.natCast_one, Int.natCast_zero, Int.cast_ofNat_Int]
          rw [← hQ']
          simp only [w_kIt_n]
          refine ⟨0, i + 1, Wk.same ?_, ⟨by omega, ?_⟩, by omega⟩
          · repeat' first | exact AVle.refl _ _ | exact trivial | refine And.intro ?_ ?_ | exact AVle.int (by simp only [IntKind.wrap_i64]; omega)
          · rw [List.drop_of_length_le (by omega), List.any_nil] at hinv2
            rw [hinv, ← h', hinv2, Bool.false_or]
    · have hd : decide ((i : Int) < (l.length : Int)) = false := by simp; omega
      simp +contextual (maxSteps := 1000000) only [hd, parsAV_length, go_sem, reduceCtorEq, ↓reduceIte, Nat.reduceAdd, Nat.reduceEqDiff, Nat.reduceLeDiff, Nat.reduceMul, Nat.reduceBEq, Int.reduceBEq, Int.reduceBNe, Int.reduceLT, Int.reduceLE, Int.reduceGT, Int.reduceGE, Int.reduceToNat, Int.natCast_one, Int.natCast_zero, Int.cast_ofNat_Int]
      rw [← hQ']
      simp only [w_kIt_e, w_kBlk_e, ↓reduceIte]
      simp +contextual (maxSteps := 1000000) only [go_sem, reduceCtorEq, ↓reduceIte, Nat.reduceAdd, Nat.reduceEqDiff, Nat.reduceLeDiff, Nat.reduceMul, Nat.reduceBEq, Int.reduceBEq, Int.reduceBNe, Int.reduceLT, Int.reduceLE, Int.reduceGT, Int.reduceGE, Int.reduceToNat, Int.natCast_one, Int.natCast_zero, Int.cast_ofNat_Int]
      unfold ir_clavierref03params_t3
      simp +contextual (maxSteps := 1000000) only [go_sem, reduceCtorEq, ↓reduceIte, Nat.reduceAdd, Nat.reduceEqDiff, Nat.reduceLeDiff, Nat.reduceMul, Nat.reduceBEq, Int.reduceBEq, Int.reduceBNe, Int.reduceLT, Int.reduceLE, Int.reduceGT, Int.reduceGE, Int.reduceToNat, Int.natCast_one, Int.natCast_zero, Int.cast_ofNat_Int]
      rw [← hQ]
      refine ⟨trivial, Ret.flat ?_ rfl⟩
      have : parsOk l = true := by
        rw [List.drop_of_length_le (by omega)] at hinv
        simp only [parsOk, hinv, e1, e2, Bool.or_false, Bool.not_false, List.any_nil, Bool.and_self]
      rw [this]; rfl
  have i5 : ∀ n : Nat, (((n + 1 + 1 : Nat) : Int) == 1) = false := fun n => by simp; omega
  have go : ∀ F c, F 0 = .sl none 1 (parsAV l) → decide (l.length > 16) = false → decide (l = [[-1]]) = false → aw Tryd.prog Gl ir_clavierref03params_t2 γ c ⟨F, [], fun x => x ∈ []⟩ Q := fun F c h0 e1 e2 => by
    unfold ir_clavierref03params_t2
    simp +contextual (maxSteps := 1000000) only [h0, go_sem, reduceCtorEq, ↓reduceIte, Nat.reduceAdd, Nat.reduceEqDiff, Nat.reduceLeDiff, Nat.reduceMul, Nat.reduceBEq, Int.reduceBEq, Int.reduceBNe, Int.reduceLT, Int.reduceLE, Int.reduceGT, Int.reduceGE, Int.reduceToNat, Int.natCast_one, Int.natCast_zero, Int.cast_ofNat_Int]
    refine loop _ _ ?_ e1 e2
    (simp only [lfOK, upd, initF]; repeat' first | exact AVle.refl _ _ | exact trivial | refine And.intro ?_ ?_ | exact AVle.int (by simp only [IntKind.wrap_i64]; omega))
  clear loop
  have no : parsOk l = false → ∀ γ c F, F 2 = .bool false → Q .ret γ c ⟨F, [], fun x => x ∈ []⟩ := fun h γ c F h2 => by
    rw [← hQ, h]
    exact ⟨trivial, Ret.flat (by simp only [resOf, getAll, IRes.get, h2]) rfl⟩
  match l, go, no with
  | [], go, no =>
    simp +contextual (maxSteps := 1000000) only [parsAV, List.map_nil, go_sem, reduceCtorEq, ↓reduceIte, Nat.reduceAdd, Nat.reduceEqDiff, Nat.reduceLeDiff, Nat.reduceMul, Nat.reduceBEq, Int.reduceBEq, Int.reduceBNe, Int.reduceLT, Int.reduceLE, Int.reduceGT, Int.reduceGE, Int.reduceToNat, Int.natCast_one, Int.natCast_zero, Int.cast_ofNat_Int]
    exact go _ _ rfl rfl rfl
  | [[]], go, no =>
    simp +contextual (maxSteps := 1000000) only [parsAV, intsV, intsAV, List.map_nil, List.map_cons, Int.zero_add, go_sem, reduceCtorEq, ↓reduceIte, Nat.reduceAdd, Nat.reduceEqDiff, Nat.reduceLeDiff, Nat.reduceMul, Nat.reduceBEq, Int.reduceBEq, Int.reduceBNe, Int.reduceLT, Int.reduceLE, Int.reduceGT, Int.reduceGE, Int.reduceToNat, Int.natCast_one, Int.natCast_zero, Int.cast_ofNat_Int]
    exact go _ _ rfl rfl rfl
  | [[n]], go, no =>
    simp +contextual (maxSteps := 1000000) only [parsAV, intsV, intsAV, List.map_nil, List.map_cons, Int.zero_add, go_sem, reduceCtorEq, ↓reduceIte, Nat.reduceAdd, Nat.reduceEqDiff, Nat.reduceLeDiff, Nat.reduceMul, Nat.reduceBEq, Int.reduceBEq, Int.reduceBNe, Int.reduceLT, Int.reduceLE, Int.reduceGT, Int.reduceGE, Int.reduceToNat, Int.natCast_one, Int.natCast_zero, Int.cast_ofNat_Int]
    refine kCond_split (fun h => ?_) (fun h => ?_)
    · simp +contextual (maxSteps := 1000000) only [go_sem, reduceCtorEq, ↓reduceIte, Nat.reduceAdd, Nat.reduceEqDiff, Nat.reduceLeDiff, Nat.reduceMul, Nat.reduceBEq, Int.reduceBEq, Int.reduceBNe, Int.reduceLT, Int.reduceLE, Int.reduceGT, Int.reduceGE, Int.reduceToNat, Int.natCast_one, Int.natCast_zero, Int.cast_ofNat_Int]
      refine no ?_ _ _ _ rfl
      have : n = -1 := by simpa using h
      subst this; rfl
    · simp +contextual (maxSteps := 1000000) only [go_sem, reduceCtorEq, ↓reduceIte, Nat.reduceAdd, Nat.reduceEqDiff, Nat.reduceLeDiff, Nat.reduceMul, Nat.reduceBEq, Int.reduceBEq, Int.reduceBNe, Int.reduceLT, Int.reduceLE, Int.reduceGT, Int.reduceGE, Int.reduceToNat, Int.natCast_one, Int.natCast_zero, Int.cast_ofNat_Int]
      have h2 : decide ([[n]] = [[-1]]) = false := by simpa using h
      exact go _ _ rfl rfl h2
  | [n :: m :: p], go, no =>
    simp +contextual (maxSteps := 1000000) only [parsAV, intsV, intsAV, List.map_nil, List.map_cons, Int.zero_add, i5, Bool.false_and, Bool.and_false, go_sem, reduceCtorEq, ↓reduceIte, Nat.reduceAdd, Nat.reduceEqDiff, Nat.reduceLeDiff, Nat.reduceMul, Nat.reduceBEq, Int.reduceBEq, Int.reduceBNe, Int.reduceLT, Int.reduceLE, Int.reduceGT, Int.reduceGE, Int.reduceToNat, Int.natCast_one, Int.natCast_zero, Int.cast_ofNat_Int]
    exact go _ _ rfl rfl (by simp)
  | p :: q :: l, go, no =>
    have i6 : decide (((l.length + 1 + 1 : Nat) : Int) > 16) = decide ((p :: q :: l).length > 16) := by rw [decide_eq_decide, List.length_cons, List.length_cons]; omega
    simp +contextual (maxSteps := 1000000) only [parsAV, intsV, intsAV, List.map_nil, List.map_cons, List.length_map, Int.zero_add, i5, i6, Bool.false_and, Bool.and_false, go_sem, reduceCtorEq, ↓reduceIte, Nat.reduceAdd, Nat.reduceEqDiff, Nat.reduceLeDiff, Nat.reduceMul, Nat.reduceBEq, Int.reduceBEq, Int.reduceBNe, Int.reduceLT, Int.reduceLE, Int.reduceGT, Int.reduceGE, Int.reduceToNat, Int.natCast_one, Int.natCast_zero, Int.cast_ofNat_Int]
    refine kCond_split (fun h => ?_) (fun h => ?_)
    · simp +contextual (maxSteps := 1000000) only [go_sem, reduceCtorEq, ↓reduceIte, Nat.reduceAdd, Nat.reduceEqDiff, Nat.reduceLeDiff, Nat.reduceMul, Nat.reduceBEq, Int.reduceBEq, Int.reduceBNe, Int.reduceLT, Int.reduceLE, Int.reduceGT, Int.reduceGE, Int.reduceToNat, Int.natCast_one, Int.natCast_zero, Int.cast_ofNat_Int]
      refine no ?_ _ _ _ rfl
      simp only [parsOk, List.length_cons, h, Bool.true_or, Bool.not_true, Bool.false_and]
    · simp +contextual (maxSteps := 1000000) only [go_sem, reduceCtorEq, ↓reduceIte, Nat.reduceAdd, Nat.reduceEqDiff, Nat.reduceLeDiff, Nat.reduceMul, Nat.reduceBEq, Int.reduceBEq, Int.reduceBNe, Int.reduceLT, Int.reduceLE, Int.reduceGT, Int.reduceGE, Int.reduceToNat, Int.natCast_one, Int.natCast_zero, Int.cast_ofNat_Int]
      exact go _ _ rfl h (by simp)
end Go.Proofs.YtgdgfefojfgpaaaDoor

/- The reference's layer 3: whether a sequence may be, walked. -/
set_option linter.unusedVariables false
set_option linter.unusedSimpArgs false
set_option maxRecDepth 100000
namespace Go.Proofs.YtgdgfefojfgpaaaDoor
open Go Go.Ab
/-- clavier/clavierref03.last -/
def ir_clavierref03last : ICode :=
 (.seq
  (.reg [⟨some 1, none, .box 32 (.t 0)⟩,
    ⟨some 2, none, .mov (.c (.bool false))⟩] (some [1]))
  (.seq
   (.seq
    (.reg [⟨some 4, none, .fa 0 (.t 1)⟩,
      ⟨some 5, none, .ld none (.t 4)⟩] (some [1, 5]))
    (.blk 0
     (.seq
      (.seq
       (.reg [⟨some 7, none, .bin .eql .none (.t 5) (.c (.int .i64 1))⟩,
         ⟨some 6, none, .mov (.t 7)⟩] (some [1, 5, 6]))
       (.cond (.t 6)
        .skip
        (.seq
         (.reg [⟨some 8, none, .bin .eql .none (.t 5) (.c (.int .i64 2))⟩,
           ⟨some 6, none, .mov (.t 8)⟩] (some [1, 5, 6]))
         (.cond (.t 6)
          .skip
          (.reg [⟨some 9, none, .bin .eql .none (.t 5) (.c (.int .i64 3))⟩,
            ⟨some 6, none, .mov (.t 9)⟩] (some [1, 5, 6]))))))
      (.cond (.t 6)
       (.seq
        (.reg [⟨some 10, none, .fa 4 (.t 1)⟩,
          ⟨some 11, none, .ld none (.t 10)⟩,
          ⟨some 12, none, .bin .geq .none (.t 11) (.c (.int .u8 64))⟩,
          ⟨some 13, none, .mov (.t 12)⟩,
          ⟨some 14, some (13, true), .fa 4 (.t 1)⟩,
          ⟨some 15, some (13, true), .ld none (.t 14)⟩,
          ⟨some 16, some (13, true), .bin .leq .none (.t 15) (.c (.int .u8 126))⟩,
          ⟨some 17, none, .pick (.t 13) (.t 16) (.c (.bool false))⟩,
          ⟨some 2, none, .mov (.t 17)⟩] (some [2]))
        .ret)
       (.seq
        (.reg [⟨some 19, none, .bin .eql .none (.t 5) (.c (.int .i64 5))⟩,
          ⟨some 18, none, .mov (.t 19)⟩] (some [1, 18]))
        (.cond (.t 18)
         (.seq
          (.seq
           (.reg [⟨some 20, none, .fa 4 (.t 1)⟩,
             ⟨some 21, none, .ld none (.t 20)⟩,
             ⟨some 22, none, .bin .lss .none (.t 21) (.c (.int .u8 48))⟩,
             ⟨some 23, none, .mov (.t 22)⟩,
             ⟨some 24, some (23, false), .fa 4 (.t 1)⟩,
             ⟨some 25, some (23, false), .ld none (.t 24)⟩,
             ⟨some 26, some (23, false), .bin .gtr .none (.t 25) (.c (.int .u8 126))⟩,
             ⟨some 27, none, .pick (.t 23) (.c (.bool true)) (.t 26)⟩] (some [1, 27]))
           (.cond (.t 27)
            (.seq
             (.reg [⟨some 2, none, .mov (.c (.bool false))⟩] (some [2]))
             .ret)
            .skip))
          (.seq
           (.reg [⟨some 28, none, .fa 4 (.t 1)⟩,
             ⟨some 29, none, .ld none (.t 28)⟩,
             ⟨some 3, none, .mov (.t 29)⟩] (some [1, 3]))
           (.seq
            (.reg [⟨some 30, none, .fa 3 (.t 1)⟩,
              ⟨some 31, none, .ld none (.t 30)⟩,
              ⟨some 32, none, .lns (.t 31)⟩,
              ⟨some 33, none, .bin .gtr .none (.t 32) (.c (.int .i64 0))⟩,
              ⟨some 34, none, .mov (.t 33)⟩,
              ⟨some 35, some (34, false), .mov (.t 3)⟩,
              ⟨some 36, some (34, false), .bin .neq .none (.t 35) (.c (.int .u8 79))⟩,
              ⟨some 37, some (34, false), .mov (.t 36)⟩,
              ⟨some 38, some (37, true), .mov (.t 3)⟩,
              ⟨some 39, some (37, true), .bin .neq .none (.t 38) (.c (.int .u8 80))⟩,
              ⟨some 40, some (34, false), .pick (.t 37) (.t 39) (.c (.bool false))⟩,
              ⟨some 41, some (34, false), .mov (.t 40)⟩,
              ⟨some 42, some (41, true), .mov (.t 3)⟩,
              ⟨some 43, some (41, true), .bin .neq .none (.t 42) (.c (.int .u8 88))⟩,
              ⟨some 44, some (34, false), .pick (.t 41) (.t 43) (.c (.bool false))⟩,
              ⟨some 45, some (34, false), .mov (.t 44)⟩,
              ⟨some 46, some (45, true), .mov (.t 3)⟩,
              ⟨some 47, some (45, true), .bin .neq .none (.t 46) (.c (.int .u8 91))⟩,
              ⟨some 48, some (34, false), .pick (.t 45) (.t 47) (.c (.bool false))⟩,
              ⟨some 49, some (34, false), .mov (.t 48)⟩,
              ⟨some 50, some (49, true), .mov (.t 3)⟩,
              ⟨some 51, some (49, true), .bin .neq .none (.t 50) (.c (.int .u8 93))⟩,
              ⟨some 52, some (34, false), .pick (.t 49) (.t 51) (.c (.bool false))⟩,
              ⟨some 53, some (34, false), .mov (.t 52)⟩,
              ⟨some 54, some (53, true), .mov (.t 3)⟩,
              ⟨some 55, some (53, true), .bin .neq .none (.t 54) (.c (.int .u8 92))⟩,
              ⟨some 56, some (34, false), .pick (.t 53) (.t 55) (.c (.bool false))⟩,
              ⟨some 57, some (34, false), .mov (.t 56)⟩,
              ⟨some 58, some (57, true), .mov (.t 3)⟩,
              ⟨some 59, some (57, true), .bin .neq .none (.t 58) (.c (.int .u8 94))⟩,
              ⟨some 60, some (34, false), .pick (.t 57) (.t 59) (.c (.bool false))⟩,
              ⟨some 61, some (34, false), .mov (.t 60)⟩,
              ⟨some 62, some (61, true), .mov (.t 3)⟩,
              ⟨some 63, some (61, true), .bin .neq .none (.t 62) (.c (.int .u8 95))⟩,
              ⟨some 64, some (34, false), .pick (.t 61) (.t 63) (.c (.bool false))⟩,
              ⟨some 65, none, .pick (.t 34) (.c (.bool true)) (.t 64)⟩,
              ⟨some 2, none, .mov (.t 65)⟩] (some [2]))
            .ret)))
         .skip))))))
   (.seq
    (.reg [⟨some 66, none, .fa 0 (.t 1)⟩,
      ⟨some 67, none, .ld none (.t 66)⟩,
      ⟨some 68, none, .bin .eql .none (.t 67) (.c (.int .i64 4))⟩,
      ⟨some 69, none, .mov (.t 68)⟩,
      ⟨some 70, some (69, true), .fa 4 (.t 1)⟩,
      ⟨some 71, some (69, true), .ld none (.t 70)⟩,
      ⟨some 72, some (69, true), .bin .eql .none (.t 71) (.c (.int .u8 0))⟩,
      ⟨some 73, none, .pick (.t 69) (.t 72) (.c (.bool false))⟩,
      ⟨some 2, none, .mov (.t 73)⟩] (some [2]))
    .ret)))
theorem is_clavierref03last : IrOf Tryd.prog 24 74 ir_clavierref03last [.t 2] := ⟨_, Tryd.func24, rfl, by kernel_rfl, by kernel_rfl, by kernel_rfl⟩

/-- clavier/clavierref03.bare -/
def ir_clavierref03bare : ICode :=
 (.seq
  (.reg [⟨some 1, none, .box 32 (.t 0)⟩,
    ⟨some 2, none, .mov (.c (.bool false))⟩] (some [1]))
  (.seq
   (.reg [⟨some 4, none, .fa 0 (.t 1)⟩,
     ⟨some 5, none, .ld none (.t 4)⟩,
     ⟨some 6, none, .bin .eql .none (.t 5) (.c (.int .i64 2))⟩,
     ⟨some 7, none, .mov (.t 6)⟩,
     ⟨some 8, some (7, false), .fa 0 (.t 1)⟩,
     ⟨some 9, some (7, false), .ld none (.t 8)⟩,
     ⟨some 10, some (7, false), .bin .eql .none (.t 9) (.c (.int .i64 4))⟩,
     ⟨some 11, none, .pick (.t 7) (.c (.bool true)) (.t 10)⟩,
     ⟨some 12, none, .mov (.t 11)⟩,
     ⟨some 13, some (12, false), .fa 0 (.t 1)⟩,
     ⟨some 14, some (12, false), .ld none (.t 13)⟩,
     ⟨some 15, some (12, false), .bin .eql .none (.t 14) (.c (.int .i64 5))⟩,
     ⟨some 16, none, .pick (.t 12) (.c (.bool true)) (.t 15)⟩,
     ⟨some 3, none, .mov (.t 16)⟩] (some [1, 3]))
   (.seq
    (.seq
     (.reg [⟨some 17, none, .mov (.t 3)⟩,
       ⟨some 18, none, .mov (.t 17)⟩,
       ⟨some 19, some (18, true), .fa 1 (.t 1)⟩,
       ⟨some 20, some (18, true), .ld none (.t 19)⟩,
       ⟨some 21, some (18, true), .bin .neq .none (.t 20) (.c (.int .u8 0))⟩,
       ⟨some 22, some (18, true), .mov (.t 21)⟩,
       ⟨some 23, some (22, false), .fa 2 (.t 1)⟩,
       ⟨some 24, some (22, false), .ld none (.t 23)⟩,
       ⟨some 25, some (22, false), .len (.t 24)⟩,
       ⟨some 26, some (22, false), .bin .gtr .none (.t 25) (.c (.int .i64 0))⟩,
       ⟨some 27, some (18, true), .pick (.t 22) (.c (.bool true)) (.t 26)⟩,
       ⟨some 28, none, .pick (.t 18) (.t 27) (.c (.bool false))⟩] (some [1, 28]))
     (.cond (.t 28)
      (.seq
       (.reg [⟨some 2, none, .mov (.c (.bool false))⟩] (some [2]))
       .ret)
      .skip))
    (.seq
     (.seq
      (.reg [⟨some 29, none, .fa 0 (.t 1)⟩,
        ⟨some 30, none, .ld none (.t 29)⟩,
        ⟨some 31, none, .bin .eql .none (.t 30) (.c (.int .i64 2))⟩,
        ⟨some 32, none, .mov (.t 31)⟩,
        ⟨some 33, some (32, false), .fa 0 (.t 1)⟩,
        ⟨some 34, some (32, false), .ld none (.t 33)⟩,
        ⟨some 35, some (32, false), .bin .eql .none (.t 34) (.c (.int .i64 4))⟩,
        ⟨some 36, none, .pick (.t 32) (.c (.bool true)) (.t 35)⟩,
        ⟨some 37, none, .mov (.t 36)⟩,
        ⟨some 38, some (37, true), .fa 3 (.t 1)⟩,
        ⟨some 39, some (37, true), .ld none (.t 38)⟩,
        ⟨some 40, some (37, true), .bin .neq .none (.t 39) (.c (.str []))⟩,
        ⟨some 41, none, .pick (.t 37) (.t 40) (.c (.bool false))⟩] (some [1, 41]))
      (.cond (.t 41)
       (.seq
        (.reg [⟨some 2, none, .mov (.c (.bool false))⟩] (some [2]))
        .ret)
       .skip))
     (.seq
      (.reg [⟨some 42, none, .fa 5 (.t 1)⟩,
        ⟨some 43, none, .ld none (.t 42)⟩,
        ⟨some 44, none, .bin .eql .none (.t 43) (.c (.str []))⟩,
        ⟨some 45, none, .mov (.t 44)⟩,
        ⟨some 46, some (45, false), .fa 0 (.t 1)⟩,
        ⟨some 47, some (45, false), .ld none (.t 46)⟩,
        ⟨some 48, some (45, false), .bin .eql .none (.t 47) (.c (.int .i64 3))⟩,
        ⟨some 49, none, .pick (.t 45) (.c (.bool true)) (.t 48)⟩,
        ⟨some 50, none, .mov (.t 49)⟩,
        ⟨some 51, some (50, false), .fa 0 (.t 1)⟩,
        ⟨some 52, some (50, false), .ld none (.t 51)⟩,
        ⟨some 53, some (50, false), .bin .eql .none (.t 52) (.c (.int .i64 4))⟩,
        ⟨some 54, none, .pick (.t 50) (.c (.bool true)) (.t 53)⟩,
        ⟨some 2, none, .mov (.t 54)⟩] (some [2]))
      .ret)))))
theorem is_clavierref03bare : IrOf Tryd.prog 25 55 ir_clavierref03bare [.t 2] := ⟨_, Tryd.func25, rfl, by kernel_rfl, by kernel_rfl, by kernel_rfl⟩

/-- clavier/clavierref03.May -/
def ir_clavierref03May : ICode :=
 (.seq
  (.reg [⟨some 1, none, .box 32 (.t 0)⟩,
    ⟨some 2, none, .mov (.c (.int .i64 0))⟩] (some [1]))
  (.seq
   (.seq
    (.reg [⟨some 3, none, .fa 5 (.t 1)⟩,
      ⟨some 4, none, .ld none (.t 3)⟩,
      ⟨some 5, none, .lns (.t 4)⟩,
      ⟨some 6, none, .bin .gtr .none (.t 5) (.c (.int .i64 4096))⟩] (some [1, 6]))
    (.cond (.t 6)
     (.seq
      (.reg [⟨some 2, none, .mov (.c (.int .i64 4))⟩] (some [2]))
      .ret)
     .skip))
   (.seq
    (.seq
     (.reg [⟨some 7, none, .fa 1 (.t 1)⟩,
       ⟨some 8, none, .ld none (.t 7)⟩,
       ⟨some 9, none, .bin .neq .none (.t 8) (.c (.int .u8 0))⟩,
       ⟨some 10, none, .mov (.t 9)⟩,
       ⟨some 11, some (10, true), .fa 1 (.t 1)⟩,
       ⟨some 12, some (10, true), .ld none (.t 11)⟩,
       ⟨some 13, some (10, true), .bin .lss .none (.t 12) (.c (.int .u8 60))⟩,
       ⟨some 14, some (10, true), .mov (.t 13)⟩,
       ⟨some 15, some (14, false), .fa 1 (.t 1)⟩,
       ⟨some 16, some (14, false), .ld none (.t 15)⟩,
       ⟨some 17, some (14, false), .bin .gtr .none (.t 16) (.c (.int .u8 63))⟩,
       ⟨some 18, some (10, true), .pick (.t 14) (.c (.bool true)) (.t 17)⟩,
       ⟨some 19, none, .pick (.t 10) (.t 18) (.c (.bool false))⟩,
       ⟨some 20, none, .mov (.t 19)⟩,
       ⟨some 21, some (20, false), .fa 2 (.t 1)⟩,
       ⟨some 22, some (20, false), .ld none (.t 21)⟩,
       ⟨some 23, some (20, false), .call (.c (.fn (.func 22) [] [])) [(.t 22)]⟩,
       ⟨some 24, some (20, false), .un .not (.t 23)⟩,
       ⟨some 25, none, .pick (.t 20) (.c (.bool true)) (.t 24)⟩,
       ⟨some 26, none, .mov (.t 25)⟩,
       ⟨some 27, some (26, false), .fa 3 (.t 1)⟩,
       ⟨some 28, some (26, false), .ld none (.t 27)⟩,
       ⟨some 29, some (26, false), .lns (.t 28)⟩,
       ⟨some 30, some (26, false), .bin .gtr .none (.t 29) (.c (.int .i64 2))⟩,
       ⟨some 31, none, .pick (.t 26) (.c (.bool true)) (.t 30)⟩,
       ⟨some 32, none, .mov (.t 31)⟩,
       ⟨some 33, some (32, false), .fa 3 (.t 1)⟩,
       ⟨some 34, some (32, false), .ld none (.t 33)⟩,
       ⟨some 35, some (32, false), .call (.c (.fn (.func 23) [] [])) [(.t 34), (.c (.int .u8 32)), (.c (.int .u8 47))]⟩,
       ⟨some 36, some (32, false), .un .not (.t 35)⟩,
       ⟨some 37, none, .pick (.t 32) (.c (.bool true)) (.t 36)⟩,
       ⟨some 38, none, .mov (.t 37)⟩,
       ⟨some 39, some (38, false), .fa 5 (.t 1)⟩,
       ⟨some 40, some (38, false), .ld none (.t 39)⟩,
       ⟨some 41, some (38, false), .call (.c (.fn (.func 23) [] [])) [(.t 40), (.c (.int .u8 32)), (.c (.int .u8 126))]⟩,
       ⟨some 42, some (38, false), .un .not (.t 41)⟩,
       ⟨some 43, none, .pick (.t 38) (.c (.bool true)) (.t 42)⟩,
       ⟨some 44, none, .mov (.t 43)⟩,
       ⟨some 45, some (44, false), .ld (some 6) (.t 1)⟩,
       ⟨some 46, some (44, false), .call (.c (.fn (.func 24) [] [])) [(.t 45)]⟩,
       ⟨some 47, some (44, false), .un .not (.t 46)⟩,
       ⟨some 48, none, .pick (.t 44) (.c (.bool true)) (.t 47)⟩,
       ⟨some 49, none, .mov (.t 48)⟩,
       ⟨some 50, some (49, false), .ld (some 6) (.t 1)⟩,
       ⟨some 51, some (49, false), .call (.c (.fn (.func 25) [] [])) [(.t 50)]⟩,
       ⟨some 52, some (49, false), .un .not (.t 51)⟩,
       ⟨some 53, none, .pick (.t 49) (.c (.bool true)) (.t 52)⟩] (some [53]))
     (.cond (.t 53)
      (.seq
       (.reg [⟨some 2, none, .mov (.c (.int .i64 1))⟩] (some [2]))
       .ret)
      .skip))
    (.seq
     (.reg [⟨some 2, none, .mov (.c (.int .i64 0))⟩] (some [2]))
     .ret))))
theorem is_clavierref03May : IrOf Tryd.prog 16 54 ir_clavierref03May [.t 2] := ⟨_, Tryd.func16, rfl, by kernel_rfl, by kernel_rfl, by kernel_rfl⟩


def firstsB (fi : Int) : Bool := fi != 79 && fi != 80 && fi != 88 && fi != 91 && fi != 93 && fi != 92 && fi != 94 && fi != 95
def lastP (s : Sq) : Bool :=
  if (s.k == 1) = true then decide (s.fi ≥ 64) && decide (s.fi ≤ 126)
  else if (s.k == 2) = true then decide (s.fi ≥ 64) && decide (s.fi ≤ 126)
  else if (s.k == 3) = true then decide (s.fi ≥ 64) && decide (s.fi ≤ 126)
  else if (s.k == 5) = true then
    if (decide (s.fi < 48) || decide (s.fi > 126)) = true then false
    else decide ((s.it.length : Int) > 0) || firstsB s.fi
  else s.k == 4 && s.fi == 0
theorem fs_rLast {Gl : Gh → Prop} (hst : Stays Gl) {s : Sq} : FS Tryd.prog Gl 24 [.agg s.c] [] [] (.bool (lastP s)) [] [] := by
  refine FS.of hm hst is_clavierref03last (by simp) fun γ hγ hfr => ?_
  obtain ⟨k, pr, ps, it, fi, da⟩ := s
  simp only [Sq.c, lastP]
  simp only [Sq.c] at hfr
  (generalize hQ : (fun (ex : Ex) (_ _ : Nat) (s : St) => _) = Q; unfold ir_clavierref03last)
  (simp +contextual (maxSteps := 1000000) only [go_sem, reduceCtorEq, ↓reduceIte, Nat.reduceAdd, Nat.reduceEqDiff, Nat.reduceLeDiff, Nat.reduceMul, Nat.reduceBEq, Int.reduceBEq, Int.reduceBNe, Int.reduceLT, Int.reduceLE, Int.reduceGT, Int.reduceGE, Int.reduceToNat, Int.natCast_one, Int.natCast_zero, Int.cast_ofNat_Int]; repeat' first | ((first | refine kCond_split (fun hg => ?_) (fun hg => ?_) | refine kGc_split (fun hg => ?_) (fun hg => ?_) | refine kPreG_split (fun hg => ?_) (fun hg => ?_)) <;> (try rw [hg]) <;> simp +contextual (maxSteps := 1000000) only [go_sem, reduceCtorEq, ↓reduceIte, Nat.reduceAdd, Nat.reduceEqDiff, Nat.reduceLeDiff, Nat.reduceMul, Nat.reduceBEq, Int.reduceBEq, Int.reduceBNe, Int.reduceLT, Int.reduceLE, Int.reduceGT, Int.reduceGE, Int.reduceToNat, Int.natCast_one, Int.natCast_zero, Int.cast_ofNat_Int]) | refine And.intro (by omega) ?_)
  all_goals (rw [← hQ]; clear hQ hfr; refine ⟨trivial, Ret.flat ?_ rfl⟩; first | (simp only [resOf, getAll, IRes.get, lf_cons, lf_nil, ↓reduceIte, Bool.false_eq_true, Option.some.injEq, AV.bool.injEq, AV.int.injEq, AV.tup.injEq, List.cons.injEq, true_and, and_true, firstsB, *]; done) | (simp [resOf, getAll, IRes.get, lf_cons, lf_nil, ↓reduceIte, Bool.false_eq_true, Option.some.injEq, AV.bool.injEq, AV.int.injEq, AV.tup.injEq, List.cons.injEq, true_and, and_true, firstsB, *]; done) | (simp_all [resOf, getAll, IRes.get, lf_cons, lf_nil, ↓reduceIte, Bool.false_eq_true, Option.some.injEq, AV.bool.injEq, AV.int.injEq, AV.tup.injEq, List.cons.injEq, true_and, and_true, firstsB]; done) | (simp_all [resOf, getAll, IRes.get, lf_cons, lf_nil, ↓reduceIte, Bool.false_eq_true, Option.some.injEq, AV.bool.injEq, AV.int.injEq, AV.tup.injEq, List.cons.injEq, true_and, and_true, firstsB]; omega))

def bareP (s : Sq) : Bool :=
  if ((s.k == 2 || s.k == 4 || s.k == 5) && (s.pr != 0 || decide ((s.ps.length : Int) > 0))) = true then false
  else if ((s.k == 2 || s.k == 4) && !decide (s.it = [])) = true then false
  else decide (s.da = []) || s.k == 3 || s.k == 4
theorem fs_rBare {Gl : Gh → Prop} (hst : Stays Gl) {s : Sq} : FS Tryd.prog Gl 25 [.agg s.c] [] [] (.bool (bareP s)) [] [] := by
  refine FS.of hm hst is_clavierref03bare (by simp) fun γ hγ hfr => ?_
  obtain ⟨k, pr, ps, it, fi, da⟩ := s
  simp only [Sq.c, bareP, parsV]
  simp only [Sq.c, parsV] at hfr
  (generalize hQ : (fun (ex : Ex) (_ _ : Nat) (s : St) => _) = Q; unfold ir_clavierref03bare)
  (simp +contextual (maxSteps := 1000000) only [parsAV_length, go_sem, reduceCtorEq, ↓reduceIte, Nat.reduceAdd, Nat.reduceEqDiff, Nat.reduceLeDiff, Nat.reduceMul, Nat.reduceBEq, Int.reduceBEq, Int.reduceBNe, Int.reduceLT, Int.reduceLE, Int.reduceGT, Int.reduceGE, Int.reduceToNat, Int.natCast_one, Int.natCast_zero, Int.cast_ofNat_Int]; repeat' first | ((first | refine kCond_split (fun hg => ?_) (fun hg => ?_) | refine kGc_split (fun hg => ?_) (fun hg => ?_) | refine kPreG_split (fun hg => ?_) (fun hg => ?_)) <;> (try rw [hg]) <;> simp +contextual (maxSteps := 1000000) only [parsAV_length, go_sem, reduceCtorEq, ↓reduceIte, Nat.reduceAdd, Nat.reduceEqDiff, Nat.reduceLeDiff, Nat.reduceMul, Nat.reduceBEq, Int.reduceBEq, Int.reduceBNe, Int.reduceLT, Int.reduceLE, Int.reduceGT, Int.reduceGE, Int.reduceToNat, Int.natCast_one, Int.natCast_zero, Int.cast_ofNat_Int]) | refine And.intro (by omega) ?_)
  all_goals (rw [← hQ]; clear hQ hfr; refine ⟨trivial, Ret.flat ?_ rfl⟩; first | (simp only [resOf, getAll, IRes.get, lf_cons, lf_nil, ↓reduceIte, Bool.false_eq_true, Option.some.injEq, AV.bool.injEq, AV.int.injEq, AV.tup.injEq, List.cons.injEq, true_and, and_true, *]; done) | (simp [resOf, getAll, IRes.get, lf_cons, lf_nil, ↓reduceIte, Bool.false_eq_true, Option.some.injEq, AV.bool.injEq, AV.int.injEq, AV.tup.injEq, List.cons.injEq, true_and, and_true, *]; done) | (simp_all [resOf, getAll, IRes.get, lf_cons, lf_nil, ↓reduceIte, Bool.false_eq_true, Option.some.injEq, AV.bool.injEq, AV.int.injEq, AV.tup.injEq, List.cons.injEq, true_and, and_true]; done) | (simp_all [resOf, getAll, IRes.get, lf_cons, lf_nil, ↓reduceIte, Bool.false_eq_true, Option.some.injEq, AV.bool.injEq, AV.int.injEq, AV.tup.injEq, List.cons.injEq, true_and, and_true]; omega))
theorem firsts_eq {fi : Int} (h0 : 0 ≤ fi) (h1 : fi < 256) : firstsB fi = !([79, 80, 88, 91, 93, 92, 94, 95] : List UInt8).contains fi.toNat.toUInt8 := by
  obtain ⟨c, rfl⟩ : ∃ c : UInt8, fi = (c.toNat : Int) := ⟨UInt8.ofNat fi.toNat, by rw [UInt8.toNat_ofNat', Nat.mod_eq_of_lt (by omega)]; omega⟩
  have e : ((c.toNat : Int).toNat.toUInt8) = c := by simp
  rw [e, Bool.eq_iff_iff]
  simp only [firstsB, List.contains_cons, List.contains_nil, Bool.or_false, Bool.not_eq_true', Bool.or_eq_false_iff, beq_eq_false_iff_ne, ne_eq, ← UInt8.toNat_inj, Bool.and_eq_true, bne_iff_ne, UInt8.reduceToNat]
  omega
theorem may_eq {s : Sq} (h0 : 0 ≤ s.fi) (h1 : s.fi < 256) : (lastP s && bareP s) = shapedP s := by
  obtain ⟨k, pr, ps, it, fi, da⟩ := s
  simp only at h0 h1
  have e := firsts_eq h0 h1
  simp only [lastP, bareP, shapedP, e]
  generalize ([79, 80, 88, 91, 93, 92, 94, 95] : List UInt8).contains fi.toNat.toUInt8 = z
  clear e
  rw [Bool.eq_iff_iff]
  by_cases k1 : k = 1
  · subst k1; simp; grind
  by_cases k2 : k = 2
  · subst k2; simp; grind
  by_cases k3 : k = 3
  · subst k3; simp
  by_cases k4 : k = 4
  · subst k4; simp; grind
  by_cases k5 : k = 5
  · subst k5; simp [List.length_pos_iff]; grind
  · simp [k1, k2, k3, k4, k5]

theorem bool7 : ∀ z1 z2 z3 z4 z5 z6 z7 : Bool, ((!!z1 || !(!z2 && z4) || !z3 || !z5) || !(z6 && z7)) = ((((z1 || !z3 || z2 || !z4) || !z5) || !z6) || !z7) := by decide
theorem fs_rMay {Gl : Gh → Prop} (hst : Stays Gl) {s : Sq} (hf0 : 0 ≤ s.fi) (hf1 : s.fi < 256) (h1 : s.ps.length < 9223372036854775808) (h2 : ∀ p ∈ s.ps, p.length < 9223372036854775808) (h3 : s.it.length < 9223372036854775808) (h4 : s.da.length < 9223372036854775808) :
    FS Tryd.prog Gl 16 [.agg s.c] [] [] (.int .i64 (mayP s)) [] [] := by
  have c1 := fs_rParams hst h1 h2
  have c2 := fs_within hst (x := 32) (y := 47) h3
  have c3 := fs_within hst (x := 32) (y := 126) h4
  have c4 := fs_rLast hst (s := s)
  have c5 := fs_rBare hst (s := s)
  have e := may_eq hf0 hf1
  refine FS.of hm hst is_clavierref03May (by simp) fun γ hγ hfr => ?_
  obtain ⟨k, pr, ps, it, fi, da⟩ := s
  simp only [Sq.c] at *
  (generalize hQ : (fun (ex : Ex) (_ _ : Nat) (s : St) => _) = Q; unfold ir_clavierref03May)
  simp +contextual (maxSteps := 1000000) only [go_sem, reduceCtorEq, ↓reduceIte, Nat.reduceAdd, Nat.reduceEqDiff, Nat.reduceLeDiff, Nat.reduceMul, Nat.reduceBEq, Int.reduceBEq, Int.reduceBNe, Int.reduceLT, Int.reduceLE, Int.reduceGT, Int.reduceGE, Int.reduceToNat, Int.natCast_one, Int.natCast_zero, Int.cast_ofNat_Int]
  refine kCond_split (fun h => ?_) (fun h => ?_)
  · simp +contextual (maxSteps := 1000000) only [go_sem, reduceCtorEq, ↓reduceIte, Nat.reduceAdd, Nat.reduceEqDiff, Nat.reduceLeDiff, Nat.reduceMul, Nat.reduceBEq, Int.reduceBEq, Int.reduceBNe, Int.reduceLT, Int.reduceLE, Int.reduceGT, Int.reduceGE, Int.reduceToNat, Int.natCast_one, Int.natCast_zero, Int.cast_ofNat_Int]
    rw [← hQ]
    refine ⟨trivial, Ret.flat ?_ rfl⟩
    rw [mayP, if_pos h]; rfl
  · simp +contextual (maxSteps := 1000000) only [go_sem, reduceCtorEq, ↓reduceIte, Nat.reduceAdd, Nat.reduceEqDiff, Nat.reduceLeDiff, Nat.reduceMul, Nat.reduceBEq, Int.reduceBEq, Int.reduceBNe, Int.reduceLT, Int.reduceLE, Int.reduceGT, Int.reduceGE, Int.reduceToNat, Int.natCast_one, Int.natCast_zero, Int.cast_ofNat_Int]
    (refine kGc_call (c1) (fun _ => rfl) (fun hgc => ?_) ?_; (focus (first | (rw [Bool.not_eq_true'] at hgc; simp only [List.map_cons, List.map_nil, List.nil_append, List.append_nil, List.cons_append, Xev_t, Xev_c, upd_app, lf_cons, lf_nil, Nat.reduceEqDiff, ↓reduceIte, hgc, Bool.false_eq_true, Bool.true_eq_false, reduceCtorEq]; done) | (simp only [List.map_cons, List.map_nil, List.nil_append, List.append_nil, List.cons_append, Xev_t, Xev_c, upd_app, lf_cons, lf_nil, Nat.reduceEqDiff, ↓reduceIte, hgc, Bool.false_eq_true, Bool.true_eq_false, reduceCtorEq]; done) | (revert hgc; simp +contextual [Xev_t, Xev_c, upd_app, lf_cons, lf_nil]; done) | simp [Xev_t, Xev_c, upd_app, lf_cons, lf_nil])); simp +contextual (maxSteps := 1000000) only [go_sem, reduceCtorEq, ↓reduceIte, Nat.reduceAdd, Nat.reduceEqDiff, Nat.reduceLeDiff, Nat.reduceMul, Nat.reduceBEq, Int.reduceBEq, Int.reduceBNe, Int.reduceLT, Int.reduceLE, Int.reduceGT, Int.reduceGE, Int.reduceToNat, Int.natCast_one, Int.natCast_zero, Int.cast_ofNat_Int])

    (refine kGc_call (c2) (fun _ => rfl) (fun hgc => ?_) ?_; (focus (first | (rw [Bool.not_eq_true'] at hgc; simp only [List.map_cons, List.map_nil, List.nil_append, List.append_nil, List.cons_append, Xev_t, Xev_c, upd_app, lf_cons, lf_nil, Nat.reduceEqDiff, ↓reduceIte, hgc, Bool.false_eq_true, Bool.true_eq_false, reduceCtorEq]; done) | (simp only [List.map_cons, List.map_nil, List.nil_append, List.append_nil, List.cons_append, Xev_t, Xev_c, upd_app, lf_cons, lf_nil, Nat.reduceEqDiff, ↓reduceIte, hgc, Bool.false_eq_true, Bool.true_eq_false, reduceCtorEq]; done) | (revert hgc; simp +contextual [Xev_t, Xev_c, upd_app, lf_cons, lf_nil]; done) | simp [Xev_t, Xev_c, upd_app, lf_cons, lf_nil])); simp +contextual (maxSteps := 1000000) only [go_sem, reduceCtorEq, ↓reduceIte, Nat.reduceAdd, Nat.reduceEqDiff, Nat.reduceLeDiff, Nat.reduceMul, Nat.reduceBEq, Int.reduceBEq, Int.reduceBNe, Int.reduceLT, Int.reduceLE, Int.reduceGT, Int.reduceGE, Int.reduceToNat, Int.natCast_one, Int.natCast_zero, Int.cast_ofNat_Int])
    (refine kGc_call (c3) (fun _ => rfl) (fun hgc => ?_) ?_; (focus (first | (rw [Bool.not_eq_true'] at hgc; simp only [List.map_cons, List.map_nil, List.nil_append, List.append_nil, List.cons_append, Xev_t, Xev_c, upd_app, lf_cons, lf_nil, Nat.reduceEqDiff, ↓reduceIte, hgc, Bool.false_eq_true, Bool.true_eq_false, reduceCtorEq]; done) | (simp only [List.map_cons, List.map_nil, List.nil_append, List.append_nil, List.cons_append, Xev_t, Xev_c, upd_app, lf_cons, lf_nil, Nat.reduceEqDiff, ↓reduceIte, hgc, Bool.false_eq_true, Bool.true_eq_false, reduceCtorEq]; done) | (revert hgc; simp +contextual [Xev_t, Xev_c, upd_app, lf_cons, lf_nil]; done) | simp [Xev_t, Xev_c, upd_app, lf_cons, lf_nil])); simp +contextual (maxSteps := 1000000) only [go_sem, reduceCtorEq, ↓reduceIte, Nat.reduceAdd, Nat.reduceEqDiff, Nat.reduceLeDiff, Nat.reduceMul, Nat.reduceBEq, Int.reduceBEq, Int.reduceBNe, Int.reduceLT, Int.reduceLE, Int.reduceGT, Int.reduceGE, Int.reduceToNat, Int.natCast_one, Int.natCast_zero, Int.cast_ofNat_Int])
    (refine kGc_call (c4) (fun _ => rfl) (fun hgc => ?_) ?_; (focus (first | (rw [Bool.not_eq_true'] at hgc; simp only [List.map_cons, List.map_nil, List.nil_append, List.append_nil, List.cons_append, Xev_t, Xev_c, upd_app, lf_cons, lf_nil, Nat.reduceEqDiff, ↓reduceIte, hgc, Bool.false_eq_true, Bool.true_eq_false, reduceCtorEq]; done) | (simp only [List.map_cons, List.map_nil, List.nil_append, List.append_nil, List.cons_append, Xev_t, Xev_c, upd_app, lf_cons, lf_nil, Nat.reduceEqDiff, ↓reduceIte, hgc, Bool.false_eq_true, Bool.true_eq_false, reduceCtorEq]; done) | (revert hgc; simp +contextual [Xev_t, Xev_c, upd_app, lf_cons, lf_nil]; done) | simp [Xev_t, Xev_c, upd_app, lf_cons, lf_nil])); simp +contextual (maxSteps := 1000000) only [go_sem, reduceCtorEq, ↓reduceIte, Nat.reduceAdd, Nat.reduceEqDiff, Nat.reduceLeDiff, Nat.reduceMul, Nat.reduceBEq, Int.reduceBEq, Int.reduceBNe, Int.reduceLT, Int.reduceLE, Int.reduceGT, Int.reduceGE, Int.reduceToNat, Int.natCast_one, Int.natCast_zero, Int.cast_ofNat_Int])
    (refine kGc_call (c5) (fun _ => rfl) (fun hgc => ?_) ?_; (focus (first | (rw [Bool.not_eq_true'] at hgc; simp only [List.map_cons, List.map_nil, List.nil_append, List.append_nil, List.cons_append, Xev_t, Xev_c, upd_app, lf_cons, lf_nil, Nat.reduceEqDiff, ↓reduceIte, hgc, Bool.false_eq_true, Bool.true_eq_false, reduceCtorEq]; done) | (simp only [List.map_cons, List.map_nil, List.nil_append, List.append_nil, List.cons_append, Xev_t, Xev_c, upd_app, lf_cons, lf_nil, Nat.reduceEqDiff, ↓reduceIte, hgc, Bool.false_eq_true, Bool.true_eq_false, reduceCtorEq]; done) | (revert hgc; simp +contextual [Xev_t, Xev_c, upd_app, lf_cons, lf_nil]; done) | simp [Xev_t, Xev_c, upd_app, lf_cons, lf_nil])); simp +contextual (maxSteps := 1000000) only [go_sem, reduceCtorEq, ↓reduceIte, Nat.reduceAdd, Nat.reduceEqDiff, Nat.reduceLeDiff, Nat.reduceMul, Nat.reduceBEq, Int.reduceBEq, Int.reduceBNe, Int.reduceLT, Int.reduceLE, Int.reduceGT, Int.reduceGE, Int.reduceToNat, Int.natCast_one, Int.natCast_zero, Int.cast_ofNat_Int])
    have q1 : (pr == 0 || (decide (pr ≥ 60) && decide (pr ≤ 63))) = !(pr != 0 && (decide (pr < 60) || decide (pr > 63))) := by
      rw [Bool.eq_iff_iff]; simp <;> omega
    have q2 : decide ((it.length : Int) ≤ 2) = !decide ((it.length : Int) > 2) := by rw [Bool.eq_iff_iff]; simp
    have em : mayP ⟨k, pr, ps, it, fi, da⟩ = if (((pr != 0 && (decide (pr < 60) || decide (pr > 63)) || !parsOk ps || decide ((it.length : Int) > 2) || !it.all fun c => decide (32 ≤ (c.toNat : Int)) && decide ((c.toNat : Int) ≤ 47)) || !da.all fun c => decide (32 ≤ (c.toNat : Int)) && decide ((c.toNat : Int) ≤ 126)) || !lastP ⟨k, pr, ps, it, fi, da⟩ || !bareP ⟨k, pr, ps, it, fi, da⟩) = true then 1 else 0 := by
      simp only [mayP]
      rw [h, ← e, q1, q2]
      simp only [within, Bool.false_eq_true, if_false]
      exact congrArg (fun b : Bool => if b = true then (1 : Int) else 0) (bool7 _ _ _ _ _ _ _)
    rw [em] at hQ
    refine kCond_split (fun h' => ?_) (fun h' => ?_)
    · simp +contextual (maxSteps := 1000000) only [go_sem, reduceCtorEq, ↓reduceIte, Nat.reduceAdd, Nat.reduceEqDiff, Nat.reduceLeDiff, Nat.reduceMul, Nat.reduceBEq, Int.reduceBEq, Int.reduceBNe, Int.reduceLT, Int.reduceLE, Int.reduceGT, Int.reduceGE, Int.reduceToNat, Int.natCast_one, Int.natCast_zero, Int.cast_ofNat_Int]
      rw [← hQ]
      exact ⟨trivial, Ret.flat (by rw [if_pos h']; rfl) (by split <;> rfl)⟩
    · simp +contextual (maxSteps := 1000000) only [go_sem, reduceCtorEq, ↓reduceIte, Nat.reduceAdd, Nat.reduceEqDiff, Nat.reduceLeDiff, Nat.reduceMul, Nat.reduceBEq, Int.reduceBEq, Int.reduceBNe, Int.reduceLT, Int.reduceLE, Int.reduceGT, Int.reduceGE, Int.reduceToNat, Int.natCast_one, Int.natCast_zero, Int.cast_ofNat_Int]
      rw [← hQ]
      exact ⟨trivial, Ret.flat (by rw [if_neg (by rw [h']; exact Bool.false_ne_true)]; rfl) (by split <;> rfl)⟩
end Go.Proofs.YtgdgfefojfgpaaaDoor

/- The parser's parts of a parameter. -/
set_option linter.unusedVariables false
set_option linter.unusedSimpArgs false
set_option maxRecDepth 100000
namespace Go.Proofs.YtgdgfefojfgpaaaDoor
open Go Go.Ab
/-- clavier/host.parts -/
def ir_hostparts : ICode :=
 (.seq
  (.reg [⟨some 2, none, .mov (.c .nils)⟩] (some [0, 2]))
  (.seq
   (.reg [⟨some 3, none, .box 39 (.c .nils)⟩] (some [0, 2, 3]))
   (.seq
    (.seq
     (.reg [⟨some 7, none, .mov (.t 0)⟩,
       ⟨some 8, none, .call (.c (.fn (.func 31) [] [])) [(.t 7), (.c (.str [58]))]⟩] (some [2, 3, 8]))
     (.blk 0
      (.rgf (.t 8) [9]
       (.reg [⟨some 4, none, .mov (.t 9)⟩] (some [3, 4]))
       (.blk 1
        (.seq
         (.reg [⟨some 11, none, .mov (.t 4)⟩,
           ⟨some 12, none, .s2b 5 (.t 11)⟩,
           ⟨some 13, none, .call (.c (.fn (.func 39) [] [])) [(.t 12)]⟩,
           ⟨some 10, none, .mov (.t 13)⟩,
           ⟨some 14, none, .ext (.t 10) 0⟩,
           ⟨some 15, none, .ext (.t 10) 1⟩,
           ⟨some 5, none, .mov (.t 14)⟩,
           ⟨some 6, none, .mov (.t 15)⟩] (some [3, 5, 6]))
         (.seq
          (.seq
           (.reg [⟨some 16, none, .mov (.t 6)⟩,
             ⟨some 17, none, .bin .eql .none (.t 16) (.c (.int .i64 0))⟩] (some [3, 5, 17]))
           (.cond (.t 17)
            (.reg [⟨some 5, none, .mov (.c (.int .i64 (-1)))⟩] (some [3, 5]))
            .skip))
          (.reg [⟨some 18, none, .ld none (.t 3)⟩,
            ⟨some 19, none, .mov (.t 5)⟩,
            ⟨some 20, none, .mm true (.t 19) (.c (.int .i64 65535))⟩,
            ⟨some 21, none, .row 3 1 [(.t 20)]⟩,
            ⟨some 22, none, .app 3 1 8 (.t 18) (.t 21)⟩,
            ⟨none, none, .st 1 (.t 3) (.t 22)⟩] (some []))))))))
    (.seq
     (.reg [⟨some 23, none, .ld none (.t 3)⟩,
       ⟨some 2, none, .mov (.t 23)⟩] (some [2]))
     .ret))))
theorem is_hostparts : IrOf Tryd.prog 32 24 ir_hostparts [.t 2] := ⟨_, Tryd.func32, rfl, by kernel_rfl, by kernel_rfl, by kernel_rfl⟩


theorem splitB_mem_len {c : UInt8} : ∀ {l : List UInt8} {p : List UInt8}, p ∈ splitB c l → p.length ≤ l.length
  | [], p, h => by simp [splitB] at h; simp [h]
  | d :: l, p, h => by
    simp only [splitB] at h
    split at h
    · rcases List.mem_cons.1 h with rfl | h
      · simp
      · have := splitB_mem_len h; simp; omega
    · split at h
      · rename_i q qs e
        rcases List.mem_cons.1 h with rfl | h
        · have := splitB_mem_len (c := c) (l := l) (p := q) (by rw [e]; simp); simp; omega
        · have := splitB_mem_len (c := c) (l := l) (p := p) (by rw [e]; simp [h]); simp; omega
      · simp at h; simp [h]
theorem splitB_len {c : UInt8} : ∀ {l : List UInt8}, (splitB c l).length ≤ l.length + 1
  | [] => by simp [splitB]
  | d :: l => by
    have ih := splitB_len (c := c) (l := l)
    simp only [splitB]
    split
    · simp; omega
    · split
      · rename_i q qs e; rw [e] at ih; simp at ih ⊢; omega
      · simp

/-- A parameter's part. -/
def hostPart (p : List UInt8) : Int := min (if (takeN p 0 0).2 = 0 then -1 else ((takeN p 0 0).1 : Int)) 65535
def hostParts (t : List UInt8) : List Int := (splitB 58 t).map hostPart
theorem takeN_le : ∀ (l : List UInt8) (n k : Nat), n ≤ 1114111 → (takeN l n k).1 ≤ 1114111
  | [], n, k, h => h
  | c :: l, n, k, h => by
    simp only [takeN]
    split
    · exact takeN_le l _ _ (by omega)
    · exact h

theorem fs_parts {Gl : Gh → Prop} (hst : Stays Gl) {t : List UInt8} (ht : t.length < 4294967281) : FS Tryd.prog Gl 32 [.str t] [] [] (.sl (some (0, 0, 0)) 1 (intsAV (hostParts t))) [] [(0, 0, 0)] := by
  refine FS.of hm hst is_hostparts (by simp) fun γ hγ hfr => ?_
  generalize hQ : (fun (ex : Ex) (_ _ : Nat) (s : St) => _) = Q
  unfold ir_hostparts
  simp +contextual (maxSteps := 1000000) only [go_sem, reduceCtorEq, ↓reduceIte, Nat.reduceAdd, Nat.reduceEqDiff, Nat.reduceLeDiff, Nat.reduceMul, Nat.reduceBEq, Int.reduceBEq, Int.reduceBNe, Int.reduceLT, Int.reduceLE, Int.reduceGT, Int.reduceGE, Int.reduceToNat, Int.natCast_one, Int.natCast_zero, Int.cast_ofNat_Int]
  refine CallP.of (fs_SplitSeq hst) (by simp) (by simp) ?_
  simp only [rnH, hpSplit, rnN, rnHB, rnL, Ab.rn]
  simp +contextual (maxSteps := 1000000) only [go_sem, reduceCtorEq, ↓reduceIte, Nat.reduceAdd, Nat.reduceEqDiff, Nat.reduceLeDiff, Nat.reduceMul, Nat.reduceBEq, Int.reduceBEq, Int.reduceBNe, Int.reduceLT, Int.reduceLE, Int.reduceGT, Int.reduceGE, Int.reduceToNat, Int.natCast_one, Int.natCast_zero, Int.cast_ofNat_Int]
  -- i parts are told
  refine rgf_of rfl ((splitB 58 t).map fun p => [.str p])
    (fun i H T => ∃ tk : Option Nm, (tk = none → i = 0) ∧ (∀ x, tk = some x → γ ≤ x.1 ∧ T x) ∧ H = [((γ, 1, 0), .cells [sv tk 1 (intsAV (((splitB 58 t).take i).map hostPart))])])
    (fun _ _ _ => False) (hpSplit t 58 (γ, 3, 0) (γ, 3, 1) (γ, 3, 2)) [((γ, 1, 0), .cells [.nils])] (fun _ => False)
    (it_split (by simp) (by simp) (by simp) ht) (by simp [hpSplit, rnL, Ab.rn]) (by simp [hpSplit]) (by simp) (by simp) ⟨none, by simp, by simp, rfl⟩ (by simp) ?_ ?_ (fun _ _ _ h => h.elim)
  · rintro Gl' hst' hG i x H T γ' hx ⟨tk, hk1, hk2, rfl⟩ hlt hfr'
    simp only [List.getElem?_map, Option.map_eq_some_iff] at hx
    obtain ⟨p, hp, rfl⟩ := hx
    have hpm : p ∈ splitB 58 t := List.mem_of_getElem? hp
    have hpl := splitB_mem_len hpm
    have hil : i < (splitB 58 t).length := (List.getElem?_eq_some_iff.1 hp).1
    have hsl := splitB_len (c := 58) (l := t)
    generalize hK : kBd _ _ _ = K
    simp +contextual (maxSteps := 1000000) only [go_sem, reduceCtorEq, ↓reduceIte, Nat.reduceAdd, Nat.reduceEqDiff, Nat.reduceLeDiff, Nat.reduceMul, Nat.reduceBEq, Int.reduceBEq, Int.reduceBNe, Int.reduceLT, Int.reduceLE, Int.reduceGT, Int.reduceGE, Int.reduceToNat, Int.natCast_one, Int.natCast_zero, Int.cast_ofNat_Int]
    refine ⟨by simp only [maxLen]; omega, CallP.pure (fs_take hst' (by omega)) (fun _ => rfl) ?_⟩
    have hle := takeN_le p 0 0 (by omega)
    have htk : (splitB 58 t).take (i + 1) = (splitB 58 t).take i ++ [p] := by rw [List.take_add_one, hp]; rfl
    have hln : (intsAV (((splitB 58 t).take i).map hostPart)).length ≤ t.length + 1 := by simp [intsAV]; omega
    have hpt : ∀ k : Nat, (takeN p 0 0).2 = k → hostPart p = (if 65535 < (if k = 0 then -1 else ((takeN p 0 0).1 : Int)) then 65535 else (if k = 0 then -1 else ((takeN p 0 0).1 : Int))) := fun k hk => by
      unfold hostPart; rw [hk]; split <;> split <;> omega
    have fin : ∀ (t' : Option Nm) (tk' : Nm) (H' : Hp) (T' : Tk), H' = [((γ, 1, 0), .cells [.sl (some tk') 1 (intsAV (((splitB 58 t).take i).map hostPart) ++ [[.int .i64 (hostPart p)]])])] → γ ≤ tk'.1 → T' tk' →
        ∀ γ c F, K .normal γ c ⟨F, H', T'⟩ := by
      rintro t' tk' H' T' rfl h1 h2 γ c F
      rw [← hK]
      refine ⟨some tk', by simp, fun x hx => by cases hx; exact ⟨h1, h2⟩, ?_⟩
      rw [htk]
      simp [intsAV, sv]
    have hw1 : AV.closedL [AV.int IntKind.i64 (hostPart p)] = true := rfl
    by_cases hk : (takeN p 0 0).2 = 0
    · have hkd : (((takeN p 0 0).2 : Int) == 0) = true := by simp [hk]
      have hpt := hpt 0 hk
      have hpt : hostPart p = -1 := by rw [hpt]; simp
      cases tk with
      | none =>
        obtain rfl := hk1 rfl
        simp +contextual (maxSteps := 1000000) only [hkd, go_sem, reduceCtorEq, ↓reduceIte, Nat.reduceAdd, Nat.reduceEqDiff, Nat.reduceLeDiff, Nat.reduceMul, Nat.reduceBEq, Int.reduceBEq, Int.reduceBNe, Int.reduceLT, Int.reduceLE, Int.reduceGT, Int.reduceGE, Int.reduceToNat, Int.natCast_one, Int.natCast_zero, Int.cast_ofNat_Int]
        exact fin none _ _ _ (by rw [hpt]; try rfl) (by simp only; omega) (.inl rfl) _ _ _
      | some t0 =>
        simp +contextual (maxSteps := 1000000) only [hkd, go_sem, reduceCtorEq, ↓reduceIte, Nat.reduceAdd, Nat.reduceEqDiff, Nat.reduceLeDiff, Nat.reduceMul, Nat.reduceBEq, Int.reduceBEq, Int.reduceBNe, Int.reduceLT, Int.reduceLE, Int.reduceGT, Int.reduceGE, Int.reduceToNat, Int.natCast_one, Int.natCast_zero, Int.cast_ofNat_Int]
        refine ⟨⟨.inr (hk2 t0 rfl).2, by omega⟩, fin none _ _ _ (by rw [hpt]; try rfl) (by simp only; omega) (.inl rfl) _ _ _⟩
    · have hkd : (((takeN p 0 0).2 : Int) == 0) = false := by simp [hk]
      have hpt := hpt _ rfl
      simp only [if_neg hk] at hpt
      cases tk with
      | none =>
        obtain rfl := hk1 rfl
        simp +contextual (maxSteps := 1000000) only [hkd, hpt.symm, go_sem, reduceCtorEq, ↓reduceIte, Nat.reduceAdd, Nat.reduceEqDiff, Nat.reduceLeDiff, Nat.reduceMul, Nat.reduceBEq, Int.reduceBEq, Int.reduceBNe, Int.reduceLT, Int.reduceLE, Int.reduceGT, Int.reduceGE, Int.reduceToNat, Int.natCast_one, Int.natCast_zero, Int.cast_ofNat_Int]
        exact fin none _ _ _ rfl (by omega) (.inl rfl) _ _ _
      | some t0 =>
        simp +contextual (maxSteps := 1000000) only [hkd, hpt.symm, go_sem, reduceCtorEq, ↓reduceIte, Nat.reduceAdd, Nat.reduceEqDiff, Nat.reduceLeDiff, Nat.reduceMul, Nat.reduceBEq, Int.reduceBEq, Int.reduceBNe, Int.reduceLT, Int.reduceLE, Int.reduceGT, Int.reduceGE, Int.reduceToNat, Int.natCast_one, Int.natCast_zero, Int.cast_ofNat_Int]
        refine ⟨⟨.inr (hk2 t0 rfl).2, by omega⟩, fin none _ _ _ rfl (by omega) (.inl rfl) _ _ _⟩
  · rintro H1 T1 ⟨tk, hk1, hk2, rfl⟩
    refine ⟨_, T1, fun p hp => List.mem_append.2 (.inl hp), fun _ h => .inl h, ?_⟩
    have hlen : ((splitB 58 t).map fun p => [AV.str p]).length = (splitB 58 t).length := by simp
    rw [hlen] at hk1 ⊢
    rw [List.take_length]
    cases tk with
    | none => exact absurd (List.length_eq_zero_iff.1 (hk1 rfl)) (splitB_ne _ _)
    | some t0 =>
      simp +contextual (maxSteps := 1000000) only [go_sem, reduceCtorEq, ↓reduceIte, Nat.reduceAdd, Nat.reduceEqDiff, Nat.reduceLeDiff, Nat.reduceMul, Nat.reduceBEq, Int.reduceBEq, Int.reduceBNe, Int.reduceLT, Int.reduceLE, Int.reduceGT, Int.reduceGE, Int.reduceToNat, Int.natCast_one, Int.natCast_zero, Int.cast_ofNat_Int]
      rw [← hQ]
      refine ⟨trivial, [t0], by simp, by simpa using (hk2 t0 rfl).1, rfl, by simp [rnH], ?_, ?_, by simp, ?_⟩
      · intro x hx
        simp at hx
        subst hx
        simpa [rnN] using (hk2 t0 rfl).2
      · simp [AV.okIn, nmOK]
      · simp [nmOK]
end Go.Proofs.YtgdgfefojfgpaaaDoor

/- Parameters as texts, and back. -/
set_option linter.unusedVariables false
set_option linter.unusedSimpArgs false
set_option maxRecDepth 100000
namespace Go.Proofs.YtgdgfefojfgpaaaDoor
open Go Go.Ab

/-- Texts, with a byte between them. -/
def jn (c : UInt8) : List (List UInt8) → List UInt8
  | [] => []
  | [x] => x
  | x :: y :: l => x ++ c :: jn c (y :: l)
theorem jn_cons {c : UInt8} {x : List UInt8} {l : List (List UInt8)} (h : l ≠ []) : jn c (x :: l) = x ++ c :: jn c l := by
  cases l with
  | nil => exact absurd rfl h
  | cons y l => rfl
theorem jn_snoc {c : UInt8} {x : List UInt8} : ∀ {l : List (List UInt8)}, l ≠ [] → jn c (l ++ [x]) = jn c l ++ c :: x
  | [], h => absurd rfl h
  | [y], _ => rfl
  | y :: z :: l, _ => by
    have ih := jn_snoc (c := c) (x := x) (l := z :: l) (by simp)
    rw [List.cons_append, jn_cons (x := y) (l := z :: l ++ [x]) (by simp), ih, jn_cons (x := y) (l := z :: l) (by simp), List.append_assoc]; rfl
theorem splitB_none {c : UInt8} : ∀ {x : List UInt8}, c ∉ x → splitB c x = [x]
  | [], _ => rfl
  | d :: x, h => by
    have h1 : d ≠ c := fun e => h (by simp [e])
    have h2 : c ∉ x := fun e => h (by simp [e])
    simp only [splitB, if_neg h1, splitB_none h2]
theorem splitB_app {c : UInt8} {r : List UInt8} : ∀ {x : List UInt8}, c ∉ x → splitB c (x ++ c :: r) = x :: splitB c r
  | [], _ => by simp [splitB]
  | d :: x, h => by
    have h1 : d ≠ c := fun e => h (by simp [e])
    have h2 : c ∉ x := fun e => h (by simp [e])
    simp only [List.cons_append, splitB, if_neg h1, splitB_app h2]
theorem splitB_jn {c : UInt8} : ∀ {l : List (List UInt8)}, l ≠ [] → (∀ x ∈ l, c ∉ x) → splitB c (jn c l) = l
  | [], h, _ => absurd rfl h
  | [x], _, h => splitB_none (h x (by simp))
  | x :: y :: l, _, h => by
    rw [jn_cons (by simp), splitB_app (h x (by simp)), splitB_jn (by simp) fun z hz => h z (by simp at hz ⊢; exact .inr hz)]

theorem fig_ofNat {d : Nat} (h : d < 10) : fig (UInt8.ofNat (48 + d)) = true ∧ (UInt8.ofNat (48 + d)).toNat - 48 = d := by
  have e : (UInt8.ofNat (48 + d)).toNat = 48 + d := by rw [UInt8.toNat_ofNat', Nat.mod_eq_of_lt (by omega)]
  constructor
  · simp only [fig, e, Bool.and_eq_true, decide_eq_true_eq]; omega
  · rw [e]; omega
theorem decB_figs : ∀ (n : Nat), ∀ c ∈ decB n, fig c = true := by
  intro n
  induction n using Nat.strongRecOn with
  | ind n ih =>
    rw [decB]
    split
    · intro c hc
      simp only [List.mem_singleton] at hc
      rw [hc]; exact (fig_ofNat (by omega)).1
    · intro c hc
      rcases List.mem_append.1 hc with h | h
      · exact ih (n / 10) (by omega) c h
      · simp only [List.mem_singleton] at h
        rw [h]; exact (fig_ofNat (by omega)).1
theorem decB_ne (n : Nat) : decB n ≠ [] := by
  rw [decB]; split <;> simp
theorem takeN_dec : ∀ (n : Nat) (rest : List UInt8) (k : Nat), n ≤ 1114111 → takeN (decB n ++ rest) 0 k = takeN rest n (k + (decB n).length) := by
  intro n
  induction n using Nat.strongRecOn with
  | ind n ih =>
    intro rest k hn
    rw [decB]
    split
    · obtain ⟨h1, h2⟩ := fig_ofNat (d := n) (by omega)
      simp only [List.singleton_append, takeN, h1, if_true, h2, List.length_singleton]
      congr 1; omega
    · obtain ⟨h1, h2⟩ := fig_ofNat (d := n % 10) (by omega)
      rw [List.append_assoc, ih (n / 10) (by omega) _ k (by omega)]
      simp only [List.singleton_append, takeN, h1, if_true, h2, List.length_append, List.length_singleton]
      congr 1; omega
theorem textZ_figs (n : Int) : ∀ c ∈ textZ n, fig c = true := by
  unfold textZ
  split
  · simp
  · exact decB_figs _
theorem fig_not {c d : UInt8} (h : fig c = true) (hd : fig d = false) : c ≠ d := by rintro rfl; rw [h] at hd; cases hd
theorem hostPart_text {n : Int} (h1 : -1 ≤ n) (h2 : n ≤ 65535) : hostPart (textZ n) = n := by
  unfold textZ
  split
  · have : n = -1 := by omega
    subst this; rfl
  · have := takeN_dec n.toNat [] 0 (by omega)
    rw [List.append_nil] at this
    have hl : (decB n.toNat).length ≠ 0 := fun e => decB_ne n.toNat (List.length_eq_zero_iff.1 e)
    simp only [hostPart, this, takeN, Nat.zero_add, if_neg hl]
    omega
def subText (p : List Int) : List UInt8 := jn 58 (p.map textZ)
def parsText (ps : List (List Int)) : List UInt8 := jn 59 (ps.map subText)
theorem hostParts_text {p : List Int} (hp : p ≠ []) (h : ∀ n ∈ p, -1 ≤ n ∧ n ≤ 65535) : hostParts (subText p) = p := by
  unfold hostParts subText
  rw [splitB_jn (by simpa using hp)]
  · rw [List.map_map]
    conv => rhs; rw [← List.map_id p]
    exact List.map_congr_left fun n hn => hostPart_text (h n hn).1 (h n hn).2
  · intro x hx hc
    obtain ⟨n, _, rfl⟩ := List.mem_map.1 hx
    exact fig_not (textZ_figs n _ hc) (by decide) rfl
theorem jn_mem {c d : UInt8} : ∀ {l : List (List UInt8)}, d ∈ jn c l → d = c ∨ ∃ x ∈ l, d ∈ x
  | [], h => by simp [jn] at h
  | [x], h => .inr ⟨x, by simp, h⟩
  | x :: y :: l, h => by
    rw [jn_cons (by simp)] at h
    rcases List.mem_append.1 h with h | h
    · exact .inr ⟨x, by simp, h⟩
    · rcases List.mem_cons.1 h with h | h
      · exact .inl h
      · rcases jn_mem h with h | ⟨z, hz, h⟩
        · exact .inl h
        · exact .inr ⟨z, by simp at hz ⊢; exact .inr hz, h⟩
theorem subText_mem {p : List Int} {c : UInt8} (h : c ∈ subText p) : c = 58 ∨ fig c = true := by
  rcases jn_mem h with h | ⟨x, hx, h⟩
  · exact .inl h
  · obtain ⟨n, _, rfl⟩ := List.mem_map.1 hx
    exact .inr (textZ_figs n _ h)
theorem parsText_mem {ps : List (List Int)} {c : UInt8} (h : c ∈ parsText ps) : 48 ≤ c.toNat ∧ c.toNat < 60 := by
  have key : c = 59 ∨ c = 58 ∨ fig c = true := by
    rcases jn_mem h with h | ⟨x, hx, h⟩
    · exact .inl h
    · obtain ⟨p, _, rfl⟩ := List.mem_map.1 hx
      exact .inr (subText_mem h)
  rcases key with rfl | rfl | h
  · decide
  · decide
  · simp only [fig, Bool.and_eq_true, decide_eq_true_eq] at h; omega
theorem hostPars_text {ps : List (List Int)} (hp : ps ≠ []) (h : ∀ p ∈ ps, p ≠ [] ∧ ∀ n ∈ p, -1 ≤ n ∧ n ≤ 65535) : (splitB 59 (parsText ps)).map hostParts = ps := by
  unfold parsText
  rw [splitB_jn (by simpa using hp)]
  · rw [List.map_map]
    conv => rhs; rw [← List.map_id ps]
    exact List.map_congr_left fun p hq => hostParts_text (h p hq).1 (h p hq).2
  · intro x hx hc
    obtain ⟨p, _, rfl⟩ := List.mem_map.1 hx
    rcases subText_mem hc with h | h
    · cases h
    · cases h
theorem subText_nil {p : List Int} (hp : p ≠ []) (h : ∀ n ∈ p, -1 ≤ n) : subText p = [] ↔ p = [-1] := by
  constructor
  · intro e
    cases p with
    | nil => exact absurd rfl hp
    | cons n q =>
      cases q with
      | nil =>
        simp only [subText, List.map_cons, List.map_nil, jn, textZ] at e
        split at e
        · have := h n (by simp); congr 1; omega
        · exact absurd e (decB_ne _)
      | cons m q =>
        simp only [subText, List.map_cons] at e
        rw [jn_cons (by simp)] at e
        simp at e
  · rintro rfl; rfl
theorem parsText_nil {ps : List (List Int)} (h : ∀ p ∈ ps, p ≠ [] ∧ ∀ n ∈ p, -1 ≤ n) : parsText ps = [] ↔ ps = [] ∨ ps = [[-1]] := by
  constructor
  · intro e
    cases ps with
    | nil => exact .inl rfl
    | cons p q =>
      cases q with
      | nil =>
        simp only [parsText, List.map_cons, List.map_nil, jn] at e
        exact .inr (by rw [(subText_nil (h p (by simp)).1 (h p (by simp)).2).1 e])
      | cons m q =>
        simp only [parsText, List.map_cons] at e
        rw [jn_cons (by simp)] at e
        simp at e
  · rintro (rfl | rfl) <;> rfl
/-- What parameters that may be are. -/
theorem parsOk_iff {ps : List (List Int)} (h : parsOk ps = true) : ps.length ≤ 16 ∧ ps ≠ [[-1]] ∧ ∀ p ∈ ps, p ≠ [] ∧ p.length ≤ 8 ∧ ∀ n ∈ p, -1 ≤ n ∧ n ≤ 1114111 := by
  simp only [parsOk, Bool.and_eq_true, Bool.not_eq_true', Bool.or_eq_false_iff, decide_eq_false_iff_not] at h
  obtain ⟨⟨h1, h3⟩, h2⟩ := h
  refine ⟨by omega, h3, fun p hp => ?_⟩
  have := List.any_eq_false.1 h2 p hp
  simp only [parBad, Bool.or_eq_true, decide_eq_true_eq, not_or, List.any_eq_true, not_exists, not_and] at this
  obtain ⟨a, b, c⟩ := this
  refine ⟨fun e => by simp [e] at b, by omega, fun n hn => ?_⟩
  have := a n hn
  omega
end Go.Proofs.YtgdgfefojfgpaaaDoor

/- The reference's layer 3: a sequence as bytes, walked. -/
set_option linter.unusedVariables false
set_option linter.unusedSimpArgs false
set_option maxRecDepth 100000
namespace Go.Proofs.YtgdgfefojfgpaaaDoor
open Go Go.Ab
/- clavier/clavierref03.body -/
def ir_clavierref03body_l0 : ICode :=
 (.seq
                (.seq
                 (.reg [⟨some 24, none, .mov (.t 5)⟩,
                   ⟨some 25, none, .fa 2 (.t 1)⟩,
                   ⟨some 26, none, .ld none (.t 25)⟩,
                   ⟨some 27, none, .mov (.t 4)⟩,
                   ⟨some 28, none, .ia 1 (.t 26) (.t 27)⟩,
                   ⟨some 29, none, .ld none (.t 28)⟩,
                   ⟨some 30, none, .len (.t 29)⟩,
                   ⟨some 31, none, .bin .lss .none (.t 24) (.t 30)⟩] (some [1, 3, 4, 5, 31]))
                 (.cond (.t 31)
                  .skip
                  (.exit 2)))
                (.seq
                 (.blk 3
                  (.seq
                   (.seq
                    (.reg [⟨some 34, none, .mov (.t 5)⟩,
                      ⟨some 35, none, .bin .gtr .none (.t 34) (.c (.int .i64 0))⟩] (some [1, 3, 4, 5, 35]))
                    (.cond (.t 35)
                     (.reg [⟨some 36, none, .mov (.t 3)⟩,
                       ⟨some 37, none, .bin .add .none (.t 36) (.c (.str [58]))⟩,
                       ⟨some 3, none, .mov (.t 37)⟩] (some [1, 3, 4, 5]))
                     .skip))
                   (.reg [⟨some 38, none, .mov (.t 3)⟩,
                     ⟨some 39, none, .fa 2 (.t 1)⟩,
                     ⟨some 40, none, .ld none (.t 39)⟩,
                     ⟨some 41, none, .mov (.t 4)⟩,
                     ⟨some 42, none, .ia 1 (.t 40) (.t 41)⟩,
                     ⟨some 43, none, .ld none (.t 42)⟩,
                     ⟨some 44, none, .mov (.t 5)⟩,
                     ⟨some 45, none, .ia 1 (.t 43) (.t 44)⟩,
                     ⟨some 46, none, .ld none (.t 45)⟩,
                     ⟨some 47, none, .call (.c (.fn (.func 26) [] [])) [(.t 46)]⟩,
                     ⟨some 48, none, .bin .add .none (.t 38) (.t 47)⟩,
                     ⟨some 3, none, .mov (.t 48)⟩] (some [1, 3, 4, 5]))))
                 (.reg [⟨some 32, none, .mov (.t 5)⟩,
                   ⟨some 33, none, .bin .add .none (.t 32) (.c (.int .i64 1))⟩,
                   ⟨some 5, none, .mov (.t 33)⟩] (some [1, 3, 4, 5]))))
def ir_clavierref03body_l1 : ICode :=
 (.seq
         (.seq
          (.reg [⟨some 13, none, .mov (.t 4)⟩,
            ⟨some 14, none, .fa 2 (.t 1)⟩,
            ⟨some 15, none, .ld none (.t 14)⟩,
            ⟨some 16, none, .len (.t 15)⟩,
            ⟨some 17, none, .bin .lss .none (.t 13) (.t 16)⟩] (some [1, 3, 4, 17]))
          (.cond (.t 17)
           .skip
           (.exit 0)))
         (.seq
          (.blk 1
           (.seq
            (.seq
             (.reg [⟨some 20, none, .mov (.t 4)⟩,
               ⟨some 21, none, .bin .gtr .none (.t 20) (.c (.int .i64 0))⟩] (some [1, 3, 4, 21]))
             (.cond (.t 21)
              (.reg [⟨some 22, none, .mov (.t 3)⟩,
                ⟨some 23, none, .bin .add .none (.t 22) (.c (.str [59]))⟩,
                ⟨some 3, none, .mov (.t 23)⟩] (some [1, 3, 4]))
              .skip))
            (.seq
             (.reg [⟨some 5, none, .mov (.c (.int .i64 0))⟩] (some [1, 3, 4, 5]))
             (.blk 2
              (.loop
               ir_clavierref03body_l0)))))
          (.reg [⟨some 18, none, .mov (.t 4)⟩,
            ⟨some 19, none, .bin .add .none (.t 18) (.c (.int .i64 1))⟩,
            ⟨some 4, none, .mov (.t 19)⟩] (some [1, 3, 4]))))
def ir_clavierref03body_t4 : ICode :=
 (.seq
  (.reg [⟨some 49, none, .mov (.t 3)⟩,
        ⟨some 50, none, .fa 3 (.t 1)⟩,
        ⟨some 51, none, .ld none (.t 50)⟩,
        ⟨some 52, none, .bin .add .none (.t 49) (.t 51)⟩,
        ⟨some 2, none, .mov (.t 52)⟩] (some [2]))
  .ret)
def ir_clavierref03body_t3 : ICode :=
 (.seq
  (.seq
      (.reg [⟨some 4, none, .mov (.c (.int .i64 0))⟩] (some [1, 3, 4]))
      (.blk 0
       (.loop
        ir_clavierref03body_l1)))
  ir_clavierref03body_t4)
def ir_clavierref03body_t2 : ICode :=
 (.seq
  (.seq
     (.reg [⟨some 6, none, .fa 1 (.t 1)⟩,
       ⟨some 7, none, .ld none (.t 6)⟩,
       ⟨some 8, none, .bin .neq .none (.t 7) (.c (.int .u8 0))⟩] (some [1, 3, 8]))
     (.cond (.t 8)
      (.reg [⟨some 9, none, .fa 1 (.t 1)⟩,
        ⟨some 10, none, .ld none (.t 9)⟩,
        ⟨some 11, none, .row 5 1 [(.t 10)]⟩,
        ⟨some 12, none, .b2s (.t 11)⟩,
        ⟨some 3, none, .mov (.t 12)⟩] (some [1, 3]))
      .skip))
  ir_clavierref03body_t3)
def ir_clavierref03body_t1 : ICode :=
 (.seq
  (.reg [⟨some 3, none, .mov (.c (.str []))⟩] (some [1, 3]))
  ir_clavierref03body_t2)
def ir_clavierref03body : ICode :=
 (.seq
  (.reg [⟨some 1, none, .box 32 (.t 0)⟩,
    ⟨some 2, none, .mov (.c (.str []))⟩] (some [1]))
  ir_clavierref03body_t1)
theorem is_clavierref03body : IrOf Tryd.prog 17 53 ir_clavierref03body [.t 2] := ⟨_, Tryd.func17, rfl, by kernel_rfl, by kernel_rfl, by kernel_rfl⟩


def prB (pr : Int) : List UInt8 := if (pr != 0) = true then [pr.toNat.toUInt8] else []
def bodyB (s : Sq) : List UInt8 := prB s.pr ++ parsText s.ps ++ s.it
theorem byteOf {n : Int} (h0 : 0 ≤ n) (h1 : n < 256) : ∃ c : UInt8, n = (c.toNat : Int) := ⟨UInt8.ofNat n.toNat, by rw [UInt8.toNat_ofNat', Nat.mod_eq_of_lt (by omega)]; omega⟩
theorem subText_len {p : List Int} (h : ∀ n ∈ p, n ≤ 1114111) : (subText p).length ≤ 20 * p.length := by
  induction p with
  | nil => simp [subText, jn]
  | cons n p ih =>
    have h1 : (textZ n).length ≤ 19 := by
      unfold textZ
      split
      · simp
      · exact decB_len20 (by have := h n (by simp); omega)
    cases p with
    | nil => simp [subText, jn]; omega
    | cons m p =>
      have := ih fun x hx => h x (by simp at hx ⊢; exact .inr hx)
      simp only [subText, List.map_cons] at this ⊢
      rw [jn_cons (by simp)]
      simp only [List.length_append, List.length_cons] at this ⊢; omega
theorem parsText_len {ps : List (List Int)} (h : ∀ p ∈ ps, p.length ≤ 8 ∧ ∀ n ∈ p, n ≤ 1114111) : (parsText ps).length ≤ 161 * ps.length := by
  induction ps with
  | nil => simp [parsText, jn]
  | cons n p ih =>
    have h1 := subText_len (h n (by simp)).2
    have h2 := (h n (by simp)).1
    cases p with
    | nil => simp [parsText, jn]; omega
    | cons m p =>
      have := ih fun x hx => h x (by simp at hx ⊢; exact .inr hx)
      simp only [parsText, List.map_cons] at this ⊢
      rw [jn_cons (by simp)]
      simp only [List.length_append, List.length_cons] at this ⊢; omega

/-- The text up to a parameter's part. -/
def upSub (p : List Int) (k : Nat) : List UInt8 := subText (p.take k)
def upPar (ps : List (List Int)) (i : Nat) : List UInt8 := parsText (ps.take i)
theorem upSub_succ {p : List Int} {k : Nat} (h : k < p.length) : upSub p (k + 1) = (if k = 0 then [] else upSub p k ++ [58]) ++ textZ p[k] := by
  unfold upSub subText
  rw [List.take_add_one, List.getElem?_eq_getElem h]
  by_cases hk : k = 0
  · subst hk; simp [jn]
  · have hne : (p.take k).map textZ ≠ [] := by simp; exact ⟨hk, fun e => by subst e; simp at h⟩
    rw [if_neg hk]
    simp only [Option.toList_some, List.map_append, List.map_cons, List.map_nil]
    rw [jn_snoc hne]; simp
theorem upPar_succ {ps : List (List Int)} {i : Nat} (h : i < ps.length) : upPar ps (i + 1) = (if i = 0 then [] else upPar ps i ++ [59]) ++ subText ps[i] := by
  unfold upPar parsText
  rw [List.take_add_one, List.getElem?_eq_getElem h]
  by_cases hk : i = 0
  · subst hk; simp [jn]
  · have hne : (ps.take i).map subText ≠ [] := by simp; exact ⟨hk, fun e => by subst e; simp at h⟩
    rw [if_neg hk]
    simp only [Option.toList_some, List.map_append, List.map_cons, List.map_nil]
    rw [jn_snoc hne]; simp
set_option maxHeartbeats 1000000 in
theorem fs_rBody {Gl : Gh → Prop} (hst : Stays Gl) {s : Sq} (hp0 : 0 ≤ s.pr) (hp1 : s.pr < 256) (hit : s.it.length ≤ 1000) (hn : s.ps.length ≤ 16) (hb : ∀ p ∈ s.ps, p.length ≤ 8 ∧ ∀ n ∈ p, n ≤ 1114111) : FS Tryd.prog Gl 17 [.agg s.c] [] [] (.str (bodyB s)) [] [] := by
  refine FS.of hm hst is_clavierref03body (by simp) fun γ hγ hfr => ?_
  obtain ⟨k, pr, ps, it, fi, da⟩ := s
  simp only at hp0 hp1 hit hn hb
  simp only [Sq.c, bodyB, parsV]
  simp only [Sq.c, parsV] at hfr
  obtain ⟨c, rfl⟩ := byteOf hp0 hp1
  (generalize hQ : (fun (ex : Ex) (_ _ : Nat) (s : St) => _) = Q; unfold ir_clavierref03body)
  simp +contextual (maxSteps := 1000000) only [go_sem, reduceCtorEq, ↓reduceIte, Nat.reduceAdd, Nat.reduceEqDiff, Nat.reduceLeDiff, Nat.reduceMul, Nat.reduceBEq, Int.reduceBEq, Int.reduceBNe, Int.reduceLT, Int.reduceLE, Int.reduceGT, Int.reduceGE, Int.reduceToNat, Int.natCast_one, Int.natCast_zero, Int.cast_ofNat_Int]
  unfold ir_clavierref03body_t1
  simp +contextual (maxSteps := 1000000) only [go_sem, reduceCtorEq, ↓reduceIte, Nat.reduceAdd, Nat.reduceEqDiff, Nat.reduceLeDiff, Nat.reduceMul, Nat.reduceBEq, Int.reduceBEq, Int.reduceBNe, Int.reduceLT, Int.reduceLE, Int.reduceGT, Int.reduceGE, Int.reduceToNat, Int.natCast_one, Int.natCast_zero, Int.cast_ofNat_Int]
  unfold ir_clavierref03body_t2
  simp +contextual (maxSteps := 1000000) only [go_sem, reduceCtorEq, ↓reduceIte, Nat.reduceAdd, Nat.reduceEqDiff, Nat.reduceLeDiff, Nat.reduceMul, Nat.reduceBEq, Int.reduceBEq, Int.reduceBNe, Int.reduceLT, Int.reduceLE, Int.reduceGT, Int.reduceGE, Int.reduceToNat, Int.natCast_one, Int.natCast_zero, Int.cast_ofNat_Int]
  have hps : ∀ i, (upPar ps i).length ≤ 161 * 16 := fun i => by
    have := parsText_len (ps := ps.take i) fun p hp => hb p (List.mem_of_mem_take hp)
    have h2 : (ps.take i).length ≤ 16 := by rw [List.length_take]; omega
    unfold upPar; omega
  have hprl : (prB (c.toNat : Int)).length ≤ 1 := by unfold prB; split <;> simp
  have loop : ∀ F c0 t T, t = prB (c.toNat : Int) → F 1 = .ptr (γ, 0, 0) 0 → F 3 = .str t → aw Tryd.prog Gl ir_clavierref03body_t3 γ c0 ⟨F, [((γ, 0, 0), .cells [.int .i64 k, .int .u8 (c.toNat : Int), .sl none 1 (parsAV ps), .str it, .int .u8 fi, .str da])], T⟩ Q := by
    intro F c0 t T ht f1 f3
    subst ht
    unfold ir_clavierref03body_t3
    simp +contextual (maxSteps := 1000000) only [f1, f3, go_sem, reduceCtorEq, ↓reduceIte, Nat.reduceAdd, Nat.reduceEqDiff, Nat.reduceLeDiff, Nat.reduceMul, Nat.reduceBEq, Int.reduceBEq, Int.reduceBNe, Int.reduceLT, Int.reduceLE, Int.reduceGT, Int.reduceGE, Int.reduceToNat, Int.natCast_one, Int.natCast_zero, Int.cast_ofNat_Int]
    refine kLoop_ix (fun i : Nat => ⟨lf [(1, .ptr (γ, 0, 0) 0), (3, .str (prB (c.toNat : Int) ++ upPar ps i)), (4, .int .i64 i)], [((γ, 0, 0), .cells [.int .i64 k, .int .u8 (c.toNat : Int), .sl none 1 (parsAV ps), .str it, .int .u8 fi, .str da])], fun x => x ∈ []⟩) (fun i => i ≤ ps.length) (fun i => ps.length - i) 0 0 (Wk.perm' ?_ (fun _ h => h) (fun _ h => by cases h)) (by simp) ?_
    · simp only [upPar, parsText, List.take_zero, List.map_nil, jn, List.append_nil]
      (simp only [lfOK, upd, initF]; repeat' first | exact AVle.refl _ _ | exact trivial | refine And.intro ?_ ?_ | exact AVle.int (by simp only [IntKind.wrap_i64]; omega))
    rintro γ' i hf hi
    generalize hQ' : kIt _ _ _ _ _ = Q'
    unfold ir_clavierref03body_l1
    by_cases hlt : i < ps.length
    · have hd : decide ((i : Int) < (ps.length : Int)) = true := by simp; omega
      have hg1 : (parsAV ps).getD i [] = [intsV ps[i]] := parsAV_get hlt
      have hpl := hb _ (List.getElem_mem hlt)
      have hw : IntKind.i64.wrap ((i : Int) + 1) = ((i + 1 : Nat) : Int) := by rw [IntKind.wrap_i64]; omega
      have hup := upPar_succ hlt
      have hi0 : decide ((i : Int) > 0) = !decide (i = 0) := by rw [Bool.eq_iff_iff]; simp; omega
      have hpi := hps i
      generalize ps[i] = p at hg1 hpl hup
      simp +contextual (maxSteps := 1000000) only [hd, hg1, parsAV_length, Int.toNat_natCast, hi0, go_sem, reduceCtorEq, ↓reduceIte, Nat.reduceAdd, Nat.reduceEqDiff, Nat.reduceLeDiff, Nat.reduceMul, Nat.reduceBEq, Int.reduceBEq, Int.reduceBNe, Int.reduceLT, Int.reduceLE, Int.reduceGT, Int.reduceGE, Int.reduceToNat, Int.natCast_one, Int.natCast_zero, Int.cast_ofNat_Int]
      refine kCond_join (fun _ s' => s'.F 1 = .ptr (γ, 0, 0) 0 ∧ s'.F 3 = .str (prB (c.toNat : Int) ++ if i = 0 then [] else upPar ps i ++ [59]) ∧ s'.F 4 = .int .i64 i ∧ s'.H = [((γ, 0, 0), .cells [.int .i64 k, .int .u8 (c.toNat : Int), .sl none 1 (parsAV ps), .str it, .int .u8 fi, .str da])] ∧ s'.T = fun x => x ∈ []) (fun h => ?_) (fun h => ?_) fun c1 s' hs => ?_
      · simp +contextual (maxSteps := 1000000) only [go_sem, reduceCtorEq, ↓reduceIte, Nat.reduceAdd, Nat.reduceEqDiff, Nat.reduceLeDiff, Nat.reduceMul, Nat.reduceBEq, Int.reduceBEq, Int.reduceBNe, Int.reduceLT, Int.reduceLE, Int.reduceGT, Int.reduceGE, Int.reduceToNat, Int.natCast_one, Int.natCast_zero, Int.cast_ofNat_Int]
        have h0 : i ≠ 0 := by simpa using h
        refine ⟨by simp only [List.length_append]; omega, ?_⟩
        simp only [if_neg h0, List.append_assoc]
      · simp +contextual (maxSteps := 1000000) only [go_sem, reduceCtorEq, ↓reduceIte, Nat.reduceAdd, Nat.reduceEqDiff, Nat.reduceLeDiff, Nat.reduceMul, Nat.reduceBEq, Int.reduceBEq, Int.reduceBNe, Int.reduceLT, Int.reduceLE, Int.reduceGT, Int.reduceGE, Int.reduceToNat, Int.natCast_one, Int.natCast_zero, Int.cast_ofNat_Int]
        have h0 : i = 0 := by simpa using h
        subst h0
        simp [upPar, parsText, jn]
      obtain ⟨F, H, T⟩ := s'
      simp only at hs
      obtain ⟨f1, f3, f4, rfl, rfl⟩ := hs
      simp +contextual (maxSteps := 1000000) only [f1, f3, f4, go_sem, reduceCtorEq, ↓reduceIte, Nat.reduceAdd, Nat.reduceEqDiff, Nat.reduceLeDiff, Nat.reduceMul, Nat.reduceBEq, Int.reduceBEq, Int.reduceBNe, Int.reduceLT, Int.reduceLE, Int.reduceGT, Int.reduceGE, Int.reduceToNat, Int.natCast_one, Int.natCast_zero, Int.cast_ofNat_Int]
      obtain ⟨B, hB⟩ : ∃ B, B = prB (c.toNat : Int) ++ if i = 0 then [] else upPar ps i ++ [59] := ⟨_, rfl⟩
      have hBl : B.length ≤ 5000 := by
        rw [hB]; split
        · simp; omega
        · simp; omega
      rw [← hB]
      have hsub : ∀ k, (upSub p k).length ≤ 160 := fun k => by
        have h1 := subText_len (p := p.take k) fun n hn => hpl.2 n (List.mem_of_mem_take hn)
        have h2 : (p.take k).length ≤ 8 := by rw [List.length_take]; omega
        unfold upSub; omega
      have hfin : prB (c.toNat : Int) ++ upPar ps (i + 1) = B ++ subText p := by rw [hup, hB, List.append_assoc]
      refine kLoop_ix (fun k2 : Nat => ⟨lf [(1, .ptr (γ, 0, 0) 0), (3, .str (B ++ upSub p k2)), (4, .int .i64 i), (5, .int .i64 k2)], [((γ, 0, 0), .cells [.int .i64 k, .int .u8 (c.toNat : Int), .sl none 1 (parsAV ps), .str it, .int .u8 fi, .str da])], fun x => x ∈ []⟩) (fun k2 => k2 ≤ p.length) (fun k2 => p.length - k2) 0 0 (Wk.same ?_) (by simp) ?_
      · simp only [upSub, subText, List.take_zero, List.map_nil, jn, List.append_nil]
        (simp only [lfOK, upd, initF]; repeat' first | exact AVle.refl _ _ | exact trivial | refine And.intro ?_ ?_ | exact AVle.int (by simp only [IntKind.wrap_i64]; omega))
      rintro γ2 k2 hf2 hk2
      generalize hQ2 : kIt _ _ _ _ _ = Q2
      unfold ir_clavierref03body_l0
      by_cases hlt2 : k2 < p.length
      · have hd2 : decide ((k2 : Int) < (p.length : Int)) = true := by simp; omega
        have hg2 : (intsAV p).getD k2 [] = [.int .i64 p[k2]] := intsAV_get hlt2
        have hw2 : IntKind.i64.wrap ((k2 : Int) + 1) = ((k2 + 1 : Nat) : Int) := by rw [IntKind.wrap_i64]; omega
        have hus := upSub_succ hlt2
        have hk0 : decide ((k2 : Int) > 0) = !decide (k2 = 0) := by rw [Bool.eq_iff_iff]; simp; omega
        have hx := hpl.2 _ (List.getElem_mem hlt2)
        have hsk := hsub k2
        generalize p[k2] = x at hg2 hus hx
        simp +contextual (maxSteps := 1000000) only [hd2, hg1, hg2, parsAV_length, Int.toNat_natCast, intsV, intsAV_length, hk0, go_sem, reduceCtorEq, ↓reduceIte, Nat.reduceAdd, Nat.reduceEqDiff, Nat.reduceLeDiff, Nat.reduceMul, Nat.reduceBEq, Int.reduceBEq, Int.reduceBNe, Int.reduceLT, Int.reduceLE, Int.reduceGT, Int.reduceGE, Int.reduceToNat, Int.natCast_one, Int.natCast_zero, Int.cast_ofNat_Int]
        refine ⟨by omega, ?_⟩
        refine kCond_join (fun _ s' => s'.F 1 = .ptr (γ, 0, 0) 0 ∧ s'.F 3 = .str (B ++ if k2 = 0 then [] else upSub p k2 ++ [58]) ∧ s'.F 4 = .int .i64 i ∧ s'.F 5 = .int .i64 k2 ∧ s'.H = [((γ, 0, 0), .cells [.int .i64 k, .int .u8 (c.toNat : Int), .sl none 1 (parsAV ps), .str it, .int .u8 fi, .str da])] ∧ s'.T = fun x => x ∈ []) (fun h => ?_) (fun h => ?_) fun c1 s' hs => ?_
        · simp +contextual (maxSteps := 1000000) only [go_sem, reduceCtorEq, ↓reduceIte, Nat.reduceAdd, Nat.reduceEqDiff, Nat.reduceLeDiff, Nat.reduceMul, Nat.reduceBEq, Int.reduceBEq, Int.reduceBNe, Int.reduceLT, Int.reduceLE, Int.reduceGT, Int.reduceGE, Int.reduceToNat, Int.natCast_one, Int.natCast_zero, Int.cast_ofNat_Int]
          have h0 : k2 ≠ 0 := by simpa using h
          refine ⟨by simp only [List.length_append]; omega, ?_⟩
          simp only [if_neg h0, List.append_assoc]
        · simp +contextual (maxSteps := 1000000) only [go_sem, reduceCtorEq, ↓reduceIte, Nat.reduceAdd, Nat.reduceEqDiff, Nat.reduceLeDiff, Nat.reduceMul, Nat.reduceBEq, Int.reduceBEq, Int.reduceBNe, Int.reduceLT, Int.reduceLE, Int.reduceGT, Int.reduceGE, Int.reduceToNat, Int.natCast_one, Int.natCast_zero, Int.cast_ofNat_Int]
          have h0 : k2 = 0 := by simpa using h
          subst h0
          simp [upSub, subText, jn]
        obtain ⟨F, H, T⟩ := s'
        simp only at hs
        obtain ⟨f1, f3, f4, f5, rfl, rfl⟩ := hs
        simp +contextual (maxSteps := 1000000) only [f1, f3, f4, f5, hg1, hg2, parsAV_length, Int.toNat_natCast, intsV, intsAV_length, go_sem, reduceCtorEq, ↓reduceIte, Nat.reduceAdd, Nat.reduceEqDiff, Nat.reduceLeDiff, Nat.reduceMul, Nat.reduceBEq, Int.reduceBEq, Int.reduceBNe, Int.reduceLT, Int.reduceLE, Int.reduceGT, Int.reduceGE, Int.reduceToNat, Int.natCast_one, Int.natCast_zero, Int.cast_ofNat_Int]
        refine ⟨by omega, by omega, ?_⟩
        refine CallP.pure (fs_rText hst (by omega)) (fun _ => rfl) ?_
        have hxl : (textZ x).length ≤ 19 := by
          unfold textZ; split
          · simp
          · exact decB_len20 (by omega)
        have hBk : (B ++ if k2 = 0 then [] else upSub p k2 ++ [58]).length ≤ 6000 := by
          split
          · simp; omega
          · simp; omega
        simp +contextual (maxSteps := 1000000) only [hw2, f1, f3, f4, f5, go_sem, reduceCtorEq, ↓reduceIte, Nat.reduceAdd, Nat.reduceEqDiff, Nat.reduceLeDiff, Nat.reduceMul, Nat.reduceBEq, Int.reduceBEq, Int.reduceBNe, Int.reduceLT, Int.reduceLE, Int.reduceGT, Int.reduceGE, Int.reduceToNat, Int.natCast_one, Int.natCast_zero, Int.cast_ofNat_Int]
        refine ⟨by simp only [List.length_append] at hBk ⊢; omega, ?_⟩
        rw [← hQ2]
        simp only [w_kIt_n]
        refine ⟨0, k2 + 1, Wk.same ?_, by omega, by omega⟩
        refine ⟨AVle.refl _ _, AVle.str ?_, AVle.refl _ _, AVle.refl _ _, trivial⟩
        rw [hus, List.append_assoc]
      · have hd2 : decide ((k2 : Int) < (p.length : Int)) = false := by simp; omega
        simp +contextual (maxSteps := 1000000) only [hd2, hg1, parsAV_length, Int.toNat_natCast, intsV, intsAV_length, go_sem, reduceCtorEq, ↓reduceIte, Nat.reduceAdd, Nat.reduceEqDiff, Nat.reduceLeDiff, Nat.reduceMul, Nat.reduceBEq, Int.reduceBEq, Int.reduceBNe, Int.reduceLT, Int.reduceLE, Int.reduceGT, Int.reduceGE, Int.reduceToNat, Int.natCast_one, Int.natCast_zero, Int.cast_ofNat_Int]
        refine ⟨by omega, ?_⟩
        rw [← hQ2]
        simp only [w_kIt_e, w_kBlk_e, ↓reduceIte]
        simp +contextual (maxSteps := 1000000) only [hw, go_sem, reduceCtorEq, ↓reduceIte, Nat.reduceAdd, Nat.reduceEqDiff, Nat.reduceLeDiff, Nat.reduceMul, Nat.reduceBEq, Int.reduceBEq, Int.reduceBNe, Int.reduceLT, Int.reduceLE, Int.reduceGT, Int.reduceGE, Int.reduceToNat, Int.natCast_one, Int.natCast_zero, Int.cast_ofNat_Int]
        rw [← hQ']
        simp only [w_kIt_n]
        refine ⟨0, i + 1, Wk.same ?_, by omega, by omega⟩
        refine ⟨AVle.refl _ _, AVle.str ?_, AVle.refl _ _, trivial⟩
        rw [hfin]
        unfold upSub; rw [List.take_of_length_le (by omega)]
    · have hd : decide ((i : Int) < (ps.length : Int)) = false := by simp; omega
      simp +contextual (maxSteps := 1000000) only [hd, parsAV_length, go_sem, reduceCtorEq, ↓reduceIte, Nat.reduceAdd, Nat.reduceEqDiff, Nat.reduceLeDiff, Nat.reduceMul, Nat.reduceBEq, Int.reduceBEq, Int.reduceBNe, Int.reduceLT, Int.reduceLE, Int.reduceGT, Int.reduceGE, Int.reduceToNat, Int.natCast_one, Int.natCast_zero, Int.cast_ofNat_Int]
      rw [← hQ']
      simp only [w_kIt_e, w_kBlk_e, ↓reduceIte]
      simp +contextual (maxSteps := 1000000) only [go_sem, reduceCtorEq, ↓reduceIte, Nat.reduceAdd, Nat.reduceEqDiff, Nat.reduceLeDiff, Nat.reduceMul, Nat.reduceBEq, Int.reduceBEq, Int.reduceBNe, Int.reduceLT, Int.reduceLE, Int.reduceGT, Int.reduceGE, Int.reduceToNat, Int.natCast_one, Int.natCast_zero, Int.cast_ofNat_Int]
      unfold ir_clavierref03body_t4
      simp +contextual (maxSteps := 1000000) only [go_sem, reduceCtorEq, ↓reduceIte, Nat.reduceAdd, Nat.reduceEqDiff, Nat.reduceLeDiff, Nat.reduceMul, Nat.reduceBEq, Int.reduceBEq, Int.reduceBNe, Int.reduceLT, Int.reduceLE, Int.reduceGT, Int.reduceGE, Int.reduceToNat, Int.natCast_one, Int.natCast_zero, Int.cast_ofNat_Int]
      have e : upPar ps i = parsText ps := by unfold upPar; rw [List.take_of_length_le (by omega)]
      have := hps i
      refine ⟨by simp only [List.length_append]; omega, ?_⟩
      rw [← hQ]
      refine ⟨trivial, Ret.flat ?_ rfl⟩
      rw [e]; rfl
  refine kCond_split (fun h => ?_) (fun h => ?_)
  · simp +contextual (maxSteps := 1000000) only [isByte_one, unbyte_c, go_sem, reduceCtorEq, ↓reduceIte, Nat.reduceAdd, Nat.reduceEqDiff, Nat.reduceLeDiff, Nat.reduceMul, Nat.reduceBEq, Int.reduceBEq, Int.reduceBNe, Int.reduceLT, Int.reduceLE, Int.reduceGT, Int.reduceGE, Int.reduceToNat, Int.natCast_one, Int.natCast_zero, Int.cast_ofNat_Int]
    have h' : (c.toNat : Int).toNat.toUInt8 = c := by simp
    refine loop _ _ [c] _ ?_ ?_ ?_
    · simp only [prB, h, if_true, h']
    · rfl
    · rfl
  · simp +contextual (maxSteps := 1000000) only [go_sem, reduceCtorEq, ↓reduceIte, Nat.reduceAdd, Nat.reduceEqDiff, Nat.reduceLeDiff, Nat.reduceMul, Nat.reduceBEq, Int.reduceBEq, Int.reduceBNe, Int.reduceLT, Int.reduceLE, Int.reduceGT, Int.reduceGE, Int.reduceToNat, Int.natCast_one, Int.natCast_zero, Int.cast_ofNat_Int]
    refine loop _ _ [] _ ?_ rfl rfl
    simp only [prB, h, Bool.false_eq_true, if_false]
end Go.Proofs.YtgdgfefojfgpaaaDoor

/- The parser of layer 5: its state. -/
set_option linter.unusedVariables false
set_option linter.unusedSimpArgs false
set_option maxRecDepth 100000
namespace Go.Proofs.YtgdgfefojfgpaaaDoor
open Go Go.Ab
/-- (*clavier/host.Parser).drop -/
def ir_hostParserdrop : ICode :=
 (.reg [⟨some 2, none, .mov (.t 0)⟩,
   ⟨some 3, none, .mov (.t 0)⟩,
   ⟨some 4, none, .nck (.t 3)⟩,
   ⟨some 5, none, .fa 12 (.t 4)⟩,
   ⟨some 6, none, .ld none (.t 5)⟩,
   ⟨some 7, none, .bld [.nilf, (.int .i64 0), (.int .u8 0), .nils, (.str []), (.int .u8 0), (.str []), .nils, .nils, (.bool false), (.bool false), (.bool false), .nils] [(12, 1, (.t 6))]⟩,
   ⟨some 8, none, .nck (.t 2)⟩,
   ⟨none, none, .st 13 (.t 8) (.t 7)⟩] (some []))
theorem is_hostParserdrop : IrOf Tryd.prog 18 9 ir_hostParserdrop [] := ⟨_, Tryd.func18, rfl, by kernel_rfl, by kernel_rfl, by kernel_rfl⟩

/-- (*clavier/host.Parser).Idle -/
def ir_hostParserIdle : ICode :=
 (.seq
  (.reg [⟨some 2, none, .mov (.c (.bool false))⟩] (some [0]))
  (.seq
   (.reg [⟨some 3, none, .mov (.t 0)⟩,
     ⟨some 4, none, .bin .eql .ptr (.t 3) (.c .nilp)⟩,
     ⟨some 5, none, .mov (.t 4)⟩,
     ⟨some 6, some (5, false), .mov (.t 0)⟩,
     ⟨some 7, some (5, false), .nck (.t 6)⟩,
     ⟨some 8, some (5, false), .fa 0 (.t 7)⟩,
     ⟨some 9, some (5, false), .ld none (.t 8)⟩,
     ⟨some 10, some (5, false), .bin .eql .func (.t 9) (.c .nilf)⟩,
     ⟨some 11, none, .pick (.t 5) (.c (.bool true)) (.t 10)⟩,
     ⟨some 2, none, .mov (.t 11)⟩] (some [2]))
   .ret))
theorem is_hostParserIdle : IrOf Tryd.prog 11 12 ir_hostParserIdle [.t 2] := ⟨_, Tryd.func11, rfl, by kernel_rfl, by kernel_rfl, by kernel_rfl⟩

/-- clavier/host.New -/
def ir_hostNew : ICode :=
 (.seq
  (.reg [⟨some 0, none, .mov (.c .nilp)⟩] (some []))
  (.seq
   (.reg [⟨some 1, none, .bld [.nilf, (.int .i64 0), (.int .u8 0), .nils, (.str []), (.int .u8 0), (.str []), .nils, .nils, (.bool false), (.bool false), (.bool false), .nils] []⟩,
     ⟨some 2, none, .box 43 (.t 1)⟩,
     ⟨some 0, none, .mov (.t 2)⟩] (some [0]))
   .ret))
theorem is_hostNew : IrOf Tryd.prog 8 3 ir_hostNew [.t 0] := ⟨_, Tryd.func8, rfl, by kernel_rfl, by kernel_rfl, by kernel_rfl⟩

/-- (*clavier/host.Parser).opened -/
def ir_hostParseropened : ICode :=
 (.seq
  (.reg [⟨some 4, none, .mov (.c .nilf)⟩] (some [0, 1]))
  (.seq
   (.seq
    (.reg [⟨some 5, none, .mov (.t 1)⟩] (some [0, 5]))
    (.blk 0
     (.seq
      (.reg [⟨some 7, none, .bin .eql .none (.t 5) (.c (.int .u8 91))⟩,
        ⟨some 6, none, .mov (.t 7)⟩] (some [0, 5, 6]))
      (.cond (.t 6)
       (.seq
        (.reg [⟨some 8, none, .mov (.t 0)⟩,
          ⟨some 9, none, .mov (.t 0)⟩,
          ⟨some 10, none, .nck (.t 8)⟩,
          ⟨some 11, none, .fa 1 (.t 10)⟩,
          ⟨some 12, none, .fa 0 (.t 11)⟩,
          ⟨none, none, .st 1 (.t 12) (.c (.int .i64 1))⟩,
          ⟨some 13, none, .nck (.t 9)⟩,
          ⟨some 14, none, .fa 9 (.t 13)⟩,
          ⟨none, none, .st 1 (.t 14) (.c (.bool true))⟩] (some []))
        (.seq
         (.reg [⟨some 4, none, .mov (.c (.fn (.func 35) [] []))⟩] (some [4]))
         .ret))
       (.seq
        (.reg [⟨some 16, none, .bin .eql .none (.t 5) (.c (.int .u8 80))⟩,
          ⟨some 15, none, .mov (.t 16)⟩] (some [0, 5, 15]))
        (.cond (.t 15)
         (.seq
          (.reg [⟨some 17, none, .mov (.t 0)⟩,
            ⟨some 18, none, .mov (.t 0)⟩,
            ⟨some 19, none, .nck (.t 17)⟩,
            ⟨some 20, none, .fa 1 (.t 19)⟩,
            ⟨some 21, none, .fa 0 (.t 20)⟩,
            ⟨none, none, .st 1 (.t 21) (.c (.int .i64 3))⟩,
            ⟨some 22, none, .nck (.t 18)⟩,
            ⟨some 23, none, .fa 9 (.t 22)⟩,
            ⟨none, none, .st 1 (.t 23) (.c (.bool true))⟩] (some []))
          (.seq
           (.reg [⟨some 4, none, .mov (.c (.fn (.func 35) [] []))⟩] (some [4]))
           .ret))
         (.seq
          (.reg [⟨some 25, none, .bin .eql .none (.t 5) (.c (.int .u8 93))⟩,
            ⟨some 24, none, .mov (.t 25)⟩] (some [0, 24]))
          (.cond (.t 24)
           (.seq
            (.reg [⟨some 26, none, .mov (.t 0)⟩,
              ⟨some 27, none, .mov (.t 0)⟩,
              ⟨some 28, none, .nck (.t 26)⟩,
              ⟨some 29, none, .fa 1 (.t 28)⟩,
              ⟨some 30, none, .fa 0 (.t 29)⟩,
              ⟨none, none, .st 1 (.t 30) (.c (.int .i64 4))⟩,
              ⟨some 31, none, .nck (.t 27)⟩,
              ⟨some 32, none, .fa 11 (.t 31)⟩,
              ⟨none, none, .st 1 (.t 32) (.c (.bool true))⟩] (some []))
            (.seq
             (.reg [⟨some 4, none, .mov (.c (.fn (.func 36) [] []))⟩] (some [4]))
             .ret))
           .skip))))))))
   (.seq
    (.reg [⟨some 33, none, .mov (.t 0)⟩,
      ⟨some 34, none, .nck (.t 33)⟩,
      ⟨some 35, none, .fa 11 (.t 34)⟩,
      ⟨none, none, .st 1 (.t 35) (.c (.bool true))⟩] (some [0]))
    (.seq
     (.reg [⟨some 36, none, .mov (.t 0)⟩,
       ⟨some 37, none, .nck (.t 36)⟩,
       ⟨some 38, none, .fa 10 (.t 37)⟩,
       ⟨none, none, .st 1 (.t 38) (.c (.bool true))⟩] (some []))
     (.seq
      (.reg [⟨some 4, none, .mov (.c (.fn (.func 37) [] []))⟩] (some [4]))
      .ret)))))
theorem is_hostParseropened : IrOf Tryd.prog 30 39 ir_hostParseropened [.t 4] := ⟨_, Tryd.func30, rfl, by kernel_rfl, by kernel_rfl, by kernel_rfl⟩

/-- (*clavier/host.Parser).unread -/
def ir_hostParserunread : ICode :=
 (.seq
  (.reg [⟨some 4, none, .mov (.c .nilf)⟩] (some []))
  (.seq
   (.reg [⟨some 4, none, .mov (.c (.fn (.func 37) [] []))⟩] (some [4]))
   .ret))
theorem is_hostParserunread : IrOf Tryd.prog 37 5 ir_hostParserunread [.t 4] := ⟨_, Tryd.func37, rfl, by kernel_rfl, by kernel_rfl, by kernel_rfl⟩


inductive Nx where
  | behind | head | inside | unread | ending
  deriving DecidableEq
def Nx.f : Nx → Nat
  | .behind => 20
  | .head => 35
  | .inside => 36
  | .unread => 37
  | .ending => 19
def nxv : Option Nx → AV
  | none => .nilf
  | some k => .fn (.func k.f) [] []
theorem nxv_one {k : Option Nx} : (nxv k).one = true := by cases k <;> rfl
theorem nxv_cells {k : Option Nx} : (nxv k).cells = [nxv k] := by cases k <;> rfl
theorem nxv_rn {f : Nat → Nm} {k : Option Nx} : Ab.rn f (nxv k) = nxv k := by cases k <;> rfl
theorem nxv_ok {m : Nat} {L T : List Nm} {k : Option Nx} : (nxv k).okIn m L T := by
  cases k with
  | none => trivial
  | some k => exact ⟨trivial, trivial⟩
theorem nxv_nil : nxv none = .nilf := rfl
attribute [go_sem] nxv_one nxv_cells

/-- Parameters as the program leaves them: nil, if there is none. -/
def pv (ps : List (List Int)) : AV := match ps with
  | [] => .nils
  | p :: l => parsV (p :: l)
theorem pv_le (ps : List (List Int)) : RepLe (pv ps) (parsV ps) := by
  cases ps with
  | nil => exact RepLe.nils 1
  | cons p l => exact RepLe.refl _
theorem pv_one (ps : List (List Int)) : (pv ps).one = true := by cases ps <;> rfl
theorem pv_cells (ps : List (List Int)) : (pv ps).cells = [pv ps] := by cases ps <;> rfl
theorem pv_strip (ps : List (List Int)) : (pv ps).strip = pv ps := by cases ps <;> rfl
theorem pv_closed (ps : List (List Int)) : (pv ps).closed = true := by cases ps <;> rfl
attribute [go_sem] pv_one pv_cells pv_strip pv_closed
/-- A sequence's cells as the program leaves them. -/
def Sq.r (s : Sq) : List AV := [.int .i64 s.k, .int .u8 s.pr, pv s.ps, .str s.it, .int .u8 s.fi, .str s.da]
theorem Sq.r_le (s : Sq) : RepLe (.agg s.r) (.agg s.c) := RepLe.agg ⟨.refl _, .refl _, pv_le _, .refl _, .refl _, .refl _, trivial⟩

/-- The parser's state. -/
structure Pp where
  nx : Option Nx
  k : Int
  pr : Int
  it : List UInt8
  fi : Int
  tx : List UInt8
  da : List UInt8
  f : Bool
  b : Bool
  r : Bool
  ou : List Sq
/-- With the names of its slices. -/
structure Ps where
  x : Pp
  tt : Option Nm
  dt : Option Nm
  ot : Option Nm
def Ps.c (s : Ps) : List AV := [nxv s.x.nx, .int .i64 s.x.k, .int .u8 s.x.pr, .nils, .str s.x.it, .int .u8 s.x.fi, .str [], sv s.tt 1 (bytesAV s.x.tx), sv s.dt 1 (bytesAV s.x.da), .bool s.x.f, .bool s.x.b, .bool s.x.r, sv s.ot 6 (s.x.ou.map Sq.r)]
def Ps.toks (s : Ps) : List Nm := s.tt.toList ++ s.dt.toList ++ s.ot.toList
def Ps.rn (f : Nat → Nm) (s : Ps) : Ps := ⟨s.x, s.tt.map (rnN f), s.dt.map (rnN f), s.ot.map (rnN f)⟩
structure Ps.ok (s : Ps) : Prop where
  nd : s.toks.Nodup
  t : s.tt = none → s.x.tx = []
  d : s.dt = none → s.x.da = []
  o : s.ot = none → s.x.ou = []
theorem sv_rn {f : Nat → Nm} {t : Option Nm} {sz : Nat} {rows : List (List AV)} : Ab.rn f (sv t sz rows) = sv (t.map (rnN f)) sz rows := by cases t <;> rfl
theorem Ps.c_rn {f : Nat → Nm} {s : Ps} : rnHB f (.cells s.c) = .cells (s.rn f).c := by
  simp only [rnHB, Ps.c, rnL, sv_rn, nxv_rn, Ab.rn, Ps.rn]
theorem Ps.toks_rn {f : Nat → Nm} {s : Ps} : (s.rn f).toks = s.toks.map (rnN f) := by
  simp only [Ps.toks, Ps.rn, List.map_append]
  cases s.tt <;> cases s.dt <;> cases s.ot <;> rfl
theorem sv_ok {m : Nat} {L T : List Nm} {t : Option Nm} {sz : Nat} {rows : List (List AV)} (h : ∀ x ∈ t.toList, nmOK m T x) : (sv t sz rows).okIn m L T := by
  cases t with
  | none => trivial
  | some t => exact h t (by simp)
theorem Ps.okc {m : Nat} {L T : List Nm} {s : Ps} (h : ∀ t ∈ s.toks, nmOK m T t) : HB.okIn m L T (.cells s.c) := by
  simp only [Ps.toks, List.mem_append] at h
  exact ⟨nxv_ok, trivial, trivial, trivial, trivial, trivial, trivial, sv_ok fun x hx => h x (.inl (.inl hx)), sv_ok fun x hx => h x (.inl (.inr hx)), trivial, trivial, trivial, sv_ok fun x hx => h x (.inr hx), trivial⟩
theorem real_rn {f : Nat → Nm} {n : Nm} (h : 1 ≤ n.1) : rnN f n = n := by unfold rnN; rw [if_neg]; omega
theorem real_ok {m : Nat} {L : List Nm} {n : Nm} (h : 1 ≤ n.1) (hL : n ∈ L) : nmOK m L n := by unfold nmOK; rw [if_neg (by omega)]; exact hL

/-- What a method leaves of the parser's state, and answers. -/
def PR (p : Nm) (T0 : List Nm) (y : AV) (x : Pp) : AV → Hp → List Nm → Prop := fun r H T =>
  ∃ s : Ps, s.x = x ∧ s.ok ∧ r = y ∧ H = [(p, .cells s.c)] ∧ T = s.toks ∧ ∀ t ∈ s.toks, t ∈ T0 ∨ (t.1 = 0 ∧ t.2.1 = 0)

theorem idx_of {l : List Nm} {t : Nm} : t ∈ l → ∃ j, j < l.length ∧ l.getD j (0, 0, 0) = t := fun h => by
  obtain ⟨j, hj, e⟩ := List.getElem_of_mem h
  exact ⟨j, hj, by rw [List.getD_eq_getElem?_getD, List.getElem?_eq_getElem hj]; exact e⟩

/-- The names of a state, told as a caller may take them. -/
theorem Ps.told {us : List Nm} {T0 : List Nm} (hT0 : ∀ t ∈ T0, 1 ≤ t.1) (s : Ps) (h : ∀ t ∈ s.toks, t ∈ T0 ∨ t ∈ us) (hok : s.ok) :
    ∃ s' : Ps, s'.x = s.x ∧ s'.ok ∧ s'.rn (fun j => us.getD j (0, 0, 0)) = s ∧ ∀ t ∈ s'.toks, t ∈ T0 ∨ (t.1 = 0 ∧ t.2.1 = 0 ∧ t.2.2 < us.length) := by
  have one : ∀ t : Nm, t ∈ T0 ∨ t ∈ us → ∃ t' : Nm, rnN (fun j => us.getD j (0, 0, 0)) t' = t ∧ (t' ∈ T0 ∨ (t'.1 = 0 ∧ t'.2.1 = 0 ∧ t'.2.2 < us.length)) := fun t ht => by
    rcases ht with ht | ht
    · exact ⟨t, real_rn (hT0 t ht), .inl ht⟩
    · obtain ⟨j, hj, e⟩ := idx_of ht
      exact ⟨(0, 0, j), by simp only [rnN, and_self, if_true]; exact e, .inr ⟨rfl, rfl, hj⟩⟩
  have opt : ∀ o : Option Nm, (∀ t ∈ o.toList, t ∈ T0 ∨ t ∈ us) → ∃ o' : Option Nm, o'.map (rnN fun j => us.getD j (0, 0, 0)) = o ∧ ∀ t ∈ o'.toList, t ∈ T0 ∨ (t.1 = 0 ∧ t.2.1 = 0 ∧ t.2.2 < us.length) := fun o ho => by
    cases o with
    | none => exact ⟨none, rfl, by simp⟩
    | some t =>
      obtain ⟨t', h1, h2⟩ := one t (ho t (by simp))
      exact ⟨some t', by rw [Option.map_some, h1], by simpa using h2⟩
  simp only [Ps.toks, List.mem_append] at h
  obtain ⟨a, a1, a2⟩ := opt s.tt fun t ht => h t (.inl (.inl ht))
  obtain ⟨b, b1, b2⟩ := opt s.dt fun t ht => h t (.inl (.inr ht))
  obtain ⟨c, c1, c2⟩ := opt s.ot fun t ht => h t (.inr ht)
  have e : (⟨s.x, a, b, c⟩ : Ps).rn (fun j => us.getD j (0, 0, 0)) = s := by
    simp only [Ps.rn, a1, b1, c1]
  refine ⟨⟨s.x, a, b, c⟩, rfl, ⟨?_, fun h => hok.t ?_, fun h => hok.d ?_, fun h => hok.o ?_⟩, e, fun t ht => ?_⟩
  · have := hok.nd
    rw [← e, Ps.toks_rn] at this
    exact (List.pairwise_map.1 this).imp fun h e => h (congrArg _ e)
  · rw [← a1, show a = none from h]; rfl
  · rw [← b1, show b = none from h]; rfl
  · rw [← c1, show c = none from h]; rfl
  · simp only [Ps.toks, List.mem_append] at ht
    rcases ht with (ht | ht) | ht
    · exact a2 t ht
    · exact b2 t ht
    · exact c2 t ht

/-- A method's end. -/
theorem PR.ret {rs : List IRes} {p : Nm} {hb : HB} {T0 : List Nm} {y : AV} {γ : Nat} {s : St} (s' : Ps) (h : resOf s rs = some y) (hy : ∀ f, Ab.rn f y = y) (oy : ∀ m L T, AV.okIn m L T y) (hp : 1 ≤ p.1) (hT0 : ∀ t ∈ T0, 1 ≤ t.1) (hH : (p, .cells s'.c) ∈ s.H) (hok : s'.ok)
    (hT : ∀ t ∈ s'.toks, s.T t ∧ (t ∈ T0 ∨ γ ≤ t.1)) : ∃ r H1 T1, PR p T0 y s'.x r H1 T1 ∧ Ret rs [(p, hb)] T0 r H1 T1 γ s := by
  obtain ⟨us, hus⟩ : ∃ us, us = s'.toks.filter fun t => !T0.contains t := ⟨_, rfl⟩
  obtain ⟨q, q1, q2, q3, q4⟩ := Ps.told (us := us) hT0 s' (fun t ht => by
    by_cases h : t ∈ T0
    · exact .inl h
    · exact .inr (by rw [hus]; simp [ht, h])) hok
  refine ⟨y, [(p, .cells q.c)], q.toks, ⟨q, q1, q2, rfl, rfl, rfl, fun t ht => (q4 t ht).imp id fun h => ⟨h.1, h.2.1⟩⟩, us, by rw [hus]; exact hok.nd.filter _, fun n hn => ?_, by rw [hy]; exact h, fun n hn => ?_, fun t ht => ?_, oy _ _ _, fun n hn => ?_, fun t ht => ?_⟩
  · rw [hus] at hn
    obtain ⟨h1, h2⟩ := List.mem_filter.1 hn
    rcases (hT n h1).2 with h3 | h3
    · simp [h3] at h2
    · exact h3
  · simp only [rnH, List.map_cons, List.map_nil, List.mem_singleton] at hn
    subst hn
    rw [real_rn hp, Ps.c_rn, q3]
    exact hH
  · have : rnN (fun j => us.getD j (0, 0, 0)) t ∈ s'.toks := by
      rw [← q3, Ps.toks_rn]; exact List.mem_map.2 ⟨t, ht, rfl⟩
    exact (hT _ this).1
  · simp only [List.mem_singleton] at hn
    subst hn
    refine ⟨real_ok hp (by simp), Ps.okc fun t ht => ?_⟩
    rcases q4 t ht with h | ⟨h1, h2, h3⟩
    · exact real_ok (hT0 t h) h
    · unfold nmOK; rw [if_pos ⟨h1, h2⟩]; exact h3
  · rcases q4 t ht with h | ⟨h1, h2, h3⟩
    · exact real_ok (hT0 t h) h
    · unfold nmOK; rw [if_pos ⟨h1, h2⟩]; exact h3

/-- A call of a method: behind it the state is as the contract says. -/
theorem PR.callI {Gl : Gh → Prop} {k : FuncId} {p : Nm} {args : List AV} {Ha : Hp} {s : Ps} {y : AV} {x : Pp} {T : Tk} {γ i : Nat} {K : AV → Hp → Tk → Prop} (h : FSR Tryd.prog Gl k args [(p, .cells s.c)] s.toks (PR p s.toks y x)) (hp : 1 ≤ p.1) (hy : ∀ f, Ab.rn f y = y) (hγ : 1 ≤ γ)
    (hT : ∀ t ∈ s.toks, T t) (hr : ∀ t ∈ s.toks, 1 ≤ t.1 ∧ ∀ j, t ≠ (γ, i, j)) (hap : ∀ q ∈ Ha, p ≠ q.1)
    (hK : ∀ s' : Ps, s'.x = x → s'.ok → (∀ t ∈ s'.toks, 1 ≤ t.1 ∧ (t ∈ s.toks ∨ (t.1 = γ ∧ t.2.1 = i))) → K y (Ha ++ [(p, .cells s'.c)]) (· ∈ s'.toks)) : CallP Tryd.prog Gl k args (Ha ++ [(p, .cells s.c)]) T (fun j => (γ, i, j)) K := by
  refine ⟨_, _, _, h, fun _ h => List.mem_append.2 (.inr h), hT, ?_⟩
  rintro r H1 T1 ⟨s', rfl, hok, rfl, rfl, rfl, ht⟩
  have hf : ∀ t ∈ s'.toks, (t ∈ s.toks ∧ rnN (fun j => (γ, i, j)) t = t) ∨ (t.1 = 0 ∧ t.2.1 = 0 ∧ rnN (fun j => (γ, i, j)) t = (γ, i, t.2.2)) := fun t h => by
    rcases ht t h with h | ⟨h1, h2⟩
    · exact .inl ⟨h, real_rn (hr t h).1⟩
    · exact .inr ⟨h1, h2, by simp only [rnN]; rw [if_pos ⟨h1, h2⟩]⟩
  have hmem : ∀ t ∈ (s'.rn fun j => (γ, i, j)).toks, 1 ≤ t.1 ∧ (t ∈ s.toks ∨ (t.1 = γ ∧ t.2.1 = i)) := fun t h => by
    rw [Ps.toks_rn] at h
    obtain ⟨u, hu, rfl⟩ := List.mem_map.1 h
    rcases hf u hu with ⟨h1, h2⟩ | ⟨h1, h2, h3⟩
    · rw [h2]; exact ⟨(hr u h1).1, .inl h1⟩
    · rw [h3]; exact ⟨hγ, .inr ⟨rfl, rfl⟩⟩
  refine ⟨Ha ++ [(p, .cells (s'.rn fun j => (γ, i, j)).c)], (· ∈ (s'.rn fun j => (γ, i, j)).toks), fun q hq => ?_, fun t h => .inl (by rw [Ps.toks_rn] at h; exact h), ?_⟩
  · rcases List.mem_append.1 hq with hq | hq
    · exact List.mem_append.2 (.inr (keep_ahead (fun q hq u hu => by simp only [List.mem_singleton] at hu; subst hu; exact hap q hq) q hq))
    · refine List.mem_append.2 (.inl ?_)
      simp only [rnH, List.map_cons, List.map_nil, real_rn hp, Ps.c_rn]
      exact hq
  · rw [hy]
    refine hK _ rfl ⟨?_, fun h => hok.t ?_, fun h => hok.d ?_, fun h => hok.o ?_⟩ hmem
    · rw [Ps.toks_rn]
      refine List.pairwise_map.2 (hok.nd.imp_of_mem fun {a b} ha hb hne e => ?_)
      rcases hf a ha with ⟨a1, a2⟩ | ⟨a1, a2, a3⟩ <;> rcases hf b hb with ⟨b1, b2⟩ | ⟨b1, b2, b3⟩
      · rw [a2, b2] at e; exact hne e
      · rw [a2, b3] at e; exact (hr a a1).2 _ e
      · rw [a3, b2] at e; exact (hr b b1).2 _ e.symm
      · rw [a3, b3] at e
        simp only [Prod.mk.injEq, true_and] at e
        exact hne (Prod.ext (a1.trans b1.symm) (Prod.ext (a2.trans b2.symm) e))
    · simpa [Ps.rn] using h
    · simpa [Ps.rn] using h
    · simpa [Ps.rn] using h

theorem PR.callA {Gl : Gh → Prop} {k : FuncId} {p : Nm} {args : List AV} {Ha : Hp} {s : Ps} {y : AV} {x : Pp} {T : Tk} {γ i : Nat} {K : AV → Hp → Tk → Prop} (h : FSR Tryd.prog Gl k args [(p, .cells s.c)] s.toks (PR p s.toks y x)) (hp : 1 ≤ p.1) (hy : ∀ f, Ab.rn f y = y) (hγ : 1 ≤ γ)
    (hT : ∀ t ∈ s.toks, T t) (hr : ∀ t ∈ s.toks, 1 ≤ t.1 ∧ ∀ j, t ≠ (γ, i, j)) (hap : ∀ q ∈ Ha, p ≠ q.1)
    (hK : ∀ s' : Ps, s'.x = x → s'.ok → (∀ t ∈ s'.toks, 1 ≤ t.1 ∧ (t ∈ s.toks ∨ t.1 = γ)) → K y (Ha ++ [(p, .cells s'.c)]) (· ∈ s'.toks)) : CallP Tryd.prog Gl k args (Ha ++ [(p, .cells s.c)]) T (fun j => (γ, i, j)) K :=
  PR.callI h hp hy hγ hT hr hap fun s' a b c => hK s' a b fun t h => ⟨(c t h).1, (c t h).2.imp _root_.id And.left⟩
theorem PR.call {Gl : Gh → Prop} {k : FuncId} {p : Nm} {args : List AV} {s : Ps} {y : AV} {x : Pp} {T : Tk} {γ i : Nat} {K : AV → Hp → Tk → Prop} (h : FSR Tryd.prog Gl k args [(p, .cells s.c)] s.toks (PR p s.toks y x)) (hp : 1 ≤ p.1) (hy : ∀ f, Ab.rn f y = y) (hγ : 1 ≤ γ)
    (hT : ∀ t ∈ s.toks, T t) (hr : ∀ t ∈ s.toks, 1 ≤ t.1 ∧ ∀ j, t ≠ (γ, i, j))
    (hK : ∀ s' : Ps, s'.x = x → s'.ok → (∀ t ∈ s'.toks, 1 ≤ t.1 ∧ (t ∈ s.toks ∨ t.1 = γ)) → K y [(p, .cells s'.c)] (· ∈ s'.toks)) : CallP Tryd.prog Gl k args [(p, .cells s.c)] T (fun j => (γ, i, j)) K :=
  PR.callA (Ha := []) h hp hy hγ hT hr (by simp) hK

def Pp.zero : Pp := ⟨none, 0, 0, [], 0, [], [], false, false, false, []⟩
def Pp.drop (x : Pp) : Pp := { Pp.zero with ou := x.ou }
theorem fs_drop {Gl : Gh → Prop} (hst : Stays Gl) {p : Nm} (hp : 1 ≤ p.1) {s : Ps} (hok : s.ok) (ht : ∀ t ∈ s.toks, 1 ≤ t.1) : FSR Tryd.prog Gl 18 [.ptr p 0] [(p, .cells s.c)] s.toks (PR p s.toks (.tup []) s.x.drop) := by
  refine FSR.of hm hst is_hostParserdrop (by simp) fun γ hγ hfr => ?_
  (generalize hQ : (fun (ex : Ex) (_ _ : Nat) (s : St) => _) = Q; unfold ir_hostParserdrop)
  simp only [Ps.c]
  simp +contextual (maxSteps := 1000000) only [go_sem, reduceCtorEq, ↓reduceIte, Nat.reduceAdd, Nat.reduceEqDiff, Nat.reduceLeDiff, Nat.reduceMul, Nat.reduceBEq, Int.reduceBEq, Int.reduceBNe, Int.reduceLT, Int.reduceLE, Int.reduceGT, Int.reduceGE, Int.reduceToNat, Int.natCast_one, Int.natCast_zero, Int.cast_ofNat_Int]
  rw [← hQ]
  refine ⟨trivial, PR.ret ⟨s.x.drop, none, none, s.ot⟩ rfl (fun _ => rfl) (fun _ _ _ => trivial) hp ht (by simp [Ps.c, Pp.drop, Pp.zero, sv, nxv, bytesAV]) ⟨?_, fun _ => rfl, fun _ => rfl, hok.o⟩ fun t htt => ?_⟩
  · have := hok.nd; simp only [Ps.toks, Option.toList_none, List.nil_append] at this ⊢
    exact (List.nodup_append.1 this).2.1
  · have : t ∈ s.toks := by
      simp only [Ps.toks, Option.toList_none, List.nil_append, List.mem_append] at htt ⊢
      exact .inr htt
    exact ⟨this, .inl this⟩
end Go.Proofs.YtgdgfefojfgpaaaDoor

/- The parser of layer 5: small methods. -/
set_option linter.unusedVariables false
set_option linter.unusedSimpArgs false
set_option maxRecDepth 100000
namespace Go.Proofs.YtgdgfefojfgpaaaDoor
open Go Go.Ab
/-- (*clavier/host.Parser).inter -/
def ir_hostParserinter : ICode :=
 (.seq
  (.reg [⟨some 4, none, .mov (.t 0)⟩,
    ⟨some 5, none, .mov (.t 0)⟩,
    ⟨some 6, none, .nck (.t 5)⟩,
    ⟨some 7, none, .fa 10 (.t 6)⟩,
    ⟨some 8, none, .ld none (.t 7)⟩,
    ⟨some 9, none, .mov (.t 8)⟩,
    ⟨some 10, some (9, false), .mov (.t 0)⟩,
    ⟨some 11, some (9, false), .nck (.t 10)⟩,
    ⟨some 12, some (9, false), .fa 1 (.t 11)⟩,
    ⟨some 13, some (9, false), .fa 3 (.t 12)⟩,
    ⟨some 14, some (9, false), .ld none (.t 13)⟩,
    ⟨some 15, some (9, false), .lns (.t 14)⟩,
    ⟨some 16, some (9, false), .bin .eql .none (.t 15) (.c (.int .i64 2))⟩,
    ⟨some 17, none, .pick (.t 9) (.c (.bool true)) (.t 16)⟩,
    ⟨some 18, none, .nck (.t 4)⟩,
    ⟨some 19, none, .fa 10 (.t 18)⟩,
    ⟨none, none, .st 1 (.t 19) (.t 17)⟩] (some [0, 1]))
  (.seq
   (.reg [⟨some 20, none, .mov (.t 0)⟩,
     ⟨some 21, none, .nck (.t 20)⟩,
     ⟨some 22, none, .fa 10 (.t 21)⟩,
     ⟨some 23, none, .ld none (.t 22)⟩,
     ⟨some 24, none, .un .not (.t 23)⟩] (some [0, 1, 24]))
   (.cond (.t 24)
    (.drw [⟨⟨some 25, none, .mov (.t 0)⟩, []⟩,
      ⟨⟨some 26, none, .nck (.t 25)⟩, [0]⟩,
      ⟨⟨some 27, none, .fa 1 (.t 26)⟩, [1]⟩,
      ⟨⟨some 28, none, .fa 3 (.t 27)⟩, [2]⟩,
      ⟨⟨some 29, none, .ld none (.t 28)⟩, [3]⟩,
      ⟨⟨some 30, none, .mov (.t 1)⟩, []⟩,
      ⟨⟨some 31, none, .row 5 1 [(.t 30)]⟩, [5]⟩,
      ⟨⟨some 32, none, .b2s (.t 31)⟩, [6]⟩,
      ⟨⟨some 33, none, .bin .add .none (.t 29) (.t 32)⟩, [4, 7]⟩]
      [⟨some 34, none, .nck (.t 25)⟩,
      ⟨some 35, none, .fa 1 (.t 34)⟩,
      ⟨some 36, none, .fa 3 (.t 35)⟩,
      ⟨none, none, .st 1 (.t 36) (.t 33)⟩] (some []))
    .skip)))
theorem is_hostParserinter : IrOf Tryd.prog 28 37 ir_hostParserinter [] := ⟨_, Tryd.func28, rfl, by kernel_rfl, by kernel_rfl, by kernel_rfl⟩


/-- The method's end, where no name is new. -/
theorem PR.same {rs : List IRes} {p : Nm} {hb : HB} {y : AV} {γ : Nat} {s : St} {q : Ps} (x' : Pp) (h : resOf s rs = some y) (hy : ∀ f, Ab.rn f y = y) (oy : ∀ m L T, AV.okIn m L T y) (hp : 1 ≤ p.1) (hq : q.ok) (ht : ∀ t ∈ q.toks, 1 ≤ t.1) (hH : (p, .cells (⟨x', q.tt, q.dt, q.ot⟩ : Ps).c) ∈ s.H)
    (h1 : x'.tx = q.x.tx) (h2 : x'.da = q.x.da) (h3 : x'.ou = q.x.ou) (hT : ∀ t ∈ q.toks, s.T t) : ∃ r H1 T1, PR p q.toks y x' r H1 T1 ∧ Ret rs [(p, hb)] q.toks r H1 T1 γ s :=
  PR.ret (⟨x', q.tt, q.dt, q.ot⟩ : Ps) h hy oy hp ht hH ⟨hq.nd, fun h => h1.trans (hq.t h), fun h => h2.trans (hq.d h), fun h => h3.trans (hq.o h)⟩ fun t h => ⟨hT t h, .inl h⟩

def Pp.opened (s : Pp) (c : Int) : Option Nx × Pp :=
  if c = 91 then (some .head, { s with k := 1, f := true })
  else if c = 80 then (some .head, { s with k := 3, f := true })
  else if c = 93 then (some .inside, { s with k := 4, r := true })
  else (some .unread, { s with r := true, b := true })

theorem fs_opened {Gl : Gh → Prop} (hst : Stays Gl) {p : Nm} (hp : 1 ≤ p.1) {s : Ps} (hok : s.ok) (ht : ∀ t ∈ s.toks, 1 ≤ t.1) {c : Int} : FSR Tryd.prog Gl 30 [.ptr p 0, .int .u8 c] [(p, .cells s.c)] s.toks (PR p s.toks (nxv (s.x.opened c).1) (s.x.opened c).2) := by
  refine FSR.of hm hst is_hostParseropened (by simp) fun γ hγ hfr => ?_
  (generalize hQ : (fun (ex : Ex) (_ _ : Nat) (s : St) => _) = Q; unfold ir_hostParseropened)
  simp only [Ps.c]
  (simp +contextual (maxSteps := 1000000) only [go_sem, reduceCtorEq, ↓reduceIte, Nat.reduceAdd, Nat.reduceEqDiff, Nat.reduceLeDiff, Nat.reduceMul, Nat.reduceBEq, Int.reduceBEq, Int.reduceBNe, Int.reduceLT, Int.reduceLE, Int.reduceGT, Int.reduceGE, Int.reduceToNat, Int.natCast_one, Int.natCast_zero, Int.cast_ofNat_Int]; repeat' first | ((first | refine kCond_split (fun hg => ?_) (fun hg => ?_) | refine kGc_split (fun hg => ?_) (fun hg => ?_) | refine kPreG_split (fun hg => ?_) (fun hg => ?_)) <;> (try rw [hg]) <;> simp +contextual (maxSteps := 1000000) only [go_sem, reduceCtorEq, ↓reduceIte, Nat.reduceAdd, Nat.reduceEqDiff, Nat.reduceLeDiff, Nat.reduceMul, Nat.reduceBEq, Int.reduceBEq, Int.reduceBNe, Int.reduceLT, Int.reduceLE, Int.reduceGT, Int.reduceGE, Int.reduceToNat, Int.natCast_one, Int.natCast_zero, Int.cast_ofNat_Int]) | refine And.intro (by omega) ?_)
  all_goals rw [← hQ]
  all_goals simp only [beq_iff_eq, beq_eq_false_iff_ne, ne_eq] at *
  · have e : s.x.opened c = (some .head, { s.x with k := 1, f := true }) := by (unfold Pp.opened; repeat' split) <;> first | rfl | (exfalso; omega)
    rw [e]
    exact ⟨trivial, PR.same _ rfl (fun _ => nxv_rn) (fun _ _ _ => nxv_ok) hp hok ht (by simp [Ps.c, nxv, Nx.f]) rfl rfl rfl fun _ h => h⟩
  · have e : s.x.opened c = (some .head, { s.x with k := 3, f := true }) := by (unfold Pp.opened; repeat' split) <;> first | rfl | (exfalso; omega)
    rw [e]
    exact ⟨trivial, PR.same _ rfl (fun _ => nxv_rn) (fun _ _ _ => nxv_ok) hp hok ht (by simp [Ps.c, nxv, Nx.f]) rfl rfl rfl fun _ h => h⟩
  · have e : s.x.opened c = (some .inside, { s.x with k := 4, r := true }) := by (unfold Pp.opened; repeat' split) <;> first | rfl | (exfalso; omega)
    rw [e]
    exact ⟨trivial, PR.same _ rfl (fun _ => nxv_rn) (fun _ _ _ => nxv_ok) hp hok ht (by simp [Ps.c, nxv, Nx.f]) rfl rfl rfl fun _ h => h⟩
  · have e : s.x.opened c = (some .unread, { s.x with r := true, b := true }) := by (unfold Pp.opened; repeat' split) <;> first | rfl | (exfalso; omega)
    rw [e]
    exact ⟨trivial, PR.same _ rfl (fun _ => nxv_rn) (fun _ _ _ => nxv_ok) hp hok ht (by simp [Ps.c, nxv, Nx.f]) rfl rfl rfl fun _ h => h⟩

theorem fs_unread {Gl : Gh → Prop} (hst : Stays Gl) {p : Nm} (hp : 1 ≤ p.1) {s : Ps} (hok : s.ok) (ht : ∀ t ∈ s.toks, 1 ≤ t.1) {c : Int} : FSR Tryd.prog Gl 37 [.ptr p 0, .int .u8 c] [(p, .cells s.c)] s.toks (PR p s.toks (nxv (some .unread)) s.x) := by
  refine FSR.of hm hst is_hostParserunread (by simp) fun γ hγ hfr => ?_
  (generalize hQ : (fun (ex : Ex) (_ _ : Nat) (s : St) => _) = Q; unfold ir_hostParserunread)
  simp +contextual (maxSteps := 1000000) only [go_sem, reduceCtorEq, ↓reduceIte, Nat.reduceAdd, Nat.reduceEqDiff, Nat.reduceLeDiff, Nat.reduceMul, Nat.reduceBEq, Int.reduceBEq, Int.reduceBNe, Int.reduceLT, Int.reduceLE, Int.reduceGT, Int.reduceGE, Int.reduceToNat, Int.natCast_one, Int.natCast_zero, Int.cast_ofNat_Int]
  rw [← hQ]
  exact ⟨trivial, PR.same _ rfl (fun _ => nxv_rn) (fun _ _ _ => nxv_ok) hp hok ht (by simp) rfl rfl rfl fun _ h => h⟩

def Pp.inter (s : Pp) (c : UInt8) : Pp :=
  { s with b := s.b || ((s.it.length : Int) == 2), it := if (s.b || ((s.it.length : Int) == 2)) = true then s.it else s.it ++ [c] }
theorem unbyte_byte (c : UInt8) : unbyte [AV.int .u8 (c.toNat : Int)] = c := by
  simp [unbyte]
theorem fs_inter {Gl : Gh → Prop} (hst : Stays Gl) {p : Nm} (hp : 1 ≤ p.1) {s : Ps} (hok : s.ok) (ht : ∀ t ∈ s.toks, 1 ≤ t.1) {c : UInt8} (hl : s.x.it.length < 4611686018427387904) : FSR Tryd.prog Gl 28 [.ptr p 0, .int .u8 (c.toNat : Int)] [(p, .cells s.c)] s.toks (PR p s.toks (.tup []) (s.x.inter c)) := by
  refine FSR.of hm hst is_hostParserinter (by simp) fun γ hγ hfr => ?_
  (generalize hQ : (fun (ex : Ex) (_ _ : Nat) (s : St) => _) = Q; unfold ir_hostParserinter)
  simp only [Ps.c]
  simp +contextual (maxSteps := 1000000) only [go_sem, reduceCtorEq, ↓reduceIte, Nat.reduceAdd, Nat.reduceEqDiff, Nat.reduceLeDiff, Nat.reduceMul, Nat.reduceBEq, Int.reduceBEq, Int.reduceBNe, Int.reduceLT, Int.reduceLE, Int.reduceGT, Int.reduceGE, Int.reduceToNat, Int.natCast_one, Int.natCast_zero, Int.cast_ofNat_Int]
  cases hb : (s.x.b || (s.x.it.length : Int) == 2) with
  | true =>
    simp +contextual (maxSteps := 1000000) only [go_sem, reduceCtorEq, ↓reduceIte, Nat.reduceAdd, Nat.reduceEqDiff, Nat.reduceLeDiff, Nat.reduceMul, Nat.reduceBEq, Int.reduceBEq, Int.reduceBNe, Int.reduceLT, Int.reduceLE, Int.reduceGT, Int.reduceGE, Int.reduceToNat, Int.natCast_one, Int.natCast_zero, Int.cast_ofNat_Int]
    rw [← hQ]
    have e : s.x.inter c = { s.x with b := true } := by simp only [Pp.inter, hb, if_true]
    rw [e]
    exact ⟨trivial, PR.same _ rfl (fun _ => rfl) (fun _ _ _ => trivial) hp hok ht (by simp [Ps.c]) rfl rfl rfl fun _ h => h⟩
  | false =>
    have hm9 : (s.x.it.length ≤ 9223372036854775806) = True := by simp; omega
    simp +contextual (maxSteps := 1000000) only [unbyte_byte, hm9, go_sem, reduceCtorEq, ↓reduceIte, Nat.reduceAdd, Nat.reduceEqDiff, Nat.reduceLeDiff, Nat.reduceMul, Nat.reduceBEq, Int.reduceBEq, Int.reduceBNe, Int.reduceLT, Int.reduceLE, Int.reduceGT, Int.reduceGE, Int.reduceToNat, Int.natCast_one, Int.natCast_zero, Int.cast_ofNat_Int]
    rw [← hQ]
    have e : s.x.inter c = { s.x with b := false, it := s.x.it ++ [c] } := by simp only [Pp.inter, hb, if_false, Bool.false_eq_true]
    rw [e]
    exact ⟨trivial, PR.same _ rfl (fun _ => rfl) (fun _ _ _ => trivial) hp hok ht (by simp [Ps.c]) rfl rfl rfl fun _ h => by simp [h]⟩
end Go.Proofs.YtgdgfefojfgpaaaDoor

/- The parser of layer 5: what was begun is told. -/
set_option linter.unusedVariables false
set_option linter.unusedSimpArgs false
set_option maxRecDepth 100000
namespace Go.Proofs.YtgdgfefojfgpaaaDoor
open Go Go.Ab
/- (*clavier/host.Parser).tell -/
def ir_hostParsertell_b0 : ICode :=
 (.blk 1
           (.drw [⟨⟨some 25, none, .fa 2 (.t 2)⟩, []⟩,
             ⟨⟨some 26, none, .ld none (.t 25)⟩, [0]⟩,
             ⟨⟨some 27, none, .mov (.t 4)⟩, []⟩,
             ⟨⟨some 28, none, .call (.c (.fn (.func 32) [] [])) [(.t 27)]⟩, [2]⟩,
             ⟨⟨some 29, none, .row 39 1 [(.t 28)]⟩, [3]⟩,
             ⟨⟨some 30, none, .app 39 1 24 (.t 26) (.t 29)⟩, [1, 4, 3]⟩]
             [⟨some 31, none, .fa 2 (.t 2)⟩,
             ⟨none, none, .st 1 (.t 31) (.t 30)⟩] (some [])))
def ir_hostParsertell_t3 : ICode :=
 (.seq
  (.seq
      (.reg [⟨some 32, none, .mov (.t 0)⟩,
        ⟨some 33, none, .nck (.t 32)⟩,
        ⟨some 34, none, .fa 10 (.t 33)⟩,
        ⟨some 35, none, .ld none (.t 34)⟩,
        ⟨some 36, none, .un .not (.t 35)⟩,
        ⟨some 37, none, .mov (.t 36)⟩,
        ⟨some 38, some (37, true), .ld (some 6) (.t 2)⟩,
        ⟨some 39, some (37, true), .call (.c (.fn (.func 33) [] [])) [(.t 38)]⟩,
        ⟨some 40, some (37, true), .bin .eql .none (.t 39) (.c (.int .i64 0))⟩,
        ⟨some 41, none, .pick (.t 37) (.t 40) (.c (.bool false))⟩] (some [0, 2, 41]))
      (.cond (.t 41)
       (.drw [⟨⟨some 42, none, .mov (.t 0)⟩, []⟩,
         ⟨⟨some 43, none, .mov (.t 0)⟩, []⟩,
         ⟨⟨some 44, none, .nck (.t 43)⟩, [1]⟩,
         ⟨⟨some 45, none, .fa 12 (.t 44)⟩, [2]⟩,
         ⟨⟨some 46, none, .ld none (.t 45)⟩, [3]⟩,
         ⟨⟨some 47, none, .ld (some 6) (.t 2)⟩, []⟩,
         ⟨⟨some 48, none, .row 32 6 [(.t 47)]⟩, [5]⟩,
         ⟨⟨some 49, none, .app 32 6 80 (.t 46) (.t 48)⟩, [4, 6]⟩]
         [⟨some 50, none, .nck (.t 42)⟩,
         ⟨some 51, none, .fa 12 (.t 50)⟩,
         ⟨none, none, .st 1 (.t 51) (.t 49)⟩] (some [0]))
       .skip))
  (.reg [⟨some 52, none, .mov (.t 0)⟩,
       ⟨some 53, none, .call (.c (.fn (.func 18) [] [])) [(.t 52)]⟩] (some [])))
def ir_hostParsertell_t2 : ICode :=
 (.seq
  (.seq
     (.reg [⟨some 15, none, .mov (.t 0)⟩,
       ⟨some 16, none, .nck (.t 15)⟩,
       ⟨some 17, none, .fa 7 (.t 16)⟩,
       ⟨some 18, none, .ld none (.t 17)⟩,
       ⟨some 19, none, .b2s (.t 18)⟩,
       ⟨some 3, none, .mov (.t 19)⟩] (some [0, 2, 3]))
     (.seq
      (.reg [⟨some 20, none, .mov (.t 3)⟩,
        ⟨some 21, none, .bin .neq .none (.t 20) (.c (.str []))⟩] (some [0, 2, 3, 21]))
      (.cond (.t 21)
       (.seq
        (.reg [⟨some 22, none, .mov (.t 3)⟩,
          ⟨some 23, none, .call (.c (.fn (.func 31) [] [])) [(.t 22), (.c (.str [59]))]⟩] (some [0, 2, 23]))
        (.blk 0
         (.rgf (.t 23) [24]
          (.reg [⟨some 4, none, .mov (.t 24)⟩] (some [2, 4]))
          ir_hostParsertell_b0)))
       .skip)))
  ir_hostParsertell_t3)
def ir_hostParsertell_t1 : ICode :=
 (.seq
  (.reg [⟨some 9, none, .mov (.t 0)⟩,
     ⟨some 10, none, .nck (.t 9)⟩,
     ⟨some 11, none, .fa 8 (.t 10)⟩,
     ⟨some 12, none, .ld none (.t 11)⟩,
     ⟨some 13, none, .b2s (.t 12)⟩,
     ⟨some 14, none, .fa 5 (.t 2)⟩,
     ⟨none, none, .st 1 (.t 14) (.t 13)⟩] (some [0, 2]))
  ir_hostParsertell_t2)
def ir_hostParsertell : ICode :=
 (.seq
  (.reg [⟨some 5, none, .mov (.t 0)⟩,
    ⟨some 6, none, .nck (.t 5)⟩,
    ⟨some 7, none, .fa 1 (.t 6)⟩,
    ⟨some 8, none, .ld (some 6) (.t 7)⟩,
    ⟨some 2, none, .box 32 (.c (.agg [(.int .i64 0), (.int .u8 0), .nils, (.str []), (.int .u8 0), (.str [])]))⟩,
    ⟨none, none, .st 6 (.t 2) (.t 8)⟩] (some [0, 2]))
  ir_hostParsertell_t1)
theorem is_hostParsertell : IrOf Tryd.prog 27 54 ir_hostParsertell [] := ⟨_, Tryd.func27, rfl, by kernel_rfl, by kernel_rfl, by kernel_rfl⟩


/-- What was begun. -/
def Pp.seq (x : Pp) : Sq := ⟨x.k, x.pr, if x.tx = [] then [] else (splitB 59 x.tx).map hostParts, x.it, x.fi, x.da⟩
def Pp.tell (x : Pp) : Pp := { Pp.zero with ou := if x.b = false ∧ mayP x.seq = 0 then x.ou ++ [x.seq] else x.ou }

theorem bytes_un (l : List UInt8) : (bytesAV l).map unbyte = l := by
  simp only [bytesAV, List.map_map]
  conv => rhs; rw [← List.map_id l]
  refine List.map_congr_left fun c _ => ?_
  exact unbyte_byte c
theorem bytes_is (l : List UInt8) : (∀ r ∈ bytesAV l, isByte r) = True := by
  simp only [bytesAV, List.mem_map, eq_iff_iff, iff_true]
  rintro r ⟨c, _, rfl⟩
  rw [isByte_c]; trivial
/-- The size of what the parser holds. -/
structure Pp.sz (x : Pp) : Prop where
  tx : x.tx.length < 4294967281
  it : x.it.length < 4611686018427387904
  da : x.da.length ≤ 4096
  fi : 0 ≤ x.fi ∧ x.fi < 128
  ou : x.ou.length < 1000000000000

/-- A state with a new name for what it tells. -/
theorem Ps.newo {s : Ps} (hok : s.ok) {n : Nm} (hn : n ∉ s.toks) (x' : Pp) (h1 : x'.tx = s.x.tx) (h2 : x'.da = s.x.da) : (⟨x', s.tt, s.dt, some n⟩ : Ps).ok ∧ (∀ t ∈ (⟨x', s.tt, s.dt, some n⟩ : Ps).toks, (t ∈ s.toks ∧ s.ot ≠ some t) ∨ t = n) := by
  have hnd := hok.nd
  simp only [Ps.toks] at hnd hn ⊢
  obtain ⟨a1, a2, a3⟩ := List.nodup_append.1 hnd
  refine ⟨⟨List.nodup_append.2 ⟨a1, by simp, fun a ha b hb e => ?_⟩, fun h => h1.trans (hok.t h), fun h => h2.trans (hok.d h), fun h => by cases h⟩, fun t ht => ?_⟩
  · simp only [Option.toList_some, List.mem_singleton] at hb
    subst hb; subst e
    exact hn (List.mem_append.2 (.inl ha))
  · rcases List.mem_append.1 ht with ht | ht
    · exact .inl ⟨List.mem_append.2 (.inl ht), fun e => a3 t ht t (by rw [e]; simp) rfl⟩
    · simp only [Option.toList_some, List.mem_singleton] at ht
      exact .inr ht
theorem fits6 {n : Nat} (h : n < 1000000000000) : ((n + 1) * 80 ≤ 140737488355328) = True := by simp; omega
/-- The last part: it is told, if it may be; and dropped. -/
theorem aw_tell3 {Gl : Gh → Prop} (hst : Stays Gl) {p b : Nm} (hp : 1 ≤ p.1) (hbp : b ≠ p) {s : Ps} (hok : s.ok) (ht : ∀ t ∈ s.toks, 1 ≤ t.1) (hz : s.x.sz) {v : AV} (v1 : v.cells = [v]) (v2 : v.one = true) (v3 : v.strip = pv s.x.seq.ps) (v5 : RepLe v (parsV s.x.seq.ps))
    {γ c : Nat} {F : Nat → AV} {T : Tk} {Q : Ex → Nat → Nat → St → Prop} (hγ : 1 ≤ γ) (hn : ∀ t ∈ s.toks, ∀ i j, c ≤ i → t ≠ (γ, i, j)) (h0 : F 0 = .ptr p 0) (h2 : F 2 = .ptr b 0) (hT : ∀ t ∈ s.toks, T t)
    (hQ : ∀ (s' : Ps) (γ' c : Nat) (F : Nat → AV) (H : Hp), s'.x = s.x.tell → s'.ok → (p, .cells s'.c) ∈ H → (∀ t ∈ s'.toks, 1 ≤ t.1 ∧ (t ∈ s.toks ∨ t.1 = γ)) → Q .normal γ' c ⟨F, H, (· ∈ s'.toks)⟩) :
    aw Tryd.prog Gl ir_hostParsertell_t3 γ c ⟨F, [(b, .cells [.int .i64 s.x.k, .int .u8 s.x.pr, v, .str s.x.it, .int .u8 s.x.fi, .str s.x.da]), (p, .cells s.c)], T⟩ Q := by
  have hMay : FS Tryd.prog Gl 33 [.agg [.int .i64 s.x.k, .int .u8 s.x.pr, v, .str s.x.it, .int .u8 s.x.fi, .str s.x.da]] [] [] (.int .i64 (mayP s.x.seq)) [] [] := by
    refine FS.args (fs_May hst (s := s.x.seq) hz.fi.1 hz.fi.2 ?_ ?_ (Nat.lt_trans hz.it (by decide)) (Nat.lt_of_le_of_lt hz.da (by decide))) ⟨RepLe.agg ⟨.refl _, .refl _, v5, .refl _, .refl _, .refl _, trivial⟩, trivial⟩
    · simp only [Pp.seq]; split
      · simp
      · have := splitB_len (c := 59) (l := s.x.tx); have := hz.tx; simp; omega
    · intro q hq
      simp only [Pp.seq] at hq; split at hq
      · simp at hq
      · obtain ⟨w, hw, rfl⟩ := List.mem_map.1 hq
        have h1 := splitB_mem_len hw
        have h2 := splitB_len (c := 58) (l := w); have := hz.tx; simp [hostParts]; omega
  have hcall : ∀ (s1 : Ps), s1.x.ou = s.x.tell.ou → s1.ok → (∀ t ∈ s1.toks, 1 ≤ t.1 ∧ (t ∈ s.toks ∨ t.1 = γ)) → ∀ (c' : Nat) (F : Nat → AV) (T : Tk) (Hb : HB) (K : AV → Hp → Tk → Prop), (∀ t ∈ s1.toks, T t) → (∀ t ∈ s1.toks, ∀ j, t ≠ (γ, c', j)) → (∀ s' : Ps, s'.x = s.x.tell → s'.ok → (∀ t ∈ s'.toks, 1 ≤ t.1 ∧ (t ∈ s.toks ∨ t.1 = γ)) → K (.tup []) [(b, Hb), (p, .cells s'.c)] (· ∈ s'.toks)) →
      CallP Tryd.prog Gl 18 [.ptr p 0] [(b, Hb), (p, .cells s1.c)] T (fun j => (γ, c', j)) K := fun s1 e1 k1 k2 c' F T Hb K k3 k4 k5 =>
    PR.callA (Ha := [(b, Hb)]) (fs_drop hst hp k1 fun t h => (k2 t h).1) hp (fun _ => rfl) hγ k3 (fun t h => ⟨(k2 t h).1, k4 t h⟩) (by simpa using Ne.symm hbp) fun s' q1 q2 q3 => k5 s' (by rw [q1]; simp only [Pp.drop, Pp.tell, e1]) q2 fun t h => by
      refine ⟨(q3 t h).1, ?_⟩
      rcases (q3 t h).2 with h | h
      · exact (k2 t h).2
      · exact .inr h
  unfold ir_hostParsertell_t3
  simp only [Ps.c]
  simp +contextual (maxSteps := 1000000) only [hbp, (Ne.symm hbp), h0, h2, go_sem, reduceCtorEq, ↓reduceIte, Nat.reduceAdd, Nat.reduceEqDiff, Nat.reduceLeDiff, Nat.reduceMul, Nat.reduceBEq, Int.reduceBEq, Int.reduceBNe, Int.reduceLT, Int.reduceLE, Int.reduceGT, Int.reduceGE, Int.reduceToNat, Int.natCast_one, Int.natCast_zero, Int.cast_ofNat_Int]
  (refine kGc_call (hMay) (fun _ => rfl) (fun hgc => ?_) ?_; (focus (first | (rw [Bool.not_eq_true'] at hgc; simp only [List.map_cons, List.map_nil, List.nil_append, List.append_nil, List.cons_append, Xev_t, Xev_c, upd_app, lf_cons, lf_nil, Nat.reduceEqDiff, ↓reduceIte, hgc, Bool.false_eq_true, Bool.true_eq_false, reduceCtorEq]; done) | (simp only [List.map_cons, List.map_nil, List.nil_append, List.append_nil, List.cons_append, Xev_t, Xev_c, upd_app, lf_cons, lf_nil, Nat.reduceEqDiff, ↓reduceIte, hgc, Bool.false_eq_true, Bool.true_eq_false, reduceCtorEq]; done) | (revert hgc; simp +contextual [Xev_t, Xev_c, upd_app, lf_cons, lf_nil]; done) | simp [Xev_t, Xev_c, upd_app, lf_cons, lf_nil])); simp +contextual (maxSteps := 1000000) only [hbp, (Ne.symm hbp), h0, h2, go_sem, reduceCtorEq, ↓reduceIte, Nat.reduceAdd, Nat.reduceEqDiff, Nat.reduceLeDiff, Nat.reduceMul, Nat.reduceBEq, Int.reduceBEq, Int.reduceBNe, Int.reduceLT, Int.reduceLE, Int.reduceGT, Int.reduceGE, Int.reduceToNat, Int.natCast_one, Int.natCast_zero, Int.cast_ofNat_Int])
  cases hc : (!s.x.b && mayP s.x.seq == 0) with
  | false =>
    have e : s.x.tell.ou = s.x.ou := by
      have h : ¬ (s.x.b = false ∧ mayP s.x.seq = 0) := fun h => by simp [h.1, h.2] at hc
      simp only [Pp.tell, if_neg h]
    simp +contextual (maxSteps := 1000000) only [go_sem, reduceCtorEq, ↓reduceIte, Nat.reduceAdd, Nat.reduceEqDiff, Nat.reduceLeDiff, Nat.reduceMul, Nat.reduceBEq, Int.reduceBEq, Int.reduceBNe, Int.reduceLT, Int.reduceLE, Int.reduceGT, Int.reduceGE, Int.reduceToNat, Int.natCast_one, Int.natCast_zero, Int.cast_ofNat_Int]
    refine hcall s e.symm hok (fun t h => ⟨ht t h, .inl h⟩) _ F T _ _ hT (fun t h j => hn t h _ j (by omega)) fun s' q1 q2 q3 => ?_
    simp +contextual (maxSteps := 1000000) only [go_sem, reduceCtorEq, ↓reduceIte, Nat.reduceAdd, Nat.reduceEqDiff, Nat.reduceLeDiff, Nat.reduceMul, Nat.reduceBEq, Int.reduceBEq, Int.reduceBNe, Int.reduceLT, Int.reduceLE, Int.reduceGT, Int.reduceGE, Int.reduceToNat, Int.natCast_one, Int.natCast_zero, Int.cast_ofNat_Int]
    exact hQ s' _ _ _ _ q1 q2 (by simp) q3
  | true =>
    have e : s.x.tell.ou = s.x.ou ++ [s.x.seq] := by
      have h : s.x.b = false ∧ mayP s.x.seq = 0 := by simpa using hc
      simp only [Pp.tell, if_pos h]
    have hf6 := fits6 hz.ou
    have hf1 : ((1 : Nat) * 80 ≤ 140737488355328) = True := by simp
    cases ho : s.ot with
    | none =>
      have ho0 := hok.o ho
      simp +contextual (maxSteps := 1000000) only [hbp, (Ne.symm hbp), v1, v2, v3, hf6, hf1, List.length_map, go_sem, reduceCtorEq, ↓reduceIte, Nat.reduceAdd, Nat.reduceEqDiff, Nat.reduceLeDiff, Nat.reduceMul, Nat.reduceBEq, Int.reduceBEq, Int.reduceBNe, Int.reduceLT, Int.reduceLE, Int.reduceGT, Int.reduceGE, Int.reduceToNat, Int.natCast_one, Int.natCast_zero, Int.cast_ofNat_Int]
      have hnn : ((γ, c + 10 + 7, 0) : Nm) ∉ s.toks := fun h => hn _ h _ _ (by omega) rfl
      obtain ⟨k1, k2⟩ := Ps.newo hok hnn { s.x with ou := s.x.ou ++ [s.x.seq] } rfl rfl
      rw [show AV.sl (some (γ, c + 10 + 7, 0)) 6 [[AV.int IntKind.i64 s.x.k, AV.int IntKind.u8 s.x.pr, pv s.x.seq.ps, AV.str s.x.it, AV.int IntKind.u8 s.x.fi, AV.str s.x.da]] = sv (some (γ, c + 10 + 7, 0)) 6 ((s.x.ou ++ [s.x.seq]).map Sq.r) from by rw [ho0]; rfl]
      refine hcall ⟨{ s.x with ou := s.x.ou ++ [s.x.seq] }, s.tt, s.dt, some (γ, c + 10 + 7, 0)⟩ e.symm k1 (fun t h => ?_) _ F _ _ _ (fun t h => ?_) (fun t h j => ?_) fun s' q1 q2 q3 => ?_
      · rcases k2 t h with ⟨h, _⟩ | rfl
        · exact ⟨ht t h, .inl h⟩
        · exact ⟨hγ, .inr rfl⟩
      · rcases k2 t h with ⟨h, h'⟩ | rfl
        · exact ⟨.inr (hT t h), by simp⟩
        · exact ⟨.inl (by simp), by simp⟩
      · rcases k2 t h with ⟨h, _⟩ | rfl
        · exact hn t h _ j (by omega)
        · intro e; simp only [Prod.mk.injEq] at e; omega
      · simp +contextual (maxSteps := 1000000) only [go_sem, reduceCtorEq, ↓reduceIte, Nat.reduceAdd, Nat.reduceEqDiff, Nat.reduceLeDiff, Nat.reduceMul, Nat.reduceBEq, Int.reduceBEq, Int.reduceBNe, Int.reduceLT, Int.reduceLE, Int.reduceGT, Int.reduceGE, Int.reduceToNat, Int.natCast_one, Int.natCast_zero, Int.cast_ofNat_Int]
        exact hQ s' _ _ _ _ q1 q2 (by simp) q3
    | some o1 =>
      simp +contextual (maxSteps := 1000000) only [hbp, (Ne.symm hbp), v1, v2, v3, hf6, hf1, List.length_map, go_sem, reduceCtorEq, ↓reduceIte, Nat.reduceAdd, Nat.reduceEqDiff, Nat.reduceLeDiff, Nat.reduceMul, Nat.reduceBEq, Int.reduceBEq, Int.reduceBNe, Int.reduceLT, Int.reduceLE, Int.reduceGT, Int.reduceGE, Int.reduceToNat, Int.natCast_one, Int.natCast_zero, Int.cast_ofNat_Int]
      have hnn : ((γ, c + 10 + 7, 0) : Nm) ∉ s.toks := fun h => hn _ h _ _ (by omega) rfl
      have hoT : o1 ∈ s.toks := by simp [Ps.toks, ho]
      obtain ⟨k1, k2⟩ := Ps.newo hok hnn { s.x with ou := s.x.ou ++ [s.x.seq] } rfl rfl
      refine ⟨.inl (hT o1 hoT), by simp, ?_⟩
      rw [show AV.sl (some (γ, c + 10 + 7, 0)) 6 (List.map Sq.r s.x.ou ++ [[AV.int IntKind.i64 s.x.k, AV.int IntKind.u8 s.x.pr, pv s.x.seq.ps, AV.str s.x.it, AV.int IntKind.u8 s.x.fi, AV.str s.x.da]]) = sv (some (γ, c + 10 + 7, 0)) 6 ((s.x.ou ++ [s.x.seq]).map Sq.r) from by rw [List.map_append]; rfl]
      refine hcall ⟨{ s.x with ou := s.x.ou ++ [s.x.seq] }, s.tt, s.dt, some (γ, c + 10 + 7, 0)⟩ e.symm k1 (fun t h => ?_) _ F _ _ _ (fun t h => ?_) (fun t h j => ?_) fun s' q1 q2 q3 => ?_
      · rcases k2 t h with ⟨h, _⟩ | rfl
        · exact ⟨ht t h, .inl h⟩
        · exact ⟨hγ, .inr rfl⟩
      · rcases k2 t h with ⟨h, h'⟩ | rfl
        · exact ⟨.inr (hT t h), fun e => h' (by rw [ho, e])⟩
        · exact ⟨.inl (by simp), fun e => hnn (by rw [e]; exact hoT)⟩
      · rcases k2 t h with ⟨h, _⟩ | rfl
        · exact hn t h _ j (by omega)
        · intro e; simp only [Prod.mk.injEq] at e; omega
      · simp +contextual (maxSteps := 1000000) only [go_sem, reduceCtorEq, ↓reduceIte, Nat.reduceAdd, Nat.reduceEqDiff, Nat.reduceLeDiff, Nat.reduceMul, Nat.reduceBEq, Int.reduceBEq, Int.reduceBNe, Int.reduceLT, Int.reduceLE, Int.reduceGT, Int.reduceGE, Int.reduceToNat, Int.natCast_one, Int.natCast_zero, Int.cast_ofNat_Int]
        exact hQ s' _ _ _ _ q1 q2 (by simp) q3
end Go.Proofs.YtgdgfefojfgpaaaDoor

