/- Part 2 of 3 of a proof: the given statement OtherLevels, whatever the input that its row lets in. Conditions: those of the given row and card alone. -/
import Derived.Test.YtbepihadhmfklaaDoorPOtherLevels1
import Derived.Test.YtbepihadhmfklaaDoorShelf
import Derived.Test.YtbepihadhmfklaaDoorPOtherLevelsAb12d
set_option linter.unusedVariables false
set_option linter.unusedSimpArgs false
set_option maxRecDepth 100000
namespace Go.Proofs.YtbepihadhmfklaaDoor
open Go Go.Ab

/-- Texts, with a byte between them. -/
def jn (c : UInt8) : List (List UInt8) → List UInt8
  | [] => []
  | [x] => x
  | x :: y :: l => x ++ c :: jn c (y :: l)
theorem jn_cons {c : UInt8} {x : List UInt8} {l : List (List UInt8)} (h : l ≠ []) : jn c (x :: l) = x ++ c :: jn c l := by
  cases l with
  | nil => exact absurd rfl h
  | cons y l => rfl
theorem splitB_none {c : UInt8} : ∀ {x : List UInt8}, c ∉ x → splitB c x = [x]
  | [], _ => rfl
  | d :: x, h => by
    have h1 : d ≠ c := fun e => h (by simp [e])
    have h2 : c ∉ x := fun e => h (by simp [e])
    simp only [splitB, if_neg h1, splitB_none h2]
theorem splitB_app {c : UInt8} {r : List UInt8} : ∀ {x : List UInt8}, c ∉ x → splitB c (x ++ c :: r) = x :: splitB c r
  | [], _ => by simp [splitB]
  | d :: x, h => by
    have h1 : d ≠ c := fun e => h (by simp [e])
    have h2 : c ∉ x := fun e => h (by simp [e])
    simp only [List.cons_append, splitB, if_neg h1, splitB_app h2]
theorem splitB_jn {c : UInt8} : ∀ {l : List (List UInt8)}, l ≠ [] → (∀ x ∈ l, c ∉ x) → splitB c (jn c l) = l
  | [], h, _ => absurd rfl h
  | [x], _, h => splitB_none (h x (by simp))
  | x :: y :: l, _, h => by
    rw [jn_cons (by simp), splitB_app (h x (by simp)), splitB_jn (by simp) fun z hz => h z (by simp at hz ⊢; exact .inr hz)]

theorem fig_ofNat {d : Nat} (h : d < 10) : fig (UInt8.ofNat (48 + d)) = true ∧ (UInt8.ofNat (48 + d)).toNat - 48 = d := by
  have e : (UInt8.ofNat (48 + d)).toNat = 48 + d := by rw [UInt8.toNat_ofNat', Nat.mod_eq_of_lt (by omega)]
  constructor
  · simp only [fig, e, Bool.and_eq_true, decide_eq_true_eq]; omega
  · rw [e]; omega
theorem decB_figs : ∀ (n : Nat), ∀ c ∈ decB n, fig c = true := by
  intro n
  induction n using Nat.strongRecOn with
  | ind n ih =>
    rw [decB]
    split
    · intro c hc
      simp only [List.mem_singleton] at hc
      rw [hc]; exact (fig_ofNat (by omega)).1
    · intro c hc
      rcases List.mem_append.1 hc with h | h
      · exact ih (n / 10) (by omega) c h
      · simp only [List.mem_singleton] at h
        rw [h]; exact (fig_ofNat (by omega)).1
theorem decB_ne (n : Nat) : decB n ≠ [] := by
  rw [decB]; split <;> simp
theorem takeN_dec : ∀ (n : Nat) (rest : List UInt8) (k : Nat), n ≤ 1114111 → takeN (decB n ++ rest) 0 k = takeN rest n (k + (decB n).length) := by
  intro n
  induction n using Nat.strongRecOn with
  | ind n ih =>
    intro rest k hn
    rw [decB]
    split
    · obtain ⟨h1, h2⟩ := fig_ofNat (d := n) (by omega)
      simp only [List.singleton_append, takeN, h1, if_true, h2, List.length_singleton]
      congr 1; omega
    · obtain ⟨h1, h2⟩ := fig_ofNat (d := n % 10) (by omega)
      rw [List.append_assoc, ih (n / 10) (by omega) _ k (by omega)]
      simp only [List.singleton_append, takeN, h1, if_true, h2, List.length_append, List.length_singleton]
      congr 1; omega
theorem textZ_figs (n : Int) : ∀ c ∈ textZ n, fig c = true := by
  unfold textZ
  split
  · simp
  · exact decB_figs _
theorem fig_not {c d : UInt8} (h : fig c = true) (hd : fig d = false) : c ≠ d := by rintro rfl; rw [h] at hd; cases hd
def subText (p : List Int) : List UInt8 := jn 58 (p.map textZ)
def parsText (ps : List (List Int)) : List UInt8 := jn 59 (ps.map subText)
theorem jn_mem {c d : UInt8} : ∀ {l : List (List UInt8)}, d ∈ jn c l → d = c ∨ ∃ x ∈ l, d ∈ x
  | [], h => by simp [jn] at h
  | [x], h => .inr ⟨x, by simp, h⟩
  | x :: y :: l, h => by
    rw [jn_cons (by simp)] at h
    rcases List.mem_append.1 h with h | h
    · exact .inr ⟨x, by simp, h⟩
    · rcases List.mem_cons.1 h with h | h
      · exact .inl h
      · rcases jn_mem h with h | ⟨z, hz, h⟩
        · exact .inl h
        · exact .inr ⟨z, by simp at hz ⊢; exact .inr hz, h⟩
theorem subText_mem {p : List Int} {c : UInt8} (h : c ∈ subText p) : c = 58 ∨ fig c = true := by
  rcases jn_mem h with h | ⟨x, hx, h⟩
  · exact .inl h
  · obtain ⟨n, _, rfl⟩ := List.mem_map.1 hx
    exact .inr (textZ_figs n _ h)
theorem parsText_mem {ps : List (List Int)} {c : UInt8} (h : c ∈ parsText ps) : 48 ≤ c.toNat ∧ c.toNat < 60 := by
  have key : c = 59 ∨ c = 58 ∨ fig c = true := by
    rcases jn_mem h with h | ⟨x, hx, h⟩
    · exact .inl h
    · obtain ⟨p, _, rfl⟩ := List.mem_map.1 hx
      exact .inr (subText_mem h)
  rcases key with rfl | rfl | h
  · decide
  · decide
  · simp only [fig, Bool.and_eq_true, decide_eq_true_eq] at h; omega
theorem subText_nil {p : List Int} (hp : p ≠ []) (h : ∀ n ∈ p, -1 ≤ n) : subText p = [] ↔ p = [-1] := by
  constructor
  · intro e
    cases p with
    | nil => exact absurd rfl hp
    | cons n q =>
      cases q with
      | nil =>
        simp only [subText, List.map_cons, List.map_nil, jn, textZ] at e
        split at e
        · have := h n (by simp); congr 1; omega
        · exact absurd e (decB_ne _)
      | cons m q =>
        simp only [subText, List.map_cons] at e
        rw [jn_cons (by simp)] at e
        simp at e
  · rintro rfl; rfl
theorem parsText_nil {ps : List (List Int)} (h : ∀ p ∈ ps, p ≠ [] ∧ ∀ n ∈ p, -1 ≤ n) : parsText ps = [] ↔ ps = [] ∨ ps = [[-1]] := by
  constructor
  · intro e
    cases ps with
    | nil => exact .inl rfl
    | cons p q =>
      cases q with
      | nil =>
        simp only [parsText, List.map_cons, List.map_nil, jn] at e
        exact .inr (by rw [(subText_nil (h p (by simp)).1 (h p (by simp)).2).1 e])
      | cons m q =>
        simp only [parsText, List.map_cons] at e
        rw [jn_cons (by simp)] at e
        simp at e
  · rintro (rfl | rfl) <;> rfl
/-- What parameters that may be are. -/
theorem parsOk_iff {ps : List (List Int)} (h : parsOk ps = true) : ps.length ≤ 16 ∧ ps ≠ [[-1]] ∧ ∀ p ∈ ps, p ≠ [] ∧ p.length ≤ 8 ∧ ∀ n ∈ p, -1 ≤ n ∧ n ≤ 1114111 := by
  simp only [parsOk, Bool.and_eq_true, Bool.not_eq_true', Bool.or_eq_false_iff, decide_eq_false_iff_not] at h
  obtain ⟨⟨h1, h3⟩, h2⟩ := h
  refine ⟨by omega, h3, fun p hp => ?_⟩
  have := List.any_eq_false.1 h2 p hp
  simp only [parBad, Bool.or_eq_true, decide_eq_true_eq, not_or, List.any_eq_true, not_exists, not_and] at this
  obtain ⟨a, b, c⟩ := this
  refine ⟨fun e => by simp [e] at b, by omega, fun n hn => ?_⟩
  have := a n hn
  omega
end Go.Proofs.YtbepihadhmfklaaDoor

set_option linter.unusedVariables false
set_option linter.unusedSimpArgs false
set_option maxRecDepth 100000
namespace Go.Proofs.YtbepihadhmfklaaDoor
open Go Go.Ab
/-- strconv.Itoa -/
def ir_strconvItoa : ICode :=
 (.seq
  (.reg [⟨some 2, none, .mov (.c (.str []))⟩] (some [0]))
  (.seq
   (.reg [⟨some 3, none, .mov (.t 0)⟩,
     ⟨some 4, none, .call (.c (.fn (.func 106) [] [])) [(.t 3)]⟩,
     ⟨some 2, none, .mov (.t 4)⟩] (some [2]))
   .ret))
theorem is_strconvItoa : IrOf Tryd.prog 96 5 ir_strconvItoa [.t 2] := ⟨_, Tryd.func96, rfl, by kernel_rfl, by kernel_rfl, by kernel_rfl⟩

/-- clavier/num.Text -/
def ir_numText : ICode :=
 (.seq
  (.reg [⟨some 2, none, .mov (.c (.str []))⟩] (some [0]))
  (.seq
   (.seq
    (.reg [⟨some 3, none, .mov (.t 0)⟩,
      ⟨some 4, none, .bin .lss .none (.t 3) (.c (.int .i64 0))⟩] (some [0, 4]))
    (.cond (.t 4)
     (.seq
      (.reg [⟨some 2, none, .mov (.c (.str []))⟩] (some [2]))
      .ret)
     .skip))
   (.seq
    (.reg [⟨some 5, none, .mov (.t 0)⟩,
      ⟨some 6, none, .call (.c (.fn (.func 96) [] [])) [(.t 5)]⟩,
      ⟨some 2, none, .mov (.t 6)⟩] (some [2]))
    .ret)))
theorem is_numText : IrOf Tryd.prog 87 7 ir_numText [.t 2] := ⟨_, Tryd.func87, rfl, by kernel_rfl, by kernel_rfl, by kernel_rfl⟩


theorem tab_is {g : Gh} {w : World} (h : HInv g w) : Lib.TabIs Tryd.prog w "internal/strconv.uint64pow10" .u64 Lib.pow10Tab := by
  obtain ⟨⟨e, fr, h1⟩, _⟩ := h.fix _ (List.mem_singleton.2 rfl)
  unfold Lib.TabIs World.var?
  rw [show Program.globalNamed Tryd.prog "internal/strconv.uint64pow10" = some 3 from by kernel_rfl]
  simp only [Option.bind_some]
  rw [h1]
  simp [Lib.pow10Tab]
theorem decDigits_eq : ∀ n : Nat, Lib.decDigits n = decB n := by
  intro n
  induction n using Nat.strongRecOn with
  | ind n ih =>
    rw [Lib.decDigits, decB]
    by_cases h : n < 10
    · rw [dif_pos h, if_pos h]
    · rw [dif_neg h, if_neg h, ih (n / 10) (by omega)]
theorem fs_Itoa {Gl : Gh → Prop} {n : Int} (h0 : 0 ≤ n) (h1 : n ≤ 9223372036854775807) : FS Tryd.prog Gl 96 [.int .i64 n] [] [] (.str (textZ n)) [] [] := by
  refine FS.of_below is_strconvItoa.enters (fun _ => rfl) fun g w vs hinv hgl hargs => ?_
  obtain ⟨v1, r1, rfl, h2, h3⟩ := hargs
  cases h2; cases h3
  refine ⟨_, rfl, (Tryd.strconv_Itoa n (by omega) h1 w (tab_is hinv)).mono ?_⟩
  rintro e w' ⟨rfl, k, os, rfl⟩
  have hd : Lib.itoa n = textZ n := by rw [Lib.itoa, if_neg (by omega), textZ, if_neg (by omega), decDigits_eq]
  refine ⟨by rw [hd], rfl, rfl, rfl, ?_, fun b hb => ?_⟩
  · show w.heap.size ≤ ((w.drewN k).heap ++ os).size
    rw [Array.size_append]; exact Nat.le_add_right _ _
  · show ((w.drewN k).heap ++ os)[b]? = w.heap[b]?
    exact Array.getElem?_append_left hb
theorem fs_NumText {Gl : Gh → Prop} (hst : Stays Gl) {n : Int} (h1 : n ≤ 9223372036854775807) : FS Tryd.prog Gl 87 [.int .i64 n] [] [] (.str (textZ n)) [] [] := by
  refine FS.of hm hst is_numText (by simp) fun γ hγ hfr => ?_
  (generalize hQ : (fun (ex : Ex) (_ _ : Nat) (s : St) => _) = Q; unfold ir_numText)
  by_cases h0 : n < 0
  · have hd : decide (n < 0) = true := by simp [h0]
    simp +contextual (maxSteps := 1000000) only [hd, go_sem, reduceCtorEq, ↓reduceIte, Nat.reduceAdd, Nat.reduceEqDiff, Nat.reduceLeDiff, Nat.reduceMul, Nat.reduceBEq, Int.reduceBEq, Int.reduceBNe, Int.reduceLT, Int.reduceLE, Int.reduceGT, Int.reduceGE, Int.reduceToNat, Int.natCast_one, Int.natCast_zero, Int.cast_ofNat_Int]
    rw [← hQ]
    have hz : textZ n = [] := by rw [textZ, if_pos h0]
    rw [hz]
    exact ⟨trivial, Ret.flat rfl rfl⟩
  · have hd : decide (n < 0) = false := by simp [h0]
    simp +contextual (maxSteps := 1000000) only [hd, go_sem, reduceCtorEq, ↓reduceIte, Nat.reduceAdd, Nat.reduceEqDiff, Nat.reduceLeDiff, Nat.reduceMul, Nat.reduceBEq, Int.reduceBEq, Int.reduceBNe, Int.reduceLT, Int.reduceLE, Int.reduceGT, Int.reduceGE, Int.reduceToNat, Int.natCast_one, Int.natCast_zero, Int.cast_ofNat_Int]
    (refine CallP.pure (fs_Itoa (n := n) (by omega) h1) (fun _ => rfl) ?_; simp +contextual (maxSteps := 1000000) only [go_sem, reduceCtorEq, ↓reduceIte, Nat.reduceAdd, Nat.reduceEqDiff, Nat.reduceLeDiff, Nat.reduceMul, Nat.reduceBEq, Int.reduceBEq, Int.reduceBNe, Int.reduceLT, Int.reduceLE, Int.reduceGT, Int.reduceGE, Int.reduceToNat, Int.natCast_one, Int.natCast_zero, Int.cast_ofNat_Int])
    rw [← hQ]
    exact ⟨trivial, Ret.flat rfl rfl⟩
def strsAV (xs : List (List UInt8)) : List (List AV) := xs.map fun x => [AV.str x]
theorem en_Join : enters Tryd.prog 64 := by
  have h : ((Tryd.prog.funcs[64]?).map fun f => f.body.isSome && !(f.name == "runtime.NumGoroutine")) = some true := by kernel_rfl
  obtain ⟨fn, h1, h2⟩ := Option.map_eq_some_iff.1 h
  simp only [Bool.and_eq_true, Bool.not_eq_true'] at h2
  exact ⟨fn, h1, h2.1, h2.2⟩
theorem fs_Join {Gl : Gh → Prop} {xs : List (List UInt8)} {sep : List UInt8} {t : Option Nm} (hN : xs.length ≤ 140737488355328) (hl : (Lib.join xs sep).length ≤ 140737488355328) : FS Tryd.prog Gl 64 [.sl t 1 (strsAV xs), .str sep] [] [] (.str (Lib.join xs sep)) [] [] := by
  refine FS.of_below en_Join (fun _ => rfl) fun g w vs hinv hgl hargs => ?_
  obtain ⟨v1, r1, rfl, ⟨A, cap, rfl, h2, _⟩, v2, r2, rfl, h3, h4⟩ := hargs
  cases h3; cases h4
  have hlen : (strsAV xs).length = xs.length := by simp [strsAV]
  rw [hlen] at h2 ⊢
  cases xs with
  | nil =>
    refine ⟨_, rfl, (Tryd.strings_Join_none A cap ⟨sep.toArray⟩ w).mono ?_⟩
    rintro e w' ⟨rfl, rfl⟩
    exact ⟨rfl, .refl _ _⟩
  | cons x xs =>
    rcases h2 with ⟨_, _, h⟩ | ⟨b, o, rfl, _, hc, _, hrow⟩
    · simp [strsAV] at h
    · have hcell : ∀ (j : Nat) (y : ByteArray), ((x :: xs).map fun z => (⟨z.toArray⟩ : ByteArray))[j]? = some y → w.cell? ⟨b, o + j, none⟩ = some (.string y) := by
        intro j y hj
        rw [List.getElem?_map, Option.map_eq_some_iff] at hj
        obtain ⟨z, hz, rfl⟩ := hj
        obtain ⟨⟨⟨v, q1, _, q2⟩, _⟩, _⟩ := RepRow.get hrow j [.str z] (by rw [strsAV, List.getElem?_map, hz]; rfl)
        cases q2
        rw [Nat.mul_one] at q1
        exact hinv.imm _ _ _ q1
      have hb : b < w.heap.size := lt_of_cell (hcell 0 _ rfl)
      have hmap : ((x :: xs).map fun z => (⟨z.toArray⟩ : ByteArray)).map (·.data.toList) = x :: xs := by
        rw [List.map_map]
        exact (List.map_congr_left (g := _root_.id) (fun z _ => by simp)).trans (List.map_id _)
      have := Tryd.strings_Join b o cap ((x :: xs).map fun z => (⟨z.toArray⟩ : ByteArray)) ⟨sep.toArray⟩ w hcell hb (by simpa using hN) (by simpa using hc) (by rw [hmap]; exact hl)
      rw [List.length_map, hmap] at this
      refine ⟨_, rfl, this.mono ?_⟩
      rintro e w' ⟨rfl, hbl⟩
      exact ⟨rfl, hbl⟩
end Go.Proofs.YtbepihadhmfklaaDoor

set_option linter.unusedVariables false
set_option linter.unusedSimpArgs false
set_option maxRecDepth 100000
namespace Go.Proofs.YtbepihadhmfklaaDoor
open Go Go.Ab
/-- strings.ContainsRune -/
def ir_stringsContainsRune : ICode :=
 (.seq
  (.reg [⟨some 4, none, .mov (.c (.bool false))⟩] (some [0, 1]))
  (.seq
   (.reg [⟨some 5, none, .mov (.t 0)⟩,
     ⟨some 6, none, .mov (.t 1)⟩,
     ⟨some 7, none, .call (.c (.fn (.func 93) [] [])) [(.t 5), (.t 6)]⟩,
     ⟨some 8, none, .bin .geq .none (.t 7) (.c (.int .i64 0))⟩,
     ⟨some 4, none, .mov (.t 8)⟩] (some [4]))
   .ret))
theorem is_stringsContainsRune : IrOf Tryd.prog 83 9 ir_stringsContainsRune [.t 4] := ⟨_, Tryd.func83, rfl, by kernel_rfl, by kernel_rfl, by kernel_rfl⟩

/-- clavier/wire.shaped -/
def ir_wireshaped : ICode :=
 (.seq
  (.reg [⟨some 1, none, .box 51 (.t 0)⟩,
    ⟨some 2, none, .mov (.c (.bool false))⟩] (some [1]))
  (.seq
   (.reg [⟨some 5, none, .fa 1 (.t 1)⟩,
     ⟨some 6, none, .ld none (.t 5)⟩,
     ⟨some 7, none, .bin .eql .none (.t 6) (.c (.int .u8 0))⟩,
     ⟨some 8, none, .mov (.t 7)⟩,
     ⟨some 9, some (8, true), .fa 2 (.t 1)⟩,
     ⟨some 10, some (8, true), .ld none (.t 9)⟩,
     ⟨some 11, some (8, true), .len (.t 10)⟩,
     ⟨some 12, some (8, true), .bin .eql .none (.t 11) (.c (.int .i64 0))⟩,
     ⟨some 13, none, .pick (.t 8) (.t 12) (.c (.bool false))⟩,
     ⟨some 3, none, .mov (.t 13)⟩] (some [1, 3]))
   (.seq
    (.seq
     (.reg [⟨some 14, none, .fa 0 (.t 1)⟩,
       ⟨some 15, none, .ld none (.t 14)⟩] (some [1, 3, 15]))
     (.blk 0
      (.seq
       (.reg [⟨some 17, none, .bin .eql .none (.t 15) (.c (.int .i64 1))⟩,
         ⟨some 16, none, .mov (.t 17)⟩] (some [1, 3, 15, 16]))
       (.cond (.t 16)
        (.seq
         (.reg [⟨some 18, none, .fa 5 (.t 1)⟩,
           ⟨some 19, none, .ld none (.t 18)⟩,
           ⟨some 20, none, .bin .eql .none (.t 19) (.c (.str []))⟩,
           ⟨some 21, none, .mov (.t 20)⟩,
           ⟨some 22, some (21, true), .fa 4 (.t 1)⟩,
           ⟨some 23, some (21, true), .ld none (.t 22)⟩,
           ⟨some 24, some (21, true), .bin .geq .none (.t 23) (.c (.int .u8 64))⟩,
           ⟨some 25, none, .pick (.t 21) (.t 24) (.c (.bool false))⟩,
           ⟨some 26, none, .mov (.t 25)⟩,
           ⟨some 27, some (26, true), .fa 4 (.t 1)⟩,
           ⟨some 28, some (26, true), .ld none (.t 27)⟩,
           ⟨some 29, some (26, true), .bin .leq .none (.t 28) (.c (.int .u8 126))⟩,
           ⟨some 30, none, .pick (.t 26) (.t 29) (.c (.bool false))⟩,
           ⟨some 2, none, .mov (.t 30)⟩] (some [2]))
         .ret)
        (.seq
         (.reg [⟨some 32, none, .bin .eql .none (.t 15) (.c (.int .i64 3))⟩,
           ⟨some 31, none, .mov (.t 32)⟩] (some [1, 3, 15, 31]))
         (.cond (.t 31)
          (.seq
           (.reg [⟨some 33, none, .fa 4 (.t 1)⟩,
             ⟨some 34, none, .ld none (.t 33)⟩,
             ⟨some 35, none, .bin .geq .none (.t 34) (.c (.int .u8 64))⟩,
             ⟨some 36, none, .mov (.t 35)⟩,
             ⟨some 37, some (36, true), .fa 4 (.t 1)⟩,
             ⟨some 38, some (36, true), .ld none (.t 37)⟩,
             ⟨some 39, some (36, true), .bin .leq .none (.t 38) (.c (.int .u8 126))⟩,
             ⟨some 40, none, .pick (.t 36) (.t 39) (.c (.bool false))⟩,
             ⟨some 2, none, .mov (.t 40)⟩] (some [2]))
           .ret)
          (.seq
           (.reg [⟨some 42, none, .bin .eql .none (.t 15) (.c (.int .i64 2))⟩,
             ⟨some 41, none, .mov (.t 42)⟩] (some [1, 3, 15, 41]))
           (.cond (.t 41)
            (.seq
             (.reg [⟨some 43, none, .mov (.t 3)⟩,
               ⟨some 44, none, .mov (.t 43)⟩,
               ⟨some 45, some (44, true), .fa 3 (.t 1)⟩,
               ⟨some 46, some (44, true), .ld none (.t 45)⟩,
               ⟨some 47, some (44, true), .bin .eql .none (.t 46) (.c (.str []))⟩,
               ⟨some 48, none, .pick (.t 44) (.t 47) (.c (.bool false))⟩,
               ⟨some 49, none, .mov (.t 48)⟩,
               ⟨some 50, some (49, true), .fa 5 (.t 1)⟩,
               ⟨some 51, some (49, true), .ld none (.t 50)⟩,
               ⟨some 52, some (49, true), .bin .eql .none (.t 51) (.c (.str []))⟩,
               ⟨some 53, none, .pick (.t 49) (.t 52) (.c (.bool false))⟩,
               ⟨some 54, none, .mov (.t 53)⟩,
               ⟨some 55, some (54, true), .fa 4 (.t 1)⟩,
               ⟨some 56, some (54, true), .ld none (.t 55)⟩,
               ⟨some 57, some (54, true), .bin .geq .none (.t 56) (.c (.int .u8 64))⟩,
               ⟨some 58, none, .pick (.t 54) (.t 57) (.c (.bool false))⟩,
               ⟨some 59, none, .mov (.t 58)⟩,
               ⟨some 60, some (59, true), .fa 4 (.t 1)⟩,
               ⟨some 61, some (59, true), .ld none (.t 60)⟩,
               ⟨some 62, some (59, true), .bin .leq .none (.t 61) (.c (.int .u8 126))⟩,
               ⟨some 63, none, .pick (.t 59) (.t 62) (.c (.bool false))⟩,
               ⟨some 2, none, .mov (.t 63)⟩] (some [2]))
             .ret)
            (.seq
             (.reg [⟨some 65, none, .bin .eql .none (.t 15) (.c (.int .i64 4))⟩,
               ⟨some 64, none, .mov (.t 65)⟩] (some [1, 3, 15, 64]))
             (.cond (.t 64)
              (.seq
               (.reg [⟨some 66, none, .mov (.t 3)⟩,
                 ⟨some 67, none, .mov (.t 66)⟩,
                 ⟨some 68, some (67, true), .fa 3 (.t 1)⟩,
                 ⟨some 69, some (67, true), .ld none (.t 68)⟩,
                 ⟨some 70, some (67, true), .bin .eql .none (.t 69) (.c (.str []))⟩,
                 ⟨some 71, none, .pick (.t 67) (.t 70) (.c (.bool false))⟩,
                 ⟨some 72, none, .mov (.t 71)⟩,
                 ⟨some 73, some (72, true), .fa 4 (.t 1)⟩,
                 ⟨some 74, some (72, true), .ld none (.t 73)⟩,
                 ⟨some 75, some (72, true), .bin .eql .none (.t 74) (.c (.int .u8 0))⟩,
                 ⟨some 76, none, .pick (.t 72) (.t 75) (.c (.bool false))⟩,
                 ⟨some 2, none, .mov (.t 76)⟩] (some [2]))
               .ret)
              (.seq
               (.reg [⟨some 78, none, .bin .eql .none (.t 15) (.c (.int .i64 5))⟩,
                 ⟨some 77, none, .mov (.t 78)⟩] (some [1, 3, 77]))
               (.cond (.t 77)
                (.seq
                 (.reg [⟨some 79, none, .fa 3 (.t 1)⟩,
                   ⟨some 80, none, .ld none (.t 79)⟩,
                   ⟨some 81, none, .bin .neq .none (.t 80) (.c (.str []))⟩,
                   ⟨some 82, none, .mov (.t 81)⟩,
                   ⟨some 83, some (82, false), .fa 4 (.t 1)⟩,
                   ⟨some 84, some (82, false), .ld none (.t 83)⟩,
                   ⟨some 85, some (82, false), .cvi .i32 (.t 84)⟩,
                   ⟨some 86, some (82, false), .call (.c (.fn (.func 83) [] [])) [(.c (.str [79, 80, 88, 91, 93, 92, 94, 95])), (.t 85)]⟩,
                   ⟨some 87, some (82, false), .un .not (.t 86)⟩,
                   ⟨some 88, none, .pick (.t 82) (.c (.bool true)) (.t 87)⟩,
                   ⟨some 4, none, .mov (.t 88)⟩] (some [1, 3, 4]))
                 (.seq
                  (.reg [⟨some 89, none, .mov (.t 3)⟩,
                    ⟨some 90, none, .mov (.t 89)⟩,
                    ⟨some 91, some (90, true), .fa 5 (.t 1)⟩,
                    ⟨some 92, some (90, true), .ld none (.t 91)⟩,
                    ⟨some 93, some (90, true), .bin .eql .none (.t 92) (.c (.str []))⟩,
                    ⟨some 94, none, .pick (.t 90) (.t 93) (.c (.bool false))⟩,
                    ⟨some 95, none, .mov (.t 94)⟩,
                    ⟨some 96, some (95, true), .mov (.t 4)⟩,
                    ⟨some 97, none, .pick (.t 95) (.t 96) (.c (.bool false))⟩,
                    ⟨some 98, none, .mov (.t 97)⟩,
                    ⟨some 99, some (98, true), .fa 4 (.t 1)⟩,
                    ⟨some 100, some (98, true), .ld none (.t 99)⟩,
                    ⟨some 101, some (98, true), .bin .geq .none (.t 100) (.c (.int .u8 48))⟩,
                    ⟨some 102, none, .pick (.t 98) (.t 101) (.c (.bool false))⟩,
                    ⟨some 103, none, .mov (.t 102)⟩,
                    ⟨some 104, some (103, true), .fa 4 (.t 1)⟩,
                    ⟨some 105, some (103, true), .ld none (.t 104)⟩,
                    ⟨some 106, some (103, true), .bin .leq .none (.t 105) (.c (.int .u8 126))⟩,
                    ⟨some 107, none, .pick (.t 103) (.t 106) (.c (.bool false))⟩,
                    ⟨some 2, none, .mov (.t 107)⟩] (some [2]))
                  .ret))
                .skip))))))))))))
    (.seq
     (.reg [⟨some 2, none, .mov (.c (.bool false))⟩] (some [2]))
     .ret))))
theorem is_wireshaped : IrOf Tryd.prog 63 108 ir_wireshaped [.t 2] := ⟨_, Tryd.func63, rfl, by kernel_rfl, by kernel_rfl, by kernel_rfl⟩


theorem indexByte_mem : ∀ (l : List UInt8) (c : UInt8), decide (0 ≤ Lib.indexByte l c) = l.contains c
  | [], c => rfl
  | d :: l, c => by
    have ih := indexByte_mem l c
    have hg := Lib.indexByte_ge l c
    rw [List.contains_cons]
    have hu : Lib.indexByte (d :: l) c = if d == c then 0 else if Lib.indexByte l c == -1 then -1 else Lib.indexByte l c + 1 := rfl
    rw [hu]
    by_cases h : d = c
    · subst h; simp
    · have hb : (d == c) = false := by simpa using h
      have hb2 : (c == d) = false := by simpa using Ne.symm h
      rw [hb2, Bool.false_or, ← ih, decide_eq_decide]
      simp only [hb, Bool.false_eq_true, if_false]
      by_cases h1 : Lib.indexByte l c = -1
      · simp [h1]
      · have : (Lib.indexByte l c == -1) = false := by simpa using h1
        simp only [this, Bool.false_eq_true, if_false]
        omega
theorem fs_ContainsRune {Gl : Gh → Prop} {s : List UInt8} {r : Int} (h0 : 0 ≤ r) (h1 : r < 128) : FS Tryd.prog Gl 83 [.str s, .int .i32 r] [] [] (.bool (s.contains r.toNat.toUInt8)) [] [] := by
  refine FS.of_calls is_stringsContainsRune.enters (fun _ => rfl) fun g w vs hinv hgl hargs => ?_
  obtain ⟨v1, r1, rfl, h1', v2, r2, rfl, h2', h3'⟩ := hargs
  cases h1'; cases h2'; cases h3'
  refine ⟨_, rfl, (Tryd.strings_ContainsRune_ascii ⟨s.toArray⟩ r w h0 h1).mono ?_⟩
  rintro e w' ⟨rfl, rfl⟩
  exact ⟨by rw [indexByte_mem], rfl⟩

/-- What a kind has. -/
def shapedP (s : Sq) : Bool :=
  if s.k = 1 then decide (s.da = []) && decide (s.fi ≥ 64) && decide (s.fi ≤ 126)
  else if s.k = 3 then decide (s.fi ≥ 64) && decide (s.fi ≤ 126)
  else if s.k = 2 then s.pr == 0 && (s.ps.length : Int) == 0 && decide (s.it = []) && decide (s.da = []) && decide (s.fi ≥ 64) && decide (s.fi ≤ 126)
  else if s.k = 4 then s.pr == 0 && (s.ps.length : Int) == 0 && decide (s.it = []) && s.fi == 0
  else if s.k = 5 then s.pr == 0 && (s.ps.length : Int) == 0 && decide (s.da = []) && (!decide (s.it = []) || !([79, 80, 88, 91, 93, 92, 94, 95] : List UInt8).contains s.fi.toNat.toUInt8) && decide (s.fi ≥ 48) && decide (s.fi ≤ 126)
  else false

theorem fs_shaped {Gl : Gh → Prop} (hst : Stays Gl) {s : Sq} (hf0 : 0 ≤ s.fi) (hf1 : s.fi < 128) : FS Tryd.prog Gl 63 [.agg s.c] [] [] (.bool (shapedP s)) [] [] := by
  refine FS.of hm hst is_wireshaped (by simp) fun γ hγ hfr => ?_
  obtain ⟨k, pr, ps, it, fi, da⟩ := s
  simp only [Sq.c] at hf0 hf1 ⊢
  have hw : IntKind.i32.wrap fi = fi := by rw [IntKind.wrap_i32]; omega
  simp only [shapedP]
  generalize hp0 : (pr == 0) = p0
  generalize hps : ((ps.length : Int) == 0) = ps0
  generalize hda : decide (da = []) = da0
  generalize hit : decide (it = []) = it0
  generalize h64 : decide (fi ≥ 64) = f64
  generalize h126 : decide (fi ≤ 126) = f126
  generalize h48 : decide (fi ≥ 48) = f48
  generalize hfz : (fi == 0) = fz
  generalize hcr : ([79, 80, 88, 91, 93, 92, 94, 95] : List UInt8).contains fi.toNat.toUInt8 = cr
  have hcall : FS Tryd.prog Gl 83 [.str [79, 80, 88, 91, 93, 92, 94, 95], .int .i32 fi] [] [] (.bool cr) [] [] := hcr ▸ fs_ContainsRune hf0 hf1
  have x1 : (k == 1) = decide (k = 1) := by rw [Bool.eq_iff_iff]; simp
  have x3 : (k == 3) = decide (k = 3) := by rw [Bool.eq_iff_iff]; simp
  have x2 : (k == 2) = decide (k = 2) := by rw [Bool.eq_iff_iff]; simp
  have x4 : (k == 4) = decide (k = 4) := by rw [Bool.eq_iff_iff]; simp
  have x5 : (k == 5) = decide (k = 5) := by rw [Bool.eq_iff_iff]; simp
  by_cases h1 : k = 1
  · simp only [if_pos h1]
    (generalize hQ : (fun (ex : Ex) (_ _ : Nat) (s : St) => _) = Q; unfold ir_wireshaped)
    simp +contextual (maxSteps := 1000000) only [parsV, parsAV_length, hp0, hps, hda, hit, h64, h126, h48, hfz, hw, x1, h1, if_true, if_false, go_sem, reduceCtorEq, ↓reduceIte, Nat.reduceAdd, Nat.reduceEqDiff, Nat.reduceLeDiff, Nat.reduceMul, Nat.reduceBEq, Int.reduceBEq, Int.reduceBNe, Int.reduceLT, Int.reduceLE, Int.reduceGT, Int.reduceGE, Int.reduceToNat, Int.natCast_one, Int.natCast_zero, Int.cast_ofNat_Int]
    rw [← hQ]; exact ⟨trivial, Ret.flat rfl rfl⟩
  by_cases h3 : k = 3
  · simp only [if_neg h1, if_pos h3]
    (generalize hQ : (fun (ex : Ex) (_ _ : Nat) (s : St) => _) = Q; unfold ir_wireshaped)
    simp +contextual (maxSteps := 1000000) only [parsV, parsAV_length, hp0, hps, hda, hit, h64, h126, h48, hfz, hw, x1, h1, x3, h3, if_true, if_false, go_sem, reduceCtorEq, ↓reduceIte, Nat.reduceAdd, Nat.reduceEqDiff, Nat.reduceLeDiff, Nat.reduceMul, Nat.reduceBEq, Int.reduceBEq, Int.reduceBNe, Int.reduceLT, Int.reduceLE, Int.reduceGT, Int.reduceGE, Int.reduceToNat, Int.natCast_one, Int.natCast_zero, Int.cast_ofNat_Int]
    rw [← hQ]; exact ⟨trivial, Ret.flat rfl rfl⟩
  by_cases h2 : k = 2
  · simp only [if_neg h1, if_neg h3, if_pos h2]
    (generalize hQ : (fun (ex : Ex) (_ _ : Nat) (s : St) => _) = Q; unfold ir_wireshaped)
    simp +contextual (maxSteps := 1000000) only [parsV, parsAV_length, hp0, hps, hda, hit, h64, h126, h48, hfz, hw, x1, h1, x3, h3, x2, h2, if_true, if_false, go_sem, reduceCtorEq, ↓reduceIte, Nat.reduceAdd, Nat.reduceEqDiff, Nat.reduceLeDiff, Nat.reduceMul, Nat.reduceBEq, Int.reduceBEq, Int.reduceBNe, Int.reduceLT, Int.reduceLE, Int.reduceGT, Int.reduceGE, Int.reduceToNat, Int.natCast_one, Int.natCast_zero, Int.cast_ofNat_Int]
    rw [← hQ]; exact ⟨trivial, Ret.flat rfl rfl⟩
  by_cases h4 : k = 4
  · simp only [if_neg h1, if_neg h3, if_neg h2, if_pos h4]
    (generalize hQ : (fun (ex : Ex) (_ _ : Nat) (s : St) => _) = Q; unfold ir_wireshaped)
    simp +contextual (maxSteps := 1000000) only [parsV, parsAV_length, hp0, hps, hda, hit, h64, h126, h48, hfz, hw, x1, h1, x3, h3, x2, h2, x4, h4, if_true, if_false, go_sem, reduceCtorEq, ↓reduceIte, Nat.reduceAdd, Nat.reduceEqDiff, Nat.reduceLeDiff, Nat.reduceMul, Nat.reduceBEq, Int.reduceBEq, Int.reduceBNe, Int.reduceLT, Int.reduceLE, Int.reduceGT, Int.reduceGE, Int.reduceToNat, Int.natCast_one, Int.natCast_zero, Int.cast_ofNat_Int]
    rw [← hQ]; exact ⟨trivial, Ret.flat rfl rfl⟩
  by_cases h5 : k = 5
  · simp only [if_neg h1, if_neg h3, if_neg h2, if_neg h4, if_pos h5]
    (generalize hQ : (fun (ex : Ex) (_ _ : Nat) (s : St) => _) = Q; unfold ir_wireshaped)
    simp +contextual (maxSteps := 1000000) only [parsV, parsAV_length, hp0, hps, hda, hit, h64, h126, h48, hfz, hw, x1, h1, x3, h3, x2, h2, x4, h4, x5, h5, if_true, if_false, go_sem, reduceCtorEq, ↓reduceIte, Nat.reduceAdd, Nat.reduceEqDiff, Nat.reduceLeDiff, Nat.reduceMul, Nat.reduceBEq, Int.reduceBEq, Int.reduceBNe, Int.reduceLT, Int.reduceLE, Int.reduceGT, Int.reduceGE, Int.reduceToNat, Int.natCast_one, Int.natCast_zero, Int.cast_ofNat_Int]
    refine kGc_call hcall (fun _ => rfl) (fun hg => ?_) ?_
    · revert hg
      simp +contextual [Xev_t, Xev_c, upd_app, lf_cons, lf_nil]
    · simp +contextual (maxSteps := 1000000) only [parsV, parsAV_length, hp0, hps, hda, hit, h64, h126, h48, hfz, go_sem, reduceCtorEq, ↓reduceIte, Nat.reduceAdd, Nat.reduceEqDiff, Nat.reduceLeDiff, Nat.reduceMul, Nat.reduceBEq, Int.reduceBEq, Int.reduceBNe, Int.reduceLT, Int.reduceLE, Int.reduceGT, Int.reduceGE, Int.reduceToNat, Int.natCast_one, Int.natCast_zero, Int.cast_ofNat_Int]
      rw [← hQ]; exact ⟨trivial, Ret.flat rfl rfl⟩
  have e1 : decide (k = 1) = false := decide_eq_false h1
  have e2 : decide (k = 2) = false := decide_eq_false h2
  have e3 : decide (k = 3) = false := decide_eq_false h3
  have e4 : decide (k = 4) = false := decide_eq_false h4
  have e5 : decide (k = 5) = false := decide_eq_false h5
  simp only [if_neg h1, if_neg h3, if_neg h2, if_neg h4, if_neg h5]
  (generalize hQ : (fun (ex : Ex) (_ _ : Nat) (s : St) => _) = Q; unfold ir_wireshaped)
  simp +contextual (maxSteps := 1000000) only [parsV, parsAV_length, hp0, hps, x1, x2, x3, x4, x5, e1, e2, e3, e4, e5, go_sem, reduceCtorEq, ↓reduceIte, Nat.reduceAdd, Nat.reduceEqDiff, Nat.reduceLeDiff, Nat.reduceMul, Nat.reduceBEq, Int.reduceBEq, Int.reduceBNe, Int.reduceLT, Int.reduceLE, Int.reduceGT, Int.reduceGE, Int.reduceToNat, Int.natCast_one, Int.natCast_zero, Int.cast_ofNat_Int]
  rw [← hQ]; exact ⟨trivial, Ret.flat rfl rfl⟩
end Go.Proofs.YtbepihadhmfklaaDoor

set_option linter.unusedVariables false
set_option linter.unusedSimpArgs false
set_option maxRecDepth 100000
namespace Go.Proofs.YtbepihadhmfklaaDoor
open Go Go.Ab
/-- clavier/wire.May -/
def ir_wireMay : ICode :=
 (.seq
  (.reg [⟨some 1, none, .box 51 (.t 0)⟩,
    ⟨some 2, none, .mov (.c (.int .i64 0))⟩] (some [1]))
  (.seq
   (.reg [⟨some 5, none, .fa 1 (.t 1)⟩,
     ⟨some 6, none, .ld none (.t 5)⟩,
     ⟨some 7, none, .bin .eql .none (.t 6) (.c (.int .u8 0))⟩,
     ⟨some 8, none, .mov (.t 7)⟩,
     ⟨some 9, some (8, false), .fa 1 (.t 1)⟩,
     ⟨some 10, some (8, false), .ld none (.t 9)⟩,
     ⟨some 11, some (8, false), .bin .geq .none (.t 10) (.c (.int .u8 60))⟩,
     ⟨some 12, some (8, false), .mov (.t 11)⟩,
     ⟨some 13, some (12, true), .fa 1 (.t 1)⟩,
     ⟨some 14, some (12, true), .ld none (.t 13)⟩,
     ⟨some 15, some (12, true), .bin .leq .none (.t 14) (.c (.int .u8 63))⟩,
     ⟨some 16, some (8, false), .pick (.t 12) (.t 15) (.c (.bool false))⟩,
     ⟨some 17, none, .pick (.t 8) (.c (.bool true)) (.t 16)⟩,
     ⟨some 3, none, .mov (.t 17)⟩] (some [1, 3]))
   (.seq
    (.reg [⟨some 18, none, .fa 3 (.t 1)⟩,
      ⟨some 19, none, .ld none (.t 18)⟩,
      ⟨some 20, none, .lns (.t 19)⟩,
      ⟨some 21, none, .bin .leq .none (.t 20) (.c (.int .i64 2))⟩,
      ⟨some 22, none, .mov (.t 21)⟩,
      ⟨some 23, some (22, true), .fa 3 (.t 1)⟩,
      ⟨some 24, some (22, true), .ld none (.t 23)⟩,
      ⟨some 25, some (22, true), .call (.c (.fn (.func 61) [] [])) [(.t 24), (.c (.int .u8 32)), (.c (.int .u8 47))]⟩,
      ⟨some 26, none, .pick (.t 22) (.t 25) (.c (.bool false))⟩,
      ⟨some 4, none, .mov (.t 26)⟩] (some [1, 3, 4]))
    (.seq
     (.blk 0
      (.seq
       (.reg [⟨some 28, none, .fa 5 (.t 1)⟩,
         ⟨some 29, none, .ld none (.t 28)⟩,
         ⟨some 30, none, .lns (.t 29)⟩,
         ⟨some 31, none, .bin .gtr .none (.t 30) (.c (.int .i64 4096))⟩,
         ⟨some 27, none, .mov (.t 31)⟩] (some [1, 3, 4, 27]))
       (.cond (.t 27)
        (.seq
         (.reg [⟨some 2, none, .mov (.c (.int .i64 4))⟩] (some [2]))
         .ret)
        (.seq
         (.reg [⟨some 33, none, .mov (.t 3)⟩,
           ⟨some 34, none, .un .not (.t 33)⟩,
           ⟨some 35, none, .mov (.t 34)⟩,
           ⟨some 36, some (35, false), .mov (.t 4)⟩,
           ⟨some 37, some (35, false), .un .not (.t 36)⟩,
           ⟨some 38, none, .pick (.t 35) (.c (.bool true)) (.t 37)⟩,
           ⟨some 39, none, .mov (.t 38)⟩,
           ⟨some 40, some (39, false), .fa 2 (.t 1)⟩,
           ⟨some 41, some (39, false), .ld none (.t 40)⟩,
           ⟨some 42, some (39, false), .call (.c (.fn (.func 62) [] [])) [(.t 41)]⟩,
           ⟨some 43, some (39, false), .un .not (.t 42)⟩,
           ⟨some 44, none, .pick (.t 39) (.c (.bool true)) (.t 43)⟩,
           ⟨some 45, none, .mov (.t 44)⟩,
           ⟨some 46, some (45, false), .fa 5 (.t 1)⟩,
           ⟨some 47, some (45, false), .ld none (.t 46)⟩,
           ⟨some 48, some (45, false), .call (.c (.fn (.func 61) [] [])) [(.t 47), (.c (.int .u8 32)), (.c (.int .u8 126))]⟩,
           ⟨some 49, some (45, false), .un .not (.t 48)⟩,
           ⟨some 50, none, .pick (.t 45) (.c (.bool true)) (.t 49)⟩,
           ⟨some 51, none, .mov (.t 50)⟩,
           ⟨some 52, some (51, false), .ld (some 6) (.t 1)⟩,
           ⟨some 53, some (51, false), .call (.c (.fn (.func 63) [] [])) [(.t 52)]⟩,
           ⟨some 54, some (51, false), .un .not (.t 53)⟩,
           ⟨some 55, none, .pick (.t 51) (.c (.bool true)) (.t 54)⟩,
           ⟨some 32, none, .mov (.t 55)⟩] (some [32]))
         (.cond (.t 32)
          (.seq
           (.reg [⟨some 2, none, .mov (.c (.int .i64 1))⟩] (some [2]))
           .ret)
          .skip)))))
     (.seq
      (.reg [⟨some 2, none, .mov (.c (.int .i64 0))⟩] (some [2]))
      .ret)))))
theorem is_wireMay : IrOf Tryd.prog 44 56 ir_wireMay [.t 2] := ⟨_, Tryd.func44, rfl, by kernel_rfl, by kernel_rfl, by kernel_rfl⟩


def within (x y : Int) (s : List UInt8) : Bool := s.all fun c => decide (x ≤ c.toNat) && decide ((c.toNat : Int) ≤ y)
/-- Whether a sequence may be: 0; 4: too long; 1: not. -/
def mayP (s : Sq) : Int :=
  if decide ((s.da.length : Int) > 4096) = true then 4
  else if (!(s.pr == 0 || (decide (s.pr ≥ 60) && decide (s.pr ≤ 63))) || !(decide ((s.it.length : Int) ≤ 2) && within 32 47 s.it) || !parsOk s.ps || !within 32 126 s.da || !shapedP s) = true then 1 else 0

set_option maxHeartbeats 2000000 in
theorem fs_May {Gl : Gh → Prop} (hst : Stays Gl) {s : Sq} (hf0 : 0 ≤ s.fi) (hf1 : s.fi < 128) (h1 : s.ps.length < 9223372036854775808) (h2 : ∀ p ∈ s.ps, p.length < 9223372036854775808) (h3 : s.it.length < 9223372036854775808) (h4 : s.da.length < 9223372036854775808) :
    FS Tryd.prog Gl 44 [.agg s.c] [] [] (.int .i64 (mayP s)) [] [] := by
  have c1 := fs_between hst h3 (x := 32) (y := 47) (by omega) (by omega)
  have c2 := fs_listed hst h1 h2
  have c3 := fs_between hst h4 (x := 32) (y := 126) (by omega) (by omega)
  have c4 := fs_shaped hst hf0 hf1
  refine FS.of hm hst is_wireMay (by simp) fun γ hγ hfr => ?_
  have hsp : mayP s = if decide ((s.da.length : Int) > 4096) = true then 4 else if (!(s.pr == 0 || (decide (s.pr ≥ 60) && decide (s.pr ≤ 63))) || !(decide ((s.it.length : Int) ≤ 2) && within 32 47 s.it) || !parsOk s.ps || !within 32 126 s.da || !shapedP s) = true then 1 else 0 := rfl
  rw [hsp]
  change FS _ _ _ _ _ _ (.bool (within 32 47 s.it)) _ _ at c1
  change FS _ _ _ _ _ _ (.bool (within 32 126 s.da)) _ _ at c3
  obtain ⟨k, pr, ps, it, fi, da⟩ := s
  simp only at c1 c2 c3 c4 ⊢
  generalize hp0 : (pr == 0) = p0
  generalize hp1 : decide (pr ≥ 60) = p1
  generalize hp2 : decide (pr ≤ 63) = p2
  generalize hit : decide ((it.length : Int) ≤ 2) = it2
  generalize hda : decide ((da.length : Int) > 4096) = da4
  generalize within 32 47 it = w1 at c1
  generalize within 32 126 da = w2 at c3
  generalize parsOk ps = pk at c2
  generalize shapedP _ = sh at c4
  simp only [Sq.c] at c4 ⊢
  have cl : AV.closedL [AV.int .i64 k, .int .u8 pr, parsV ps, .str it, .int .u8 fi, .str da] = true := rfl
  (generalize hQ : (fun (ex : Ex) (_ _ : Nat) (s : St) => _) = Q; unfold ir_wireMay)
  simp +contextual (maxSteps := 1000000) only [hp0, hp1, hp2, hit, hda, go_sem, reduceCtorEq, ↓reduceIte, Nat.reduceAdd, Nat.reduceEqDiff, Nat.reduceLeDiff, Nat.reduceMul, Nat.reduceBEq, Int.reduceBEq, Int.reduceBNe, Int.reduceLT, Int.reduceLE, Int.reduceGT, Int.reduceGE, Int.reduceToNat, Int.natCast_one, Int.natCast_zero, Int.cast_ofNat_Int]
  generalize (p0 || p1 && p2) = b0 at hQ ⊢
  (refine kGc_call (c1) (fun _ => rfl) (fun hgc => ?_) ?_; (focus (first | (rw [Bool.not_eq_true'] at hgc; simp only [List.map_cons, List.map_nil, List.nil_append, List.append_nil, List.cons_append, Xev_t, Xev_c, upd_app, lf_cons, lf_nil, Nat.reduceEqDiff, ↓reduceIte, hgc, Bool.false_eq_true, Bool.true_eq_false, reduceCtorEq]; done) | (simp only [List.map_cons, List.map_nil, List.nil_append, List.append_nil, List.cons_append, Xev_t, Xev_c, upd_app, lf_cons, lf_nil, Nat.reduceEqDiff, ↓reduceIte, hgc, Bool.false_eq_true, Bool.true_eq_false, reduceCtorEq]; done) | (revert hgc; simp +contextual [Xev_t, Xev_c, upd_app, lf_cons, lf_nil]; done) | simp [Xev_t, Xev_c, upd_app, lf_cons, lf_nil])); simp +contextual (maxSteps := 1000000) only [hp0, hp1, hp2, hit, hda, go_sem, reduceCtorEq, ↓reduceIte, Nat.reduceAdd, Nat.reduceEqDiff, Nat.reduceLeDiff, Nat.reduceMul, Nat.reduceBEq, Int.reduceBEq, Int.reduceBNe, Int.reduceLT, Int.reduceLE, Int.reduceGT, Int.reduceGE, Int.reduceToNat, Int.natCast_one, Int.natCast_zero, Int.cast_ofNat_Int])
  generalize (it2 && w1) = b1 at hQ ⊢
  cases da4
  · simp +contextual (maxSteps := 1000000) only [go_sem, reduceCtorEq, ↓reduceIte, Nat.reduceAdd, Nat.reduceEqDiff, Nat.reduceLeDiff, Nat.reduceMul, Nat.reduceBEq, Int.reduceBEq, Int.reduceBNe, Int.reduceLT, Int.reduceLE, Int.reduceGT, Int.reduceGE, Int.reduceToNat, Int.natCast_one, Int.natCast_zero, Int.cast_ofNat_Int]
    (refine kGc_call (c2) (fun _ => rfl) (fun hgc => ?_) ?_; (focus (first | (rw [Bool.not_eq_true'] at hgc; simp only [List.map_cons, List.map_nil, List.nil_append, List.append_nil, List.cons_append, Xev_t, Xev_c, upd_app, lf_cons, lf_nil, Nat.reduceEqDiff, ↓reduceIte, hgc, Bool.false_eq_true, Bool.true_eq_false, reduceCtorEq]; done) | (simp only [List.map_cons, List.map_nil, List.nil_append, List.append_nil, List.cons_append, Xev_t, Xev_c, upd_app, lf_cons, lf_nil, Nat.reduceEqDiff, ↓reduceIte, hgc, Bool.false_eq_true, Bool.true_eq_false, reduceCtorEq]; done) | (revert hgc; simp +contextual [Xev_t, Xev_c, upd_app, lf_cons, lf_nil]; done) | simp [Xev_t, Xev_c, upd_app, lf_cons, lf_nil])); simp +contextual (maxSteps := 1000000) only [hp0, go_sem, reduceCtorEq, ↓reduceIte, Nat.reduceAdd, Nat.reduceEqDiff, Nat.reduceLeDiff, Nat.reduceMul, Nat.reduceBEq, Int.reduceBEq, Int.reduceBNe, Int.reduceLT, Int.reduceLE, Int.reduceGT, Int.reduceGE, Int.reduceToNat, Int.natCast_one, Int.natCast_zero, Int.cast_ofNat_Int])
    (refine kGc_call (c3) (fun _ => rfl) (fun hgc => ?_) ?_; (focus (first | (rw [Bool.not_eq_true'] at hgc; simp only [List.map_cons, List.map_nil, List.nil_append, List.append_nil, List.cons_append, Xev_t, Xev_c, upd_app, lf_cons, lf_nil, Nat.reduceEqDiff, ↓reduceIte, hgc, Bool.false_eq_true, Bool.true_eq_false, reduceCtorEq]; done) | (simp only [List.map_cons, List.map_nil, List.nil_append, List.append_nil, List.cons_append, Xev_t, Xev_c, upd_app, lf_cons, lf_nil, Nat.reduceEqDiff, ↓reduceIte, hgc, Bool.false_eq_true, Bool.true_eq_false, reduceCtorEq]; done) | (revert hgc; simp +contextual [Xev_t, Xev_c, upd_app, lf_cons, lf_nil]; done) | simp [Xev_t, Xev_c, upd_app, lf_cons, lf_nil])); simp +contextual (maxSteps := 1000000) only [hp0, go_sem, reduceCtorEq, ↓reduceIte, Nat.reduceAdd, Nat.reduceEqDiff, Nat.reduceLeDiff, Nat.reduceMul, Nat.reduceBEq, Int.reduceBEq, Int.reduceBNe, Int.reduceLT, Int.reduceLE, Int.reduceGT, Int.reduceGE, Int.reduceToNat, Int.natCast_one, Int.natCast_zero, Int.cast_ofNat_Int])
    (refine kGc_call (c4) (fun _ => rfl) (fun hgc => ?_) ?_; (focus (first | (rw [Bool.not_eq_true'] at hgc; simp only [List.map_cons, List.map_nil, List.nil_append, List.append_nil, List.cons_append, Xev_t, Xev_c, upd_app, lf_cons, lf_nil, Nat.reduceEqDiff, ↓reduceIte, hgc, Bool.false_eq_true, Bool.true_eq_false, reduceCtorEq]; done) | (simp only [List.map_cons, List.map_nil, List.nil_append, List.append_nil, List.cons_append, Xev_t, Xev_c, upd_app, lf_cons, lf_nil, Nat.reduceEqDiff, ↓reduceIte, hgc, Bool.false_eq_true, Bool.true_eq_false, reduceCtorEq]; done) | (revert hgc; simp +contextual [Xev_t, Xev_c, upd_app, lf_cons, lf_nil]; done) | simp [Xev_t, Xev_c, upd_app, lf_cons, lf_nil])); simp +contextual (maxSteps := 1000000) only [hp0, go_sem, reduceCtorEq, ↓reduceIte, Nat.reduceAdd, Nat.reduceEqDiff, Nat.reduceLeDiff, Nat.reduceMul, Nat.reduceBEq, Int.reduceBEq, Int.reduceBNe, Int.reduceLT, Int.reduceLE, Int.reduceGT, Int.reduceGE, Int.reduceToNat, Int.natCast_one, Int.natCast_zero, Int.cast_ofNat_Int])
    cases hb : (!b0 || !b1 || !pk || !w2 || !sh) <;> rw [hb] at hQ <;> simp +contextual (maxSteps := 1000000) only [hb, go_sem, reduceCtorEq, ↓reduceIte, Nat.reduceAdd, Nat.reduceEqDiff, Nat.reduceLeDiff, Nat.reduceMul, Nat.reduceBEq, Int.reduceBEq, Int.reduceBNe, Int.reduceLT, Int.reduceLE, Int.reduceGT, Int.reduceGE, Int.reduceToNat, Int.natCast_one, Int.natCast_zero, Int.cast_ofNat_Int] <;> rw [← hQ] <;> exact ⟨trivial, Ret.flat rfl rfl⟩
  · simp +contextual (maxSteps := 1000000) only [go_sem, reduceCtorEq, ↓reduceIte, Nat.reduceAdd, Nat.reduceEqDiff, Nat.reduceLeDiff, Nat.reduceMul, Nat.reduceBEq, Int.reduceBEq, Int.reduceBNe, Int.reduceLT, Int.reduceLE, Int.reduceGT, Int.reduceGE, Int.reduceToNat, Int.natCast_one, Int.natCast_zero, Int.cast_ofNat_Int]
    rw [← hQ]; exact ⟨trivial, Ret.flat rfl rfl⟩
end Go.Proofs.YtbepihadhmfklaaDoor

set_option linter.unusedVariables false
set_option linter.unusedSimpArgs false
set_option maxRecDepth 100000
namespace Go.Proofs.YtbepihadhmfklaaDoor
open Go Go.Ab
end Go.Proofs.YtbepihadhmfklaaDoor

set_option linter.unusedVariables false
set_option linter.unusedSimpArgs false
set_option maxRecDepth 100000
namespace Go.Proofs.YtbepihadhmfklaaDoor
open Go Go.Ab
end Go.Proofs.YtbepihadhmfklaaDoor

set_option linter.unusedVariables false
set_option linter.unusedSimpArgs false
set_option maxRecDepth 100000
namespace Go.Proofs.YtbepihadhmfklaaDoor
open Go Go.Ab
def prB (pr : Int) : List UInt8 := if (pr != 0) = true then [pr.toNat.toUInt8] else []
def bodyB (s : Sq) : List UInt8 := prB s.pr ++ parsText s.ps ++ s.it
theorem byteOf {n : Int} (h0 : 0 ≤ n) (h1 : n < 256) : ∃ c : UInt8, n = (c.toNat : Int) := ⟨UInt8.ofNat n.toNat, by rw [UInt8.toNat_ofNat', Nat.mod_eq_of_lt (by omega)]; omega⟩
theorem subText_len {p : List Int} (h : ∀ n ∈ p, n ≤ 1114111) : (subText p).length ≤ 20 * p.length := by
  induction p with
  | nil => simp [subText, jn]
  | cons n p ih =>
    have h1 : (textZ n).length ≤ 19 := by
      unfold textZ
      split
      · simp
      · exact decB_len20 (by have := h n (by simp); omega)
    cases p with
    | nil => simp [subText, jn]; omega
    | cons m p =>
      have := ih fun x hx => h x (by simp at hx ⊢; exact .inr hx)
      simp only [subText, List.map_cons] at this ⊢
      rw [jn_cons (by simp)]
      simp only [List.length_append, List.length_cons] at this ⊢; omega
theorem parsText_len {ps : List (List Int)} (h : ∀ p ∈ ps, p.length ≤ 8 ∧ ∀ n ∈ p, n ≤ 1114111) : (parsText ps).length ≤ 161 * ps.length := by
  induction ps with
  | nil => simp [parsText, jn]
  | cons n p ih =>
    have h1 := subText_len (h n (by simp)).2
    have h2 := (h n (by simp)).1
    cases p with
    | nil => simp [parsText, jn]; omega
    | cons m p =>
      have := ih fun x hx => h x (by simp at hx ⊢; exact .inr hx)
      simp only [parsText, List.map_cons] at this ⊢
      rw [jn_cons (by simp)]
      simp only [List.length_append, List.length_cons] at this ⊢; omega

end Go.Proofs.YtbepihadhmfklaaDoor

set_option linter.unusedVariables false
set_option linter.unusedSimpArgs false
namespace Go.Proofs.YtbepihadhmfklaaDoor
open Go Go.Ab

/-- No list of it is longer than there may be. -/
structure Sq.sm (s : Sq) : Prop where
  ps : s.ps.length < 9223372036854775808
  pp : ∀ p ∈ s.ps, p.length < 9223372036854775808
  it : s.it.length < 9223372036854775808
  da : s.da.length < 9223372036854775808
theorem parsOk_len {l : List (List Int)} (h : parsOk l = true) : l.length ≤ 16 ∧ ∀ p ∈ l, p.length ≤ 8 := by
  simp only [parsOk, Bool.and_eq_true, Bool.not_eq_true', Bool.or_eq_false_iff, decide_eq_false_iff_not] at h
  obtain ⟨⟨h1, _⟩, h2⟩ := h
  refine ⟨by omega, fun p hp => ?_⟩
  have := List.any_eq_false.1 h2 p hp
  simp only [parBad, Bool.or_eq_true, decide_eq_true_eq, not_or] at this
  omega
theorem mayP_sm {s : Sq} (h : mayP s = 0) : s.sm ∧ s.ps.length ≤ 16 ∧ (∀ p ∈ s.ps, p.length ≤ 8) ∧ s.it.length ≤ 2 ∧ s.da.length ≤ 4096 := by
  simp only [mayP] at h
  split at h
  · cases h
  · rename_i h1
    split at h
    · cases h
    · rename_i h2
      simp only [Bool.or_eq_true, Bool.not_eq_true', not_or, Bool.not_eq_false, Bool.and_eq_true, decide_eq_true_eq] at h2 h1
      obtain ⟨⟨⟨⟨_, h3⟩, h4⟩, _⟩, _⟩ := h2
      obtain ⟨k1, k2⟩ := parsOk_len h4
      have k3 : s.it.length ≤ 2 := by have := h3.1; omega
      have k4 : s.da.length ≤ 4096 := by omega
      exact ⟨⟨by omega, fun p hp => by have := k2 p hp; omega, by omega, by omega⟩, k1, k2, k3, k4⟩

end Go.Proofs.YtbepihadhmfklaaDoor

set_option linter.unusedVariables false
set_option linter.unusedSimpArgs false
set_option maxRecDepth 100000
namespace Go.Proofs.YtbepihadhmfklaaDoor
open Go Go.Ab
/-- A sequence as bytes. -/
def putB (s : Sq) : List UInt8 :=
  let f := [s.fi.toNat.toUInt8]
  if (s.k == 1) = true then [27, 91] ++ bodyB s ++ f
  else if (s.k == 2) = true then [27, 79] ++ f
  else if (s.k == 3) = true then [27, 80] ++ bodyB s ++ f ++ s.da ++ [27, 92]
  else if (s.k == 4) = true then [27, 93] ++ s.da ++ [27, 92]
  else [27] ++ s.it ++ f
def putV (s : Sq) : AV := if (mayP s != 0) = true then .nils else .sl none 1 (bytesAV (putB s))
theorem bodyB_len {s : Sq} (h : mayP s = 0) : (bodyB s).length ≤ 3000 := by
  obtain ⟨_, h1, h2, h3, h4⟩ := mayP_sm h
  have h5 : parsOk s.ps = true := by
    simp only [mayP] at h
    split at h
    · cases h
    · split at h
      · cases h
      · rename_i h2
        simp only [Bool.or_eq_true, Bool.not_eq_true', not_or, Bool.not_eq_false] at h2
        exact h2.1.1.2
  have := parsText_len (ps := s.ps) fun p hp => ⟨((parsOk_iff h5).2.2 p hp).2.1, fun n hn => (((parsOk_iff h5).2.2 p hp).2.2 n hn).2⟩
  have h6 : (prB s.pr).length ≤ 1 := by unfold prB; split <;> simp
  simp only [bodyB, List.length_append]; omega
theorem may_pars {s : Sq} (h : mayP s = 0) : parsOk s.ps = true := by
  simp only [mayP] at h
  split at h
  · cases h
  · split at h
    · cases h
    · rename_i h2
      simp only [Bool.or_eq_true, Bool.not_eq_true', not_or, Bool.not_eq_false] at h2
      exact h2.1.1.2
end Go.Proofs.YtbepihadhmfklaaDoor

set_option linter.unusedVariables false
set_option linter.unusedSimpArgs false
set_option maxRecDepth 100000
namespace Go.Proofs.YtbepihadhmfklaaDoor
open Go Go.Ab
/- clavier/wire.one -/
def ir_wireone_l0 : ICode :=
 (.seq
        (.reg [⟨some 9, none, .bin .lss .none (.t 8) (.t 7)⟩] (some [3, 6, 7, 8, 9]))
        (.seq
         (.cond (.t 9)
          .skip
          (.exit 0))
         (.seq
          (.blk 1
           (.seq
            (.reg [⟨some 10, none, .ia 1 (.t 6) (.t 8)⟩,
              ⟨some 11, none, .ld none (.t 10)⟩,
              ⟨some 5, none, .mov (.t 11)⟩] (some [3, 5, 6, 7, 8]))
            (.reg [⟨some 12, none, .mov (.t 3)⟩,
              ⟨some 13, none, .mov (.t 5)⟩,
              ⟨some 14, none, .call (.c (.fn (.func 87) [] [])) [(.t 13)]⟩,
              ⟨some 15, none, .row 9 1 [(.t 14)]⟩,
              ⟨some 16, none, .app 9 1 16 (.t 12) (.t 15)⟩,
              ⟨some 3, none, .mov (.t 16)⟩] (some [3, 6, 7, 8]))))
          (.reg [⟨some 17, none, .bin .add .none (.t 8) (.c (.int .i64 1))⟩,
            ⟨some 8, none, .mov (.t 17)⟩] (some [3, 6, 7, 8])))))
def ir_wireone : ICode :=
 (.seq
  (.reg [⟨some 2, none, .mov (.c (.str []))⟩] (some [0]))
  (.seq
   (.reg [⟨some 3, none, .mov (.c .nils)⟩] (some [0, 3]))
   (.seq
    (.seq
     (.reg [⟨some 6, none, .mov (.t 0)⟩,
       ⟨some 7, none, .len (.t 6)⟩,
       ⟨some 8, none, .mov (.c (.int .i64 0))⟩] (some [3, 6, 7, 8]))
     (.blk 0
      (.loop
       ir_wireone_l0)))
    (.seq
     (.reg [⟨some 18, none, .mov (.t 3)⟩,
       ⟨some 19, none, .call (.c (.fn (.func 64) [] [])) [(.t 18), (.c (.str [58]))]⟩,
       ⟨some 2, none, .mov (.t 19)⟩] (some [2]))
     .ret))))
theorem is_wireone : IrOf Tryd.prog 65 20 ir_wireone [.t 2] := ⟨_, Tryd.func65, rfl, by kernel_rfl, by kernel_rfl, by kernel_rfl⟩

/- clavier/wire.body -/
def ir_wirebody_l0 : ICode :=
 (.seq
        (.reg [⟨some 11, none, .bin .lss .none (.t 10) (.t 9)⟩] (some [1, 3, 8, 9, 10, 11]))
        (.seq
         (.cond (.t 11)
          .skip
          (.exit 0))
         (.seq
          (.blk 1
           (.seq
            (.reg [⟨some 12, none, .ia 1 (.t 8) (.t 10)⟩,
              ⟨some 13, none, .ld none (.t 12)⟩,
              ⟨some 5, none, .mov (.t 13)⟩] (some [1, 3, 5, 8, 9, 10]))
            (.reg [⟨some 14, none, .mov (.t 3)⟩,
              ⟨some 15, none, .mov (.t 5)⟩,
              ⟨some 16, none, .call (.c (.fn (.func 65) [] [])) [(.t 15)]⟩,
              ⟨some 17, none, .row 9 1 [(.t 16)]⟩,
              ⟨some 18, none, .app 9 1 16 (.t 14) (.t 17)⟩,
              ⟨some 3, none, .mov (.t 18)⟩] (some [1, 3, 8, 9, 10]))))
          (.reg [⟨some 19, none, .bin .add .none (.t 10) (.c (.int .i64 1))⟩,
            ⟨some 10, none, .mov (.t 19)⟩] (some [1, 3, 8, 9, 10])))))
def ir_wirebody : ICode :=
 (.seq
  (.reg [⟨some 1, none, .box 51 (.t 0)⟩,
    ⟨some 2, none, .mov (.c (.str []))⟩] (some [1]))
  (.seq
   (.reg [⟨some 3, none, .mov (.c .nils)⟩] (some [1, 3]))
   (.seq
    (.seq
     (.reg [⟨some 7, none, .fa 2 (.t 1)⟩,
       ⟨some 8, none, .ld none (.t 7)⟩,
       ⟨some 9, none, .len (.t 8)⟩,
       ⟨some 10, none, .mov (.c (.int .i64 0))⟩] (some [1, 3, 8, 9, 10]))
     (.blk 0
      (.loop
       ir_wirebody_l0)))
    (.seq
     (.drw [⟨⟨some 20, none, .mov (.t 3)⟩, []⟩,
       ⟨⟨some 21, none, .call (.c (.fn (.func 64) [] [])) [(.t 20), (.c (.str [59]))]⟩, [0]⟩,
       ⟨⟨some 22, none, .fa 3 (.t 1)⟩, []⟩,
       ⟨⟨some 23, none, .ld none (.t 22)⟩, [2]⟩,
       ⟨⟨some 24, none, .bin .add .none (.t 21) (.t 23)⟩, [1, 3]⟩,
       ⟨⟨some 25, none, .fa 4 (.t 1)⟩, []⟩,
       ⟨⟨some 26, none, .ld none (.t 25)⟩, [5]⟩,
       ⟨⟨some 27, none, .row 5 1 [(.t 26)]⟩, [6]⟩,
       ⟨⟨some 28, none, .b2s (.t 27)⟩, [7]⟩,
       ⟨⟨some 29, none, .bin .add .none (.t 24) (.t 28)⟩, [4, 8]⟩]
       [⟨some 6, none, .mov (.t 29)⟩] (some [1, 6]))
     (.seq
      (.seq
       (.reg [⟨some 30, none, .fa 1 (.t 1)⟩,
         ⟨some 31, none, .ld none (.t 30)⟩,
         ⟨some 32, none, .bin .neq .none (.t 31) (.c (.int .u8 0))⟩] (some [1, 6, 32]))
       (.cond (.t 32)
        (.reg [⟨some 33, none, .fa 1 (.t 1)⟩,
          ⟨some 34, none, .ld none (.t 33)⟩,
          ⟨some 35, none, .row 5 1 [(.t 34)]⟩,
          ⟨some 36, none, .b2s (.t 35)⟩,
          ⟨some 37, none, .mov (.t 6)⟩,
          ⟨some 38, none, .bin .add .none (.t 36) (.t 37)⟩,
          ⟨some 6, none, .mov (.t 38)⟩] (some [6]))
        .skip))
      (.seq
       (.reg [⟨some 39, none, .mov (.t 6)⟩,
         ⟨some 2, none, .mov (.t 39)⟩] (some [2]))
       .ret))))))
theorem is_wirebody : IrOf Tryd.prog 46 40 ir_wirebody [.t 2] := ⟨_, Tryd.func46, rfl, by kernel_rfl, by kernel_rfl, by kernel_rfl⟩

/-- clavier/wire.glue -/
def ir_wireglue : ICode :=
 (.seq
  (.reg [⟨some 2, none, .mov (.c .nils)⟩] (some [0]))
  (.seq
   (.reg [⟨some 3, none, .row 5 1 [(.c (.int .u8 27))]⟩,
     ⟨some 4, none, .mov (.t 0)⟩,
     ⟨some 5, none, .call (.c (.fn (.func 64) [] [])) [(.t 4), (.c (.str []))]⟩,
     ⟨some 6, none, .aps 5 (.t 3) (.t 5)⟩,
     ⟨some 2, none, .mov (.t 6)⟩] (some [2]))
   .ret))
theorem is_wireglue : IrOf Tryd.prog 45 7 ir_wireglue [.t 2] := ⟨_, Tryd.func45, rfl, by kernel_rfl, by kernel_rfl, by kernel_rfl⟩


theorem join_jn (c : UInt8) : ∀ xs : List (List UInt8), Lib.join xs [c] = jn c xs
  | [] => rfl
  | [x] => by simp [Lib.join, List.intercalate, jn]
  | x :: y :: l => by
    have ih := join_jn c (y :: l)
    simp only [Lib.join, List.intercalate] at ih ⊢
    rw [jn, ← ih]
    simp [List.intersperse]
theorem join_flat : ∀ xs : List (List UInt8), Lib.join xs [] = xs.flatten
  | [] => rfl
  | [x] => by simp [Lib.join, List.intercalate]
  | x :: y :: l => by
    have ih := join_flat (y :: l)
    simp only [Lib.join, List.intercalate] at ih ⊢
    rw [List.flatten_cons, ← ih]
    simp [List.intersperse]
theorem strsAV_snoc (xs : List (List UInt8)) (x : List UInt8) : strsAV (xs ++ [x]) = strsAV xs ++ [[.str x]] := by simp [strsAV]
theorem strsAV_length (xs : List (List UInt8)) : (strsAV xs).length = xs.length := by simp [strsAV]
set_option maxHeartbeats 2000000 in
theorem fs_one {Gl : Gh → Prop} (hst : Stays Gl) {p : List Int} {t : Option Nm} (hl : p.length ≤ 100000) (hp : ∀ n ∈ p, n ≤ 1114111) : FS Tryd.prog Gl 65 [.sl t 1 (intsAV p)] [] [] (.str (subText p)) [] [] := by
  refine FS.of hm hst is_wireone (by simp) fun γ hγ hfr => ?_
  have hsl := subText_len hp
  (generalize hQ : (fun (ex : Ex) (_ _ : Nat) (s : St) => _) = Q; unfold ir_wireone)
  simp +contextual (maxSteps := 1000000) only [intsAV_length, go_sem, reduceCtorEq, ↓reduceIte, Nat.reduceAdd, Nat.reduceEqDiff, Nat.reduceLeDiff, Nat.reduceMul, Nat.reduceBEq, Int.reduceBEq, Int.reduceBNe, Int.reduceLT, Int.reduceLE, Int.reduceGT, Int.reduceGE, Int.reduceToNat, Int.natCast_one, Int.natCast_zero, Int.cast_ofNat_Int]
  refine kLoop_ix (fun q : Nat × Option Nm => ⟨lf [(3, sv q.2 1 (strsAV ((p.take q.1).map textZ))), (6, .sl t 1 (intsAV p)), (7, .int .i64 (p.length : Int)), (8, .int .i64 (q.1 : Int))], [], fun x => q.2 = some x⟩)
    (fun q => q.1 ≤ p.length ∧ (q.2 = none → q.1 = 0)) (fun q => p.length - q.1) 0 (0, none) ?_ ⟨by simp, by simp⟩ ?_
  · refine Wk.perm' ?_ (fun p hp => by cases hp) (fun t ht => by cases ht)
    simp only [lfOK, upd]
    repeat' first | exact AVle.refl _ _ | exact trivial | refine And.intro ?_ ?_ | exact AVle.int (by simp only [IntKind.wrap_i64]; omega)
  · rintro γ' ⟨i, tk⟩ hf ⟨hi, htk⟩
    simp only at hi htk
    generalize hQ' : kIt _ _ _ _ _ = Q'
    unfold ir_wireone_l0
    by_cases hlt : i < p.length
    · have hd : decide ((i : Int) < (p.length : Int)) = true := by simp; omega
      have hg1 : (intsAV p).getD i [] = [.int .i64 p[i]] := intsAV_get hlt
      have hpi := hp _ (List.getElem_mem hlt)
      have c1 := fs_NumText (Gl := Gl) hst (n := p[i]) (by omega)
      have htk1 : (p.take (i + 1)).map textZ = (p.take i).map textZ ++ [textZ p[i]] := by
        rw [List.take_add_one, List.getElem?_eq_getElem hlt, List.map_append]; rfl
      have hlen : (strsAV ((p.take i).map textZ)).length ≤ p.length := by rw [strsAV_length]; simp; omega
      cases tk with
      | none =>
        have h0 := htk rfl
        have ht0 : p.take i = [] := by rw [h0]; rfl
        rw [ht0, List.map_nil, List.nil_append] at htk1
        simp +contextual (maxSteps := 1000000) only [hd, hg1, Int.toNat_natCast, intsAV_length, go_sem, reduceCtorEq, ↓reduceIte, Nat.reduceAdd, Nat.reduceEqDiff, Nat.reduceLeDiff, Nat.reduceMul, Nat.reduceBEq, Int.reduceBEq, Int.reduceBNe, Int.reduceLT, Int.reduceLE, Int.reduceGT, Int.reduceGE, Int.reduceToNat, Int.natCast_one, Int.natCast_zero, Int.cast_ofNat_Int]
        refine ⟨⟨by omega, by omega⟩, ?_⟩
        (refine CallP.pure (c1) (fun _ => rfl) ?_; simp +contextual (maxSteps := 1000000) only [go_sem, reduceCtorEq, ↓reduceIte, Nat.reduceAdd, Nat.reduceEqDiff, Nat.reduceLeDiff, Nat.reduceMul, Nat.reduceBEq, Int.reduceBEq, Int.reduceBNe, Int.reduceLT, Int.reduceLE, Int.reduceGT, Int.reduceGE, Int.reduceToNat, Int.natCast_one, Int.natCast_zero, Int.cast_ofNat_Int])
        rw [← hQ']
        simp only [w_kIt_n]
        refine ⟨0, (i + 1, some (γ', 8, 0)), Wk.perm' ?_ (fun p hp => by cases hp) ?_, ⟨by simp only; omega, by simp⟩, by simp only; omega⟩
        · simp only [htk1, sv_some, strsAV, List.map_cons, List.map_nil]
          repeat' first | exact AVle.refl _ _ | exact trivial | refine And.intro ?_ ?_ | exact AVle.int (by simp only [IntKind.wrap_i64]; omega)
        · intro t ht
          cases ht
          exact .inl rfl
      | some t0 =>
        simp +contextual (maxSteps := 1000000) only [hd, hg1, Int.toNat_natCast, intsAV_length, go_sem, reduceCtorEq, ↓reduceIte, Nat.reduceAdd, Nat.reduceEqDiff, Nat.reduceLeDiff, Nat.reduceMul, Nat.reduceBEq, Int.reduceBEq, Int.reduceBNe, Int.reduceLT, Int.reduceLE, Int.reduceGT, Int.reduceGE, Int.reduceToNat, Int.natCast_one, Int.natCast_zero, Int.cast_ofNat_Int]
        refine ⟨⟨by omega, by omega⟩, ?_⟩
        (refine CallP.pure (c1) (fun _ => rfl) ?_; simp +contextual (maxSteps := 1000000) only [go_sem, reduceCtorEq, ↓reduceIte, Nat.reduceAdd, Nat.reduceEqDiff, Nat.reduceLeDiff, Nat.reduceMul, Nat.reduceBEq, Int.reduceBEq, Int.reduceBNe, Int.reduceLT, Int.reduceLE, Int.reduceGT, Int.reduceGE, Int.reduceToNat, Int.natCast_one, Int.natCast_zero, Int.cast_ofNat_Int])
        refine ⟨⟨.inr trivial, by omega⟩, ?_⟩
        rw [← hQ']
        simp only [w_kIt_n]
        refine ⟨0, (i + 1, some (γ', 8, 0)), Wk.perm' ?_ (fun p hp => by cases hp) ?_, ⟨by simp only; omega, by simp⟩, by simp only; omega⟩
        · simp only [htk1, sv_some, strsAV_snoc]
          repeat' first | exact AVle.refl _ _ | exact trivial | refine And.intro ?_ ?_ | exact AVle.int (by simp only [IntKind.wrap_i64]; omega)
        · intro t ht
          cases ht
          exact .inl rfl
    · have hii : i = p.length := by omega
      have hd : decide ((i : Int) < (p.length : Int)) = false := by simp; omega
      have hfull : (p.take i).map textZ = p.map textZ := by rw [List.take_of_length_le (by omega)]
      have hjl : (Lib.join (p.map textZ) [58]).length ≤ 140737488355328 := by
        rw [join_jn]; show (subText p).length ≤ _; omega
      have hz : Lib.join (p.map textZ) [58] = subText p := join_jn 58 _
      cases tk with
      | none =>
        have h0 : p = [] := List.length_eq_zero_iff.1 (by rw [← hii]; exact htk rfl)
        have c1 := (fs_Join (Gl := Gl) (xs := p.map textZ) (sep := [58]) (t := none) (by simp; omega) hjl).args (args := [.nils, .str [58]]) ⟨by rw [h0]; exact RepLe.nils 1, RepLe.refl _, trivial⟩
        rw [hz] at c1
        simp +contextual (maxSteps := 1000000) only [hd, go_sem, reduceCtorEq, ↓reduceIte, Nat.reduceAdd, Nat.reduceEqDiff, Nat.reduceLeDiff, Nat.reduceMul, Nat.reduceBEq, Int.reduceBEq, Int.reduceBNe, Int.reduceLT, Int.reduceLE, Int.reduceGT, Int.reduceGE, Int.reduceToNat, Int.natCast_one, Int.natCast_zero, Int.cast_ofNat_Int]
        rw [← hQ']
        simp only [w_kIt_e, w_kBlk_e, ↓reduceIte]
        simp +contextual (maxSteps := 1000000) only [go_sem, reduceCtorEq, ↓reduceIte, Nat.reduceAdd, Nat.reduceEqDiff, Nat.reduceLeDiff, Nat.reduceMul, Nat.reduceBEq, Int.reduceBEq, Int.reduceBNe, Int.reduceLT, Int.reduceLE, Int.reduceGT, Int.reduceGE, Int.reduceToNat, Int.natCast_one, Int.natCast_zero, Int.cast_ofNat_Int]
        (refine CallP.pure (c1) (fun _ => rfl) ?_; simp +contextual (maxSteps := 1000000) only [go_sem, reduceCtorEq, ↓reduceIte, Nat.reduceAdd, Nat.reduceEqDiff, Nat.reduceLeDiff, Nat.reduceMul, Nat.reduceBEq, Int.reduceBEq, Int.reduceBNe, Int.reduceLT, Int.reduceLE, Int.reduceGT, Int.reduceGE, Int.reduceToNat, Int.natCast_one, Int.natCast_zero, Int.cast_ofNat_Int])
        rw [← hQ]
        exact ⟨trivial, Ret.flat rfl rfl⟩
      | some t0 =>
        have c1 := fs_Join (Gl := Gl) (xs := p.map textZ) (sep := [58]) (t := some t0) (by simp; omega) hjl
        rw [hz] at c1
        simp +contextual (maxSteps := 1000000) only [hd, hfull, go_sem, reduceCtorEq, ↓reduceIte, Nat.reduceAdd, Nat.reduceEqDiff, Nat.reduceLeDiff, Nat.reduceMul, Nat.reduceBEq, Int.reduceBEq, Int.reduceBNe, Int.reduceLT, Int.reduceLE, Int.reduceGT, Int.reduceGE, Int.reduceToNat, Int.natCast_one, Int.natCast_zero, Int.cast_ofNat_Int]
        rw [← hQ']
        simp only [w_kIt_e, w_kBlk_e, ↓reduceIte]
        simp +contextual (maxSteps := 1000000) only [go_sem, reduceCtorEq, ↓reduceIte, Nat.reduceAdd, Nat.reduceEqDiff, Nat.reduceLeDiff, Nat.reduceMul, Nat.reduceBEq, Int.reduceBEq, Int.reduceBNe, Int.reduceLT, Int.reduceLE, Int.reduceGT, Int.reduceGE, Int.reduceToNat, Int.natCast_one, Int.natCast_zero, Int.cast_ofNat_Int]
        (refine CallP.pure (c1) (fun _ => rfl) ?_; simp +contextual (maxSteps := 1000000) only [go_sem, reduceCtorEq, ↓reduceIte, Nat.reduceAdd, Nat.reduceEqDiff, Nat.reduceLeDiff, Nat.reduceMul, Nat.reduceBEq, Int.reduceBEq, Int.reduceBNe, Int.reduceLT, Int.reduceLE, Int.reduceGT, Int.reduceGE, Int.reduceToNat, Int.natCast_one, Int.natCast_zero, Int.cast_ofNat_Int])
        rw [← hQ]
        exact ⟨trivial, Ret.flat rfl rfl⟩
theorem fs_glue {Gl : Gh → Prop} (hst : Stays Gl) {xs : List (List UInt8)} {t : Option Nm} (hN : xs.length ≤ 100) (hl : xs.flatten.length ≤ 1000000) : FS Tryd.prog Gl 45 [.sl t 1 (strsAV xs)] [] [] (.sl none 1 (bytesAV (27 :: xs.flatten))) [] [] := by
  refine FS.ofW hm hst is_wireglue rfl (by simp) fun γ hγ hfr => ?_
  have c1 := fs_Join (Gl := Gl) (xs := xs) (sep := []) (t := t) (by omega) (by rw [join_flat]; omega)
  rw [join_flat] at c1
  (generalize hQ : (fun (ex : Ex) (_ _ : Nat) (s : St) => _) = Q; unfold ir_wireglue)
  simp +contextual (maxSteps := 1000000) only [go_sem, reduceCtorEq, ↓reduceIte, Nat.reduceAdd, Nat.reduceEqDiff, Nat.reduceLeDiff, Nat.reduceMul, Nat.reduceBEq, Int.reduceBEq, Int.reduceBNe, Int.reduceLT, Int.reduceLE, Int.reduceGT, Int.reduceGE, Int.reduceToNat, Int.natCast_one, Int.natCast_zero, Int.cast_ofNat_Int]
  (refine CallP.pure (c1) (fun _ => rfl) ?_; simp +contextual (maxSteps := 1000000) only [go_sem, reduceCtorEq, ↓reduceIte, Nat.reduceAdd, Nat.reduceEqDiff, Nat.reduceLeDiff, Nat.reduceMul, Nat.reduceBEq, Int.reduceBEq, Int.reduceBNe, Int.reduceLT, Int.reduceLE, Int.reduceGT, Int.reduceGE, Int.reduceToNat, Int.natCast_one, Int.natCast_zero, Int.cast_ofNat_Int])
  refine ⟨⟨.inl trivial, by omega⟩, ?_⟩
  rw [← hQ]
  exact ⟨trivial, .inl ⟨_, rfl, RepLe.anon' rfl⟩⟩
set_option maxHeartbeats 4000000 in
theorem fs_body {Gl : Gh → Prop} (hst : Stays Gl) {k : Int} {ps : List (List Int)} {it da : List UInt8} {pr fi : UInt8} (hl : ps.length ≤ 16) (hp : ∀ p ∈ ps, p.length ≤ 8 ∧ ∀ n ∈ p, n ≤ 1114111) (hit : it.length ≤ 100000) :
    FS Tryd.prog Gl 46 [.agg (Sq.c ⟨k, pr.toNat, ps, it, fi.toNat, da⟩)] [] [] (.str (prB pr.toNat ++ (parsText ps ++ it ++ [fi]))) [] [] := by
  refine FS.of hm hst is_wirebody (by simp) fun γ hγ hfr => ?_
  have hsl := parsText_len hp
  have hsc : Sq.c ⟨k, pr.toNat, ps, it, fi.toNat, da⟩ = [.int .i64 k, .int .u8 (pr.toNat : Int), .sl none 1 (parsAV ps), .str it, .int .u8 (fi.toNat : Int), .str da] := rfl
  (generalize hQ : (fun (ex : Ex) (_ _ : Nat) (s : St) => _) = Q; unfold ir_wirebody)
  simp +contextual (maxSteps := 1000000) only [hsc, parsAV_length, go_sem, reduceCtorEq, ↓reduceIte, Nat.reduceAdd, Nat.reduceEqDiff, Nat.reduceLeDiff, Nat.reduceMul, Nat.reduceBEq, Int.reduceBEq, Int.reduceBNe, Int.reduceLT, Int.reduceLE, Int.reduceGT, Int.reduceGE, Int.reduceToNat, Int.natCast_one, Int.natCast_zero, Int.cast_ofNat_Int]
  refine kLoop_ix (fun q : Nat × Option Nm => ⟨lf [(1, .ptr (γ, 0, 0) 0), (3, sv q.2 1 (strsAV ((ps.take q.1).map subText))), (8, .sl none 1 (parsAV ps)), (9, .int .i64 (ps.length : Int)), (10, .int .i64 (q.1 : Int))], [((γ, 0, 0), .cells [.int .i64 k, .int .u8 (pr.toNat : Int), .sl none 1 (parsAV ps), .str it, .int .u8 (fi.toNat : Int), .str da])], fun x => q.2 = some x⟩)
    (fun q => q.1 ≤ ps.length ∧ (q.2 = none → q.1 = 0)) (fun q => ps.length - q.1) 0 (0, none) ?_ ⟨by simp, by simp⟩ ?_
  · refine Wk.perm' ?_ (fun p hp => hp) (fun t ht => by cases ht)
    simp only [lfOK, upd]
    repeat' first | exact AVle.refl _ _ | exact trivial | refine And.intro ?_ ?_ | exact AVle.int (by simp only [IntKind.wrap_i64]; omega)
  · rintro γ' ⟨i, tk⟩ hf ⟨hi, htk⟩
    simp only at hi htk
    generalize hQ' : kIt _ _ _ _ _ = Q'
    unfold ir_wirebody_l0
    by_cases hlt : i < ps.length
    · have hd : decide ((i : Int) < (ps.length : Int)) = true := by simp; omega
      have hg1 : (parsAV ps).getD i [] = [.sl none 1 (intsAV ps[i])] := parsAV_get hlt
      have hpi := hp _ (List.getElem_mem hlt)
      have c1 := fs_one (Gl := Gl) hst (p := ps[i]) (t := none) (by omega) hpi.2
      have htk1 : (ps.take (i + 1)).map subText = (ps.take i).map subText ++ [subText ps[i]] := by
        rw [List.take_add_one, List.getElem?_eq_getElem hlt, List.map_append]; rfl
      have hlen : (strsAV ((ps.take i).map subText)).length ≤ ps.length := by rw [strsAV_length]; simp; omega
      cases tk with
      | none =>
        have h0 := htk rfl
        have ht0 : ps.take i = [] := by rw [h0]; rfl
        rw [ht0, List.map_nil, List.nil_append] at htk1
        simp +contextual (maxSteps := 1000000) only [hd, hg1, Int.toNat_natCast, parsAV_length, go_sem, reduceCtorEq, ↓reduceIte, Nat.reduceAdd, Nat.reduceEqDiff, Nat.reduceLeDiff, Nat.reduceMul, Nat.reduceBEq, Int.reduceBEq, Int.reduceBNe, Int.reduceLT, Int.reduceLE, Int.reduceGT, Int.reduceGE, Int.reduceToNat, Int.natCast_one, Int.natCast_zero, Int.cast_ofNat_Int]
        refine ⟨⟨by omega, by omega⟩, ?_⟩
        (refine CallP.pure (c1) (fun _ => rfl) ?_; simp +contextual (maxSteps := 1000000) only [go_sem, reduceCtorEq, ↓reduceIte, Nat.reduceAdd, Nat.reduceEqDiff, Nat.reduceLeDiff, Nat.reduceMul, Nat.reduceBEq, Int.reduceBEq, Int.reduceBNe, Int.reduceLT, Int.reduceLE, Int.reduceGT, Int.reduceGE, Int.reduceToNat, Int.natCast_one, Int.natCast_zero, Int.cast_ofNat_Int])
        rw [← hQ']
        simp only [w_kIt_n]
        refine ⟨0, (i + 1, some (γ', 8, 0)), Wk.perm' ?_ (fun p hp => hp) ?_, ⟨by simp only; omega, by simp⟩, by simp only; omega⟩
        · simp only [htk1, sv_some, strsAV, List.map_cons, List.map_nil]
          repeat' first | exact AVle.refl _ _ | exact trivial | refine And.intro ?_ ?_ | exact AVle.int (by simp only [IntKind.wrap_i64]; omega)
        · intro t ht
          cases ht
          exact .inl rfl
      | some t0 =>
        simp +contextual (maxSteps := 1000000) only [hd, hg1, Int.toNat_natCast, parsAV_length, go_sem, reduceCtorEq, ↓reduceIte, Nat.reduceAdd, Nat.reduceEqDiff, Nat.reduceLeDiff, Nat.reduceMul, Nat.reduceBEq, Int.reduceBEq, Int.reduceBNe, Int.reduceLT, Int.reduceLE, Int.reduceGT, Int.reduceGE, Int.reduceToNat, Int.natCast_one, Int.natCast_zero, Int.cast_ofNat_Int]
        refine ⟨⟨by omega, by omega⟩, ?_⟩
        (refine CallP.pure (c1) (fun _ => rfl) ?_; simp +contextual (maxSteps := 1000000) only [go_sem, reduceCtorEq, ↓reduceIte, Nat.reduceAdd, Nat.reduceEqDiff, Nat.reduceLeDiff, Nat.reduceMul, Nat.reduceBEq, Int.reduceBEq, Int.reduceBNe, Int.reduceLT, Int.reduceLE, Int.reduceGT, Int.reduceGE, Int.reduceToNat, Int.natCast_one, Int.natCast_zero, Int.cast_ofNat_Int])
        refine ⟨⟨.inr trivial, by omega⟩, ?_⟩
        rw [← hQ']
        simp only [w_kIt_n]
        refine ⟨0, (i + 1, some (γ', 8, 0)), Wk.perm' ?_ (fun p hp => hp) ?_, ⟨by simp only; omega, by simp⟩, by simp only; omega⟩
        · simp only [htk1, sv_some, strsAV_snoc]
          repeat' first | exact AVle.refl _ _ | exact trivial | refine And.intro ?_ ?_ | exact AVle.int (by simp only [IntKind.wrap_i64]; omega)
        · intro t ht
          cases ht
          exact .inl rfl
    · have hii : i = ps.length := by omega
      have hd : decide ((i : Int) < (ps.length : Int)) = false := by simp; omega
      have hfull : (ps.take i).map subText = ps.map subText := by rw [List.take_of_length_le (by omega)]
      have hz : Lib.join (ps.map subText) [59] = parsText ps := join_jn 59 _
      have hjl : (Lib.join (ps.map subText) [59]).length ≤ 140737488355328 := by rw [hz]; omega
      have c1 : FS Tryd.prog Gl 64 [sv tk 1 (strsAV (ps.map subText)), .str [59]] [] [] (.str (parsText ps)) [] [] := by
        rw [← hz]
        cases tk with
        | none =>
          have h0 : ps = [] := List.length_eq_zero_iff.1 (by rw [← hii]; exact htk rfl)
          exact (fs_Join (Gl := Gl) (xs := ps.map subText) (sep := [59]) (t := none) (by simp; omega) hjl).args ⟨by rw [h0]; exact RepLe.nils 1, RepLe.refl _, trivial⟩
        | some t0 => exact fs_Join (Gl := Gl) (xs := ps.map subText) (sep := [59]) (t := some t0) (by simp; omega) hjl
      simp +contextual (maxSteps := 1000000) only [hd, hfull, go_sem, reduceCtorEq, ↓reduceIte, Nat.reduceAdd, Nat.reduceEqDiff, Nat.reduceLeDiff, Nat.reduceMul, Nat.reduceBEq, Int.reduceBEq, Int.reduceBNe, Int.reduceLT, Int.reduceLE, Int.reduceGT, Int.reduceGE, Int.reduceToNat, Int.natCast_one, Int.natCast_zero, Int.cast_ofNat_Int]
      rw [← hQ']
      simp only [w_kIt_e, w_kBlk_e, ↓reduceIte]
      simp +contextual (maxSteps := 1000000) only [go_sem, reduceCtorEq, ↓reduceIte, Nat.reduceAdd, Nat.reduceEqDiff, Nat.reduceLeDiff, Nat.reduceMul, Nat.reduceBEq, Int.reduceBEq, Int.reduceBNe, Int.reduceLT, Int.reduceLE, Int.reduceGT, Int.reduceGE, Int.reduceToNat, Int.natCast_one, Int.natCast_zero, Int.cast_ofNat_Int]
      refine DCall.new c1 ?_
      simp +contextual (maxSteps := 1000000) only [isByte_one, unbyte_c, go_sem, reduceCtorEq, ↓reduceIte, Nat.reduceAdd, Nat.reduceEqDiff, Nat.reduceLeDiff, Nat.reduceMul, Nat.reduceBEq, Int.reduceBEq, Int.reduceBNe, Int.reduceLT, Int.reduceLE, Int.reduceGT, Int.reduceGE, Int.reduceToNat, Int.natCast_one, Int.natCast_zero, Int.cast_ofNat_Int]
      refine ⟨by omega, by simp only [List.length_append]; omega, ?_⟩
      have hpr : ((pr.toNat : Int).toNat).toUInt8 = pr := by rw [Int.toNat_natCast]; exact UInt8.ofNat_toNat
      cases hq : ((pr.toNat : Int) != 0) with
      | false =>
        simp +contextual (maxSteps := 1000000) only [go_sem, reduceCtorEq, ↓reduceIte, Nat.reduceAdd, Nat.reduceEqDiff, Nat.reduceLeDiff, Nat.reduceMul, Nat.reduceBEq, Int.reduceBEq, Int.reduceBNe, Int.reduceLT, Int.reduceLE, Int.reduceGT, Int.reduceGE, Int.reduceToNat, Int.natCast_one, Int.natCast_zero, Int.cast_ofNat_Int]
        have hz1 : prB (pr.toNat : Int) = [] := by rw [prB, hq]; rfl
        rw [← hQ, hz1]
        exact ⟨trivial, Ret.flat rfl rfl⟩
      | true =>
        simp +contextual (maxSteps := 1000000) only [isByte_one, unbyte_c, go_sem, reduceCtorEq, ↓reduceIte, Nat.reduceAdd, Nat.reduceEqDiff, Nat.reduceLeDiff, Nat.reduceMul, Nat.reduceBEq, Int.reduceBEq, Int.reduceBNe, Int.reduceLT, Int.reduceLE, Int.reduceGT, Int.reduceGE, Int.reduceToNat, Int.natCast_one, Int.natCast_zero, Int.cast_ofNat_Int]
        refine ⟨by simp only [List.length_append, List.length_cons, List.length_nil]; omega, ?_⟩
        have hz1 : prB (pr.toNat : Int) = [pr] := by rw [prB, hq, hpr]; rfl
        rw [← hQ, hz1]
        exact ⟨trivial, Ret.flat rfl rfl⟩
end Go.Proofs.YtbepihadhmfklaaDoor

set_option linter.unusedVariables false
set_option linter.unusedSimpArgs false
set_option maxRecDepth 100000
namespace Go.Proofs.YtbepihadhmfklaaDoor
open Go Go.Ab
/-- clavier/wire.Put -/
def ir_wirePut : ICode :=
 (.seq
  (.reg [⟨some 1, none, .box 51 (.t 0)⟩,
    ⟨some 2, none, .mov (.c .nils)⟩,
    ⟨some 3, none, .mov (.c (.int .i64 0))⟩] (some [1]))
  (.seq
   (.seq
    (.reg [⟨some 5, none, .ld (some 6) (.t 1)⟩,
      ⟨some 6, none, .call (.c (.fn (.func 44) [] [])) [(.t 5)]⟩,
      ⟨some 4, none, .mov (.t 6)⟩] (some [1, 4]))
    (.seq
     (.reg [⟨some 7, none, .mov (.t 4)⟩,
       ⟨some 8, none, .bin .neq .none (.t 7) (.c (.int .i64 0))⟩] (some [1, 4, 8]))
     (.cond (.t 8)
      (.seq
       (.reg [⟨some 9, none, .mov (.t 4)⟩,
         ⟨some 2, none, .mov (.c .nils)⟩,
         ⟨some 3, none, .mov (.t 9)⟩] (some [2, 3]))
       .ret)
      .skip)))
   (.seq
    (.seq
     (.reg [⟨some 10, none, .fa 0 (.t 1)⟩,
       ⟨some 11, none, .ld none (.t 10)⟩] (some [1, 11]))
     (.blk 0
      (.seq
       (.reg [⟨some 13, none, .bin .eql .none (.t 11) (.c (.int .i64 1))⟩,
         ⟨some 12, none, .mov (.t 13)⟩] (some [1, 11, 12]))
       (.cond (.t 12)
        (.seq
         (.reg [⟨some 14, none, .ld (some 6) (.t 1)⟩,
           ⟨some 15, none, .call (.c (.fn (.func 46) [] [])) [(.t 14)]⟩,
           ⟨some 16, none, .row 9 1 [(.c (.str [91])), (.t 15)]⟩,
           ⟨some 17, none, .call (.c (.fn (.func 45) [] [])) [(.t 16)]⟩,
           ⟨some 2, none, .mov (.t 17)⟩,
           ⟨some 3, none, .mov (.c (.int .i64 0))⟩] (some [2, 3]))
         .ret)
        (.seq
         (.reg [⟨some 19, none, .bin .eql .none (.t 11) (.c (.int .i64 2))⟩,
           ⟨some 18, none, .mov (.t 19)⟩] (some [1, 11, 18]))
         (.cond (.t 18)
          (.seq
           (.reg [⟨some 20, none, .fa 4 (.t 1)⟩,
             ⟨some 21, none, .ld none (.t 20)⟩,
             ⟨some 22, none, .row 5 1 [(.t 21)]⟩,
             ⟨some 23, none, .b2s (.t 22)⟩,
             ⟨some 24, none, .row 9 1 [(.c (.str [79])), (.t 23)]⟩,
             ⟨some 25, none, .call (.c (.fn (.func 45) [] [])) [(.t 24)]⟩,
             ⟨some 2, none, .mov (.t 25)⟩,
             ⟨some 3, none, .mov (.c (.int .i64 0))⟩] (some [2, 3]))
           .ret)
          (.seq
           (.reg [⟨some 27, none, .bin .eql .none (.t 11) (.c (.int .i64 3))⟩,
             ⟨some 26, none, .mov (.t 27)⟩] (some [1, 11, 26]))
           (.cond (.t 26)
            (.seq
             (.drw [⟨⟨some 28, none, .ld (some 6) (.t 1)⟩, []⟩,
               ⟨⟨some 29, none, .call (.c (.fn (.func 46) [] [])) [(.t 28)]⟩, [0]⟩,
               ⟨⟨some 30, none, .fa 5 (.t 1)⟩, []⟩,
               ⟨⟨some 31, none, .ld none (.t 30)⟩, [2]⟩,
               ⟨⟨some 32, none, .row 9 1 [(.c (.str [80])), (.t 29), (.t 31), (.c (.str [27, 92]))]⟩, [1, 3]⟩,
               ⟨⟨some 33, none, .call (.c (.fn (.func 45) [] [])) [(.t 32)]⟩, [4, 1]⟩]
               [⟨some 2, none, .mov (.t 33)⟩,
               ⟨some 3, none, .mov (.c (.int .i64 0))⟩] (some [2, 3]))
             .ret)
            (.seq
             (.reg [⟨some 35, none, .bin .eql .none (.t 11) (.c (.int .i64 4))⟩,
               ⟨some 34, none, .mov (.t 35)⟩] (some [1, 34]))
             (.cond (.t 34)
              (.seq
               (.reg [⟨some 36, none, .fa 5 (.t 1)⟩,
                 ⟨some 37, none, .ld none (.t 36)⟩,
                 ⟨some 38, none, .row 9 1 [(.c (.str [93])), (.t 37), (.c (.str [27, 92]))]⟩,
                 ⟨some 39, none, .call (.c (.fn (.func 45) [] [])) [(.t 38)]⟩,
                 ⟨some 2, none, .mov (.t 39)⟩,
                 ⟨some 3, none, .mov (.c (.int .i64 0))⟩] (some [2, 3]))
               .ret)
              .skip))))))))))
    (.seq
     (.reg [⟨some 40, none, .ld (some 6) (.t 1)⟩,
       ⟨some 41, none, .call (.c (.fn (.func 46) [] [])) [(.t 40)]⟩,
       ⟨some 42, none, .row 9 1 [(.t 41)]⟩,
       ⟨some 43, none, .call (.c (.fn (.func 45) [] [])) [(.t 42)]⟩,
       ⟨some 2, none, .mov (.t 43)⟩,
       ⟨some 3, none, .mov (.c (.int .i64 0))⟩] (some [2, 3]))
     .ret))))
theorem is_wirePut : IrOf Tryd.prog 19 44 ir_wirePut [.t 2, .t 3] := ⟨_, Tryd.func19, rfl, by kernel_rfl, by kernel_rfl, by kernel_rfl⟩


theorem esc_plain {s : Sq} (h : mayP s = 0) (h1 : s.k ≠ 1) (h2 : s.k ≠ 2) (h3 : s.k ≠ 3) (h4 : s.k ≠ 4) : s.pr = 0 ∧ s.ps = [] := by
  have hs : shapedP s = true := by
    simp only [mayP] at h
    split at h
    · cases h
    · split at h
      · cases h
      · rename_i h2
        simp only [Bool.or_eq_true, Bool.not_eq_true', not_or, Bool.not_eq_false] at h2
        exact h2.2
  simp only [shapedP, if_neg h1, if_neg h2, if_neg h3, if_neg h4] at hs
  split at hs
  · simp only [Bool.and_eq_true, beq_iff_eq] at hs
    obtain ⟨⟨⟨⟨⟨q1, q2⟩, _⟩, _⟩, _⟩, _⟩ := hs
    exact ⟨q1, List.length_eq_zero_iff.1 (by omega)⟩
  · cases hs
set_option maxHeartbeats 4000000 in
theorem fs_wPut {Gl : Gh → Prop} (hst : Stays Gl) {s : Sq} (hp0 : 0 ≤ s.pr) (hp1 : s.pr < 256) (hf0 : 0 ≤ s.fi) (hf1 : s.fi < 128) (h : s.sm) : FS Tryd.prog Gl 19 [.agg s.c] [] [] (.tup [putV s, .int .i64 (mayP s)]) [] [] := by
  have c1 := fs_May (Gl := Gl) hst hf0 hf1 h.ps h.pp h.it h.da
  have hfl : (AV.tup [putV s, .int .i64 (mayP s)]).flatT = true := by
    unfold putV; split <;> rfl
  refine FS.ofW hm hst is_wirePut hfl (by simp) fun γ hγ hfr => ?_
  have hpv : putV s = if (mayP s != 0) = true then .nils else .sl none 1 (bytesAV (putB s)) := rfl
  have hda : mayP s = 0 → s.da.length ≤ 4096 := fun hz => (mayP_sm hz).2.2.2.2
  have hil : mayP s = 0 → s.it.length ≤ 2 := fun hz => (mayP_sm hz).2.2.2.1
  have hpl : mayP s = 0 → s.ps.length ≤ 16 := fun hz => (mayP_sm hz).2.1
  have hpp : mayP s = 0 → ∀ p ∈ s.ps, p.length ≤ 8 ∧ ∀ n ∈ p, n ≤ 1114111 := fun hz p hp => ⟨(mayP_sm hz).2.2.1 p hp, fun n hn => (((parsOk_iff (may_pars hz)).2.2 p hp).2.2 n hn).2⟩
  obtain ⟨k, pr, ps, it, fi, da⟩ := s
  simp only at hp0 hp1 hf0 hf1 hda hil hpl hpp
  obtain ⟨pr, rfl⟩ := byteOf hp0 hp1
  obtain ⟨fi, rfl⟩ := byteOf hf0 (by omega)
  have hbb : putB ⟨k, pr.toNat, ps, it, fi.toNat, da⟩ = (if (k == 1) = true then [27, 91] ++ (prB pr.toNat ++ parsText ps ++ it) ++ [fi]
    else if (k == 2) = true then [27, 79] ++ [fi]
    else if (k == 3) = true then [27, 80] ++ (prB pr.toNat ++ parsText ps ++ it) ++ [fi] ++ da ++ [27, 92]
    else if (k == 4) = true then [27, 93] ++ da ++ [27, 92]
    else [27] ++ it ++ [fi]) := by
    have : ((fi.toNat : Int).toNat).toUInt8 = fi := by rw [Int.toNat_natCast]; exact UInt8.ofNat_toNat
    simp only [putB, bodyB, this]
  have hcc : Sq.c ⟨k, pr.toNat, ps, it, fi.toNat, da⟩ = [.int .i64 k, .int .u8 (pr.toNat : Int), parsV ps, .str it, .int .u8 (fi.toNat : Int), .str da] := rfl
  rw [hcc] at c1
  generalize hmp : mayP _ = mp at *
  (generalize hQ : (fun (ex : Ex) (_ _ : Nat) (s : St) => _) = Q; unfold ir_wirePut)
  simp +contextual (maxSteps := 1000000) only [hcc, go_sem, reduceCtorEq, ↓reduceIte, Nat.reduceAdd, Nat.reduceEqDiff, Nat.reduceLeDiff, Nat.reduceMul, Nat.reduceBEq, Int.reduceBEq, Int.reduceBNe, Int.reduceLT, Int.reduceLE, Int.reduceGT, Int.reduceGE, Int.reduceToNat, Int.natCast_one, Int.natCast_zero, Int.cast_ofNat_Int]
  (refine CallP.pure (c1) (fun _ => rfl) ?_; simp +contextual (maxSteps := 1000000) only [go_sem, reduceCtorEq, ↓reduceIte, Nat.reduceAdd, Nat.reduceEqDiff, Nat.reduceLeDiff, Nat.reduceMul, Nat.reduceBEq, Int.reduceBEq, Int.reduceBNe, Int.reduceLT, Int.reduceLE, Int.reduceGT, Int.reduceGE, Int.reduceToNat, Int.natCast_one, Int.natCast_zero, Int.cast_ofNat_Int])
  by_cases hz : mp = 0
  · subst hz
    have hda := hda rfl
    have hil := hil rfl
    have c2 := fs_body (Gl := Gl) hst (k := k) (ps := ps) (it := it) (da := da) (pr := pr) (fi := fi) (hpl rfl) (hpp rfl) (by omega)
    rw [hcc] at c2
    have hsl := parsText_len (hpp rfl)
    have hpl := hpl rfl
    have hprl : (prB pr.toNat).length ≤ 1 := by unfold prB; split <;> simp
    have fin : ∀ {l : List UInt8} {γ c : Nat} {H : Hp} {T : Tk}, l = putB ⟨k, pr.toNat, ps, it, fi.toNat, da⟩ → Q .ret γ c ⟨lf [(2, .sl none 1 (bytesAV l)), (3, .int .i64 0)], H, T⟩ := by
      intro l γ c H T hl
      rw [← hQ, hpv, hl]
      exact ⟨trivial, .inl ⟨_, rfl, RepLe.refl _⟩⟩
    have hpt : (parsText ps).length ≤ 3000 := by omega
    have hk1 : (k == 1) = true ∨ (k == 1) = false := by cases (k == 1) <;> simp
    rcases hk1 with hk1 | hk1
    · simp +contextual (maxSteps := 1000000) only [hk1, go_sem, reduceCtorEq, ↓reduceIte, Nat.reduceAdd, Nat.reduceEqDiff, Nat.reduceLeDiff, Nat.reduceMul, Nat.reduceBEq, Int.reduceBEq, Int.reduceBNe, Int.reduceLT, Int.reduceLE, Int.reduceGT, Int.reduceGE, Int.reduceToNat, Int.natCast_one, Int.natCast_zero, Int.cast_ofNat_Int]
      (refine CallP.pure (c2) (fun _ => rfl) ?_; simp +contextual (maxSteps := 1000000) only [go_sem, reduceCtorEq, ↓reduceIte, Nat.reduceAdd, Nat.reduceEqDiff, Nat.reduceLeDiff, Nat.reduceMul, Nat.reduceBEq, Int.reduceBEq, Int.reduceBNe, Int.reduceLT, Int.reduceLE, Int.reduceGT, Int.reduceGE, Int.reduceToNat, Int.natCast_one, Int.natCast_zero, Int.cast_ofNat_Int])
      (refine CallP.pure (fs_glue (xs := [[91], prB pr.toNat ++ (parsText ps ++ it ++ [fi])]) hst (by simp) (by simp; omega)) (fun _ => rfl) ?_; simp +contextual (maxSteps := 1000000) only [go_sem, reduceCtorEq, ↓reduceIte, Nat.reduceAdd, Nat.reduceEqDiff, Nat.reduceLeDiff, Nat.reduceMul, Nat.reduceBEq, Int.reduceBEq, Int.reduceBNe, Int.reduceLT, Int.reduceLE, Int.reduceGT, Int.reduceGE, Int.reduceToNat, Int.natCast_one, Int.natCast_zero, Int.cast_ofNat_Int])
      refine fin ?_
      rw [hbb, if_pos hk1]; simp
    have hk2 : (k == 2) = true ∨ (k == 2) = false := by cases (k == 2) <;> simp
    rcases hk2 with hk2 | hk2
    · simp +contextual (maxSteps := 1000000) only [hk1, hk2, isByte_one, unbyte_c, go_sem, reduceCtorEq, ↓reduceIte, Nat.reduceAdd, Nat.reduceEqDiff, Nat.reduceLeDiff, Nat.reduceMul, Nat.reduceBEq, Int.reduceBEq, Int.reduceBNe, Int.reduceLT, Int.reduceLE, Int.reduceGT, Int.reduceGE, Int.reduceToNat, Int.natCast_one, Int.natCast_zero, Int.cast_ofNat_Int]
      (refine CallP.pure (fs_glue (xs := [[79], [fi]]) hst (by simp) (by simp)) (fun _ => rfl) ?_; simp +contextual (maxSteps := 1000000) only [go_sem, reduceCtorEq, ↓reduceIte, Nat.reduceAdd, Nat.reduceEqDiff, Nat.reduceLeDiff, Nat.reduceMul, Nat.reduceBEq, Int.reduceBEq, Int.reduceBNe, Int.reduceLT, Int.reduceLE, Int.reduceGT, Int.reduceGE, Int.reduceToNat, Int.natCast_one, Int.natCast_zero, Int.cast_ofNat_Int])
      refine fin ?_
      rw [hbb, hk1, if_neg (by simp), if_pos hk2]; simp
    have hk3 : (k == 3) = true ∨ (k == 3) = false := by cases (k == 3) <;> simp
    rcases hk3 with hk3 | hk3
    · simp +contextual (maxSteps := 1000000) only [hk1, hk2, hk3, go_sem, reduceCtorEq, ↓reduceIte, Nat.reduceAdd, Nat.reduceEqDiff, Nat.reduceLeDiff, Nat.reduceMul, Nat.reduceBEq, Int.reduceBEq, Int.reduceBNe, Int.reduceLT, Int.reduceLE, Int.reduceGT, Int.reduceGE, Int.reduceToNat, Int.natCast_one, Int.natCast_zero, Int.cast_ofNat_Int]
      refine DCall.new c2 ?_
      simp +contextual (maxSteps := 1000000) only [go_sem, reduceCtorEq, ↓reduceIte, Nat.reduceAdd, Nat.reduceEqDiff, Nat.reduceLeDiff, Nat.reduceMul, Nat.reduceBEq, Int.reduceBEq, Int.reduceBNe, Int.reduceLT, Int.reduceLE, Int.reduceGT, Int.reduceGE, Int.reduceToNat, Int.natCast_one, Int.natCast_zero, Int.cast_ofNat_Int]
      refine ⟨by simp [AV.closedL, AV.closed], DCall.new (fs_glue (xs := [[80], prB pr.toNat ++ (parsText ps ++ it ++ [fi]), da, [27, 92]]) hst (by simp) (by simp; omega)) ?_⟩
      simp +contextual (maxSteps := 1000000) only [go_sem, reduceCtorEq, ↓reduceIte, Nat.reduceAdd, Nat.reduceEqDiff, Nat.reduceLeDiff, Nat.reduceMul, Nat.reduceBEq, Int.reduceBEq, Int.reduceBNe, Int.reduceLT, Int.reduceLE, Int.reduceGT, Int.reduceGE, Int.reduceToNat, Int.natCast_one, Int.natCast_zero, Int.cast_ofNat_Int]
      refine fin ?_
      rw [hbb, hk1, if_neg (by simp), hk2, if_neg (by simp), if_pos hk3]; simp
    have hk4 : (k == 4) = true ∨ (k == 4) = false := by cases (k == 4) <;> simp
    rcases hk4 with hk4 | hk4
    · simp +contextual (maxSteps := 1000000) only [hk1, hk2, hk3, hk4, go_sem, reduceCtorEq, ↓reduceIte, Nat.reduceAdd, Nat.reduceEqDiff, Nat.reduceLeDiff, Nat.reduceMul, Nat.reduceBEq, Int.reduceBEq, Int.reduceBNe, Int.reduceLT, Int.reduceLE, Int.reduceGT, Int.reduceGE, Int.reduceToNat, Int.natCast_one, Int.natCast_zero, Int.cast_ofNat_Int]
      (refine CallP.pure (fs_glue (xs := [[93], da, [27, 92]]) hst (by simp) (by simp; omega)) (fun _ => rfl) ?_; simp +contextual (maxSteps := 1000000) only [go_sem, reduceCtorEq, ↓reduceIte, Nat.reduceAdd, Nat.reduceEqDiff, Nat.reduceLeDiff, Nat.reduceMul, Nat.reduceBEq, Int.reduceBEq, Int.reduceBNe, Int.reduceLT, Int.reduceLE, Int.reduceGT, Int.reduceGE, Int.reduceToNat, Int.natCast_one, Int.natCast_zero, Int.cast_ofNat_Int])
      refine fin ?_
      rw [hbb, hk1, if_neg (by simp), hk2, if_neg (by simp), hk3, if_neg (by simp), if_pos hk4]; simp
    · simp +contextual (maxSteps := 1000000) only [hk1, hk2, hk3, hk4, go_sem, reduceCtorEq, ↓reduceIte, Nat.reduceAdd, Nat.reduceEqDiff, Nat.reduceLeDiff, Nat.reduceMul, Nat.reduceBEq, Int.reduceBEq, Int.reduceBNe, Int.reduceLT, Int.reduceLE, Int.reduceGT, Int.reduceGE, Int.reduceToNat, Int.natCast_one, Int.natCast_zero, Int.cast_ofNat_Int]
      (refine CallP.pure (c2) (fun _ => rfl) ?_; simp +contextual (maxSteps := 1000000) only [go_sem, reduceCtorEq, ↓reduceIte, Nat.reduceAdd, Nat.reduceEqDiff, Nat.reduceLeDiff, Nat.reduceMul, Nat.reduceBEq, Int.reduceBEq, Int.reduceBNe, Int.reduceLT, Int.reduceLE, Int.reduceGT, Int.reduceGE, Int.reduceToNat, Int.natCast_one, Int.natCast_zero, Int.cast_ofNat_Int])
      (refine CallP.pure (fs_glue (xs := [prB pr.toNat ++ (parsText ps ++ it ++ [fi])]) hst (by simp) (by simp; omega)) (fun _ => rfl) ?_; simp +contextual (maxSteps := 1000000) only [go_sem, reduceCtorEq, ↓reduceIte, Nat.reduceAdd, Nat.reduceEqDiff, Nat.reduceLeDiff, Nat.reduceMul, Nat.reduceBEq, Int.reduceBEq, Int.reduceBNe, Int.reduceLT, Int.reduceLE, Int.reduceGT, Int.reduceGE, Int.reduceToNat, Int.natCast_one, Int.natCast_zero, Int.cast_ofNat_Int])
      refine fin ?_
      rw [hbb, hk1, if_neg (by simp), hk2, if_neg (by simp), hk3, if_neg (by simp), hk4, if_neg (by simp)]
      obtain ⟨hpl1, hpl2⟩ := esc_plain hmp (by simpa using hk1) (by simpa using hk2) (by simpa using hk3) (by simpa using hk4)
      simp only at hpl1 hpl2
      rw [hpl1, hpl2]; rfl
  · have hq : (mp != 0) = true := by simp [hz]
    simp +contextual (maxSteps := 1000000) only [hq, go_sem, reduceCtorEq, ↓reduceIte, Nat.reduceAdd, Nat.reduceEqDiff, Nat.reduceLeDiff, Nat.reduceMul, Nat.reduceBEq, Int.reduceBEq, Int.reduceBNe, Int.reduceLT, Int.reduceLE, Int.reduceGT, Int.reduceGE, Int.reduceToNat, Int.natCast_one, Int.natCast_zero, Int.cast_ofNat_Int]
    rw [← hQ, hpv, if_pos hq]
    exact ⟨trivial, .inl ⟨_, rfl, RepLe.refl _⟩⟩
end Go.Proofs.YtbepihadhmfklaaDoor

set_option linter.unusedVariables false
set_option linter.unusedSimpArgs false
set_option maxRecDepth 100000
namespace Go.Proofs.YtbepihadhmfklaaDoor
open Go Go.Ab
end Go.Proofs.YtbepihadhmfklaaDoor

set_option linter.unusedVariables false
set_option linter.unusedSimpArgs false
set_option maxRecDepth 100000
namespace Go.Proofs.YtbepihadhmfklaaDoor
open Go Go.Ab

structure MayK (k : Ky) : Prop where
  kind : kindK k.code ≠ 0
  m0 : 0 ≤ k.mods
  m1 : k.mods ≤ 255
  t0 : 1 ≤ k.type
  t1 : k.type ≤ 3
  sh : k.shifted = 0 ∨ kindK k.shifted = 1
  ba : k.base = 0 ∨ kindK k.base = 1
  tx : cleanK k.text = true
theorem mayK_iff {k : Ky} : mayK k = true ↔ MayK k := by
  simp only [mayK, Bool.and_eq_true, Bool.or_eq_true, decide_eq_true_eq]
  constructor
  · rintro ⟨⟨⟨⟨⟨⟨⟨a, b⟩, c⟩, d⟩, e⟩, f⟩, g⟩, h⟩; exact ⟨a, b, c, d, e, f, g, h⟩
  · rintro ⟨a, b, c, d, e, f, g, h⟩; exact ⟨⟨⟨⟨⟨⟨⟨a, b⟩, c⟩, d⟩, e⟩, f⟩, g⟩, h⟩
/-- A text's code. -/
theorem kind1 {c : Int} (h : kindK c = 1) : isCP c = true ∧ 32 ≤ c ∧ ¬(127 ≤ c ∧ c ≤ 159) := by
  unfold kindK lookR at h
  split at h
  · simp at h
  · split at h
    · simp at h
    · split at h
      · have : (padR c).kind = 5 := by unfold padR; split <;> rfl
        rw [this] at h; simp at h
      · simp only at h
        unfold restR at h
        split at h
        · simp at h
        · split at h
          · simp at h
          · split at h
            · simp at h
            · split at h
              · simp at h
              · rename_i hh
                simp only [not_or, Bool.not_eq_false] at hh
                exact ⟨hh.1, by omega, hh.2.2.1⟩
theorem kind_range {c : Int} (h : kindK c ≠ 0) : 0 ≤ c ∧ c ≤ 1114111 := by
  by_cases h1 : 9 ≤ c ∧ c ≤ 63743
  · omega
  · have : kindK c = 1 := by
      unfold kindK lookR at h ⊢
      have e1 : letR c = 0 := by
        unfold letR
        repeat (first | rfl | rw [if_neg (by omega)])
      have e2 : numR c = 0 := by
        unfold numR
        repeat (first | rfl | rw [if_neg (by omega)])
      rw [if_neg (by simp [e1]), if_neg (by simp [e2]), if_neg (by omega)] at h ⊢
      simp only at h ⊢
      unfold restR at h ⊢
      rw [if_neg (by omega), if_neg (by omega), if_neg (by omega)] at h ⊢
      split
      · rename_i hh; rw [if_pos hh] at h; exact absurd rfl h
      · rfl
    obtain ⟨a, _, _⟩ := kind1 this
    obtain ⟨n, rfl, _, _⟩ := isCP_spec a
    omega
theorem shown_cp {k : Ky} (h : kindK k.code = 1) (hs : k.shifted = 0 ∨ kindK k.shifted = 1) : isCP (shownK k) = true ∧ 32 ≤ shownK k := by
  obtain ⟨a, b, _⟩ := kind1 h
  unfold shownK
  split
  · exact ⟨a, b⟩
  · split
    · rename_i h0
      rcases hs with e | e
      · exact absurd e h0
      · obtain ⟨a, b, _⟩ := kind1 e
        exact ⟨a, b⟩
    · split
      · refine ⟨?_, by omega⟩
        simp only [isCP, Bool.and_eq_true, Bool.or_eq_true, decide_eq_true_eq]; omega
      · exact ⟨a, b⟩
/-- What a key's sequence consists of. -/
structure PartK (p : List Int) : Prop where
  ne : p ≠ []
  le : p.length ≤ 8
  ok : ∀ n ∈ p, -1 ≤ n ∧ n ≤ 1114111
end Go.Proofs.YtbepihadhmfklaaDoor

set_option linter.unusedVariables false
set_option linter.unusedSimpArgs false
set_option maxRecDepth 100000
namespace Go.Proofs.YtbepihadhmfklaaDoor
open Go Go.Ab
/-- clavier/mods.Old -/
def ir_modsOld : ICode :=
 (.seq
  (.reg [⟨some 2, none, .mov (.c (.int .i64 0))⟩] (some [0]))
  (.seq
   (.reg [⟨some 3, none, .mov (.t 0)⟩,
     ⟨some 4, none, .mm false (.t 3) (.c (.int .i64 0))⟩,
     ⟨some 5, none, .bin .and .none (.t 4) (.c (.int .i64 7))⟩,
     ⟨some 2, none, .mov (.t 5)⟩] (some [2]))
   .ret))
theorem is_modsOld : IrOf Tryd.prog 22 6 ir_modsOld [.t 2] := ⟨_, Tryd.func22, rfl, by kernel_rfl, by kernel_rfl, by kernel_rfl⟩

/- clavier/mods.Fold -/
def ir_modsFold_t4 : ICode :=
 (.seq
  (.reg [⟨some 43, none, .mov (.t 5)⟩,
        ⟨some 44, none, .mov (.t 6)⟩,
        ⟨some 2, none, .mov (.t 43)⟩,
        ⟨some 3, none, .mov (.t 44)⟩] (some [2, 3]))
  .ret)
def ir_modsFold_t3 : ICode :=
 (.seq
  (.reg [⟨some 37, none, .mov (.t 4)⟩,
       ⟨some 38, none, .mov (.t 0)⟩,
       ⟨some 39, none, .cvi .i32 (.t 38)⟩,
       ⟨some 40, none, .lkp .int (.int .i64 0) true (.t 37) (.t 39)⟩,
       ⟨some 36, none, .mov (.t 40)⟩,
       ⟨some 41, none, .ext (.t 36) 0⟩,
       ⟨some 42, none, .ext (.t 36) 1⟩,
       ⟨some 5, none, .mov (.t 41)⟩,
       ⟨some 6, none, .mov (.t 42)⟩] (some [5, 6]))
  ir_modsFold_t4)
def ir_modsFold_t2 : ICode :=
 (.seq
  (.blk 0
     (.seq
      (.reg [⟨some 10, none, .mov (.t 0)⟩,
        ⟨some 11, none, .bin .geq .none (.t 10) (.c (.int .i64 97))⟩,
        ⟨some 12, none, .mov (.t 11)⟩,
        ⟨some 13, some (12, true), .mov (.t 0)⟩,
        ⟨some 14, some (12, true), .bin .leq .none (.t 13) (.c (.int .i64 122))⟩,
        ⟨some 15, none, .pick (.t 12) (.t 14) (.c (.bool false))⟩,
        ⟨some 9, none, .mov (.t 15)⟩] (some [0, 4, 9]))
      (.cond (.t 9)
       (.seq
        (.reg [⟨some 16, none, .mov (.t 0)⟩,
          ⟨some 17, none, .bin .sub .none (.t 16) (.c (.int .i64 97))⟩,
          ⟨some 18, none, .bin .add .none (.t 17) (.c (.int .i64 1))⟩,
          ⟨some 2, none, .mov (.t 18)⟩,
          ⟨some 3, none, .mov (.c (.bool true))⟩] (some [2, 3]))
        .ret)
       (.seq
        (.reg [⟨some 20, none, .mov (.t 0)⟩,
          ⟨some 21, none, .bin .geq .none (.t 20) (.c (.int .i64 65))⟩,
          ⟨some 22, none, .mov (.t 21)⟩,
          ⟨some 23, some (22, true), .mov (.t 0)⟩,
          ⟨some 24, some (22, true), .bin .leq .none (.t 23) (.c (.int .i64 90))⟩,
          ⟨some 25, none, .pick (.t 22) (.t 24) (.c (.bool false))⟩,
          ⟨some 19, none, .mov (.t 25)⟩] (some [0, 4, 19]))
        (.cond (.t 19)
         (.seq
          (.reg [⟨some 26, none, .mov (.t 0)⟩,
            ⟨some 27, none, .bin .sub .none (.t 26) (.c (.int .i64 65))⟩,
            ⟨some 28, none, .bin .add .none (.t 27) (.c (.int .i64 1))⟩,
            ⟨some 2, none, .mov (.t 28)⟩,
            ⟨some 3, none, .mov (.c (.bool true))⟩] (some [2, 3]))
          .ret)
         (.seq
          (.reg [⟨some 30, none, .mov (.t 0)⟩,
            ⟨some 31, none, .bin .lss .none (.t 30) (.c (.int .i64 0))⟩,
            ⟨some 32, none, .mov (.t 31)⟩,
            ⟨some 33, some (32, false), .mov (.t 0)⟩,
            ⟨some 34, some (32, false), .bin .gtr .none (.t 33) (.c (.int .i64 255))⟩,
            ⟨some 35, none, .pick (.t 32) (.c (.bool true)) (.t 34)⟩,
            ⟨some 29, none, .mov (.t 35)⟩] (some [0, 4, 29]))
          (.cond (.t 29)
           (.seq
            (.reg [⟨some 2, none, .mov (.c (.int .i64 0))⟩,
              ⟨some 3, none, .mov (.c (.bool false))⟩] (some [2, 3]))
            .ret)
           .skip)))))))
  ir_modsFold_t3)
def ir_modsFold_t1 : ICode :=
 (.seq
  (.reg [⟨some 7, none, .mkm⟩,
     ⟨none, none, .ins .int (.t 7) (.c (.int .i32 32)) (.c (.int .i64 0))⟩,
     ⟨none, none, .ins .int (.t 7) (.c (.int .i32 50)) (.c (.int .i64 0))⟩,
     ⟨none, none, .ins .int (.t 7) (.c (.int .i32 64)) (.c (.int .i64 0))⟩,
     ⟨none, none, .ins .int (.t 7) (.c (.int .i32 51)) (.c (.int .i64 27))⟩,
     ⟨none, none, .ins .int (.t 7) (.c (.int .i32 91)) (.c (.int .i64 27))⟩,
     ⟨none, none, .ins .int (.t 7) (.c (.int .i32 52)) (.c (.int .i64 28))⟩,
     ⟨none, none, .ins .int (.t 7) (.c (.int .i32 92)) (.c (.int .i64 28))⟩,
     ⟨none, none, .ins .int (.t 7) (.c (.int .i32 53)) (.c (.int .i64 29))⟩,
     ⟨none, none, .ins .int (.t 7) (.c (.int .i32 93)) (.c (.int .i64 29))⟩,
     ⟨none, none, .ins .int (.t 7) (.c (.int .i32 54)) (.c (.int .i64 30))⟩,
     ⟨none, none, .ins .int (.t 7) (.c (.int .i32 94)) (.c (.int .i64 30))⟩,
     ⟨none, none, .ins .int (.t 7) (.c (.int .i32 55)) (.c (.int .i64 31))⟩,
     ⟨none, none, .ins .int (.t 7) (.c (.int .i32 47)) (.c (.int .i64 31))⟩,
     ⟨none, none, .ins .int (.t 7) (.c (.int .i32 95)) (.c (.int .i64 31))⟩,
     ⟨none, none, .ins .int (.t 7) (.c (.int .i32 56)) (.c (.int .i64 127))⟩,
     ⟨none, none, .ins .int (.t 7) (.c (.int .i32 63)) (.c (.int .i64 127))⟩,
     ⟨some 8, none, .mov (.t 7)⟩,
     ⟨some 4, none, .mov (.t 8)⟩] (some [0, 4]))
  ir_modsFold_t2)
def ir_modsFold : ICode :=
 (.seq
  (.reg [⟨some 2, none, .mov (.c (.int .i64 0))⟩,
    ⟨some 3, none, .mov (.c (.bool false))⟩] (some [0]))
  ir_modsFold_t1)
theorem is_modsFold : IrOf Tryd.prog 40 45 ir_modsFold [.t 2, .t 3] := ⟨_, Tryd.func40, rfl, by kernel_rfl, by kernel_rfl, by kernel_rfl⟩

/- clavier/wire.Num -/
def ir_wireNum_l0 : ICode :=
 (.seq
        (.reg [⟨some 16, none, .bin .lss .none (.t 15) (.t 14)⟩] (some [6, 7, 13, 14, 15, 16]))
        (.seq
         (.cond (.t 16)
          .skip
          (.exit 0))
         (.seq
          (.blk 1
           (.seq
            (.reg [⟨some 17, none, .ia 1 (.t 13) (.t 15)⟩,
              ⟨some 18, none, .ld none (.t 17)⟩,
              ⟨some 9, none, .mov (.t 18)⟩] (some [6, 7, 9, 13, 14, 15]))
            (.reg [⟨some 19, none, .fa 2 (.t 7)⟩,
              ⟨some 20, none, .ld none (.t 19)⟩,
              ⟨some 21, none, .mov (.t 9)⟩,
              ⟨some 22, none, .row 3 1 [(.t 21)]⟩,
              ⟨some 23, none, .row 62 1 [(.t 22)]⟩,
              ⟨some 24, none, .app 62 1 24 (.t 20) (.t 23)⟩,
              ⟨some 25, none, .fa 2 (.t 7)⟩,
              ⟨none, none, .st 1 (.t 25) (.t 24)⟩] (some [6, 7, 13, 14, 15]))))
          (.reg [⟨some 26, none, .bin .add .none (.t 15) (.c (.int .i64 1))⟩,
            ⟨some 15, none, .mov (.t 26)⟩] (some [6, 7, 13, 14, 15])))))
def ir_wireNum : ICode :=
 (.seq
  (.reg [⟨some 6, none, .box 51 (.c (.agg [(.int .i64 0), (.int .u8 0), .nils, (.str []), (.int .u8 0), (.str [])]))⟩] (some [0, 1, 2, 6]))
  (.seq
   (.reg [⟨some 10, none, .mov (.t 0)⟩,
     ⟨some 11, none, .mov (.t 1)⟩,
     ⟨some 12, none, .bld [(.int .i64 0), (.int .u8 0), .nils, (.str []), (.int .u8 0), (.str [])] [(0, 1, (.c (.int .i64 1))), (1, 1, (.t 10)), (4, 1, (.t 11))]⟩,
     ⟨some 7, none, .box 51 (.c (.agg [(.int .i64 0), (.int .u8 0), .nils, (.str []), (.int .u8 0), (.str [])]))⟩,
     ⟨none, none, .st 6 (.t 7) (.t 12)⟩] (some [2, 6, 7]))
   (.seq
    (.seq
     (.reg [⟨some 13, none, .mov (.t 2)⟩,
       ⟨some 14, none, .len (.t 13)⟩,
       ⟨some 15, none, .mov (.c (.int .i64 0))⟩] (some [6, 7, 13, 14, 15]))
     (.blk 0
      (.loop
       ir_wireNum_l0)))
    (.seq
     (.reg [⟨some 27, none, .ld (some 6) (.t 7)⟩,
       ⟨none, none, .st 6 (.t 6) (.t 27)⟩] (some [6]))
     .ret))))
theorem is_wireNum : IrOf Tryd.prog 20 28 ir_wireNum [.cell 6 (some 6)] := ⟨_, Tryd.func20, rfl, by kernel_rfl, by kernel_rfl, by kernel_rfl⟩

/-- How the terminal is set. -/
structure Md where
  cursor : Bool
  keypad : Bool
  back : Bool
  focus : Bool
  paste : Bool
  lock : Bool
  line : Bool
  mouse : Int
  coding : Int
  other : Int
def mdAV (m : Md) : List AV := [.bool m.cursor, .bool m.keypad, .bool m.back, .bool m.focus, .bool m.paste, .bool m.lock, .bool m.line, .int .i64 m.mouse, .int .i64 m.coding, .int .i64 m.other]
def oldK (m : Int) : Int := max m 0 % 8
theorem or7 : bits .or .i64 (bits .or .i64 1 2) 4 = 7 := by decide +kernel
theorem and7 {m : Int} (hm : m ≤ 9223372036854775807) : bits .and .i64 (max m 0) 7 = oldK m := by
  obtain ⟨n, hn⟩ := Int.eq_ofNat_of_zero_le (show 0 ≤ max m 0 by omega)
  unfold oldK
  rw [hn, show (7 : Int) = ((7 : Nat) : Int) from rfl, and_i64 (by omega) (by omega), show (7 : Nat) = 2 ^ 3 - 1 from rfl, Nat.and_two_pow_sub_one_eq_mod]
  omega
theorem fs_Old {Gl : Gh → Prop} (hst : Stays Gl) {m : Int} (hm2 : m ≤ 9223372036854775807) : FS Tryd.prog Gl 22 [.int .i64 m] [] [] (.int .i64 (oldK m)) [] [] := by
  refine FS.of hm hst is_modsOld (by simp) fun γ hγ hfr => ?_
  (generalize hQ : (fun (ex : Ex) (_ _ : Nat) (s : St) => _) = Q; unfold ir_modsOld)
  simp +contextual (maxSteps := 1000000) only [maxE, and7 hm2, or7, go_sem, reduceCtorEq, ↓reduceIte, Nat.reduceAdd, Nat.reduceEqDiff, Nat.reduceLeDiff, Nat.reduceMul, Nat.reduceBEq, Int.reduceBEq, Int.reduceBNe, Int.reduceLT, Int.reduceLE, Int.reduceGT, Int.reduceGE, Int.reduceToNat, Int.natCast_one, Int.natCast_zero, Int.cast_ofNat_Int]
  rw [← hQ]
  exact ⟨trivial, Ret.flat rfl rfl⟩
/-- The control character of a character. -/
def foldK (c : Int) : Option Int :=
  if c = 32 ∨ c = 50 ∨ c = 64 then some 0
  else if 97 ≤ c ∧ c ≤ 122 then some (c - 96)
  else if 65 ≤ c ∧ c ≤ 95 then some (c - 64)
  else if 51 ≤ c ∧ c ≤ 55 then some (27 + c - 51)
  else if c = 47 then some 31
  else if c = 56 ∨ c = 63 then some 127
  else none
def foldV (c : Int) : AV := .tup [.int .i64 ((foldK c).getD 0), .bool (foldK c).isSome]
theorem fold_some {c x : Int} (h : foldK c = some x) : foldV c = .tup [.int .i64 x, .bool true] := by unfold foldV; rw [h]; rfl
theorem fold_none {c : Int} (h : foldK c = none) : foldV c = .tup [.int .i64 0, .bool false] := by unfold foldV; rw [h]; rfl
theorem fe_nil {kc : KC} {k : AV} : findE kc k [] = some none := rfl
theorem fe_int {k : IntKind} {a b : Int} {v : AV} {es : List (AV × AV)} : findE .int (.int k a) ((.int k b, v) :: es) = if (a == b) = true then some (some v) else findE .int (.int k a) es := by
  simp only [findE, keyEq, if_true]
  cases (a == b) <;> rfl
theorem isKey_int {k : IntKind} {a : Int} : (isKey .int (.int k a) = true) = True := by simp [isKey]
def foldsE : List (AV × AV) := [(.int .i32 32, .int .i64 0), (.int .i32 50, .int .i64 0), (.int .i32 64, .int .i64 0), (.int .i32 51, .int .i64 27), (.int .i32 91, .int .i64 27), (.int .i32 52, .int .i64 28), (.int .i32 92, .int .i64 28), (.int .i32 53, .int .i64 29), (.int .i32 93, .int .i64 29), (.int .i32 54, .int .i64 30), (.int .i32 94, .int .i64 30), (.int .i32 55, .int .i64 31), (.int .i32 47, .int .i64 31), (.int .i32 95, .int .i64 31), (.int .i32 56, .int .i64 127), (.int .i32 63, .int .i64 127)]
theorem folds_find {c : Int} (h1 : ¬(97 ≤ c ∧ c ≤ 122)) (h2 : ¬(65 ≤ c ∧ c ≤ 90)) : findE .int (.int .i32 c) foldsE = some ((foldK c).map fun f => .int .i64 f) := by
  unfold foldsE
  simp only [fe_int, fe_nil, beq_iff_eq]
  by_cases h : c = 32 ∨ c = 50 ∨ c = 64 ∨ c = 51 ∨ c = 91 ∨ c = 52 ∨ c = 92 ∨ c = 53 ∨ c = 93 ∨ c = 54 ∨ c = 94 ∨ c = 55 ∨ c = 47 ∨ c = 95 ∨ c = 56 ∨ c = 63
  · rcases h with rfl | rfl | rfl | rfl | rfl | rfl | rfl | rfl | rfl | rfl | rfl | rfl | rfl | rfl | rfl | rfl <;> rfl
  · have hn : foldK c = none := by unfold foldK; rw [if_neg (by omega), if_neg (by omega), if_neg (by omega), if_neg (by omega), if_neg (by omega), if_neg (by omega)]
    rw [hn]
    repeat (rw [if_neg (by omega)])
    rfl
theorem fs_Fold {Gl : Gh → Prop} (hst : Stays Gl) {c : Int} : FS Tryd.prog Gl 40 [.int .i64 c] [] [] (foldV c) [] [] := by
  refine FS.of hm hst is_modsFold (by simp) fun γ hγ hfr => ?_
  (generalize hQ : (fun (ex : Ex) (_ _ : Nat) (s : St) => _) = Q; unfold ir_modsFold)
  simp +contextual (maxSteps := 1000000) only [go_sem, reduceCtorEq, ↓reduceIte, Nat.reduceAdd, Nat.reduceEqDiff, Nat.reduceLeDiff, Nat.reduceMul, Nat.reduceBEq, Int.reduceBEq, Int.reduceBNe, Int.reduceLT, Int.reduceLE, Int.reduceGT, Int.reduceGE, Int.reduceToNat, Int.natCast_one, Int.natCast_zero, Int.cast_ofNat_Int]
  unfold ir_modsFold_t1
  simp +contextual (maxSteps := 1000000) only [fe_nil, fe_int, isKey_int, go_sem, reduceCtorEq, ↓reduceIte, Nat.reduceAdd, Nat.reduceEqDiff, Nat.reduceLeDiff, Nat.reduceMul, Nat.reduceBEq, Int.reduceBEq, Int.reduceBNe, Int.reduceLT, Int.reduceLE, Int.reduceGT, Int.reduceGE, Int.reduceToNat, Int.natCast_one, Int.natCast_zero, Int.cast_ofNat_Int]
  have hE : ∀ {P : List (AV × AV) → Prop}, P foldsE → P [(.int .i32 32, .int .i64 0), (.int .i32 50, .int .i64 0), (.int .i32 64, .int .i64 0), (.int .i32 51, .int .i64 27), (.int .i32 91, .int .i64 27), (.int .i32 52, .int .i64 28), (.int .i32 92, .int .i64 28), (.int .i32 53, .int .i64 29), (.int .i32 93, .int .i64 29), (.int .i32 54, .int .i64 30), (.int .i32 94, .int .i64 30), (.int .i32 55, .int .i64 31), (.int .i32 47, .int .i64 31), (.int .i32 95, .int .i64 31), (.int .i32 56, .int .i64 127), (.int .i32 63, .int .i64 127)] := fun h => h
  refine hE (P := fun es => aw Tryd.prog Gl ir_modsFold_t2 γ 21 ⟨lf [(0, .int .i64 c), (4, .mp (γ, 2, 0))], [((γ, 2, 0), .mapp es)], fun x => x ∈ []⟩ Q) ?_
  have hfind : ¬(97 ≤ c ∧ c ≤ 122) → ¬(65 ≤ c ∧ c ≤ 90) → findE .int (.int .i32 c) foldsE = some ((foldK c).map fun f => .int .i64 f) := folds_find
  generalize foldsE = es at hfind ⊢
  unfold ir_modsFold_t2
  simp +contextual (maxSteps := 1000000) only [go_sem, reduceCtorEq, ↓reduceIte, Nat.reduceAdd, Nat.reduceEqDiff, Nat.reduceLeDiff, Nat.reduceMul, Nat.reduceBEq, Int.reduceBEq, Int.reduceBNe, Int.reduceLT, Int.reduceLE, Int.reduceGT, Int.reduceGE, Int.reduceToNat, Int.natCast_one, Int.natCast_zero, Int.cast_ofNat_Int]
  refine kCond_split (fun h => ?_) (fun h => ?_)
  · simp only [Bool.and_eq_true, decide_eq_true_eq] at h
    simp +contextual (maxSteps := 1000000) only [go_sem, reduceCtorEq, ↓reduceIte, Nat.reduceAdd, Nat.reduceEqDiff, Nat.reduceLeDiff, Nat.reduceMul, Nat.reduceBEq, Int.reduceBEq, Int.reduceBNe, Int.reduceLT, Int.reduceLE, Int.reduceGT, Int.reduceGE, Int.reduceToNat, Int.natCast_one, Int.natCast_zero, Int.cast_ofNat_Int]
    rw [← hQ, fold_some (x := IntKind.i64.wrap (IntKind.i64.wrap (c - 97) + 1)) (by unfold foldK; rw [if_neg (by omega), if_pos (by omega), IntKind.wrap_i64, IntKind.wrap_i64]; congr 1; omega)]
    exact ⟨trivial, Ret.flatT rfl rfl⟩
  have h1 : ¬(97 ≤ c ∧ c ≤ 122) := fun e => by
    have : (decide (c ≥ 97) && decide (c ≤ 122)) = true := by simp; omega
    rw [h] at this; cases this
  simp +contextual (maxSteps := 1000000) only [go_sem, reduceCtorEq, ↓reduceIte, Nat.reduceAdd, Nat.reduceEqDiff, Nat.reduceLeDiff, Nat.reduceMul, Nat.reduceBEq, Int.reduceBEq, Int.reduceBNe, Int.reduceLT, Int.reduceLE, Int.reduceGT, Int.reduceGE, Int.reduceToNat, Int.natCast_one, Int.natCast_zero, Int.cast_ofNat_Int]
  refine kCond_split (fun h => ?_) (fun h => ?_)
  · simp only [Bool.and_eq_true, decide_eq_true_eq] at h
    simp +contextual (maxSteps := 1000000) only [go_sem, reduceCtorEq, ↓reduceIte, Nat.reduceAdd, Nat.reduceEqDiff, Nat.reduceLeDiff, Nat.reduceMul, Nat.reduceBEq, Int.reduceBEq, Int.reduceBNe, Int.reduceLT, Int.reduceLE, Int.reduceGT, Int.reduceGE, Int.reduceToNat, Int.natCast_one, Int.natCast_zero, Int.cast_ofNat_Int]
    rw [← hQ, fold_some (x := IntKind.i64.wrap (IntKind.i64.wrap (c - 65) + 1)) (by unfold foldK; rw [if_neg (by omega), if_neg (by omega), if_pos (by omega), IntKind.wrap_i64, IntKind.wrap_i64]; congr 1; omega)]
    exact ⟨trivial, Ret.flatT rfl rfl⟩
  have h2 : ¬(65 ≤ c ∧ c ≤ 90) := fun e => by
    have : (decide (c ≥ 65) && decide (c ≤ 90)) = true := by simp; omega
    rw [h] at this; cases this
  simp +contextual (maxSteps := 1000000) only [go_sem, reduceCtorEq, ↓reduceIte, Nat.reduceAdd, Nat.reduceEqDiff, Nat.reduceLeDiff, Nat.reduceMul, Nat.reduceBEq, Int.reduceBEq, Int.reduceBNe, Int.reduceLT, Int.reduceLE, Int.reduceGT, Int.reduceGE, Int.reduceToNat, Int.natCast_one, Int.natCast_zero, Int.cast_ofNat_Int]
  refine kCond_split (fun h => ?_) (fun h => ?_)
  · simp only [Bool.or_eq_true, decide_eq_true_eq] at h
    simp +contextual (maxSteps := 1000000) only [go_sem, reduceCtorEq, ↓reduceIte, Nat.reduceAdd, Nat.reduceEqDiff, Nat.reduceLeDiff, Nat.reduceMul, Nat.reduceBEq, Int.reduceBEq, Int.reduceBNe, Int.reduceLT, Int.reduceLE, Int.reduceGT, Int.reduceGE, Int.reduceToNat, Int.natCast_one, Int.natCast_zero, Int.cast_ofNat_Int]
    rw [← hQ, fold_none (by unfold foldK; rw [if_neg (by omega), if_neg (by omega), if_neg (by omega), if_neg (by omega), if_neg (by omega), if_neg (by omega)])]
    exact ⟨trivial, Ret.flatT rfl rfl⟩
  have h3 : ¬(c < 0 ∨ c > 255) := fun e => by
    have : (decide (c < 0) || decide (c > 255)) = true := by simp; omega
    rw [h] at this; cases this
  have hw : IntKind.i32.wrap c = c := by rw [IntKind.wrap_i32]; omega
  have hf := hfind h1 h2
  cases hk : foldK c with
  | none =>
    rw [hk, Option.map_none] at hf
    simp +contextual (maxSteps := 1000000) only [go_sem, reduceCtorEq, ↓reduceIte, Nat.reduceAdd, Nat.reduceEqDiff, Nat.reduceLeDiff, Nat.reduceMul, Nat.reduceBEq, Int.reduceBEq, Int.reduceBNe, Int.reduceLT, Int.reduceLE, Int.reduceGT, Int.reduceGE, Int.reduceToNat, Int.natCast_one, Int.natCast_zero, Int.cast_ofNat_Int]
    unfold ir_modsFold_t3
    simp +contextual (maxSteps := 1000000) only [hw, hf, isKey_int, go_sem, reduceCtorEq, ↓reduceIte, Nat.reduceAdd, Nat.reduceEqDiff, Nat.reduceLeDiff, Nat.reduceMul, Nat.reduceBEq, Int.reduceBEq, Int.reduceBNe, Int.reduceLT, Int.reduceLE, Int.reduceGT, Int.reduceGE, Int.reduceToNat, Int.natCast_one, Int.natCast_zero, Int.cast_ofNat_Int]
    unfold ir_modsFold_t4
    simp +contextual (maxSteps := 1000000) only [go_sem, reduceCtorEq, ↓reduceIte, Nat.reduceAdd, Nat.reduceEqDiff, Nat.reduceLeDiff, Nat.reduceMul, Nat.reduceBEq, Int.reduceBEq, Int.reduceBNe, Int.reduceLT, Int.reduceLE, Int.reduceGT, Int.reduceGE, Int.reduceToNat, Int.natCast_one, Int.natCast_zero, Int.cast_ofNat_Int]
    rw [← hQ, fold_none hk]
    exact ⟨trivial, Ret.flatT rfl rfl⟩
  | some f =>
    rw [hk, Option.map_some] at hf
    simp +contextual (maxSteps := 1000000) only [go_sem, reduceCtorEq, ↓reduceIte, Nat.reduceAdd, Nat.reduceEqDiff, Nat.reduceLeDiff, Nat.reduceMul, Nat.reduceBEq, Int.reduceBEq, Int.reduceBNe, Int.reduceLT, Int.reduceLE, Int.reduceGT, Int.reduceGE, Int.reduceToNat, Int.natCast_one, Int.natCast_zero, Int.cast_ofNat_Int]
    unfold ir_modsFold_t3
    simp +contextual (maxSteps := 1000000) only [hw, hf, isKey_int, go_sem, reduceCtorEq, ↓reduceIte, Nat.reduceAdd, Nat.reduceEqDiff, Nat.reduceLeDiff, Nat.reduceMul, Nat.reduceBEq, Int.reduceBEq, Int.reduceBNe, Int.reduceLT, Int.reduceLE, Int.reduceGT, Int.reduceGE, Int.reduceToNat, Int.natCast_one, Int.natCast_zero, Int.cast_ofNat_Int]
    unfold ir_modsFold_t4
    simp +contextual (maxSteps := 1000000) only [go_sem, reduceCtorEq, ↓reduceIte, Nat.reduceAdd, Nat.reduceEqDiff, Nat.reduceLeDiff, Nat.reduceMul, Nat.reduceBEq, Int.reduceBEq, Int.reduceBNe, Int.reduceLT, Int.reduceLE, Int.reduceGT, Int.reduceGE, Int.reduceToNat, Int.natCast_one, Int.natCast_zero, Int.cast_ofNat_Int]
    rw [← hQ, fold_some hk]
    exact ⟨trivial, Ret.flatT rfl rfl⟩
def numSq (k pr fi : Int) (nums : List Int) : Sq := ⟨k, pr, nums.map fun n => [n], [], fi, []⟩
theorem fs_Num {Gl : Gh → Prop} (hst : Stays Gl) {pr fi : Int} {nums : List Int} {tn : Option Nm} (hn : nums.length ≤ 1000) : FS Tryd.prog Gl 20 [.int .u8 pr, .int .u8 fi, .sl tn 1 (intsAV nums)] [] [] (.agg (numSq 1 pr fi nums).c) [] [] := by
  refine FS.ofW hm hst is_wireNum rfl (by simp) fun γ hγ hfr => ?_
  (generalize hQ : (fun (ex : Ex) (_ _ : Nat) (s : St) => _) = Q; unfold ir_wireNum)
  simp +contextual (maxSteps := 1000000) only [go_sem, reduceCtorEq, ↓reduceIte, Nat.reduceAdd, Nat.reduceEqDiff, Nat.reduceLeDiff, Nat.reduceMul, Nat.reduceBEq, Int.reduceBEq, Int.reduceBNe, Int.reduceLT, Int.reduceLE, Int.reduceGT, Int.reduceGE, Int.reduceToNat, Int.natCast_one, Int.natCast_zero, Int.cast_ofNat_Int]
  refine kLoop_ix (fun q : Nat × Option Nm => ⟨lf [(6, .ptr (γ, 0, 0) 0), (7, .ptr (γ, 4, 0) 0), (13, .sl tn 1 (intsAV nums)), (14, .int .i64 nums.length), (15, .int .i64 q.1)], [((γ, 4, 0), .cells [.int .i64 1, .int .u8 pr, sv q.2 1 (parsAV ((nums.take q.1).map fun n => [n])), .str [], .int .u8 fi, .str []]), ((γ, 0, 0), .cells [.int .i64 0, .int .u8 0, .nils, .str [], .int .u8 0, .str []])], fun x => q.2 = some x⟩)
    (fun q => q.1 ≤ nums.length ∧ (q.2 = none → q.1 = 0)) (fun q => nums.length - q.1) 0 (0, none) ?_ ⟨by simp, by simp⟩ ?_
  · refine Wk.perm' ?_ (fun p hp => hp) (fun t ht => by cases ht)
    simp only [lfOK, intsAV_length]
    repeat' first | exact AVle.refl _ _ | exact trivial | refine And.intro ?_ ?_ | exact AVle.int (by simp only [IntKind.wrap_i64]; omega)
  rintro γ' ⟨i, tk⟩ hf ⟨hi, htk⟩
  simp only at hi htk hf
  generalize hQ' : kIt _ _ _ _ _ = Q'
  unfold ir_wireNum_l0
  by_cases hlt : i < nums.length
  · have hd : decide ((i : Int) < (nums.length : Int)) = true := decide_eq_true (by omega)
    have hg1 : (intsAV nums).getD i [] = [.int .i64 nums[i]] := intsAV_get hlt
    have hw : IntKind.i64.wrap ((i : Int) + 1) = ((i + 1 : Nat) : Int) := by rw [IntKind.wrap_i64]; omega
    have hsn : parsAV ((nums.take (i + 1)).map fun n => [n]) = parsAV ((nums.take i).map fun n => [n]) ++ [[intsV [nums[i]]]] := by
      rw [List.take_add_one, List.getElem?_eq_getElem hlt, List.map_append]
      unfold parsAV
      rw [List.map_append]; rfl
    have hln : (parsAV ((nums.take i).map fun n => [n])).length = i := by rw [parsAV_length, List.length_map, List.length_take]; omega
    cases tk with
    | none =>
      obtain rfl := htk rfl
      have hd0 : decide (0 < (nums.length : Int)) = true := decide_eq_true (by omega)
      have hg0 : (intsAV nums).getD 0 [] = [.int .i64 nums[0]] := hg1
      simp +contextual (maxSteps := 1000000) only [hd0, hg0, Int.toNat_natCast, intsAV_length, Int.toNat_zero, go_sem, reduceCtorEq, ↓reduceIte, Nat.reduceAdd, Nat.reduceEqDiff, Nat.reduceLeDiff, Nat.reduceMul, Nat.reduceBEq, Int.reduceBEq, Int.reduceBNe, Int.reduceLT, Int.reduceLE, Int.reduceGT, Int.reduceGE, Int.reduceToNat, Int.natCast_one, Int.natCast_zero, Int.cast_ofNat_Int]
      refine ⟨by omega, ?_⟩
      rw [← hQ']
      simp only [w_kIt_n]
      refine ⟨0, (1, some (γ', 9, 0)), Wk.perm' ?_ (fun p hp => ?_) (fun t ht => ?_), ⟨by simp only; omega, by simp⟩, by simp only; omega⟩
      · repeat' first | exact AVle.refl _ _ | exact trivial | refine And.intro ?_ ?_ | exact AVle.int (by simp only [IntKind.wrap_i64]; omega)
      · have e : sv (some ((γ', 9, 0) : Nm)) 1 (parsAV ((nums.take 1).map fun n => [n])) = .sl (some (γ', 9, 0)) 1 [[.sl none 1 [[.int .i64 nums[0]]]]] := by
          rw [show nums.take 1 = [nums[0]] by cases nums with | nil => simp at hlt | cons x l => rfl]; rfl
        simp only [e] at hp
        exact hp
      · simp only [Option.some.injEq] at ht
        exact .inl ht.symm
    | some t0 =>
      simp +contextual (maxSteps := 1000000) only [hd, hg1, Int.toNat_natCast, intsAV_length, hln, go_sem, reduceCtorEq, ↓reduceIte, Nat.reduceAdd, Nat.reduceEqDiff, Nat.reduceLeDiff, Nat.reduceMul, Nat.reduceBEq, Int.reduceBEq, Int.reduceBNe, Int.reduceLT, Int.reduceLE, Int.reduceGT, Int.reduceGE, Int.reduceToNat, Int.natCast_one, Int.natCast_zero, Int.cast_ofNat_Int]
      refine ⟨⟨by omega, by omega⟩, ⟨.inr (.inr trivial), by omega⟩, ?_⟩
      rw [← hQ']
      simp only [w_kIt_n]
      refine ⟨0, (i + 1, some (γ', 9, 0)), Wk.perm' ?_ (fun p hp => ?_) (fun t ht => ?_), ⟨by simp only; omega, by simp⟩, by simp only; omega⟩
      · rw [hw]
        repeat' first | exact AVle.refl _ _ | exact trivial | refine And.intro ?_ ?_ | exact AVle.int (by simp only [IntKind.wrap_i64]; omega)
      · simp only [sv_some, hsn] at hp
        exact hp
      · simp only [Option.some.injEq] at ht
        exact .inl ht.symm
  · have hd : decide ((i : Int) < (nums.length : Int)) = false := decide_eq_false (by omega)
    simp +contextual (maxSteps := 1000000) only [hd, go_sem, reduceCtorEq, ↓reduceIte, Nat.reduceAdd, Nat.reduceEqDiff, Nat.reduceLeDiff, Nat.reduceMul, Nat.reduceBEq, Int.reduceBEq, Int.reduceBNe, Int.reduceLT, Int.reduceLE, Int.reduceGT, Int.reduceGE, Int.reduceToNat, Int.natCast_one, Int.natCast_zero, Int.cast_ofNat_Int]
    rw [← hQ']
    simp only [w_kIt_e, w_kBlk_e, ↓reduceIte]
    have hall : nums.take i = nums := List.take_of_length_le (by omega)
    cases tk with
    | none =>
      simp +contextual (maxSteps := 1000000) only [go_sem, reduceCtorEq, ↓reduceIte, Nat.reduceAdd, Nat.reduceEqDiff, Nat.reduceLeDiff, Nat.reduceMul, Nat.reduceBEq, Int.reduceBEq, Int.reduceBNe, Int.reduceLT, Int.reduceLE, Int.reduceGT, Int.reduceGE, Int.reduceToNat, Int.natCast_one, Int.natCast_zero, Int.cast_ofNat_Int]
      obtain rfl := htk rfl
      have hz : (numSq 1 pr fi nums).c = [.int .i64 1, .int .u8 pr, .sl none 1 [], .str [], .int .u8 fi, .str []] := by
        have : nums = [] := List.length_eq_zero_iff.1 (by omega)
        subst this; rfl
      rw [← hQ, hz]
      refine ⟨trivial, .inl ⟨.agg [.int .i64 1, .int .u8 pr, .nils, .str [], .int .u8 fi, .str []], ?_, RepLe.agg ⟨.refl _, .refl _, .nils 1, .refl _, .refl _, .refl _, trivial⟩⟩⟩
      simp [resOf, getAll, IRes.get, lf, getH]
    | some t0 =>
      simp +contextual (maxSteps := 1000000) only [go_sem, reduceCtorEq, ↓reduceIte, Nat.reduceAdd, Nat.reduceEqDiff, Nat.reduceLeDiff, Nat.reduceMul, Nat.reduceBEq, Int.reduceBEq, Int.reduceBNe, Int.reduceLT, Int.reduceLE, Int.reduceGT, Int.reduceGE, Int.reduceToNat, Int.natCast_one, Int.natCast_zero, Int.cast_ofNat_Int]
      rw [hall, ← hQ]
      refine ⟨trivial, .inl ⟨.agg [.int .i64 1, .int .u8 pr, .sl (some t0) 1 (parsAV (nums.map fun n => [n])), .str [], .int .u8 fi, .str []], ?_, RepLe.agg ⟨.refl _, .refl _, .anon' rfl, .refl _, .refl _, .refl _, trivial⟩⟩⟩
      simp [resOf, getAll, IRes.get, lf, getH]
end Go.Proofs.YtbepihadhmfklaaDoor

set_option linter.unusedVariables false
set_option linter.unusedSimpArgs false
set_option maxRecDepth 100000
namespace Go.Proofs.YtbepihadhmfklaaDoor
open Go Go.Ab
theorem hasB {m : Int} (h0 : 0 ≤ m) (h1 : m ≤ 255) (j : Nat) (hj : j < 63) : (bits .and .i64 m ((2 ^ j : Nat) : Int) != 0) = hasK m ((2 ^ j : Nat) : Int) := by
  have := has_and (m := m) (by omega) j hj
  rw [show max m 0 = m by omega] at this
  rw [bne, this, Bool.not_not]
theorem CallD.one {P : Program} {Gl : Gh → Prop} {k : FuncId} {args : List AV} {p : Nm} {z : AV} {s : St} {R : AV → Prop} {K : St → Prop} (h : FSD P Gl k args [(p, .cells [z])] (fun _ => False) fun H1 _ => ∃ z', R z' ∧ H1 = [(p, .cells [z'])])
    (hs : (p, .cells [z]) ∈ s.H) (hK : ∀ z', R z' → K ⟨s.F, [(p, .cells [z'])], fun _ => False⟩) : CallD P Gl k args s K := by
  refine ⟨_, _, _, h, fun q hq => ?_, fun t ht => ht.elim, ?_⟩
  · simp only [List.mem_singleton] at hq; subst hq; exact hs
  · rintro H1 T1 ⟨z', hz, rfl⟩
    exact ⟨_, _, fun q hq => List.mem_append.2 (.inl hq), fun t ht => ht.elim, hK z' hz⟩
end Go.Proofs.YtbepihadhmfklaaDoor

set_option linter.unusedVariables false
set_option linter.unusedSimpArgs false
set_option maxRecDepth 100000
namespace Go.Proofs.YtbepihadhmfklaaDoor
open Go Go.Ab
/- clavier/legacy.Key -/
theorem sm_num {k pr fi : Int} {nums : List Int} (h : nums.length ≤ 1000) : (numSq k pr fi nums).sm := by
  refine ⟨by simp only [numSq, List.length_map]; omega, fun p hp => ?_, by simp [numSq], by simp [numSq]⟩
  simp only [numSq, List.mem_map] at hp
  obtain ⟨n, _, rfl⟩ := hp
  simp
theorem fs_NumV {Gl : Gh → Prop} (hst : Stays Gl) {pr fi : Int} {nums : List Int} {tn : Option Nm} (hn : nums.length ≤ 1000) : FS Tryd.prog Gl 20 [.int .u8 pr, .int .u8 fi, .sl tn 1 (intsAV nums)] [] [] (.agg [.int .i64 1, .int .u8 pr, .sl none 1 (parsAV (nums.map fun n => [n])), .str [], .int .u8 fi, .str []]) [] [] := fs_Num hst hn
end Go.Proofs.YtbepihadhmfklaaDoor

set_option linter.unusedVariables false
set_option linter.unusedSimpArgs false
set_option maxRecDepth 100000
namespace Go.Proofs.YtbepihadhmfklaaDoor
open Go Go.Ab

/-- What a sequence that may be has. -/
structure MayF (s : Sq) : Prop where
  pr : s.pr = 0 ∨ 60 ≤ s.pr ∧ s.pr ≤ 63
  il : s.it.length ≤ 2
  it : ∀ c ∈ s.it, 32 ≤ c.toNat ∧ c.toNat < 48
  ps : parsOk s.ps = true
  dl : s.da.length ≤ 4096
  da : ∀ c ∈ s.da, 32 ≤ c.toNat ∧ c.toNat < 127
  sh : shapedP s = true
theorem mayF {s : Sq} (h : mayP s = 0) : MayF s := by
  simp only [mayP] at h
  split at h
  · cases h
  rename_i h1
  split at h
  · cases h
  rename_i h2
  simp only [Bool.or_eq_true, Bool.not_eq_true', not_or, Bool.not_eq_false, Bool.and_eq_true, decide_eq_true_eq, beq_iff_eq] at h2 h1
  obtain ⟨⟨⟨⟨h3, h4⟩, h5⟩, h6⟩, h7⟩ := h2
  refine ⟨by omega, by omega, fun c hc => ?_, h5, by omega, fun c hc => ?_, h7⟩
  · have := List.all_eq_true.1 h4.2 c hc
    simp only [Bool.and_eq_true, decide_eq_true_eq] at this; omega
  · have := List.all_eq_true.1 h6 c hc
    simp only [Bool.and_eq_true, decide_eq_true_eq] at this; omega

/-- The next bytes between two. -/
def runL (x y : Nat) (l : List UInt8) : List UInt8 := l.takeWhile fun c => decide (x ≤ c.toNat) && decide (c.toNat ≤ y)
theorem runL_nil {x y : Nat} {r : List UInt8} (h : ∀ c, r.head? = some c → ¬(x ≤ c.toNat ∧ c.toNat ≤ y)) : runL x y r = [] := by
  cases r with
  | nil => rfl
  | cons c r =>
    have := h c rfl
    unfold runL
    rw [List.takeWhile_cons, if_neg]
    simpa using this
theorem runL_app {x y : Nat} : ∀ {a r : List UInt8}, (∀ c ∈ a, x ≤ c.toNat ∧ c.toNat ≤ y) → (∀ c, r.head? = some c → ¬(x ≤ c.toNat ∧ c.toNat ≤ y)) → runL x y (a ++ r) = a
  | [], r, _, h => runL_nil h
  | c :: a, r, ha, h => by
    have := ha c (by simp)
    unfold runL
    rw [List.cons_append, List.takeWhile_cons, if_pos (by simpa using this)]
    congr 1
    exact runL_app (fun d hd => ha d (by simp [hd])) h
theorem runL_le (x y : Nat) (l : List UInt8) : (runL x y l).length ≤ l.length := by
  unfold runL
  exact (List.takeWhile_prefix _).length_le
/-- A part of a parameter; too large a one is as large as it may be. -/
def numW (t : List UInt8) : Int := if t = [] then -1 else ((takeN t 0 0).1 : Int)
def subsW (p : List UInt8) : List Int := (splitB 58 p).map numW
def numsW (t : List UInt8) : List (List Int) := if t = [] then [] else (splitB 59 t).map subsW
theorem numW_text {n : Int} (h1 : -1 ≤ n) (h2 : n ≤ 1114111) : numW (textZ n) = n := by
  unfold textZ
  split
  · have : n = -1 := by omega
    subst this; rfl
  · have := takeN_dec n.toNat [] 0 (by omega)
    rw [List.append_nil] at this
    unfold numW
    rw [if_neg (decB_ne _), this]
    simp only [takeN]
    omega
theorem subsW_text {p : List Int} (hp : p ≠ []) (h : ∀ n ∈ p, -1 ≤ n ∧ n ≤ 1114111) : subsW (subText p) = p := by
  unfold subsW subText
  rw [splitB_jn (by simpa using hp)]
  · rw [List.map_map]
    conv => rhs; rw [← List.map_id p]
    exact List.map_congr_left fun n hn => numW_text (h n hn).1 (h n hn).2
  · intro x hx hc
    obtain ⟨n, _, rfl⟩ := List.mem_map.1 hx
    exact fig_not (textZ_figs n _ hc) (by decide) rfl
theorem numsW_text {ps : List (List Int)} (h : parsOk ps = true) : numsW (parsText ps) = ps := by
  obtain ⟨a, b, c⟩ := parsOk_iff h
  have d : ∀ p ∈ ps, p ≠ [] ∧ ∀ n ∈ p, -1 ≤ n := fun p hp => ⟨(c p hp).1, fun n hn => ((c p hp).2.2 n hn).1⟩
  unfold numsW
  split
  · rename_i e
    rcases (parsText_nil d).1 e with e | e
    · exact e.symm
    · exact absurd e b
  · rename_i e
    have hne : ps ≠ [] := fun e' => e (by rw [e']; rfl)
    unfold parsText
    rw [splitB_jn (by simpa using hne)]
    · rw [List.map_map]
      conv => rhs; rw [← List.map_id ps]
      exact List.map_congr_left fun p hq => subsW_text (c p hq).1 (c p hq).2.2
    · intro x hx hc
      obtain ⟨p, _, rfl⟩ := List.mem_map.1 hx
      rcases subText_mem hc with h | h
      · cases h
      · cases h
def isPr (c : UInt8) : Bool := decide (60 ≤ c.toNat) && decide (c.toNat ≤ 63)
/-- Marks and parameters; how many bytes these are. -/
def headW (l : List UInt8) : Int × List (List Int) × Nat :=
  let k := if isPr (l.headD 0) = true then 1 else 0
  let t := runL 48 59 (l.drop k)
  (if isPr (l.headD 0) = true then ((l.headD 0).toNat : Int) else 0, numsW t, k + t.length)
/-- What stands behind parameters. -/
def restW (l : List UInt8) : List UInt8 × Int × Nat :=
  let it := runL 32 47 l
  (it, (((l.drop it.length).headD 0).toNat : Int), it.length + 1)
def zeroSq : Sq := ⟨0, 0, [], [], 0, []⟩
/-- The sequence that bytes might begin with, and how many these would be. -/
def readW (b : List UInt8) : Sq × Nat :=
  if b.headD 0 ≠ 27 then (zeroSq, 1)
  else
    let l := b.drop 1
    if l.headD 0 = 91 then
      let h := headW (b.drop 2)
      let r := restW (b.drop (2 + h.2.2))
      (⟨1, h.1, h.2.1, r.1, r.2.1, []⟩, 2 + h.2.2 + r.2.2)
    else if l.headD 0 = 79 then (⟨2, 0, [], [], ((b.drop 2).headD 0).toNat, []⟩, 3)
    else if l.headD 0 = 80 then
      let h := headW (b.drop 2)
      let r := restW (b.drop (2 + h.2.2))
      let d := runL 32 126 (b.drop (2 + h.2.2 + r.2.2))
      (⟨3, h.1, h.2.1, r.1, r.2.1, d⟩, 2 + h.2.2 + r.2.2 + d.length + 2)
    else if l.headD 0 = 93 then
      let d := runL 32 126 (b.drop 2)
      (⟨4, 0, [], [], 0, d⟩, 2 + d.length + 2)
    else
      let r := restW l
      (⟨5, 0, [], r.1, r.2.1, []⟩, 1 + r.2.2)
theorem head_app {a r : List UInt8} {c : UInt8} (h : (a ++ r).head? = some c) : c ∈ a ∨ (a = [] ∧ r.head? = some c) := by
  cases a with
  | nil => exact .inr ⟨rfl, h⟩
  | cons x a => simp at h; subst h; exact .inl (by simp)
theorem headW_put {s : Sq} (h : MayF s) {f : UInt8} {r : List UInt8} (hf : 64 ≤ f.toNat) : headW (bodyB s ++ f :: r) = (s.pr, s.ps, (prB s.pr).length + (parsText s.ps).length) := by
  have hp : ∀ c ∈ parsText s.ps, 48 ≤ c.toNat ∧ c.toNat ≤ 59 := fun c hc => by have := parsText_mem hc; omega
  have hi : ∀ c, (s.it ++ f :: r).head? = some c → ¬(48 ≤ c.toNat ∧ c.toNat ≤ 59) ∧ ¬(60 ≤ c.toNat ∧ c.toNat ≤ 63) := fun c hc => by
    rcases head_app hc with h1 | ⟨_, h1⟩
    · have := h.it c h1; omega
    · simp at h1; subst h1; omega
  have hrun : runL 48 59 (parsText s.ps ++ (s.it ++ f :: r)) = parsText s.ps := runL_app hp fun c hc => (hi c hc).1
  have hnum := numsW_text h.ps
  unfold bodyB
  rw [List.append_assoc, List.append_assoc]
  rcases h.pr with h0 | ⟨h1, h2⟩
  · have hb : prB s.pr = [] := by rw [h0]; rfl
    have hpr : isPr ((parsText s.ps ++ (s.it ++ f :: r)).headD 0) = false := by
      cases hh : (parsText s.ps ++ (s.it ++ f :: r)).head? with
      | none => rw [List.headD_eq_head?_getD, hh]; rfl
      | some c =>
        rw [List.headD_eq_head?_getD, hh, Option.getD_some]
        unfold isPr
        rw [Bool.and_eq_false_iff, decide_eq_false_iff_not, decide_eq_false_iff_not]
        rcases head_app hh with h3 | ⟨_, h3⟩
        · have := hp c h3; omega
        · have := (hi c h3).2; omega
    rw [hb, List.nil_append]
    unfold headW
    rw [hpr]
    simp only [Bool.false_eq_true, if_false, List.drop_zero, hrun, hnum, h0, List.length_nil]
  · have hne : (s.pr != 0) = true := by rw [bne_iff_ne]; omega
    have hb : prB s.pr = [s.pr.toNat.toUInt8] := by unfold prB; rw [if_pos hne]
    have hc : (s.pr.toNat.toUInt8).toNat = s.pr.toNat := by
      rw [Nat.toUInt8_eq, UInt8.toNat_ofNat', Nat.mod_eq_of_lt (by omega)]
    have hpr : isPr (s.pr.toNat.toUInt8) = true := by
      unfold isPr
      rw [hc, Bool.and_eq_true, decide_eq_true_eq, decide_eq_true_eq]; omega
    rw [hb]
    unfold headW
    simp only [List.cons_append, List.nil_append, List.headD_cons, hpr, if_true, List.drop_succ_cons, List.drop_zero, hrun, hnum, hc, List.length_cons, List.length_nil]
    rw [show ((s.pr.toNat : Nat) : Int) = s.pr by omega]
theorem restW_put {it : List UInt8} (hit : ∀ c ∈ it, 32 ≤ c.toNat ∧ c.toNat < 48) {f : UInt8} {r : List UInt8} (hf : 48 ≤ f.toNat) : restW (it ++ f :: r) = (it, (f.toNat : Int), it.length + 1) := by
  have hrun : runL 32 47 (it ++ f :: r) = it := runL_app (fun c hc => by have := hit c hc; omega) fun c hc => by simp at hc; subst hc; omega
  unfold restW
  simp only [hrun, List.drop_left, List.headD_cons]
theorem body_len (s : Sq) : (bodyB s).length = (prB s.pr).length + (parsText s.ps).length + s.it.length := by
  unfold bodyB; simp only [List.length_append]
/-- What is put is read back, whatever stands behind it. -/
theorem readW_put {s : Sq} (hm : mayP s = 0) (more : List UInt8) : readW (putB s ++ more) = (s, (putB s).length) := by
  have h := mayF hm
  have hsh := h.sh
  have hbl := body_len s
  have fin : 0 ≤ s.fi → s.fi ≤ 126 → ((s.fi.toNat.toUInt8).toNat : Int) = s.fi ∧ (s.fi.toNat.toUInt8).toNat = s.fi.toNat := fun h0 h1 => by
    have : (s.fi.toNat.toUInt8).toNat = s.fi.toNat := by rw [Nat.toUInt8_eq, UInt8.toNat_ofNat', Nat.mod_eq_of_lt (by omega)]
    exact ⟨by rw [this]; omega, this⟩
  have hdr : ∀ (a b : List UInt8), a.length = (prB s.pr).length + (parsText s.ps).length → a ++ b = b → True := fun _ _ _ _ => trivial
  have hbody : ∀ t : List UInt8, (bodyB s ++ t).drop ((prB s.pr).length + (parsText s.ps).length) = s.it ++ t := fun t => by
    unfold bodyB
    rw [List.append_assoc, ← List.length_append]
    exact List.drop_left
  unfold shapedP at hsh
  split at hsh
  · rename_i hk
    simp only [Bool.and_eq_true, decide_eq_true_eq] at hsh
    obtain ⟨⟨hda, hf1⟩, hf2⟩ := hsh
    obtain ⟨e1, e2⟩ := fin (by omega) hf2
    have hput : putB s = [27, 91] ++ bodyB s ++ [s.fi.toNat.toUInt8] := by unfold putB; rw [if_pos (by rw [hk]; rfl)]
    rw [hput]
    have hH := headW_put h (f := s.fi.toNat.toUInt8) (r := more) (by omega)
    have hR := restW_put h.it (f := s.fi.toNat.toUInt8) (r := more) (by omega)
    have hd : ([27, 91] ++ bodyB s ++ [s.fi.toNat.toUInt8] ++ more).drop 2 = bodyB s ++ s.fi.toNat.toUInt8 :: more := by simp
    have hd2 : ([27, 91] ++ bodyB s ++ [s.fi.toNat.toUInt8] ++ more).drop (2 + ((prB s.pr).length + (parsText s.ps).length)) = s.it ++ s.fi.toNat.toUInt8 :: more := by
      rw [← List.drop_drop, hd, hbody]
    unfold readW
    rw [if_neg (by simp)]
    simp only
    rw [if_pos (by simp), hd, hH]
    simp only
    rw [hd2, hR]
    simp only [e1, Prod.mk.injEq]
    refine ⟨?_, ?_⟩
    · obtain ⟨k, pr, ps, it, fi, da⟩ := s
      simp only at hk hda ⊢
      subst hk hda; rfl
    · simp only [List.length_append, List.length_cons, List.length_nil]; omega
  · rename_i hk1
    split at hsh
    · rename_i hk
      simp only [Bool.and_eq_true, decide_eq_true_eq] at hsh
      obtain ⟨hf1, hf2⟩ := hsh
      obtain ⟨e1, e2⟩ := fin (by omega) hf2
      have hput : putB s = [27, 80] ++ bodyB s ++ [s.fi.toNat.toUInt8] ++ s.da ++ [27, 92] := by unfold putB; rw [hk]; rfl
      rw [hput]
      have hH := headW_put h (f := s.fi.toNat.toUInt8) (r := s.da ++ [27, 92] ++ more) (by omega)
      have hR := restW_put h.it (f := s.fi.toNat.toUInt8) (r := s.da ++ [27, 92] ++ more) (by omega)
      have hD : runL 32 126 (s.da ++ ([27, 92] ++ more)) = s.da := runL_app (fun c hc => by have := h.da c hc; omega) fun c hc => by simp at hc; subst hc; decide
      have hd : ([27, 80] ++ bodyB s ++ [s.fi.toNat.toUInt8] ++ s.da ++ [27, 92] ++ more).drop 2 = bodyB s ++ s.fi.toNat.toUInt8 :: (s.da ++ [27, 92] ++ more) := by simp
      have hd2 : ([27, 80] ++ bodyB s ++ [s.fi.toNat.toUInt8] ++ s.da ++ [27, 92] ++ more).drop (2 + ((prB s.pr).length + (parsText s.ps).length)) = s.it ++ s.fi.toNat.toUInt8 :: (s.da ++ [27, 92] ++ more) := by
        rw [← List.drop_drop, hd, hbody]
      have hd3 : ([27, 80] ++ bodyB s ++ [s.fi.toNat.toUInt8] ++ s.da ++ [27, 92] ++ more).drop (2 + ((prB s.pr).length + (parsText s.ps).length) + (s.it.length + 1)) = s.da ++ ([27, 92] ++ more) := by
        rw [← List.drop_drop, hd2, ← List.drop_drop, List.drop_left]
        simp
      unfold readW
      rw [if_neg (by simp)]
      simp only
      rw [if_neg (by simp), if_neg (by simp), if_pos (by simp), hd, hH]
      simp only
      rw [hd2, hR]
      simp only
      rw [hd3, hD]
      simp only [e1, Prod.mk.injEq]
      refine ⟨?_, ?_⟩
      · obtain ⟨k, pr, ps, it, fi, da⟩ := s
        simp only at hk ⊢
        subst hk; rfl
      · simp only [List.length_append, List.length_cons, List.length_nil]; omega
    · rename_i hk3
      split at hsh
      · rename_i hk
        simp only [Bool.and_eq_true, decide_eq_true_eq, beq_iff_eq] at hsh
        obtain ⟨⟨⟨⟨⟨hpr, hps⟩, hit⟩, hda⟩, hf1⟩, hf2⟩ := hsh
        obtain ⟨e1, e2⟩ := fin (by omega) hf2
        have hput : putB s = [27, 79] ++ [s.fi.toNat.toUInt8] := by unfold putB; rw [hk]; rfl
        rw [hput]
        unfold readW
        rw [if_neg (by simp)]
        simp only
        rw [if_neg (by simp), if_pos (by simp)]
        simp only [Prod.mk.injEq]
        refine ⟨?_, by simp⟩
        have hps' : s.ps = [] := List.length_eq_zero_iff.1 (by omega)
        obtain ⟨k, pr, ps, it, fi, da⟩ := s
        simp only at hk hpr hps' hit hda e1 ⊢
        subst hk hpr hps' hit hda
        simp only [List.cons_append, List.nil_append, List.drop_succ_cons, List.drop_zero, List.headD_cons, e1]
      · rename_i hk2
        split at hsh
        · rename_i hk
          simp only [Bool.and_eq_true, decide_eq_true_eq, beq_iff_eq] at hsh
          obtain ⟨⟨⟨hpr, hps⟩, hit⟩, hf⟩ := hsh
          have hput : putB s = [27, 93] ++ s.da ++ [27, 92] := by unfold putB; rw [hk]; rfl
          have hD : runL 32 126 (s.da ++ ([27, 92] ++ more)) = s.da := runL_app (fun c hc => by have := h.da c hc; omega) fun c hc => by simp at hc; subst hc; decide
          have hd : ([27, 93] ++ s.da ++ [27, 92] ++ more).drop 2 = s.da ++ ([27, 92] ++ more) := by simp
          rw [hput]
          unfold readW
          rw [if_neg (by simp)]
          simp only
          rw [if_neg (by simp), if_neg (by simp), if_neg (by simp), if_pos (by simp), hd, hD]
          simp only [Prod.mk.injEq]
          refine ⟨?_, by simp; omega⟩
          have hps' : s.ps = [] := List.length_eq_zero_iff.1 (by omega)
          obtain ⟨k, pr, ps, it, fi, da⟩ := s
          simp only at hk hpr hps' hit hf ⊢
          subst hk hpr hps' hit hf
          rfl
        · rename_i hk4
          split at hsh
          · rename_i hk
            simp only [Bool.and_eq_true, decide_eq_true_eq, beq_iff_eq, Bool.or_eq_true, Bool.not_eq_true', decide_eq_false_iff_not] at hsh
            obtain ⟨⟨⟨⟨⟨hpr, hps⟩, hda⟩, hor⟩, hf1⟩, hf2⟩ := hsh
            obtain ⟨e1, e2⟩ := fin (by omega) hf2
            have hput : putB s = [27] ++ s.it ++ [s.fi.toNat.toUInt8] := by unfold putB; rw [hk]; rfl
            have hR := restW_put h.it (f := s.fi.toNat.toUInt8) (r := more) (by omega)
            have hd : ([27] ++ s.it ++ [s.fi.toNat.toUInt8] ++ more).drop 1 = s.it ++ s.fi.toNat.toUInt8 :: more := by simp
            have hne : ∀ x : UInt8, x ∈ ([79, 80, 91, 93] : List UInt8) → (s.it ++ s.fi.toNat.toUInt8 :: more).headD 0 ≠ x := by
              intro x hx e
              cases hit : s.it with
              | nil =>
                rw [hit] at e
                simp only [List.nil_append, List.headD_cons] at e
                rcases hor with h1 | h1
                · exact h1 hit
                · rw [e] at h1
                  revert h1 hx
                  simp only [List.mem_cons, List.not_mem_nil, or_false]
                  rintro (rfl | rfl | rfl | rfl) h1 <;> revert h1 <;> decide
              | cons c t =>
                rw [hit] at e
                simp only [List.cons_append, List.headD_cons] at e
                have := h.it c (by rw [hit]; simp)
                subst e
                simp only [List.mem_cons, List.not_mem_nil, or_false] at hx
                rcases hx with rfl | rfl | rfl | rfl <;> revert this <;> decide
            rw [hput]
            unfold readW
            rw [if_neg (by simp)]
            simp only
            rw [hd, if_neg (hne 91 (by simp)), if_neg (hne 79 (by simp)), if_neg (hne 80 (by simp)), if_neg (hne 93 (by simp)), hR]
            simp only [e1, Prod.mk.injEq]
            refine ⟨?_, ?_⟩
            · have hps' : s.ps = [] := List.length_eq_zero_iff.1 (by omega)
              obtain ⟨k, pr, ps, it, fi, da⟩ := s
              simp only at hk hpr hps' hda ⊢
              subst hk hpr hps' hda; rfl
            · simp only [List.length_append, List.length_cons, List.length_nil]; omega
          · cases hsh
/-- The sequence with which bytes begin, and how many these are. -/
def takeW (b : List UInt8) : Option (Sq × Nat) :=
  let r := readW b
  if mayP r.1 = 0 ∧ putB r.1 <+: b ∧ (putB r.1).length = r.2 then some r else none
theorem takeW_put {s : Sq} (hm : mayP s = 0) (more : List UInt8) : takeW (putB s ++ more) = some (s, (putB s).length) := by
  unfold takeW
  rw [readW_put hm]
  exact if_pos ⟨hm, List.prefix_append _ _, rfl⟩
end Go.Proofs.YtbepihadhmfklaaDoor

set_option linter.unusedVariables false
set_option linter.unusedSimpArgs false
set_option maxRecDepth 100000
namespace Go.Proofs.YtbepihadhmfklaaDoor
open Go Go.Ab
/-- (*clavier/wire.cursor).peek -/
def ir_wirecursorpeek : ICode :=
 (.seq
  (.reg [⟨some 2, none, .mov (.c (.int .u8 0))⟩] (some [0]))
  (.seq
   (.seq
    (.drw [⟨⟨some 3, none, .mov (.t 0)⟩, []⟩,
      ⟨⟨some 4, none, .nck (.t 3)⟩, [0]⟩,
      ⟨⟨some 5, none, .fa 1 (.t 4)⟩, [1]⟩,
      ⟨⟨some 6, none, .ld none (.t 5)⟩, [2]⟩,
      ⟨⟨some 7, none, .mov (.t 0)⟩, []⟩,
      ⟨⟨some 8, none, .nck (.t 7)⟩, [4]⟩,
      ⟨⟨some 9, none, .fa 0 (.t 8)⟩, [5]⟩,
      ⟨⟨some 10, none, .ld none (.t 9)⟩, [6]⟩,
      ⟨⟨some 11, none, .len (.t 10)⟩, [7]⟩,
      ⟨⟨some 12, none, .bin .geq .none (.t 6) (.t 11)⟩, [3, 8]⟩]
      [] (some [0, 12]))
    (.cond (.t 12)
     (.seq
      (.reg [⟨some 2, none, .mov (.c (.int .u8 0))⟩] (some [2]))
      .ret)
     .skip))
   (.seq
    (.drw [⟨⟨some 13, none, .mov (.t 0)⟩, []⟩,
      ⟨⟨some 14, none, .nck (.t 13)⟩, [0]⟩,
      ⟨⟨some 15, none, .fa 0 (.t 14)⟩, [1]⟩,
      ⟨⟨some 16, none, .ld none (.t 15)⟩, [2]⟩,
      ⟨⟨some 17, none, .mov (.t 0)⟩, []⟩,
      ⟨⟨some 18, none, .nck (.t 17)⟩, [4]⟩,
      ⟨⟨some 19, none, .fa 1 (.t 18)⟩, [5]⟩,
      ⟨⟨some 20, none, .ld none (.t 19)⟩, [6]⟩,
      ⟨⟨some 21, none, .ia 1 (.t 16) (.t 20)⟩, [3, 7]⟩,
      ⟨⟨some 22, none, .ld none (.t 21)⟩, [8]⟩]
      [⟨some 2, none, .mov (.t 22)⟩] (some [2]))
    .ret)))
theorem is_wirecursorpeek : IrOf Tryd.prog 72 23 ir_wirecursorpeek [.t 2] := ⟨_, Tryd.func72, rfl, by kernel_rfl, by kernel_rfl, by kernel_rfl⟩

/-- (*clavier/wire.cursor).next -/
def ir_wirecursornext : ICode :=
 (.seq
  (.reg [⟨some 2, none, .mov (.c (.int .u8 0))⟩] (some [0]))
  (.seq
   (.reg [⟨some 4, none, .mov (.t 0)⟩,
     ⟨some 5, none, .call (.c (.fn (.func 72) [] [])) [(.t 4)]⟩,
     ⟨some 3, none, .mov (.t 5)⟩] (some [0, 3]))
   (.seq
    (.reg [⟨some 6, none, .mov (.t 0)⟩,
      ⟨some 7, none, .nck (.t 6)⟩,
      ⟨some 8, none, .fa 1 (.t 7)⟩,
      ⟨some 9, none, .ld none (.t 8)⟩,
      ⟨some 10, none, .bin .add .none (.t 9) (.c (.int .i64 1))⟩,
      ⟨some 11, none, .nck (.t 6)⟩,
      ⟨some 12, none, .fa 1 (.t 11)⟩,
      ⟨none, none, .st 1 (.t 12) (.t 10)⟩] (some [3]))
    (.seq
     (.reg [⟨some 13, none, .mov (.t 3)⟩,
       ⟨some 2, none, .mov (.t 13)⟩] (some [2]))
     .ret))))
theorem is_wirecursornext : IrOf Tryd.prog 71 14 ir_wirecursornext [.t 2] := ⟨_, Tryd.func71, rfl, by kernel_rfl, by kernel_rfl, by kernel_rfl⟩

/- (*clavier/wire.cursor).run -/
def ir_wirecursorrun_l0 : ICode :=
 (.seq
       (.seq
        (.drw [⟨⟨some 12, none, .mov (.t 0)⟩, []⟩,
          ⟨⟨some 13, none, .nck (.t 12)⟩, [0]⟩,
          ⟨⟨some 14, none, .fa 1 (.t 13)⟩, [1]⟩,
          ⟨⟨some 15, none, .ld none (.t 14)⟩, [2]⟩,
          ⟨⟨some 16, none, .mov (.t 0)⟩, []⟩,
          ⟨⟨some 17, none, .nck (.t 16)⟩, [4]⟩,
          ⟨⟨some 18, none, .fa 0 (.t 17)⟩, [5]⟩,
          ⟨⟨some 19, none, .ld none (.t 18)⟩, [6]⟩,
          ⟨⟨some 20, none, .len (.t 19)⟩, [7]⟩,
          ⟨⟨some 21, none, .bin .lss .none (.t 15) (.t 20)⟩, [3, 8]⟩,
          ⟨⟨some 22, none, .mov (.t 21)⟩, [9]⟩,
          ⟨⟨some 23, some (22, true), .mov (.t 0)⟩, [10]⟩,
          ⟨⟨some 24, some (22, true), .nck (.t 23)⟩, [11, 10]⟩,
          ⟨⟨some 25, some (22, true), .fa 0 (.t 24)⟩, [12, 10]⟩,
          ⟨⟨some 26, some (22, true), .ld none (.t 25)⟩, [13, 10]⟩,
          ⟨⟨some 27, some (22, true), .mov (.t 0)⟩, [10]⟩,
          ⟨⟨some 28, some (22, true), .nck (.t 27)⟩, [15, 10]⟩,
          ⟨⟨some 29, some (22, true), .fa 1 (.t 28)⟩, [16, 10]⟩,
          ⟨⟨some 30, some (22, true), .ld none (.t 29)⟩, [17, 10]⟩,
          ⟨⟨some 31, some (22, true), .ia 1 (.t 26) (.t 30)⟩, [14, 18, 10]⟩,
          ⟨⟨some 32, some (22, true), .ld none (.t 31)⟩, [19, 10]⟩,
          ⟨⟨some 33, some (22, true), .mov (.t 1)⟩, [10]⟩,
          ⟨⟨some 34, some (22, true), .bin .geq .none (.t 32) (.t 33)⟩, [20, 21, 10]⟩,
          ⟨⟨some 35, none, .pick (.t 22) (.t 34) (.c (.bool false))⟩, [10, 22]⟩,
          ⟨⟨some 36, none, .mov (.t 35)⟩, [23, 10]⟩,
          ⟨⟨some 37, some (36, true), .mov (.t 0)⟩, [24]⟩,
          ⟨⟨some 38, some (36, true), .nck (.t 37)⟩, [25, 24]⟩,
          ⟨⟨some 39, some (36, true), .fa 0 (.t 38)⟩, [26, 24]⟩,
          ⟨⟨some 40, some (36, true), .ld none (.t 39)⟩, [27, 24]⟩,
          ⟨⟨some 41, some (36, true), .mov (.t 0)⟩, [24]⟩,
          ⟨⟨some 42, some (36, true), .nck (.t 41)⟩, [29, 24]⟩,
          ⟨⟨some 43, some (36, true), .fa 1 (.t 42)⟩, [30, 24]⟩,
          ⟨⟨some 44, some (36, true), .ld none (.t 43)⟩, [31, 24]⟩,
          ⟨⟨some 45, some (36, true), .ia 1 (.t 40) (.t 44)⟩, [28, 32, 24]⟩,
          ⟨⟨some 46, some (36, true), .ld none (.t 45)⟩, [33, 24]⟩,
          ⟨⟨some 47, some (36, true), .mov (.t 2)⟩, [24]⟩,
          ⟨⟨some 48, some (36, true), .bin .leq .none (.t 46) (.t 47)⟩, [34, 35, 24]⟩,
          ⟨⟨some 49, none, .pick (.t 36) (.t 48) (.c (.bool false))⟩, [24, 36]⟩]
          [] (some [0, 1, 2, 7, 49]))
        (.cond (.t 49)
         .skip
         (.exit 0)))
       (.blk 1
        (.reg [⟨some 50, none, .mov (.t 0)⟩,
          ⟨some 51, none, .nck (.t 50)⟩,
          ⟨some 52, none, .fa 1 (.t 51)⟩,
          ⟨some 53, none, .ld none (.t 52)⟩,
          ⟨some 54, none, .bin .add .none (.t 53) (.c (.int .i64 1))⟩,
          ⟨some 55, none, .nck (.t 50)⟩,
          ⟨some 56, none, .fa 1 (.t 55)⟩,
          ⟨none, none, .st 1 (.t 56) (.t 54)⟩] (some [0, 1, 2, 7]))))
def ir_wirecursorrun : ICode :=
 (.seq
  (.reg [⟨some 6, none, .mov (.c (.str []))⟩] (some [0, 1, 2]))
  (.seq
   (.reg [⟨some 8, none, .mov (.t 0)⟩,
     ⟨some 9, none, .nck (.t 8)⟩,
     ⟨some 10, none, .fa 1 (.t 9)⟩,
     ⟨some 11, none, .ld none (.t 10)⟩,
     ⟨some 7, none, .mov (.t 11)⟩] (some [0, 1, 2, 7]))
   (.seq
    (.blk 0
     (.loop
      ir_wirecursorrun_l0))
    (.seq
     (.drw [⟨⟨some 57, none, .mov (.t 0)⟩, []⟩,
       ⟨⟨some 58, none, .nck (.t 57)⟩, [0]⟩,
       ⟨⟨some 59, none, .fa 0 (.t 58)⟩, [1]⟩,
       ⟨⟨some 60, none, .ld none (.t 59)⟩, [2]⟩,
       ⟨⟨some 61, none, .mov (.t 7)⟩, []⟩,
       ⟨⟨some 62, none, .mov (.t 0)⟩, []⟩,
       ⟨⟨some 63, none, .nck (.t 62)⟩, [5]⟩,
       ⟨⟨some 64, none, .fa 1 (.t 63)⟩, [6]⟩,
       ⟨⟨some 65, none, .ld none (.t 64)⟩, [7]⟩,
       ⟨⟨some 66, none, .sll 1 (.t 60) (some (.t 61)) (some (.t 65)) none⟩, [3, 4, 8]⟩,
       ⟨⟨some 67, none, .b2s (.t 66)⟩, [9]⟩]
       [⟨some 6, none, .mov (.t 67)⟩] (some [6]))
     .ret))))
theorem is_wirecursorrun : IrOf Tryd.prog 75 68 ir_wirecursorrun [.t 6] := ⟨_, Tryd.func75, rfl, by kernel_rfl, by kernel_rfl, by kernel_rfl⟩


/-- Parameters as the reader leaves them: nil, if there is none. -/
def pw (ps : List (List Int)) : AV := match ps with
  | [] => .nils
  | p :: l => parsV (p :: l)
theorem pw_le (ps : List (List Int)) : RepLe (pw ps) (parsV ps) := by
  cases ps with
  | nil => exact RepLe.nils 1
  | cons p l => exact RepLe.refl _
theorem pw_one (ps : List (List Int)) : (pw ps).one = true := by cases ps <;> rfl
theorem pw_cells (ps : List (List Int)) : (pw ps).cells = [pw ps] := by cases ps <;> rfl
theorem pw_rn {f : Nat → Nm} (ps : List (List Int)) : Ab.rn f (pw ps) = pw ps := by cases ps <;> rfl
theorem pw_ok {m : Nat} {L T : List Nm} (ps : List (List Int)) : (pw ps).okIn m L T := by cases ps <;> trivial
/-- The reader's cells. -/
def rdC (b : List UInt8) (n : Nat) (s : Sq) : List AV := [.sl none 1 (bytesAV b), .int .i64 n, .int .i64 s.k, .int .u8 s.pr, pw s.ps, .str s.it, .int .u8 s.fi, .str s.da]
theorem rdC_rn {f : Nat → Nm} {b : List UInt8} {n : Nat} {s : Sq} : rnHB f (.cells (rdC b n s)) = .cells (rdC b n s) := by
  simp only [rnHB, rdC, rnL, Ab.rn, pw_rn]
theorem rdC_ok {m : Nat} {L T : List Nm} {b : List UInt8} {n : Nat} {s : Sq} : HB.okIn m L T (.cells (rdC b n s)) :=
  ⟨trivial, trivial, trivial, trivial, pw_ok _, trivial, trivial, trivial, trivial⟩
theorem nm_real {f : Nat → Nm} {n : Nm} (h : 1 ≤ n.1) : rnN f n = n := by unfold rnN; rw [if_neg]; omega
theorem nm_ok {m : Nat} {L : List Nm} {n : Nm} (h : 1 ≤ n.1) (hL : n ∈ L) : nmOK m L n := by unfold nmOK; rw [if_neg (by omega)]; exact hL
theorem Ret.rd {rs : List IRes} {p : Nm} {hb : HB} {y : AV} {b : List UInt8} {n : Nat} {s : Sq} {γ : Nat} {st : St} (h : resOf st rs = some y) (hy : y.flatT = true) (hp : 1 ≤ p.1) (hH : (p, .cells (rdC b n s)) ∈ st.H) : Ret rs [(p, hb)] [] y [(p, .cells (rdC b n s))] [] γ st := by
  refine Ret.plain h (flatT_rn hy) (fun q hq => ?_) (by simp) (flatT_ok hy) (fun q hq => ?_) (by simp)
  · simp only [List.mem_singleton] at hq; subst hq
    exact ⟨hH, nm_real hp, rdC_rn⟩
  · simp only [List.mem_singleton] at hq; subst hq
    exact ⟨nm_ok hp (by simp), rdC_ok⟩
theorem CallP.rd {Gl : Gh → Prop} {k : FuncId} {args : List AV} {p : Nm} {Ha : Hp} {b : List UInt8} {n n' : Nat} {s s' : Sq} {y : AV} {T : Tk} {f : Nat → Nm} {K : AV → Hp → Tk → Prop} (h : FS Tryd.prog Gl k args [(p, .cells (rdC b n s))] [] y [(p, .cells (rdC b n' s'))] []) (hp : 1 ≤ p.1) (hy : y.flatT = true) (hap : ∀ q ∈ Ha, p ≠ q.1)
    (hK : K y (Ha ++ [(p, .cells (rdC b n' s'))]) T) : CallP Tryd.prog Gl k args (Ha ++ [(p, .cells (rdC b n s))]) T f K := by
  refine CallG.split h (by simp) (fun q hq u hu => by simp only [List.mem_singleton] at hu; subst hu; exact hap q hq) ?_
  rintro r H1 T1 ⟨rfl, rfl, rfl⟩
  have e2 : (fun s => s ∈ ([] : List Nm).map (rnN f) ∨ (T s ∧ s ∉ ([] : List Nm))) = T := by funext s; simp
  rw [flatT_rn hy, e2]
  simp only [rnH, List.map_cons, List.map_nil, nm_real hp, rdC_rn]
  exact hK

def peekW (b : List UInt8) (n : Nat) : UInt8 := (b.drop n).headD 0
theorem peek_lt {b : List UInt8} {n : Nat} (h : n < b.length) : peekW b n = b[n] := by
  unfold peekW; rw [List.drop_eq_getElem_cons h]; rfl
theorem peek_ge {b : List UInt8} {n : Nat} (h : b.length ≤ n) : peekW b n = 0 := by
  unfold peekW; rw [List.drop_eq_nil_of_le h]; rfl
theorem fs_peek {Gl : Gh → Prop} (hst : Stays Gl) {p : Nm} (hp : 1 ≤ p.1) {b : List UInt8} {n : Nat} {s : Sq} : FS Tryd.prog Gl 72 [.ptr p 0] [(p, .cells (rdC b n s))] [] (.int .u8 (peekW b n).toNat) [(p, .cells (rdC b n s))] [] := by
  refine FS.of hm hst is_wirecursorpeek (by simp) fun γ hγ hfr => ?_
  (generalize hQ : (fun (ex : Ex) (_ _ : Nat) (s : St) => _) = Q; unfold ir_wirecursorpeek)
  by_cases hlt : n < b.length
  · have hd : decide ((n : Int) ≥ (b.length : Int)) = false := by simp; omega
    have hget := bb_get hlt
    simp only [rdC]
    simp +contextual (maxSteps := 1000000) only [hd, bytesAV_length', hget, Int.toNat_natCast, go_sem, reduceCtorEq, ↓reduceIte, Nat.reduceAdd, Nat.reduceEqDiff, Nat.reduceLeDiff, Nat.reduceMul, Nat.reduceBEq, Int.reduceBEq, Int.reduceBNe, Int.reduceLT, Int.reduceLE, Int.reduceGT, Int.reduceGE, Int.reduceToNat, Int.natCast_one, Int.natCast_zero, Int.cast_ofNat_Int]
    refine ⟨by omega, ?_⟩
    rw [← hQ, peek_lt hlt]
    exact ⟨trivial, Ret.rd rfl rfl hp (by simp [rdC])⟩
  · have hd : decide ((n : Int) ≥ (b.length : Int)) = true := by simp; omega
    simp only [rdC]
    simp +contextual (maxSteps := 1000000) only [hd, bytesAV_length', go_sem, reduceCtorEq, ↓reduceIte, Nat.reduceAdd, Nat.reduceEqDiff, Nat.reduceLeDiff, Nat.reduceMul, Nat.reduceBEq, Int.reduceBEq, Int.reduceBNe, Int.reduceLT, Int.reduceLE, Int.reduceGT, Int.reduceGE, Int.reduceToNat, Int.natCast_one, Int.natCast_zero, Int.cast_ofNat_Int]
    rw [← hQ, peek_ge (by omega)]
    exact ⟨trivial, Ret.rd rfl rfl hp (by simp [rdC])⟩
theorem fs_next {Gl : Gh → Prop} (hst : Stays Gl) {p : Nm} (hp : 1 ≤ p.1) {b : List UInt8} {n : Nat} {s : Sq} (hn : n < 4611686018427387904) : FS Tryd.prog Gl 71 [.ptr p 0] [(p, .cells (rdC b n s))] [] (.int .u8 (peekW b n).toNat) [(p, .cells (rdC b (n + 1) s))] [] := by
  refine FS.of hm hst is_wirecursornext (by simp) fun γ hγ hfr => ?_
  have hw : IntKind.i64.wrap ((n : Int) + 1) = ((n + 1 : Nat) : Int) := by rw [IntKind.wrap_i64]; omega
  (generalize hQ : (fun (ex : Ex) (_ _ : Nat) (s : St) => _) = Q; unfold ir_wirecursornext)
  simp +contextual (maxSteps := 1000000) only [go_sem, reduceCtorEq, ↓reduceIte, Nat.reduceAdd, Nat.reduceEqDiff, Nat.reduceLeDiff, Nat.reduceMul, Nat.reduceBEq, Int.reduceBEq, Int.reduceBNe, Int.reduceLT, Int.reduceLE, Int.reduceGT, Int.reduceGE, Int.reduceToNat, Int.natCast_one, Int.natCast_zero, Int.cast_ofNat_Int]
  refine CallP.rd (Ha := []) (fs_peek hst hp) hp rfl (by simp) ?_
  simp only [rdC]
  simp +contextual (maxSteps := 1000000) only [hw, go_sem, reduceCtorEq, ↓reduceIte, Nat.reduceAdd, Nat.reduceEqDiff, Nat.reduceLeDiff, Nat.reduceMul, Nat.reduceBEq, Int.reduceBEq, Int.reduceBNe, Int.reduceLT, Int.reduceLE, Int.reduceGT, Int.reduceGE, Int.reduceToNat, Int.natCast_one, Int.natCast_zero, Int.cast_ofNat_Int]
  rw [← hQ]
  exact ⟨trivial, Ret.rd rfl rfl hp (by simp [rdC])⟩
theorem runL_cons {x y : Nat} {c : UInt8} {l : List UInt8} (h : x ≤ c.toNat ∧ c.toNat ≤ y) : runL x y (c :: l) = c :: runL x y l := by
  unfold runL
  rw [List.takeWhile_cons, if_pos (by simpa using h)]
theorem fs_run {Gl : Gh → Prop} (hst : Stays Gl) {p : Nm} (hp : 1 ≤ p.1) {b : List UInt8} {n : Nat} {s : Sq} {x y : Nat} (hn : n ≤ b.length) (hb : b.length < 4611686018427387904) : FS Tryd.prog Gl 75 [.ptr p 0, .int .u8 x, .int .u8 y] [(p, .cells (rdC b n s))] [] (.str (runL x y (b.drop n))) [(p, .cells (rdC b (n + (runL x y (b.drop n)).length) s))] [] := by
  refine FS.of hm hst is_wirecursorrun (by simp) fun γ hγ hfr => ?_
  (generalize hQ : (fun (ex : Ex) (_ _ : Nat) (s : St) => _) = Q; unfold ir_wirecursorrun)
  simp only [rdC]
  simp +contextual (maxSteps := 1000000) only [go_sem, reduceCtorEq, ↓reduceIte, Nat.reduceAdd, Nat.reduceEqDiff, Nat.reduceLeDiff, Nat.reduceMul, Nat.reduceBEq, Int.reduceBEq, Int.reduceBNe, Int.reduceLT, Int.reduceLE, Int.reduceGT, Int.reduceGE, Int.reduceToNat, Int.natCast_one, Int.natCast_zero, Int.cast_ofNat_Int]
  refine kLoop_ix (fun i : Nat => ⟨lf [(0, .ptr p 0), (1, .int .u8 x), (2, .int .u8 y), (7, .int .i64 n)], [(p, .cells (rdC b (n + i) s))], fun x => x ∈ []⟩) (fun i => n + i ≤ b.length ∧ runL x y (b.drop n) = (b.drop n).take i ++ runL x y (b.drop (n + i))) (fun i => b.length - (n + i)) 0 0 ?_ ⟨by omega, by simp⟩ ?_
  · refine Wk.same ?_
    (simp only [lfOK, upd, initF]; repeat' first | exact AVle.refl _ _ | exact trivial | refine And.intro ?_ ?_ | exact AVle.int (by simp only [IntKind.wrap_i64]; omega))
  rintro γ' i hf ⟨hi, hr⟩
  generalize hQ' : kIt _ _ _ _ _ = Q'
  have fin : runL x y (b.drop (n + i)) = [] → ∀ γ c F, F 0 = .ptr p 0 → F 7 = .int .i64 n → Q' (.exit 0) γ c ⟨F, [(p, .cells [.sl none 1 (bytesAV b), .int .i64 ((n + i : Nat) : Int), .int .i64 s.k, .int .u8 s.pr, pw s.ps, .str s.it, .int .u8 s.fi, .str s.da])], fun x => x ∈ []⟩ := by
    intro h0 γ c F h1 h2
    rw [h0, List.append_nil] at hr
    have hl : (runL x y (b.drop n)).length = i := by rw [hr, List.length_take, List.length_drop]; omega
    have e1 : ((b.take (n + i)).drop n).take i = (b.drop n).take i := by rw [List.drop_take, List.take_take]; congr 1; omega
    have e2 : (b.take (n + i)).drop n = runL x y (b.drop n) := by rw [hr, List.drop_take]; congr 1; omega
    rw [← hQ']
    simp only [w_kIt_e, w_kBlk_e, ↓reduceIte]
    simp +contextual (maxSteps := 1000000) only [h1, h2, bytesAV_take, bytesAV_drop, Int.toNat_natCast, bb_un, bb_is, bytesAV_length', go_sem, reduceCtorEq, ↓reduceIte, Nat.reduceAdd, Nat.reduceEqDiff, Nat.reduceLeDiff, Nat.reduceMul, Nat.reduceBEq, Int.reduceBEq, Int.reduceBNe, Int.reduceLT, Int.reduceLE, Int.reduceGT, Int.reduceGE, Int.reduceToNat, Int.natCast_one, Int.natCast_zero, Int.cast_ofNat_Int]
    refine ⟨⟨by omega, by omega, by omega⟩, ?_⟩
    rw [← hQ, hl]
    refine ⟨trivial, Ret.rd (by simp only [resOf, getAll, IRes.get, lf_cons, ↓reduceIte, e2]) rfl hp (by simp [rdC])⟩
  unfold ir_wirecursorrun_l0
  simp only [rdC]
  by_cases hlt : n + i < b.length
  · have hd : decide (((n + i : Nat) : Int) < (b.length : Int)) = true := by simp; omega
    have hget := bb_get hlt
    have hdrop : b.drop (n + i) = b[n + i] :: b.drop (n + i + 1) := List.drop_eq_getElem_cons hlt
    have hw : IntKind.i64.wrap (((n + i : Nat) : Int) + 1) = ((n + (i + 1) : Nat) : Int) := by rw [IntKind.wrap_i64]; omega
    by_cases hx : x ≤ (b[n + i]).toNat
    · have hx' : decide (((b[n + i]).toNat : Int) ≥ (x : Int)) = true := by simp; omega
      by_cases hy : (b[n + i]).toNat ≤ y
      · have hy' : decide (((b[n + i]).toNat : Int) ≤ (y : Int)) = true := by simp; omega
        simp +contextual (maxSteps := 1000000) only [hd, bytesAV_length', hget, hx', hy', hw, Int.toNat_natCast, go_sem, reduceCtorEq, ↓reduceIte, Nat.reduceAdd, Nat.reduceEqDiff, Nat.reduceLeDiff, Nat.reduceMul, Nat.reduceBEq, Int.reduceBEq, Int.reduceBNe, Int.reduceLT, Int.reduceLE, Int.reduceGT, Int.reduceGE, Int.reduceToNat, Int.natCast_one, Int.natCast_zero, Int.cast_ofNat_Int]
        refine ⟨by omega, by omega, ?_⟩
        rw [← hQ']
        simp only [w_kIt_n]
        refine ⟨0, i + 1, Wk.same ?_, ⟨by omega, ?_⟩, by omega⟩
        · repeat' first | exact AVle.refl _ _ | exact trivial | refine And.intro ?_ ?_ | exact AVle.int (by simp only [IntKind.wrap_i64]; omega)
        · rw [hr, hdrop, runL_cons ⟨hx, hy⟩, List.take_add_one, List.getElem?_drop, List.getElem?_eq_getElem hlt, List.append_assoc]
          rfl
      · have hy' : decide (((b[n + i]).toNat : Int) ≤ (y : Int)) = false := by simp; omega
        simp +contextual (maxSteps := 1000000) only [hd, bytesAV_length', hget, hx', hy', Int.toNat_natCast, go_sem, reduceCtorEq, ↓reduceIte, Nat.reduceAdd, Nat.reduceEqDiff, Nat.reduceLeDiff, Nat.reduceMul, Nat.reduceBEq, Int.reduceBEq, Int.reduceBNe, Int.reduceLT, Int.reduceLE, Int.reduceGT, Int.reduceGE, Int.reduceToNat, Int.natCast_one, Int.natCast_zero, Int.cast_ofNat_Int]
        refine ⟨by omega, by omega, ?_⟩
        exact fin (runL_nil fun c hc => by rw [hdrop, List.head?_cons] at hc; cases hc; omega) _ _ _ rfl rfl
    · have hx' : decide (((b[n + i]).toNat : Int) ≥ (x : Int)) = false := by simp; omega
      simp +contextual (maxSteps := 1000000) only [hd, bytesAV_length', hget, hx', Int.toNat_natCast, go_sem, reduceCtorEq, ↓reduceIte, Nat.reduceAdd, Nat.reduceEqDiff, Nat.reduceLeDiff, Nat.reduceMul, Nat.reduceBEq, Int.reduceBEq, Int.reduceBNe, Int.reduceLT, Int.reduceLE, Int.reduceGT, Int.reduceGE, Int.reduceToNat, Int.natCast_one, Int.natCast_zero, Int.cast_ofNat_Int]
      refine ⟨by omega, ?_⟩
      exact fin (runL_nil fun c hc => by rw [hdrop, List.head?_cons] at hc; cases hc; omega) _ _ _ rfl rfl
  · have hd : decide (((n + i : Nat) : Int) < (b.length : Int)) = false := by simp; omega
    simp +contextual (maxSteps := 1000000) only [hd, bytesAV_length', go_sem, reduceCtorEq, ↓reduceIte, Nat.reduceAdd, Nat.reduceEqDiff, Nat.reduceLeDiff, Nat.reduceMul, Nat.reduceBEq, Int.reduceBEq, Int.reduceBNe, Int.reduceLT, Int.reduceLE, Int.reduceGT, Int.reduceGE, Int.reduceToNat, Int.natCast_one, Int.natCast_zero, Int.cast_ofNat_Int]
    exact fin (by rw [List.drop_eq_nil_of_le (by omega)]; rfl) _ _ _ rfl rfl
end Go.Proofs.YtbepihadhmfklaaDoor

set_option linter.unusedVariables false
set_option linter.unusedSimpArgs false
set_option maxRecDepth 100000
namespace Go.Proofs.YtbepihadhmfklaaDoor
open Go Go.Ab
theorem splitB_mem_len {c : UInt8} : ∀ {l : List UInt8} {p : List UInt8}, p ∈ splitB c l → p.length ≤ l.length
  | [], p, h => by simp [splitB] at h; simp [h]
  | d :: l, p, h => by
    simp only [splitB] at h
    split at h
    · rcases List.mem_cons.1 h with rfl | h
      · simp
      · have := splitB_mem_len h; simp; omega
    · split at h
      · rename_i q qs e
        rcases List.mem_cons.1 h with rfl | h
        · have := splitB_mem_len (c := c) (l := l) (p := q) (by rw [e]; simp); simp; omega
        · have := splitB_mem_len (c := c) (l := l) (p := p) (by rw [e]; simp [h]); simp; omega
      · simp at h; simp [h]
theorem splitB_len {c : UInt8} : ∀ {l : List UInt8}, (splitB c l).length ≤ l.length + 1
  | [] => by simp [splitB]
  | d :: l => by
    have ih := splitB_len (c := c) (l := l)
    simp only [splitB]
    split
    · simp; omega
    · split
      · rename_i q qs e; rw [e] at ih; simp at ih ⊢; omega
      · simp

end Go.Proofs.YtbepihadhmfklaaDoor

set_option linter.unusedVariables false
set_option linter.unusedSimpArgs false
set_option maxRecDepth 100000
namespace Go.Proofs.YtbepihadhmfklaaDoor
open Go Go.Ab
/-- clavier/wire.number -/
def ir_wirenumber : ICode :=
 (.seq
  (.reg [⟨some 2, none, .mov (.c (.int .i64 0))⟩] (some [0]))
  (.seq
   (.seq
    (.reg [⟨some 5, none, .mov (.t 0)⟩,
      ⟨some 6, none, .bin .eql .none (.t 5) (.c (.str []))⟩] (some [0, 6]))
    (.cond (.t 6)
     (.seq
      (.reg [⟨some 2, none, .mov (.c (.int .i64 (-1)))⟩] (some [2]))
      .ret)
     .skip))
   (.seq
    (.reg [⟨some 8, none, .mov (.t 0)⟩,
      ⟨some 9, none, .s2b 5 (.t 8)⟩,
      ⟨some 10, none, .call (.c (.fn (.func 98) [] [])) [(.t 9)]⟩,
      ⟨some 7, none, .mov (.t 10)⟩,
      ⟨some 11, none, .ext (.t 7) 0⟩,
      ⟨some 12, none, .ext (.t 7) 1⟩,
      ⟨some 3, none, .mov (.t 11)⟩,
      ⟨some 4, none, .mov (.t 12)⟩] (some [3]))
    (.seq
     (.reg [⟨some 13, none, .mov (.t 3)⟩,
       ⟨some 2, none, .mov (.t 13)⟩] (some [2]))
     .ret))))
theorem is_wirenumber : IrOf Tryd.prog 89 14 ir_wirenumber [.t 2] := ⟨_, Tryd.func89, rfl, by kernel_rfl, by kernel_rfl, by kernel_rfl⟩

/- (*clavier/wire.reader).params -/
def ir_wirereaderparams_b0 : ICode :=
 (.blk 3
               (.drw [⟨⟨some 37, none, .ld none (.t 5)⟩, []⟩,
                 ⟨⟨some 38, none, .mov (.t 6)⟩, []⟩,
                 ⟨⟨some 39, none, .call (.c (.fn (.func 89) [] [])) [(.t 38)]⟩, [1]⟩,
                 ⟨⟨some 40, none, .row 3 1 [(.t 39)]⟩, [2]⟩,
                 ⟨⟨some 41, none, .app 3 1 8 (.t 37) (.t 40)⟩, [0, 3, 2]⟩]
                 [⟨none, none, .st 1 (.t 5) (.t 41)⟩] (some [])))
def ir_wirereaderparams_b1 : ICode :=
 (.blk 1
         (.seq
          (.reg [⟨some 5, none, .box 62 (.c .nils)⟩] (some [1, 4, 5]))
          (.seq
           (.seq
            (.reg [⟨some 34, none, .mov (.t 4)⟩,
              ⟨some 35, none, .call (.c (.fn (.func 88) [] [])) [(.t 34), (.c (.str [58]))]⟩] (some [1, 5, 35]))
            (.blk 2
             (.rgf (.t 35) [36]
              (.reg [⟨some 6, none, .mov (.t 36)⟩] (some [5, 6]))
              ir_wirereaderparams_b0)))
           (.drw [⟨⟨some 42, none, .ld none (.t 1)⟩, []⟩,
             ⟨⟨some 43, none, .ld none (.t 1)⟩, []⟩,
             ⟨⟨some 44, none, .nck (.t 43)⟩, [1]⟩,
             ⟨⟨some 45, none, .fa 2 (.t 44)⟩, [2]⟩,
             ⟨⟨some 46, none, .fa 2 (.t 45)⟩, [3]⟩,
             ⟨⟨some 47, none, .ld none (.t 46)⟩, [4]⟩,
             ⟨⟨some 48, none, .ld none (.t 5)⟩, []⟩,
             ⟨⟨some 49, none, .row 62 1 [(.t 48)]⟩, [6]⟩,
             ⟨⟨some 50, none, .app 62 1 24 (.t 47) (.t 49)⟩, [5, 7]⟩]
             [⟨some 51, none, .nck (.t 42)⟩,
             ⟨some 52, none, .fa 2 (.t 51)⟩,
             ⟨some 53, none, .fa 2 (.t 52)⟩,
             ⟨none, none, .st 1 (.t 53) (.t 50)⟩] (some [])))))
def ir_wirereaderparams_t4 : ICode :=
 (.seq
  (.reg [⟨some 31, none, .mov (.t 3)⟩,
        ⟨some 32, none, .call (.c (.fn (.func 88) [] [])) [(.t 31), (.c (.str [59]))]⟩] (some [1, 32]))
  (.blk 0
       (.rgf (.t 32) [33]
        (.reg [⟨some 4, none, .mov (.t 33)⟩] (some [1, 4]))
        ir_wirereaderparams_b1)))
def ir_wirereaderparams_t3 : ICode :=
 (.seq
  (.seq
      (.reg [⟨some 29, none, .mov (.t 3)⟩,
        ⟨some 30, none, .bin .eql .none (.t 29) (.c (.str []))⟩] (some [1, 3, 30]))
      (.cond (.t 30)
       .ret
       .skip))
  ir_wirereaderparams_t4)
def ir_wirereaderparams_t2 : ICode :=
 (.seq
  (.reg [⟨some 25, none, .ld none (.t 1)⟩,
      ⟨some 26, none, .nck (.t 25)⟩,
      ⟨some 27, none, .fa 0 (.t 26)⟩,
      ⟨some 28, none, .call (.c (.fn (.func 75) [] [])) [(.t 27), (.c (.int .u8 48)), (.c (.int .u8 59))]⟩,
      ⟨some 3, none, .mov (.t 28)⟩] (some [1, 3]))
  ir_wirereaderparams_t3)
def ir_wirereaderparams_t1 : ICode :=
 (.seq
  (.seq
    (.reg [⟨some 7, none, .ld none (.t 1)⟩,
      ⟨some 8, none, .nck (.t 7)⟩,
      ⟨some 9, none, .fa 0 (.t 8)⟩,
      ⟨some 10, none, .call (.c (.fn (.func 72) [] [])) [(.t 9)]⟩,
      ⟨some 2, none, .mov (.t 10)⟩] (some [1, 2]))
    (.seq
     (.reg [⟨some 11, none, .mov (.t 2)⟩,
       ⟨some 12, none, .bin .geq .none (.t 11) (.c (.int .u8 60))⟩,
       ⟨some 13, none, .mov (.t 12)⟩,
       ⟨some 14, some (13, true), .mov (.t 2)⟩,
       ⟨some 15, some (13, true), .bin .leq .none (.t 14) (.c (.int .u8 63))⟩,
       ⟨some 16, none, .pick (.t 13) (.t 15) (.c (.bool false))⟩] (some [1, 16]))
     (.cond (.t 16)
      (.drwm [(), (), (), ()] [⟨⟨some 17, none, .ld none (.t 1)⟩, []⟩,
        ⟨⟨some 18, none, .ld none (.t 1)⟩, []⟩,
        ⟨⟨some 19, none, .nck (.t 18)⟩, [1]⟩,
        ⟨⟨some 20, none, .fa 0 (.t 19)⟩, [2]⟩,
        ⟨⟨some 21, none, .call (.c (.fn (.func 71) [] [])) [(.t 20)]⟩, [3]⟩]
        [⟨some 22, none, .nck (.t 17)⟩,
        ⟨some 23, none, .fa 2 (.t 22)⟩,
        ⟨some 24, none, .fa 1 (.t 23)⟩,
        ⟨none, none, .st 1 (.t 24) (.t 21)⟩] (some [1]))
      .skip)))
  ir_wirereaderparams_t2)
def ir_wirereaderparams : ICode :=
 (.seq
  (.reg [⟨some 1, none, .box 114 (.t 0)⟩] (some [1]))
  ir_wirereaderparams_t1)
theorem is_wirereaderparams : IrOf Tryd.prog 73 54 ir_wirereaderparams [] := ⟨_, Tryd.func73, rfl, by kernel_rfl, by kernel_rfl, by kernel_rfl⟩


theorem fs_wNumber {Gl : Gh → Prop} (hst : Stays Gl) {t : List UInt8} (ht : t.length ≤ maxLen) : FS Tryd.prog Gl 89 [.str t] [] [] (.int .i64 (numW t)) [] [] := by
  refine FS.of hm hst is_wirenumber (by simp) fun γ hγ hfr => ?_
  (generalize hQ : (fun (ex : Ex) (_ _ : Nat) (s : St) => _) = Q; unfold ir_wirenumber)
  cases t with
  | nil =>
    simp +contextual (maxSteps := 1000000) only [go_sem, reduceCtorEq, ↓reduceIte, Nat.reduceAdd, Nat.reduceEqDiff, Nat.reduceLeDiff, Nat.reduceMul, Nat.reduceBEq, Int.reduceBEq, Int.reduceBNe, Int.reduceLT, Int.reduceLE, Int.reduceGT, Int.reduceGE, Int.reduceToNat, Int.natCast_one, Int.natCast_zero, Int.cast_ofNat_Int]
    rw [← hQ]
    exact ⟨trivial, Ret.flat rfl rfl⟩
  | cons c l =>
    have hl : (c :: l).length < 9223372036854775808 := Nat.lt_of_le_of_lt ht (by decide)
    simp +contextual (maxSteps := 1000000) only [ht, go_sem, reduceCtorEq, ↓reduceIte, Nat.reduceAdd, Nat.reduceEqDiff, Nat.reduceLeDiff, Nat.reduceMul, Nat.reduceBEq, Int.reduceBEq, Int.reduceBNe, Int.reduceLT, Int.reduceLE, Int.reduceGT, Int.reduceGE, Int.reduceToNat, Int.natCast_one, Int.natCast_zero, Int.cast_ofNat_Int]
    refine ⟨ht, ?_⟩
    (refine CallP.pure (fs_take hst hl) (fun _ => rfl) ?_; simp +contextual (maxSteps := 1000000) only [go_sem, reduceCtorEq, ↓reduceIte, Nat.reduceAdd, Nat.reduceEqDiff, Nat.reduceLeDiff, Nat.reduceMul, Nat.reduceBEq, Int.reduceBEq, Int.reduceBNe, Int.reduceLT, Int.reduceLE, Int.reduceGT, Int.reduceGE, Int.reduceToNat, Int.natCast_one, Int.natCast_zero, Int.cast_ofNat_Int])
    rw [← hQ]
    have : numW (c :: l) = ((takeN (c :: l) 0 0).1 : Int) := by unfold numW; rw [if_neg (by simp)]
    rw [this]
    exact ⟨trivial, Ret.flat rfl rfl⟩
theorem CallP.rdX {Gl : Gh → Prop} {k : FuncId} {args : List AV} {p : Nm} {H Ha : Hp} {b : List UInt8} {n n' : Nat} {s s' : Sq} {y : AV} {T : Tk} {f : Nat → Nm} {K : AV → Hp → Tk → Prop} (h : FS Tryd.prog Gl k args [(p, .cells (rdC b n s))] [] y [(p, .cells (rdC b n' s'))] []) (hp : 1 ≤ p.1) (hy : y.flatT = true) (hap : ∀ q ∈ Ha, p ≠ q.1)
    (hH : ∀ q ∈ (p, HB.cells (rdC b n s)) :: Ha, q ∈ H) (hK : K y ((p, .cells (rdC b n' s')) :: Ha) T) : CallP Tryd.prog Gl k args H T f K := by
  refine ⟨_, _, _, h, fun q hq => hH q (by simp only [List.mem_singleton] at hq; subst hq; exact List.mem_cons_self), by simp, ?_⟩
  rintro r H1 T1 ⟨rfl, rfl, rfl⟩
  refine ⟨(p, .cells (rdC b n' s')) :: Ha, T, fun q hq => ?_, fun t ht => .inr ⟨ht, by simp⟩, by rw [flatT_rn hy]; exact hK⟩
  rcases List.mem_cons.1 hq with rfl | hq
  · refine List.mem_append.2 (.inl ?_)
    simp only [rnH, List.map_cons, List.map_nil, nm_real hp, rdC_rn, List.mem_singleton]
  · refine List.mem_append.2 (.inr (List.mem_filter.2 ⟨hH q (List.mem_cons_of_mem _ hq), ?_⟩))
    simp only [List.all_cons, List.all_nil, Bool.and_true, decide_eq_true_eq]
    exact hap q hq
theorem rdC_rnH {f : Nat → Nm} {p : Nm} (hp : 1 ≤ p.1) {b : List UInt8} {n : Nat} {s : Sq} : rnH f [(p, .cells (rdC b n s))] = [(p, .cells (rdC b n s))] := by
  simp only [rnH, List.map_cons, List.map_nil, nm_real hp, rdC_rn]

set_option maxHeartbeats 4000000 in
theorem fs_wParams {Gl : Gh → Prop} (hst : Stays Gl) {p : Nm} (hp : 1 ≤ p.1) {b : List UInt8} {n : Nat} {s : Sq} (hn : n ≤ b.length) (hb : b.length ≤ 4000000000) (h1 : s.pr = 0) (h2 : s.ps = []) :
    FS Tryd.prog Gl 73 [.ptr p 0] [(p, .cells (rdC b n s))] [] (.tup []) [(p, .cells (rdC b (n + (headW (b.drop n)).2.2) { s with pr := (headW (b.drop n)).1, ps := (headW (b.drop n)).2.1 }))] [] := by
  obtain ⟨sk, spr, sps, sit, sfi, sda⟩ := s
  simp only at h1 h2
  subst h1 h2
  refine FS.ofK hm hst is_wirereaderparams (by simp) fun γ hγ hfr => ?_
  have hpg : p.1 ≠ γ := hfr.1 _ List.mem_cons_self
  have hne : ∀ i j, (p = (γ, i, j)) = False := fun i j => eq_false fun e => hpg (by rw [e])
  have hne2 : ∀ i j, ((γ, i, j) = p) = False := fun i j => eq_false fun e => hpg (by rw [← e])
  have hap : ∀ q ∈ ([((γ, 0, 0), .cells [.ptr p 0])] : Hp), p ≠ q.1 := fun q hq e => by simp only [List.mem_singleton] at hq; subst hq; exact hpg (by rw [e])
  (generalize hQ : (fun (ex : Ex) (_ _ : Nat) (s : St) => _) = Q; unfold ir_wirereaderparams)
  simp only [rdC]
  simp +contextual (maxSteps := 1000000) only [hne, hne2, go_sem, reduceCtorEq, ↓reduceIte, Nat.reduceAdd, Nat.reduceEqDiff, Nat.reduceLeDiff, Nat.reduceMul, Nat.reduceBEq, Int.reduceBEq, Int.reduceBNe, Int.reduceLT, Int.reduceLE, Int.reduceGT, Int.reduceGE, Int.reduceToNat, Int.natCast_one, Int.natCast_zero, Int.cast_ofNat_Int]
  unfold ir_wirereaderparams_t1
  simp +contextual (maxSteps := 1000000) only [hne, hne2, go_sem, reduceCtorEq, ↓reduceIte, Nat.reduceAdd, Nat.reduceEqDiff, Nat.reduceLeDiff, Nat.reduceMul, Nat.reduceBEq, Int.reduceBEq, Int.reduceBNe, Int.reduceLT, Int.reduceLE, Int.reduceGT, Int.reduceGE, Int.reduceToNat, Int.natCast_one, Int.natCast_zero, Int.cast_ofNat_Int]
  refine CallP.rdX (Ha := [((γ, 0, 0), .cells [.ptr p 0])]) (fs_peek (b := b) (n := n) (s := ⟨sk, 0, [], sit, sfi, sda⟩) hst hp) hp rfl hap (by simp [rdC]) ?_
  simp only [rdC]
  generalize hc : peekW b n = c
  have hcond : (decide ((c.toNat : Int) ≥ 60) && decide ((c.toNat : Int) ≤ 63)) = isPr c := by
    unfold isPr; rw [Bool.eq_iff_iff]; simp; omega
  -- behind the mark
  have go2 : ∀ (m : Nat) (pr : Int) (c' : Nat) (F : Nat → AV), F 1 = .ptr (γ, 0, 0) 0 → m ≤ b.length → headW (b.drop n) = (pr, numsW (runL 48 59 (b.drop m)), (m - n) + (runL 48 59 (b.drop m)).length) → n ≤ m →
      aw Tryd.prog Gl ir_wirereaderparams_t2 γ c' ⟨F, [(p, .cells [.sl none 1 (bytesAV b), .int .i64 m, .int .i64 sk, .int .u8 pr, pw [], .str sit, .int .u8 sfi, .str sda]), ((γ, 0, 0), .cells [.ptr p 0])], fun x => x ∈ []⟩ Q := by
    intro m pr c' F hF hm' hw hnm
    have cr : FS Tryd.prog Gl 75 [.ptr p 0, .int .u8 48, .int .u8 59] [(p, .cells (rdC b m ⟨sk, pr, [], sit, sfi, sda⟩))] [] (.str (runL 48 59 (b.drop m))) [(p, .cells (rdC b (m + (runL 48 59 (b.drop m)).length) ⟨sk, pr, [], sit, sfi, sda⟩))] [] := fs_run hst hp (x := 48) (y := 59) hm' (by omega)
    have htl := runL_le 48 59 (b.drop m)
    rw [List.length_drop] at htl
    generalize runL 48 59 (b.drop m) = t at cr htl hw
    unfold ir_wirereaderparams_t2
    simp +contextual (maxSteps := 1000000) only [hne, hne2, hF, go_sem, reduceCtorEq, ↓reduceIte, Nat.reduceAdd, Nat.reduceEqDiff, Nat.reduceLeDiff, Nat.reduceMul, Nat.reduceBEq, Int.reduceBEq, Int.reduceBNe, Int.reduceLT, Int.reduceLE, Int.reduceGT, Int.reduceGE, Int.reduceToNat, Int.natCast_one, Int.natCast_zero, Int.cast_ofNat_Int]
    refine CallP.rdX (Ha := [((γ, 0, 0), .cells [.ptr p 0])]) cr hp rfl hap (by simp [rdC]) ?_
    unfold ir_wirereaderparams_t3
    simp only [rdC]
    have hfin : n + ((m - n) + t.length) = m + t.length := by omega
    by_cases hte : t = []
    · have hd : decide (t = []) = true := decide_eq_true hte
      simp +contextual (maxSteps := 1000000) only [hne, hne2, hd, go_sem, reduceCtorEq, ↓reduceIte, Nat.reduceAdd, Nat.reduceEqDiff, Nat.reduceLeDiff, Nat.reduceMul, Nat.reduceBEq, Int.reduceBEq, Int.reduceBNe, Int.reduceLT, Int.reduceLE, Int.reduceGT, Int.reduceGE, Int.reduceToNat, Int.natCast_one, Int.natCast_zero, Int.cast_ofNat_Int]
      rw [← hQ, hw]
      refine ⟨trivial, 0, _, Wk.refl _ _ _, Ret.rd rfl rfl hp ?_⟩
      rw [hfin, hte]
      simp [rdC, numsW, pw]
    · have hd : decide (t = []) = false := decide_eq_false hte
      have hnums : numsW t = (splitB 59 t).map subsW := by unfold numsW; rw [if_neg hte]
      simp +contextual (maxSteps := 1000000) only [hne, hne2, hd, go_sem, reduceCtorEq, ↓reduceIte, Nat.reduceAdd, Nat.reduceEqDiff, Nat.reduceLeDiff, Nat.reduceMul, Nat.reduceBEq, Int.reduceBEq, Int.reduceBNe, Int.reduceLT, Int.reduceLE, Int.reduceGT, Int.reduceGE, Int.reduceToNat, Int.natCast_one, Int.natCast_zero, Int.cast_ofNat_Int]
      unfold ir_wirereaderparams_t4
      simp +contextual (maxSteps := 1000000) only [hne, hne2, go_sem, reduceCtorEq, ↓reduceIte, Nat.reduceAdd, Nat.reduceEqDiff, Nat.reduceLeDiff, Nat.reduceMul, Nat.reduceBEq, Int.reduceBEq, Int.reduceBNe, Int.reduceLT, Int.reduceLE, Int.reduceGT, Int.reduceGE, Int.reduceToNat, Int.natCast_one, Int.natCast_zero, Int.cast_ofNat_Int]
      refine CallP.of (fs_SplitSeq hst) (by simp) (by simp) ?_
      simp only [rnH, hpSplit, rnN, rnHB, rnL, Ab.rn]
      simp +contextual (maxSteps := 1000000) only [hne, hne2, go_sem, reduceCtorEq, ↓reduceIte, Nat.reduceAdd, Nat.reduceEqDiff, Nat.reduceLeDiff, Nat.reduceMul, Nat.reduceBEq, Int.reduceBEq, Int.reduceBNe, Int.reduceLT, Int.reduceLE, Int.reduceGT, Int.reduceGE, Int.reduceToNat, Int.natCast_one, Int.natCast_zero, Int.cast_ofNat_Int]
      refine rgf_of rfl ((splitB 59 t).map fun q => [.str q])
        (fun i H T => ∃ (tk : Option Nm) (Hx : Hp), (tk = none → i = 0) ∧ (∀ x, tk = some x → γ ≤ x.1 ∧ T x) ∧ H = (p, .cells [.sl none 1 (bytesAV b), .int .i64 ((m + t.length : Nat) : Int), .int .i64 sk, .int .u8 pr, sv tk 1 (parsAV (((splitB 59 t).take i).map subsW)), .str sit, .int .u8 sfi, .str sda]) :: ((γ, 0, 0), .cells [.ptr p 0]) :: Hx)
        (fun _ _ _ => False) (hpSplit t 59 (γ, c' + 5 + 2 + 1, 0) (γ, c' + 5 + 2 + 1, 1) (γ, c' + 5 + 2 + 1, 2)) [(p, .cells [.sl none 1 (bytesAV b), .int .i64 ((m + t.length : Nat) : Int), .int .i64 sk, .int .u8 pr, .nils, .str sit, .int .u8 sfi, .str sda]), ((γ, 0, 0), .cells [.ptr p 0])] (fun _ => False)
        (it_split (by simp) (by simp) (by simp) (by omega)) (by simp [hpSplit]) (by simp [hpSplit, hne]) (by simp [pw]) (by simp) ⟨none, [], by simp, by simp, rfl⟩ (by simp) ?_ ?_ (fun _ _ _ h => h.elim)
      · rintro Gl' hst' hG i x H T γ' hx ⟨tk, Hx, hk1, hk2, rfl⟩ hlt hfr'
        simp only [List.getElem?_map, Option.map_eq_some_iff] at hx
        obtain ⟨q, hq, rfl⟩ := hx
        have hqm : q ∈ splitB 59 t := List.mem_of_getElem? hq
        have hql := splitB_mem_len hqm
        have hil : i < (splitB 59 t).length := (List.getElem?_eq_some_iff.1 hq).1
        have hsl := splitB_len (c := 59) (l := t)
        have hpg' : p.1 ≠ γ' := hfr'.1 _ List.mem_cons_self
        have mne : ∀ i j, (p = (γ', i, j)) = False := fun i j => eq_false fun e => hpg' (by rw [e])
        have mne2 : ∀ i j, ((γ', i, j) = p) = False := fun i j => eq_false fun e => hpg' (by rw [← e])
        have gne : (γ = γ') = False := eq_false (by omega)
        have gne2 : (γ' = γ) = False := eq_false (by omega)
        generalize hK : kBd _ _ _ = K
        unfold ir_wirereaderparams_b1
        simp +contextual (maxSteps := 1000000) only [hne, hne2, mne, mne2, gne, gne2, hF, go_sem, reduceCtorEq, ↓reduceIte, Nat.reduceAdd, Nat.reduceEqDiff, Nat.reduceLeDiff, Nat.reduceMul, Nat.reduceBEq, Int.reduceBEq, Int.reduceBNe, Int.reduceLT, Int.reduceLE, Int.reduceGT, Int.reduceGE, Int.reduceToNat, Int.natCast_one, Int.natCast_zero, Int.cast_ofNat_Int]
        refine CallP.of (fs_SplitSeq hst') (by simp) (by simp) ?_
        simp only [rnH, hpSplit, rnN, rnHB, rnL, Ab.rn]
        simp +contextual (maxSteps := 1000000) only [hne, hne2, mne, mne2, gne, gne2, go_sem, reduceCtorEq, ↓reduceIte, Nat.reduceAdd, Nat.reduceEqDiff, Nat.reduceLeDiff, Nat.reduceMul, Nat.reduceBEq, Int.reduceBEq, Int.reduceBNe, Int.reduceLT, Int.reduceLE, Int.reduceGT, Int.reduceGE, Int.reduceToNat, Int.natCast_one, Int.natCast_zero, Int.cast_ofNat_Int]
        refine rgf_of rfl ((splitB 58 q).map fun r => [.str r])
          (fun j H T => ∃ tj : Option Nm, (tj = none → j = 0) ∧ (∀ x, tj = some x → γ' ≤ x.1 ∧ T x) ∧ H = [((γ', 1, 0), .cells [sv tj 1 (intsAV (((splitB 58 q).take j).map numW))])])
          (fun _ _ _ => False) (hpSplit q 58 (γ', 3, 0) (γ', 3, 1) (γ', 3, 2)) [((γ', 1, 0), .cells [.nils])] (fun _ => False)
          (it_split (by simp) (by simp) (by simp) (by omega)) (by simp [hpSplit]) (by simp [hpSplit]) (by simp) (by simp) ⟨none, by simp, by simp, rfl⟩ (by simp) ?_ ?_ (fun _ _ _ h => h.elim)
        · rintro Gl'' hst'' hG' j x H T' γ'' hx ⟨tj, hj1, hj2, rfl⟩ hlt' hfr''
          simp only [List.getElem?_map, Option.map_eq_some_iff] at hx
          obtain ⟨r, hr, rfl⟩ := hx
          have hrl := splitB_mem_len (List.mem_of_getElem? hr)
          have hjl := (List.getElem?_eq_some_iff.1 hr).1
          have hsl' := splitB_len (c := 58) (l := q)
          have hts : (splitB 58 q).take (j + 1) = (splitB 58 q).take j ++ [r] := by rw [List.take_add_one, hr]; rfl
          have hln : (intsAV (((splitB 58 q).take j).map numW)).length ≤ q.length + 1 := by simp [intsAV]; omega
          generalize hK' : kBd _ _ _ = K'
          unfold ir_wirereaderparams_b0
          cases tj with
          | none =>
            obtain rfl := hj1 rfl
            simp +contextual (maxSteps := 1000000) only [go_sem, reduceCtorEq, ↓reduceIte, Nat.reduceAdd, Nat.reduceEqDiff, Nat.reduceLeDiff, Nat.reduceMul, Nat.reduceBEq, Int.reduceBEq, Int.reduceBNe, Int.reduceLT, Int.reduceLE, Int.reduceGT, Int.reduceGE, Int.reduceToNat, Int.natCast_one, Int.natCast_zero, Int.cast_ofNat_Int]
            refine DCall.new (fs_wNumber hst'' (by simp only [maxLen]; omega)) ?_
            simp +contextual (maxSteps := 1000000) only [go_sem, reduceCtorEq, ↓reduceIte, Nat.reduceAdd, Nat.reduceEqDiff, Nat.reduceLeDiff, Nat.reduceMul, Nat.reduceBEq, Int.reduceBEq, Int.reduceBNe, Int.reduceLT, Int.reduceLE, Int.reduceGT, Int.reduceGE, Int.reduceToNat, Int.natCast_one, Int.natCast_zero, Int.cast_ofNat_Int]
            rw [← hK']
            refine ⟨some (γ'', 5, 0), by simp, fun x hx => ?_, ?_⟩
            · cases hx
              exact ⟨by simp only; omega, by simp⟩
            · rw [hts]
              simp [sv, intsAV]
          | some t0 =>
            simp +contextual (maxSteps := 1000000) only [go_sem, reduceCtorEq, ↓reduceIte, Nat.reduceAdd, Nat.reduceEqDiff, Nat.reduceLeDiff, Nat.reduceMul, Nat.reduceBEq, Int.reduceBEq, Int.reduceBNe, Int.reduceLT, Int.reduceLE, Int.reduceGT, Int.reduceGE, Int.reduceToNat, Int.natCast_one, Int.natCast_zero, Int.cast_ofNat_Int]
            refine DCall.new (fs_wNumber hst'' (by simp only [maxLen]; omega)) ?_
            simp +contextual (maxSteps := 1000000) only [go_sem, reduceCtorEq, ↓reduceIte, Nat.reduceAdd, Nat.reduceEqDiff, Nat.reduceLeDiff, Nat.reduceMul, Nat.reduceBEq, Int.reduceBEq, Int.reduceBNe, Int.reduceLT, Int.reduceLE, Int.reduceGT, Int.reduceGE, Int.reduceToNat, Int.natCast_one, Int.natCast_zero, Int.cast_ofNat_Int]
            refine ⟨.inl (hj2 t0 rfl).2, by omega, by simp, ?_⟩
            rw [← hK']
            refine ⟨some (γ'', 5, 0), by simp, fun x hx => ?_, ?_⟩
            · cases hx
              exact ⟨by simp only; omega, .inl (by simp), fun e => hfr''.2 t0 (hj2 t0 rfl).2 (by rw [← e])⟩
            · rw [hts]
              simp [sv, intsAV]
        · rintro H1 T1 ⟨tj, hj1, hj2, rfl⟩
          have hlen' : ((splitB 58 q).map fun r => [AV.str r]).length = (splitB 58 q).length := by simp
          rw [hlen'] at hj1 ⊢
          rw [List.take_length]
          cases tj with
          | none => exact absurd (List.length_eq_zero_iff.1 (hj1 rfl)) (splitB_ne _ _)
          | some u0 =>
            refine ⟨[(p, .cells [.sl none 1 (bytesAV b), .int .i64 ((m + t.length : Nat) : Int), .int .i64 sk, .int .u8 pr, sv tk 1 (parsAV (((splitB 59 t).take i).map subsW)), .str sit, .int .u8 sfi, .str sda]), ((γ, 0, 0), .cells [.ptr p 0]), ((γ', 1, 0), .cells [.sl (some u0) 1 (intsAV (subsW q))])], fun x => x = u0 ∨ T x, fun z hz => ?_, fun x hx => ?_, ?_⟩
            · simp only [List.mem_cons, List.not_mem_nil, or_false] at hz
              rcases hz with rfl | rfl | rfl
              · exact List.mem_append.2 (.inr (List.mem_filter.2 ⟨by simp, by simp [hpSplit, mne2]⟩))
              · exact List.mem_append.2 (.inr (List.mem_filter.2 ⟨by simp, by simp [hpSplit, gne2]⟩))
              · exact List.mem_append.2 (.inl (by simp [sv, subsW]))
            · rcases hx with rfl | hx
              · exact .inl (hj2 _ rfl).2
              · exact .inr ⟨.inr ⟨hx, by simp⟩, by simp⟩
            have hts : (splitB 59 t).take (i + 1) = (splitB 59 t).take i ++ [q] := by rw [List.take_add_one, hq]; rfl
            have hln : (parsAV (((splitB 59 t).take i).map subsW)).length ≤ t.length + 1 := by simp [parsAV]; omega
            cases tk with
            | none =>
              obtain rfl := hk1 rfl
              simp +contextual (maxSteps := 1000000) only [hne, hne2, mne, mne2, gne, gne2, go_sem, reduceCtorEq, ↓reduceIte, Nat.reduceAdd, Nat.reduceEqDiff, Nat.reduceLeDiff, Nat.reduceMul, Nat.reduceBEq, Int.reduceBEq, Int.reduceBNe, Int.reduceLT, Int.reduceLE, Int.reduceGT, Int.reduceGE, Int.reduceToNat, Int.natCast_one, Int.natCast_zero, Int.cast_ofNat_Int]
              rw [← hK]
              refine ⟨some (γ', 13, 0), [((γ', 1, 0), .cells [.sl (some u0) 1 (intsAV (subsW q))])], by simp, fun x hx => ?_, ?_⟩
              · cases hx
                exact ⟨by simp only; omega, by simp⟩
              · rw [hts]
                simp [sv, parsAV, intsV]
            | some t0 =>
              simp +contextual (maxSteps := 1000000) only [hne, hne2, mne, mne2, gne, gne2, go_sem, reduceCtorEq, ↓reduceIte, Nat.reduceAdd, Nat.reduceEqDiff, Nat.reduceLeDiff, Nat.reduceMul, Nat.reduceBEq, Int.reduceBEq, Int.reduceBNe, Int.reduceLT, Int.reduceLE, Int.reduceGT, Int.reduceGE, Int.reduceToNat, Int.natCast_one, Int.natCast_zero, Int.cast_ofNat_Int]
              refine ⟨.inl (.inr (hk2 t0 rfl).2), by omega, by simp, ?_⟩
              rw [← hK]
              refine ⟨some (γ', 13, 0), [((γ', 1, 0), .cells [.sl (some u0) 1 (intsAV (subsW q))])], by simp, fun x hx => ?_, ?_⟩
              · cases hx
                exact ⟨by simp only; omega, .inl (by simp), fun e => hfr'.2 t0 (hk2 t0 rfl).2 (by rw [← e])⟩
              · rw [hts]
                simp [sv, parsAV, intsV]
      · rintro H1 T1 ⟨tk, Hx, hk1, hk2, rfl⟩
        refine ⟨_, fun t => tk = some t, fun p hp => List.mem_append.2 (.inl hp), fun t ht => .inl (hk2 t ht).2, ?_⟩
        have hlen : ((splitB 59 t).map fun p => [AV.str p]).length = (splitB 59 t).length := by simp
        rw [hlen] at hk1 ⊢
        rw [List.take_length]
        cases tk with
        | none => exact absurd (List.length_eq_zero_iff.1 (hk1 rfl)) (splitB_ne _ _)
        | some t0 =>
          simp +contextual (maxSteps := 1000000) only [go_sem, reduceCtorEq, ↓reduceIte, Nat.reduceAdd, Nat.reduceEqDiff, Nat.reduceLeDiff, Nat.reduceMul, Nat.reduceBEq, Int.reduceBEq, Int.reduceBNe, Int.reduceLT, Int.reduceLE, Int.reduceGT, Int.reduceGE, Int.reduceToNat, Int.natCast_one, Int.natCast_zero, Int.cast_ofNat_Int]
          rw [← hQ, hw]
          refine ⟨trivial, 0, ⟨fun _ => .und, [(p, .cells (rdC b (m + t.length) ⟨sk, pr, (splitB 59 t).map subsW, sit, sfi, sda⟩))], fun x => x ∈ []⟩, ⟨fun _ => .und _ _, ?_, by simp⟩, Ret.rd rfl rfl hp ?_⟩
          · intro r hr
            simp only [List.mem_singleton] at hr
            subst hr
            refine ⟨_, List.mem_cons_self, rfl, rfl, fun i x y hx hy => ?_⟩
            have hpw : pw ((splitB 59 t).map subsW) = .sl none 1 (parsAV ((splitB 59 t).map subsW)) := by
              have := splitB_ne 59 t
              cases hs : splitB 59 t with
              | nil => exact absurd hs this
              | cons a l => rfl
            simp only [rdC, hpw] at hy
            rcases i with _ | _ | _ | _ | _ | _ | _ | _ | i <;> simp only [List.getElem?_cons_zero, List.getElem?_cons_succ, List.getElem?_nil, Option.some.injEq, reduceCtorEq] at hx hy <;> subst hx hy <;> first | exact AVle.refl _ _ | exact AVle.le (RepLe.anon' rfl)
          · rw [hfin, hnums]
            exact List.mem_singleton.2 rfl
  cases hpr : isPr c with
  | true =>
    rw [hpr] at hcond
    have hlt : n < b.length := by
      rcases Nat.lt_or_ge n b.length with h | h
      · exact h
      · rw [peek_ge h] at hc
        subst hc
        simp [isPr] at hpr
    have hh : headW (b.drop n) = ((c.toNat : Int), numsW (runL 48 59 (b.drop (n + 1))), (n + 1 - n) + (runL 48 59 (b.drop (n + 1))).length) := by
      unfold headW
      have : (b.drop n).headD 0 = c := hc
      rw [this, hpr]
      simp only [if_true, List.drop_drop]
      rw [show n + 1 - n = 1 by omega]
    simp +contextual (maxSteps := 1000000) only [hne, hne2, hcond, go_sem, reduceCtorEq, ↓reduceIte, Nat.reduceAdd, Nat.reduceEqDiff, Nat.reduceLeDiff, Nat.reduceMul, Nat.reduceBEq, Int.reduceBEq, Int.reduceBNe, Int.reduceLT, Int.reduceLE, Int.reduceGT, Int.reduceGE, Int.reduceToNat, Int.natCast_one, Int.natCast_zero, Int.cast_ofNat_Int]
    refine kDrwM_of [((γ, 0, 0), .cells [.ptr p 0])] [(p, .cells (rdC b n ⟨sk, 0, [], sit, sfi, sda⟩))] (by simp [rdC]) (fun q hq q' hq' => ?_) ?_
    · simp only [List.mem_singleton] at hq hq'
      subst hq hq'
      exact fun e => hpg (by rw [show p = (γ, 0, 0) from e])
    simp +contextual (maxSteps := 1000000) only [hne, hne2, go_sem, reduceCtorEq, ↓reduceIte, Nat.reduceAdd, Nat.reduceEqDiff, Nat.reduceLeDiff, Nat.reduceMul, Nat.reduceBEq, Int.reduceBEq, Int.reduceBNe, Int.reduceLT, Int.reduceLE, Int.reduceGT, Int.reduceGE, Int.reduceToNat, Int.natCast_one, Int.natCast_zero, Int.cast_ofNat_Int]
    refine MCall.of (fs_next hst hp (by omega)) (fun _ => rfl) (fun _ => rdC_rnH hp) (fun q hq q' hq' => ?_) ?_
    · simp only [List.mem_singleton] at hq hq'
      subst hq hq'
      exact fun e => hpg (by rw [← show (γ, 0, 0) = p from e])
    rw [hc]
    simp only [rdC]
    simp +contextual (maxSteps := 1000000) only [hne, hne2, go_sem, reduceCtorEq, ↓reduceIte, Nat.reduceAdd, Nat.reduceEqDiff, Nat.reduceLeDiff, Nat.reduceMul, Nat.reduceBEq, Int.reduceBEq, Int.reduceBNe, Int.reduceLT, Int.reduceLE, Int.reduceGT, Int.reduceGE, Int.reduceToNat, Int.natCast_one, Int.natCast_zero, Int.cast_ofNat_Int]
    exact go2 (n + 1) c.toNat _ _ rfl hlt hh (by omega)
  | false =>
    rw [hpr] at hcond
    simp +contextual (maxSteps := 1000000) only [hne, hne2, hcond, go_sem, reduceCtorEq, ↓reduceIte, Nat.reduceAdd, Nat.reduceEqDiff, Nat.reduceLeDiff, Nat.reduceMul, Nat.reduceBEq, Int.reduceBEq, Int.reduceBNe, Int.reduceLT, Int.reduceLE, Int.reduceGT, Int.reduceGE, Int.reduceToNat, Int.natCast_one, Int.natCast_zero, Int.cast_ofNat_Int]
    refine go2 n 0 _ _ rfl hn ?_ (Nat.le_refl n)
    unfold headW
    have : (b.drop n).headD 0 = c := hc
    rw [this, hpr]
    simp
end Go.Proofs.YtbepihadhmfklaaDoor

set_option linter.unusedVariables false
set_option linter.unusedSimpArgs false
set_option maxRecDepth 100000
namespace Go.Proofs.YtbepihadhmfklaaDoor
open Go Go.Ab
/-- (*clavier/wire.reader).rest -/
def ir_wirereaderrest : ICode :=
 (.seq
  (.reg [⟨some 2, none, .mov (.t 0)⟩,
    ⟨some 3, none, .mov (.t 0)⟩,
    ⟨some 4, none, .nck (.t 3)⟩,
    ⟨some 5, none, .fa 0 (.t 4)⟩,
    ⟨some 6, none, .call (.c (.fn (.func 75) [] [])) [(.t 5), (.c (.int .u8 32)), (.c (.int .u8 47))]⟩,
    ⟨some 7, none, .nck (.t 2)⟩,
    ⟨some 8, none, .fa 2 (.t 7)⟩,
    ⟨some 9, none, .fa 3 (.t 8)⟩,
    ⟨none, none, .st 1 (.t 9) (.t 6)⟩] (some [0]))
  (.reg [⟨some 10, none, .mov (.t 0)⟩,
    ⟨some 11, none, .mov (.t 0)⟩,
    ⟨some 12, none, .nck (.t 11)⟩,
    ⟨some 13, none, .fa 0 (.t 12)⟩,
    ⟨some 14, none, .call (.c (.fn (.func 71) [] [])) [(.t 13)]⟩,
    ⟨some 15, none, .nck (.t 10)⟩,
    ⟨some 16, none, .fa 2 (.t 15)⟩,
    ⟨some 17, none, .fa 4 (.t 16)⟩,
    ⟨none, none, .st 1 (.t 17) (.t 14)⟩] (some [])))
theorem is_wirereaderrest : IrOf Tryd.prog 74 18 ir_wirereaderrest [] := ⟨_, Tryd.func74, rfl, by kernel_rfl, by kernel_rfl, by kernel_rfl⟩

/-- (*clavier/wire.reader).read -/
def ir_wirereaderread : ICode :=
 (.seq
  (.seq
   (.reg [⟨some 2, none, .mov (.t 0)⟩,
     ⟨some 3, none, .nck (.t 2)⟩,
     ⟨some 4, none, .fa 0 (.t 3)⟩,
     ⟨some 5, none, .call (.c (.fn (.func 71) [] [])) [(.t 4)]⟩,
     ⟨some 6, none, .bin .neq .none (.t 5) (.c (.int .u8 27))⟩] (some [0, 6]))
   (.cond (.t 6)
    .ret
    .skip))
  (.seq
   (.reg [⟨some 7, none, .mov (.t 0)⟩,
     ⟨some 8, none, .nck (.t 7)⟩,
     ⟨some 9, none, .fa 0 (.t 8)⟩,
     ⟨some 10, none, .call (.c (.fn (.func 72) [] [])) [(.t 9)]⟩] (some [0, 10]))
   (.blk 0
    (.seq
     (.reg [⟨some 18, none, .bin .eql .none (.t 10) (.c (.int .u8 91))⟩,
       ⟨some 17, none, .mov (.t 18)⟩] (some [0, 10, 17]))
     (.cond (.t 17)
      (.seq
       (.reg [⟨some 19, none, .mov (.t 0)⟩,
         ⟨some 20, none, .nck (.t 19)⟩,
         ⟨some 21, none, .fa 2 (.t 20)⟩,
         ⟨some 22, none, .fa 0 (.t 21)⟩,
         ⟨none, none, .st 1 (.t 22) (.c (.int .i64 1))⟩] (some [0]))
       (.seq
        (.reg [⟨some 23, none, .mov (.t 0)⟩,
          ⟨some 24, none, .nck (.t 23)⟩,
          ⟨some 25, none, .fa 0 (.t 24)⟩,
          ⟨some 26, none, .fa 1 (.t 25)⟩,
          ⟨some 27, none, .ld none (.t 26)⟩,
          ⟨some 28, none, .bin .add .none (.t 27) (.c (.int .i64 1))⟩,
          ⟨some 29, none, .nck (.t 23)⟩,
          ⟨some 30, none, .fa 0 (.t 29)⟩,
          ⟨some 31, none, .fa 1 (.t 30)⟩,
          ⟨none, none, .st 1 (.t 31) (.t 28)⟩] (some [0]))
        (.seq
         (.reg [⟨some 32, none, .mov (.t 0)⟩,
           ⟨some 33, none, .call (.c (.fn (.func 73) [] [])) [(.t 32)]⟩] (some [0]))
         (.reg [⟨some 34, none, .mov (.t 0)⟩,
           ⟨some 35, none, .call (.c (.fn (.func 74) [] [])) [(.t 34)]⟩] (some [])))))
      (.seq
       (.reg [⟨some 37, none, .bin .eql .none (.t 10) (.c (.int .u8 79))⟩,
         ⟨some 36, none, .mov (.t 37)⟩] (some [0, 10, 36]))
       (.cond (.t 36)
        (.seq
         (.reg [⟨some 38, none, .mov (.t 0)⟩,
           ⟨some 39, none, .nck (.t 38)⟩,
           ⟨some 40, none, .fa 2 (.t 39)⟩,
           ⟨some 41, none, .fa 0 (.t 40)⟩,
           ⟨none, none, .st 1 (.t 41) (.c (.int .i64 2))⟩] (some [0]))
         (.seq
          (.reg [⟨some 42, none, .mov (.t 0)⟩,
            ⟨some 43, none, .nck (.t 42)⟩,
            ⟨some 44, none, .fa 0 (.t 43)⟩,
            ⟨some 45, none, .fa 1 (.t 44)⟩,
            ⟨some 46, none, .ld none (.t 45)⟩,
            ⟨some 47, none, .bin .add .none (.t 46) (.c (.int .i64 1))⟩,
            ⟨some 48, none, .nck (.t 42)⟩,
            ⟨some 49, none, .fa 0 (.t 48)⟩,
            ⟨some 50, none, .fa 1 (.t 49)⟩,
            ⟨none, none, .st 1 (.t 50) (.t 47)⟩] (some [0]))
          (.reg [⟨some 51, none, .mov (.t 0)⟩,
            ⟨some 52, none, .mov (.t 0)⟩,
            ⟨some 53, none, .nck (.t 52)⟩,
            ⟨some 54, none, .fa 0 (.t 53)⟩,
            ⟨some 55, none, .call (.c (.fn (.func 71) [] [])) [(.t 54)]⟩,
            ⟨some 56, none, .nck (.t 51)⟩,
            ⟨some 57, none, .fa 2 (.t 56)⟩,
            ⟨some 58, none, .fa 4 (.t 57)⟩,
            ⟨none, none, .st 1 (.t 58) (.t 55)⟩] (some []))))
        (.seq
         (.reg [⟨some 60, none, .bin .eql .none (.t 10) (.c (.int .u8 80))⟩,
           ⟨some 59, none, .mov (.t 60)⟩] (some [0, 10, 59]))
         (.cond (.t 59)
          (.seq
           (.reg [⟨some 61, none, .mov (.t 0)⟩,
             ⟨some 62, none, .nck (.t 61)⟩,
             ⟨some 63, none, .fa 2 (.t 62)⟩,
             ⟨some 64, none, .fa 0 (.t 63)⟩,
             ⟨none, none, .st 1 (.t 64) (.c (.int .i64 3))⟩] (some [0]))
           (.seq
            (.reg [⟨some 65, none, .mov (.t 0)⟩,
              ⟨some 66, none, .nck (.t 65)⟩,
              ⟨some 67, none, .fa 0 (.t 66)⟩,
              ⟨some 68, none, .fa 1 (.t 67)⟩,
              ⟨some 69, none, .ld none (.t 68)⟩,
              ⟨some 70, none, .bin .add .none (.t 69) (.c (.int .i64 1))⟩,
              ⟨some 71, none, .nck (.t 65)⟩,
              ⟨some 72, none, .fa 0 (.t 71)⟩,
              ⟨some 73, none, .fa 1 (.t 72)⟩,
              ⟨none, none, .st 1 (.t 73) (.t 70)⟩] (some [0]))
            (.seq
             (.reg [⟨some 74, none, .mov (.t 0)⟩,
               ⟨some 75, none, .call (.c (.fn (.func 73) [] [])) [(.t 74)]⟩] (some [0]))
             (.seq
              (.reg [⟨some 76, none, .mov (.t 0)⟩,
                ⟨some 77, none, .call (.c (.fn (.func 74) [] [])) [(.t 76)]⟩] (some [0]))
              (.seq
               (.reg [⟨some 78, none, .mov (.t 0)⟩,
                 ⟨some 79, none, .mov (.t 0)⟩,
                 ⟨some 80, none, .nck (.t 79)⟩,
                 ⟨some 81, none, .fa 0 (.t 80)⟩,
                 ⟨some 82, none, .call (.c (.fn (.func 75) [] [])) [(.t 81), (.c (.int .u8 32)), (.c (.int .u8 126))]⟩,
                 ⟨some 83, none, .nck (.t 78)⟩,
                 ⟨some 84, none, .fa 2 (.t 83)⟩,
                 ⟨some 85, none, .fa 5 (.t 84)⟩,
                 ⟨none, none, .st 1 (.t 85) (.t 82)⟩] (some [0]))
               (.reg [⟨some 86, none, .mov (.t 0)⟩,
                 ⟨some 87, none, .nck (.t 86)⟩,
                 ⟨some 88, none, .fa 0 (.t 87)⟩,
                 ⟨some 89, none, .fa 1 (.t 88)⟩,
                 ⟨some 90, none, .ld none (.t 89)⟩,
                 ⟨some 91, none, .bin .add .none (.t 90) (.c (.int .i64 2))⟩,
                 ⟨some 92, none, .nck (.t 86)⟩,
                 ⟨some 93, none, .fa 0 (.t 92)⟩,
                 ⟨some 94, none, .fa 1 (.t 93)⟩,
                 ⟨none, none, .st 1 (.t 94) (.t 91)⟩] (some [])))))))
          (.seq
           (.reg [⟨some 96, none, .bin .eql .none (.t 10) (.c (.int .u8 93))⟩,
             ⟨some 95, none, .mov (.t 96)⟩] (some [0, 95]))
           (.cond (.t 95)
            (.seq
             (.reg [⟨some 97, none, .mov (.t 0)⟩,
               ⟨some 98, none, .nck (.t 97)⟩,
               ⟨some 99, none, .fa 2 (.t 98)⟩,
               ⟨some 100, none, .fa 0 (.t 99)⟩,
               ⟨none, none, .st 1 (.t 100) (.c (.int .i64 4))⟩] (some [0]))
             (.seq
              (.reg [⟨some 101, none, .mov (.t 0)⟩,
                ⟨some 102, none, .nck (.t 101)⟩,
                ⟨some 103, none, .fa 0 (.t 102)⟩,
                ⟨some 104, none, .fa 1 (.t 103)⟩,
                ⟨some 105, none, .ld none (.t 104)⟩,
                ⟨some 106, none, .bin .add .none (.t 105) (.c (.int .i64 1))⟩,
                ⟨some 107, none, .nck (.t 101)⟩,
                ⟨some 108, none, .fa 0 (.t 107)⟩,
                ⟨some 109, none, .fa 1 (.t 108)⟩,
                ⟨none, none, .st 1 (.t 109) (.t 106)⟩] (some [0]))
              (.seq
               (.reg [⟨some 110, none, .mov (.t 0)⟩,
                 ⟨some 111, none, .mov (.t 0)⟩,
                 ⟨some 112, none, .nck (.t 111)⟩,
                 ⟨some 113, none, .fa 0 (.t 112)⟩,
                 ⟨some 114, none, .call (.c (.fn (.func 75) [] [])) [(.t 113), (.c (.int .u8 32)), (.c (.int .u8 126))]⟩,
                 ⟨some 115, none, .nck (.t 110)⟩,
                 ⟨some 116, none, .fa 2 (.t 115)⟩,
                 ⟨some 117, none, .fa 5 (.t 116)⟩,
                 ⟨none, none, .st 1 (.t 117) (.t 114)⟩] (some [0]))
               (.reg [⟨some 118, none, .mov (.t 0)⟩,
                 ⟨some 119, none, .nck (.t 118)⟩,
                 ⟨some 120, none, .fa 0 (.t 119)⟩,
                 ⟨some 121, none, .fa 1 (.t 120)⟩,
                 ⟨some 122, none, .ld none (.t 121)⟩,
                 ⟨some 123, none, .bin .add .none (.t 122) (.c (.int .i64 2))⟩,
                 ⟨some 124, none, .nck (.t 118)⟩,
                 ⟨some 125, none, .fa 0 (.t 124)⟩,
                 ⟨some 126, none, .fa 1 (.t 125)⟩,
                 ⟨none, none, .st 1 (.t 126) (.t 123)⟩] (some [])))))
            (.seq
             (.reg [⟨some 11, none, .mov (.t 0)⟩,
               ⟨some 12, none, .nck (.t 11)⟩,
               ⟨some 13, none, .fa 2 (.t 12)⟩,
               ⟨some 14, none, .fa 0 (.t 13)⟩,
               ⟨none, none, .st 1 (.t 14) (.c (.int .i64 5))⟩] (some [0]))
             (.reg [⟨some 15, none, .mov (.t 0)⟩,
               ⟨some 16, none, .call (.c (.fn (.func 74) [] [])) [(.t 15)]⟩] (some []))))))))))))))
theorem is_wirereaderread : IrOf Tryd.prog 56 127 ir_wirereaderread [] := ⟨_, Tryd.func56, rfl, by kernel_rfl, by kernel_rfl, by kernel_rfl⟩


theorem peek_drop {b : List UInt8} {n k : Nat} : ((b.drop n).drop k).headD 0 = peekW b (n + k) := by unfold peekW; rw [List.drop_drop]
theorem headW_le (l : List UInt8) : (headW l).2.2 ≤ l.length := by
  unfold headW
  simp only
  split
  · rename_i h
    have h1 := runL_le 48 59 (l.drop 1)
    rw [List.length_drop] at h1
    cases l with
    | nil => simp [isPr] at h
    | cons c l => simp only [List.length_cons] at h1 ⊢; omega
  · have h1 := runL_le 48 59 (l.drop 0)
    rw [List.drop_zero] at h1 ⊢
    omega
theorem fs_wRest {Gl : Gh → Prop} (hst : Stays Gl) {p : Nm} (hp : 1 ≤ p.1) {b : List UInt8} {n : Nat} {s : Sq} (hn : n ≤ b.length) (hb : b.length ≤ 4000000000) :
    FS Tryd.prog Gl 74 [.ptr p 0] [(p, .cells (rdC b n s))] [] (.tup []) [(p, .cells (rdC b (n + (restW (b.drop n)).2.2) { s with it := (restW (b.drop n)).1, fi := (restW (b.drop n)).2.1 }))] [] := by
  refine FS.of hm hst is_wirereaderrest (by simp) fun γ hγ hfr => ?_
  have c1 : FS Tryd.prog Gl 75 [.ptr p 0, .int .u8 32, .int .u8 47] [(p, .cells (rdC b n s))] [] (.str (runL 32 47 (b.drop n))) [(p, .cells (rdC b (n + (runL 32 47 (b.drop n)).length) s))] [] := fs_run hst hp (x := 32) (y := 47) hn (by omega)
  have hle := runL_le 32 47 (b.drop n)
  rw [List.length_drop] at hle
  have hw : restW (b.drop n) = (runL 32 47 (b.drop n), ((peekW b (n + (runL 32 47 (b.drop n)).length)).toNat : Int), (runL 32 47 (b.drop n)).length + 1) := by
    unfold restW; simp only [peek_drop]
  rw [hw]
  generalize runL 32 47 (b.drop n) = t at c1 hle
  have c2 := fs_next (Gl := Gl) hst hp (b := b) (n := n + t.length) (s := { s with it := t }) (by omega)
  (generalize hQ : (fun (ex : Ex) (_ _ : Nat) (s : St) => _) = Q; unfold ir_wirereaderrest)
  simp only [rdC]
  simp +contextual (maxSteps := 1000000) only [go_sem, reduceCtorEq, ↓reduceIte, Nat.reduceAdd, Nat.reduceEqDiff, Nat.reduceLeDiff, Nat.reduceMul, Nat.reduceBEq, Int.reduceBEq, Int.reduceBNe, Int.reduceLT, Int.reduceLE, Int.reduceGT, Int.reduceGE, Int.reduceToNat, Int.natCast_one, Int.natCast_zero, Int.cast_ofNat_Int]
  refine CallP.rdX (Ha := []) c1 hp rfl (by simp) (by simp [rdC]) ?_
  simp only [rdC]
  simp +contextual (maxSteps := 1000000) only [go_sem, reduceCtorEq, ↓reduceIte, Nat.reduceAdd, Nat.reduceEqDiff, Nat.reduceLeDiff, Nat.reduceMul, Nat.reduceBEq, Int.reduceBEq, Int.reduceBNe, Int.reduceLT, Int.reduceLE, Int.reduceGT, Int.reduceGE, Int.reduceToNat, Int.natCast_one, Int.natCast_zero, Int.cast_ofNat_Int]
  refine CallP.rdX (Ha := []) c2 hp rfl (by simp) (by simp [rdC]) ?_
  simp only [rdC]
  simp +contextual (maxSteps := 1000000) only [go_sem, reduceCtorEq, ↓reduceIte, Nat.reduceAdd, Nat.reduceEqDiff, Nat.reduceLeDiff, Nat.reduceMul, Nat.reduceBEq, Int.reduceBEq, Int.reduceBNe, Int.reduceLT, Int.reduceLE, Int.reduceGT, Int.reduceGE, Int.reduceToNat, Int.natCast_one, Int.natCast_zero, Int.cast_ofNat_Int]
  rw [← hQ]
  exact ⟨trivial, Ret.rd rfl rfl hp (by simp [rdC, Nat.add_assoc])⟩

/-- No sequence with data is cut off ahead of these. -/
def dcsOk (b : List UInt8) : Prop := b.headD 0 = 27 → (b.drop 1).headD 0 = 80 → 2 + (headW (b.drop 2)).2.2 + (restW (b.drop (2 + (headW (b.drop 2)).2.2))).2.2 ≤ b.length
theorem u8_eq {c : UInt8} {k : Nat} (hk : k < 256) : ((c.toNat : Int) == (k : Int)) = decide (c = UInt8.ofNat k) := by
  rw [Bool.eq_iff_iff, beq_iff_eq, decide_eq_true_eq]
  constructor
  · intro h
    have h : c.toNat = k := by omega
    rw [← h, UInt8.ofNat_toNat]
  · rintro rfl
    rw [UInt8.toNat_ofNat', Nat.mod_eq_of_lt hk]
theorem u8_ne {c : UInt8} {k : Nat} (hk : k < 256) : ((c.toNat : Int) != (k : Int)) = !decide (c = UInt8.ofNat k) := by
  rw [bne, u8_eq hk]
set_option maxHeartbeats 4000000 in
theorem fs_wRead {Gl : Gh → Prop} (hst : Stays Gl) {p : Nm} (hp : 1 ≤ p.1) {b : List UInt8} (hb : b.length ≤ 4000000000) (hd : dcsOk b) :
    FS Tryd.prog Gl 56 [.ptr p 0] [(p, .cells (rdC b 0 zeroSq))] [] (.tup []) [(p, .cells (rdC b (readW b).2 (readW b).1))] [] := by
  refine FS.of hm hst is_wirereaderread (by simp) fun γ hγ hfr => ?_
  have w2 : IntKind.i64.wrap 2 = 2 := by decide
  (generalize hQ : (fun (ex : Ex) (_ _ : Nat) (s : St) => _) = Q; unfold ir_wirereaderread)
  simp +contextual (maxSteps := 1000000) only [go_sem, reduceCtorEq, ↓reduceIte, Nat.reduceAdd, Nat.reduceEqDiff, Nat.reduceLeDiff, Nat.reduceMul, Nat.reduceBEq, Int.reduceBEq, Int.reduceBNe, Int.reduceLT, Int.reduceLE, Int.reduceGT, Int.reduceGE, Int.reduceToNat, Int.natCast_one, Int.natCast_zero, Int.cast_ofNat_Int]
  refine CallP.rdX (Ha := []) (fs_next (b := b) (n := 0) (s := zeroSq) hst hp (by omega)) hp rfl (by simp) (by simp) ?_
  have hpk : peekW b 0 = b.headD 0 := by unfold peekW; rw [List.drop_zero]
  rw [hpk]
  have n1 : (((b.headD 0).toNat : Int) != 27) = !decide (b.headD 0 = 27) := u8_ne (k := 27) (by omega)
  by_cases h27 : b.headD 0 = 27
  · have n1 : (((b.headD 0).toNat : Int) != 27) = false := by rw [n1, decide_eq_true h27]; rfl
    have hl1 : 1 ≤ b.length := by
      cases b with
      | nil => simp at h27
      | cons c l => simp
    simp +contextual (maxSteps := 1000000) only [n1, go_sem, reduceCtorEq, ↓reduceIte, Nat.reduceAdd, Nat.reduceEqDiff, Nat.reduceLeDiff, Nat.reduceMul, Nat.reduceBEq, Int.reduceBEq, Int.reduceBNe, Int.reduceLT, Int.reduceLE, Int.reduceGT, Int.reduceGE, Int.reduceToNat, Int.natCast_one, Int.natCast_zero, Int.cast_ofNat_Int]
    refine CallP.rdX (Ha := []) (fs_peek (b := b) (n := 1) (s := zeroSq) hst hp) hp rfl (by simp) (by simp) ?_
    have hpk1 : peekW b 1 = (b.drop 1).headD 0 := rfl
    rw [hpk1]
    generalize hc : (b.drop 1).headD 0 = c
    have k2 : c ≠ 0 → 2 ≤ b.length := fun h => by
      rcases Nat.lt_or_ge 1 b.length with h' | h'
      · omega
      · rw [List.drop_eq_nil_of_le (by omega)] at hc
        exact absurd hc.symm h
    have g1 : ((c.toNat : Int) == 91) = decide (c = 91) := u8_eq (k := 91) (by omega)
    have g2 : ((c.toNat : Int) == 79) = decide (c = 79) := u8_eq (k := 79) (by omega)
    have g3 : ((c.toNat : Int) == 80) = decide (c = 80) := u8_eq (k := 80) (by omega)
    have g4 : ((c.toNat : Int) == 93) = decide (c = 93) := u8_eq (k := 93) (by omega)
    have hz : zeroSq = ⟨0, 0, [], [], 0, []⟩ := rfl
    have hl2 := headW_le (b.drop 2)
    rw [List.length_drop] at hl2
    have hrd : readW b = (if c = 91 then
        (⟨1, (headW (b.drop 2)).1, (headW (b.drop 2)).2.1, (restW (b.drop (2 + (headW (b.drop 2)).2.2))).1, (restW (b.drop (2 + (headW (b.drop 2)).2.2))).2.1, []⟩, 2 + (headW (b.drop 2)).2.2 + (restW (b.drop (2 + (headW (b.drop 2)).2.2))).2.2)
      else if c = 79 then (⟨2, 0, [], [], ((b.drop 2).headD 0).toNat, []⟩, 3)
      else if c = 80 then
        (⟨3, (headW (b.drop 2)).1, (headW (b.drop 2)).2.1, (restW (b.drop (2 + (headW (b.drop 2)).2.2))).1, (restW (b.drop (2 + (headW (b.drop 2)).2.2))).2.1, runL 32 126 (b.drop (2 + (headW (b.drop 2)).2.2 + (restW (b.drop (2 + (headW (b.drop 2)).2.2))).2.2))⟩, 2 + (headW (b.drop 2)).2.2 + (restW (b.drop (2 + (headW (b.drop 2)).2.2))).2.2 + (runL 32 126 (b.drop (2 + (headW (b.drop 2)).2.2 + (restW (b.drop (2 + (headW (b.drop 2)).2.2))).2.2))).length + 2)
      else if c = 93 then (⟨4, 0, [], [], 0, runL 32 126 (b.drop 2)⟩, 2 + (runL 32 126 (b.drop 2)).length + 2)
      else (⟨5, 0, [], (restW (b.drop 1)).1, (restW (b.drop 1)).2.1, []⟩, 1 + (restW (b.drop 1)).2.2)) := by
      unfold readW
      rw [if_neg (not_not_intro h27)]
      simp only [hc]
    have cp : ∀ k, 2 ≤ b.length → FS Tryd.prog Gl 73 [.ptr p 0] [(p, .cells (rdC b 2 ⟨k, 0, [], [], 0, []⟩))] [] (.tup []) [(p, .cells (rdC b (2 + (headW (b.drop 2)).2.2) ⟨k, (headW (b.drop 2)).1, (headW (b.drop 2)).2.1, [], 0, []⟩))] [] := fun k h => fs_wParams hst hp (s := ⟨k, 0, [], [], 0, []⟩) h hb rfl rfl
    have cq : ∀ k, 2 ≤ b.length → FS Tryd.prog Gl 74 [.ptr p 0] [(p, .cells (rdC b (2 + (headW (b.drop 2)).2.2) ⟨k, (headW (b.drop 2)).1, (headW (b.drop 2)).2.1, [], 0, []⟩))] [] (.tup []) [(p, .cells (rdC b (2 + (headW (b.drop 2)).2.2 + (restW (b.drop (2 + (headW (b.drop 2)).2.2))).2.2) ⟨k, (headW (b.drop 2)).1, (headW (b.drop 2)).2.1, (restW (b.drop (2 + (headW (b.drop 2)).2.2))).1, (restW (b.drop (2 + (headW (b.drop 2)).2.2))).2.1, []⟩))] [] := fun k h => fs_wRest hst hp (s := ⟨k, (headW (b.drop 2)).1, (headW (b.drop 2)).2.1, [], 0, []⟩) (by omega) hb
    simp only [rdC, hz]
    by_cases e1 : c = 91
    · have g1 : ((c.toNat : Int) == 91) = true := by rw [g1]; exact decide_eq_true e1
      rw [if_pos e1] at hrd
      have h2 := k2 (by rw [e1]; decide)
      simp +contextual (maxSteps := 1000000) only [g1, w2, go_sem, reduceCtorEq, ↓reduceIte, Nat.reduceAdd, Nat.reduceEqDiff, Nat.reduceLeDiff, Nat.reduceMul, Nat.reduceBEq, Int.reduceBEq, Int.reduceBNe, Int.reduceLT, Int.reduceLE, Int.reduceGT, Int.reduceGE, Int.reduceToNat, Int.natCast_one, Int.natCast_zero, Int.cast_ofNat_Int]
      refine CallP.rdX (Ha := []) (cp 1 h2) hp rfl (by simp) (by simp [rdC, pw, w2]) ?_
      simp +contextual (maxSteps := 1000000) only [go_sem, reduceCtorEq, ↓reduceIte, Nat.reduceAdd, Nat.reduceEqDiff, Nat.reduceLeDiff, Nat.reduceMul, Nat.reduceBEq, Int.reduceBEq, Int.reduceBNe, Int.reduceLT, Int.reduceLE, Int.reduceGT, Int.reduceGE, Int.reduceToNat, Int.natCast_one, Int.natCast_zero, Int.cast_ofNat_Int]
      refine CallP.rdX (Ha := []) (cq 1 h2) hp rfl (by simp) (by simp) ?_
      simp +contextual (maxSteps := 1000000) only [go_sem, reduceCtorEq, ↓reduceIte, Nat.reduceAdd, Nat.reduceEqDiff, Nat.reduceLeDiff, Nat.reduceMul, Nat.reduceBEq, Int.reduceBEq, Int.reduceBNe, Int.reduceLT, Int.reduceLE, Int.reduceGT, Int.reduceGE, Int.reduceToNat, Int.natCast_one, Int.natCast_zero, Int.cast_ofNat_Int]
      rw [← hQ, hrd]
      exact ⟨trivial, Ret.rd rfl rfl hp (by simp)⟩
    · have g1 : ((c.toNat : Int) == 91) = false := by rw [g1]; exact decide_eq_false e1
      rw [if_neg e1] at hrd
      by_cases e2 : c = 79
      · have g2 : ((c.toNat : Int) == 79) = true := by rw [g2]; exact decide_eq_true e2
        rw [if_pos e2] at hrd
        simp +contextual (maxSteps := 1000000) only [g1, g2, w2, go_sem, reduceCtorEq, ↓reduceIte, Nat.reduceAdd, Nat.reduceEqDiff, Nat.reduceLeDiff, Nat.reduceMul, Nat.reduceBEq, Int.reduceBEq, Int.reduceBNe, Int.reduceLT, Int.reduceLE, Int.reduceGT, Int.reduceGE, Int.reduceToNat, Int.natCast_one, Int.natCast_zero, Int.cast_ofNat_Int]
        refine CallP.rdX (Ha := []) (fs_next hst hp (b := b) (n := 2) (s := ⟨2, 0, [], [], 0, []⟩) (by omega)) hp rfl (by simp) (by simp [rdC, pw, w2]) ?_
        simp only [rdC]
        simp +contextual (maxSteps := 1000000) only [go_sem, reduceCtorEq, ↓reduceIte, Nat.reduceAdd, Nat.reduceEqDiff, Nat.reduceLeDiff, Nat.reduceMul, Nat.reduceBEq, Int.reduceBEq, Int.reduceBNe, Int.reduceLT, Int.reduceLE, Int.reduceGT, Int.reduceGE, Int.reduceToNat, Int.natCast_one, Int.natCast_zero, Int.cast_ofNat_Int]
        rw [← hQ, hrd]
        exact ⟨trivial, Ret.rd rfl rfl hp (by simp [rdC, peekW])⟩
      · have g2 : ((c.toNat : Int) == 79) = false := by rw [g2]; exact decide_eq_false e2
        rw [if_neg e2] at hrd
        by_cases e3 : c = 80
        · have g3 : ((c.toNat : Int) == 80) = true := by rw [g3]; exact decide_eq_true e3
          rw [if_pos e3] at hrd
          have h2 := k2 (by rw [e3]; decide)
          have hdd := hd h27 (by rw [hc]; exact e3)
          simp +contextual (maxSteps := 1000000) only [g1, g2, g3, w2, go_sem, reduceCtorEq, ↓reduceIte, Nat.reduceAdd, Nat.reduceEqDiff, Nat.reduceLeDiff, Nat.reduceMul, Nat.reduceBEq, Int.reduceBEq, Int.reduceBNe, Int.reduceLT, Int.reduceLE, Int.reduceGT, Int.reduceGE, Int.reduceToNat, Int.natCast_one, Int.natCast_zero, Int.cast_ofNat_Int]
          refine CallP.rdX (Ha := []) (cp 3 h2) hp rfl (by simp) (by simp [rdC, pw, w2]) ?_
          simp +contextual (maxSteps := 1000000) only [go_sem, reduceCtorEq, ↓reduceIte, Nat.reduceAdd, Nat.reduceEqDiff, Nat.reduceLeDiff, Nat.reduceMul, Nat.reduceBEq, Int.reduceBEq, Int.reduceBNe, Int.reduceLT, Int.reduceLE, Int.reduceGT, Int.reduceGE, Int.reduceToNat, Int.natCast_one, Int.natCast_zero, Int.cast_ofNat_Int]
          refine CallP.rdX (Ha := []) (cq 3 h2) hp rfl (by simp) (by simp) ?_
          generalize 2 + (headW (b.drop 2)).2.2 + (restW (b.drop (2 + (headW (b.drop 2)).2.2))).2.2 = n at hdd hrd ⊢
          have cr : ∀ s, FS Tryd.prog Gl 75 [.ptr p 0, .int .u8 32, .int .u8 126] [(p, .cells (rdC b n s))] [] (.str (runL 32 126 (b.drop n))) [(p, .cells (rdC b (n + (runL 32 126 (b.drop n)).length) s))] [] := fun s => fs_run hst hp (x := 32) (y := 126) hdd (by omega)
          have hrl := runL_le 32 126 (b.drop n)
          rw [List.length_drop] at hrl
          have hw : IntKind.i64.wrap (((n + (runL 32 126 (b.drop n)).length : Nat) : Int) + 2) = ((n + (runL 32 126 (b.drop n)).length + 2 : Nat) : Int) := by rw [IntKind.wrap_i64]; omega
          generalize runL 32 126 (b.drop n) = dt at cr hrl hw hrd
          simp +contextual (maxSteps := 1000000) only [go_sem, reduceCtorEq, ↓reduceIte, Nat.reduceAdd, Nat.reduceEqDiff, Nat.reduceLeDiff, Nat.reduceMul, Nat.reduceBEq, Int.reduceBEq, Int.reduceBNe, Int.reduceLT, Int.reduceLE, Int.reduceGT, Int.reduceGE, Int.reduceToNat, Int.natCast_one, Int.natCast_zero, Int.cast_ofNat_Int]
          refine CallP.rdX (Ha := []) (cr ⟨3, (headW (b.drop 2)).1, (headW (b.drop 2)).2.1, (restW (b.drop (2 + (headW (b.drop 2)).2.2))).1, (restW (b.drop (2 + (headW (b.drop 2)).2.2))).2.1, []⟩) hp rfl (by simp) (by simp) ?_
          simp only [rdC]
          simp +contextual (maxSteps := 1000000) only [hw, go_sem, reduceCtorEq, ↓reduceIte, Nat.reduceAdd, Nat.reduceEqDiff, Nat.reduceLeDiff, Nat.reduceMul, Nat.reduceBEq, Int.reduceBEq, Int.reduceBNe, Int.reduceLT, Int.reduceLE, Int.reduceGT, Int.reduceGE, Int.reduceToNat, Int.natCast_one, Int.natCast_zero, Int.cast_ofNat_Int]
          rw [← hQ, hrd]
          exact ⟨trivial, Ret.rd rfl rfl hp (by simp [rdC])⟩
        · have g3 : ((c.toNat : Int) == 80) = false := by rw [g3]; exact decide_eq_false e3
          rw [if_neg e3] at hrd
          by_cases e4 : c = 93
          · have g4 : ((c.toNat : Int) == 93) = true := by rw [g4]; exact decide_eq_true e4
            rw [if_pos e4] at hrd
            have h2 := k2 (by rw [e4]; decide)
            have cr : ∀ s, FS Tryd.prog Gl 75 [.ptr p 0, .int .u8 32, .int .u8 126] [(p, .cells (rdC b 2 s))] [] (.str (runL 32 126 (b.drop 2))) [(p, .cells (rdC b (2 + (runL 32 126 (b.drop 2)).length) s))] [] := fun s => fs_run hst hp (x := 32) (y := 126) h2 (by omega)
            have hrl := runL_le 32 126 (b.drop 2)
            rw [List.length_drop] at hrl
            have hw : IntKind.i64.wrap (((2 + (runL 32 126 (b.drop 2)).length : Nat) : Int) + 2) = ((2 + (runL 32 126 (b.drop 2)).length + 2 : Nat) : Int) := by rw [IntKind.wrap_i64]; omega
            generalize runL 32 126 (b.drop 2) = dt at cr hrl hw hrd
            simp +contextual (maxSteps := 1000000) only [g1, g2, g3, g4, w2, go_sem, reduceCtorEq, ↓reduceIte, Nat.reduceAdd, Nat.reduceEqDiff, Nat.reduceLeDiff, Nat.reduceMul, Nat.reduceBEq, Int.reduceBEq, Int.reduceBNe, Int.reduceLT, Int.reduceLE, Int.reduceGT, Int.reduceGE, Int.reduceToNat, Int.natCast_one, Int.natCast_zero, Int.cast_ofNat_Int]
            refine CallP.rdX (Ha := []) (cr ⟨4, 0, [], [], 0, []⟩) hp rfl (by simp) (by simp [rdC, pw, w2]) ?_
            simp only [rdC]
            simp +contextual (maxSteps := 1000000) only [hw, go_sem, reduceCtorEq, ↓reduceIte, Nat.reduceAdd, Nat.reduceEqDiff, Nat.reduceLeDiff, Nat.reduceMul, Nat.reduceBEq, Int.reduceBEq, Int.reduceBNe, Int.reduceLT, Int.reduceLE, Int.reduceGT, Int.reduceGE, Int.reduceToNat, Int.natCast_one, Int.natCast_zero, Int.cast_ofNat_Int]
            rw [← hQ, hrd]
            exact ⟨trivial, Ret.rd rfl rfl hp (by simp [rdC])⟩
          · have g4 : ((c.toNat : Int) == 93) = false := by rw [g4]; exact decide_eq_false e4
            rw [if_neg e4] at hrd
            simp +contextual (maxSteps := 1000000) only [g1, g2, g3, g4, go_sem, reduceCtorEq, ↓reduceIte, Nat.reduceAdd, Nat.reduceEqDiff, Nat.reduceLeDiff, Nat.reduceMul, Nat.reduceBEq, Int.reduceBEq, Int.reduceBNe, Int.reduceLT, Int.reduceLE, Int.reduceGT, Int.reduceGE, Int.reduceToNat, Int.natCast_one, Int.natCast_zero, Int.cast_ofNat_Int]
            refine CallP.rdX (Ha := []) (fs_wRest hst hp (b := b) (n := 1) (s := ⟨5, 0, [], [], 0, []⟩) hl1 hb) hp rfl (by simp) (by simp [rdC, pw, w2]) ?_
            simp +contextual (maxSteps := 1000000) only [go_sem, reduceCtorEq, ↓reduceIte, Nat.reduceAdd, Nat.reduceEqDiff, Nat.reduceLeDiff, Nat.reduceMul, Nat.reduceBEq, Int.reduceBEq, Int.reduceBNe, Int.reduceLT, Int.reduceLE, Int.reduceGT, Int.reduceGE, Int.reduceToNat, Int.natCast_one, Int.natCast_zero, Int.cast_ofNat_Int]
            rw [← hQ, hrd]
            exact ⟨trivial, Ret.rd rfl rfl hp (by simp)⟩
  · have n1 : (((b.headD 0).toNat : Int) != 27) = true := by rw [n1, decide_eq_false h27]; rfl
    simp +contextual (maxSteps := 1000000) only [n1, go_sem, reduceCtorEq, ↓reduceIte, Nat.reduceAdd, Nat.reduceEqDiff, Nat.reduceLeDiff, Nat.reduceMul, Nat.reduceBEq, Int.reduceBEq, Int.reduceBNe, Int.reduceLT, Int.reduceLE, Int.reduceGT, Int.reduceGE, Int.reduceToNat, Int.natCast_one, Int.natCast_zero, Int.cast_ofNat_Int]
    rw [← hQ]
    refine ⟨trivial, Ret.rd rfl rfl hp ?_⟩
    unfold readW
    rw [if_pos h27]
    exact List.mem_singleton.2 rfl
end Go.Proofs.YtbepihadhmfklaaDoor

set_option linter.unusedVariables false
set_option linter.unusedSimpArgs false
set_option maxRecDepth 100000
namespace Go.Proofs.YtbepihadhmfklaaDoor
open Go Go.Ab
/-- bytes.Equal -/
def ir_bytesEqual : ICode :=
 (.seq
  (.reg [⟨some 4, none, .mov (.c (.bool false))⟩] (some [0, 1]))
  (.seq
   (.reg [⟨some 5, none, .mov (.t 0)⟩,
     ⟨some 6, none, .b2s (.t 5)⟩,
     ⟨some 7, none, .mov (.t 1)⟩,
     ⟨some 8, none, .b2s (.t 7)⟩,
     ⟨some 9, none, .bin .eql .none (.t 6) (.t 8)⟩,
     ⟨some 4, none, .mov (.t 9)⟩] (some [4]))
   .ret))
theorem is_bytesEqual : IrOf Tryd.prog 76 10 ir_bytesEqual [.t 4] := ⟨_, Tryd.func76, rfl, by kernel_rfl, by kernel_rfl, by kernel_rfl⟩

/-- bytes.HasPrefix -/
def ir_bytesHasPrefix : ICode :=
 (.seq
  (.reg [⟨some 4, none, .mov (.c (.bool false))⟩] (some [0, 1]))
  (.seq
   (.reg [⟨some 5, none, .mov (.t 0)⟩,
     ⟨some 6, none, .len (.t 5)⟩,
     ⟨some 7, none, .mov (.t 1)⟩,
     ⟨some 8, none, .len (.t 7)⟩,
     ⟨some 9, none, .bin .geq .none (.t 6) (.t 8)⟩,
     ⟨some 10, none, .mov (.t 9)⟩,
     ⟨some 11, some (10, true), .mov (.t 0)⟩,
     ⟨some 12, some (10, true), .mov (.t 1)⟩,
     ⟨some 13, some (10, true), .len (.t 12)⟩,
     ⟨some 14, some (10, true), .sll 1 (.t 11) none (some (.t 13)) none⟩,
     ⟨some 15, some (10, true), .mov (.t 1)⟩,
     ⟨some 16, some (10, true), .call (.c (.fn (.func 76) [] [])) [(.t 14), (.t 15)]⟩,
     ⟨some 17, none, .pick (.t 10) (.t 16) (.c (.bool false))⟩,
     ⟨some 4, none, .mov (.t 17)⟩] (some [4]))
   .ret))
theorem is_bytesHasPrefix : IrOf Tryd.prog 57 18 ir_bytesHasPrefix [.t 4] := ⟨_, Tryd.func57, rfl, by kernel_rfl, by kernel_rfl, by kernel_rfl⟩

/-- clavier/wire.Take -/
def ir_wireTake : ICode :=
 (.seq
  (.reg [⟨some 2, none, .box 51 (.c (.agg [(.int .i64 0), (.int .u8 0), .nils, (.str []), (.int .u8 0), (.str [])]))⟩,
    ⟨some 3, none, .mov (.c (.int .i64 0))⟩,
    ⟨some 4, none, .mov (.c (.int .i64 0))⟩] (some [0, 2]))
  (.seq
   (.reg [⟨some 8, none, .mov (.t 0)⟩,
     ⟨some 9, none, .bld [.nils, (.int .i64 0)] [(0, 1, (.t 8))]⟩,
     ⟨some 10, none, .bld [.nils, (.int .i64 0), (.int .i64 0), (.int .u8 0), .nils, (.str []), (.int .u8 0), (.str [])] [(0, 2, (.t 9))]⟩,
     ⟨some 5, none, .box 90 (.c (.agg [.nils, (.int .i64 0), (.int .i64 0), (.int .u8 0), .nils, (.str []), (.int .u8 0), (.str [])]))⟩,
     ⟨none, none, .st 8 (.t 5) (.t 10)⟩] (some [0, 2, 5]))
   (.seq
    (.reg [⟨some 11, none, .call (.c (.fn (.func 56) [] [])) [(.t 5)]⟩] (some [0, 2, 5]))
    (.seq
     (.reg [⟨some 13, none, .fa 2 (.t 5)⟩,
       ⟨some 14, none, .ld (some 6) (.t 13)⟩,
       ⟨some 15, none, .call (.c (.fn (.func 19) [] [])) [(.t 14)]⟩,
       ⟨some 12, none, .mov (.t 15)⟩,
       ⟨some 16, none, .ext (.t 12) 0⟩,
       ⟨some 17, none, .ext (.t 12) 1⟩,
       ⟨some 6, none, .mov (.t 16)⟩,
       ⟨some 7, none, .mov (.t 17)⟩] (some [0, 2, 5, 6, 7]))
     (.seq
      (.seq
       (.reg [⟨some 18, none, .mov (.t 7)⟩,
         ⟨some 19, none, .bin .neq .none (.t 18) (.c (.int .i64 0))⟩,
         ⟨some 20, none, .mov (.t 19)⟩,
         ⟨some 21, some (20, false), .mov (.t 0)⟩,
         ⟨some 22, some (20, false), .mov (.t 6)⟩,
         ⟨some 23, some (20, false), .call (.c (.fn (.func 57) [] [])) [(.t 21), (.t 22)]⟩,
         ⟨some 24, some (20, false), .un .not (.t 23)⟩,
         ⟨some 25, none, .pick (.t 20) (.c (.bool true)) (.t 24)⟩,
         ⟨some 26, none, .mov (.t 25)⟩,
         ⟨some 27, some (26, false), .mov (.t 6)⟩,
         ⟨some 28, some (26, false), .len (.t 27)⟩,
         ⟨some 29, some (26, false), .fa 0 (.t 5)⟩,
         ⟨some 30, some (26, false), .fa 1 (.t 29)⟩,
         ⟨some 31, some (26, false), .ld none (.t 30)⟩,
         ⟨some 32, some (26, false), .bin .neq .none (.t 28) (.t 31)⟩,
         ⟨some 33, none, .pick (.t 26) (.c (.bool true)) (.t 32)⟩] (some [2, 5, 33]))
       (.cond (.t 33)
        (.seq
         (.reg [⟨some 34, none, .bld [(.int .i64 0), (.int .u8 0), .nils, (.str []), (.int .u8 0), (.str [])] []⟩,
           ⟨none, none, .st 6 (.t 2) (.t 34)⟩,
           ⟨some 3, none, .mov (.c (.int .i64 0))⟩,
           ⟨some 4, none, .mov (.c (.int .i64 2))⟩] (some [2, 3, 4]))
         .ret)
        .skip))
      (.seq
       (.drwm [(), (), (), (), ()] [⟨⟨some 35, none, .fa 2 (.t 5)⟩, []⟩,
         ⟨⟨some 36, none, .ld (some 6) (.t 35)⟩, [0]⟩,
         ⟨⟨some 37, none, .fa 0 (.t 5)⟩, []⟩,
         ⟨⟨some 38, none, .fa 1 (.t 37)⟩, [2]⟩,
         ⟨⟨some 39, none, .ld none (.t 38)⟩, [3]⟩,
         ⟨⟨none, none, .st 6 (.t 2) (.t 36)⟩, [1, 0, 1]⟩]
         [⟨some 3, none, .mov (.t 39)⟩,
         ⟨some 4, none, .mov (.c (.int .i64 0))⟩] (some [2, 3, 4]))
       .ret))))))
theorem is_wireTake : IrOf Tryd.prog 36 40 ir_wireTake [.cell 2 (some 6), .t 3, .t 4] := ⟨_, Tryd.func36, rfl, by kernel_rfl, by kernel_rfl, by kernel_rfl⟩


theorem fs_BEqual {Gl : Gh → Prop} (hst : Stays Gl) {a b : List UInt8} {ta tb : Option Nm} : FS Tryd.prog Gl 76 [.sl ta 1 (bytesAV a), .sl tb 1 (bytesAV b)] [] [] (.bool (decide (a = b))) [] [] := by
  refine FS.of hm hst is_bytesEqual (by simp) fun γ hγ hfr => ?_
  (generalize hQ : (fun (ex : Ex) (_ _ : Nat) (s : St) => _) = Q; unfold ir_bytesEqual)
  simp +contextual (maxSteps := 1000000) only [bb_un, bb_is, implies_true, go_sem, reduceCtorEq, ↓reduceIte, Nat.reduceAdd, Nat.reduceEqDiff, Nat.reduceLeDiff, Nat.reduceMul, Nat.reduceBEq, Int.reduceBEq, Int.reduceBNe, Int.reduceLT, Int.reduceLE, Int.reduceGT, Int.reduceGE, Int.reduceToNat, Int.natCast_one, Int.natCast_zero, Int.cast_ofNat_Int]
  rw [← hQ]
  exact ⟨trivial, Ret.flat rfl rfl⟩
theorem fs_BHasPrefix {Gl : Gh → Prop} (hst : Stays Gl) {a b : List UInt8} {ta tb : Option Nm} : FS Tryd.prog Gl 57 [.sl ta 1 (bytesAV a), .sl tb 1 (bytesAV b)] [] [] (.bool (decide (b <+: a))) [] [] := by
  refine FS.of hm hst is_bytesHasPrefix (by simp) fun γ hγ hfr => ?_
  (generalize hQ : (fun (ex : Ex) (_ _ : Nat) (s : St) => _) = Q; unfold ir_bytesHasPrefix)
  by_cases h : b.length ≤ a.length
  · have hd : decide ((a.length : Int) ≥ (b.length : Int)) = true := by simp; omega
    have e : decide (b <+: a) = decide (a.take b.length = b) := by
      rw [decide_eq_decide]
      constructor
      · rintro ⟨r, rfl⟩; simp
      · intro h'; rw [← h']; exact List.take_prefix _ _
    simp +contextual (maxSteps := 1000000) only [hd, bytesAV_length', bytesAV_take, Int.toNat_natCast, Int.toNat_zero, go_sem, reduceCtorEq, ↓reduceIte, Nat.reduceAdd, Nat.reduceEqDiff, Nat.reduceLeDiff, Nat.reduceMul, Nat.reduceBEq, Int.reduceBEq, Int.reduceBNe, Int.reduceLT, Int.reduceLE, Int.reduceGT, Int.reduceGE, Int.reduceToNat, Int.natCast_one, Int.natCast_zero, Int.cast_ofNat_Int]
    refine ⟨by omega, ?_⟩
    (refine CallP.pure (fs_BEqual hst) (fun _ => rfl) ?_; simp +contextual (maxSteps := 1000000) only [go_sem, reduceCtorEq, ↓reduceIte, Nat.reduceAdd, Nat.reduceEqDiff, Nat.reduceLeDiff, Nat.reduceMul, Nat.reduceBEq, Int.reduceBEq, Int.reduceBNe, Int.reduceLT, Int.reduceLE, Int.reduceGT, Int.reduceGE, Int.reduceToNat, Int.natCast_one, Int.natCast_zero, Int.cast_ofNat_Int])
    rw [← hQ, e]
    exact ⟨trivial, Ret.flat rfl rfl⟩
  · have hd : decide ((a.length : Int) ≥ (b.length : Int)) = false := by simp; omega
    simp +contextual (maxSteps := 1000000) only [hd, bytesAV_length', go_sem, reduceCtorEq, ↓reduceIte, Nat.reduceAdd, Nat.reduceEqDiff, Nat.reduceLeDiff, Nat.reduceMul, Nat.reduceBEq, Int.reduceBEq, Int.reduceBNe, Int.reduceLT, Int.reduceLE, Int.reduceGT, Int.reduceGE, Int.reduceToNat, Int.natCast_one, Int.natCast_zero, Int.cast_ofNat_Int]
    rw [← hQ]
    have e : decide (b <+: a) = false := decide_eq_false fun hh => h hh.length_le
    rw [e]
    exact ⟨trivial, Ret.flat rfl rfl⟩
theorem pw_args {k pr fi : Int} {ps : List (List Int)} {it da : List UInt8} : LeL [.agg [.int .i64 k, .int .u8 pr, pw ps, .str it, .int .u8 fi, .str da]] [.agg (Sq.c ⟨k, pr, ps, it, fi, da⟩)] :=
  ⟨RepLe.agg ⟨.refl _, .refl _, pw_le _, .refl _, .refl _, .refl _, trivial⟩, trivial⟩
theorem RepLe.tupL {xs ys : List AV} (h : LeL xs ys) : RepLe (.tup xs) (.tup ys) := fun g v ⟨vs, e, k⟩ => ⟨vs, e, h.rep k⟩
theorem zero_le : RepLe (.tup [.agg [.int .i64 0, .int .u8 0, .nils, .str [], .int .u8 0, .str []], .int .i64 0, .int .i64 2]) (.tup [.agg zeroSq.c, .int .i64 0, .int .i64 2]) :=
  RepLe.tupL ⟨RepLe.agg ⟨.refl _, .refl _, .nils 1, .refl _, .refl _, .refl _, trivial⟩, .refl _, .refl _, trivial⟩
def takeV (b : List UInt8) : AV := match takeW b with
  | some (s, n) => .tup [.agg s.c, .int .i64 (n : Int), .int .i64 0]
  | none => .tup [.agg zeroSq.c, .int .i64 0, .int .i64 2]
theorem headD_range (l : List UInt8) : 0 ≤ ((l.headD 0).toNat : Int) ∧ ((l.headD 0).toNat : Int) < 256 := by
  have := (l.headD 0).toNat_lt; omega
theorem headW_sz (l : List UInt8) : (0 ≤ (headW l).1 ∧ (headW l).1 < 256) ∧ (headW l).2.1.length ≤ l.length + 1 ∧ ∀ p ∈ (headW l).2.1, p.length ≤ l.length + 1 := by
  unfold headW
  simp only
  have hh := headD_range l
  refine ⟨by split <;> omega, ?_⟩
  generalize (if isPr (l.headD 0) = true then 1 else 0) = k
  have h1 := runL_le 48 59 (l.drop k)
  rw [List.length_drop] at h1
  generalize runL 48 59 (l.drop k) = t at h1
  unfold numsW
  split
  · simp
  · have h2 := splitB_len (c := 59) (l := t)
    refine ⟨by simp; omega, fun p hp => ?_⟩
    obtain ⟨q, hq, rfl⟩ := List.mem_map.1 hp
    have h3 := splitB_mem_len hq
    have h4 := splitB_len (c := 58) (l := q)
    simp [subsW]; omega
theorem restW_sz (l : List UInt8) : (restW l).1.length ≤ l.length ∧ 0 ≤ (restW l).2.1 ∧ (restW l).2.1 < 256 := by
  unfold restW
  exact ⟨runL_le _ _ _, headD_range _⟩
theorem readW_sz {b : List UInt8} (hb : b.length ≤ 4000000000) : (0 ≤ (readW b).1.pr ∧ (readW b).1.pr < 256) ∧ 0 ≤ (readW b).1.fi ∧ (readW b).1.fi < 256 ∧ (readW b).1.sm := by
  have a1 := headW_sz (b.drop 2)
  have a2 := fun n => restW_sz (b.drop n)
  have a3 := fun n => runL_le 32 126 (b.drop n)
  simp only [List.length_drop] at a1 a2 a3
  unfold readW
  split
  · exact ⟨by simp [zeroSq], by simp [zeroSq], by simp [zeroSq], ⟨by simp [zeroSq], by simp [zeroSq], by simp [zeroSq], by simp [zeroSq]⟩⟩
  · simp only
    split
    · have := a2 (2 + (headW (b.drop 2)).2.2)
      exact ⟨a1.1, this.2.1, this.2.2, ⟨by have := a1.2.1; simp only; omega, fun p hp => by have := a1.2.2 p hp; omega, by have := this.1; simp only; omega, by simp⟩⟩
    · split
      · have := headD_range (b.drop 2)
        exact ⟨by simp, this.1, this.2, ⟨by simp, by simp, by simp, by simp⟩⟩
      · split
        · have := a2 (2 + (headW (b.drop 2)).2.2)
          exact ⟨a1.1, this.2.1, this.2.2, ⟨by have := a1.2.1; simp only; omega, fun p hp => by have := a1.2.2 p hp; omega, by have := this.1; simp only; omega, Nat.lt_of_le_of_lt (a3 _) (by omega)⟩⟩
        · split
          · exact ⟨by simp, by simp, by simp, ⟨by simp, by simp, by simp, Nat.lt_of_le_of_lt (a3 _) (by omega)⟩⟩
          · have := a2 1
            exact ⟨by simp, this.2.1, this.2.2, ⟨by simp, by simp, by have := this.1; simp only; omega, by simp⟩⟩
set_option maxHeartbeats 4000000 in
theorem fs_wTake {Gl : Gh → Prop} (hst : Stays Gl) {b : List UInt8} {tb : Option Nm} (hb : b.length ≤ 4000000000) (hd : dcsOk b) (hf : (readW b).1.fi < 128) :
    FS Tryd.prog Gl 36 [.sl tb 1 (bytesAV b)] [] [] (takeV b) [] [] := by
  refine FS.args (args' := [.sl none 1 (bytesAV b)]) ?_ ⟨RepLe.anon _ _ _, trivial⟩
  have hfl : (takeV b).flatT = true := by
    unfold takeV; split <;> rfl
  obtain ⟨⟨p0, p1⟩, f0, _, hsm⟩ := readW_sz hb
  have c2 : FS Tryd.prog Gl 19 [.agg [.int .i64 (readW b).1.k, .int .u8 (readW b).1.pr, pw (readW b).1.ps, .str (readW b).1.it, .int .u8 (readW b).1.fi, .str (readW b).1.da]] [] [] (.tup [putV (readW b).1, .int .i64 (mayP (readW b).1)]) [] [] := FS.args (fs_wPut hst p0 p1 f0 hf hsm) pw_args
  refine FS.ofW hm hst is_wireTake hfl (by simp) fun γ hγ hfr => ?_
  (generalize hQ : (fun (ex : Ex) (_ _ : Nat) (s : St) => _) = Q; unfold ir_wireTake)
  simp +contextual (maxSteps := 1000000) only [go_sem, reduceCtorEq, ↓reduceIte, Nat.reduceAdd, Nat.reduceEqDiff, Nat.reduceLeDiff, Nat.reduceMul, Nat.reduceBEq, Int.reduceBEq, Int.reduceBNe, Int.reduceLT, Int.reduceLE, Int.reduceGT, Int.reduceGE, Int.reduceToNat, Int.natCast_one, Int.natCast_zero, Int.cast_ofNat_Int]
  refine CallP.rdX (Ha := [((γ, 0, 0), .cells [.int .i64 0, .int .u8 0, .nils, .str [], .int .u8 0, .str []])]) (fs_wRead (p := (γ, 6, 0)) hst hγ hb hd) hγ rfl (by simp) (by simp [rdC, pw, zeroSq]) ?_
  have htk : takeW b = if mayP (readW b).1 = 0 ∧ putB (readW b).1 <+: b ∧ (putB (readW b).1).length = (readW b).2 then some (readW b) else none := rfl
  have htv : takeV b = match takeW b with | some (s, n) => .tup [.agg s.c, .int .i64 (n : Int), .int .i64 0] | none => .tup [.agg zeroSq.c, .int .i64 0, .int .i64 2] := rfl
  generalize readW b = r at *
  obtain ⟨⟨k, pr, ps, it, fi, da⟩, n⟩ := r
  simp only at *
  have hpv : putV ⟨k, pr, ps, it, fi, da⟩ = if (mayP ⟨k, pr, ps, it, fi, da⟩ != 0) = true then .nils else .sl none 1 (bytesAV (putB ⟨k, pr, ps, it, fi, da⟩)) := rfl
  simp only [rdC]
  by_cases hmy : mayP ⟨k, pr, ps, it, fi, da⟩ = 0
  · rw [hmy] at hpv c2
    rw [show ((0 : Int) != 0) = false from rfl, if_neg (by simp)] at hpv
    rw [hpv] at c2
    rw [hmy] at htk
    simp +contextual (maxSteps := 1000000) only [go_sem, reduceCtorEq, ↓reduceIte, Nat.reduceAdd, Nat.reduceEqDiff, Nat.reduceLeDiff, Nat.reduceMul, Nat.reduceBEq, Int.reduceBEq, Int.reduceBNe, Int.reduceLT, Int.reduceLE, Int.reduceGT, Int.reduceGE, Int.reduceToNat, Int.natCast_one, Int.natCast_zero, Int.cast_ofNat_Int]
    (refine CallP.pure (c2) (fun _ => rfl) ?_; simp +contextual (maxSteps := 1000000) only [go_sem, reduceCtorEq, ↓reduceIte, Nat.reduceAdd, Nat.reduceEqDiff, Nat.reduceLeDiff, Nat.reduceMul, Nat.reduceBEq, Int.reduceBEq, Int.reduceBNe, Int.reduceLT, Int.reduceLE, Int.reduceGT, Int.reduceGE, Int.reduceToNat, Int.natCast_one, Int.natCast_zero, Int.cast_ofNat_Int])
    cases hpx : decide (putB ⟨k, pr, ps, it, fi, da⟩ <+: b) with
    | false =>
      have c3 := fs_BHasPrefix (Gl := Gl) hst (a := b) (b := putB ⟨k, pr, ps, it, fi, da⟩) (ta := none) (tb := none)
      rw [hpx] at c3
      (refine CallP.pure (c3) (fun _ => rfl) ?_; simp +contextual (maxSteps := 1000000) only [go_sem, reduceCtorEq, ↓reduceIte, Nat.reduceAdd, Nat.reduceEqDiff, Nat.reduceLeDiff, Nat.reduceMul, Nat.reduceBEq, Int.reduceBEq, Int.reduceBNe, Int.reduceLT, Int.reduceLE, Int.reduceGT, Int.reduceGE, Int.reduceToNat, Int.natCast_one, Int.natCast_zero, Int.cast_ofNat_Int])
      have hn0 : takeW b = none := by rw [htk, if_neg (fun h => of_decide_eq_false hpx h.2.1)]
      rw [← hQ, htv, hn0]
      refine ⟨trivial, .inl ⟨.tup [.agg [.int .i64 0, .int .u8 0, .nils, .str [], .int .u8 0, .str []], .int .i64 0, .int .i64 2], ?_, zero_le⟩⟩
      simp [resOf, getAll, IRes.get, lf, getH]
    | true =>
      have c3 := fs_BHasPrefix (Gl := Gl) hst (a := b) (b := putB ⟨k, pr, ps, it, fi, da⟩) (ta := none) (tb := none)
      rw [hpx] at c3
      by_cases hln : (putB ⟨k, pr, ps, it, fi, da⟩).length = n
      · have hq : (((putB ⟨k, pr, ps, it, fi, da⟩).length : Int) != (n : Int)) = false := by rw [bne_eq_false_iff_eq]; omega
        (refine CallP.pure (c3) (fun _ => rfl) ?_; simp +contextual (maxSteps := 1000000) only [bytesAV_length', hq, go_sem, reduceCtorEq, ↓reduceIte, Nat.reduceAdd, Nat.reduceEqDiff, Nat.reduceLeDiff, Nat.reduceMul, Nat.reduceBEq, Int.reduceBEq, Int.reduceBNe, Int.reduceLT, Int.reduceLE, Int.reduceGT, Int.reduceGE, Int.reduceToNat, Int.natCast_one, Int.natCast_zero, Int.cast_ofNat_Int])
        refine kDrwM_of [((γ, 6, 0), .cells [.sl none 1 (bytesAV b), .int .i64 n, .int .i64 k, .int .u8 pr, pw ps, .str it, .int .u8 fi, .str da])] [((γ, 0, 0), .cells [.int .i64 0, .int .u8 0, .nils, .str [], .int .u8 0, .str []])] (by simp) (by simp) ?_
        simp +contextual (maxSteps := 1000000) only [pw_cells, pw_one, go_sem, reduceCtorEq, ↓reduceIte, Nat.reduceAdd, Nat.reduceEqDiff, Nat.reduceLeDiff, Nat.reduceMul, Nat.reduceBEq, Int.reduceBEq, Int.reduceBNe, Int.reduceLT, Int.reduceLE, Int.reduceGT, Int.reduceGE, Int.reduceToNat, Int.natCast_one, Int.natCast_zero, Int.cast_ofNat_Int]
        refine ⟨by simp, ?_⟩
        have hs0 : takeW b = some (⟨k, pr, ps, it, fi, da⟩, n) := by rw [htk, if_pos ⟨rfl, of_decide_eq_true hpx, hln⟩]
        rw [← hQ, htv, hs0]
        refine ⟨trivial, .inl ⟨.tup [.agg [.int .i64 k, .int .u8 pr, pw ps, .str it, .int .u8 fi, .str da], .int .i64 n, .int .i64 0], ?_, RepLe.tupL ⟨RepLe.agg ⟨.refl _, .refl _, pw_le _, .refl _, .refl _, .refl _, trivial⟩, .refl _, .refl _, trivial⟩⟩⟩
        simp [resOf, getAll, IRes.get, lf, getH]
      · have hq : (((putB ⟨k, pr, ps, it, fi, da⟩).length : Int) != (n : Int)) = true := by rw [bne_iff_ne]; omega
        have hn0 : takeW b = none := by rw [htk, if_neg (fun h => hln h.2.2)]
        (refine CallP.pure (c3) (fun _ => rfl) ?_; simp +contextual (maxSteps := 1000000) only [bytesAV_length', hq, go_sem, reduceCtorEq, ↓reduceIte, Nat.reduceAdd, Nat.reduceEqDiff, Nat.reduceLeDiff, Nat.reduceMul, Nat.reduceBEq, Int.reduceBEq, Int.reduceBNe, Int.reduceLT, Int.reduceLE, Int.reduceGT, Int.reduceGE, Int.reduceToNat, Int.natCast_one, Int.natCast_zero, Int.cast_ofNat_Int])
        rw [← hQ, htv, hn0]
        refine ⟨trivial, .inl ⟨.tup [.agg [.int .i64 0, .int .u8 0, .nils, .str [], .int .u8 0, .str []], .int .i64 0, .int .i64 2], ?_, zero_le⟩⟩
        simp [resOf, getAll, IRes.get, lf, getH]
  · have hmb : (mayP ⟨k, pr, ps, it, fi, da⟩ != 0) = true := by rw [bne_iff_ne]; exact hmy
    rw [hmb, if_pos rfl] at hpv
    rw [hpv] at c2
    have hn0 : takeW b = none := by rw [htk, if_neg (fun h => hmy h.1)]
    simp +contextual (maxSteps := 1000000) only [go_sem, reduceCtorEq, ↓reduceIte, Nat.reduceAdd, Nat.reduceEqDiff, Nat.reduceLeDiff, Nat.reduceMul, Nat.reduceBEq, Int.reduceBEq, Int.reduceBNe, Int.reduceLT, Int.reduceLE, Int.reduceGT, Int.reduceGE, Int.reduceToNat, Int.natCast_one, Int.natCast_zero, Int.cast_ofNat_Int]
    (refine CallP.pure (c2) (fun _ => rfl) ?_; simp +contextual (maxSteps := 1000000) only [hmb, go_sem, reduceCtorEq, ↓reduceIte, Nat.reduceAdd, Nat.reduceEqDiff, Nat.reduceLeDiff, Nat.reduceMul, Nat.reduceBEq, Int.reduceBEq, Int.reduceBNe, Int.reduceLT, Int.reduceLE, Int.reduceGT, Int.reduceGE, Int.reduceToNat, Int.natCast_one, Int.natCast_zero, Int.cast_ofNat_Int])
    rw [← hQ, htv, hn0]
    refine ⟨trivial, .inl ⟨.tup [.agg [.int .i64 0, .int .u8 0, .nils, .str [], .int .u8 0, .str []], .int .i64 0, .int .i64 2], ?_, zero_le⟩⟩
    simp [resOf, getAll, IRes.get, lf, getH]
end Go.Proofs.YtbepihadhmfklaaDoor

set_option linter.unusedVariables false
set_option linter.unusedSimpArgs false
set_option maxRecDepth 100000
namespace Go.Proofs.YtbepihadhmfklaaDoor
open Go Go.Ab
/-- clavier/wire.Arg -/
def ir_wireArg : ICode :=
 (.seq
  (.reg [⟨some 3, none, .box 51 (.t 0)⟩,
    ⟨some 6, none, .mov (.c (.int .i64 0))⟩] (some [1, 2, 3]))
  (.seq
   (.seq
    (.reg [⟨some 7, none, .mov (.t 1)⟩,
      ⟨some 8, none, .bin .lss .none (.t 7) (.c (.int .i64 0))⟩,
      ⟨some 9, none, .mov (.t 8)⟩,
      ⟨some 10, some (9, false), .mov (.t 1)⟩,
      ⟨some 11, some (9, false), .fa 2 (.t 3)⟩,
      ⟨some 12, some (9, false), .ld none (.t 11)⟩,
      ⟨some 13, some (9, false), .len (.t 12)⟩,
      ⟨some 14, some (9, false), .bin .geq .none (.t 10) (.t 13)⟩,
      ⟨some 15, none, .pick (.t 9) (.c (.bool true)) (.t 14)⟩,
      ⟨some 16, none, .mov (.t 15)⟩,
      ⟨some 17, some (16, false), .fa 2 (.t 3)⟩,
      ⟨some 18, some (16, false), .ld none (.t 17)⟩,
      ⟨some 19, some (16, false), .mov (.t 1)⟩,
      ⟨some 20, some (16, false), .ia 1 (.t 18) (.t 19)⟩,
      ⟨some 21, some (16, false), .ld none (.t 20)⟩,
      ⟨some 22, some (16, false), .len (.t 21)⟩,
      ⟨some 23, some (16, false), .bin .eql .none (.t 22) (.c (.int .i64 0))⟩,
      ⟨some 24, none, .pick (.t 16) (.c (.bool true)) (.t 23)⟩,
      ⟨some 25, none, .mov (.t 24)⟩,
      ⟨some 26, some (25, false), .fa 2 (.t 3)⟩,
      ⟨some 27, some (25, false), .ld none (.t 26)⟩,
      ⟨some 28, some (25, false), .mov (.t 1)⟩,
      ⟨some 29, some (25, false), .ia 1 (.t 27) (.t 28)⟩,
      ⟨some 30, some (25, false), .ld none (.t 29)⟩,
      ⟨some 31, some (25, false), .ia 1 (.t 30) (.c (.int .i64 0))⟩,
      ⟨some 32, some (25, false), .ld none (.t 31)⟩,
      ⟨some 33, some (25, false), .bin .lss .none (.t 32) (.c (.int .i64 0))⟩,
      ⟨some 34, none, .pick (.t 25) (.c (.bool true)) (.t 33)⟩] (some [1, 2, 3, 34]))
    (.cond (.t 34)
     (.seq
      (.reg [⟨some 35, none, .mov (.t 2)⟩,
        ⟨some 6, none, .mov (.t 35)⟩] (some [6]))
      .ret)
     .skip))
   (.seq
    (.reg [⟨some 36, none, .fa 2 (.t 3)⟩,
      ⟨some 37, none, .ld none (.t 36)⟩,
      ⟨some 38, none, .mov (.t 1)⟩,
      ⟨some 39, none, .ia 1 (.t 37) (.t 38)⟩,
      ⟨some 40, none, .ld none (.t 39)⟩,
      ⟨some 41, none, .ia 1 (.t 40) (.c (.int .i64 0))⟩,
      ⟨some 42, none, .ld none (.t 41)⟩,
      ⟨some 6, none, .mov (.t 42)⟩] (some [6]))
    .ret)))
theorem is_wireArg : IrOf Tryd.prog 37 43 ir_wireArg [.t 6] := ⟨_, Tryd.func37, rfl, by kernel_rfl, by kernel_rfl, by kernel_rfl⟩


theorem dcs_of_len {b : List UInt8} (h : (readW b).2 ≤ b.length) : dcsOk b := by
  intro h1 h2
  unfold readW at h
  rw [if_neg (not_not_intro h1)] at h
  simp only at h
  rw [h2] at h
  rw [if_neg (by decide), if_neg (by decide), if_pos rfl] at h
  simp only at h
  omega
theorem fi_may {s : Sq} (h : mayP s = 0) : s.fi < 128 := by
  have h1 := (mayF h).sh
  unfold shapedP at h1
  repeat' split at h1
  all_goals simp only [Bool.and_eq_true, decide_eq_true_eq, beq_iff_eq, Bool.false_eq_true] at h1
  all_goals omega
/-- What is put is read back by the program too, whatever stands behind it. -/
theorem take_may {s : Sq} (h : mayP s = 0) (more : List UInt8) : dcsOk (putB s ++ more) ∧ (readW (putB s ++ more)).1.fi < 128 ∧ takeV (putB s ++ more) = .tup [.agg s.c, .int .i64 (putB s).length, .int .i64 0] := by
  have h1 := readW_put h more
  refine ⟨dcs_of_len (by rw [h1]; simp), by rw [h1]; exact fi_may h, ?_⟩
  unfold takeV
  rw [takeW_put h]
def argW (ps : List (List Int)) (i : Nat) (o : Int) : Int := match ps[i]? with
  | some (x :: _) => if x < 0 then o else x
  | _ => o
theorem fs_wArg {Gl : Gh → Prop} (hst : Stays Gl) {k pr fi o : Int} {ps : List (List Int)} {it da : List UInt8} {i : Nat} : FS Tryd.prog Gl 37 [.agg [.int .i64 k, .int .u8 pr, .sl none 1 (parsAV ps), .str it, .int .u8 fi, .str da], .int .i64 (i : Int), .int .i64 o] [] [] (.int .i64 (argW ps i o)) [] [] := by
  refine FS.of hm hst is_wireArg (by simp) fun γ hγ hfr => ?_
  (generalize hQ : (fun (ex : Ex) (_ _ : Nat) (s : St) => _) = Q; unfold ir_wireArg)
  have h0 : decide ((i : Int) < 0) = false := by simp
  by_cases hlt : i < ps.length
  · have h1 : decide ((i : Int) ≥ (ps.length : Int)) = false := by simp; omega
    have hg : (parsAV ps).getD i [] = [intsV ps[i]] := by
      rw [List.getD_eq_getElem?_getD]; simp [parsAV, hlt]
    have hi : intsV ps[i] = .sl none 1 (intsAV ps[i]) := rfl
    cases hp : ps[i] with
    | nil =>
      rw [hi, hp] at hg
      have ha : argW ps i o = o := by unfold argW; rw [List.getElem?_eq_getElem hlt, hp]
      have hl : (((intsAV ([] : List Int)).length : Int) == 0) = true := rfl
      simp +contextual (maxSteps := 1000000) only [h0, h1, hg, hl, parsAV_length, Int.toNat_natCast, go_sem, reduceCtorEq, ↓reduceIte, Nat.reduceAdd, Nat.reduceEqDiff, Nat.reduceLeDiff, Nat.reduceMul, Nat.reduceBEq, Int.reduceBEq, Int.reduceBNe, Int.reduceLT, Int.reduceLE, Int.reduceGT, Int.reduceGE, Int.reduceToNat, Int.natCast_one, Int.natCast_zero, Int.cast_ofNat_Int]
      refine ⟨by omega, ?_⟩
      rw [← hQ, ha]
      exact ⟨trivial, Ret.flat rfl rfl⟩
    | cons x l =>
      rw [hi, hp] at hg
      have hg0 : (intsAV (x :: l)).getD 0 [] = [.int .i64 x] := rfl
      have hl : (((intsAV (x :: l)).length : Int) == 0) = false := by simp [intsAV]; omega
      have hl0 : (0 : Int) < ((intsAV (x :: l)).length : Int) := by rw [intsAV_length, List.length_cons]; omega
      by_cases hx : x < 0
      · have hd : decide (x < 0) = true := decide_eq_true hx
        have ha : argW ps i o = o := by unfold argW; rw [List.getElem?_eq_getElem hlt, hp]; exact if_pos hx
        simp +contextual (maxSteps := 1000000) only [h0, h1, hg, hg0, hl, hd, parsAV_length, Int.toNat_natCast, Int.toNat_zero, go_sem, reduceCtorEq, ↓reduceIte, Nat.reduceAdd, Nat.reduceEqDiff, Nat.reduceLeDiff, Nat.reduceMul, Nat.reduceBEq, Int.reduceBEq, Int.reduceBNe, Int.reduceLT, Int.reduceLE, Int.reduceGT, Int.reduceGE, Int.reduceToNat, Int.natCast_one, Int.natCast_zero, Int.cast_ofNat_Int]
        refine ⟨⟨by omega, by omega⟩, ⟨by omega, by omega⟩, hl0, ?_⟩
        rw [← hQ, ha]
        exact ⟨trivial, Ret.flat rfl rfl⟩
      · have hd : decide (x < 0) = false := decide_eq_false hx
        have ha : argW ps i o = x := by unfold argW; rw [List.getElem?_eq_getElem hlt, hp]; exact if_neg hx
        simp +contextual (maxSteps := 1000000) only [h0, h1, hg, hg0, hl, hd, parsAV_length, Int.toNat_natCast, Int.toNat_zero, go_sem, reduceCtorEq, ↓reduceIte, Nat.reduceAdd, Nat.reduceEqDiff, Nat.reduceLeDiff, Nat.reduceMul, Nat.reduceBEq, Int.reduceBEq, Int.reduceBNe, Int.reduceLT, Int.reduceLE, Int.reduceGT, Int.reduceGE, Int.reduceToNat, Int.natCast_one, Int.natCast_zero, Int.cast_ofNat_Int]
        refine ⟨⟨by omega, by omega⟩, ⟨by omega, by omega⟩, hl0, ⟨by omega, by omega⟩, hl0, ?_⟩
        rw [← hQ, ha]
        exact ⟨trivial, Ret.flat rfl rfl⟩
  · have h1 : decide ((i : Int) ≥ (ps.length : Int)) = true := by simp; omega
    have ha : argW ps i o = o := by unfold argW; rw [List.getElem?_eq_none (by omega)]
    simp +contextual (maxSteps := 1000000) only [h0, h1, parsAV_length, go_sem, reduceCtorEq, ↓reduceIte, Nat.reduceAdd, Nat.reduceEqDiff, Nat.reduceLeDiff, Nat.reduceMul, Nat.reduceBEq, Int.reduceBEq, Int.reduceBNe, Int.reduceLT, Int.reduceLE, Int.reduceGT, Int.reduceGE, Int.reduceToNat, Int.natCast_one, Int.natCast_zero, Int.cast_ofNat_Int]
    rw [← hQ, ha]
    exact ⟨trivial, Ret.flat rfl rfl⟩
end Go.Proofs.YtbepihadhmfklaaDoor

set_option linter.unusedVariables false
set_option linter.unusedSimpArgs false
set_option maxRecDepth 100000
namespace Go.Proofs.YtbepihadhmfklaaDoor
open Go Go.Ab

/-- A key's character. -/
def charK (k : Ky) : Int := if kindK k.code = 1 then shownK k else k.code
def allO (k : Ky) : Bool := (oldK k.mods != 0) && ((kindK k.code == 2) || (oldK k.mods != 1))
def fewO (k : Ky) : Bool := allO k && hasK k.mods 4 && (if kindK k.code = 2 then (k.code == 9) || (k.code == 13) else hasK k.mods 1 || !(foldK (shownK k)).isSome)
def lvO (o : Int) (k : Ky) : Bool := if o = 1 then fewO k else if o = 2 then allO k else false
/-- Is a key told by a sequence of its own? -/
def isO (o : Int) (k : Ky) : Bool := ((kindK k.code == 1) || (kindK k.code == 2)) && mayK k && (k.type != 3) && lvO o k
def othSq (k : Ky) : Sq := numSq 1 0 126 [27, 1 + oldK k.mods, charK k]
def othK (o : Int) (k : Ky) : List UInt8 := if isO o k = true then putB (othSq k) else []
theorem old_lt (m : Int) : 0 ≤ oldK m ∧ oldK m < 8 := by unfold oldK; omega
theorem isO_iff {o : Int} {k : Ky} : isO o k = true ↔ (kindK k.code = 1 ∨ kindK k.code = 2) ∧ MayK k ∧ k.type ≠ 3 ∧ lvO o k = true := by
  unfold isO
  simp only [Bool.and_eq_true, Bool.or_eq_true, beq_iff_eq, bne_iff_ne, mayK_iff, and_assoc]
theorem char_range {k : Ky} (M : MayK k) : 0 ≤ charK k ∧ charK k ≤ 1114111 := by
  unfold charK
  split
  · rename_i h
    obtain ⟨n, h1, h2, _⟩ := isCP_spec (shown_cp h M.sh).1
    omega
  · exact kind_range M.kind
theorem may3 {a b c : Int} (ha : 0 ≤ a ∧ a ≤ 1114111) (hb : 0 ≤ b ∧ b ≤ 1114111) (hc : 0 ≤ c ∧ c ≤ 1114111) : mayP (numSq 1 0 126 [a, b, c]) = 0 := by
  have hp : parsOk (([a, b, c] : List Int).map fun n => [n]) = true := by
    simp only [parsOk, List.map_cons, List.map_nil, List.any_cons, List.any_nil, parBad, List.length_cons, List.length_nil]
    have q : ∀ {x : Int}, 0 ≤ x ∧ x ≤ 1114111 → (decide (x < -1) || decide (x > 1114111)) = false := fun h => by
      rw [decide_eq_false (by omega), decide_eq_false (by omega)]; rfl
    rw [q ha, q hb, q hc]
    simp
  unfold mayP numSq
  rw [hp]
  simp [within, shapedP]
theorem oth_may {k : Ky} (M : MayK k) : mayP (othSq k) = 0 := by
  have := old_lt k.mods
  exact may3 (by omega) (by omega) (char_range M)
theorem few_all {k : Ky} (h : fewO k = true) : allO k = true := by
  unfold fewO at h
  simp only [Bool.and_eq_true] at h
  exact h.1.1
theorem isO_12 {k : Ky} (h : isO 1 k = true) : isO 2 k = true := by
  obtain ⟨a, M, b, c⟩ := isO_iff.1 h
  refine isO_iff.2 ⟨a, M, b, ?_⟩
  exact few_all (show fewO k = true from c)
theorem isO_0 (k : Ky) : isO 0 k = false := by
  unfold isO lvO
  simp
end Go.Proofs.YtbepihadhmfklaaDoor

