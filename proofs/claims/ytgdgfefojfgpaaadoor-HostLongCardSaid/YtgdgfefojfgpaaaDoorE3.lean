/- HostLong, walked. -/
import Derived.Test.YtgdgfefojfgpaaaDoorE2
set_option linter.unusedVariables false
set_option linter.unusedSimpArgs false
set_option maxRecDepth 100000
namespace Go.Proofs.YtgdgfefojfgpaaaDoor
open Go Go.Ab
/- clavier/clavierlaw05.HostLong -/
def ir_clavierlaw05HostLong_l0 : ICode :=
 (.seq
           (.seq
            (.reg [⟨some 21, none, .mov (.t 8)⟩,
              ⟨some 22, none, .mov (.t 6)⟩,
              ⟨some 23, none, .bin .lss .none (.t 21) (.t 22)⟩] (some [5, 6, 7, 8, 23]))
            (.cond (.t 23)
             .skip
             (.exit 0)))
           (.seq
            (.blk 1
             (.reg [⟨some 26, none, .mov (.t 7)⟩,
               ⟨some 27, none, .row 5 1 [(.c (.int .u8 97))]⟩,
               ⟨some 28, none, .app 5 1 1 (.t 26) (.t 27)⟩,
               ⟨some 7, none, .mov (.t 28)⟩] (some [5, 6, 7, 8])))
            (.reg [⟨some 24, none, .mov (.t 8)⟩,
              ⟨some 25, none, .bin .add .none (.t 24) (.c (.int .i64 1))⟩,
              ⟨some 8, none, .mov (.t 25)⟩] (some [5, 6, 7, 8]))))
def ir_clavierlaw05HostLong_t11 : ICode :=
 (.seq
  (.reg [⟨some 53, none, .mov (.t 5)⟩,
               ⟨some 54, none, .mov (.t 53)⟩,
               ⟨some 55, some (54, true), .mov (.t 10)⟩,
               ⟨some 56, some (54, true), .len (.t 55)⟩,
               ⟨some 57, some (54, true), .bin .eql .none (.t 56) (.c (.int .i64 2))⟩,
               ⟨some 58, none, .pick (.t 54) (.t 57) (.c (.bool false))⟩,
               ⟨some 59, none, .mov (.t 58)⟩,
               ⟨some 60, some (59, true), .mov (.t 10)⟩,
               ⟨some 61, some (59, true), .ia 6 (.t 60) (.c (.int .i64 0))⟩,
               ⟨some 62, some (59, true), .fa 5 (.t 61)⟩,
               ⟨some 63, some (59, true), .ld none (.t 62)⟩,
               ⟨some 64, some (59, true), .lns (.t 63)⟩,
               ⟨some 65, some (59, true), .mov (.t 6)⟩,
               ⟨some 66, some (59, true), .bin .eql .none (.t 64) (.t 65)⟩,
               ⟨some 67, none, .pick (.t 59) (.t 66) (.c (.bool false))⟩,
               ⟨some 68, none, .mov (.t 67)⟩,
               ⟨some 69, some (68, true), .mov (.t 10)⟩,
               ⟨some 70, some (68, true), .ia 6 (.t 69) (.c (.int .i64 1))⟩,
               ⟨some 71, some (68, true), .fa 4 (.t 70)⟩,
               ⟨some 72, some (68, true), .ld none (.t 71)⟩,
               ⟨some 73, some (68, true), .bin .eql .none (.t 72) (.c (.int .u8 99))⟩,
               ⟨some 74, none, .pick (.t 68) (.t 73) (.c (.bool false))⟩,
               ⟨some 75, none, .mov (.t 74)⟩,
               ⟨some 76, some (75, true), .mov (.t 10)⟩,
               ⟨some 77, some (75, true), .ia 6 (.t 76) (.c (.int .i64 0))⟩,
               ⟨some 78, some (75, true), .fa 0 (.t 77)⟩,
               ⟨some 79, some (75, true), .ld none (.t 78)⟩,
               ⟨some 80, some (75, true), .bin .neq .none (.t 79) (.c (.int .i64 1))⟩,
               ⟨some 81, none, .pick (.t 75) (.t 80) (.c (.bool false))⟩,
               ⟨some 4, none, .mov (.t 81)⟩] (some [4]))
  .ret)
def ir_clavierlaw05HostLong_t10 : ICode :=
 (.seq
  (.seq
             (.reg [⟨some 38, none, .mov (.t 6)⟩,
               ⟨some 39, none, .bin .gtr .none (.t 38) (.c (.int .i64 4096))⟩] (some [5, 6, 10, 39]))
             (.cond (.t 39)
              (.seq
               (.reg [⟨some 40, none, .mov (.t 5)⟩,
                 ⟨some 41, none, .mov (.t 40)⟩,
                 ⟨some 42, some (41, true), .mov (.t 10)⟩,
                 ⟨some 43, some (41, true), .len (.t 42)⟩,
                 ⟨some 44, some (41, true), .bin .eql .none (.t 43) (.c (.int .i64 1))⟩,
                 ⟨some 45, none, .pick (.t 41) (.t 44) (.c (.bool false))⟩,
                 ⟨some 46, none, .mov (.t 45)⟩,
                 ⟨some 47, some (46, true), .mov (.t 10)⟩,
                 ⟨some 48, some (46, true), .ia 6 (.t 47) (.c (.int .i64 0))⟩,
                 ⟨some 49, some (46, true), .fa 4 (.t 48)⟩,
                 ⟨some 50, some (46, true), .ld none (.t 49)⟩,
                 ⟨some 51, some (46, true), .bin .eql .none (.t 50) (.c (.int .u8 99))⟩,
                 ⟨some 52, none, .pick (.t 46) (.t 51) (.c (.bool false))⟩,
                 ⟨some 4, none, .mov (.t 52)⟩] (some [4]))
               .ret)
              .skip))
  ir_clavierlaw05HostLong_t11)
def ir_clavierlaw05HostLong_t9 : ICode :=
 (.seq
  (.reg [⟨some 35, none, .mov (.t 9)⟩,
             ⟨some 36, none, .mov (.t 7)⟩,
             ⟨some 37, none, .call (.c (.fn (.func 9) [] [])) [(.t 35), (.t 36)]⟩,
             ⟨some 10, none, .mov (.t 37)⟩] (some [5, 6, 10]))
  ir_clavierlaw05HostLong_t10)
def ir_clavierlaw05HostLong_t8 : ICode :=
 (.seq
  (.reg [⟨some 34, none, .call (.c (.fn (.func 8) [] [])) []⟩,
            ⟨some 9, none, .mov (.t 34)⟩] (some [5, 6, 7, 9]))
  ir_clavierlaw05HostLong_t9)
def ir_clavierlaw05HostLong_t7 : ICode :=
 (.seq
  (.reg [⟨some 32, none, .mov (.t 7)⟩,
           ⟨some 33, none, .aps 5 (.t 32) (.c (.str [27, 91, 99]))⟩,
           ⟨some 7, none, .mov (.t 33)⟩] (some [5, 6, 7]))
  ir_clavierlaw05HostLong_t8)
def ir_clavierlaw05HostLong_t6 : ICode :=
 (.seq
  (.reg [⟨some 29, none, .mov (.t 7)⟩,
          ⟨some 30, none, .row 5 1 [(.c (.int .u8 27)), (.c (.int .u8 92))]⟩,
          ⟨some 31, none, .app 5 1 1 (.t 29) (.t 30)⟩,
          ⟨some 7, none, .mov (.t 31)⟩] (some [5, 6, 7]))
  ir_clavierlaw05HostLong_t7)
def ir_clavierlaw05HostLong_t5 : ICode :=
 (.seq
  (.seq
        (.reg [⟨some 8, none, .mov (.c (.int .i64 0))⟩] (some [5, 6, 7, 8]))
        (.blk 0
         (.loop
          ir_clavierlaw05HostLong_l0)))
  ir_clavierlaw05HostLong_t6)
def ir_clavierlaw05HostLong_t4 : ICode :=
 (.seq
  (.seq
       (.reg [⟨some 18, none, .mov (.t 1)⟩] (some [5, 6, 7, 18]))
       (.cond (.t 18)
        (.reg [⟨some 19, none, .row 5 1 [(.c (.int .u8 27)), (.c (.int .u8 80)), (.c (.int .u8 49)), (.c (.int .u8 36)), (.c (.int .u8 114))]⟩,
          ⟨some 20, none, .cvs (.t 19)⟩,
          ⟨some 7, none, .mov (.t 20)⟩] (some [5, 6, 7]))
        .skip))
  ir_clavierlaw05HostLong_t5)
def ir_clavierlaw05HostLong_t3 : ICode :=
 (.seq
  (.reg [⟨some 16, none, .row 5 1 [(.c (.int .u8 27)), (.c (.int .u8 93))]⟩,
       ⟨some 17, none, .cvs (.t 16)⟩,
       ⟨some 7, none, .mov (.t 17)⟩] (some [1, 5, 6, 7]))
  ir_clavierlaw05HostLong_t4)
def ir_clavierlaw05HostLong_t2 : ICode :=
 (.seq
  (.reg [⟨some 12, none, .mov (.t 0)⟩,
      ⟨some 13, none, .bin .rem .none (.t 12) (.c (.int .u8 12))⟩,
      ⟨some 14, none, .cvi .i64 (.t 13)⟩,
      ⟨some 15, none, .bin .add .none (.c (.int .i64 4090)) (.t 14)⟩,
      ⟨some 6, none, .mov (.t 15)⟩] (some [1, 5, 6]))
  ir_clavierlaw05HostLong_t3)
def ir_clavierlaw05HostLong_t1 : ICode :=
 (.seq
  (.reg [⟨some 11, none, .call (.c (.fn (.func 7) [] [])) []⟩,
     ⟨some 5, none, .mov (.t 11)⟩] (some [0, 1, 5]))
  ir_clavierlaw05HostLong_t2)
def ir_clavierlaw05HostLong : ICode :=
 (.seq
  (.reg [⟨some 4, none, .mov (.c (.bool false))⟩] (some [0, 1]))
  ir_clavierlaw05HostLong_t1)
theorem is_clavierlaw05HostLong : IrOf Tryd.prog 6 82 ir_clavierlaw05HostLong [.t 4] := ⟨_, Tryd.func6, rfl, by kernel_rfl, by kernel_rfl, by kernel_rfl⟩


/-- A state amid data. -/
def Pp.amid (k fi : Int) (it tx da : List UInt8) (b : Bool) : Pp := ⟨some .inside, k, 0, it, fi, tx, da, (k == 3) && false, b, true, []⟩
theorem amid_a {k fi : Int} {it tx da : List UInt8} {b : Bool} : (Pp.amid k fi it tx da b).put 97 = if (b || (da.length : Int) == 4096) = true then Pp.amid k fi it tx da true else Pp.amid k fi it tx (da ++ [97]) false := by
  have h1 : (((97 : UInt8).toNat : Int) == 24 || ((97 : UInt8).toNat : Int) == 26) = false := by decide
  have h2 : (((97 : UInt8).toNat : Int) == 27) = false := by decide
  have h3 : (((97 : UInt8).toNat : Int) == 7) = false := by decide
  have h4 : (decide (((97 : UInt8).toNat : Int) < 32) || ((97 : UInt8).toNat : Int) == 127) = false := by decide
  have h5 : decide (((97 : UInt8).toNat : Int) ≥ 128) = false := by decide
  simp only [Pp.put, Pp.one, Pp.amid, h1, h2, Bool.false_and, Bool.false_eq_true, if_false, Pp.call, Pp.inside, h3, h4, h5, Bool.or_false]
  split <;> rfl
theorem amid_run {k fi : Int} {it tx : List UInt8} : ∀ (j : Nat) (da : List UInt8), da.length + j ≤ 4096 → (Pp.amid k fi it tx da false).puts (List.replicate j 97) = Pp.amid k fi it tx (da ++ List.replicate j 97) false
  | 0, da, _ => by simp [Pp.puts]
  | j + 1, da, h => by
    have hn : ((da.length : Int) == 4096) = false := by simp; omega
    show ((Pp.amid k fi it tx da false).put 97).puts (List.replicate j 97) = _
    rw [amid_a, hn]
    simp only [Bool.or_false, Bool.false_eq_true, if_false]
    rw [amid_run j (da ++ [97]) (by simp; omega)]
    rw [List.append_assoc]; rfl
theorem amid_bad {k fi : Int} {it tx da : List UInt8} : ∀ j : Nat, (Pp.amid k fi it tx da true).puts (List.replicate j 97) = Pp.amid k fi it tx da true
  | 0 => rfl
  | j + 1 => by
    show ((Pp.amid k fi it tx da true).put 97).puts (List.replicate j 97) = _
    rw [amid_a]
    simp only [Bool.true_or, if_true]
    exact amid_bad j
theorem amid_all {k fi : Int} {it tx : List UInt8} (n : Nat) : ∃ da b, (Pp.amid k fi it tx [] false).puts (List.replicate n 97) = Pp.amid k fi it tx da b ∧ (n ≤ 4096 → da = List.replicate n 97 ∧ b = false) ∧ (4096 < n → b = true) := by
  by_cases h : n ≤ 4096
  · exact ⟨_, _, amid_run n [] (by simpa using h), fun _ => ⟨rfl, rfl⟩, fun h' => by omega⟩
  · have e : List.replicate n (97 : UInt8) = List.replicate 4096 97 ++ (97 :: List.replicate (n - 4097) 97) := by
      rw [show (97 : UInt8) :: List.replicate (n - 4097) 97 = List.replicate (n - 4097 + 1) 97 from rfl, List.replicate_append_replicate]; congr 1; omega
    refine ⟨List.replicate 4096 97, true, ?_, fun h' => absurd h' h, fun _ => rfl⟩
    rw [e, Pp.puts_app, amid_run 4096 [] (by simp), List.nil_append]
    show ((Pp.amid k fi it tx (List.replicate 4096 97) false).put 97).puts (List.replicate (n - 4097) 97) = _
    rw [amid_a]
    have hn : (((List.replicate 4096 (97 : UInt8)).length : Int) == 4096) = true := by rw [List.length_replicate]; rfl
    rw [hn, Bool.or_true, if_pos rfl]
    exact amid_bad _
/-- The end of it, and what stands behind. -/
theorem amid_end {k fi : Int} {it tx da : List UInt8} {b : Bool} : ((Pp.amid k fi it tx da b).puts [27, 92, 27, 91, 99]).ou = (if b = false ∧ mayP (Pp.amid k fi it tx da b).seq = 0 then [(Pp.amid k fi it tx da b).seq] else []) ++ [⟨1, 0, [], [], 99, []⟩] := by
  have h1 : (Pp.amid k fi it tx da b).puts [27, 92] = { Pp.zero with ou := if b = false ∧ mayP (Pp.amid k fi it tx da b).seq = 0 then [(Pp.amid k fi it tx da b).seq] else [] } := by
    have a1 : (Pp.amid k fi it tx da b).put 27 = { Pp.amid k fi it tx da b with r := false, nx := some .ending } := by
      simp [Pp.put, Pp.one, Pp.amid]
    have a2 : ({ Pp.amid k fi it tx da b with r := false, nx := some .ending } : Pp).put 92 = { (Pp.amid k fi it tx da b).tell with nx := none } := by
      simp [Pp.put, Pp.one, Pp.amid, Pp.call, Pp.ending, Pp.tell, Pp.seq, Pp.zero]
    show ((Pp.amid k fi it tx da b).put 27).put 92 = _
    rw [a1, a2]
    rfl
  rw [show ([27, 92, 27, 91, 99] : List UInt8) = [27, 92] ++ [27, 91, 99] from rfl, Pp.puts_app, h1]
  generalize (if b = false ∧ mayP (Pp.amid k fi it tx da b).seq = 0 then [(Pp.amid k fi it tx da b).seq] else []) = l
  have := puts_mt ({ Pp.zero with ou := l } : Pp) [27, 91, 99]
  rw [this.2]
  congr 1
theorem within_a (n : Nat) : within 32 126 (List.replicate n 97) = true := by
  simp only [within, List.all_eq_true, List.mem_replicate]
  rintro c ⟨_, rfl⟩
  decide
theorem may_osc {n : Nat} (h : n ≤ 4096) : mayP ⟨4, 0, [], [], 0, List.replicate n 97⟩ = 0 := by
  have h1 : decide (((List.replicate n (97 : UInt8)).length : Int) > 4096) = false := by simp; omega
  simp [mayP, h1, within_a, within, parsOk, parBad, shapedP]
  omega
theorem may_dcs {n : Nat} (h : n ≤ 4096) : mayP ⟨3, 0, [[1]], [36], 114, List.replicate n 97⟩ = 0 := by
  have h1 : decide (((List.replicate n (97 : UInt8)).length : Int) > 4096) = false := by simp; omega
  have h2 : within 32 47 [36] = true := by decide
  have h3 : parsOk [[1]] = true := by decide
  simp [mayP, h1, h2, h3, within_a, shapedP]
  omega
def longPre (dcs : Bool) : List UInt8 := if dcs = true then [27, 80, 49, 36, 114] else [27, 93]
theorem long_ou (n : Nat) (dcs : Bool) : (Pp.zero.puts (longPre dcs ++ List.replicate n 97 ++ [27, 92] ++ [27, 91, 99])).ou = (if n ≤ 4096 then [if dcs = true then ⟨3, 0, [[1]], [36], 114, List.replicate n 97⟩ else ⟨4, 0, [], [], 0, List.replicate n 97⟩] else []) ++ [⟨1, 0, [], [], 99, []⟩] := by
  have e : longPre dcs ++ List.replicate n 97 ++ [27, 92] ++ [27, 91, 99] = longPre dcs ++ (List.replicate n 97 ++ [27, 92, 27, 91, 99]) := by simp
  rw [e, Pp.puts_app, Pp.puts_app]
  have hp : Pp.zero.puts (longPre dcs) = if dcs = true then Pp.amid 3 114 [36] [49] [] false else Pp.amid 4 0 [] [] [] false := by
    cases dcs <;> rfl
  rw [hp]
  cases dcs with
  | true =>
    obtain ⟨da, b, h1, h2, h3⟩ := amid_all (k := 3) (fi := 114) (it := [36]) (tx := [49]) n
    simp only [if_true, h1, amid_end]
    by_cases h : n ≤ 4096
    · obtain ⟨rfl, rfl⟩ := h2 h
      have hs : (Pp.amid 3 114 [36] [49] (List.replicate n 97) false).seq = ⟨3, 0, [[1]], [36], 114, List.replicate n 97⟩ := rfl
      rw [hs, if_pos ⟨rfl, may_dcs h⟩, if_pos h]
    · obtain rfl := h3 (by omega)
      rw [if_neg (by simp), if_neg h]
  | false =>
    obtain ⟨da, b, h1, h2, h3⟩ := amid_all (k := 4) (fi := 0) (it := []) (tx := []) n
    simp only [Bool.false_eq_true, if_false, h1, amid_end]
    by_cases h : n ≤ 4096
    · obtain ⟨rfl, rfl⟩ := h2 h
      have hs : (Pp.amid 4 0 [] [] (List.replicate n 97) false).seq = ⟨4, 0, [], [], 0, List.replicate n 97⟩ := rfl
      rw [hs, if_pos ⟨rfl, may_osc h⟩, if_pos h]
    · obtain rfl := h3 (by omega)
      rw [if_neg (by simp), if_neg h]

theorem aps_run {Gl : Gh → Prop} {p : Nm} {e : TypeId} {rows : List (List AV)} {b : List UInt8} {γ i d : Nat} {os : List IOper} {s : St} {K : St → Prop} {x y : X} (hx : x.ev s.F = .sl (some p) 1 rows) (hy : y.ev s.F = .str b) (hT : s.T p) (hsz : rows.length + b.length ≤ 140737488355328)
    (hK : awOps Tryd.prog Gl γ (i + 1) os ⟨upd s.F d (.sl (some (γ, i, 0)) 1 (rows ++ bytesAV b)), s.H, fun t => t = (γ, i, 0) ∨ (s.T t ∧ t ≠ p)⟩ K) : awOps Tryd.prog Gl γ i (⟨some d, none, .aps e x y⟩ :: os) s K := by
  rw [w_cons, w_aps]
  simp only [Ab.step, hx, hy, kStep, Eff.H, Eff.T]
  exact ⟨⟨hT, trivial, hsz⟩, hK⟩

theorem fs_HostLong {Gl : Gh → Prop} (hst : Stays Gl) {more : UInt8} {dcs : Bool} (h0 : True) (h1 : True) : FS Tryd.prog Gl 6 [.int .u8 (more.toNat : Int), .bool dcs] [] [] (.bool true) [] [] := by
  refine FS.of hm hst is_clavierlaw05HostLong (by simp) fun γ hγ hfr => ?_
  (generalize hQ : (fun (ex : Ex) (_ _ : Nat) (s : St) => _) = Q; unfold ir_clavierlaw05HostLong)
  simp +contextual (maxSteps := 1000000) only [go_sem, reduceCtorEq, ↓reduceIte, Nat.reduceAdd, Nat.reduceEqDiff, Nat.reduceLeDiff, Nat.reduceMul, Nat.reduceBEq, Int.reduceBEq, Int.reduceBNe, Int.reduceLT, Int.reduceLE, Int.reduceGT, Int.reduceGE, Int.reduceToNat, Int.natCast_one, Int.natCast_zero, Int.cast_ofNat_Int]
  unfold ir_clavierlaw05HostLong_t1
  simp +contextual (maxSteps := 1000000) only [go_sem, reduceCtorEq, ↓reduceIte, Nat.reduceAdd, Nat.reduceEqDiff, Nat.reduceLeDiff, Nat.reduceMul, Nat.reduceBEq, Int.reduceBEq, Int.reduceBNe, Int.reduceLT, Int.reduceLE, Int.reduceGT, Int.reduceGE, Int.reduceToNat, Int.natCast_one, Int.natCast_zero, Int.cast_ofNat_Int]
  refine CallP.pure (fs_awake hst) (fun _ => rfl) ?_
  obtain ⟨m, hm1⟩ : ∃ m : Nat, m = more.toNat % 12 := ⟨_, rfl⟩
  have hm2 : ((more.toNat : Int)).tmod 12 = (m : Int) := by rw [hm1]; exact (Int.ofNat_tmod _ _).symm
  have hm3 : IntKind.i64.wrap (m : Int) = (m : Int) := by rw [IntKind.wrap_i64]; omega
  have hm4 : IntKind.i64.wrap (4090 + (m : Int)) = ((4090 + m : Nat) : Int) := by rw [IntKind.wrap_i64]; omega
  have hm5 : m < 12 := by omega
  simp +contextual (maxSteps := 1000000) only [go_sem, reduceCtorEq, ↓reduceIte, Nat.reduceAdd, Nat.reduceEqDiff, Nat.reduceLeDiff, Nat.reduceMul, Nat.reduceBEq, Int.reduceBEq, Int.reduceBNe, Int.reduceLT, Int.reduceLE, Int.reduceGT, Int.reduceGE, Int.reduceToNat, Int.natCast_one, Int.natCast_zero, Int.cast_ofNat_Int]
  unfold ir_clavierlaw05HostLong_t2
  simp +contextual (maxSteps := 1000000) only [hm2, hm3, hm4, go_sem, reduceCtorEq, ↓reduceIte, Nat.reduceAdd, Nat.reduceEqDiff, Nat.reduceLeDiff, Nat.reduceMul, Nat.reduceBEq, Int.reduceBEq, Int.reduceBNe, Int.reduceLT, Int.reduceLE, Int.reduceGT, Int.reduceGE, Int.reduceToNat, Int.natCast_one, Int.natCast_zero, Int.cast_ofNat_Int]
  unfold ir_clavierlaw05HostLong_t3
  simp +contextual (maxSteps := 1000000) only [go_sem, reduceCtorEq, ↓reduceIte, Nat.reduceAdd, Nat.reduceEqDiff, Nat.reduceLeDiff, Nat.reduceMul, Nat.reduceBEq, Int.reduceBEq, Int.reduceBNe, Int.reduceLT, Int.reduceLE, Int.reduceGT, Int.reduceGE, Int.reduceToNat, Int.natCast_one, Int.natCast_zero, Int.cast_ofNat_Int]
  unfold ir_clavierlaw05HostLong_t4
  simp +contextual (maxSteps := 1000000) only [go_sem, reduceCtorEq, ↓reduceIte, Nat.reduceAdd, Nat.reduceEqDiff, Nat.reduceLeDiff, Nat.reduceMul, Nat.reduceBEq, Int.reduceBEq, Int.reduceBNe, Int.reduceLT, Int.reduceLE, Int.reduceGT, Int.reduceGE, Int.reduceToNat, Int.natCast_one, Int.natCast_zero, Int.cast_ofNat_Int]
  refine ⟨by decide, ⟨⟨.inl trivial, by simp⟩, ?_⟩⟩
  have hfin : ∀ (k : Nat) (p0 : Nm) (F : Nat → AV) (T : Tk), T p0 → F 5 = .bool true → F 6 = .int .i64 ((4090 + m : Nat) : Int) → F 7 = .sl (some p0) 1 (bytesAV (longPre dcs)) → aw Tryd.prog Gl ir_clavierlaw05HostLong_t5 γ k ⟨F, [], T⟩ Q := by
    intro k p0 F T hT f5 f6 f7
    unfold ir_clavierlaw05HostLong_t5
    simp +contextual (maxSteps := 1000000) only [f5, f6, f7, go_sem, reduceCtorEq, ↓reduceIte, Nat.reduceAdd, Nat.reduceEqDiff, Nat.reduceLeDiff, Nat.reduceMul, Nat.reduceBEq, Int.reduceBEq, Int.reduceBNe, Int.reduceLT, Int.reduceLE, Int.reduceGT, Int.reduceGE, Int.reduceToNat, Int.natCast_one, Int.natCast_zero, Int.cast_ofNat_Int]
    refine kLoop_ix (fun q : Nat × Nm => ⟨lf [(5, .bool true), (6, .int .i64 ((4090 + m : Nat) : Int)), (7, .sl (some q.2) 1 (bytesAV (longPre dcs ++ List.replicate q.1 97))), (8, .int .i64 q.1)], [], fun t => t = q.2⟩) (fun q => q.1 ≤ 4090 + m) (fun q => 4090 + m - q.1) 0 (0, p0) ?_ (Nat.zero_le _) ?_
    · refine Wk.perm' ?_ (by simp) (fun t h => ?_)
      · simp only [List.replicate_zero, List.append_nil]
        (simp only [lfOK, upd, initF]; repeat' first | exact AVle.refl _ _ | exact trivial | refine And.intro ?_ ?_ | exact AVle.int (by simp only [IntKind.wrap_i64]; omega))
      · subst h; exact hT
    rintro γ' ⟨i, p⟩ ⟨hle, hf⟩ hi
    simp only at hi hf
    generalize hQ' : kIt _ _ _ _ _ = Q'
    unfold ir_clavierlaw05HostLong_l0
    have hpl : (longPre dcs).length ≤ 5 := by unfold longPre; split <;> simp
    have hpγ : p.1 ≠ γ' := hf.2 p rfl
    have hγ2 : 1 ≤ γ' := by omega
    by_cases hlt : i < 4090 + m
    · have hd : decide ((i : Int) < ((4090 + m : Nat) : Int)) = true := by rw [decide_eq_true_eq]; omega
      have hw3 : IntKind.i64.wrap ((i : Int) + 1) = ((i + 1 : Nat) : Int) := by rw [IntKind.wrap_i64]; omega
      have hap : bytesAV (longPre dcs ++ List.replicate i 97) ++ [[AV.int .u8 97]] = bytesAV (longPre dcs ++ List.replicate (i + 1) 97) := by
        rw [List.replicate_succ', ← List.append_assoc]; simp [bytesAV]
      have hfit : ((bytesAV (longPre dcs ++ List.replicate i 97)).length + 1) * 1 ≤ 140737488355328 := by
        rw [bytesAV_len, List.length_append, List.length_replicate]; omega
      have hpn : ∀ i, p ≠ (γ', i, 0) := fun i e => hpγ (by rw [e])
      simp +contextual (maxSteps := 1000000) only [hd, hap, hw3, go_sem, reduceCtorEq, ↓reduceIte, Nat.reduceAdd, Nat.reduceEqDiff, Nat.reduceLeDiff, Nat.reduceMul, Nat.reduceBEq, Int.reduceBEq, Int.reduceBNe, Int.reduceLT, Int.reduceLE, Int.reduceGT, Int.reduceGE, Int.reduceToNat, Int.natCast_one, Int.natCast_zero, Int.cast_ofNat_Int]
      refine ⟨⟨.inr trivial, hfit⟩, ?_⟩
      rw [← hQ']
      simp only [w_kIt_n]
      refine ⟨0, (i + 1, (γ', 5, 0)), Wk.perm' ?_ (by simp) (fun t h => .inl h), by simp only; omega, by simp only; omega⟩
      repeat' first | exact AVle.refl _ _ | exact trivial | refine And.intro ?_ ?_ | exact AVle.int (by simp only [IntKind.wrap_i64]; omega)
    · have hd : decide ((i : Int) < ((4090 + m : Nat) : Int)) = false := by rw [decide_eq_false_iff_not]; omega
      obtain rfl : i = 4090 + m := by omega
      simp +contextual (maxSteps := 1000000) only [hd, go_sem, reduceCtorEq, ↓reduceIte, Nat.reduceAdd, Nat.reduceEqDiff, Nat.reduceLeDiff, Nat.reduceMul, Nat.reduceBEq, Int.reduceBEq, Int.reduceBNe, Int.reduceLT, Int.reduceLE, Int.reduceGT, Int.reduceGE, Int.reduceToNat, Int.natCast_one, Int.natCast_zero, Int.cast_ofNat_Int]
      rw [← hQ']
      simp only [w_kIt_e, w_kBlk_e, ↓reduceIte]
      simp +contextual (maxSteps := 1000000) only [go_sem, reduceCtorEq, ↓reduceIte, Nat.reduceAdd, Nat.reduceEqDiff, Nat.reduceLeDiff, Nat.reduceMul, Nat.reduceBEq, Int.reduceBEq, Int.reduceBNe, Int.reduceLT, Int.reduceLE, Int.reduceGT, Int.reduceGE, Int.reduceToNat, Int.natCast_one, Int.natCast_zero, Int.cast_ofNat_Int]
      unfold ir_clavierlaw05HostLong_t6
      have hap : bytesAV (longPre dcs ++ List.replicate (4090 + m) 97) ++ [[AV.int .u8 27], [AV.int .u8 92]] = bytesAV (longPre dcs ++ List.replicate (4090 + m) 97 ++ [27, 92]) := by
        simp [bytesAV]
      have hfit : ((bytesAV (longPre dcs ++ List.replicate (4090 + m) 97)).length + 2) * 1 ≤ 140737488355328 := by
        rw [bytesAV_len, List.length_append, List.length_replicate]; omega
      simp +contextual (maxSteps := 1000000) only [hap, go_sem, reduceCtorEq, ↓reduceIte, Nat.reduceAdd, Nat.reduceEqDiff, Nat.reduceLeDiff, Nat.reduceMul, Nat.reduceBEq, Int.reduceBEq, Int.reduceBNe, Int.reduceLT, Int.reduceLE, Int.reduceGT, Int.reduceGE, Int.reduceToNat, Int.natCast_one, Int.natCast_zero, Int.cast_ofNat_Int]
      refine ⟨⟨.inr trivial, hfit⟩, ?_⟩
      unfold ir_clavierlaw05HostLong_t7
      have hap2 : bytesAV (longPre dcs ++ List.replicate (4090 + m) 97 ++ [27, 92]) ++ bytesAV [27, 91, 99] = bytesAV (longPre dcs ++ List.replicate (4090 + m) 97 ++ [27, 92] ++ [27, 91, 99]) := by
        simp [bytesAV]
      have hBl : (longPre dcs ++ List.replicate (4090 + m) 97 ++ [27, 92] ++ [27, 91, 99] : List UInt8).length ≤ 6000 := by
        simp only [List.length_append, List.length_replicate, List.length_cons, List.length_nil]; omega
      have hBl2 : (longPre dcs ++ List.replicate (4090 + m) 97 ++ [27, 92] : List UInt8).length ≤ 6000 := by
        simp only [List.length_append, List.length_replicate, List.length_cons, List.length_nil]; omega
      have hou := long_ou (4090 + m) dcs
      simp +contextual (maxSteps := 1000000) only [hap2, go_sem, reduceCtorEq, ↓reduceIte, Nat.reduceAdd, Nat.reduceEqDiff, Nat.reduceLeDiff, Nat.reduceMul, Nat.reduceBEq, Int.reduceBEq, Int.reduceBNe, Int.reduceLT, Int.reduceLE, Int.reduceGT, Int.reduceGE, Int.reduceToNat, Int.natCast_one, Int.natCast_zero, Int.cast_ofNat_Int]
      refine ⟨⟨.inl trivial, by rw [bytesAV_len]; omega⟩, ?_⟩
      unfold ir_clavierlaw05HostLong_t8
      simp +contextual (maxSteps := 1000000) only [go_sem, reduceCtorEq, ↓reduceIte, Nat.reduceAdd, Nat.reduceEqDiff, Nat.reduceLeDiff, Nat.reduceMul, Nat.reduceBEq, Int.reduceBEq, Int.reduceBNe, Int.reduceLT, Int.reduceLE, Int.reduceGT, Int.reduceGE, Int.reduceToNat, Int.natCast_one, Int.natCast_zero, Int.cast_ofNat_Int]
      refine New.call hst ?_
      simp +contextual (maxSteps := 1000000) only [go_sem, reduceCtorEq, ↓reduceIte, Nat.reduceAdd, Nat.reduceEqDiff, Nat.reduceLeDiff, Nat.reduceMul, Nat.reduceBEq, Int.reduceBEq, Int.reduceBNe, Int.reduceLT, Int.reduceLE, Int.reduceGT, Int.reduceGE, Int.reduceToNat, Int.natCast_one, Int.natCast_zero, Int.cast_ofNat_Int]
      unfold ir_clavierlaw05HostLong_t9
      simp +contextual (maxSteps := 1000000) only [go_sem, reduceCtorEq, ↓reduceIte, Nat.reduceAdd, Nat.reduceEqDiff, Nat.reduceLeDiff, Nat.reduceMul, Nat.reduceBEq, Int.reduceBEq, Int.reduceBNe, Int.reduceLT, Int.reduceLE, Int.reduceGT, Int.reduceGE, Int.reduceToNat, Int.natCast_one, Int.natCast_zero, Int.cast_ofNat_Int]
      generalize longPre dcs ++ List.replicate (4090 + m) 97 ++ [27, 92] ++ [27, 91, 99] = B at hBl hou ⊢
      refine Feed.call hst (s := Ps.new) (b := B) hγ2 Ps.new_ok (by simp) hγ2 (by simp [Ps.new_toks]) (by simp [Ps.new_toks]) 0 Pp.w.zero (by omega) fun ps po h1 h2 h3 h4 h5 h6 => ?_
      have hz : Ps.new.x = Pp.zero := rfl
      rw [hz, hou] at h4 ⊢
      cases po with
      | none => have := h4 rfl; simp at this
      | some po =>
      clear h1 h2 h3 h4 h5 h6 hou
      simp +contextual (maxSteps := 1000000) only [go_sem, reduceCtorEq, ↓reduceIte, Nat.reduceAdd, Nat.reduceEqDiff, Nat.reduceLeDiff, Nat.reduceMul, Nat.reduceBEq, Int.reduceBEq, Int.reduceBNe, Int.reduceLT, Int.reduceLE, Int.reduceGT, Int.reduceGE, Int.reduceToNat, Int.natCast_one, Int.natCast_zero, Int.cast_ofNat_Int]
      unfold ir_clavierlaw05HostLong_t10
      by_cases hn : 4090 + m ≤ 4096
      · have hn2 : decide (((4090 + m : Nat) : Int) > 4096) = false := by rw [decide_eq_false_iff_not]; omega
        have hfi : (((List.replicate (4090 + m) (97 : UInt8)).length : Int) == ((4090 + m : Nat) : Int)) = true := by rw [List.length_replicate]; simp
        cases dcs with
        | true =>
          simp +contextual (maxSteps := 1000000) only [hn, hn2, Sq.r, pv, parsV, parsAV, intsV, intsAV, go_sem, reduceCtorEq, ↓reduceIte, Nat.reduceAdd, Nat.reduceEqDiff, Nat.reduceLeDiff, Nat.reduceMul, Nat.reduceBEq, Int.reduceBEq, Int.reduceBNe, Int.reduceLT, Int.reduceLE, Int.reduceGT, Int.reduceGE, Int.reduceToNat, Int.natCast_one, Int.natCast_zero, Int.cast_ofNat_Int]
          unfold ir_clavierlaw05HostLong_t11
          simp +contextual (maxSteps := 1000000) only [hfi, go_sem, reduceCtorEq, ↓reduceIte, Nat.reduceAdd, Nat.reduceEqDiff, Nat.reduceLeDiff, Nat.reduceMul, Nat.reduceBEq, Int.reduceBEq, Int.reduceBNe, Int.reduceLT, Int.reduceLE, Int.reduceGT, Int.reduceGE, Int.reduceToNat, Int.natCast_one, Int.natCast_zero, Int.cast_ofNat_Int]
          rw [← hQ]
          exact ⟨trivial, Ret.flat rfl rfl⟩
        | false =>
          simp +contextual (maxSteps := 1000000) only [hn, hn2, Sq.r, pv, parsV, parsAV, intsV, intsAV, go_sem, reduceCtorEq, ↓reduceIte, Nat.reduceAdd, Nat.reduceEqDiff, Nat.reduceLeDiff, Nat.reduceMul, Nat.reduceBEq, Int.reduceBEq, Int.reduceBNe, Int.reduceLT, Int.reduceLE, Int.reduceGT, Int.reduceGE, Int.reduceToNat, Int.natCast_one, Int.natCast_zero, Int.cast_ofNat_Int]
          unfold ir_clavierlaw05HostLong_t11
          simp +contextual (maxSteps := 1000000) only [hfi, go_sem, reduceCtorEq, ↓reduceIte, Nat.reduceAdd, Nat.reduceEqDiff, Nat.reduceLeDiff, Nat.reduceMul, Nat.reduceBEq, Int.reduceBEq, Int.reduceBNe, Int.reduceLT, Int.reduceLE, Int.reduceGT, Int.reduceGE, Int.reduceToNat, Int.natCast_one, Int.natCast_zero, Int.cast_ofNat_Int]
          rw [← hQ]
          exact ⟨trivial, Ret.flat rfl rfl⟩
      · have hn2 : decide (((4090 + m : Nat) : Int) > 4096) = true := by rw [decide_eq_true_eq]; omega
        simp +contextual (maxSteps := 1000000) only [hn, hn2, Sq.r, pv, parsV, parsAV, intsV, intsAV, go_sem, reduceCtorEq, ↓reduceIte, Nat.reduceAdd, Nat.reduceEqDiff, Nat.reduceLeDiff, Nat.reduceMul, Nat.reduceBEq, Int.reduceBEq, Int.reduceBNe, Int.reduceLT, Int.reduceLE, Int.reduceGT, Int.reduceGE, Int.reduceToNat, Int.natCast_one, Int.natCast_zero, Int.cast_ofNat_Int]
        rw [← hQ]
        exact ⟨trivial, Ret.flat rfl rfl⟩
  refine kCond_split (fun hs => ?_) (fun hs => ?_)
  · simp +contextual (maxSteps := 1000000) only [go_sem, reduceCtorEq, ↓reduceIte, Nat.reduceAdd, Nat.reduceEqDiff, Nat.reduceLeDiff, Nat.reduceMul, Nat.reduceBEq, Int.reduceBEq, Int.reduceBNe, Int.reduceLT, Int.reduceLE, Int.reduceGT, Int.reduceGE, Int.reduceToNat, Int.natCast_one, Int.natCast_zero, Int.cast_ofNat_Int]
    refine ⟨⟨.inl trivial, by simp⟩, ?_⟩
    exact hfin _ _ _ _ (.inl rfl) rfl rfl (by rw [hs]; rfl)
  · simp +contextual (maxSteps := 1000000) only [go_sem, reduceCtorEq, ↓reduceIte, Nat.reduceAdd, Nat.reduceEqDiff, Nat.reduceLeDiff, Nat.reduceMul, Nat.reduceBEq, Int.reduceBEq, Int.reduceBNe, Int.reduceLT, Int.reduceLE, Int.reduceGT, Int.reduceGE, Int.reduceToNat, Int.natCast_one, Int.natCast_zero, Int.cast_ofNat_Int]
    exact hfin _ _ _ _ (.inl rfl) rfl rfl (by rw [hs]; rfl)
end Go.Proofs.YtgdgfefojfgpaaaDoor
