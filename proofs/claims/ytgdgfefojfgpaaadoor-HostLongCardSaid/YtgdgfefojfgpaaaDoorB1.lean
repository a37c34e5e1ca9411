/- The parser of layer 5: its state. -/
import Derived.Test.YtgdgfefojfgpaaaDoorA12
import Derived.Test.YtgdgfefojfgpaaaDoorA9
set_option linter.unusedVariables false
set_option linter.unusedSimpArgs false
set_option maxRecDepth 100000
namespace Go.Proofs.YtgdgfefojfgpaaaDoor
open Go Go.Ab
/-- (*clavier/host.Parser).drop -/
def ir_hostParserdrop : ICode :=
 (.reg [⟨some 2, none, .mov (.t 0)⟩,
   ⟨some 3, none, .mov (.t 0)⟩,
   ⟨some 4, none, .nck (.t 3)⟩,
   ⟨some 5, none, .fa 12 (.t 4)⟩,
   ⟨some 6, none, .ld none (.t 5)⟩,
   ⟨some 7, none, .bld [.nilf, (.int .i64 0), (.int .u8 0), .nils, (.str []), (.int .u8 0), (.str []), .nils, .nils, (.bool false), (.bool false), (.bool false), .nils] [(12, 1, (.t 6))]⟩,
   ⟨some 8, none, .nck (.t 2)⟩,
   ⟨none, none, .st 13 (.t 8) (.t 7)⟩] (some []))
theorem is_hostParserdrop : IrOf Tryd.prog 18 9 ir_hostParserdrop [] := ⟨_, Tryd.func18, rfl, by kernel_rfl, by kernel_rfl, by kernel_rfl⟩

/-- (*clavier/host.Parser).Idle -/
def ir_hostParserIdle : ICode :=
 (.seq
  (.reg [⟨some 2, none, .mov (.c (.bool false))⟩] (some [0]))
  (.seq
   (.reg [⟨some 3, none, .mov (.t 0)⟩,
     ⟨some 4, none, .bin .eql .ptr (.t 3) (.c .nilp)⟩,
     ⟨some 5, none, .mov (.t 4)⟩,
     ⟨some 6, some (5, false), .mov (.t 0)⟩,
     ⟨some 7, some (5, false), .nck (.t 6)⟩,
     ⟨some 8, some (5, false), .fa 0 (.t 7)⟩,
     ⟨some 9, some (5, false), .ld none (.t 8)⟩,
     ⟨some 10, some (5, false), .bin .eql .func (.t 9) (.c .nilf)⟩,
     ⟨some 11, none, .pick (.t 5) (.c (.bool true)) (.t 10)⟩,
     ⟨some 2, none, .mov (.t 11)⟩] (some [2]))
   .ret))
theorem is_hostParserIdle : IrOf Tryd.prog 11 12 ir_hostParserIdle [.t 2] := ⟨_, Tryd.func11, rfl, by kernel_rfl, by kernel_rfl, by kernel_rfl⟩

/-- clavier/host.New -/
def ir_hostNew : ICode :=
 (.seq
  (.reg [⟨some 0, none, .mov (.c .nilp)⟩] (some []))
  (.seq
   (.reg [⟨some 1, none, .bld [.nilf, (.int .i64 0), (.int .u8 0), .nils, (.str []), (.int .u8 0), (.str []), .nils, .nils, (.bool false), (.bool false), (.bool false), .nils] []⟩,
     ⟨some 2, none, .box 43 (.t 1)⟩,
     ⟨some 0, none, .mov (.t 2)⟩] (some [0]))
   .ret))
theorem is_hostNew : IrOf Tryd.prog 8 3 ir_hostNew [.t 0] := ⟨_, Tryd.func8, rfl, by kernel_rfl, by kernel_rfl, by kernel_rfl⟩

/-- (*clavier/host.Parser).opened -/
def ir_hostParseropened : ICode :=
 (.seq
  (.reg [⟨some 4, none, .mov (.c .nilf)⟩] (some [0, 1]))
  (.seq
   (.seq
    (.reg [⟨some 5, none, .mov (.t 1)⟩] (some [0, 5]))
    (.blk 0
     (.seq
      (.reg [⟨some 7, none, .bin .eql .none (.t 5) (.c (.int .u8 91))⟩,
        ⟨some 6, none, .mov (.t 7)⟩] (some [0, 5, 6]))
      (.cond (.t 6)
       (.seq
        (.reg [⟨some 8, none, .mov (.t 0)⟩,
          ⟨some 9, none, .mov (.t 0)⟩,
          ⟨some 10, none, .nck (.t 8)⟩,
          ⟨some 11, none, .fa 1 (.t 10)⟩,
          ⟨some 12, none, .fa 0 (.t 11)⟩,
          ⟨none, none, .st 1 (.t 12) (.c (.int .i64 1))⟩,
          ⟨some 13, none, .nck (.t 9)⟩,
          ⟨some 14, none, .fa 9 (.t 13)⟩,
          ⟨none, none, .st 1 (.t 14) (.c (.bool true))⟩] (some []))
        (.seq
         (.reg [⟨some 4, none, .mov (.c (.fn (.func 35) [] []))⟩] (some [4]))
         .ret))
       (.seq
        (.reg [⟨some 16, none, .bin .eql .none (.t 5) (.c (.int .u8 80))⟩,
          ⟨some 15, none, .mov (.t 16)⟩] (some [0, 5, 15]))
        (.cond (.t 15)
         (.seq
          (.reg [⟨some 17, none, .mov (.t 0)⟩,
            ⟨some 18, none, .mov (.t 0)⟩,
            ⟨some 19, none, .nck (.t 17)⟩,
            ⟨some 20, none, .fa 1 (.t 19)⟩,
            ⟨some 21, none, .fa 0 (.t 20)⟩,
            ⟨none, none, .st 1 (.t 21) (.c (.int .i64 3))⟩,
            ⟨some 22, none, .nck (.t 18)⟩,
            ⟨some 23, none, .fa 9 (.t 22)⟩,
            ⟨none, none, .st 1 (.t 23) (.c (.bool true))⟩] (some []))
          (.seq
           (.reg [⟨some 4, none, .mov (.c (.fn (.func 35) [] []))⟩] (some [4]))
           .ret))
         (.seq
          (.reg [⟨some 25, none, .bin .eql .none (.t 5) (.c (.int .u8 93))⟩,
            ⟨some 24, none, .mov (.t 25)⟩] (some [0, 24]))
          (.cond (.t 24)
           (.seq
            (.reg [⟨some 26, none, .mov (.t 0)⟩,
              ⟨some 27, none, .mov (.t 0)⟩,
              ⟨some 28, none, .nck (.t 26)⟩,
              ⟨some 29, none, .fa 1 (.t 28)⟩,
              ⟨some 30, none, .fa 0 (.t 29)⟩,
              ⟨none, none, .st 1 (.t 30) (.c (.int .i64 4))⟩,
              ⟨some 31, none, .nck (.t 27)⟩,
              ⟨some 32, none, .fa 11 (.t 31)⟩,
              ⟨none, none, .st 1 (.t 32) (.c (.bool true))⟩] (some []))
            (.seq
             (.reg [⟨some 4, none, .mov (.c (.fn (.func 36) [] []))⟩] (some [4]))
             .ret))
           .skip))))))))
   (.seq
    (.reg [⟨some 33, none, .mov (.t 0)⟩,
      ⟨some 34, none, .nck (.t 33)⟩,
      ⟨some 35, none, .fa 11 (.t 34)⟩,
      ⟨none, none, .st 1 (.t 35) (.c (.bool true))⟩] (some [0]))
    (.seq
     (.reg [⟨some 36, none, .mov (.t 0)⟩,
       ⟨some 37, none, .nck (.t 36)⟩,
       ⟨some 38, none, .fa 10 (.t 37)⟩,
       ⟨none, none, .st 1 (.t 38) (.c (.bool true))⟩] (some []))
     (.seq
      (.reg [⟨some 4, none, .mov (.c (.fn (.func 37) [] []))⟩] (some [4]))
      .ret)))))
theorem is_hostParseropened : IrOf Tryd.prog 30 39 ir_hostParseropened [.t 4] := ⟨_, Tryd.func30, rfl, by kernel_rfl, by kernel_rfl, by kernel_rfl⟩

/-- (*clavier/host.Parser).unread -/
def ir_hostParserunread : ICode :=
 (.seq
  (.reg [⟨some 4, none, .mov (.c .nilf)⟩] (some []))
  (.seq
   (.reg [⟨some 4, none, .mov (.c (.fn (.func 37) [] []))⟩] (some [4]))
   .ret))
theorem is_hostParserunread : IrOf Tryd.prog 37 5 ir_hostParserunread [.t 4] := ⟨_, Tryd.func37, rfl, by kernel_rfl, by kernel_rfl, by kernel_rfl⟩


inductive Nx where
  | behind | head | inside | unread | ending
  deriving DecidableEq
def Nx.f : Nx → Nat
  | .behind => 20
  | .head => 35
  | .inside => 36
  | .unread => 37
  | .ending => 19
def nxv : Option Nx → AV
  | none => .nilf
  | some k => .fn (.func k.f) [] []
theorem nxv_one {k : Option Nx} : (nxv k).one = true := by cases k <;> rfl
theorem nxv_cells {k : Option Nx} : (nxv k).cells = [nxv k] := by cases k <;> rfl
theorem nxv_rn {f : Nat → Nm} {k : Option Nx} : Ab.rn f (nxv k) = nxv k := by cases k <;> rfl
theorem nxv_ok {m : Nat} {L T : List Nm} {k : Option Nx} : (nxv k).okIn m L T := by
  cases k with
  | none => trivial
  | some k => exact ⟨trivial, trivial⟩
theorem nxv_nil : nxv none = .nilf := rfl
attribute [go_sem] nxv_one nxv_cells

/-- Parameters as the program leaves them: nil, if there is none. -/
def pv (ps : List (List Int)) : AV := match ps with
  | [] => .nils
  | p :: l => parsV (p :: l)
theorem pv_le (ps : List (List Int)) : RepLe (pv ps) (parsV ps) := by
  cases ps with
  | nil => exact RepLe.nils 1
  | cons p l => exact RepLe.refl _
theorem pv_one (ps : List (List Int)) : (pv ps).one = true := by cases ps <;> rfl
theorem pv_cells (ps : List (List Int)) : (pv ps).cells = [pv ps] := by cases ps <;> rfl
theorem pv_strip (ps : List (List Int)) : (pv ps).strip = pv ps := by cases ps <;> rfl
theorem pv_closed (ps : List (List Int)) : (pv ps).closed = true := by cases ps <;> rfl
attribute [go_sem] pv_one pv_cells pv_strip pv_closed
/-- A sequence's cells as the program leaves them. -/
def Sq.r (s : Sq) : List AV := [.int .i64 s.k, .int .u8 s.pr, pv s.ps, .str s.it, .int .u8 s.fi, .str s.da]
theorem Sq.r_le (s : Sq) : RepLe (.agg s.r) (.agg s.c) := RepLe.agg ⟨.refl _, .refl _, pv_le _, .refl _, .refl _, .refl _, trivial⟩

/-- The parser's state. -/
structure Pp where
  nx : Option Nx
  k : Int
  pr : Int
  it : List UInt8
  fi : Int
  tx : List UInt8
  da : List UInt8
  f : Bool
  b : Bool
  r : Bool
  ou : List Sq
/-- With the names of its slices. -/
structure Ps where
  x : Pp
  tt : Option Nm
  dt : Option Nm
  ot : Option Nm
def Ps.c (s : Ps) : List AV := [nxv s.x.nx, .int .i64 s.x.k, .int .u8 s.x.pr, .nils, .str s.x.it, .int .u8 s.x.fi, .str [], sv s.tt 1 (bytesAV s.x.tx), sv s.dt 1 (bytesAV s.x.da), .bool s.x.f, .bool s.x.b, .bool s.x.r, sv s.ot 6 (s.x.ou.map Sq.r)]
def Ps.toks (s : Ps) : List Nm := s.tt.toList ++ s.dt.toList ++ s.ot.toList
def Ps.rn (f : Nat → Nm) (s : Ps) : Ps := ⟨s.x, s.tt.map (rnN f), s.dt.map (rnN f), s.ot.map (rnN f)⟩
structure Ps.ok (s : Ps) : Prop where
  nd : s.toks.Nodup
  t : s.tt = none → s.x.tx = []
  d : s.dt = none → s.x.da = []
  o : s.ot = none → s.x.ou = []
theorem sv_rn {f : Nat → Nm} {t : Option Nm} {sz : Nat} {rows : List (List AV)} : Ab.rn f (sv t sz rows) = sv (t.map (rnN f)) sz rows := by cases t <;> rfl
theorem Ps.c_rn {f : Nat → Nm} {s : Ps} : rnHB f (.cells s.c) = .cells (s.rn f).c := by
  simp only [rnHB, Ps.c, rnL, sv_rn, nxv_rn, Ab.rn, Ps.rn]
theorem Ps.toks_rn {f : Nat → Nm} {s : Ps} : (s.rn f).toks = s.toks.map (rnN f) := by
  simp only [Ps.toks, Ps.rn, List.map_append]
  cases s.tt <;> cases s.dt <;> cases s.ot <;> rfl
theorem sv_ok {m : Nat} {L T : List Nm} {t : Option Nm} {sz : Nat} {rows : List (List AV)} (h : ∀ x ∈ t.toList, nmOK m T x) : (sv t sz rows).okIn m L T := by
  cases t with
  | none => trivial
  | some t => exact h t (by simp)
theorem Ps.okc {m : Nat} {L T : List Nm} {s : Ps} (h : ∀ t ∈ s.toks, nmOK m T t) : HB.okIn m L T (.cells s.c) := by
  simp only [Ps.toks, List.mem_append] at h
  exact ⟨nxv_ok, trivial, trivial, trivial, trivial, trivial, trivial, sv_ok fun x hx => h x (.inl (.inl hx)), sv_ok fun x hx => h x (.inl (.inr hx)), trivial, trivial, trivial, sv_ok fun x hx => h x (.inr hx), trivial⟩
theorem real_rn {f : Nat → Nm} {n : Nm} (h : 1 ≤ n.1) : rnN f n = n := by unfold rnN; rw [if_neg]; omega
theorem real_ok {m : Nat} {L : List Nm} {n : Nm} (h : 1 ≤ n.1) (hL : n ∈ L) : nmOK m L n := by unfold nmOK; rw [if_neg (by omega)]; exact hL

/-- What a method leaves of the parser's state, and answers. -/
def PR (p : Nm) (T0 : List Nm) (y : AV) (x : Pp) : AV → Hp → List Nm → Prop := fun r H T =>
  ∃ s : Ps, s.x = x ∧ s.ok ∧ r = y ∧ H = [(p, .cells s.c)] ∧ T = s.toks ∧ ∀ t ∈ s.toks, t ∈ T0 ∨ (t.1 = 0 ∧ t.2.1 = 0)

theorem idx_of {l : List Nm} {t : Nm} : t ∈ l → ∃ j, j < l.length ∧ l.getD j (0, 0, 0) = t := fun h => by
  obtain ⟨j, hj, e⟩ := List.getElem_of_mem h
  exact ⟨j, hj, by rw [List.getD_eq_getElem?_getD, List.getElem?_eq_getElem hj]; exact e⟩

/-- The names of a state, told as a caller may take them. -/
theorem Ps.told {us : List Nm} {T0 : List Nm} (hT0 : ∀ t ∈ T0, 1 ≤ t.1) (s : Ps) (h : ∀ t ∈ s.toks, t ∈ T0 ∨ t ∈ us) (hok : s.ok) :
    ∃ s' : Ps, s'.x = s.x ∧ s'.ok ∧ s'.rn (fun j => us.getD j (0, 0, 0)) = s ∧ ∀ t ∈ s'.toks, t ∈ T0 ∨ (t.1 = 0 ∧ t.2.1 = 0 ∧ t.2.2 < us.length) := by
  have one : ∀ t : Nm, t ∈ T0 ∨ t ∈ us → ∃ t' : Nm, rnN (fun j => us.getD j (0, 0, 0)) t' = t ∧ (t' ∈ T0 ∨ (t'.1 = 0 ∧ t'.2.1 = 0 ∧ t'.2.2 < us.length)) := fun t ht => by
    rcases ht with ht | ht
    · exact ⟨t, real_rn (hT0 t ht), .inl ht⟩
    · obtain ⟨j, hj, e⟩ := idx_of ht
      exact ⟨(0, 0, j), by simp only [rnN, and_self, if_true]; exact e, .inr ⟨rfl, rfl, hj⟩⟩
  have opt : ∀ o : Option Nm, (∀ t ∈ o.toList, t ∈ T0 ∨ t ∈ us) → ∃ o' : Option Nm, o'.map (rnN fun j => us.getD j (0, 0, 0)) = o ∧ ∀ t ∈ o'.toList, t ∈ T0 ∨ (t.1 = 0 ∧ t.2.1 = 0 ∧ t.2.2 < us.length) := fun o ho => by
    cases o with
    | none => exact ⟨none, rfl, by simp⟩
    | some t =>
      obtain ⟨t', h1, h2⟩ := one t (ho t (by simp))
      exact ⟨some t', by rw [Option.map_some, h1], by simpa using h2⟩
  simp only [Ps.toks, List.mem_append] at h
  obtain ⟨a, a1, a2⟩ := opt s.tt fun t ht => h t (.inl (.inl ht))
  obtain ⟨b, b1, b2⟩ := opt s.dt fun t ht => h t (.inl (.inr ht))
  obtain ⟨c, c1, c2⟩ := opt s.ot fun t ht => h t (.inr ht)
  have e : (⟨s.x, a, b, c⟩ : Ps).rn (fun j => us.getD j (0, 0, 0)) = s := by
    simp only [Ps.rn, a1, b1, c1]
  refine ⟨⟨s.x, a, b, c⟩, rfl, ⟨?_, fun h => hok.t ?_, fun h => hok.d ?_, fun h => hok.o ?_⟩, e, fun t ht => ?_⟩
  · have := hok.nd
    rw [← e, Ps.toks_rn] at this
    exact (List.pairwise_map.1 this).imp fun h e => h (congrArg _ e)
  · rw [← a1, show a = none from h]; rfl
  · rw [← b1, show b = none from h]; rfl
  · rw [← c1, show c = none from h]; rfl
  · simp only [Ps.toks, List.mem_append] at ht
    rcases ht with (ht | ht) | ht
    · exact a2 t ht
    · exact b2 t ht
    · exact c2 t ht

/-- A method's end. -/
theorem PR.ret {rs : List IRes} {p : Nm} {hb : HB} {T0 : List Nm} {y : AV} {γ : Nat} {s : St} (s' : Ps) (h : resOf s rs = some y) (hy : ∀ f, Ab.rn f y = y) (oy : ∀ m L T, AV.okIn m L T y) (hp : 1 ≤ p.1) (hT0 : ∀ t ∈ T0, 1 ≤ t.1) (hH : (p, .cells s'.c) ∈ s.H) (hok : s'.ok)
    (hT : ∀ t ∈ s'.toks, s.T t ∧ (t ∈ T0 ∨ γ ≤ t.1)) : ∃ r H1 T1, PR p T0 y s'.x r H1 T1 ∧ Ret rs [(p, hb)] T0 r H1 T1 γ s := by
  obtain ⟨us, hus⟩ : ∃ us, us = s'.toks.filter fun t => !T0.contains t := ⟨_, rfl⟩
  obtain ⟨q, q1, q2, q3, q4⟩ := Ps.told (us := us) hT0 s' (fun t ht => by
    by_cases h : t ∈ T0
    · exact .inl h
    · exact .inr (by rw [hus]; simp [ht, h])) hok
  refine ⟨y, [(p, .cells q.c)], q.toks, ⟨q, q1, q2, rfl, rfl, rfl, fun t ht => (q4 t ht).imp id fun h => ⟨h.1, h.2.1⟩⟩, us, by rw [hus]; exact hok.nd.filter _, fun n hn => ?_, by rw [hy]; exact h, fun n hn => ?_, fun t ht => ?_, oy _ _ _, fun n hn => ?_, fun t ht => ?_⟩
  · rw [hus] at hn
    obtain ⟨h1, h2⟩ := List.mem_filter.1 hn
    rcases (hT n h1).2 with h3 | h3
    · simp [h3] at h2
    · exact h3
  · simp only [rnH, List.map_cons, List.map_nil, List.mem_singleton] at hn
    subst hn
    rw [real_rn hp, Ps.c_rn, q3]
    exact hH
  · have : rnN (fun j => us.getD j (0, 0, 0)) t ∈ s'.toks := by
      rw [← q3, Ps.toks_rn]; exact List.mem_map.2 ⟨t, ht, rfl⟩
    exact (hT _ this).1
  · simp only [List.mem_singleton] at hn
    subst hn
    refine ⟨real_ok hp (by simp), Ps.okc fun t ht => ?_⟩
    rcases q4 t ht with h | ⟨h1, h2, h3⟩
    · exact real_ok (hT0 t h) h
    · unfold nmOK; rw [if_pos ⟨h1, h2⟩]; exact h3
  · rcases q4 t ht with h | ⟨h1, h2, h3⟩
    · exact real_ok (hT0 t h) h
    · unfold nmOK; rw [if_pos ⟨h1, h2⟩]; exact h3

/-- A call of a method: behind it the state is as the contract says. -/
theorem PR.callI {Gl : Gh → Prop} {k : FuncId} {p : Nm} {args : List AV} {Ha : Hp} {s : Ps} {y : AV} {x : Pp} {T : Tk} {γ i : Nat} {K : AV → Hp → Tk → Prop} (h : FSR Tryd.prog Gl k args [(p, .cells s.c)] s.toks (PR p s.toks y x)) (hp : 1 ≤ p.1) (hy : ∀ f, Ab.rn f y = y) (hγ : 1 ≤ γ)
    (hT : ∀ t ∈ s.toks, T t) (hr : ∀ t ∈ s.toks, 1 ≤ t.1 ∧ ∀ j, t ≠ (γ, i, j)) (hap : ∀ q ∈ Ha, p ≠ q.1)
    (hK : ∀ s' : Ps, s'.x = x → s'.ok → (∀ t ∈ s'.toks, 1 ≤ t.1 ∧ (t ∈ s.toks ∨ (t.1 = γ ∧ t.2.1 = i))) → K y (Ha ++ [(p, .cells s'.c)]) (· ∈ s'.toks)) : CallP Tryd.prog Gl k args (Ha ++ [(p, .cells s.c)]) T (fun j => (γ, i, j)) K := by
  refine ⟨_, _, _, h, fun _ h => List.mem_append.2 (.inr h), hT, ?_⟩
  rintro r H1 T1 ⟨s', rfl, hok, rfl, rfl, rfl, ht⟩
  have hf : ∀ t ∈ s'.toks, (t ∈ s.toks ∧ rnN (fun j => (γ, i, j)) t = t) ∨ (t.1 = 0 ∧ t.2.1 = 0 ∧ rnN (fun j => (γ, i, j)) t = (γ, i, t.2.2)) := fun t h => by
    rcases ht t h with h | ⟨h1, h2⟩
    · exact .inl ⟨h, real_rn (hr t h).1⟩
    · exact .inr ⟨h1, h2, by simp only [rnN]; rw [if_pos ⟨h1, h2⟩]⟩
  have hmem : ∀ t ∈ (s'.rn fun j => (γ, i, j)).toks, 1 ≤ t.1 ∧ (t ∈ s.toks ∨ (t.1 = γ ∧ t.2.1 = i)) := fun t h => by
    rw [Ps.toks_rn] at h
    obtain ⟨u, hu, rfl⟩ := List.mem_map.1 h
    rcases hf u hu with ⟨h1, h2⟩ | ⟨h1, h2, h3⟩
    · rw [h2]; exact ⟨(hr u h1).1, .inl h1⟩
    · rw [h3]; exact ⟨hγ, .inr ⟨rfl, rfl⟩⟩
  refine ⟨Ha ++ [(p, .cells (s'.rn fun j => (γ, i, j)).c)], (· ∈ (s'.rn fun j => (γ, i, j)).toks), fun q hq => ?_, fun t h => .inl (by rw [Ps.toks_rn] at h; exact h), ?_⟩
  · rcases List.mem_append.1 hq with hq | hq
    · exact List.mem_append.2 (.inr (keep_ahead (fun q hq u hu => by simp only [List.mem_singleton] at hu; subst hu; exact hap q hq) q hq))
    · refine List.mem_append.2 (.inl ?_)
      simp only [rnH, List.map_cons, List.map_nil, real_rn hp, Ps.c_rn]
      exact hq
  · rw [hy]
    refine hK _ rfl ⟨?_, fun h => hok.t ?_, fun h => hok.d ?_, fun h => hok.o ?_⟩ hmem
    · rw [Ps.toks_rn]
      refine List.pairwise_map.2 (hok.nd.imp_of_mem fun {a b} ha hb hne e => ?_)
      rcases hf a ha with ⟨a1, a2⟩ | ⟨a1, a2, a3⟩ <;> rcases hf b hb with ⟨b1, b2⟩ | ⟨b1, b2, b3⟩
      · rw [a2, b2] at e; exact hne e
      · rw [a2, b3] at e; exact (hr a a1).2 _ e
      · rw [a3, b2] at e; exact (hr b b1).2 _ e.symm
      · rw [a3, b3] at e
        simp only [Prod.mk.injEq, true_and] at e
        exact hne (Prod.ext (a1.trans b1.symm) (Prod.ext (a2.trans b2.symm) e))
    · simpa [Ps.rn] using h
    · simpa [Ps.rn] using h
    · simpa [Ps.rn] using h

theorem PR.callA {Gl : Gh → Prop} {k : FuncId} {p : Nm} {args : List AV} {Ha : Hp} {s : Ps} {y : AV} {x : Pp} {T : Tk} {γ i : Nat} {K : AV → Hp → Tk → Prop} (h : FSR Tryd.prog Gl k args [(p, .cells s.c)] s.toks (PR p s.toks y x)) (hp : 1 ≤ p.1) (hy : ∀ f, Ab.rn f y = y) (hγ : 1 ≤ γ)
    (hT : ∀ t ∈ s.toks, T t) (hr : ∀ t ∈ s.toks, 1 ≤ t.1 ∧ ∀ j, t ≠ (γ, i, j)) (hap : ∀ q ∈ Ha, p ≠ q.1)
    (hK : ∀ s' : Ps, s'.x = x → s'.ok → (∀ t ∈ s'.toks, 1 ≤ t.1 ∧ (t ∈ s.toks ∨ t.1 = γ)) → K y (Ha ++ [(p, .cells s'.c)]) (· ∈ s'.toks)) : CallP Tryd.prog Gl k args (Ha ++ [(p, .cells s.c)]) T (fun j => (γ, i, j)) K :=
  PR.callI h hp hy hγ hT hr hap fun s' a b c => hK s' a b fun t h => ⟨(c t h).1, (c t h).2.imp _root_.id And.left⟩
theorem PR.call {Gl : Gh → Prop} {k : FuncId} {p : Nm} {args : List AV} {s : Ps} {y : AV} {x : Pp} {T : Tk} {γ i : Nat} {K : AV → Hp → Tk → Prop} (h : FSR Tryd.prog Gl k args [(p, .cells s.c)] s.toks (PR p s.toks y x)) (hp : 1 ≤ p.1) (hy : ∀ f, Ab.rn f y = y) (hγ : 1 ≤ γ)
    (hT : ∀ t ∈ s.toks, T t) (hr : ∀ t ∈ s.toks, 1 ≤ t.1 ∧ ∀ j, t ≠ (γ, i, j))
    (hK : ∀ s' : Ps, s'.x = x → s'.ok → (∀ t ∈ s'.toks, 1 ≤ t.1 ∧ (t ∈ s.toks ∨ t.1 = γ)) → K y [(p, .cells s'.c)] (· ∈ s'.toks)) : CallP Tryd.prog Gl k args [(p, .cells s.c)] T (fun j => (γ, i, j)) K :=
  PR.callA (Ha := []) h hp hy hγ hT hr (by simp) hK

def Pp.zero : Pp := ⟨none, 0, 0, [], 0, [], [], false, false, false, []⟩
def Pp.drop (x : Pp) : Pp := { Pp.zero with ou := x.ou }
theorem fs_drop {Gl : Gh → Prop} (hst : Stays Gl) {p : Nm} (hp : 1 ≤ p.1) {s : Ps} (hok : s.ok) (ht : ∀ t ∈ s.toks, 1 ≤ t.1) : FSR Tryd.prog Gl 18 [.ptr p 0] [(p, .cells s.c)] s.toks (PR p s.toks (.tup []) s.x.drop) := by
  refine FSR.of hm hst is_hostParserdrop (by simp) fun γ hγ hfr => ?_
  (generalize hQ : (fun (ex : Ex) (_ _ : Nat) (s : St) => _) = Q; unfold ir_hostParserdrop)
  simp only [Ps.c]
  simp +contextual (maxSteps := 1000000) only [go_sem, reduceCtorEq, ↓reduceIte, Nat.reduceAdd, Nat.reduceEqDiff, Nat.reduceLeDiff, Nat.reduceMul, Nat.reduceBEq, Int.reduceBEq, Int.reduceBNe, Int.reduceLT, Int.reduceLE, Int.reduceGT, Int.reduceGE, Int.reduceToNat, Int.natCast_one, Int.natCast_zero, Int.cast_ofNat_Int]
  rw [← hQ]
  refine ⟨trivial, PR.ret ⟨s.x.drop, none, none, s.ot⟩ rfl (fun _ => rfl) (fun _ _ _ => trivial) hp ht (by simp [Ps.c, Pp.drop, Pp.zero, sv, nxv, bytesAV]) ⟨?_, fun _ => rfl, fun _ => rfl, hok.o⟩ fun t htt => ?_⟩
  · have := hok.nd; simp only [Ps.toks, Option.toList_none, List.nil_append] at this ⊢
    exact (List.nodup_append.1 this).2.1
  · have : t ∈ s.toks := by
      simp only [Ps.toks, Option.toList_none, List.nil_append, List.mem_append] at htt ⊢
      exact .inr htt
    exact ⟨this, .inl this⟩
end Go.Proofs.YtgdgfefojfgpaaaDoor
