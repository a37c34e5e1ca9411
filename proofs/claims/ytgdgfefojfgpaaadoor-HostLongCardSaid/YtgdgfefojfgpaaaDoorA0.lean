/- The data that the program handles, as values. -/
import Derived.Test.YtgdgfefojfgpaaaDoorChecked
import Derived.Test.YtgdgfefojfgpaaaDoorAb12
set_option linter.unusedVariables false
set_option linter.unusedSimpArgs false
namespace Go.Proofs.YtgdgfefojfgpaaaDoor
open Go Go.Ab
theorem hm : Tryd.prog.follows .mixedOrders = true := by kernel_rfl
def intsAV (l : List Int) : List (List AV) := l.map fun n => [.int .i64 n]
theorem intsAV_length (l : List Int) : (intsAV l).length = l.length := by simp [intsAV]
theorem intsAV_get {l : List Int} {i : Nat} (h : i < l.length) : (intsAV l).getD i [] = [.int .i64 l[i]] := by
  rw [List.getD_eq_getElem?_getD]; simp [intsAV, h]
/-- A slice of numbers, of parameters. -/
def intsV (l : List Int) : AV := .sl none 1 (intsAV l)
def parsAV (l : List (List Int)) : List (List AV) := l.map fun p => [intsV p]
def parsV (l : List (List Int)) : AV := .sl none 1 (parsAV l)
theorem parsAV_length (l : List (List Int)) : (parsAV l).length = l.length := by simp [parsAV]
theorem parsAV_get {l : List (List Int)} {i : Nat} (h : i < l.length) : (parsAV l).getD i [] = [intsV l[i]] := by
  rw [List.getD_eq_getElem?_getD]; simp [parsAV, h]
theorem bytesAV_length' (l : List UInt8) : (bytesAV l).length = l.length := by simp [bytesAV]
/-- A control sequence. -/
structure Sq where
  k : Int
  pr : Int
  ps : List (List Int)
  it : List UInt8
  fi : Int
  da : List UInt8
  deriving DecidableEq
def Sq.c (s : Sq) : List AV := [.int .i64 s.k, .int .u8 s.pr, parsV s.ps, .str s.it, .int .u8 s.fi, .str s.da]
theorem c_intsV (l : List Int) : (intsV l).cells = [intsV l] := rfl
theorem o_intsV (l : List Int) : (intsV l).one = true := rfl
theorem c_parsV (l : List (List Int)) : (parsV l).cells = [parsV l] := rfl
theorem o_parsV (l : List (List Int)) : (parsV l).one = true := rfl
theorem s_intsV (l : List Int) : (intsV l).strip = intsV l := rfl
theorem s_parsV (l : List (List Int)) : (parsV l).strip = parsV l := rfl
theorem cl_intsV (l : List Int) : (intsV l).closed = true := rfl
theorem cl_parsV (l : List (List Int)) : (parsV l).closed = true := rfl
attribute [go_sem] c_intsV o_intsV c_parsV o_parsV s_intsV s_parsV cl_intsV cl_parsV
/-- A slice with a token, or nil. -/
def sv (t : Option Nm) (sz : Nat) (rows : List (List AV)) : AV :=
  match t with
  | none => .nils
  | some t => .sl (some t) sz rows
theorem sv_one {t : Option Nm} {sz : Nat} {rows : List (List AV)} : (sv t sz rows).one = true := by cases t <;> rfl
theorem sv_cells {t : Option Nm} {sz : Nat} {rows : List (List AV)} : (sv t sz rows).cells = [sv t sz rows] := by cases t <;> rfl
theorem sv_none {sz : Nat} {rows : List (List AV)} : sv none sz rows = .nils := rfl
theorem sv_some {nm : Nm} {sz : Nat} {rows : List (List AV)} : sv (some nm) sz rows = .sl (some nm) sz rows := rfl
attribute [go_sem] sv_one sv_cells sv_none sv_some
end Go.Proofs.YtgdgfefojfgpaaaDoor
