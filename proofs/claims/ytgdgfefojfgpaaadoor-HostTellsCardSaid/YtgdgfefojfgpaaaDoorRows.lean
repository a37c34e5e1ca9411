/-
  NARROWER THAN 'FOR EVERY INPUT', by the rows' own cells (each row's printed sentence says how): HostCuts: laid · HostTells: laid · HostDrops: laid · HostLong: laid.
  DERIVED. THE GIVEN ROWS OF THIS SEAT. 4 by the template 'for every input the law returns true; each argument reads behind the call as it read before'; 0 by the template 'total and deterministic' (their statements: YtgdgfefojfgpaaaDoorTotals.lean).
  GIVEN WITH THE SEED: the statements are not yours to turn. If you find one false, say at which input.
  Laid BY PROGRAM, IN A SANDBOX (cutbox-rows.mjs): the forced cells as the released guide's own fill.sh prints them over the translation 99fcf4e188af6a4e… (all of the seat's roots in one cut). By AI agents, Wed Nov 11 2026. No macro, syntax, notation, axiom, sorry.
-/
import Derived.Test.YtgdgfefojfgpaaaDoorChecked
import GoSem.PinnedTables
import GoSem.Claim
import GoSem.ClaimJoined
import GoSem.ClaimMapViews
import Derived.JoinedTies
import Derived.KernelRfl
namespace Go.Proofs.YtgdgfefojfgpaaaDoor
/- THE CELL 'sum', in the pinned program and in every row, IS THE sha256 OF THE DUMP (.gsa) THAT YtgdgfefojfgpaaaDoorProg.lean LOADS. Nothing in Lean hashes anything: it is a label: what it is worth is what the hold of that sum in a sandbox is worth. -/
noncomputable def Tryd.pinned : Pinned := { name := "ytgdgfefojfgpaaadoor", sum := "99fcf4e188af6a4e16c26542d01970113e3be86a9660ccc061a71da1410eeff0", checked := Tryd.checked }
namespace Rows
def none {H : Type} : Left H := { results := [], args := [] }

/- WHAT THE LISTED PACKAGE-LEVEL VARIABLES READ AS WHEN THE CALL BEGINS. Each datum BY PROGRAM (the guide's laid-datum.mjs) off the statement by which the dump's own 'gosem.cut.vars' lays the variable. In a bare row this is a premise. The card (YtgdgfefojfgpaaaDoorCards.lean) ties it to the program's text. -/
def laid_unicode_utf8_acceptRanges {H : Type} : DataW H := .agg [.agg [.lit (.int .u8 128), .lit (.int .u8 191)], .agg [.lit (.int .u8 160), .lit (.int .u8 191)], .agg [.lit (.int .u8 128), .lit (.int .u8 159)], .agg [.lit (.int .u8 144), .lit (.int .u8 191)], .agg [.lit (.int .u8 128), .lit (.int .u8 143)], .agg [.lit (.int .u8 0), .lit (.int .u8 0)], .agg [.lit (.int .u8 0), .lit (.int .u8 0)], .agg [.lit (.int .u8 0), .lit (.int .u8 0)], .agg [.lit (.int .u8 0), .lit (.int .u8 0)], .agg [.lit (.int .u8 0), .lit (.int .u8 0)], .agg [.lit (.int .u8 0), .lit (.int .u8 0)], .agg [.lit (.int .u8 0), .lit (.int .u8 0)], .agg [.lit (.int .u8 0), .lit (.int .u8 0)], .agg [.lit (.int .u8 0), .lit (.int .u8 0)], .agg [.lit (.int .u8 0), .lit (.int .u8 0)], .agg [.lit (.int .u8 0), .lit (.int .u8 0)]]
/-- One of Go's own tables, pinned by name: the form's constant. -/
def laid_unicode_utf8_first : DataW Unit := Go.Pinned.utf8First

/-- 'clavierlaw05.HostCuts': WHATEVER THE INPUT: true; the input reads as it did. -/
def hostCutsSpec : ChangeSpec := { name := "hostCuts", fn := fun _ => fun
  | [d1, d2] => { results := [.lit (.bool true)], args := [d1, d2] }
  | _ => none }
def hostCutsRow : OpenClaim := { program := "ytgdgfefojfgpaaadoor", sum := "99fcf4e188af6a4e16c26542d01970113e3be86a9660ccc061a71da1410eeff0", func := "clavier/clavierlaw05.HostCuts", spec := "hostCuts", inPlace := ["internal/bytealg.IndexByteString", "internal/bytealg.IndexString"], unfollowed := true, recurses := true, named := ["unicode/utf8.first", "unicode/utf8.acceptRanges", "internal/bytealg.MaxLen"], apart := false, laid := [("unicode/utf8.acceptRanges", laid_unicode_utf8_acceptRanges), ("unicode/utf8.first", laid_unicode_utf8_first)] }
def HostCutsSaid : Prop := hostCutsRow.holds Tryd.pinned (OpenSpec.ofChange hostCutsSpec)

/-- ITS FALSE NEIGHBOUR: 'it returns false'. Refute it at one input. -/
def hostCutsWrong : ChangeSpec := { name := "hostCuts", fn := fun _ => fun
  | [d1, d2] => { results := [.lit (.bool false)], args := [d1, d2] }
  | _ => none }
def HostCutsWrongFalsely : Prop := hostCutsRow.holds Tryd.pinned (OpenSpec.ofChange hostCutsWrong)

/-- 'clavierlaw05.HostTells': WHATEVER THE INPUT: true; the input reads as it did. -/
def hostTellsSpec : ChangeSpec := { name := "hostTells", fn := fun _ => fun
  | [d1, d2] => { results := [.lit (.bool true)], args := [d1, d2] }
  | _ => none }
def hostTellsRow : OpenClaim := { program := "ytgdgfefojfgpaaadoor", sum := "99fcf4e188af6a4e16c26542d01970113e3be86a9660ccc061a71da1410eeff0", func := "clavier/clavierlaw05.HostTells", spec := "hostTells", inPlace := ["internal/bytealg.IndexByteString", "internal/bytealg.IndexString"], unfollowed := true, recurses := true, named := ["unicode/utf8.first", "unicode/utf8.acceptRanges", "internal/bytealg.MaxLen"], apart := false, laid := [("unicode/utf8.acceptRanges", laid_unicode_utf8_acceptRanges), ("unicode/utf8.first", laid_unicode_utf8_first)] }
def HostTellsSaid : Prop := hostTellsRow.holds Tryd.pinned (OpenSpec.ofChange hostTellsSpec)

/-- ITS FALSE NEIGHBOUR: 'it returns false'. Refute it at one input. -/
def hostTellsWrong : ChangeSpec := { name := "hostTells", fn := fun _ => fun
  | [d1, d2] => { results := [.lit (.bool false)], args := [d1, d2] }
  | _ => none }
def HostTellsWrongFalsely : Prop := hostTellsRow.holds Tryd.pinned (OpenSpec.ofChange hostTellsWrong)

/-- 'clavierlaw05.HostDrops': WHATEVER THE INPUT: true; the input reads as it did. -/
def hostDropsSpec : ChangeSpec := { name := "hostDrops", fn := fun _ => fun
  | [d1, d2, d3] => { results := [.lit (.bool true)], args := [d1, d2, d3] }
  | _ => none }
def hostDropsRow : OpenClaim := { program := "ytgdgfefojfgpaaadoor", sum := "99fcf4e188af6a4e16c26542d01970113e3be86a9660ccc061a71da1410eeff0", func := "clavier/clavierlaw05.HostDrops", spec := "hostDrops", inPlace := ["internal/bytealg.IndexByteString", "internal/bytealg.IndexString"], unfollowed := true, recurses := true, named := ["unicode/utf8.first", "unicode/utf8.acceptRanges", "internal/bytealg.MaxLen"], apart := false, laid := [("unicode/utf8.acceptRanges", laid_unicode_utf8_acceptRanges), ("unicode/utf8.first", laid_unicode_utf8_first)] }
def HostDropsSaid : Prop := hostDropsRow.holds Tryd.pinned (OpenSpec.ofChange hostDropsSpec)

/-- ITS FALSE NEIGHBOUR: 'it returns false'. Refute it at one input. -/
def hostDropsWrong : ChangeSpec := { name := "hostDrops", fn := fun _ => fun
  | [d1, d2, d3] => { results := [.lit (.bool false)], args := [d1, d2, d3] }
  | _ => none }
def HostDropsWrongFalsely : Prop := hostDropsRow.holds Tryd.pinned (OpenSpec.ofChange hostDropsWrong)

/-- 'clavierlaw05.HostLong': WHATEVER THE INPUT: true; the input reads as it did. -/
def hostLongSpec : ChangeSpec := { name := "hostLong", fn := fun _ => fun
  | [d1, d2] => { results := [.lit (.bool true)], args := [d1, d2] }
  | _ => none }
def hostLongRow : OpenClaim := { program := "ytgdgfefojfgpaaadoor", sum := "99fcf4e188af6a4e16c26542d01970113e3be86a9660ccc061a71da1410eeff0", func := "clavier/clavierlaw05.HostLong", spec := "hostLong", inPlace := ["internal/bytealg.IndexByteString", "internal/bytealg.IndexString"], unfollowed := true, recurses := true, named := ["unicode/utf8.first", "unicode/utf8.acceptRanges", "internal/bytealg.MaxLen"], apart := false, laid := [("unicode/utf8.acceptRanges", laid_unicode_utf8_acceptRanges), ("unicode/utf8.first", laid_unicode_utf8_first)] }
def HostLongSaid : Prop := hostLongRow.holds Tryd.pinned (OpenSpec.ofChange hostLongSpec)

/-- ITS FALSE NEIGHBOUR: 'it returns false'. Refute it at one input. -/
def hostLongWrong : ChangeSpec := { name := "hostLong", fn := fun _ => fun
  | [d1, d2] => { results := [.lit (.bool false)], args := [d1, d2] }
  | _ => none }
def HostLongWrongFalsely : Prop := hostLongRow.holds Tryd.pinned (OpenSpec.ofChange hostLongWrong)

/- THE SECOND FORM. 'bulk': how many values and letters a reading holds, each counted each time it is reached (what is shared counts as often as it is met; a slice's spare places count too). A statement '..UptoSaid' is the law's where the arguments, and the package variables that the reading takes, are together of bulk at most 1048576: NARROWER than '..Said'. Prove '..Said' where nothing that the law and all that it calls make is longer than what came in: it says more and counts as full. Else prove '..UptoSaid'. A law counts once. -/
mutual
def uptoBulk {H : Type} : DataW H → Nat
  | .lit (.string bytes) => bytes.length + 1
  | .lit _ => 1
  | .nil => 1
  | .ptr d => uptoBulk d + 1
  | .slice elems spare => uptoBulkAll elems + uptoBulkAll spare + 1
  | .agg parts => uptoBulkAll parts + 1
  | .iface _ d => uptoBulk d + 1
  | .map entries => uptoBulkEntries entries + 1
  | .held _ => 1
def uptoBulkAll {H : Type} : List (DataW H) → Nat
  | [] => 0
  | d :: r => uptoBulk d + uptoBulkAll r
def uptoBulkEntries {H : Type} : List (Lit × DataW H) → Nat
  | [] => 0
  | x :: r => uptoBulkEntry x + uptoBulkEntries r
def uptoBulkEntry {H : Type} : Lit × DataW H → Nat
  | (.string bytes, d) => bytes.length + uptoBulk d + 1
  | (_, d) => uptoBulk d + 1
 end
def uptoSmall : (H : Type) → List (DataW H) → Bool := fun _ ds => decide (uptoBulkAll ds ≤ 1048576)
def OpenSpec.upto (s : _root_.Go.ChangeSpec) : _root_.Go.OpenSpec := { _root_.Go.OpenSpec.ofChange s with cond := some uptoSmall }

/-- 'clavierlaw05.HostCuts', WHERE WHAT IT READS IS OF BULK AT MOST 1048576: true; the input reads as it did. -/
def hostCutsUptoRow : OpenClaim := { program := "ytgdgfefojfgpaaadoor", sum := "99fcf4e188af6a4e16c26542d01970113e3be86a9660ccc061a71da1410eeff0", func := "clavier/clavierlaw05.HostCuts", spec := "hostCuts", inPlace := ["internal/bytealg.IndexByteString", "internal/bytealg.IndexString"], unfollowed := true, recurses := true, named := ["unicode/utf8.first", "unicode/utf8.acceptRanges", "internal/bytealg.MaxLen"], apart := false, laid := [("unicode/utf8.acceptRanges", laid_unicode_utf8_acceptRanges), ("unicode/utf8.first", laid_unicode_utf8_first)], narrowed := true }
def HostCutsUptoSaid : Prop := hostCutsUptoRow.holds Tryd.pinned (OpenSpec.upto hostCutsSpec)

/-- 'clavierlaw05.HostTells', WHERE WHAT IT READS IS OF BULK AT MOST 1048576: true; the input reads as it did. -/
def hostTellsUptoRow : OpenClaim := { program := "ytgdgfefojfgpaaadoor", sum := "99fcf4e188af6a4e16c26542d01970113e3be86a9660ccc061a71da1410eeff0", func := "clavier/clavierlaw05.HostTells", spec := "hostTells", inPlace := ["internal/bytealg.IndexByteString", "internal/bytealg.IndexString"], unfollowed := true, recurses := true, named := ["unicode/utf8.first", "unicode/utf8.acceptRanges", "internal/bytealg.MaxLen"], apart := false, laid := [("unicode/utf8.acceptRanges", laid_unicode_utf8_acceptRanges), ("unicode/utf8.first", laid_unicode_utf8_first)], narrowed := true }
def HostTellsUptoSaid : Prop := hostTellsUptoRow.holds Tryd.pinned (OpenSpec.upto hostTellsSpec)

/-- 'clavierlaw05.HostDrops', WHERE WHAT IT READS IS OF BULK AT MOST 1048576: true; the input reads as it did. -/
def hostDropsUptoRow : OpenClaim := { program := "ytgdgfefojfgpaaadoor", sum := "99fcf4e188af6a4e16c26542d01970113e3be86a9660ccc061a71da1410eeff0", func := "clavier/clavierlaw05.HostDrops", spec := "hostDrops", inPlace := ["internal/bytealg.IndexByteString", "internal/bytealg.IndexString"], unfollowed := true, recurses := true, named := ["unicode/utf8.first", "unicode/utf8.acceptRanges", "internal/bytealg.MaxLen"], apart := false, laid := [("unicode/utf8.acceptRanges", laid_unicode_utf8_acceptRanges), ("unicode/utf8.first", laid_unicode_utf8_first)], narrowed := true }
def HostDropsUptoSaid : Prop := hostDropsUptoRow.holds Tryd.pinned (OpenSpec.upto hostDropsSpec)

/-- 'clavierlaw05.HostLong', WHERE WHAT IT READS IS OF BULK AT MOST 1048576: true; the input reads as it did. -/
def hostLongUptoRow : OpenClaim := { program := "ytgdgfefojfgpaaadoor", sum := "99fcf4e188af6a4e16c26542d01970113e3be86a9660ccc061a71da1410eeff0", func := "clavier/clavierlaw05.HostLong", spec := "hostLong", inPlace := ["internal/bytealg.IndexByteString", "internal/bytealg.IndexString"], unfollowed := true, recurses := true, named := ["unicode/utf8.first", "unicode/utf8.acceptRanges", "internal/bytealg.MaxLen"], apart := false, laid := [("unicode/utf8.acceptRanges", laid_unicode_utf8_acceptRanges), ("unicode/utf8.first", laid_unicode_utf8_first)], narrowed := true }
def HostLongUptoSaid : Prop := hostLongUptoRow.holds Tryd.pinned (OpenSpec.upto hostLongSpec)

end Rows
end Go.Proofs.YtgdgfefojfgpaaaDoor
