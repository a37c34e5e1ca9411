/-
  DERIVED. GIVEN WITH THE SEED: THE CARDS: each row of YtgdgfefojfgpaaaDoorRows.lean that lists a variable, with what it lists TIED to the program's text (the seventh form; the later family's looks); each row that meets fmt, with fmt's text TOLD by the authors' own Lean function (tested against real Go, not proved from fmt's source: count such statements apart). THE CARD IS WHAT COUNTS. Prove the row's statement (the work); the ties are given (YtgdgfefojfgpaaaDoorTie.lean); close each card by the builder's one call (the guide's Derived/Test/ToyasCard.lean, 'card_holds'). Laid BY PROGRAM, IN A SANDBOX (cutbox-door.mjs). By AI agents, Wed Nov 11 2026. No macro, syntax, notation, axiom, sorry.
-/
import Derived.Test.YtgdgfefojfgpaaaDoorRows
import GoSem.ClaimSeven
namespace Go.Proofs.YtgdgfefojfgpaaaDoor
namespace Rows

/-- THE TIED CARD OF 'clavierlaw05.HostCuts'. -/
def hostCutsCard : Claim7 := { stood := { row := hostCutsRow, standIns := [], harness := (true, "41df13219102132d5981274d5999c4c456ba83c15937a58b07e50990d07adbe2"), looks := false }, kinds := [], alts := [], laidByText := true, laidKinds := [.data, .pinned], laidTests := true, laidLooks := .later }
def HostCutsCardSaid : Prop := Claim7.holds Tryd.pinned (.plain (OpenSpec.ofChange hostCutsSpec)) hostCutsCard

/-- THE TIED CARD OF 'clavierlaw05.HostTells'. -/
def hostTellsCard : Claim7 := { stood := { row := hostTellsRow, standIns := [], harness := (true, "41df13219102132d5981274d5999c4c456ba83c15937a58b07e50990d07adbe2"), looks := false }, kinds := [], alts := [], laidByText := true, laidKinds := [.data, .pinned], laidTests := true, laidLooks := .later }
def HostTellsCardSaid : Prop := Claim7.holds Tryd.pinned (.plain (OpenSpec.ofChange hostTellsSpec)) hostTellsCard

/-- THE TIED CARD OF 'clavierlaw05.HostDrops'. -/
def hostDropsCard : Claim7 := { stood := { row := hostDropsRow, standIns := [], harness := (true, "41df13219102132d5981274d5999c4c456ba83c15937a58b07e50990d07adbe2"), looks := false }, kinds := [], alts := [], laidByText := true, laidKinds := [.data, .pinned], laidTests := true, laidLooks := .later }
def HostDropsCardSaid : Prop := Claim7.holds Tryd.pinned (.plain (OpenSpec.ofChange hostDropsSpec)) hostDropsCard

/-- THE TIED CARD OF 'clavierlaw05.HostLong'. -/
def hostLongCard : Claim7 := { stood := { row := hostLongRow, standIns := [], harness := (true, "41df13219102132d5981274d5999c4c456ba83c15937a58b07e50990d07adbe2"), looks := false }, kinds := [], alts := [], laidByText := true, laidKinds := [.data, .pinned], laidTests := true, laidLooks := .later }
def HostLongCardSaid : Prop := Claim7.holds Tryd.pinned (.plain (OpenSpec.ofChange hostLongSpec)) hostLongCard

/-- THE SECOND FORM's CARD OF 'clavierlaw05.HostCuts'. -/
def hostCutsUptoCard : Claim7 := { stood := { row := hostCutsUptoRow, standIns := [], harness := (true, "41df13219102132d5981274d5999c4c456ba83c15937a58b07e50990d07adbe2"), looks := false }, kinds := [], alts := [], laidByText := true, laidKinds := [.data, .pinned], laidTests := true, laidLooks := .later }
def HostCutsUptoCardSaid : Prop := Claim7.holds Tryd.pinned (.plain (OpenSpec.upto hostCutsSpec)) hostCutsUptoCard

/-- THE SECOND FORM's CARD OF 'clavierlaw05.HostTells'. -/
def hostTellsUptoCard : Claim7 := { stood := { row := hostTellsUptoRow, standIns := [], harness := (true, "41df13219102132d5981274d5999c4c456ba83c15937a58b07e50990d07adbe2"), looks := false }, kinds := [], alts := [], laidByText := true, laidKinds := [.data, .pinned], laidTests := true, laidLooks := .later }
def HostTellsUptoCardSaid : Prop := Claim7.holds Tryd.pinned (.plain (OpenSpec.upto hostTellsSpec)) hostTellsUptoCard

/-- THE SECOND FORM's CARD OF 'clavierlaw05.HostDrops'. -/
def hostDropsUptoCard : Claim7 := { stood := { row := hostDropsUptoRow, standIns := [], harness := (true, "41df13219102132d5981274d5999c4c456ba83c15937a58b07e50990d07adbe2"), looks := false }, kinds := [], alts := [], laidByText := true, laidKinds := [.data, .pinned], laidTests := true, laidLooks := .later }
def HostDropsUptoCardSaid : Prop := Claim7.holds Tryd.pinned (.plain (OpenSpec.upto hostDropsSpec)) hostDropsUptoCard

/-- THE SECOND FORM's CARD OF 'clavierlaw05.HostLong'. -/
def hostLongUptoCard : Claim7 := { stood := { row := hostLongUptoRow, standIns := [], harness := (true, "41df13219102132d5981274d5999c4c456ba83c15937a58b07e50990d07adbe2"), looks := false }, kinds := [], alts := [], laidByText := true, laidKinds := [.data, .pinned], laidTests := true, laidLooks := .later }
def HostLongUptoCardSaid : Prop := Claim7.holds Tryd.pinned (.plain (OpenSpec.upto hostLongSpec)) hostLongUptoCard
end Rows
end Go.Proofs.YtgdgfefojfgpaaaDoor
