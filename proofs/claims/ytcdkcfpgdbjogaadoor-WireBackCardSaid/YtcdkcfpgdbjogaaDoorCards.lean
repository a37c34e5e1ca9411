/-
  DERIVED. GIVEN WITH THE SEED: THE CARDS: each row of YtcdkcfpgdbjogaaDoorRows.lean that lists a variable, with what it lists TIED to the program's text (the seventh form; the later family's looks); each row that meets fmt, with fmt's text TOLD by the authors' own Lean function (tested against real Go, not proved from fmt's source: count such statements apart). THE CARD IS WHAT COUNTS. Prove the row's statement (the work); the ties are given (YtcdkcfpgdbjogaaDoorTie.lean); close each card by the builder's one call (the guide's Derived/Test/ToyasCard.lean, 'card_holds'). Laid BY PROGRAM, IN A SANDBOX (cutbox-door.mjs). By AI agents, Wed Nov 11 2026. No macro, syntax, notation, axiom, sorry.
-/
import Derived.Test.YtcdkcfpgdbjogaaDoorRows
import GoSem.ClaimSeven
namespace Go.Proofs.YtcdkcfpgdbjogaaDoor
namespace Rows

/-- THE TIED CARD OF 'clavierlaw03.WirePuts'. -/
def wirePutsCard : Claim7 := { stood := { row := wirePutsRow, standIns := [], harness := (true, "d5292084b9ab7f77eb3202276cc8c4e6c0a8445b269373b2eae56c37e354ddd0"), looks := false }, kinds := [], alts := [], laidByText := true, laidKinds := [.data, .data, .data, .data, .pinned], laidTests := true, laidLooks := .later }
def WirePutsCardSaid : Prop := Claim7.holds Tryd.pinned (.plain (OpenSpec.ofChange wirePutsSpec)) wirePutsCard

/-- THE TIED CARD OF 'clavierlaw03.WireBack'. -/
def wireBackCard : Claim7 := { stood := { row := wireBackRow, standIns := [], harness := (true, "d5292084b9ab7f77eb3202276cc8c4e6c0a8445b269373b2eae56c37e354ddd0"), looks := false }, kinds := [], alts := [], laidByText := true, laidKinds := [.data, .data, .data, .data, .pinned], laidTests := true, laidLooks := .later }
def WireBackCardSaid : Prop := Claim7.holds Tryd.pinned (.plain (OpenSpec.ofChange wireBackSpec)) wireBackCard

/-- THE SECOND FORM's CARD OF 'clavierlaw03.WirePuts'. -/
def wirePutsUptoCard : Claim7 := { stood := { row := wirePutsUptoRow, standIns := [], harness := (true, "d5292084b9ab7f77eb3202276cc8c4e6c0a8445b269373b2eae56c37e354ddd0"), looks := false }, kinds := [], alts := [], laidByText := true, laidKinds := [.data, .data, .data, .data, .pinned], laidTests := true, laidLooks := .later }
def WirePutsUptoCardSaid : Prop := Claim7.holds Tryd.pinned (.plain (OpenSpec.upto wirePutsSpec)) wirePutsUptoCard

/-- THE SECOND FORM's CARD OF 'clavierlaw03.WireBack'. -/
def wireBackUptoCard : Claim7 := { stood := { row := wireBackUptoRow, standIns := [], harness := (true, "d5292084b9ab7f77eb3202276cc8c4e6c0a8445b269373b2eae56c37e354ddd0"), looks := false }, kinds := [], alts := [], laidByText := true, laidKinds := [.data, .data, .data, .data, .pinned], laidTests := true, laidLooks := .later }
def WireBackUptoCardSaid : Prop := Claim7.holds Tryd.pinned (.plain (OpenSpec.upto wireBackSpec)) wireBackUptoCard
end Rows
end Go.Proofs.YtcdkcfpgdbjogaaDoor
