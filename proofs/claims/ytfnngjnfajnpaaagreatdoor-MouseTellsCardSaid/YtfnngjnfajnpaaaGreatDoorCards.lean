/-
  DERIVED. GIVEN WITH THE SEED: THE CARDS: each row of YtfnngjnfajnpaaaGreatDoorRows.lean that lists a variable, with what it lists TIED to the program's text (the seventh form; the later family's looks); each row that meets fmt, with fmt's text TOLD by the authors' own Lean function (tested against real Go, not proved from fmt's source: count such statements apart). THE CARD IS WHAT COUNTS. Prove the row's statement (the work); the ties are given (YtfnngjnfajnpaaaGreatDoorTie.lean); close each card by the builder's one call (the guide's Derived/Test/ToyasCard.lean, 'card_holds'). Laid BY PROGRAM, IN A SANDBOX (cutbox-door.mjs). By AI agents, Wed Nov 11 2026. No macro, syntax, notation, axiom, sorry.
-/
import Derived.Test.YtfnngjnfajnpaaaGreatDoorRows
import GoSem.ClaimSeven
namespace Go.Proofs.YtfnngjnfajnpaaaGreatDoor
namespace Rows

/-- THE TIED CARD OF 'clavierlaw16.MouseTells'. -/
def mouseTellsCard : Claim7 := { stood := { row := mouseTellsRow, standIns := [], harness := (true, "715ddadf719795774c22bcdccab85b1173f2fb3bd7712983167ccdad950ea996"), looks := false }, kinds := [], alts := [], laidByText := true, laidKinds := [.data, .data, .data, .data, .pinned], laidTests := true, laidLooks := .later }
def MouseTellsCardSaid : Prop := Claim7.holds Tryz.pinned (.plain (OpenSpec.ofChange mouseTellsSpec)) mouseTellsCard

/-- THE SECOND FORM's CARD OF 'clavierlaw16.MouseTells'. -/
def mouseTellsUptoCard : Claim7 := { stood := { row := mouseTellsUptoRow, standIns := [], harness := (true, "715ddadf719795774c22bcdccab85b1173f2fb3bd7712983167ccdad950ea996"), looks := false }, kinds := [], alts := [], laidByText := true, laidKinds := [.data, .data, .data, .data, .pinned], laidTests := true, laidLooks := .later }
def MouseTellsUptoCardSaid : Prop := Claim7.holds Tryz.pinned (.plain (OpenSpec.upto mouseTellsSpec)) mouseTellsUptoCard
end Rows
end Go.Proofs.YtfnngjnfajnpaaaGreatDoor
