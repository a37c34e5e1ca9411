/-
  DERIVED. GIVEN WITH THE SEED: THE CARDS: each row of YtbepihadhmfklaaDoorRows.lean that lists a variable, with what it lists TIED to the program's text (the seventh form; the later family's looks); each row that meets fmt, with fmt's text TOLD by the authors' own Lean function (tested against real Go, not proved from fmt's source: count such statements apart). THE CARD IS WHAT COUNTS. Prove the row's statement (the work); the ties are given (YtbepihadhmfklaaDoorTie.lean); close each card by the builder's one call (the guide's Derived/Test/ToyasCard.lean, 'card_holds'). Laid BY PROGRAM, IN A SANDBOX (cutbox-door.mjs). By AI agents, Wed Nov 11 2026. No macro, syntax, notation, axiom, sorry.
-/
import Derived.Test.YtbepihadhmfklaaDoorRows
import GoSem.ClaimSeven
namespace Go.Proofs.YtbepihadhmfklaaDoor
namespace Rows

/-- THE TIED CARD OF 'clavierlaw14.BoardApart'. -/
def boardApartCard : Claim7 := { stood := { row := boardApartRow, standIns := [], harness := (true, "d624e823a66aede2ea6935ea24edc0b3b6ab35dd73e48fa07233969014ef5ca3"), looks := false }, kinds := [], alts := [], laidByText := true, laidKinds := [.data, .data, .data], laidTests := true, laidLooks := .later }
def BoardApartCardSaid : Prop := Claim7.holds Tryd.pinned (.plain (OpenSpec.ofChange boardApartSpec)) boardApartCard

/-- THE TIED CARD OF 'clavierlaw12.OtherLevels'. -/
def otherLevelsCard : Claim7 := { stood := { row := otherLevelsRow, standIns := [], harness := (true, "d624e823a66aede2ea6935ea24edc0b3b6ab35dd73e48fa07233969014ef5ca3"), looks := false }, kinds := [], alts := [], laidByText := true, laidKinds := [.data, .data, .data, .data, .pinned], laidTests := true, laidLooks := .later }
def OtherLevelsCardSaid : Prop := Claim7.holds Tryd.pinned (.plain (OpenSpec.ofChange otherLevelsSpec)) otherLevelsCard

/-- THE SECOND FORM's CARD OF 'clavierlaw14.BoardApart'. -/
def boardApartUptoCard : Claim7 := { stood := { row := boardApartUptoRow, standIns := [], harness := (true, "d624e823a66aede2ea6935ea24edc0b3b6ab35dd73e48fa07233969014ef5ca3"), looks := false }, kinds := [], alts := [], laidByText := true, laidKinds := [.data, .data, .data], laidTests := true, laidLooks := .later }
def BoardApartUptoCardSaid : Prop := Claim7.holds Tryd.pinned (.plain (OpenSpec.upto boardApartSpec)) boardApartUptoCard

/-- THE SECOND FORM's CARD OF 'clavierlaw12.OtherLevels'. -/
def otherLevelsUptoCard : Claim7 := { stood := { row := otherLevelsUptoRow, standIns := [], harness := (true, "d624e823a66aede2ea6935ea24edc0b3b6ab35dd73e48fa07233969014ef5ca3"), looks := false }, kinds := [], alts := [], laidByText := true, laidKinds := [.data, .data, .data, .data, .pinned], laidTests := true, laidLooks := .later }
def OtherLevelsUptoCardSaid : Prop := Claim7.holds Tryd.pinned (.plain (OpenSpec.upto otherLevelsSpec)) otherLevelsUptoCard
end Rows
end Go.Proofs.YtbepihadhmfklaaDoor
