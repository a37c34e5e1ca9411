/-
  DERIVED. GIVEN WITH THE SEED: THE CARDS: each row of YthmjlngdbabdeaaGreatDoorRows.lean that lists a variable, with what it lists TIED to the program's text (the seventh form; the later family's looks); each row that meets fmt, with fmt's text TOLD by the authors' own Lean function (tested against real Go, not proved from fmt's source: count such statements apart). THE CARD IS WHAT COUNTS. Prove the row's statement (the work); the ties are given (YthmjlngdbabdeaaGreatDoorTie.lean); close each card by the builder's one call (the guide's Derived/Test/ToyasCard.lean, 'card_holds'). Laid BY PROGRAM, IN A SANDBOX (cutbox-door.mjs). By AI agents, Wed Nov 11 2026. No macro, syntax, notation, axiom, sorry.
-/
import Derived.Test.YthmjlngdbabdeaaGreatDoorRows
import GoSem.ClaimSeven
namespace Go.Proofs.YthmjlngdbabdeaaGreatDoor
namespace Rows

/-- THE TIED CARD OF 'clavierlaw13.KittyTells'. -/
def kittyTellsCard : Claim7 := { stood := { row := kittyTellsRow, standIns := [], harness := (true, "e7fdbeb71f9fa49e9169e0cbe578dbddd44c5e5aaea8ef08366dc1d1eb9847ad"), looks := false }, kinds := [], alts := [], laidByText := true, laidKinds := [.data, .data, .data], laidTests := true, laidLooks := .later }
def KittyTellsCardSaid : Prop := Claim7.holds Tryz.pinned (.plain (OpenSpec.ofChange kittyTellsSpec)) kittyTellsCard

/-- THE TIED CARD OF 'clavierlaw13.KittyAll'. -/
def kittyAllCard : Claim7 := { stood := { row := kittyAllRow, standIns := [], harness := (true, "e7fdbeb71f9fa49e9169e0cbe578dbddd44c5e5aaea8ef08366dc1d1eb9847ad"), looks := false }, kinds := [], alts := [], laidByText := true, laidKinds := [.data, .data, .data], laidTests := true, laidLooks := .later }
def KittyAllCardSaid : Prop := Claim7.holds Tryz.pinned (.plain (OpenSpec.ofChange kittyAllSpec)) kittyAllCard

/-- THE TIED CARD OF 'clavierlaw13.KittyOne'. -/
def kittyOneCard : Claim7 := { stood := { row := kittyOneRow, standIns := [], harness := (true, "e7fdbeb71f9fa49e9169e0cbe578dbddd44c5e5aaea8ef08366dc1d1eb9847ad"), looks := false }, kinds := [], alts := [], laidByText := true, laidKinds := [.data, .data, .data, .data, .pinned], laidTests := true, laidLooks := .later }
def KittyOneCardSaid : Prop := Claim7.holds Tryz.pinned (.plain (OpenSpec.ofChange kittyOneSpec)) kittyOneCard

/-- THE TIED CARD OF 'clavierlaw11.LegacyTells'. -/
def legacyTellsCard : Claim7 := { stood := { row := legacyTellsRow, standIns := [], harness := (true, "e7fdbeb71f9fa49e9169e0cbe578dbddd44c5e5aaea8ef08366dc1d1eb9847ad"), looks := false }, kinds := [], alts := [], laidByText := true, laidKinds := [.data, .data, .data], laidTests := true, laidLooks := .later }
def LegacyTellsCardSaid : Prop := Claim7.holds Tryz.pinned (.plain (OpenSpec.ofChange legacyTellsSpec)) legacyTellsCard

/-- THE TIED CARD OF 'clavierlaw11.LegacyAll'. -/
def legacyAllCard : Claim7 := { stood := { row := legacyAllRow, standIns := [], harness := (true, "e7fdbeb71f9fa49e9169e0cbe578dbddd44c5e5aaea8ef08366dc1d1eb9847ad"), looks := false }, kinds := [], alts := [], laidByText := true, laidKinds := [.data, .data, .data], laidTests := true, laidLooks := .later }
def LegacyAllCardSaid : Prop := Claim7.holds Tryz.pinned (.plain (OpenSpec.ofChange legacyAllSpec)) legacyAllCard

/-- THE SECOND FORM's CARD OF 'clavierlaw13.KittyTells'. -/
def kittyTellsUptoCard : Claim7 := { stood := { row := kittyTellsUptoRow, standIns := [], harness := (true, "e7fdbeb71f9fa49e9169e0cbe578dbddd44c5e5aaea8ef08366dc1d1eb9847ad"), looks := false }, kinds := [], alts := [], laidByText := true, laidKinds := [.data, .data, .data], laidTests := true, laidLooks := .later }
def KittyTellsUptoCardSaid : Prop := Claim7.holds Tryz.pinned (.plain (OpenSpec.upto kittyTellsSpec)) kittyTellsUptoCard

/-- THE SECOND FORM's CARD OF 'clavierlaw13.KittyAll'. -/
def kittyAllUptoCard : Claim7 := { stood := { row := kittyAllUptoRow, standIns := [], harness := (true, "e7fdbeb71f9fa49e9169e0cbe578dbddd44c5e5aaea8ef08366dc1d1eb9847ad"), looks := false }, kinds := [], alts := [], laidByText := true, laidKinds := [.data, .data, .data], laidTests := true, laidLooks := .later }
def KittyAllUptoCardSaid : Prop := Claim7.holds Tryz.pinned (.plain (OpenSpec.upto kittyAllSpec)) kittyAllUptoCard

/-- THE SECOND FORM's CARD OF 'clavierlaw13.KittyOne'. -/
def kittyOneUptoCard : Claim7 := { stood := { row := kittyOneUptoRow, standIns := [], harness := (true, "e7fdbeb71f9fa49e9169e0cbe578dbddd44c5e5aaea8ef08366dc1d1eb9847ad"), looks := false }, kinds := [], alts := [], laidByText := true, laidKinds := [.data, .data, .data, .data, .pinned], laidTests := true, laidLooks := .later }
def KittyOneUptoCardSaid : Prop := Claim7.holds Tryz.pinned (.plain (OpenSpec.upto kittyOneSpec)) kittyOneUptoCard

/-- THE SECOND FORM's CARD OF 'clavierlaw11.LegacyTells'. -/
def legacyTellsUptoCard : Claim7 := { stood := { row := legacyTellsUptoRow, standIns := [], harness := (true, "e7fdbeb71f9fa49e9169e0cbe578dbddd44c5e5aaea8ef08366dc1d1eb9847ad"), looks := false }, kinds := [], alts := [], laidByText := true, laidKinds := [.data, .data, .data], laidTests := true, laidLooks := .later }
def LegacyTellsUptoCardSaid : Prop := Claim7.holds Tryz.pinned (.plain (OpenSpec.upto legacyTellsSpec)) legacyTellsUptoCard

/-- THE SECOND FORM's CARD OF 'clavierlaw11.LegacyAll'. -/
def legacyAllUptoCard : Claim7 := { stood := { row := legacyAllUptoRow, standIns := [], harness := (true, "e7fdbeb71f9fa49e9169e0cbe578dbddd44c5e5aaea8ef08366dc1d1eb9847ad"), looks := false }, kinds := [], alts := [], laidByText := true, laidKinds := [.data, .data, .data], laidTests := true, laidLooks := .later }
def LegacyAllUptoCardSaid : Prop := Claim7.holds Tryz.pinned (.plain (OpenSpec.upto legacyAllSpec)) legacyAllUptoCard
end Rows
end Go.Proofs.YthmjlngdbabdeaaGreatDoor
