/-
  DERIVED. GIVEN WITH THE SEED: THE CARDS: each row of YthmjlngdbabdeaaDoorRows.lean that lists a variable, with what it lists TIED to the program's text (the seventh form; the later family's looks); each row that meets fmt, with fmt's text TOLD by the authors' own Lean function (tested against real Go, not proved from fmt's source: count such statements apart). THE CARD IS WHAT COUNTS. Prove the row's statement (the work); the ties are given (YthmjlngdbabdeaaDoorTie.lean); close each card by the builder's one call (the guide's Derived/Test/ToyasCard.lean, 'card_holds'). Laid BY PROGRAM, IN A SANDBOX (cutbox-door.mjs). By AI agents, Wed Nov 11 2026. No macro, syntax, notation, axiom, sorry.
-/
import Derived.Test.YthmjlngdbabdeaaDoorRows
import GoSem.ClaimSeven
namespace Go.Proofs.YthmjlngdbabdeaaDoor
namespace Rows

/-- THE TIED CARD OF 'clavierlaw13.KittyApart'. -/
def kittyApartCard : Claim7 := { stood := { row := kittyApartRow, standIns := [], harness := (true, "10d7e15395e41b53405f503ad2025702628cc14fe275b052672ea38bef7cccf1"), looks := false }, kinds := [], alts := [], laidByText := true, laidKinds := [.data, .data, .data], laidTests := true, laidLooks := .later }
def KittyApartCardSaid : Prop := Claim7.holds Tryd.pinned (.plain (OpenSpec.ofChange kittyApartSpec)) kittyApartCard

/-- THE TIED CARD OF 'clavierlaw13.KittyText'. -/
def kittyTextCard : Claim7 := { stood := { row := kittyTextRow, standIns := [], harness := (true, "10d7e15395e41b53405f503ad2025702628cc14fe275b052672ea38bef7cccf1"), looks := false }, kinds := [], alts := [], laidByText := true, laidKinds := [.data, .data, .data], laidTests := true, laidLooks := .later }
def KittyTextCardSaid : Prop := Claim7.holds Tryd.pinned (.plain (OpenSpec.ofChange kittyTextSpec)) kittyTextCard

/-- THE TIED CARD OF 'clavierlaw13.KittyForms'. -/
def kittyFormsCard : Claim7 := { stood := { row := kittyFormsRow, standIns := [], harness := (true, "10d7e15395e41b53405f503ad2025702628cc14fe275b052672ea38bef7cccf1"), looks := false }, kinds := [], alts := [], laidByText := true, laidKinds := [.data, .data, .data], laidTests := true, laidLooks := .later }
def KittyFormsCardSaid : Prop := Claim7.holds Tryd.pinned (.plain (OpenSpec.ofChange kittyFormsSpec)) kittyFormsCard

/-- THE TIED CARD OF 'clavierlaw11.LegacyTypes'. -/
def legacyTypesCard : Claim7 := { stood := { row := legacyTypesRow, standIns := [], harness := (true, "10d7e15395e41b53405f503ad2025702628cc14fe275b052672ea38bef7cccf1"), looks := false }, kinds := [], alts := [], laidByText := true, laidKinds := [.data, .data, .data], laidTests := true, laidLooks := .later }
def LegacyTypesCardSaid : Prop := Claim7.holds Tryd.pinned (.plain (OpenSpec.ofChange legacyTypesSpec)) legacyTypesCard

/-- THE TIED CARD OF 'clavierlaw11.LegacyAlt'. -/
def legacyAltCard : Claim7 := { stood := { row := legacyAltRow, standIns := [], harness := (true, "10d7e15395e41b53405f503ad2025702628cc14fe275b052672ea38bef7cccf1"), looks := false }, kinds := [], alts := [], laidByText := true, laidKinds := [.data, .data, .data], laidTests := true, laidLooks := .later }
def LegacyAltCardSaid : Prop := Claim7.holds Tryd.pinned (.plain (OpenSpec.ofChange legacyAltSpec)) legacyAltCard

/-- THE TIED CARD OF 'clavierlaw11.LegacyText'. -/
def legacyTextCard : Claim7 := { stood := { row := legacyTextRow, standIns := [], harness := (true, "10d7e15395e41b53405f503ad2025702628cc14fe275b052672ea38bef7cccf1"), looks := false }, kinds := [], alts := [], laidByText := true, laidKinds := [.data, .data, .data], laidTests := true, laidLooks := .later }
def LegacyTextCardSaid : Prop := Claim7.holds Tryd.pinned (.plain (OpenSpec.ofChange legacyTextSpec)) legacyTextCard

/-- THE TIED CARD OF 'clavierlaw11.LegacyForms'. -/
def legacyFormsCard : Claim7 := { stood := { row := legacyFormsRow, standIns := [], harness := (true, "10d7e15395e41b53405f503ad2025702628cc14fe275b052672ea38bef7cccf1"), looks := false }, kinds := [], alts := [], laidByText := true, laidKinds := [.data, .data, .data, .data, .pinned], laidTests := true, laidLooks := .later }
def LegacyFormsCardSaid : Prop := Claim7.holds Tryd.pinned (.plain (OpenSpec.ofChange legacyFormsSpec)) legacyFormsCard

/-- THE SECOND FORM's CARD OF 'clavierlaw13.KittyApart'. -/
def kittyApartUptoCard : Claim7 := { stood := { row := kittyApartUptoRow, standIns := [], harness := (true, "10d7e15395e41b53405f503ad2025702628cc14fe275b052672ea38bef7cccf1"), looks := false }, kinds := [], alts := [], laidByText := true, laidKinds := [.data, .data, .data], laidTests := true, laidLooks := .later }
def KittyApartUptoCardSaid : Prop := Claim7.holds Tryd.pinned (.plain (OpenSpec.upto kittyApartSpec)) kittyApartUptoCard

/-- THE SECOND FORM's CARD OF 'clavierlaw13.KittyText'. -/
def kittyTextUptoCard : Claim7 := { stood := { row := kittyTextUptoRow, standIns := [], harness := (true, "10d7e15395e41b53405f503ad2025702628cc14fe275b052672ea38bef7cccf1"), looks := false }, kinds := [], alts := [], laidByText := true, laidKinds := [.data, .data, .data], laidTests := true, laidLooks := .later }
def KittyTextUptoCardSaid : Prop := Claim7.holds Tryd.pinned (.plain (OpenSpec.upto kittyTextSpec)) kittyTextUptoCard

/-- THE SECOND FORM's CARD OF 'clavierlaw13.KittyForms'. -/
def kittyFormsUptoCard : Claim7 := { stood := { row := kittyFormsUptoRow, standIns := [], harness := (true, "10d7e15395e41b53405f503ad2025702628cc14fe275b052672ea38bef7cccf1"), looks := false }, kinds := [], alts := [], laidByText := true, laidKinds := [.data, .data, .data], laidTests := true, laidLooks := .later }
def KittyFormsUptoCardSaid : Prop := Claim7.holds Tryd.pinned (.plain (OpenSpec.upto kittyFormsSpec)) kittyFormsUptoCard

/-- THE SECOND FORM's CARD OF 'clavierlaw11.LegacyTypes'. -/
def legacyTypesUptoCard : Claim7 := { stood := { row := legacyTypesUptoRow, standIns := [], harness := (true, "10d7e15395e41b53405f503ad2025702628cc14fe275b052672ea38bef7cccf1"), looks := false }, kinds := [], alts := [], laidByText := true, laidKinds := [.data, .data, .data], laidTests := true, laidLooks := .later }
def LegacyTypesUptoCardSaid : Prop := Claim7.holds Tryd.pinned (.plain (OpenSpec.upto legacyTypesSpec)) legacyTypesUptoCard

/-- THE SECOND FORM's CARD OF 'clavierlaw11.LegacyAlt'. -/
def legacyAltUptoCard : Claim7 := { stood := { row := legacyAltUptoRow, standIns := [], harness := (true, "10d7e15395e41b53405f503ad2025702628cc14fe275b052672ea38bef7cccf1"), looks := false }, kinds := [], alts := [], laidByText := true, laidKinds := [.data, .data, .data], laidTests := true, laidLooks := .later }
def LegacyAltUptoCardSaid : Prop := Claim7.holds Tryd.pinned (.plain (OpenSpec.upto legacyAltSpec)) legacyAltUptoCard

/-- THE SECOND FORM's CARD OF 'clavierlaw11.LegacyText'. -/
def legacyTextUptoCard : Claim7 := { stood := { row := legacyTextUptoRow, standIns := [], harness := (true, "10d7e15395e41b53405f503ad2025702628cc14fe275b052672ea38bef7cccf1"), looks := false }, kinds := [], alts := [], laidByText := true, laidKinds := [.data, .data, .data], laidTests := true, laidLooks := .later }
def LegacyTextUptoCardSaid : Prop := Claim7.holds Tryd.pinned (.plain (OpenSpec.upto legacyTextSpec)) legacyTextUptoCard

/-- THE SECOND FORM's CARD OF 'clavierlaw11.LegacyForms'. -/
def legacyFormsUptoCard : Claim7 := { stood := { row := legacyFormsUptoRow, standIns := [], harness := (true, "10d7e15395e41b53405f503ad2025702628cc14fe275b052672ea38bef7cccf1"), looks := false }, kinds := [], alts := [], laidByText := true, laidKinds := [.data, .data, .data, .data, .pinned], laidTests := true, laidLooks := .later }
def LegacyFormsUptoCardSaid : Prop := Claim7.holds Tryd.pinned (.plain (OpenSpec.upto legacyFormsSpec)) legacyFormsUptoCard
end Rows
end Go.Proofs.YthmjlngdbabdeaaDoor
