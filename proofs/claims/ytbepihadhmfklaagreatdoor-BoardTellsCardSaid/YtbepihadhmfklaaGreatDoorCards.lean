/-
  DERIVED. GIVEN WITH THE SEED: THE CARDS: each row of YtbepihadhmfklaaGreatDoorRows.lean that lists a variable, with what it lists TIED to the program's text (the seventh form; the later family's looks); each row that meets fmt, with fmt's text TOLD by the authors' own Lean function (tested against real Go, not proved from fmt's source: count such statements apart). THE CARD IS WHAT COUNTS. Prove the row's statement (the work); the ties are given (YtbepihadhmfklaaGreatDoorTie.lean); close each card by the builder's one call (the guide's Derived/Test/ToyasCard.lean, 'card_holds'). Laid BY PROGRAM, IN A SANDBOX (cutbox-door.mjs). By AI agents, Wed Nov 11 2026. No macro, syntax, notation, axiom, sorry.
-/
import Derived.Test.YtbepihadhmfklaaGreatDoorRows
import GoSem.ClaimSeven
namespace Go.Proofs.YtbepihadhmfklaaGreatDoor
namespace Rows

/-- THE TIED CARD OF 'clavierlaw14.BoardTells'. -/
def boardTellsCard : Claim7 := { stood := { row := boardTellsRow, standIns := [], harness := (true, "798a7f6d89e2fbcbaaa72b0a22000f9d7fe649e4bc8b0faaeb42ca29a5786512"), looks := false }, kinds := [], alts := [], laidByText := true, laidKinds := [.data, .data, .data], laidTests := true, laidLooks := .later }
def BoardTellsCardSaid : Prop := Claim7.holds Tryz.pinned (.plain (OpenSpec.ofChange boardTellsSpec)) boardTellsCard

/-- THE TIED CARD OF 'clavierlaw14.BoardLock'. -/
def boardLockCard : Claim7 := { stood := { row := boardLockRow, standIns := [], harness := (true, "798a7f6d89e2fbcbaaa72b0a22000f9d7fe649e4bc8b0faaeb42ca29a5786512"), looks := false }, kinds := [], alts := [], laidByText := true, laidKinds := [.data, .data, .data], laidTests := true, laidLooks := .later }
def BoardLockCardSaid : Prop := Claim7.holds Tryz.pinned (.plain (OpenSpec.ofChange boardLockSpec)) boardLockCard

/-- THE TIED CARD OF 'clavierlaw14.BoardFlags'. -/
def boardFlagsCard : Claim7 := { stood := { row := boardFlagsRow, standIns := [], harness := (true, "798a7f6d89e2fbcbaaa72b0a22000f9d7fe649e4bc8b0faaeb42ca29a5786512"), looks := false }, kinds := [], alts := [], laidByText := true, laidKinds := [.data, .data, .data], laidTests := true, laidLooks := .later }
def BoardFlagsCardSaid : Prop := Claim7.holds Tryz.pinned (.plain (OpenSpec.ofChange boardFlagsSpec)) boardFlagsCard

/-- THE TIED CARD OF 'clavierlaw14.BoardTypes'. -/
def boardTypesCard : Claim7 := { stood := { row := boardTypesRow, standIns := [], harness := (true, "798a7f6d89e2fbcbaaa72b0a22000f9d7fe649e4bc8b0faaeb42ca29a5786512"), looks := false }, kinds := [], alts := [], laidByText := true, laidKinds := [.data, .data, .data], laidTests := true, laidLooks := .later }
def BoardTypesCardSaid : Prop := Claim7.holds Tryz.pinned (.plain (OpenSpec.ofChange boardTypesSpec)) boardTypesCard

/-- THE TIED CARD OF 'clavierlaw12.OtherTells'. -/
def otherTellsCard : Claim7 := { stood := { row := otherTellsRow, standIns := [], harness := (true, "798a7f6d89e2fbcbaaa72b0a22000f9d7fe649e4bc8b0faaeb42ca29a5786512"), looks := false }, kinds := [], alts := [], laidByText := true, laidKinds := [.data, .data, .data, .data, .pinned], laidTests := true, laidLooks := .later }
def OtherTellsCardSaid : Prop := Claim7.holds Tryz.pinned (.plain (OpenSpec.ofChange otherTellsSpec)) otherTellsCard

/-- THE TIED CARD OF 'clavierlaw12.OtherRound'. -/
def otherRoundCard : Claim7 := { stood := { row := otherRoundRow, standIns := [], harness := (true, "798a7f6d89e2fbcbaaa72b0a22000f9d7fe649e4bc8b0faaeb42ca29a5786512"), looks := false }, kinds := [], alts := [], laidByText := true, laidKinds := [.data, .data, .data, .data, .pinned], laidTests := true, laidLooks := .later }
def OtherRoundCardSaid : Prop := Claim7.holds Tryz.pinned (.plain (OpenSpec.ofChange otherRoundSpec)) otherRoundCard

/-- THE TIED CARD OF 'clavierlaw12.OtherSame'. -/
def otherSameCard : Claim7 := { stood := { row := otherSameRow, standIns := [], harness := (true, "798a7f6d89e2fbcbaaa72b0a22000f9d7fe649e4bc8b0faaeb42ca29a5786512"), looks := false }, kinds := [], alts := [], laidByText := true, laidKinds := [.data, .data, .data, .data, .pinned], laidTests := true, laidLooks := .later }
def OtherSameCardSaid : Prop := Claim7.holds Tryz.pinned (.plain (OpenSpec.ofChange otherSameSpec)) otherSameCard

/-- THE TIED CARD OF 'clavierlaw12.OtherTypes'. -/
def otherTypesCard : Claim7 := { stood := { row := otherTypesRow, standIns := [], harness := (true, "798a7f6d89e2fbcbaaa72b0a22000f9d7fe649e4bc8b0faaeb42ca29a5786512"), looks := false }, kinds := [], alts := [], laidByText := true, laidKinds := [.data, .data, .data, .data, .pinned], laidTests := true, laidLooks := .later }
def OtherTypesCardSaid : Prop := Claim7.holds Tryz.pinned (.plain (OpenSpec.ofChange otherTypesSpec)) otherTypesCard

/-- THE TIED CARD OF 'clavierlaw14.BoardWhole'. -/
def boardWholeCard : Claim7 := { stood := { row := boardWholeRow, standIns := [], harness := (true, "798a7f6d89e2fbcbaaa72b0a22000f9d7fe649e4bc8b0faaeb42ca29a5786512"), looks := false }, kinds := [], alts := [], laidByText := true, laidKinds := [.data, .data, .data, .data, .pinned], laidTests := true, laidLooks := .later }
def BoardWholeCardSaid : Prop := Claim7.holds Tryz.pinned (.plain (OpenSpec.ofChange boardWholeSpec)) boardWholeCard

/-- THE SECOND FORM's CARD OF 'clavierlaw14.BoardTells'. -/
def boardTellsUptoCard : Claim7 := { stood := { row := boardTellsUptoRow, standIns := [], harness := (true, "798a7f6d89e2fbcbaaa72b0a22000f9d7fe649e4bc8b0faaeb42ca29a5786512"), looks := false }, kinds := [], alts := [], laidByText := true, laidKinds := [.data, .data, .data], laidTests := true, laidLooks := .later }
def BoardTellsUptoCardSaid : Prop := Claim7.holds Tryz.pinned (.plain (OpenSpec.upto boardTellsSpec)) boardTellsUptoCard

/-- THE SECOND FORM's CARD OF 'clavierlaw14.BoardLock'. -/
def boardLockUptoCard : Claim7 := { stood := { row := boardLockUptoRow, standIns := [], harness := (true, "798a7f6d89e2fbcbaaa72b0a22000f9d7fe649e4bc8b0faaeb42ca29a5786512"), looks := false }, kinds := [], alts := [], laidByText := true, laidKinds := [.data, .data, .data], laidTests := true, laidLooks := .later }
def BoardLockUptoCardSaid : Prop := Claim7.holds Tryz.pinned (.plain (OpenSpec.upto boardLockSpec)) boardLockUptoCard

/-- THE SECOND FORM's CARD OF 'clavierlaw14.BoardFlags'. -/
def boardFlagsUptoCard : Claim7 := { stood := { row := boardFlagsUptoRow, standIns := [], harness := (true, "798a7f6d89e2fbcbaaa72b0a22000f9d7fe649e4bc8b0faaeb42ca29a5786512"), looks := false }, kinds := [], alts := [], laidByText := true, laidKinds := [.data, .data, .data], laidTests := true, laidLooks := .later }
def BoardFlagsUptoCardSaid : Prop := Claim7.holds Tryz.pinned (.plain (OpenSpec.upto boardFlagsSpec)) boardFlagsUptoCard

/-- THE SECOND FORM's CARD OF 'clavierlaw14.BoardTypes'. -/
def boardTypesUptoCard : Claim7 := { stood := { row := boardTypesUptoRow, standIns := [], harness := (true, "798a7f6d89e2fbcbaaa72b0a22000f9d7fe649e4bc8b0faaeb42ca29a5786512"), looks := false }, kinds := [], alts := [], laidByText := true, laidKinds := [.data, .data, .data], laidTests := true, laidLooks := .later }
def BoardTypesUptoCardSaid : Prop := Claim7.holds Tryz.pinned (.plain (OpenSpec.upto boardTypesSpec)) boardTypesUptoCard

/-- THE SECOND FORM's CARD OF 'clavierlaw12.OtherTells'. -/
def otherTellsUptoCard : Claim7 := { stood := { row := otherTellsUptoRow, standIns := [], harness := (true, "798a7f6d89e2fbcbaaa72b0a22000f9d7fe649e4bc8b0faaeb42ca29a5786512"), looks := false }, kinds := [], alts := [], laidByText := true, laidKinds := [.data, .data, .data, .data, .pinned], laidTests := true, laidLooks := .later }
def OtherTellsUptoCardSaid : Prop := Claim7.holds Tryz.pinned (.plain (OpenSpec.upto otherTellsSpec)) otherTellsUptoCard

/-- THE SECOND FORM's CARD OF 'clavierlaw12.OtherRound'. -/
def otherRoundUptoCard : Claim7 := { stood := { row := otherRoundUptoRow, standIns := [], harness := (true, "798a7f6d89e2fbcbaaa72b0a22000f9d7fe649e4bc8b0faaeb42ca29a5786512"), looks := false }, kinds := [], alts := [], laidByText := true, laidKinds := [.data, .data, .data, .data, .pinned], laidTests := true, laidLooks := .later }
def OtherRoundUptoCardSaid : Prop := Claim7.holds Tryz.pinned (.plain (OpenSpec.upto otherRoundSpec)) otherRoundUptoCard

/-- THE SECOND FORM's CARD OF 'clavierlaw12.OtherSame'. -/
def otherSameUptoCard : Claim7 := { stood := { row := otherSameUptoRow, standIns := [], harness := (true, "798a7f6d89e2fbcbaaa72b0a22000f9d7fe649e4bc8b0faaeb42ca29a5786512"), looks := false }, kinds := [], alts := [], laidByText := true, laidKinds := [.data, .data, .data, .data, .pinned], laidTests := true, laidLooks := .later }
def OtherSameUptoCardSaid : Prop := Claim7.holds Tryz.pinned (.plain (OpenSpec.upto otherSameSpec)) otherSameUptoCard

/-- THE SECOND FORM's CARD OF 'clavierlaw12.OtherTypes'. -/
def otherTypesUptoCard : Claim7 := { stood := { row := otherTypesUptoRow, standIns := [], harness := (true, "798a7f6d89e2fbcbaaa72b0a22000f9d7fe649e4bc8b0faaeb42ca29a5786512"), looks := false }, kinds := [], alts := [], laidByText := true, laidKinds := [.data, .data, .data, .data, .pinned], laidTests := true, laidLooks := .later }
def OtherTypesUptoCardSaid : Prop := Claim7.holds Tryz.pinned (.plain (OpenSpec.upto otherTypesSpec)) otherTypesUptoCard

/-- THE SECOND FORM's CARD OF 'clavierlaw14.BoardWhole'. -/
def boardWholeUptoCard : Claim7 := { stood := { row := boardWholeUptoRow, standIns := [], harness := (true, "798a7f6d89e2fbcbaaa72b0a22000f9d7fe649e4bc8b0faaeb42ca29a5786512"), looks := false }, kinds := [], alts := [], laidByText := true, laidKinds := [.data, .data, .data, .data, .pinned], laidTests := true, laidLooks := .later }
def BoardWholeUptoCardSaid : Prop := Claim7.holds Tryz.pinned (.plain (OpenSpec.upto boardWholeSpec)) boardWholeUptoCard
end Rows
end Go.Proofs.YtbepihadhmfklaaGreatDoor
