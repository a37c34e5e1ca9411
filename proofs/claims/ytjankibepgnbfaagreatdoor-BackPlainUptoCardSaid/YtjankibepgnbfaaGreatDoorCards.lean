/-
  DERIVED. GIVEN WITH THE SEED: THE CARDS: each row of YtjankibepgnbfaaGreatDoorRows.lean that lists a variable, with what it lists TIED to the program's text (the seventh form; the later family's looks); each row that meets fmt, with fmt's text TOLD by the authors' own Lean function (tested against real Go, not proved from fmt's source: count such statements apart). THE CARD IS WHAT COUNTS. Prove the row's statement (the work); the ties are given (YtjankibepgnbfaaGreatDoorTie.lean); close each card by the builder's one call (the guide's Derived/Test/ToyasCard.lean, 'card_holds'). Laid BY PROGRAM, IN A SANDBOX (cutbox-door.mjs). By AI agents, Wed Nov 11 2026. No macro, syntax, notation, axiom, sorry.
-/
import Derived.Test.YtjankibepgnbfaaGreatDoorRows
import GoSem.ClaimSeven
namespace Go.Proofs.YtjankibepgnbfaaGreatDoor
namespace Rows

/-- THE TIED CARD OF 'clavierlaw23.BackFold'. -/
def backFoldCard : Claim7 := { stood := { row := backFoldRow, standIns := [], harness := (true, "cdedbc19828bd9d7fddf4a29b21eb35dd9b136a3d7342e95d289ee7242a32d41"), looks := false }, kinds := [], alts := [], laidByText := true, laidKinds := [.data, .data, .data, .data, .pinned], laidTests := true, laidLooks := .later }
def BackFoldCardSaid : Prop := Claim7.holds Tryz.pinned (.plain (OpenSpec.ofChange backFoldSpec)) backFoldCard

/-- THE TIED CARD OF 'clavierlaw23.BackPlain'. -/
def backPlainCard : Claim7 := { stood := { row := backPlainRow, standIns := [], harness := (true, "cdedbc19828bd9d7fddf4a29b21eb35dd9b136a3d7342e95d289ee7242a32d41"), looks := false }, kinds := [], alts := [], laidByText := true, laidKinds := [.data, .data, .data, .data, .pinned], laidTests := true, laidLooks := .later }
def BackPlainCardSaid : Prop := Claim7.holds Tryz.pinned (.plain (OpenSpec.ofChange backPlainSpec)) backPlainCard

/-- THE TIED CARD OF 'clavierlaw22.DecodeBack'. -/
def decodeBackCard : Claim7 := { stood := { row := decodeBackRow, standIns := [], harness := (true, "cdedbc19828bd9d7fddf4a29b21eb35dd9b136a3d7342e95d289ee7242a32d41"), looks := false }, kinds := [], alts := [], laidByText := true, laidKinds := [.data, .data, .data, .data, .pinned], laidTests := true, laidLooks := .later }
def DecodeBackCardSaid : Prop := Claim7.holds Tryz.pinned (.plain (OpenSpec.ofChange decodeBackSpec)) decodeBackCard

/-- THE TIED CARD OF 'clavierlaw22.DecodeCut'. -/
def decodeCutCard : Claim7 := { stood := { row := decodeCutRow, standIns := [], harness := (true, "cdedbc19828bd9d7fddf4a29b21eb35dd9b136a3d7342e95d289ee7242a32d41"), looks := false }, kinds := [], alts := [], laidByText := true, laidKinds := [.data, .data, .data, .data, .pinned], laidTests := true, laidLooks := .later }
def DecodeCutCardSaid : Prop := Claim7.holds Tryz.pinned (.plain (OpenSpec.ofChange decodeCutSpec)) decodeCutCard

/-- THE SECOND FORM's CARD OF 'clavierlaw23.BackFold'. -/
def backFoldUptoCard : Claim7 := { stood := { row := backFoldUptoRow, standIns := [], harness := (true, "cdedbc19828bd9d7fddf4a29b21eb35dd9b136a3d7342e95d289ee7242a32d41"), looks := false }, kinds := [], alts := [], laidByText := true, laidKinds := [.data, .data, .data, .data, .pinned], laidTests := true, laidLooks := .later }
def BackFoldUptoCardSaid : Prop := Claim7.holds Tryz.pinned (.plain (OpenSpec.upto backFoldSpec)) backFoldUptoCard

/-- THE SECOND FORM's CARD OF 'clavierlaw23.BackPlain'. -/
def backPlainUptoCard : Claim7 := { stood := { row := backPlainUptoRow, standIns := [], harness := (true, "cdedbc19828bd9d7fddf4a29b21eb35dd9b136a3d7342e95d289ee7242a32d41"), looks := false }, kinds := [], alts := [], laidByText := true, laidKinds := [.data, .data, .data, .data, .pinned], laidTests := true, laidLooks := .later }
def BackPlainUptoCardSaid : Prop := Claim7.holds Tryz.pinned (.plain (OpenSpec.upto backPlainSpec)) backPlainUptoCard

/-- THE SECOND FORM's CARD OF 'clavierlaw22.DecodeBack'. -/
def decodeBackUptoCard : Claim7 := { stood := { row := decodeBackUptoRow, standIns := [], harness := (true, "cdedbc19828bd9d7fddf4a29b21eb35dd9b136a3d7342e95d289ee7242a32d41"), looks := false }, kinds := [], alts := [], laidByText := true, laidKinds := [.data, .data, .data, .data, .pinned], laidTests := true, laidLooks := .later }
def DecodeBackUptoCardSaid : Prop := Claim7.holds Tryz.pinned (.plain (OpenSpec.upto decodeBackSpec)) decodeBackUptoCard

/-- THE SECOND FORM's CARD OF 'clavierlaw22.DecodeCut'. -/
def decodeCutUptoCard : Claim7 := { stood := { row := decodeCutUptoRow, standIns := [], harness := (true, "cdedbc19828bd9d7fddf4a29b21eb35dd9b136a3d7342e95d289ee7242a32d41"), looks := false }, kinds := [], alts := [], laidByText := true, laidKinds := [.data, .data, .data, .data, .pinned], laidTests := true, laidLooks := .later }
def DecodeCutUptoCardSaid : Prop := Claim7.holds Tryz.pinned (.plain (OpenSpec.upto decodeCutSpec)) decodeCutUptoCard
end Rows
end Go.Proofs.YtjankibepgnbfaaGreatDoor
