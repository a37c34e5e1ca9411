/-
  DERIVED. GIVEN WITH THE SEED: THE CARDS: each row of YtfnngjnfajnpaaaDoorRows.lean that lists a variable, with what it lists TIED to the program's text (the seventh form; the later family's looks); each row that meets fmt, with fmt's text TOLD by the authors' own Lean function (tested against real Go, not proved from fmt's source: count such statements apart). THE CARD IS WHAT COUNTS. Prove the row's statement (the work); the ties are given (YtfnngjnfajnpaaaDoorTie.lean); close each card by the builder's one call (the guide's Derived/Test/ToyasCard.lean, 'card_holds'). Laid BY PROGRAM, IN A SANDBOX (cutbox-door.mjs). By AI agents, Wed Nov 11 2026. No macro, syntax, notation, axiom, sorry.
-/
import Derived.Test.YtfnngjnfajnpaaaDoorRows
import GoSem.ClaimSeven
namespace Go.Proofs.YtfnngjnfajnpaaaDoor
namespace Rows

/-- THE TIED CARD OF 'clavierlaw03.WirePuts'. -/
def wirePutsCard : Claim7 := { stood := { row := wirePutsRow, standIns := [], harness := (true, "113f882a1d9b5ae28fc18c7513d7d140d4f0d31d64ac4f6eb536983bb8a1d247"), looks := false }, kinds := [], alts := [], laidByText := true, laidKinds := [.data, .data, .data, .data, .pinned], laidTests := true, laidLooks := .later }
def WirePutsCardSaid : Prop := Claim7.holds Tryd.pinned (.plain (OpenSpec.ofChange wirePutsSpec)) wirePutsCard

/-- THE TIED CARD OF 'clavierlaw03.WireBack'. -/
def wireBackCard : Claim7 := { stood := { row := wireBackRow, standIns := [], harness := (true, "113f882a1d9b5ae28fc18c7513d7d140d4f0d31d64ac4f6eb536983bb8a1d247"), looks := false }, kinds := [], alts := [], laidByText := true, laidKinds := [.data, .data, .data, .data, .pinned], laidTests := true, laidLooks := .later }
def WireBackCardSaid : Prop := Claim7.holds Tryd.pinned (.plain (OpenSpec.ofChange wireBackSpec)) wireBackCard

/-- THE TIED CARD OF 'clavierlaw03.WireSame'. -/
def wireSameCard : Claim7 := { stood := { row := wireSameRow, standIns := [], harness := (true, "113f882a1d9b5ae28fc18c7513d7d140d4f0d31d64ac4f6eb536983bb8a1d247"), looks := false }, kinds := [], alts := [], laidByText := true, laidKinds := [.data, .data, .data, .data, .pinned], laidTests := true, laidLooks := .later }
def WireSameCardSaid : Prop := Claim7.holds Tryd.pinned (.plain (OpenSpec.ofChange wireSameSpec)) wireSameCard

/-- THE TIED CARD OF 'clavierlaw03.WireLists'. -/
def wireListsCard : Claim7 := { stood := { row := wireListsRow, standIns := [], harness := (true, "113f882a1d9b5ae28fc18c7513d7d140d4f0d31d64ac4f6eb536983bb8a1d247"), looks := false }, kinds := [], alts := [], laidByText := true, laidKinds := [.data, .data, .data, .data, .pinned], laidTests := true, laidLooks := .later }
def WireListsCardSaid : Prop := Claim7.holds Tryd.pinned (.plain (OpenSpec.ofChange wireListsSpec)) wireListsCard

/-- THE TIED CARD OF 'clavierlaw03.WireNums'. -/
def wireNumsCard : Claim7 := { stood := { row := wireNumsRow, standIns := [], harness := (true, "113f882a1d9b5ae28fc18c7513d7d140d4f0d31d64ac4f6eb536983bb8a1d247"), looks := false }, kinds := [], alts := [], laidByText := true, laidKinds := [.data, .data, .data, .data, .pinned], laidTests := true, laidLooks := .later }
def WireNumsCardSaid : Prop := Claim7.holds Tryd.pinned (.plain (OpenSpec.ofChange wireNumsSpec)) wireNumsCard

/-- THE TIED CARD OF 'clavierlaw16.MouseBack'. -/
def mouseBackCard : Claim7 := { stood := { row := mouseBackRow, standIns := [], harness := (true, "113f882a1d9b5ae28fc18c7513d7d140d4f0d31d64ac4f6eb536983bb8a1d247"), looks := false }, kinds := [], alts := [], laidByText := true, laidKinds := [.data, .data, .data, .data, .pinned], laidTests := true, laidLooks := .later }
def MouseBackCardSaid : Prop := Claim7.holds Tryd.pinned (.plain (OpenSpec.ofChange mouseBackSpec)) mouseBackCard

/-- THE TIED CARD OF 'clavierlaw16.MouseRange'. -/
def mouseRangeCard : Claim7 := { stood := { row := mouseRangeRow, standIns := [], harness := (true, "113f882a1d9b5ae28fc18c7513d7d140d4f0d31d64ac4f6eb536983bb8a1d247"), looks := false }, kinds := [], alts := [], laidByText := true, laidKinds := [.data, .data, .data, .data, .pinned], laidTests := true, laidLooks := .later }
def MouseRangeCardSaid : Prop := Claim7.holds Tryd.pinned (.plain (OpenSpec.ofChange mouseRangeSpec)) mouseRangeCard

/-- THE TIED CARD OF 'clavierlaw16.MouseLost'. -/
def mouseLostCard : Claim7 := { stood := { row := mouseLostRow, standIns := [], harness := (true, "113f882a1d9b5ae28fc18c7513d7d140d4f0d31d64ac4f6eb536983bb8a1d247"), looks := false }, kinds := [], alts := [], laidByText := true, laidKinds := [.data, .data, .data, .data, .pinned], laidTests := true, laidLooks := .later }
def MouseLostCardSaid : Prop := Claim7.holds Tryd.pinned (.plain (OpenSpec.ofChange mouseLostSpec)) mouseLostCard

/-- THE TIED CARD OF 'clavierlaw16.MouseOld'. -/
def mouseOldCard : Claim7 := { stood := { row := mouseOldRow, standIns := [], harness := (true, "113f882a1d9b5ae28fc18c7513d7d140d4f0d31d64ac4f6eb536983bb8a1d247"), looks := false }, kinds := [], alts := [], laidByText := true, laidKinds := [.data, .data, .data, .data, .pinned], laidTests := true, laidLooks := .later }
def MouseOldCardSaid : Prop := Claim7.holds Tryd.pinned (.plain (OpenSpec.ofChange mouseOldSpec)) mouseOldCard

/-- THE SECOND FORM's CARD OF 'clavierlaw03.WirePuts'. -/
def wirePutsUptoCard : Claim7 := { stood := { row := wirePutsUptoRow, standIns := [], harness := (true, "113f882a1d9b5ae28fc18c7513d7d140d4f0d31d64ac4f6eb536983bb8a1d247"), looks := false }, kinds := [], alts := [], laidByText := true, laidKinds := [.data, .data, .data, .data, .pinned], laidTests := true, laidLooks := .later }
def WirePutsUptoCardSaid : Prop := Claim7.holds Tryd.pinned (.plain (OpenSpec.upto wirePutsSpec)) wirePutsUptoCard

/-- THE SECOND FORM's CARD OF 'clavierlaw03.WireBack'. -/
def wireBackUptoCard : Claim7 := { stood := { row := wireBackUptoRow, standIns := [], harness := (true, "113f882a1d9b5ae28fc18c7513d7d140d4f0d31d64ac4f6eb536983bb8a1d247"), looks := false }, kinds := [], alts := [], laidByText := true, laidKinds := [.data, .data, .data, .data, .pinned], laidTests := true, laidLooks := .later }
def WireBackUptoCardSaid : Prop := Claim7.holds Tryd.pinned (.plain (OpenSpec.upto wireBackSpec)) wireBackUptoCard

/-- THE SECOND FORM's CARD OF 'clavierlaw03.WireSame'. -/
def wireSameUptoCard : Claim7 := { stood := { row := wireSameUptoRow, standIns := [], harness := (true, "113f882a1d9b5ae28fc18c7513d7d140d4f0d31d64ac4f6eb536983bb8a1d247"), looks := false }, kinds := [], alts := [], laidByText := true, laidKinds := [.data, .data, .data, .data, .pinned], laidTests := true, laidLooks := .later }
def WireSameUptoCardSaid : Prop := Claim7.holds Tryd.pinned (.plain (OpenSpec.upto wireSameSpec)) wireSameUptoCard

/-- THE SECOND FORM's CARD OF 'clavierlaw03.WireLists'. -/
def wireListsUptoCard : Claim7 := { stood := { row := wireListsUptoRow, standIns := [], harness := (true, "113f882a1d9b5ae28fc18c7513d7d140d4f0d31d64ac4f6eb536983bb8a1d247"), looks := false }, kinds := [], alts := [], laidByText := true, laidKinds := [.data, .data, .data, .data, .pinned], laidTests := true, laidLooks := .later }
def WireListsUptoCardSaid : Prop := Claim7.holds Tryd.pinned (.plain (OpenSpec.upto wireListsSpec)) wireListsUptoCard

/-- THE SECOND FORM's CARD OF 'clavierlaw03.WireNums'. -/
def wireNumsUptoCard : Claim7 := { stood := { row := wireNumsUptoRow, standIns := [], harness := (true, "113f882a1d9b5ae28fc18c7513d7d140d4f0d31d64ac4f6eb536983bb8a1d247"), looks := false }, kinds := [], alts := [], laidByText := true, laidKinds := [.data, .data, .data, .data, .pinned], laidTests := true, laidLooks := .later }
def WireNumsUptoCardSaid : Prop := Claim7.holds Tryd.pinned (.plain (OpenSpec.upto wireNumsSpec)) wireNumsUptoCard

/-- THE SECOND FORM's CARD OF 'clavierlaw16.MouseBack'. -/
def mouseBackUptoCard : Claim7 := { stood := { row := mouseBackUptoRow, standIns := [], harness := (true, "113f882a1d9b5ae28fc18c7513d7d140d4f0d31d64ac4f6eb536983bb8a1d247"), looks := false }, kinds := [], alts := [], laidByText := true, laidKinds := [.data, .data, .data, .data, .pinned], laidTests := true, laidLooks := .later }
def MouseBackUptoCardSaid : Prop := Claim7.holds Tryd.pinned (.plain (OpenSpec.upto mouseBackSpec)) mouseBackUptoCard

/-- THE SECOND FORM's CARD OF 'clavierlaw16.MouseRange'. -/
def mouseRangeUptoCard : Claim7 := { stood := { row := mouseRangeUptoRow, standIns := [], harness := (true, "113f882a1d9b5ae28fc18c7513d7d140d4f0d31d64ac4f6eb536983bb8a1d247"), looks := false }, kinds := [], alts := [], laidByText := true, laidKinds := [.data, .data, .data, .data, .pinned], laidTests := true, laidLooks := .later }
def MouseRangeUptoCardSaid : Prop := Claim7.holds Tryd.pinned (.plain (OpenSpec.upto mouseRangeSpec)) mouseRangeUptoCard

/-- THE SECOND FORM's CARD OF 'clavierlaw16.MouseLost'. -/
def mouseLostUptoCard : Claim7 := { stood := { row := mouseLostUptoRow, standIns := [], harness := (true, "113f882a1d9b5ae28fc18c7513d7d140d4f0d31d64ac4f6eb536983bb8a1d247"), looks := false }, kinds := [], alts := [], laidByText := true, laidKinds := [.data, .data, .data, .data, .pinned], laidTests := true, laidLooks := .later }
def MouseLostUptoCardSaid : Prop := Claim7.holds Tryd.pinned (.plain (OpenSpec.upto mouseLostSpec)) mouseLostUptoCard

/-- THE SECOND FORM's CARD OF 'clavierlaw16.MouseOld'. -/
def mouseOldUptoCard : Claim7 := { stood := { row := mouseOldUptoRow, standIns := [], harness := (true, "113f882a1d9b5ae28fc18c7513d7d140d4f0d31d64ac4f6eb536983bb8a1d247"), looks := false }, kinds := [], alts := [], laidByText := true, laidKinds := [.data, .data, .data, .data, .pinned], laidTests := true, laidLooks := .later }
def MouseOldUptoCardSaid : Prop := Claim7.holds Tryd.pinned (.plain (OpenSpec.upto mouseOldSpec)) mouseOldUptoCard
end Rows
end Go.Proofs.YtfnngjnfajnpaaaDoor
