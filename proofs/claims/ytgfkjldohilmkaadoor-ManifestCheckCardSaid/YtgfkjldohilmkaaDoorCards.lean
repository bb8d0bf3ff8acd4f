/-
  DERIVED. GIVEN WITH THE SEED: THE CARDS: each row of YtgfkjldohilmkaaDoorRows.lean that lists a variable, with what it lists TIED to the program's text (the seventh form; the later family's looks); each row that meets fmt, with fmt's text TOLD by the authors' own Lean function (tested against real Go, not proved from fmt's source: count such statements apart). THE CARD IS WHAT COUNTS. Prove the row's statement (the work); the ties are given (YtgfkjldohilmkaaDoorTie.lean); close each card by the builder's one call (the guide's Derived/Test/ToyasCard.lean, 'card_holds'). Laid BY PROGRAM, IN A SANDBOX (cutbox-door.mjs). By AI agents, Wed Nov 11 2026. No macro, syntax, notation, axiom, sorry.
-/
import Derived.Test.YtgfkjldohilmkaaDoorRows
import GoSem.ClaimSeven
namespace Go.Proofs.YtgfkjldohilmkaaDoor
namespace Rows

/-- THE TIED CARD OF 'lifelinelaw16.ManifestBack'. -/
def manifestBackCard : Claim7 := { stood := { row := manifestBackRow, standIns := [], harness := (true, "f686a160769d3001944ee4b590d426d793bea4d84598a150f1444d35f2b0b8dd"), looks := true }, kinds := [], alts := [], laidByText := true, laidKinds := [.data, .data, .data, .sentinel, .sentinel], laidTests := true, laidLooks := .later }
def ManifestBackCardSaid : Prop := Claim7.holds Tryd.pinned (.plain (OpenSpec.ofChange manifestBackSpec)) manifestBackCard

/-- THE TIED CARD OF 'lifelinelaw16.ManifestText'. -/
def manifestTextCard : Claim7 := { stood := { row := manifestTextRow, standIns := [], harness := (true, "f686a160769d3001944ee4b590d426d793bea4d84598a150f1444d35f2b0b8dd"), looks := true }, kinds := [], alts := [], laidByText := true, laidKinds := [.data, .data, .data, .sentinel, .sentinel], laidTests := true, laidLooks := .later }
def ManifestTextCardSaid : Prop := Claim7.holds Tryd.pinned (.plain (OpenSpec.ofChange manifestTextSpec)) manifestTextCard

/-- THE TIED CARD OF 'lifelinelaw16.ManifestCut'. -/
def manifestCutCard : Claim7 := { stood := { row := manifestCutRow, standIns := [], harness := (true, "f686a160769d3001944ee4b590d426d793bea4d84598a150f1444d35f2b0b8dd"), looks := true }, kinds := [], alts := [], laidByText := true, laidKinds := [.data, .data, .data, .sentinel, .sentinel], laidTests := true, laidLooks := .later }
def ManifestCutCardSaid : Prop := Claim7.holds Tryd.pinned (.plain (OpenSpec.ofChange manifestCutSpec)) manifestCutCard

/-- THE TIED CARD OF 'lifelinelaw16.ManifestRoom'. -/
def manifestRoomCard : Claim7 := { stood := { row := manifestRoomRow, standIns := [], harness := (true, "f686a160769d3001944ee4b590d426d793bea4d84598a150f1444d35f2b0b8dd"), looks := true }, kinds := [], alts := [], laidByText := true, laidKinds := [.data, .data, .data, .sentinel, .sentinel], laidTests := true, laidLooks := .later }
def ManifestRoomCardSaid : Prop := Claim7.holds Tryd.pinned (.plain (OpenSpec.ofChange manifestRoomSpec)) manifestRoomCard

/-- THE TIED CARD OF 'lifelinelaw16.ManifestAgain'. -/
def manifestAgainCard : Claim7 := { stood := { row := manifestAgainRow, standIns := [], harness := (true, "f686a160769d3001944ee4b590d426d793bea4d84598a150f1444d35f2b0b8dd"), looks := true }, kinds := [], alts := [], laidByText := true, laidKinds := [.data, .data, .data, .handle, .sentinel, .sentinel], laidTests := true, laidLooks := .later }
def ManifestAgainCardSaid : Prop := Claim7.holds Tryd.pinned (.plain (OpenSpec.ofChange manifestAgainSpec)) manifestAgainCard

/-- THE TIED CARD OF 'lifelinelaw16.ManifestCheck'. -/
def manifestCheckCard : Claim7 := { stood := { row := manifestCheckRow, standIns := [], harness := (true, "f686a160769d3001944ee4b590d426d793bea4d84598a150f1444d35f2b0b8dd"), looks := true }, kinds := [], alts := [], laidByText := true, laidKinds := [.data, .data, .data, .handle, .sentinel, .sentinel], laidTests := true, laidLooks := .later }
def ManifestCheckCardSaid : Prop := Claim7.holds Tryd.pinned (.plain (OpenSpec.ofChange manifestCheckSpec)) manifestCheckCard

/-- THE SECOND FORM's CARD OF 'lifelinelaw16.ManifestBack'. -/
def manifestBackUptoCard : Claim7 := { stood := { row := manifestBackUptoRow, standIns := [], harness := (true, "f686a160769d3001944ee4b590d426d793bea4d84598a150f1444d35f2b0b8dd"), looks := true }, kinds := [], alts := [], laidByText := true, laidKinds := [.data, .data, .data, .sentinel, .sentinel], laidTests := true, laidLooks := .later }
def ManifestBackUptoCardSaid : Prop := Claim7.holds Tryd.pinned (.plain (OpenSpec.upto manifestBackSpec)) manifestBackUptoCard

/-- THE SECOND FORM's CARD OF 'lifelinelaw16.ManifestText'. -/
def manifestTextUptoCard : Claim7 := { stood := { row := manifestTextUptoRow, standIns := [], harness := (true, "f686a160769d3001944ee4b590d426d793bea4d84598a150f1444d35f2b0b8dd"), looks := true }, kinds := [], alts := [], laidByText := true, laidKinds := [.data, .data, .data, .sentinel, .sentinel], laidTests := true, laidLooks := .later }
def ManifestTextUptoCardSaid : Prop := Claim7.holds Tryd.pinned (.plain (OpenSpec.upto manifestTextSpec)) manifestTextUptoCard

/-- THE SECOND FORM's CARD OF 'lifelinelaw16.ManifestCut'. -/
def manifestCutUptoCard : Claim7 := { stood := { row := manifestCutUptoRow, standIns := [], harness := (true, "f686a160769d3001944ee4b590d426d793bea4d84598a150f1444d35f2b0b8dd"), looks := true }, kinds := [], alts := [], laidByText := true, laidKinds := [.data, .data, .data, .sentinel, .sentinel], laidTests := true, laidLooks := .later }
def ManifestCutUptoCardSaid : Prop := Claim7.holds Tryd.pinned (.plain (OpenSpec.upto manifestCutSpec)) manifestCutUptoCard

/-- THE SECOND FORM's CARD OF 'lifelinelaw16.ManifestRoom'. -/
def manifestRoomUptoCard : Claim7 := { stood := { row := manifestRoomUptoRow, standIns := [], harness := (true, "f686a160769d3001944ee4b590d426d793bea4d84598a150f1444d35f2b0b8dd"), looks := true }, kinds := [], alts := [], laidByText := true, laidKinds := [.data, .data, .data, .sentinel, .sentinel], laidTests := true, laidLooks := .later }
def ManifestRoomUptoCardSaid : Prop := Claim7.holds Tryd.pinned (.plain (OpenSpec.upto manifestRoomSpec)) manifestRoomUptoCard

/-- THE SECOND FORM's CARD OF 'lifelinelaw16.ManifestAgain'. -/
def manifestAgainUptoCard : Claim7 := { stood := { row := manifestAgainUptoRow, standIns := [], harness := (true, "f686a160769d3001944ee4b590d426d793bea4d84598a150f1444d35f2b0b8dd"), looks := true }, kinds := [], alts := [], laidByText := true, laidKinds := [.data, .data, .data, .handle, .sentinel, .sentinel], laidTests := true, laidLooks := .later }
def ManifestAgainUptoCardSaid : Prop := Claim7.holds Tryd.pinned (.plain (OpenSpec.upto manifestAgainSpec)) manifestAgainUptoCard

/-- THE SECOND FORM's CARD OF 'lifelinelaw16.ManifestCheck'. -/
def manifestCheckUptoCard : Claim7 := { stood := { row := manifestCheckUptoRow, standIns := [], harness := (true, "f686a160769d3001944ee4b590d426d793bea4d84598a150f1444d35f2b0b8dd"), looks := true }, kinds := [], alts := [], laidByText := true, laidKinds := [.data, .data, .data, .handle, .sentinel, .sentinel], laidTests := true, laidLooks := .later }
def ManifestCheckUptoCardSaid : Prop := Claim7.holds Tryd.pinned (.plain (OpenSpec.upto manifestCheckSpec)) manifestCheckUptoCard
end Rows
end Go.Proofs.YtgfkjldohilmkaaDoor
