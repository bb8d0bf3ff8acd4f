/-
  DERIVED. GIVEN WITH THE SEED: THE CARDS: each row of YtjlicambfepfiaaGreatDoorRows.lean that lists a variable, with what it lists TIED to the program's text (the seventh form; the later family's looks); each row that meets fmt, with fmt's text TOLD by the authors' own Lean function (tested against real Go, not proved from fmt's source: count such statements apart). THE CARD IS WHAT COUNTS. Prove the row's statement (the work); the ties are given (YtjlicambfepfiaaGreatDoorTie.lean); close each card by the builder's one call (the guide's Derived/Test/ToyasCard.lean, 'card_holds'). Laid BY PROGRAM, IN A SANDBOX (cutbox-door.mjs). By AI agents, Wed Nov 11 2026. No macro, syntax, notation, axiom, sorry.
-/
import Derived.Test.YtjlicambfepfiaaGreatDoorRows
import GoSem.ClaimSeven
namespace Go.Proofs.YtjlicambfepfiaaGreatDoor
namespace Rows

/-- THE TIED CARD OF 'lifelinelaw17.DialogFind'. -/
def dialogFindCard : Claim7 := { stood := { row := dialogFindRow, standIns := [], harness := (true, "18d28af1482c6c5367c7b533969963f010938f638e9207cabd5d20b36de987ff"), looks := true }, kinds := [], alts := [], laidByText := true, laidKinds := [.data, .data, .data, .handle, .sentinel, .sentinel], laidTests := true, laidLooks := .later }
def DialogFindCardSaid : Prop := Claim7.holds Tryz.pinned (.plain (OpenSpec.ofChange dialogFindSpec)) dialogFindCard

/-- THE TIED CARD OF 'lifelinelaw17.DialogNumbers'. -/
def dialogNumbersCard : Claim7 := { stood := { row := dialogNumbersRow, standIns := [], harness := (true, "18d28af1482c6c5367c7b533969963f010938f638e9207cabd5d20b36de987ff"), looks := true }, kinds := [], alts := [], laidByText := true, laidKinds := [.data, .data, .data, .handle, .sentinel, .sentinel], laidTests := true, laidLooks := .later }
def DialogNumbersCardSaid : Prop := Claim7.holds Tryz.pinned (.plain (OpenSpec.ofChange dialogNumbersSpec)) dialogNumbersCard

/-- THE TIED CARD OF 'lifelinelaw17.DialogBack'. -/
def dialogBackCard : Claim7 := { stood := { row := dialogBackRow, standIns := [], harness := (true, "18d28af1482c6c5367c7b533969963f010938f638e9207cabd5d20b36de987ff"), looks := true }, kinds := [], alts := [], laidByText := true, laidKinds := [.data, .data, .data, .handle, .sentinel, .sentinel], laidTests := true, laidLooks := .later }
def DialogBackCardSaid : Prop := Claim7.holds Tryz.pinned (.plain (OpenSpec.ofChange dialogBackSpec)) dialogBackCard

/-- THE TIED CARD OF 'lifelinelaw17.DialogText'. -/
def dialogTextCard : Claim7 := { stood := { row := dialogTextRow, standIns := [], harness := (true, "18d28af1482c6c5367c7b533969963f010938f638e9207cabd5d20b36de987ff"), looks := true }, kinds := [], alts := [], laidByText := true, laidKinds := [.data, .data, .data, .handle, .sentinel, .sentinel], laidTests := true, laidLooks := .later }
def DialogTextCardSaid : Prop := Claim7.holds Tryz.pinned (.plain (OpenSpec.ofChange dialogTextSpec)) dialogTextCard

/-- THE TIED CARD OF 'lifelinelaw17.DialogAgain'. -/
def dialogAgainCard : Claim7 := { stood := { row := dialogAgainRow, standIns := [], harness := (true, "18d28af1482c6c5367c7b533969963f010938f638e9207cabd5d20b36de987ff"), looks := true }, kinds := [], alts := [], laidByText := true, laidKinds := [.data, .data, .data, .handle, .sentinel, .sentinel], laidTests := true, laidLooks := .later }
def DialogAgainCardSaid : Prop := Claim7.holds Tryz.pinned (.plain (OpenSpec.ofChange dialogAgainSpec)) dialogAgainCard

/-- THE TIED CARD OF 'lifelinelaw18.PlayTries'. -/
def playTriesCard : Claim7 := { stood := { row := playTriesRow, standIns := [], harness := (true, "18d28af1482c6c5367c7b533969963f010938f638e9207cabd5d20b36de987ff"), looks := true }, kinds := [], alts := [], laidByText := true, laidKinds := [.data, .data, .data, .handle, .sentinel, .sentinel], laidTests := true, laidLooks := .later }
def PlayTriesCardSaid : Prop := Claim7.holds Tryz.pinned (.plain (OpenSpec.ofChange playTriesSpec)) playTriesCard

/-- THE TIED CARD OF 'lifelinelaw18.PlayHears'. -/
def playHearsCard : Claim7 := { stood := { row := playHearsRow, standIns := [], harness := (true, "18d28af1482c6c5367c7b533969963f010938f638e9207cabd5d20b36de987ff"), looks := true }, kinds := [], alts := [], laidByText := true, laidKinds := [.data, .data, .data, .handle, .sentinel, .sentinel], laidTests := true, laidLooks := .later }
def PlayHearsCardSaid : Prop := Claim7.holds Tryz.pinned (.plain (OpenSpec.ofChange playHearsSpec)) playHearsCard

/-- THE TIED CARD OF 'lifelinelaw18.PlayRound'. -/
def playRoundCard : Claim7 := { stood := { row := playRoundRow, standIns := [], harness := (true, "18d28af1482c6c5367c7b533969963f010938f638e9207cabd5d20b36de987ff"), looks := true }, kinds := [], alts := [], laidByText := true, laidKinds := [.data, .data, .data, .handle, .sentinel, .sentinel], laidTests := true, laidLooks := .later }
def PlayRoundCardSaid : Prop := Claim7.holds Tryz.pinned (.plain (OpenSpec.ofChange playRoundSpec)) playRoundCard

/-- THE TIED CARD OF 'lifelinelaw18.PlayOver'. -/
def playOverCard : Claim7 := { stood := { row := playOverRow, standIns := [], harness := (true, "18d28af1482c6c5367c7b533969963f010938f638e9207cabd5d20b36de987ff"), looks := true }, kinds := [], alts := [], laidByText := true, laidKinds := [.data, .data, .data, .handle, .sentinel, .sentinel], laidTests := true, laidLooks := .later }
def PlayOverCardSaid : Prop := Claim7.holds Tryz.pinned (.plain (OpenSpec.ofChange playOverSpec)) playOverCard

/-- THE SECOND FORM's CARD OF 'lifelinelaw17.DialogFind'. -/
def dialogFindUptoCard : Claim7 := { stood := { row := dialogFindUptoRow, standIns := [], harness := (true, "18d28af1482c6c5367c7b533969963f010938f638e9207cabd5d20b36de987ff"), looks := true }, kinds := [], alts := [], laidByText := true, laidKinds := [.data, .data, .data, .handle, .sentinel, .sentinel], laidTests := true, laidLooks := .later }
def DialogFindUptoCardSaid : Prop := Claim7.holds Tryz.pinned (.plain (OpenSpec.upto dialogFindSpec)) dialogFindUptoCard

/-- THE SECOND FORM's CARD OF 'lifelinelaw17.DialogNumbers'. -/
def dialogNumbersUptoCard : Claim7 := { stood := { row := dialogNumbersUptoRow, standIns := [], harness := (true, "18d28af1482c6c5367c7b533969963f010938f638e9207cabd5d20b36de987ff"), looks := true }, kinds := [], alts := [], laidByText := true, laidKinds := [.data, .data, .data, .handle, .sentinel, .sentinel], laidTests := true, laidLooks := .later }
def DialogNumbersUptoCardSaid : Prop := Claim7.holds Tryz.pinned (.plain (OpenSpec.upto dialogNumbersSpec)) dialogNumbersUptoCard

/-- THE SECOND FORM's CARD OF 'lifelinelaw17.DialogBack'. -/
def dialogBackUptoCard : Claim7 := { stood := { row := dialogBackUptoRow, standIns := [], harness := (true, "18d28af1482c6c5367c7b533969963f010938f638e9207cabd5d20b36de987ff"), looks := true }, kinds := [], alts := [], laidByText := true, laidKinds := [.data, .data, .data, .handle, .sentinel, .sentinel], laidTests := true, laidLooks := .later }
def DialogBackUptoCardSaid : Prop := Claim7.holds Tryz.pinned (.plain (OpenSpec.upto dialogBackSpec)) dialogBackUptoCard

/-- THE SECOND FORM's CARD OF 'lifelinelaw17.DialogText'. -/
def dialogTextUptoCard : Claim7 := { stood := { row := dialogTextUptoRow, standIns := [], harness := (true, "18d28af1482c6c5367c7b533969963f010938f638e9207cabd5d20b36de987ff"), looks := true }, kinds := [], alts := [], laidByText := true, laidKinds := [.data, .data, .data, .handle, .sentinel, .sentinel], laidTests := true, laidLooks := .later }
def DialogTextUptoCardSaid : Prop := Claim7.holds Tryz.pinned (.plain (OpenSpec.upto dialogTextSpec)) dialogTextUptoCard

/-- THE SECOND FORM's CARD OF 'lifelinelaw17.DialogAgain'. -/
def dialogAgainUptoCard : Claim7 := { stood := { row := dialogAgainUptoRow, standIns := [], harness := (true, "18d28af1482c6c5367c7b533969963f010938f638e9207cabd5d20b36de987ff"), looks := true }, kinds := [], alts := [], laidByText := true, laidKinds := [.data, .data, .data, .handle, .sentinel, .sentinel], laidTests := true, laidLooks := .later }
def DialogAgainUptoCardSaid : Prop := Claim7.holds Tryz.pinned (.plain (OpenSpec.upto dialogAgainSpec)) dialogAgainUptoCard

/-- THE SECOND FORM's CARD OF 'lifelinelaw18.PlayTries'. -/
def playTriesUptoCard : Claim7 := { stood := { row := playTriesUptoRow, standIns := [], harness := (true, "18d28af1482c6c5367c7b533969963f010938f638e9207cabd5d20b36de987ff"), looks := true }, kinds := [], alts := [], laidByText := true, laidKinds := [.data, .data, .data, .handle, .sentinel, .sentinel], laidTests := true, laidLooks := .later }
def PlayTriesUptoCardSaid : Prop := Claim7.holds Tryz.pinned (.plain (OpenSpec.upto playTriesSpec)) playTriesUptoCard

/-- THE SECOND FORM's CARD OF 'lifelinelaw18.PlayHears'. -/
def playHearsUptoCard : Claim7 := { stood := { row := playHearsUptoRow, standIns := [], harness := (true, "18d28af1482c6c5367c7b533969963f010938f638e9207cabd5d20b36de987ff"), looks := true }, kinds := [], alts := [], laidByText := true, laidKinds := [.data, .data, .data, .handle, .sentinel, .sentinel], laidTests := true, laidLooks := .later }
def PlayHearsUptoCardSaid : Prop := Claim7.holds Tryz.pinned (.plain (OpenSpec.upto playHearsSpec)) playHearsUptoCard

/-- THE SECOND FORM's CARD OF 'lifelinelaw18.PlayRound'. -/
def playRoundUptoCard : Claim7 := { stood := { row := playRoundUptoRow, standIns := [], harness := (true, "18d28af1482c6c5367c7b533969963f010938f638e9207cabd5d20b36de987ff"), looks := true }, kinds := [], alts := [], laidByText := true, laidKinds := [.data, .data, .data, .handle, .sentinel, .sentinel], laidTests := true, laidLooks := .later }
def PlayRoundUptoCardSaid : Prop := Claim7.holds Tryz.pinned (.plain (OpenSpec.upto playRoundSpec)) playRoundUptoCard

/-- THE SECOND FORM's CARD OF 'lifelinelaw18.PlayOver'. -/
def playOverUptoCard : Claim7 := { stood := { row := playOverUptoRow, standIns := [], harness := (true, "18d28af1482c6c5367c7b533969963f010938f638e9207cabd5d20b36de987ff"), looks := true }, kinds := [], alts := [], laidByText := true, laidKinds := [.data, .data, .data, .handle, .sentinel, .sentinel], laidTests := true, laidLooks := .later }
def PlayOverUptoCardSaid : Prop := Claim7.holds Tryz.pinned (.plain (OpenSpec.upto playOverSpec)) playOverUptoCard
end Rows
end Go.Proofs.YtjlicambfepfiaaGreatDoor
