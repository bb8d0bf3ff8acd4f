/-
  DERIVED. GIVEN WITH THE SEED: THE CARDS: each row of YthmhappejchilaaGreatDoorRows.lean that lists a variable, with what it lists TIED to the program's text (the seventh form; the later family's looks); each row that meets fmt, with fmt's text TOLD by the authors' own Lean function (tested against real Go, not proved from fmt's source: count such statements apart). THE CARD IS WHAT COUNTS. Prove the row's statement (the work); the ties are given (YthmhappejchilaaGreatDoorTie.lean); close each card by the builder's one call (the guide's Derived/Test/ToyasCard.lean, 'card_holds'). Laid BY PROGRAM, IN A SANDBOX (cutbox-door.mjs). By AI agents, Wed Nov 11 2026. No macro, syntax, notation, axiom, sorry.
-/
import Derived.Test.YthmhappejchilaaGreatDoorRows
import GoSem.ClaimSeven
namespace Go.Proofs.YthmhappejchilaaGreatDoor
namespace Rows

/-- THE TIED CARD OF 'lifelinelaw13.BatchTalk'. -/
def batchTalkCard : Claim7 := { stood := { row := batchTalkRow, standIns := [], harness := (true, "964d7ed357a94aea00ed8dad4442a96bbfe11a85342f348c7dae0b2257654490"), looks := true }, kinds := [], alts := [], laidByText := true, laidKinds := [.data, .data, .data, .data, .sentinel, .sentinel, .pinned], laidTests := true, laidLooks := .later }
def BatchTalkCardSaid : Prop := Claim7.holds Tryz.pinned (.plain (OpenSpec.ofChange batchTalkSpec)) batchTalkCard

/-- THE TIED CARD OF 'lifelinelaw13.BatchSends'. -/
def batchSendsCard : Claim7 := { stood := { row := batchSendsRow, standIns := [], harness := (true, "964d7ed357a94aea00ed8dad4442a96bbfe11a85342f348c7dae0b2257654490"), looks := true }, kinds := [], alts := [], laidByText := true, laidKinds := [.data, .data, .data, .data, .sentinel, .sentinel, .pinned], laidTests := true, laidLooks := .later }
def BatchSendsCardSaid : Prop := Claim7.holds Tryz.pinned (.plain (OpenSpec.ofChange batchSendsSpec)) batchSendsCard

/-- THE TIED CARD OF 'lifelinelaw13.BatchTakes'. -/
def batchTakesCard : Claim7 := { stood := { row := batchTakesRow, standIns := [], harness := (true, "964d7ed357a94aea00ed8dad4442a96bbfe11a85342f348c7dae0b2257654490"), looks := true }, kinds := [], alts := [], laidByText := true, laidKinds := [.data, .data, .data, .data, .sentinel, .sentinel, .pinned], laidTests := true, laidLooks := .later }
def BatchTakesCardSaid : Prop := Claim7.holds Tryz.pinned (.plain (OpenSpec.ofChange batchTakesSpec)) batchTakesCard

/-- THE TIED CARD OF 'lifelinelaw13.BatchEmpty'. -/
def batchEmptyCard : Claim7 := { stood := { row := batchEmptyRow, standIns := [], harness := (true, "964d7ed357a94aea00ed8dad4442a96bbfe11a85342f348c7dae0b2257654490"), looks := true }, kinds := [], alts := [], laidByText := true, laidKinds := [.data, .data, .data, .data, .sentinel, .sentinel, .pinned], laidTests := true, laidLooks := .later }
def BatchEmptyCardSaid : Prop := Claim7.holds Tryz.pinned (.plain (OpenSpec.ofChange batchEmptySpec)) batchEmptyCard

/-- THE TIED CARD OF 'lifelinelaw13.BatchNone'. -/
def batchNoneCard : Claim7 := { stood := { row := batchNoneRow, standIns := [], harness := (true, "964d7ed357a94aea00ed8dad4442a96bbfe11a85342f348c7dae0b2257654490"), looks := true }, kinds := [], alts := [], laidByText := true, laidKinds := [.data, .data, .data, .data, .handle, .sentinel, .sentinel, .pinned], laidTests := true, laidLooks := .later }
def BatchNoneCardSaid : Prop := Claim7.holds Tryz.pinned (.plain (OpenSpec.ofChange batchNoneSpec)) batchNoneCard

/-- THE TIED CARD OF 'lifelinelaw13.BatchEnds'. -/
def batchEndsCard : Claim7 := { stood := { row := batchEndsRow, standIns := [], harness := (true, "964d7ed357a94aea00ed8dad4442a96bbfe11a85342f348c7dae0b2257654490"), looks := true }, kinds := [], alts := [], laidByText := true, laidKinds := [.data, .data, .data, .data, .handle, .sentinel, .sentinel, .pinned], laidTests := true, laidLooks := .later }
def BatchEndsCardSaid : Prop := Claim7.holds Tryz.pinned (.plain (OpenSpec.ofChange batchEndsSpec)) batchEndsCard

/-- THE SECOND FORM's CARD OF 'lifelinelaw13.BatchTalk'. -/
def batchTalkUptoCard : Claim7 := { stood := { row := batchTalkUptoRow, standIns := [], harness := (true, "964d7ed357a94aea00ed8dad4442a96bbfe11a85342f348c7dae0b2257654490"), looks := true }, kinds := [], alts := [], laidByText := true, laidKinds := [.data, .data, .data, .data, .sentinel, .sentinel, .pinned], laidTests := true, laidLooks := .later }
def BatchTalkUptoCardSaid : Prop := Claim7.holds Tryz.pinned (.plain (OpenSpec.upto batchTalkSpec)) batchTalkUptoCard

/-- THE SECOND FORM's CARD OF 'lifelinelaw13.BatchSends'. -/
def batchSendsUptoCard : Claim7 := { stood := { row := batchSendsUptoRow, standIns := [], harness := (true, "964d7ed357a94aea00ed8dad4442a96bbfe11a85342f348c7dae0b2257654490"), looks := true }, kinds := [], alts := [], laidByText := true, laidKinds := [.data, .data, .data, .data, .sentinel, .sentinel, .pinned], laidTests := true, laidLooks := .later }
def BatchSendsUptoCardSaid : Prop := Claim7.holds Tryz.pinned (.plain (OpenSpec.upto batchSendsSpec)) batchSendsUptoCard

/-- THE SECOND FORM's CARD OF 'lifelinelaw13.BatchTakes'. -/
def batchTakesUptoCard : Claim7 := { stood := { row := batchTakesUptoRow, standIns := [], harness := (true, "964d7ed357a94aea00ed8dad4442a96bbfe11a85342f348c7dae0b2257654490"), looks := true }, kinds := [], alts := [], laidByText := true, laidKinds := [.data, .data, .data, .data, .sentinel, .sentinel, .pinned], laidTests := true, laidLooks := .later }
def BatchTakesUptoCardSaid : Prop := Claim7.holds Tryz.pinned (.plain (OpenSpec.upto batchTakesSpec)) batchTakesUptoCard

/-- THE SECOND FORM's CARD OF 'lifelinelaw13.BatchEmpty'. -/
def batchEmptyUptoCard : Claim7 := { stood := { row := batchEmptyUptoRow, standIns := [], harness := (true, "964d7ed357a94aea00ed8dad4442a96bbfe11a85342f348c7dae0b2257654490"), looks := true }, kinds := [], alts := [], laidByText := true, laidKinds := [.data, .data, .data, .data, .sentinel, .sentinel, .pinned], laidTests := true, laidLooks := .later }
def BatchEmptyUptoCardSaid : Prop := Claim7.holds Tryz.pinned (.plain (OpenSpec.upto batchEmptySpec)) batchEmptyUptoCard

/-- THE SECOND FORM's CARD OF 'lifelinelaw13.BatchNone'. -/
def batchNoneUptoCard : Claim7 := { stood := { row := batchNoneUptoRow, standIns := [], harness := (true, "964d7ed357a94aea00ed8dad4442a96bbfe11a85342f348c7dae0b2257654490"), looks := true }, kinds := [], alts := [], laidByText := true, laidKinds := [.data, .data, .data, .data, .handle, .sentinel, .sentinel, .pinned], laidTests := true, laidLooks := .later }
def BatchNoneUptoCardSaid : Prop := Claim7.holds Tryz.pinned (.plain (OpenSpec.upto batchNoneSpec)) batchNoneUptoCard

/-- THE SECOND FORM's CARD OF 'lifelinelaw13.BatchEnds'. -/
def batchEndsUptoCard : Claim7 := { stood := { row := batchEndsUptoRow, standIns := [], harness := (true, "964d7ed357a94aea00ed8dad4442a96bbfe11a85342f348c7dae0b2257654490"), looks := true }, kinds := [], alts := [], laidByText := true, laidKinds := [.data, .data, .data, .data, .handle, .sentinel, .sentinel, .pinned], laidTests := true, laidLooks := .later }
def BatchEndsUptoCardSaid : Prop := Claim7.holds Tryz.pinned (.plain (OpenSpec.upto batchEndsSpec)) batchEndsUptoCard
end Rows
end Go.Proofs.YthmhappejchilaaGreatDoor
