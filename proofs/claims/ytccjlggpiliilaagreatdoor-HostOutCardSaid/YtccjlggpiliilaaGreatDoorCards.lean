/-
  DERIVED. GIVEN WITH THE SEED: THE CARDS: each row of YtccjlggpiliilaaGreatDoorRows.lean that lists a variable, with what it lists TIED to the program's text (the seventh form; the later family's looks); each row that meets fmt, with fmt's text TOLD by the authors' own Lean function (tested against real Go, not proved from fmt's source: count such statements apart). THE CARD IS WHAT COUNTS. Prove the row's statement (the work); the ties are given (YtccjlggpiliilaaGreatDoorTie.lean); close each card by the builder's one call (the guide's Derived/Test/ToyasCard.lean, 'card_holds'). Laid BY PROGRAM, IN A SANDBOX (cutbox-door.mjs). By AI agents, Wed Nov 11 2026. No macro, syntax, notation, axiom, sorry.
-/
import Derived.Test.YtccjlggpiliilaaGreatDoorRows
import GoSem.ClaimSeven
namespace Go.Proofs.YtccjlggpiliilaaGreatDoor
namespace Rows

/-- THE TIED CARD OF 'lifelinelaw21.HostLost'. -/
def hostLostCard : Claim7 := { stood := { row := hostLostRow, standIns := [], harness := (true, "048403d53211f2e44758185db31d3e939ebe0096d219be9b7721e5bfb2cc1866"), looks := true }, kinds := [], alts := [], laidByText := true, laidKinds := [.data, .data, .data, .handle], laidTests := true, laidLooks := .later }
def HostLostCardSaid : Prop := Claim7.holds Tryz.pinned (.plain (OpenSpec.ofChange hostLostSpec)) hostLostCard

/-- THE TIED CARD OF 'lifelinelaw21.HostOut'. -/
def hostOutCard : Claim7 := { stood := { row := hostOutRow, standIns := [], harness := (true, "048403d53211f2e44758185db31d3e939ebe0096d219be9b7721e5bfb2cc1866"), looks := true }, kinds := [], alts := [], laidByText := true, laidKinds := [.data, .data, .data, .handle], laidTests := true, laidLooks := .later }
def HostOutCardSaid : Prop := Claim7.holds Tryz.pinned (.plain (OpenSpec.ofChange hostOutSpec)) hostOutCard

/-- THE TIED CARD OF 'lifelinelaw21.HostWrong'. -/
def hostWrongCard : Claim7 := { stood := { row := hostWrongRow, standIns := [], harness := (true, "048403d53211f2e44758185db31d3e939ebe0096d219be9b7721e5bfb2cc1866"), looks := true }, kinds := [], alts := [], laidByText := true, laidKinds := [.data, .data, .data, .handle], laidTests := true, laidLooks := .later }
def HostWrongCardSaid : Prop := Claim7.holds Tryz.pinned (.plain (OpenSpec.ofChange hostWrongSpec)) hostWrongCard

/-- THE TIED CARD OF 'lifelinelaw21.HostSilent'. -/
def hostSilentCard : Claim7 := { stood := { row := hostSilentRow, standIns := [], harness := (true, "048403d53211f2e44758185db31d3e939ebe0096d219be9b7721e5bfb2cc1866"), looks := true }, kinds := [], alts := [], laidByText := true, laidKinds := [.data, .data, .data, .handle], laidTests := true, laidLooks := .later }
def HostSilentCardSaid : Prop := Claim7.holds Tryz.pinned (.plain (OpenSpec.ofChange hostSilentSpec)) hostSilentCard

/-- THE SECOND FORM's CARD OF 'lifelinelaw21.HostLost'. -/
def hostLostUptoCard : Claim7 := { stood := { row := hostLostUptoRow, standIns := [], harness := (true, "048403d53211f2e44758185db31d3e939ebe0096d219be9b7721e5bfb2cc1866"), looks := true }, kinds := [], alts := [], laidByText := true, laidKinds := [.data, .data, .data, .handle], laidTests := true, laidLooks := .later }
def HostLostUptoCardSaid : Prop := Claim7.holds Tryz.pinned (.plain (OpenSpec.upto hostLostSpec)) hostLostUptoCard

/-- THE SECOND FORM's CARD OF 'lifelinelaw21.HostOut'. -/
def hostOutUptoCard : Claim7 := { stood := { row := hostOutUptoRow, standIns := [], harness := (true, "048403d53211f2e44758185db31d3e939ebe0096d219be9b7721e5bfb2cc1866"), looks := true }, kinds := [], alts := [], laidByText := true, laidKinds := [.data, .data, .data, .handle], laidTests := true, laidLooks := .later }
def HostOutUptoCardSaid : Prop := Claim7.holds Tryz.pinned (.plain (OpenSpec.upto hostOutSpec)) hostOutUptoCard

/-- THE SECOND FORM's CARD OF 'lifelinelaw21.HostWrong'. -/
def hostWrongUptoCard : Claim7 := { stood := { row := hostWrongUptoRow, standIns := [], harness := (true, "048403d53211f2e44758185db31d3e939ebe0096d219be9b7721e5bfb2cc1866"), looks := true }, kinds := [], alts := [], laidByText := true, laidKinds := [.data, .data, .data, .handle], laidTests := true, laidLooks := .later }
def HostWrongUptoCardSaid : Prop := Claim7.holds Tryz.pinned (.plain (OpenSpec.upto hostWrongSpec)) hostWrongUptoCard

/-- THE SECOND FORM's CARD OF 'lifelinelaw21.HostSilent'. -/
def hostSilentUptoCard : Claim7 := { stood := { row := hostSilentUptoRow, standIns := [], harness := (true, "048403d53211f2e44758185db31d3e939ebe0096d219be9b7721e5bfb2cc1866"), looks := true }, kinds := [], alts := [], laidByText := true, laidKinds := [.data, .data, .data, .handle], laidTests := true, laidLooks := .later }
def HostSilentUptoCardSaid : Prop := Claim7.holds Tryz.pinned (.plain (OpenSpec.upto hostSilentSpec)) hostSilentUptoCard
end Rows
end Go.Proofs.YtccjlggpiliilaaGreatDoor
