/-
  DERIVED. GIVEN WITH THE SEED: THE CARDS: each row of YtiapjjgmmiifmaaGreatDoorRows.lean that lists a variable, with what it lists TIED to the program's text (the seventh form; the later family's looks); each row that meets fmt, with fmt's text TOLD by the authors' own Lean function (tested against real Go, not proved from fmt's source: count such statements apart). THE CARD IS WHAT COUNTS. Prove the row's statement (the work); the ties are given (YtiapjjgmmiifmaaGreatDoorTie.lean); close each card by the builder's one call (the guide's Derived/Test/ToyasCard.lean, 'card_holds'). Laid BY PROGRAM, IN A SANDBOX (cutbox-door.mjs). By AI agents, Wed Nov 11 2026. No macro, syntax, notation, axiom, sorry.
-/
import Derived.Test.YtiapjjgmmiifmaaGreatDoorRows
import GoSem.ClaimSeven
namespace Go.Proofs.YtiapjjgmmiifmaaGreatDoor
namespace Rows

/-- THE TIED CARD OF 'lifelinelaw20.TargetSums'. -/
def targetSumsCard : Claim7 := { stood := { row := targetSumsRow, standIns := [], harness := (true, "62c9c558e666ed7b06acd825c1038ae3c85dc6af3ea6e368392ab8f5b04e8767"), looks := true }, kinds := [], alts := [], laidByText := true, laidKinds := [.data, .data, .data, .data, .sentinel, .sentinel, .pinned], laidTests := true, laidLooks := .later }
def TargetSumsCardSaid : Prop := Claim7.holds Tryz.pinned (.plain (OpenSpec.ofChange targetSumsSpec)) targetSumsCard

/-- THE TIED CARD OF 'lifelinelaw20.TargetLoads'. -/
def targetLoadsCard : Claim7 := { stood := { row := targetLoadsRow, standIns := [], harness := (true, "62c9c558e666ed7b06acd825c1038ae3c85dc6af3ea6e368392ab8f5b04e8767"), looks := true }, kinds := [], alts := [], laidByText := true, laidKinds := [.data, .data, .data, .data, .sentinel, .sentinel, .pinned], laidTests := true, laidLooks := .later }
def TargetLoadsCardSaid : Prop := Claim7.holds Tryz.pinned (.plain (OpenSpec.ofChange targetLoadsSpec)) targetLoadsCard

/-- THE TIED CARD OF 'lifelinelaw20.TargetLines'. -/
def targetLinesCard : Claim7 := { stood := { row := targetLinesRow, standIns := [], harness := (true, "62c9c558e666ed7b06acd825c1038ae3c85dc6af3ea6e368392ab8f5b04e8767"), looks := true }, kinds := [], alts := [], laidByText := true, laidKinds := [.data, .data, .data, .data, .sentinel, .sentinel, .pinned], laidTests := true, laidLooks := .later }
def TargetLinesCardSaid : Prop := Claim7.holds Tryz.pinned (.plain (OpenSpec.ofChange targetLinesSpec)) targetLinesCard

/-- THE TIED CARD OF 'lifelinelaw20.TargetAsleep'. -/
def targetAsleepCard : Claim7 := { stood := { row := targetAsleepRow, standIns := [], harness := (true, "62c9c558e666ed7b06acd825c1038ae3c85dc6af3ea6e368392ab8f5b04e8767"), looks := true }, kinds := [], alts := [], laidByText := true, laidKinds := [.data, .data, .data, .data, .sentinel, .sentinel, .pinned], laidTests := true, laidLooks := .later }
def TargetAsleepCardSaid : Prop := Claim7.holds Tryz.pinned (.plain (OpenSpec.ofChange targetAsleepSpec)) targetAsleepCard

/-- THE TIED CARD OF 'lifelinelaw20.TargetSafe'. -/
def targetSafeCard : Claim7 := { stood := { row := targetSafeRow, standIns := [], harness := (true, "62c9c558e666ed7b06acd825c1038ae3c85dc6af3ea6e368392ab8f5b04e8767"), looks := true }, kinds := [], alts := [], laidByText := true, laidKinds := [.data, .data, .data, .data, .sentinel, .sentinel, .pinned], laidTests := true, laidLooks := .later }
def TargetSafeCardSaid : Prop := Claim7.holds Tryz.pinned (.plain (OpenSpec.ofChange targetSafeSpec)) targetSafeCard

/-- THE TIED CARD OF 'lifelinelaw20.TargetScript'. -/
def targetScriptCard : Claim7 := { stood := { row := targetScriptRow, standIns := [], harness := (true, "62c9c558e666ed7b06acd825c1038ae3c85dc6af3ea6e368392ab8f5b04e8767"), looks := true }, kinds := [], alts := [], laidByText := true, laidKinds := [.data, .data, .data, .data, .sentinel, .sentinel, .pinned], laidTests := true, laidLooks := .later }
def TargetScriptCardSaid : Prop := Claim7.holds Tryz.pinned (.plain (OpenSpec.ofChange targetScriptSpec)) targetScriptCard

/-- THE SECOND FORM's CARD OF 'lifelinelaw20.TargetSums'. -/
def targetSumsUptoCard : Claim7 := { stood := { row := targetSumsUptoRow, standIns := [], harness := (true, "62c9c558e666ed7b06acd825c1038ae3c85dc6af3ea6e368392ab8f5b04e8767"), looks := true }, kinds := [], alts := [], laidByText := true, laidKinds := [.data, .data, .data, .data, .sentinel, .sentinel, .pinned], laidTests := true, laidLooks := .later }
def TargetSumsUptoCardSaid : Prop := Claim7.holds Tryz.pinned (.plain (OpenSpec.upto targetSumsSpec)) targetSumsUptoCard

/-- THE SECOND FORM's CARD OF 'lifelinelaw20.TargetLoads'. -/
def targetLoadsUptoCard : Claim7 := { stood := { row := targetLoadsUptoRow, standIns := [], harness := (true, "62c9c558e666ed7b06acd825c1038ae3c85dc6af3ea6e368392ab8f5b04e8767"), looks := true }, kinds := [], alts := [], laidByText := true, laidKinds := [.data, .data, .data, .data, .sentinel, .sentinel, .pinned], laidTests := true, laidLooks := .later }
def TargetLoadsUptoCardSaid : Prop := Claim7.holds Tryz.pinned (.plain (OpenSpec.upto targetLoadsSpec)) targetLoadsUptoCard

/-- THE SECOND FORM's CARD OF 'lifelinelaw20.TargetLines'. -/
def targetLinesUptoCard : Claim7 := { stood := { row := targetLinesUptoRow, standIns := [], harness := (true, "62c9c558e666ed7b06acd825c1038ae3c85dc6af3ea6e368392ab8f5b04e8767"), looks := true }, kinds := [], alts := [], laidByText := true, laidKinds := [.data, .data, .data, .data, .sentinel, .sentinel, .pinned], laidTests := true, laidLooks := .later }
def TargetLinesUptoCardSaid : Prop := Claim7.holds Tryz.pinned (.plain (OpenSpec.upto targetLinesSpec)) targetLinesUptoCard

/-- THE SECOND FORM's CARD OF 'lifelinelaw20.TargetAsleep'. -/
def targetAsleepUptoCard : Claim7 := { stood := { row := targetAsleepUptoRow, standIns := [], harness := (true, "62c9c558e666ed7b06acd825c1038ae3c85dc6af3ea6e368392ab8f5b04e8767"), looks := true }, kinds := [], alts := [], laidByText := true, laidKinds := [.data, .data, .data, .data, .sentinel, .sentinel, .pinned], laidTests := true, laidLooks := .later }
def TargetAsleepUptoCardSaid : Prop := Claim7.holds Tryz.pinned (.plain (OpenSpec.upto targetAsleepSpec)) targetAsleepUptoCard

/-- THE SECOND FORM's CARD OF 'lifelinelaw20.TargetSafe'. -/
def targetSafeUptoCard : Claim7 := { stood := { row := targetSafeUptoRow, standIns := [], harness := (true, "62c9c558e666ed7b06acd825c1038ae3c85dc6af3ea6e368392ab8f5b04e8767"), looks := true }, kinds := [], alts := [], laidByText := true, laidKinds := [.data, .data, .data, .data, .sentinel, .sentinel, .pinned], laidTests := true, laidLooks := .later }
def TargetSafeUptoCardSaid : Prop := Claim7.holds Tryz.pinned (.plain (OpenSpec.upto targetSafeSpec)) targetSafeUptoCard

/-- THE SECOND FORM's CARD OF 'lifelinelaw20.TargetScript'. -/
def targetScriptUptoCard : Claim7 := { stood := { row := targetScriptUptoRow, standIns := [], harness := (true, "62c9c558e666ed7b06acd825c1038ae3c85dc6af3ea6e368392ab8f5b04e8767"), looks := true }, kinds := [], alts := [], laidByText := true, laidKinds := [.data, .data, .data, .data, .sentinel, .sentinel, .pinned], laidTests := true, laidLooks := .later }
def TargetScriptUptoCardSaid : Prop := Claim7.holds Tryz.pinned (.plain (OpenSpec.upto targetScriptSpec)) targetScriptUptoCard
end Rows
end Go.Proofs.YtiapjjgmmiifmaaGreatDoor
