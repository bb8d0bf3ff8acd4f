/-
  DERIVED. GIVEN WITH THE SEED: THE CARDS: each row of YtkpjbpfemkkheaaDoorRows.lean that lists a variable, with what it lists TIED to the program's text (the seventh form; the later family's looks); each row that meets fmt, with fmt's text TOLD by the authors' own Lean function (tested against real Go, not proved from fmt's source: count such statements apart). THE CARD IS WHAT COUNTS. Prove the row's statement (the work); the ties are given (YtkpjbpfemkkheaaDoorTie.lean); close each card by the builder's one call (the guide's Derived/Test/ToyasCard.lean, 'card_holds'). Laid BY PROGRAM, IN A SANDBOX (cutbox-door.mjs). By AI agents, Wed Nov 11 2026. No macro, syntax, notation, axiom, sorry.
-/
import Derived.Test.YtkpjbpfemkkheaaDoorRows
import GoSem.ClaimSeven
namespace Go.Proofs.YtkpjbpfemkkheaaDoor
namespace Rows

/-- THE TIED CARD OF 'lifelinelaw05.HeaderName'. -/
def headerNameCard : Claim7 := { stood := { row := headerNameRow, standIns := [], harness := (true, "46cb41c27f8bcf2cb45dd17024d2e6cc30be4555db062fff5a2377f6cc0d9761"), looks := true }, kinds := [], alts := [], laidByText := true, laidKinds := [.data, .data, .data], laidTests := true, laidLooks := .later }
def HeaderNameCardSaid : Prop := Claim7.holds Tryd.pinned (.plain (OpenSpec.ofChange headerNameSpec)) headerNameCard

/-- THE TIED CARD OF 'lifelinelaw05.HeaderTwo'. -/
def headerTwoCard : Claim7 := { stood := { row := headerTwoRow, standIns := [], harness := (true, "46cb41c27f8bcf2cb45dd17024d2e6cc30be4555db062fff5a2377f6cc0d9761"), looks := true }, kinds := [], alts := [], laidByText := true, laidKinds := [.data, .data, .data], laidTests := true, laidLooks := .later }
def HeaderTwoCardSaid : Prop := Claim7.holds Tryd.pinned (.plain (OpenSpec.ofChange headerTwoSpec)) headerTwoCard

/-- THE TIED CARD OF 'lifelinelaw05.HeaderMake'. -/
def headerMakeCard : Claim7 := { stood := { row := headerMakeRow, standIns := [], harness := (true, "46cb41c27f8bcf2cb45dd17024d2e6cc30be4555db062fff5a2377f6cc0d9761"), looks := true }, kinds := [], alts := [], laidByText := true, laidKinds := [.data, .data, .data, .data, .sentinel, .sentinel, .pinned], laidTests := true, laidLooks := .later }
def HeaderMakeCardSaid : Prop := Claim7.holds Tryd.pinned (.plain (OpenSpec.ofChange headerMakeSpec)) headerMakeCard

/-- THE TIED CARD OF 'lifelinelaw05.HeaderRead'. -/
def headerReadCard : Claim7 := { stood := { row := headerReadRow, standIns := [], harness := (true, "46cb41c27f8bcf2cb45dd17024d2e6cc30be4555db062fff5a2377f6cc0d9761"), looks := true }, kinds := [], alts := [], laidByText := true, laidKinds := [.data, .data, .data, .data, .sentinel, .sentinel, .pinned], laidTests := true, laidLooks := .later }
def HeaderReadCardSaid : Prop := Claim7.holds Tryd.pinned (.plain (OpenSpec.ofChange headerReadSpec)) headerReadCard

/-- THE TIED CARD OF 'lifelinelaw05.HeaderEmpty'. -/
def headerEmptyCard : Claim7 := { stood := { row := headerEmptyRow, standIns := [], harness := (true, "46cb41c27f8bcf2cb45dd17024d2e6cc30be4555db062fff5a2377f6cc0d9761"), looks := true }, kinds := [], alts := [], laidByText := true, laidKinds := [.data, .data, .data, .data, .sentinel, .sentinel, .pinned], laidTests := true, laidLooks := .later }
def HeaderEmptyCardSaid : Prop := Claim7.holds Tryd.pinned (.plain (OpenSpec.ofChange headerEmptySpec)) headerEmptyCard

/-- THE TIED CARD OF 'lifelinelaw05.HeaderShort'. -/
def headerShortCard : Claim7 := { stood := { row := headerShortRow, standIns := [], harness := (true, "46cb41c27f8bcf2cb45dd17024d2e6cc30be4555db062fff5a2377f6cc0d9761"), looks := true }, kinds := [], alts := [], laidByText := true, laidKinds := [.data, .data, .data, .data, .sentinel, .sentinel, .pinned], laidTests := true, laidLooks := .later }
def HeaderShortCardSaid : Prop := Claim7.holds Tryd.pinned (.plain (OpenSpec.ofChange headerShortSpec)) headerShortCard

/-- THE SECOND FORM's CARD OF 'lifelinelaw05.HeaderName'. -/
def headerNameUptoCard : Claim7 := { stood := { row := headerNameUptoRow, standIns := [], harness := (true, "46cb41c27f8bcf2cb45dd17024d2e6cc30be4555db062fff5a2377f6cc0d9761"), looks := true }, kinds := [], alts := [], laidByText := true, laidKinds := [.data, .data, .data], laidTests := true, laidLooks := .later }
def HeaderNameUptoCardSaid : Prop := Claim7.holds Tryd.pinned (.plain (OpenSpec.upto headerNameSpec)) headerNameUptoCard

/-- THE SECOND FORM's CARD OF 'lifelinelaw05.HeaderTwo'. -/
def headerTwoUptoCard : Claim7 := { stood := { row := headerTwoUptoRow, standIns := [], harness := (true, "46cb41c27f8bcf2cb45dd17024d2e6cc30be4555db062fff5a2377f6cc0d9761"), looks := true }, kinds := [], alts := [], laidByText := true, laidKinds := [.data, .data, .data], laidTests := true, laidLooks := .later }
def HeaderTwoUptoCardSaid : Prop := Claim7.holds Tryd.pinned (.plain (OpenSpec.upto headerTwoSpec)) headerTwoUptoCard

/-- THE SECOND FORM's CARD OF 'lifelinelaw05.HeaderMake'. -/
def headerMakeUptoCard : Claim7 := { stood := { row := headerMakeUptoRow, standIns := [], harness := (true, "46cb41c27f8bcf2cb45dd17024d2e6cc30be4555db062fff5a2377f6cc0d9761"), looks := true }, kinds := [], alts := [], laidByText := true, laidKinds := [.data, .data, .data, .data, .sentinel, .sentinel, .pinned], laidTests := true, laidLooks := .later }
def HeaderMakeUptoCardSaid : Prop := Claim7.holds Tryd.pinned (.plain (OpenSpec.upto headerMakeSpec)) headerMakeUptoCard

/-- THE SECOND FORM's CARD OF 'lifelinelaw05.HeaderRead'. -/
def headerReadUptoCard : Claim7 := { stood := { row := headerReadUptoRow, standIns := [], harness := (true, "46cb41c27f8bcf2cb45dd17024d2e6cc30be4555db062fff5a2377f6cc0d9761"), looks := true }, kinds := [], alts := [], laidByText := true, laidKinds := [.data, .data, .data, .data, .sentinel, .sentinel, .pinned], laidTests := true, laidLooks := .later }
def HeaderReadUptoCardSaid : Prop := Claim7.holds Tryd.pinned (.plain (OpenSpec.upto headerReadSpec)) headerReadUptoCard

/-- THE SECOND FORM's CARD OF 'lifelinelaw05.HeaderEmpty'. -/
def headerEmptyUptoCard : Claim7 := { stood := { row := headerEmptyUptoRow, standIns := [], harness := (true, "46cb41c27f8bcf2cb45dd17024d2e6cc30be4555db062fff5a2377f6cc0d9761"), looks := true }, kinds := [], alts := [], laidByText := true, laidKinds := [.data, .data, .data, .data, .sentinel, .sentinel, .pinned], laidTests := true, laidLooks := .later }
def HeaderEmptyUptoCardSaid : Prop := Claim7.holds Tryd.pinned (.plain (OpenSpec.upto headerEmptySpec)) headerEmptyUptoCard

/-- THE SECOND FORM's CARD OF 'lifelinelaw05.HeaderShort'. -/
def headerShortUptoCard : Claim7 := { stood := { row := headerShortUptoRow, standIns := [], harness := (true, "46cb41c27f8bcf2cb45dd17024d2e6cc30be4555db062fff5a2377f6cc0d9761"), looks := true }, kinds := [], alts := [], laidByText := true, laidKinds := [.data, .data, .data, .data, .sentinel, .sentinel, .pinned], laidTests := true, laidLooks := .later }
def HeaderShortUptoCardSaid : Prop := Claim7.holds Tryd.pinned (.plain (OpenSpec.upto headerShortSpec)) headerShortUptoCard
end Rows
end Go.Proofs.YtkpjbpfemkkheaaDoor
