/-
  DERIVED. GIVEN WITH THE SEED: THE CARDS: each row of YtilknkpaghihhaaDoorRows.lean that lists a variable, with what it lists TIED to the program's text (the seventh form; the later family's looks); each row that meets fmt, with fmt's text TOLD by the authors' own Lean function (tested against real Go, not proved from fmt's source: count such statements apart). THE CARD IS WHAT COUNTS. Prove the row's statement (the work); the ties are given (YtilknkpaghihhaaDoorTie.lean); close each card by the builder's one call (the guide's Derived/Test/ToyasCard.lean, 'card_holds'). Laid BY PROGRAM, IN A SANDBOX (cutbox-door.mjs). By AI agents, Wed Nov 11 2026. No macro, syntax, notation, axiom, sorry.
-/
import Derived.Test.YtilknkpaghihhaaDoorRows
import GoSem.ClaimSeven
namespace Go.Proofs.YtilknkpaghihhaaDoor
namespace Rows

/-- THE TIED CARD OF 'lifelinelaw15.TokenQuote'. -/
def tokenQuoteCard : Claim7 := { stood := { row := tokenQuoteRow, standIns := [], harness := (true, "7227213e641f57db096fdf333562b9e299bf40518429b086bdeb2fe9bf559b5b"), looks := true }, kinds := [], alts := [], laidByText := true, laidKinds := [.data, .data, .data, .sentinel, .sentinel], laidTests := true, laidLooks := .later }
def TokenQuoteCardSaid : Prop := Claim7.holds Tryd.pinned (.plain (OpenSpec.ofChange tokenQuoteSpec)) tokenQuoteCard

/-- THE TIED CARD OF 'lifelinelaw15.TokenBlanks'. -/
def tokenBlanksCard : Claim7 := { stood := { row := tokenBlanksRow, standIns := [], harness := (true, "7227213e641f57db096fdf333562b9e299bf40518429b086bdeb2fe9bf559b5b"), looks := true }, kinds := [], alts := [], laidByText := true, laidKinds := [.data, .data, .data, .handle, .sentinel, .sentinel], laidTests := true, laidLooks := .later }
def TokenBlanksCardSaid : Prop := Claim7.holds Tryd.pinned (.plain (OpenSpec.ofChange tokenBlanksSpec)) tokenBlanksCard

/-- THE TIED CARD OF 'lifelinelaw15.TokenPlaces'. -/
def tokenPlacesCard : Claim7 := { stood := { row := tokenPlacesRow, standIns := [], harness := (true, "7227213e641f57db096fdf333562b9e299bf40518429b086bdeb2fe9bf559b5b"), looks := true }, kinds := [], alts := [], laidByText := true, laidKinds := [.data, .data, .data, .handle, .sentinel, .sentinel], laidTests := true, laidLooks := .later }
def TokenPlacesCardSaid : Prop := Claim7.holds Tryd.pinned (.plain (OpenSpec.ofChange tokenPlacesSpec)) tokenPlacesCard

/-- THE TIED CARD OF 'lifelinelaw15.TokenCut'. -/
def tokenCutCard : Claim7 := { stood := { row := tokenCutRow, standIns := [], harness := (true, "7227213e641f57db096fdf333562b9e299bf40518429b086bdeb2fe9bf559b5b"), looks := true }, kinds := [], alts := [], laidByText := true, laidKinds := [.data, .data, .data, .handle, .sentinel, .sentinel], laidTests := true, laidLooks := .later }
def TokenCutCardSaid : Prop := Claim7.holds Tryd.pinned (.plain (OpenSpec.ofChange tokenCutSpec)) tokenCutCard

/-- THE TIED CARD OF 'lifelinelaw15.TokenNumber'. -/
def tokenNumberCard : Claim7 := { stood := { row := tokenNumberRow, standIns := [], harness := (true, "7227213e641f57db096fdf333562b9e299bf40518429b086bdeb2fe9bf559b5b"), looks := true }, kinds := [], alts := [], laidByText := true, laidKinds := [.data, .data, .data, .handle, .sentinel, .sentinel], laidTests := true, laidLooks := .later }
def TokenNumberCardSaid : Prop := Claim7.holds Tryd.pinned (.plain (OpenSpec.ofChange tokenNumberSpec)) tokenNumberCard

/-- THE SECOND FORM's CARD OF 'lifelinelaw15.TokenQuote'. -/
def tokenQuoteUptoCard : Claim7 := { stood := { row := tokenQuoteUptoRow, standIns := [], harness := (true, "7227213e641f57db096fdf333562b9e299bf40518429b086bdeb2fe9bf559b5b"), looks := true }, kinds := [], alts := [], laidByText := true, laidKinds := [.data, .data, .data, .sentinel, .sentinel], laidTests := true, laidLooks := .later }
def TokenQuoteUptoCardSaid : Prop := Claim7.holds Tryd.pinned (.plain (OpenSpec.upto tokenQuoteSpec)) tokenQuoteUptoCard

/-- THE SECOND FORM's CARD OF 'lifelinelaw15.TokenBlanks'. -/
def tokenBlanksUptoCard : Claim7 := { stood := { row := tokenBlanksUptoRow, standIns := [], harness := (true, "7227213e641f57db096fdf333562b9e299bf40518429b086bdeb2fe9bf559b5b"), looks := true }, kinds := [], alts := [], laidByText := true, laidKinds := [.data, .data, .data, .handle, .sentinel, .sentinel], laidTests := true, laidLooks := .later }
def TokenBlanksUptoCardSaid : Prop := Claim7.holds Tryd.pinned (.plain (OpenSpec.upto tokenBlanksSpec)) tokenBlanksUptoCard

/-- THE SECOND FORM's CARD OF 'lifelinelaw15.TokenPlaces'. -/
def tokenPlacesUptoCard : Claim7 := { stood := { row := tokenPlacesUptoRow, standIns := [], harness := (true, "7227213e641f57db096fdf333562b9e299bf40518429b086bdeb2fe9bf559b5b"), looks := true }, kinds := [], alts := [], laidByText := true, laidKinds := [.data, .data, .data, .handle, .sentinel, .sentinel], laidTests := true, laidLooks := .later }
def TokenPlacesUptoCardSaid : Prop := Claim7.holds Tryd.pinned (.plain (OpenSpec.upto tokenPlacesSpec)) tokenPlacesUptoCard

/-- THE SECOND FORM's CARD OF 'lifelinelaw15.TokenCut'. -/
def tokenCutUptoCard : Claim7 := { stood := { row := tokenCutUptoRow, standIns := [], harness := (true, "7227213e641f57db096fdf333562b9e299bf40518429b086bdeb2fe9bf559b5b"), looks := true }, kinds := [], alts := [], laidByText := true, laidKinds := [.data, .data, .data, .handle, .sentinel, .sentinel], laidTests := true, laidLooks := .later }
def TokenCutUptoCardSaid : Prop := Claim7.holds Tryd.pinned (.plain (OpenSpec.upto tokenCutSpec)) tokenCutUptoCard

/-- THE SECOND FORM's CARD OF 'lifelinelaw15.TokenNumber'. -/
def tokenNumberUptoCard : Claim7 := { stood := { row := tokenNumberUptoRow, standIns := [], harness := (true, "7227213e641f57db096fdf333562b9e299bf40518429b086bdeb2fe9bf559b5b"), looks := true }, kinds := [], alts := [], laidByText := true, laidKinds := [.data, .data, .data, .handle, .sentinel, .sentinel], laidTests := true, laidLooks := .later }
def TokenNumberUptoCardSaid : Prop := Claim7.holds Tryd.pinned (.plain (OpenSpec.upto tokenNumberSpec)) tokenNumberUptoCard
end Rows
end Go.Proofs.YtilknkpaghihhaaDoor
