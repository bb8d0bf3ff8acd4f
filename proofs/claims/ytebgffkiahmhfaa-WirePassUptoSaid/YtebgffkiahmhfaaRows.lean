/-
  No cell of these rows narrows 'for every input' (looked for: loops, veiled, ifaces, maps, wideKeys, modest, calm, conditions, laid).
  DERIVED. THE GIVEN ROWS OF THIS SEAT. 6 by the template 'for every input the law returns true; each argument reads behind the call as it read before'; 0 by the template 'total and deterministic' (their statements: YtebgffkiahmhfaaTotals.lean).
  GIVEN WITH THE SEED: the statements are not yours to turn. If you find one false, say at which input.
  Laid BY PROGRAM, IN A SANDBOX (cutbox-rows.mjs): the forced cells as the released guide's own fill.sh prints them over the translation aaefbfca70ea8e29… (all of the seat's roots in one cut). By AI agents, Wed Nov 11 2026. No macro, syntax, notation, axiom, sorry.
-/
import Derived.Test.YtebgffkiahmhfaaChecked
import GoSem.Claim
import GoSem.ClaimJoined
import GoSem.ClaimMapViews
import Derived.JoinedTies
import Derived.KernelRfl
namespace Go.Proofs.Ytebgffkiahmhfaa
/- THE CELL 'sum', in the pinned program and in every row, IS THE sha256 OF THE DUMP (.gsa) THAT YtebgffkiahmhfaaProg.lean LOADS. Nothing in Lean hashes anything: it is a label: what it is worth is what the hold of that sum in a sandbox is worth. -/
noncomputable def Try.pinned : Pinned := { name := "ytebgffkiahmhfaa", sum := "aaefbfca70ea8e29388776b159313a6c693caecadd6e412d5466e8cf5971fe5b", checked := Try.checked }
namespace Rows
def none {H : Type} : Left H := { results := [], args := [] }

/-- 'lifelinelaw22.WirePass': WHATEVER THE INPUT: true; the input reads as it did. -/
def wirePassSpec : ChangeSpec := { name := "wirePass", fn := fun _ => fun
  | [d1, d2] => { results := [.lit (.bool true)], args := [d1, d2] }
  | _ => none }
def wirePassRow : OpenClaim := { program := "ytebgffkiahmhfaa", sum := "aaefbfca70ea8e29388776b159313a6c693caecadd6e412d5466e8cf5971fe5b", func := "lifeline/lifelinelaw22.WirePass", spec := "wirePass", unfollowed := true, recurses := true, apart := false }
def WirePassSaid : Prop := wirePassRow.holds Try.pinned (OpenSpec.ofChange wirePassSpec)

/-- ITS FALSE NEIGHBOUR: 'it returns false'. Refute it at one input. -/
def wirePassWrong : ChangeSpec := { name := "wirePass", fn := fun _ => fun
  | [d1, d2] => { results := [.lit (.bool false)], args := [d1, d2] }
  | _ => none }
def WirePassWrongFalsely : Prop := wirePassRow.holds Try.pinned (OpenSpec.ofChange wirePassWrong)

/-- 'lifelinelaw22.WireNone': WHATEVER THE INPUT: true; the input reads as it did. -/
def wireNoneSpec : ChangeSpec := { name := "wireNone", fn := fun _ => fun
  | [d] => { results := [.lit (.bool true)], args := [d] }
  | _ => none }
def wireNoneRow : OpenClaim := { program := "ytebgffkiahmhfaa", sum := "aaefbfca70ea8e29388776b159313a6c693caecadd6e412d5466e8cf5971fe5b", func := "lifeline/lifelinelaw22.WireNone", spec := "wireNone", unfollowed := true, recurses := true, apart := false }
def WireNoneSaid : Prop := wireNoneRow.holds Try.pinned (OpenSpec.ofChange wireNoneSpec)

/-- ITS FALSE NEIGHBOUR: 'it returns false'. Refute it at one input. -/
def wireNoneWrong : ChangeSpec := { name := "wireNone", fn := fun _ => fun
  | [d] => { results := [.lit (.bool false)], args := [d] }
  | _ => none }
def WireNoneWrongFalsely : Prop := wireNoneRow.holds Try.pinned (OpenSpec.ofChange wireNoneWrong)

/-- 'lifelinelaw22.WireOrder': WHATEVER THE INPUT: true; the input reads as it did. -/
def wireOrderSpec : ChangeSpec := { name := "wireOrder", fn := fun _ => fun
  | [d1, d2] => { results := [.lit (.bool true)], args := [d1, d2] }
  | _ => none }
def wireOrderRow : OpenClaim := { program := "ytebgffkiahmhfaa", sum := "aaefbfca70ea8e29388776b159313a6c693caecadd6e412d5466e8cf5971fe5b", func := "lifeline/lifelinelaw22.WireOrder", spec := "wireOrder", unfollowed := true, recurses := true, apart := false }
def WireOrderSaid : Prop := wireOrderRow.holds Try.pinned (OpenSpec.ofChange wireOrderSpec)

/-- ITS FALSE NEIGHBOUR: 'it returns false'. Refute it at one input. -/
def wireOrderWrong : ChangeSpec := { name := "wireOrder", fn := fun _ => fun
  | [d1, d2] => { results := [.lit (.bool false)], args := [d1, d2] }
  | _ => none }
def WireOrderWrongFalsely : Prop := wireOrderRow.holds Try.pinned (OpenSpec.ofChange wireOrderWrong)

/-- 'lifelinelaw22.WireParts': WHATEVER THE INPUT: true; the input reads as it did. -/
def wirePartsSpec : ChangeSpec := { name := "wireParts", fn := fun _ => fun
  | [d1, d2, d3] => { results := [.lit (.bool true)], args := [d1, d2, d3] }
  | _ => none }
def wirePartsRow : OpenClaim := { program := "ytebgffkiahmhfaa", sum := "aaefbfca70ea8e29388776b159313a6c693caecadd6e412d5466e8cf5971fe5b", func := "lifeline/lifelinelaw22.WireParts", spec := "wireParts", unfollowed := true, recurses := true, apart := false }
def WirePartsSaid : Prop := wirePartsRow.holds Try.pinned (OpenSpec.ofChange wirePartsSpec)

/-- ITS FALSE NEIGHBOUR: 'it returns false'. Refute it at one input. -/
def wirePartsWrong : ChangeSpec := { name := "wireParts", fn := fun _ => fun
  | [d1, d2, d3] => { results := [.lit (.bool false)], args := [d1, d2, d3] }
  | _ => none }
def WirePartsWrongFalsely : Prop := wirePartsRow.holds Try.pinned (OpenSpec.ofChange wirePartsWrong)

/-- 'lifelinelaw22.WireDrop': WHATEVER THE INPUT: true; the input reads as it did. -/
def wireDropSpec : ChangeSpec := { name := "wireDrop", fn := fun _ => fun
  | [d1, d2] => { results := [.lit (.bool true)], args := [d1, d2] }
  | _ => none }
def wireDropRow : OpenClaim := { program := "ytebgffkiahmhfaa", sum := "aaefbfca70ea8e29388776b159313a6c693caecadd6e412d5466e8cf5971fe5b", func := "lifeline/lifelinelaw22.WireDrop", spec := "wireDrop", unfollowed := true, recurses := true, apart := false }
def WireDropSaid : Prop := wireDropRow.holds Try.pinned (OpenSpec.ofChange wireDropSpec)

/-- ITS FALSE NEIGHBOUR: 'it returns false'. Refute it at one input. -/
def wireDropWrong : ChangeSpec := { name := "wireDrop", fn := fun _ => fun
  | [d1, d2] => { results := [.lit (.bool false)], args := [d1, d2] }
  | _ => none }
def WireDropWrongFalsely : Prop := wireDropRow.holds Try.pinned (OpenSpec.ofChange wireDropWrong)

/-- 'lifelinelaw22.WireBack': WHATEVER THE INPUT: true; the input reads as it did. -/
def wireBackSpec : ChangeSpec := { name := "wireBack", fn := fun _ => fun
  | [d1, d2] => { results := [.lit (.bool true)], args := [d1, d2] }
  | _ => none }
def wireBackRow : OpenClaim := { program := "ytebgffkiahmhfaa", sum := "aaefbfca70ea8e29388776b159313a6c693caecadd6e412d5466e8cf5971fe5b", func := "lifeline/lifelinelaw22.WireBack", spec := "wireBack", unfollowed := true, recurses := true, apart := false }
def WireBackSaid : Prop := wireBackRow.holds Try.pinned (OpenSpec.ofChange wireBackSpec)

/-- ITS FALSE NEIGHBOUR: 'it returns false'. Refute it at one input. -/
def wireBackWrong : ChangeSpec := { name := "wireBack", fn := fun _ => fun
  | [d1, d2] => { results := [.lit (.bool false)], args := [d1, d2] }
  | _ => none }
def WireBackWrongFalsely : Prop := wireBackRow.holds Try.pinned (OpenSpec.ofChange wireBackWrong)

/- THE SECOND FORM. 'bulk': how many values and letters a reading holds, each counted each time it is reached (what is shared counts as often as it is met; a slice's spare places count too). A statement '..UptoSaid' is the law's where the arguments, and the package variables that the reading takes, are together of bulk at most 1048576: NARROWER than '..Said'. Prove '..Said' where nothing that the law and all that it calls make is longer than what came in: it says more and counts as full. Else prove '..UptoSaid'. A law counts once. -/
mutual
def uptoBulk {H : Type} : DataW H → Nat
  | .lit (.string bytes) => bytes.length + 1
  | .lit _ => 1
  | .nil => 1
  | .ptr d => uptoBulk d + 1
  | .slice elems spare => uptoBulkAll elems + uptoBulkAll spare + 1
  | .agg parts => uptoBulkAll parts + 1
  | .iface _ d => uptoBulk d + 1
  | .map entries => uptoBulkEntries entries + 1
  | .held _ => 1
def uptoBulkAll {H : Type} : List (DataW H) → Nat
  | [] => 0
  | d :: r => uptoBulk d + uptoBulkAll r
def uptoBulkEntries {H : Type} : List (Lit × DataW H) → Nat
  | [] => 0
  | x :: r => uptoBulkEntry x + uptoBulkEntries r
def uptoBulkEntry {H : Type} : Lit × DataW H → Nat
  | (.string bytes, d) => bytes.length + uptoBulk d + 1
  | (_, d) => uptoBulk d + 1
 end
def uptoSmall : (H : Type) → List (DataW H) → Bool := fun _ ds => decide (uptoBulkAll ds ≤ 1048576)
def OpenSpec.upto (s : _root_.Go.ChangeSpec) : _root_.Go.OpenSpec := { _root_.Go.OpenSpec.ofChange s with cond := some uptoSmall }

/-- 'lifelinelaw22.WirePass', WHERE WHAT IT READS IS OF BULK AT MOST 1048576: true; the input reads as it did. -/
def wirePassUptoRow : OpenClaim := { program := "ytebgffkiahmhfaa", sum := "aaefbfca70ea8e29388776b159313a6c693caecadd6e412d5466e8cf5971fe5b", func := "lifeline/lifelinelaw22.WirePass", spec := "wirePass", unfollowed := true, recurses := true, apart := false, narrowed := true }
def WirePassUptoSaid : Prop := wirePassUptoRow.holds Try.pinned (OpenSpec.upto wirePassSpec)

/-- 'lifelinelaw22.WireNone', WHERE WHAT IT READS IS OF BULK AT MOST 1048576: true; the input reads as it did. -/
def wireNoneUptoRow : OpenClaim := { program := "ytebgffkiahmhfaa", sum := "aaefbfca70ea8e29388776b159313a6c693caecadd6e412d5466e8cf5971fe5b", func := "lifeline/lifelinelaw22.WireNone", spec := "wireNone", unfollowed := true, recurses := true, apart := false, narrowed := true }
def WireNoneUptoSaid : Prop := wireNoneUptoRow.holds Try.pinned (OpenSpec.upto wireNoneSpec)

/-- 'lifelinelaw22.WireOrder', WHERE WHAT IT READS IS OF BULK AT MOST 1048576: true; the input reads as it did. -/
def wireOrderUptoRow : OpenClaim := { program := "ytebgffkiahmhfaa", sum := "aaefbfca70ea8e29388776b159313a6c693caecadd6e412d5466e8cf5971fe5b", func := "lifeline/lifelinelaw22.WireOrder", spec := "wireOrder", unfollowed := true, recurses := true, apart := false, narrowed := true }
def WireOrderUptoSaid : Prop := wireOrderUptoRow.holds Try.pinned (OpenSpec.upto wireOrderSpec)

/-- 'lifelinelaw22.WireParts', WHERE WHAT IT READS IS OF BULK AT MOST 1048576: true; the input reads as it did. -/
def wirePartsUptoRow : OpenClaim := { program := "ytebgffkiahmhfaa", sum := "aaefbfca70ea8e29388776b159313a6c693caecadd6e412d5466e8cf5971fe5b", func := "lifeline/lifelinelaw22.WireParts", spec := "wireParts", unfollowed := true, recurses := true, apart := false, narrowed := true }
def WirePartsUptoSaid : Prop := wirePartsUptoRow.holds Try.pinned (OpenSpec.upto wirePartsSpec)

/-- 'lifelinelaw22.WireDrop', WHERE WHAT IT READS IS OF BULK AT MOST 1048576: true; the input reads as it did. -/
def wireDropUptoRow : OpenClaim := { program := "ytebgffkiahmhfaa", sum := "aaefbfca70ea8e29388776b159313a6c693caecadd6e412d5466e8cf5971fe5b", func := "lifeline/lifelinelaw22.WireDrop", spec := "wireDrop", unfollowed := true, recurses := true, apart := false, narrowed := true }
def WireDropUptoSaid : Prop := wireDropUptoRow.holds Try.pinned (OpenSpec.upto wireDropSpec)

/-- 'lifelinelaw22.WireBack', WHERE WHAT IT READS IS OF BULK AT MOST 1048576: true; the input reads as it did. -/
def wireBackUptoRow : OpenClaim := { program := "ytebgffkiahmhfaa", sum := "aaefbfca70ea8e29388776b159313a6c693caecadd6e412d5466e8cf5971fe5b", func := "lifeline/lifelinelaw22.WireBack", spec := "wireBack", unfollowed := true, recurses := true, apart := false, narrowed := true }
def WireBackUptoSaid : Prop := wireBackUptoRow.holds Try.pinned (OpenSpec.upto wireBackSpec)

end Rows
end Go.Proofs.Ytebgffkiahmhfaa
