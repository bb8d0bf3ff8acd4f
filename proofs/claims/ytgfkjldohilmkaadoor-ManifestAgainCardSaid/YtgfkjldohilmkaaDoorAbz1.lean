/- Texts as lists of bytes. -/
import Derived.Test.YtgfkjldohilmkaaDoorAbz
import Derived.Test.YtgfkjldohilmkaaDoorAbi1
set_option linter.unusedVariables false
set_option linter.unusedSimpArgs false
namespace Go.Proofs.YtgfkjldohilmkaaDoor.Ab
open Go Go.RowKit

theorem ba_idx (l : List UInt8) (n : Nat) : (ByteArray.mk ⟨l⟩)[n]? = l[n]? := by
  show (if h : n < l.length then some _ else none) = _
  split
  · rename_i hj; rw [List.getElem?_eq_getElem hj]; rfl
  · rename_i hj; rw [List.getElem?_eq_none (by omega)]
theorem getOf {S : ByteArray} {n : Nat} {x : UInt8} (g : S[n]? = some x) : ∀ h : n < S.size, S[n]'h = x := fun h => by
  have := getElem?_pos S n h
  rw [g] at this
  exact (Option.some.inj this).symm
theorem ba_size (l : List UInt8) : (ByteArray.mk ⟨l⟩).size = l.length := rfl
end Go.Proofs.YtgfkjldohilmkaaDoor.Ab
