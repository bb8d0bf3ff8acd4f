/- Small words for walks: what a comparison says, the bytes of a text. -/
import Derived.Test.YtgfkjldohilmkaaDoorAb21
import Derived.Test.YtgfkjldohilmkaaDoorAbe4
set_option linter.unusedVariables false
set_option linter.unusedSimpArgs false
namespace Go.Proofs.YtgfkjldohilmkaaDoor.Ab
open Go Go.RowKit

theorem leT {a b : Int} (h : a ≤ b) : decide (a ≤ b) = true := by simpa using h
theorem leF {a b : Int} (h : b < a) : decide (a ≤ b) = false := by simpa using h
theorem ltT {a b : Int} (h : a < b) : decide (a < b) = true := by simpa using h
theorem ltF {a b : Int} (h : b ≤ a) : decide (a < b) = false := by simpa using h
theorem beqT {a b : Int} (h : a = b) : (a == b) = true := by simpa using h
theorem beqF {a b : Int} (h : a ≠ b) : (a == b) = false := by simpa using h
theorem bneT {a b : Int} (h : a ≠ b) : (a != b) = true := by simpa using h
theorem bneF {a b : Int} (h : a = b) : (a != b) = false := by simpa using h
/-- The byte of a text. -/
def byteAt (s : ByteArray) (k : Nat) : Int := ((s[k]?.getD 0).toNat : Nat)
theorem byteAt_get {s : ByteArray} {k : Nat} (h : k < s.size) : s[k]? = some s[k] ∧ byteAt s k = ((s[k]).toNat : Int) := by
  have h1 : s[k]? = some s[k] := getElem?_pos s k h
  exact ⟨h1, by simp [byteAt, h1]⟩

theorem gtT {a b : Int} (h : b < a) : decide (a > b) = true := by simpa using h
theorem gtF {a b : Int} (h : a ≤ b) : decide (a > b) = false := by simpa using h
theorem geT {a b : Int} (h : b ≤ a) : decide (a ≥ b) = true := by simpa using h
theorem geF {a b : Int} (h : a < b) : decide (a ≥ b) = false := by simpa using h
/-- What was there is as it was. -/
def Old (m m' : Mem) : Prop := m.next ≤ m'.next ∧ ∀ i, i < m.next → m'.get i = m.get i
theorem Old.refl (m : Mem) : Old m m := ⟨Nat.le_refl _, fun _ _ => rfl⟩
theorem Old.trans {a b c : Mem} (h : Old a b) (k : Old b c) : Old a c := ⟨Nat.le_trans h.1 k.1, fun i hi => by rw [k.2 i (Nat.lt_of_lt_of_le hi h.1), h.2 i hi]⟩
theorem Old.push {a b : Mem} (h : Old a b) (e : Ent) : Old a (b.push e) := ⟨Nat.le_trans h.1 (by simp), fun i hi => by rw [Mem.push_old _ _ (Nat.lt_of_lt_of_le hi h.1), h.2 i hi]⟩
theorem Old.set {a b : Mem} (h : Old a b) {i : Nat} (hi : a.next ≤ i) (e : Ent) : Old a (b.set i e) := ⟨h.1, fun k hk => by rw [Mem.set_other _ _ (by omega), h.2 k hk]⟩
theorem Old.kill {a b : Mem} (h : Old a b) {ob : Option Nat} (hi : ∀ i, ob = some i → a.next ≤ i) : Old a (b.kill ob) := ⟨h.1, fun k hk => by rw [Mem.kill_other _ (fun e => by have := hi k e; omega), h.2 k hk]⟩
theorem Old.part {L : LM} {m m' : Mem} (hp : Part L m) (h : Old m m') : Part L m' := hp.grow h.1 h.2
end Go.Proofs.YtgfkjldohilmkaaDoor.Ab
