/- Parts of slices, and texts put together. -/
import Derived.Test.YtgfkjldohilmkaaDoorAb20
set_option linter.unusedVariables false
set_option linter.unusedSimpArgs false
namespace Go.Proofs.YtgfkjldohilmkaaDoor.Ab
open Go Go.RowKit

/-- A part of a slice, by its bounds' values. -/
def slW (sz : Nat) (v : Value) (lo hi : Option Value) : Option Value :=
  dR (fun k => if k = 0 then v else if k = 1 then lo.getD undef else hi.getD undef) ⟨0, fun _ => .dead⟩ (.sl sz (.tmp 0) (lo.map fun _ => .tmp 1) (hi.map fun _ => .tmp 2))
theorem dR_sl {ts : Fr} {m : Mem} {sz : Nat} {x : Operand} {lo hi : Option Operand} : dR ts m (.sl sz x lo hi) = slW sz (ev ts x) (lo.map (ev ts)) (hi.map (ev ts)) := by
  cases lo <;> cases hi <;> rfl

section
variable {m : Mem} {z n k : Nat} {v : Value} {cs : List Value}
theorem SlR.upto (h : SlR m z v cs n) (hk : k ≤ n) : ∃ v', slW z v none (some (.int .i64 (k : Nat))) = some v' ∧ SlR m z v' (cs.take (k * z)) k ∧ (∀ b, blk v' = some b → blk v = some b) := by
  obtain ⟨h1, ⟨rfl, h2⟩ | ⟨i, o, L, rfl, h2, h3, h4⟩⟩ := h
  · have hk0 : k = 0 := by omega
    subst hk0
    rcases h2 with rfl | rfl
    · exact ⟨.slice none 0 0, by simp [slW, dR, ev, bnd], ⟨by simp, .inl ⟨rfl, .inl rfl⟩⟩, fun b hb => hb⟩
    · exact ⟨.slice (some ⟨0, 0, some 0⟩) 0 0, by simp [slW, dR, ev, bnd], ⟨by simp, .inl ⟨rfl, .inr rfl⟩⟩, fun b hb => hb⟩
  · have hkz : k * z ≤ n * z := Nat.mul_le_mul_right _ hk
    refine ⟨.slice (some ⟨i, o, none⟩) k z, ?_, ⟨by rw [List.length_take, h1]; omega, .inr ⟨i, o, L, rfl, h2, by omega, ?_⟩⟩, fun b hb => hb⟩
    · have : (0 : Int) ≤ (k : Int) ∧ (k : Int) ≤ (n : Int) := by omega
      simp [slW, dR, ev, bnd, slD, hk]
    · rw [← h4, List.take_take, Nat.min_eq_left hkz]
theorem SlR.behind (h : SlR m z v cs n) (hk : k ≤ n) : ∃ v', slW z v (some (.int .i64 (k : Nat))) none = some v' ∧ SlR m z v' (cs.drop (k * z)) (n - k) ∧ (∀ b, blk v' = some b → blk v = some b) := by
  obtain ⟨h1, ⟨rfl, h2⟩ | ⟨i, o, L, rfl, h2, h3, h4⟩⟩ := h
  · have hk0 : k = 0 := by omega
    subst hk0
    rcases h2 with rfl | rfl
    · exact ⟨.slice none 0 0, by simp [slW, dR, ev, bnd], ⟨by simpa using h1, .inl ⟨rfl, .inl rfl⟩⟩, fun b hb => hb⟩
    · exact ⟨.slice (some ⟨0, 0, some 0⟩) 0 0, by simp [slW, dR, ev, bnd], ⟨by simpa using h1, .inl ⟨rfl, .inr rfl⟩⟩, fun b hb => hb⟩
  · have hkz : k * z ≤ n * z := Nat.mul_le_mul_right _ hk
    by_cases h0 : k = 0
    · subst h0
      refine ⟨.slice (some ⟨i, o, none⟩) n z, by simp [slW, dR, ev, bnd, slD], ⟨by simpa using h1, .inr ⟨i, o, L, rfl, h2, h3, by simpa using h4⟩⟩, fun b hb => hb⟩
    · by_cases hn : k = n
      · subst hn
        refine ⟨.slice (some ⟨0, 0, some 0⟩) 0 0, by simp [slW, dR, ev, bnd, slD, h0], ⟨by simp [h1], .inl ⟨by omega, .inr rfl⟩⟩, fun b hb => by simp [blk] at hb⟩
      · refine ⟨.slice (some ⟨i, o + k * z, none⟩) (n - k) z, by simp [slW, dR, ev, bnd, slD, h0, hn, hk], ⟨by rw [List.length_drop, h1, Nat.sub_mul], .inr ⟨i, o + k * z, L, rfl, h2, by rw [Nat.sub_mul]; omega, ?_⟩⟩, fun b hb => hb⟩
        rw [← h4, List.drop_take, List.drop_drop, Nat.sub_mul]
end
end Go.Proofs.YtgfkjldohilmkaaDoor.Ab
