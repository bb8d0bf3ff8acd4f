/- What may be a file's name: both ways of asking answer alike. -/
import Derived.Test.YtkpjbpfemkkheaaDoorAbz
import Derived.Test.YtkpjbpfemkkheaaDoorCode
import Derived.Test.YtkpjbpfemkkheaaDoorAb21
import Derived.Test.YtkpjbpfemkkheaaDoorAbu1
set_option linter.unusedVariables false
set_option linter.unusedSimpArgs false
namespace Go.Proofs.YtkpjbpfemkkheaaDoor.Ab
open Go Go.RowKit
set_option maxHeartbeats 2000000

def letterB (c : Int) : Bool := (decide (97 ≤ c) && decide (c ≤ 122)) || (decide (65 ≤ c) && decide (c ≤ 90))
def okc (k : Nat) (c : Int) : Bool := letterB c || (k != 0 && (c == 46 || c == 45 || c == 95 || (decide (48 ≤ c) && decide (c ≤ 57))))
def nameB (s : ByteArray) : Bool := ((List.range s.size).all fun k => okc k (byteAt s k)) && (decide (0 < s.size) && decide (s.size ≤ 32))

theorem c_Name {w0 : World} {m : Mem} {s : ByteArray} {Q : Value → Mem → Prop} (hl : s.size ≤ 9223372036854775807) (hq : Q (.bool (nameB s)) m) : AbC Tryd.prog w0 10 [.string s] m Q := by
  refine AbC_fn ok10 (by simp) ?_
  simp -implicitDefEqProofs (disch := first | assumption | (simp only [wnA]; done) | (simp only [wnA]; omega) | omega | fail) [rc10, ro10, wkA, retV, stabOk, dC, ev, fillD, pickCells, putAt, bnd, slD, List.getElem?_cons_zero, List.getElem?_cons_succ, dR_sl, Mem.cell, Mem.row, wmA]
  refine LoopW_of (fun k ts m' => ∃ j, j + k = s.size ∧ m' = m ∧ ts 0 = .string s ∧ ts 7 = .int .i64 (s.size : Nat) ∧ ts 8 = .int .i64 (j : Nat) ∧ (∀ i, i < j → okc i (byteAt s i) = true)) s.size ?_ ?_
  · exact ⟨0, by omega, rfl, by simp [frA_at], by simp, by simp, fun i hi => by omega⟩
  · rintro k ts m1 K ⟨j, hj, rfl, t0, t7, t8, hall⟩ hK
    simp -implicitDefEqProofs (disch := first | assumption | (simp only [wnA]; done) | (simp only [wnA]; omega) | omega | fail) [rc10_1, wkA, retV, stabOk, dC, ev, fillD, pickCells, putAt, bnd, slD, List.getElem?_cons_zero, List.getElem?_cons_succ, dR_sl, Mem.cell, Mem.row, wmA, t7, t8]
    by_cases hjl : j < s.size
    · obtain ⟨g1, g2⟩ := byteAt_get hjl
      have fin : okc j (byteAt s j) = true → ∀ ts' : Fr, ts' 0 = ts 0 → ts' 7 = ts 7 → ts' 8 = .int .i64 ((j + 1 : Nat) : Int) → K ts' m1 := fun ho ts' r0 r7 r8 =>
        hK (k - 1) ts' m1 (by omega) ⟨j + 1, by omega, rfl, by rw [r0, t0], by rw [r7, t7], r8, fun i hi => by
          by_cases hij : i = j
          · subst hij; exact ho
          · exact hall i (by omega)⟩
      have bad : okc j (byteAt s j) = false → Q (.bool false) m1 := fun ho => by
        have : nameB s = false := by
          simp only [nameB, Bool.and_eq_false_iff]
          left
          rw [List.all_eq_false]
          exact ⟨j, by simpa using hjl, by rw [ho]; decide⟩
        rw [← this]; exact hq
      simp -implicitDefEqProofs (disch := first | assumption | (simp only [wnA]; done) | (simp only [wnA]; omega) | omega | fail) [hjl, rc10_0, wkA, retV, stabOk, dC, ev, fillD, pickCells, putAt, bnd, slD, List.getElem?_cons_zero, List.getElem?_cons_succ, dR_sl, Mem.cell, Mem.row, wmA, t0, t8, g1]
      rw [g2] at fin bad
      generalize ((s[j]).toNat : Int) = c at *
      by_cases hj0 : j = 0
      · subst hj0
        have cls : (97 ≤ c ∧ c ≤ 122) ∨ (65 ≤ c ∧ c ≤ 90) ∨ (c < 65) ∨ (90 < c ∧ c < 97) ∨ 122 < c := by omega
        rcases cls with h | h | h | h | h
        all_goals simp -implicitDefEqProofs (disch := first | assumption | (simp only [wnA]; done) | (simp only [wnA]; omega) | omega | fail) [leT, leF, ltT, ltF, beqT, beqF, bneT, bneF, wkA, retV, stabOk, dC, ev, fillD, pickCells, putAt, bnd, slD, List.getElem?_cons_zero, List.getElem?_cons_succ, dR_sl, Mem.cell, Mem.row, wmA, t8, w64]
        all_goals first
          | exact fin (by simp -implicitDefEqProofs (disch := first | assumption | (simp only [wnA]; done) | (simp only [wnA]; omega) | omega | fail) [okc, letterB, leT, leF, ltT, ltF, beqT, beqF]) _ (by simp) (by simp) (by simp)
          | exact bad (by simp -implicitDefEqProofs (disch := first | assumption | (simp only [wnA]; done) | (simp only [wnA]; omega) | omega | fail) [okc, letterB, leT, leF, ltT, ltF, beqT, beqF])
      · have hj1 : ((j : Int) == 0) = false := by simpa using hj0
        have hj2 : (j != 0) = true := by simpa using hj0
        have cls : (97 ≤ c ∧ c ≤ 122) ∨ (65 ≤ c ∧ c ≤ 90) ∨ c < 45 ∨ c = 45 ∨ c = 46 ∨ c = 47 ∨ (48 ≤ c ∧ c ≤ 57) ∨ (57 < c ∧ c < 65) ∨ (90 < c ∧ c < 95) ∨ c = 95 ∨ c = 96 ∨ 122 < c := by omega
        rcases cls with h | h | h | h | h | h | h | h | h | h | h | h
        all_goals simp -implicitDefEqProofs (disch := first | assumption | (simp only [wnA]; done) | (simp only [wnA]; omega) | omega | fail) [leT, leF, ltT, ltF, beqT, beqF, bneT, bneF, wkA, retV, stabOk, dC, ev, fillD, pickCells, putAt, bnd, slD, List.getElem?_cons_zero, List.getElem?_cons_succ, dR_sl, Mem.cell, Mem.row, wmA, t8, hj1, w64]
        all_goals first
          | exact fin (by simp -implicitDefEqProofs (disch := first | assumption | (simp only [wnA]; done) | (simp only [wnA]; omega) | omega | fail) [okc, letterB, leT, leF, ltT, ltF, beqT, beqF, hj2]) _ (by simp) (by simp) (by simp)
          | exact bad (by simp -implicitDefEqProofs (disch := first | assumption | (simp only [wnA]; done) | (simp only [wnA]; omega) | omega | fail) [okc, letterB, leT, leF, ltT, ltF, beqT, beqF, hj2])
    · have hjj : j = s.size := by omega
      subst hjj
      have hn : nameB s = (decide (0 < s.size) && decide (s.size ≤ 32)) := by
        have : (List.range s.size).all (fun k => okc k (byteAt s k)) = true := by
          rw [List.all_eq_true]
          intro i hi
          exact hall i (by simpa using hi)
        simp only [nameB, this, Bool.true_and]
      rw [hn] at hq
      simp -implicitDefEqProofs (disch := first | assumption | (simp only [wnA]; done) | (simp only [wnA]; omega) | omega | fail) [hjl, rc10_2, wkA, retV, stabOk, dC, ev, fillD, pickCells, putAt, bnd, slD, List.getElem?_cons_zero, List.getElem?_cons_succ, dR_sl, Mem.cell, Mem.row, wmA, t0]
      by_cases h0 : 0 < s.size
      · simp only [h0, decide_true, Bool.true_and] at hq
        by_cases h32 : s.size ≤ 32
        · simp only [h32, decide_true] at hq
          have h33 : (s.size : Int) ≤ 32 := by omega
          simp -implicitDefEqProofs (disch := first | assumption | (simp only [wnA]; done) | (simp only [wnA]; omega) | omega | fail) [h0, leT, wkA, retV, stabOk, dC, ev, fillD, pickCells, putAt, bnd, slD, List.getElem?_cons_zero, List.getElem?_cons_succ, dR_sl, Mem.cell, Mem.row, wmA, t0, h32]
          exact hq
        · simp only [h32, decide_false] at hq
          simp -implicitDefEqProofs (disch := first | assumption | (simp only [wnA]; done) | (simp only [wnA]; omega) | omega | fail) [h0, leF, wkA, retV, stabOk, dC, ev, fillD, pickCells, putAt, bnd, slD, List.getElem?_cons_zero, List.getElem?_cons_succ, dR_sl, Mem.cell, Mem.row, wmA, t0, h32]
          exact hq
      · simp only [h0, decide_false, Bool.false_and] at hq
        simp -implicitDefEqProofs (disch := first | assumption | (simp only [wnA]; done) | (simp only [wnA]; omega) | omega | fail) [h0, wkA, retV, stabOk, dC, ev, fillD, pickCells, putAt, bnd, slD, List.getElem?_cons_zero, List.getElem?_cons_succ, dR_sl, Mem.cell, Mem.row, wmA, t0]
        exact hq
theorem c_name {w0 : World} {m : Mem} {s : ByteArray} {Q : Value → Mem → Prop} (hl : s.size ≤ 9223372036854775807) (hq : Q (.bool (nameB s)) m) : AbC Tryd.prog w0 11 [.string s] m Q := by
  refine AbC_fn ok11 (by simp) ?_
  simp -implicitDefEqProofs (disch := first | assumption | (simp only [wnA]; done) | (simp only [wnA]; omega) | omega | fail) [rc11, ro11, wkA, retV, stabOk, dC, ev, fillD, pickCells, putAt, bnd, slD, List.getElem?_cons_zero, List.getElem?_cons_succ, dR_sl, Mem.cell, Mem.row, wmA]
  refine LoopW_of (fun k ts m' => ∃ j, j + k = s.size ∧ m' = m ∧ ts 0 = .string s ∧ ts 3 = .int .i64 (j : Nat) ∧ (∀ i, i < j → okc i (byteAt s i) = true)) s.size ?_ ?_
  · exact ⟨0, by omega, rfl, by simp [frA_at], by simp, fun i hi => by omega⟩
  · rintro k ts m1 K ⟨j, hj, rfl, t0, t3, hall⟩ hK
    simp -implicitDefEqProofs (disch := first | assumption | (simp only [wnA]; done) | (simp only [wnA]; omega) | omega | fail) [rc11_2, wkA, retV, stabOk, dC, ev, fillD, pickCells, putAt, bnd, slD, List.getElem?_cons_zero, List.getElem?_cons_succ, dR_sl, Mem.cell, Mem.row, wmA, t0, t3]
    by_cases hjl : j < s.size
    · obtain ⟨g1, g2⟩ := byteAt_get hjl
      have fin : okc j (byteAt s j) = true → ∀ ts' : Fr, ts' 0 = ts 0 → ts' 3 = .int .i64 ((j + 1 : Nat) : Int) → K ts' m1 := fun ho ts' r0 r8 =>
        hK (k - 1) ts' m1 (by omega) ⟨j + 1, by omega, rfl, by rw [r0, t0], r8, fun i hi => by
          by_cases hij : i = j
          · subst hij; exact ho
          · exact hall i (by omega)⟩
      have bad : okc j (byteAt s j) = false → Q (.bool false) m1 := fun ho => by
        have : nameB s = false := by
          simp only [nameB, Bool.and_eq_false_iff]
          left
          rw [List.all_eq_false]
          exact ⟨j, by simpa using hjl, by rw [ho]; decide⟩
        rw [← this]; exact hq
      simp -implicitDefEqProofs (disch := first | assumption | (simp only [wnA]; done) | (simp only [wnA]; omega) | omega | fail) [hjl, rc11_1, wkA, retV, stabOk, dC, ev, fillD, pickCells, putAt, bnd, slD, List.getElem?_cons_zero, List.getElem?_cons_succ, dR_sl, Mem.cell, Mem.row, wmA, t0, t3, g1]
      rw [g2] at fin bad
      generalize ((s[j]).toNat : Int) = c at *
      by_cases hj0 : j = 0
      · subst hj0
        have cls : (97 ≤ c ∧ c ≤ 122) ∨ (65 ≤ c ∧ c ≤ 90) ∨ (c < 65) ∨ (90 < c ∧ c < 97) ∨ 122 < c := by omega
        rcases cls with h | h | h | h | h
        all_goals simp -implicitDefEqProofs (disch := first | assumption | (simp only [wnA]; done) | (simp only [wnA]; omega) | omega | fail) [rc11_0, leT, leF, ltT, ltF, beqT, beqF, bneT, bneF, wkA, retV, stabOk, dC, ev, fillD, pickCells, putAt, bnd, slD, List.getElem?_cons_zero, List.getElem?_cons_succ, dR_sl, Mem.cell, Mem.row, wmA, t0, t3, w64]
        all_goals first
          | exact fin (by simp -implicitDefEqProofs (disch := first | assumption | (simp only [wnA]; done) | (simp only [wnA]; omega) | omega | fail) [okc, letterB, leT, leF, ltT, ltF, beqT, beqF]) _ (by simp) (by simp)
          | exact bad (by simp -implicitDefEqProofs (disch := first | assumption | (simp only [wnA]; done) | (simp only [wnA]; omega) | omega | fail) [okc, letterB, leT, leF, ltT, ltF, beqT, beqF])
      · have hj1 : ((j : Int) == 0) = false := by simpa using hj0
        have hj2 : (j != 0) = true := by simpa using hj0
        have cls : (97 ≤ c ∧ c ≤ 122) ∨ (65 ≤ c ∧ c ≤ 90) ∨ c < 45 ∨ c = 45 ∨ c = 46 ∨ c = 47 ∨ (48 ≤ c ∧ c ≤ 57) ∨ (57 < c ∧ c < 65) ∨ (90 < c ∧ c < 95) ∨ c = 95 ∨ c = 96 ∨ 122 < c := by omega
        rcases cls with h | h | h | h | h | h | h | h | h | h | h | h
        all_goals simp -implicitDefEqProofs (disch := first | assumption | (simp only [wnA]; done) | (simp only [wnA]; omega) | omega | fail) [rc11_0, leT, leF, ltT, ltF, beqT, beqF, bneT, bneF, wkA, retV, stabOk, dC, ev, fillD, pickCells, putAt, bnd, slD, List.getElem?_cons_zero, List.getElem?_cons_succ, dR_sl, Mem.cell, Mem.row, wmA, t0, t3, hj1, w64]
        all_goals first
          | exact fin (by simp -implicitDefEqProofs (disch := first | assumption | (simp only [wnA]; done) | (simp only [wnA]; omega) | omega | fail) [okc, letterB, leT, leF, ltT, ltF, beqT, beqF, hj2]) _ (by simp) (by simp)
          | exact bad (by simp -implicitDefEqProofs (disch := first | assumption | (simp only [wnA]; done) | (simp only [wnA]; omega) | omega | fail) [okc, letterB, leT, leF, ltT, ltF, beqT, beqF, hj2])
    · have hjj : j = s.size := by omega
      subst hjj
      have hn : nameB s = (decide (0 < s.size) && decide (s.size ≤ 32)) := by
        have : (List.range s.size).all (fun k => okc k (byteAt s k)) = true := by
          rw [List.all_eq_true]
          intro i hi
          exact hall i (by simpa using hi)
        simp only [nameB, this, Bool.true_and]
      rw [hn] at hq
      simp -implicitDefEqProofs (disch := first | assumption | (simp only [wnA]; done) | (simp only [wnA]; omega) | omega | fail) [hjl, rc11_3, wkA, retV, stabOk, dC, ev, fillD, pickCells, putAt, bnd, slD, List.getElem?_cons_zero, List.getElem?_cons_succ, dR_sl, Mem.cell, Mem.row, wmA, t0]
      by_cases h0 : 0 < s.size
      · have h1 : (1 : Int) ≤ (s.size : Int) := by omega
        simp only [h0, decide_true, Bool.true_and] at hq
        by_cases h32 : s.size ≤ 32
        · simp only [h32, decide_true] at hq
          have h33 : (s.size : Int) ≤ 32 := by omega
          simp -implicitDefEqProofs (disch := first | assumption | (simp only [wnA]; done) | (simp only [wnA]; omega) | omega | fail) [h0, leT, wkA, retV, stabOk, dC, ev, fillD, pickCells, putAt, bnd, slD, List.getElem?_cons_zero, List.getElem?_cons_succ, dR_sl, Mem.cell, Mem.row, wmA, t0, h32]
          exact hq
        · simp only [h32, decide_false] at hq
          simp -implicitDefEqProofs (disch := first | assumption | (simp only [wnA]; done) | (simp only [wnA]; omega) | omega | fail) [h0, leF, leT, wkA, retV, stabOk, dC, ev, fillD, pickCells, putAt, bnd, slD, List.getElem?_cons_zero, List.getElem?_cons_succ, dR_sl, Mem.cell, Mem.row, wmA, t0, h32]
          exact hq
      · simp only [h0, decide_false, Bool.false_and] at hq
        simp -implicitDefEqProofs (disch := first | assumption | (simp only [wnA]; done) | (simp only [wnA]; omega) | omega | fail) [h0, leF, wkA, retV, stabOk, dC, ev, fillD, pickCells, putAt, bnd, slD, List.getElem?_cons_zero, List.getElem?_cons_succ, dR_sl, Mem.cell, Mem.row, wmA, t0]
        exact hq
end Go.Proofs.YtkpjbpfemkkheaaDoor.Ab
