/- A text in quotes: the document's own words come to the same. -/
import Derived.Test.YtilknkpaghihhaaDoorAbz
import Derived.Test.YtilknkpaghihhaaDoorAbq1
set_option linter.unusedVariables false
set_option linter.unusedSimpArgs false
namespace Go.Proofs.YtilknkpaghihhaaDoor.Ab
open Go Go.RowKit
set_option maxHeartbeats 4000000
set_option maxRecDepth 100000

theorem cat2 {a b : List UInt8} (h : a.length + b.length ≤ 9223372036854775807) : dBin .add (.string ⟨⟨a⟩⟩) (.string ⟨⟨b⟩⟩) = some (.string ⟨⟨a ++ b⟩⟩) := by
  rw [dBin_sadd (by exact h), bApp_eq]

theorem c_lquote {w0 : World} {m : Mem} {s : ByteArray} {Q : Value → Mem → Prop} (hl : s.size ≤ 1099511627776) (hq : Q (quoteV s.data.toList) m) :
    AbC Tryd.prog w0 10 [.string s] m Q := by
  refine AbC_fn ok10 (by simp) ?_
  simp -implicitDefEqProofs (disch := first | assumption | (simp only [wnA]; done) | (simp only [wnA]; omega) | omega | fail) [rc10, ro10, wkA, retV, stabOk, dC, ev, fillD, pickCells, putAt, bnd, slD, List.getElem?_cons_zero, List.getElem?_cons_succ, dR.eq_20, Mem.cell, Mem.row, wmA]
  refine LoopW_of (fun k ts m' => m' = m ∧ ∃ j e, j + k = s.size ∧ ts 0 = .string s ∧ ts 5 = .int .i64 (j : Nat) ∧ ts 4 = .string ⟨⟨34 :: e⟩⟩ ∧ escL (s.data.toList.take j) = some e) s.size ?_ ?_
  · exact ⟨rfl, 0, [], by omega, by simp [frA_at], by simp, by simp, by simp [escL]⟩
  · rintro k ts m2 K ⟨rfl, j, e, hj, t0, t5, t4, he⟩ hK
    have hel := escL_len he
    have htl : (s.data.toList.take j).length ≤ j := by simp; omega
    simp -implicitDefEqProofs (disch := first | assumption | (simp only [wnA]; done) | (simp only [wnA]; omega) | omega | fail) [rc10_1, wkA, retV, stabOk, dC, ev, fillD, pickCells, putAt, bnd, slD, List.getElem?_cons_zero, List.getElem?_cons_succ, dR.eq_20, Mem.cell, Mem.row, wmA, t0, t5]
    by_cases hjl : j < s.size
    · obtain ⟨g1, g2⟩ := ba_get hjl
      have ge := ba_ext1 hjl
      have fin : ∀ (a : List UInt8) (ts' : Fr), escC s[j] = some a → ts' 0 = ts 0 → ts' 5 = .int .i64 ((j + 1 : Nat) : Int) → ts' 4 = .string ⟨⟨34 :: (e ++ a)⟩⟩ → K ts' m2 := fun a ts' ha r0 r5 r4 =>
        hK (k - 1) ts' m2 (by omega) ⟨rfl, j + 1, e ++ a, by omega, by rw [r0, t0], r5, r4, by rw [take_succ' g2]; exact escL_snoc he ha⟩
      have bad : escC s[j] = none → Q (.tuple ⟨[.string ⟨⟨[]⟩⟩, .bool false]⟩) m2 := fun hn => by
        have := hq
        rw [split_at g2] at this
        simpa [quoteV, escL_none hn] using this
      have k1 : dBin .add (.string ⟨⟨34 :: e⟩⟩) (.string ⟨#[92, 114]⟩) = some (.string ⟨⟨34 :: (e ++ [92, 114])⟩⟩) := cat2 (a := 34 :: e) (b := [92, 114]) (by simp; omega)
      have k2 : dBin .add (.string ⟨⟨34 :: e⟩⟩) (.string ⟨#[92, 110]⟩) = some (.string ⟨⟨34 :: (e ++ [92, 110])⟩⟩) := cat2 (a := 34 :: e) (b := [92, 110]) (by simp; omega)
      have k3 : dBin .add (.string ⟨⟨34 :: e⟩⟩) (.string ⟨#[92]⟩) = some (.string ⟨⟨34 :: (e ++ [92])⟩⟩) := cat2 (a := 34 :: e) (b := [92]) (by simp; omega)
      have k4 : dBin .add (.string ⟨⟨34 :: (e ++ [92])⟩⟩) (.string ⟨⟨[s[j]]⟩⟩) = some (.string ⟨⟨34 :: (e ++ [92, s[j]])⟩⟩) := by
        have := cat2 (a := 34 :: (e ++ [92])) (b := [s[j]]) (by simp; omega)
        simpa using this
      have k5 : dBin .add (.string ⟨⟨34 :: e⟩⟩) (.string ⟨⟨[s[j]]⟩⟩) = some (.string ⟨⟨34 :: (e ++ [s[j]])⟩⟩) := cat2 (a := 34 :: e) (b := [s[j]]) (by simp; omega)
      have hb1 : (0 : Int) ≤ (j : Int) + 1 ∧ (j : Int) + 1 ≤ s.size := by omega
      have hb2 : (j : Int) ≤ (j : Int) + 1 := by omega
      have hb3 : ((j : Int) + 1).toNat = j + 1 := by omega
      simp -implicitDefEqProofs (disch := first | assumption | (simp only [wnA]; done) | (simp only [wnA]; omega) | omega | fail) [hjl, rc10_0, wkA, retV, stabOk, dC, ev, fillD, pickCells, putAt, bnd, slD, List.getElem?_cons_zero, List.getElem?_cons_succ, dR.eq_20, Mem.cell, Mem.row, wmA, t0, t5, g1]
      have cls : (s[j]).toNat = 13 ∨ (s[j]).toNat = 10 ∨ ((s[j]).toNat < 32 ∧ (s[j]).toNat ≠ 13 ∧ (s[j]).toNat ≠ 10) ∨ (s[j]).toNat = 34 ∨ (s[j]).toNat = 92 ∨ (32 ≤ (s[j]).toNat ∧ (s[j]).toNat ≤ 126 ∧ (s[j]).toNat ≠ 34 ∧ (s[j]).toNat ≠ 92) ∨ 126 < (s[j]).toNat := by omega
      rcases cls with h | h | h | h | h | h | h
      · simp -implicitDefEqProofs (disch := first | assumption | (simp only [wnA]; done) | (simp only [wnA]; omega) | omega | fail) [beqT, wkA, retV, stabOk, dC, ev, fillD, pickCells, putAt, bnd, slD, List.getElem?_cons_zero, List.getElem?_cons_succ, dR.eq_20, Mem.cell, Mem.row, wmA, t4, t5, k1, w64]
        exact fin [92, 114] _ (by simp [escC, h]) (by simp) (by simp) (by simp)
      · simp -implicitDefEqProofs (disch := first | assumption | (simp only [wnA]; done) | (simp only [wnA]; omega) | omega | fail) [beqT, beqF, wkA, retV, stabOk, dC, ev, fillD, pickCells, putAt, bnd, slD, List.getElem?_cons_zero, List.getElem?_cons_succ, dR.eq_20, Mem.cell, Mem.row, wmA, t4, t5, k2, w64]
        exact fin [92, 110] _ (by simp [escC, h]) (by simp) (by simp) (by simp)
      all_goals first
        | (simp -implicitDefEqProofs (disch := first | assumption | (simp only [wnA]; done) | (simp only [wnA]; omega) | omega | fail) [beqT, beqF, ltT, ltF, gtT, gtF, wkA, retV, stabOk, dC, ev, fillD, pickCells, putAt, bnd, slD, List.getElem?_cons_zero, List.getElem?_cons_succ, dR.eq_20, Mem.cell, Mem.row, wmA, t0, t4, t5, w64, hb1, hb2, hb3, ge, k3, k4]
           exact fin [92, s[j]] _ (by simp [escC, h]) (by simp) (by simp) (by simp))
        | (simp -implicitDefEqProofs (disch := first | assumption | (simp only [wnA]; done) | (simp only [wnA]; omega) | omega | fail) [beqT, beqF, ltT, ltF, gtT, gtF, wkA, retV, stabOk, dC, ev, fillD, pickCells, putAt, bnd, slD, List.getElem?_cons_zero, List.getElem?_cons_succ, dR.eq_20, Mem.cell, Mem.row, wmA, t4]
           exact bad (by unfold escC; rw [if_neg (by omega), if_neg (by omega), if_pos (by omega)]))
        | (simp -implicitDefEqProofs (disch := first | assumption | (simp only [wnA]; done) | (simp only [wnA]; omega) | omega | fail) [beqT, beqF, ltT, ltF, gtT, gtF, wkA, retV, stabOk, dC, ev, fillD, pickCells, putAt, bnd, slD, List.getElem?_cons_zero, List.getElem?_cons_succ, dR.eq_20, Mem.cell, Mem.row, wmA, t0, t4, t5, w64, hb1, hb2, hb3, ge, k5]
           exact fin [s[j]] _ (by unfold escC; rw [if_neg (by omega), if_neg (by omega), if_neg (by omega), if_neg (by omega)]) (by simp) (by simp) (by simp))
    · have hjj : j = s.size := by omega
      subst hjj
      have hfull : s.data.toList.take s.size = s.data.toList := List.take_of_length_le (by simp)
      rw [hfull] at he
      have k1 : dBin .add (.string ⟨⟨34 :: e⟩⟩) (.string ⟨#[34]⟩) = some (.string ⟨⟨34 :: (e ++ [34])⟩⟩) := cat2 (a := 34 :: e) (b := [34]) (by simp; omega)
      simp -implicitDefEqProofs (disch := first | assumption | (simp only [wnA]; done) | (simp only [wnA]; omega) | omega | fail) [hjl, rc10_2, wkA, retV, stabOk, dC, ev, fillD, pickCells, putAt, bnd, slD, List.getElem?_cons_zero, List.getElem?_cons_succ, dR.eq_20, Mem.cell, Mem.row, wmA, t4, k1]
      simpa [quoteV, he] using hq
end Go.Proofs.YtilknkpaghihhaaDoor.Ab
