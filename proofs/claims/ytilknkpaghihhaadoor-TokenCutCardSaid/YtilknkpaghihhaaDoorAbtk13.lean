/- A text's tokens, or where it has none, are what the document says: the law. -/
import Derived.Test.YtilknkpaghihhaaDoorAbz
import Derived.Test.YtilknkpaghihhaaDoorAbtk12
set_option linter.unusedVariables false
set_option linter.unusedSimpArgs false
namespace Go.Proofs.YtilknkpaghihhaaDoor.Ab
open Go Go.RowKit
set_option maxHeartbeats 1000000
set_option maxRecDepth 100000

theorem l_Cut {w0 : World} {m : Mem} {S : ByteArray} (hp : Part L0 m) (ht : Ten w0) (hE : ErrV w0) (hT : ErrT w0) :
    AbC Tryd.prog w0 6 [.string S] m fun v _ => v = .bool true := by
  refine AbC_fn ok6 (by simp) ?_
  simp -implicitDefEqProofs (disch := first | assumption | (simp only [wnA]; done) | (simp only [wnA]; omega) | omega | fail) [rc6, ro6, wkA, retV, stabOk, dC, ev, fillD, pickCells, putAt, bnd, slD, List.getElem?_cons_zero, List.getElem?_cons_succ, dR.eq_20, Mem.cell, Mem.row, wmA]
  refine c_awake hp ?_
  by_cases hs : 4096 < S.size
  · have his : (4096 : Int) < (S.size : Int) := by omega
    simp -implicitDefEqProofs (disch := first | assumption | (simp only [wnA]; done) | (simp only [wnA]; omega) | omega | fail) [rc6_6, wkA, retV, stabOk, dC, ev, fillD, pickCells, putAt, bnd, slD, List.getElem?_cons_zero, List.getElem?_cons_succ, dR.eq_20, Mem.cell, Mem.row, wmA, gtT his]
    refine c_tCut hp ht hE (fun _ m1 o1 => ?_) (fun h => by omega) fun h => by omega
    simp -implicitDefEqProofs (disch := first | assumption | (simp only [wnA]; done) | (simp only [wnA]; omega) | omega | fail) [wkA, retV, stabOk, dC, ev, fillD, pickCells, putAt, bnd, slD, List.getElem?_cons_zero, List.getElem?_cons_succ, dR.eq_20, Mem.cell, Mem.row, wmA]
    refine c_Number hT fun m2 o2 => ?_
    simp -implicitDefEqProofs (disch := first | assumption | (simp only [wnA]; done) | (simp only [wnA]; omega) | omega | fail) [wkA, retV, stabOk, dC, ev, fillD, pickCells, putAt, bnd, slD, List.getElem?_cons_zero, List.getElem?_cons_succ, dR.eq_20, Mem.cell, Mem.row, wmA]
    refine c_Place hT fun m3 o3 => ?_
    simp -implicitDefEqProofs (disch := first | assumption | (simp only [wnA]; done) | (simp only [wnA]; omega) | omega | fail) [wkA, retV, stabOk, dC, ev, fillD, pickCells, putAt, bnd, slD, List.getElem?_cons_zero, List.getElem?_cons_succ, dR.eq_20, Mem.cell, Mem.row, wmA]
  · have hs' : S.size ≤ 4096 := by omega
    have his : (S.size : Int) ≤ 4096 := by omega
    simp -implicitDefEqProofs (disch := first | assumption | (simp only [wnA]; done) | (simp only [wnA]; omega) | omega | fail) [rc6_6, wkA, retV, stabOk, dC, ev, fillD, pickCells, putAt, bnd, slD, List.getElem?_cons_zero, List.getElem?_cons_succ, dR.eq_20, Mem.cell, Mem.row, wmA, gtF his, rc6_5]
    refine c_tCut hp ht hE (fun h => by omega) (fun _ m1 a o1 hc => ?_) fun _ m1 i1 us o1 h1 hi1 hul hc => ?_
    · simp -implicitDefEqProofs (disch := first | assumption | (simp only [wnA]; done) | (simp only [wnA]; omega) | omega | fail) [wkA, retV, stabOk, dC, ev, fillD, pickCells, putAt, bnd, slD, List.getElem?_cons_zero, List.getElem?_cons_succ, dR.eq_20, Mem.cell, Mem.row, wmA, faultV]
      refine c_lcut (by omega) (fun m2 a2 o2 hc2 => ?_) fun m2 i2 us2 o2 h2 hi2 hul2 hc2 => by rw [hc] at hc2; cases hc2
      have ea : a2 = a := by rw [hc] at hc2; cases hc2; rfl
      subst ea
      have ha : (0 : Int) ≤ (a2 : Int) := by omega
      simp -implicitDefEqProofs (disch := first | assumption | (simp only [wnA]; done) | (simp only [wnA]; omega) | omega | fail) [wkA, retV, stabOk, dC, ev, fillD, pickCells, putAt, bnd, slD, List.getElem?_cons_zero, List.getElem?_cons_succ, dR.eq_20, Mem.cell, Mem.row, wmA, ha]
      refine c_Number (n := 1) (a := a2) hT fun m3 o3 => ?_
      simp -implicitDefEqProofs (disch := first | assumption | (simp only [wnA]; done) | (simp only [wnA]; omega) | omega | fail) [wkA, retV, stabOk, dC, ev, fillD, pickCells, putAt, bnd, slD, List.getElem?_cons_zero, List.getElem?_cons_succ, dR.eq_20, Mem.cell, Mem.row, wmA]
      refine c_Place (n := 1) (a := a2) hT fun m4 o4 => ?_
      simp -implicitDefEqProofs (disch := first | assumption | (simp only [wnA]; done) | (simp only [wnA]; omega) | omega | fail) [wkA, retV, stabOk, dC, ev, fillD, pickCells, putAt, bnd, slD, List.getElem?_cons_zero, List.getElem?_cons_succ, dR.eq_20, Mem.cell, Mem.row, wmA]
    · simp -implicitDefEqProofs (disch := first | assumption | (simp only [wnA]; done) | (simp only [wnA]; omega) | omega | fail) [wkA, retV, stabOk, dC, ev, fillD, pickCells, putAt, bnd, slD, List.getElem?_cons_zero, List.getElem?_cons_succ, dR.eq_20, Mem.cell, Mem.row, wmA]
      refine c_lcut (by omega) (fun m2 a2 o2 hc2 => by rw [hc] at hc2; cases hc2) fun m2 i2 us2 o2 h2 hi2 hul2 hc2 => ?_
      have eu : us2 = us := by rw [hc] at hc2; cases hc2; rfl
      subst eu
      have r1 : SlR m2 4 (slV (some i1) us2.length 4) (us2.flatMap cellP) us2.length := h1.read.keep fun b hb => by
        rw [blk_slV] at hb
        exact o2.2 b (by cases hb; exact h1.lt)
      have r2 : SlR m2 4 (slV (some i2) us2.length 4) (us2.flatMap cellP) us2.length := h2.read
      simp -implicitDefEqProofs (disch := first | assumption | (simp only [wnA]; done) | (simp only [wnA]; omega) | omega | fail) [wkA, retV, stabOk, dC, ev, fillD, pickCells, putAt, bnd, slD, List.getElem?_cons_zero, List.getElem?_cons_succ, dR.eq_20, Mem.cell, Mem.row, wmA, rc6_4]
      refine c_Same r1 r2 rfl (by omega) ?_
      simp -implicitDefEqProofs (disch := first | assumption | (simp only [wnA]; done) | (simp only [wnA]; omega) | omega | fail) [wkA, retV, stabOk, dC, ev, fillD, pickCells, putAt, bnd, slD, List.getElem?_cons_zero, List.getElem?_cons_succ, dR.eq_20, Mem.cell, Mem.row, wmA, rc6_3, r1.slen]
      refine LoopW_of (fun k ts m' => ∃ j, j + k = us2.length ∧ m' = m2 ∧ ts 5 = slV (some i1) us2.length 4 ∧ ts 7 = slV (some i2) us2.length 4 ∧ ts 63 = .int .i64 (us2.length : Nat) ∧ ts 64 = .int .i64 (j : Nat)) us2.length ?_ ?_
      · exact ⟨0, by omega, rfl, by simp, by simp, by simp, by simp⟩
      · rintro k ts m3 K ⟨j, hj, rfl, t5, t7, t63, t64⟩ hK
        simp -implicitDefEqProofs (disch := first | assumption | (simp only [wnA]; done) | (simp only [wnA]; omega) | omega | fail) [rc6_1, wkA, retV, stabOk, dC, ev, fillD, pickCells, putAt, bnd, slD, List.getElem?_cons_zero, List.getElem?_cons_succ, dR.eq_20, Mem.cell, Mem.row, wmA, t63, t64]
        by_cases hjl : j < us2.length
        · have ijl : (j : Int) < (us2.length : Int) := by omega
          obtain ⟨j1, q1, L1, A⟩ := tok_at r1 hjl
          obtain ⟨j2, q2, L2, B⟩ := tok_at r2 hjl
          have w1 : IntKind.i64.wrap ((j : Int) + 1) = (j : Int) + 1 := w64 (by omega)
          have hb1 := A.len
          have hb2 := B.len
          simp -implicitDefEqProofs (disch := first | assumption | (simp only [wnA]; done) | (simp only [wnA]; omega) | omega | fail) [wkA, retV, stabOk, dC, ev, fillD, pickCells, putAt, bnd, slD, List.getElem?_cons_zero, List.getElem?_cons_succ, dR.eq_20, Mem.cell, Mem.row, wmA, hjl, ijl, rc6_0, t5, t7, t64, A.idx, B.idx, A.get, B.get, A.g3, B.g3, getL A.g3, getL B.g3, w1]
          exact hK (k - 1) _ m3 (by omega) ⟨j + 1, by omega, rfl, by simp [t5], by simp [t7], by simp [t63], by simp⟩
        · have ijl : ¬ (j : Int) < (us2.length : Int) := by omega
          simp -implicitDefEqProofs (disch := first | assumption | (simp only [wnA]; done) | (simp only [wnA]; omega) | omega | fail) [wkA, retV, stabOk, dC, ev, fillD, pickCells, putAt, bnd, slD, List.getElem?_cons_zero, List.getElem?_cons_succ, dR.eq_20, Mem.cell, Mem.row, wmA, hjl, ijl, rc6_2]
end Go.Proofs.YtilknkpaghihhaaDoor.Ab
