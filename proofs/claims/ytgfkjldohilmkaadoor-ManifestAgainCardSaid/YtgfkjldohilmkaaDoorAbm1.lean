/- What an entry takes: both ways of reckoning answer alike. -/
import Derived.Test.YtgfkjldohilmkaaDoorAbz
import Derived.Test.YtgfkjldohilmkaaDoorLaid
import Derived.Test.YtgfkjldohilmkaaDoorAbu1
set_option linter.unusedVariables false
set_option linter.unusedSimpArgs false
namespace Go.Proofs.YtgfkjldohilmkaaDoor.Ab
open Go Go.RowKit
set_option maxHeartbeats 4000000
set_option maxRecDepth 100000

def roomOf (s w : Int) : Int := if w = 3 ∨ s < 0 ∨ 8192 < s then (if s < 0 then 0 else if 8192 < s then 8192 else s) else (s + 127) / 128 * 128

theorem c_Room {w0 : World} {m : Mem} {nm : ByteArray} {a s p w : Int} {Q : Value → Mem → Prop} (hq : ∀ m', Old m m' → Q (.int .i64 (roomOf s w)) m') :
    AbC Tryd.prog w0 16 [.agg ⟨[.string nm, .int .i64 a, .int .i64 s, .int .u32 p, .int .i64 w]⟩] m Q := by
  refine AbC_fn ok16 (by simp) ?_
  have ho : Old m (m.push (.own [.string nm, .int .i64 a, .int .i64 s, .int .u32 p, .int .i64 w] 36)) := (Old.refl m).push _
  have hq' := hq _ ho
  have cls : w = 3 ∨ (w ≠ 3 ∧ s < 0) ∨ (w ≠ 3 ∧ 0 ≤ s ∧ 8192 < s) ∨ (w ≠ 3 ∧ 0 ≤ s ∧ s ≤ 8192) := by omega
  rcases cls with rfl | ⟨h1, h2⟩ | ⟨h1, h2, h3⟩ | ⟨h1, h2, h3⟩
  · have e : roomOf s 3 = (if (if 8192 < s then 8192 else s) > 0 then (if 8192 < s then 8192 else s) else 0) := by
      simp only [roomOf, true_or, if_true]
      split <;> split <;> split <;> omega
    rw [e] at hq'
    simp -implicitDefEqProofs (disch := first | assumption | (simp only [wnA]; done) | (simp only [wnA]; omega) | omega | fail) [rc16, ro16, wkA, retV, stabOk, dC, ev, fillD, pickCells, putAt, bnd, slD, List.getElem?_cons_zero, List.getElem?_cons_succ, dR.eq_20, Mem.cell, Mem.row, wmA]
    simpa using hq'
  · have e : roomOf s w = 0 := by simp [roomOf, h1, h2]
    rw [e] at hq'
    have n1 : ¬ (8192 < s) := by omega
    have n2 : ¬ (0 < s) := by omega
    simp -implicitDefEqProofs (disch := first | assumption | (simp only [wnA]; done) | (simp only [wnA]; omega) | omega | fail) [rc16, ro16, wkA, retV, stabOk, dC, ev, fillD, pickCells, putAt, bnd, slD, List.getElem?_cons_zero, List.getElem?_cons_succ, dR.eq_20, Mem.cell, Mem.row, wmA, beqF h1, ltT h2, n1, n2]
    exact hq'
  · have e : roomOf s w = 8192 := by simp only [roomOf]; rw [if_pos (by omega), if_neg (by omega), if_pos h3]
    rw [e] at hq'
    simp -implicitDefEqProofs (disch := first | assumption | (simp only [wnA]; done) | (simp only [wnA]; omega) | omega | fail) [rc16, ro16, wkA, retV, stabOk, dC, ev, fillD, pickCells, putAt, bnd, slD, List.getElem?_cons_zero, List.getElem?_cons_succ, dR.eq_20, Mem.cell, Mem.row, wmA, beqF h1, ltF h2, gtT h3, h3]
    exact hq'
  · have e : roomOf s w = (s + 127) / 128 * 128 := by simp only [roomOf]; rw [if_neg (by omega)]
    rw [e] at hq'
    have e2 : (s + 128 - 1).tdiv 128 = (s + 127) / 128 := by rw [Int.tdiv_eq_ediv_of_nonneg (by omega)]; congr 1; omega
    simp -implicitDefEqProofs (disch := first | assumption | (simp only [wnA]; done) | (simp only [wnA]; omega) | omega | fail) [rc16, rc16_0, ro16, wkA, retV, stabOk, dC, ev, fillD, pickCells, putAt, bnd, slD, List.getElem?_cons_zero, List.getElem?_cons_succ, dR.eq_20, Mem.cell, Mem.row, wmA, beqF h1, ltF h2, gtF h3, w64, dBin_quo, e2]
    exact hq'

theorem c_room {w0 : World} {m : Mem} {nm : ByteArray} {a s p w : Int} {Q : Value → Mem → Prop} (hq : ∀ m', Old m m' → Q (.int .i64 (roomOf s w)) m') :
    AbC Tryd.prog w0 17 [.agg ⟨[.string nm, .int .i64 a, .int .i64 s, .int .u32 p, .int .i64 w]⟩] m Q := by
  refine AbC_fn ok17 (by simp) ?_
  have ho : Old m (m.push (.own [.string nm, .int .i64 a, .int .i64 s, .int .u32 p, .int .i64 w] 36)) := (Old.refl m).push _
  have hq' := hq _ ho
  have cls : w = 3 ∨ (w ≠ 3 ∧ s < 0) ∨ (w ≠ 3 ∧ 0 ≤ s ∧ 8192 < s) ∨ (w ≠ 3 ∧ 0 ≤ s ∧ s ≤ 8192) := by omega
  rcases cls with rfl | ⟨h1, h2⟩ | ⟨h1, h2, h3⟩ | ⟨h1, h2, h3⟩
  · have e : roomOf s 3 = (if (if s < 8192 then s else 8192) > 0 then (if s < 8192 then s else 8192) else 0) := by
      simp only [roomOf, true_or, if_true]
      split <;> split <;> split <;> omega
    rw [e] at hq'
    simp -implicitDefEqProofs (disch := first | assumption | (simp only [wnA]; done) | (simp only [wnA]; omega) | omega | fail) [rc17, ro17, wkA, retV, stabOk, dC, ev, fillD, pickCells, putAt, bnd, slD, List.getElem?_cons_zero, List.getElem?_cons_succ, dR.eq_20, Mem.cell, Mem.row, wmA]
    simpa using hq'
  · have e : roomOf s w = 0 := by simp [roomOf, h1, h2]
    rw [e] at hq'
    have n1 : s < 8192 := by omega
    have n2 : ¬ (0 < s) := by omega
    have n3 : (0 : Int) ≠ s := by omega
    simp -implicitDefEqProofs (disch := first | assumption | (simp only [wnA]; done) | (simp only [wnA]; omega) | omega | fail) [rc17, ro17, wkA, retV, stabOk, dC, ev, fillD, pickCells, putAt, bnd, slD, List.getElem?_cons_zero, List.getElem?_cons_succ, dR.eq_20, Mem.cell, Mem.row, wmA, beqF h1, n1, n2, bneT n3]
    exact hq'
  · have e : roomOf s w = 8192 := by simp only [roomOf]; rw [if_pos (by omega), if_neg (by omega), if_pos h3]
    rw [e] at hq'
    have n1 : ¬ (s < 8192) := by omega
    have n3 : (8192 : Int) ≠ s := by omega
    simp -implicitDefEqProofs (disch := first | assumption | (simp only [wnA]; done) | (simp only [wnA]; omega) | omega | fail) [rc17, ro17, wkA, retV, stabOk, dC, ev, fillD, pickCells, putAt, bnd, slD, List.getElem?_cons_zero, List.getElem?_cons_succ, dR.eq_20, Mem.cell, Mem.row, wmA, beqF h1, n1, bneT n3]
    exact hq'
  · have e : roomOf s w = (s + 127) / 128 * 128 := by simp only [roomOf]; rw [if_neg (by omega)]
    rw [e] at hq'
    have n1 : (if s < 8192 then s else 8192) = s := by split <;> omega
    have n2 : (if 0 < s then s else 0) = s := by split <;> omega
    have n3 : s = s := rfl
    simp -implicitDefEqProofs (disch := first | assumption | (simp only [wnA]; done) | (simp only [wnA]; omega) | omega | fail) [rc17, ro17, wkA, retV, stabOk, dC, ev, fillD, pickCells, putAt, bnd, slD, List.getElem?_cons_zero, List.getElem?_cons_succ, dR.eq_20, Mem.cell, Mem.row, wmA, beqF h1, n1, n2, bneF n3]
    refine LoopW_of (fun k ts m' => ∃ n : Int, s ≤ n ∧ n ≤ (s + 127) / 128 * 128 ∧ ((s + 127) / 128 * 128 - n).toNat = k ∧ m' = m.push (.own [.string nm, .int .i64 a, .int .i64 s, .int .u32 p, .int .i64 w] 36) ∧ ts 3 = .int .i64 n) ((s + 127) / 128 * 128 - s).toNat ?_ ?_
    · exact ⟨s, by omega, by omega, rfl, rfl, by simp⟩
    · rintro k ts m1 K ⟨n, l1, l2, l3, rfl, t3⟩ hK
      by_cases hr : n.tmod 128 = 0
      · have : n = (s + 127) / 128 * 128 := by rw [Int.tmod_eq_emod_of_nonneg (by omega)] at hr; omega
        subst this
        simp -implicitDefEqProofs (disch := first | assumption | (simp only [wnA]; done) | (simp only [wnA]; omega) | omega | fail) [rc17_1, rc17_2, wkA, retV, stabOk, dC, ev, fillD, pickCells, putAt, bnd, slD, List.getElem?_cons_zero, List.getElem?_cons_succ, dR.eq_20, Mem.cell, Mem.row, wmA, t3, dBin_rem, bneF hr]
        exact hq'
      · have h0 : n % 128 ≠ 0 := by rw [Int.tmod_eq_emod_of_nonneg (by omega)] at hr; exact hr
        simp -implicitDefEqProofs (disch := first | assumption | (simp only [wnA]; done) | (simp only [wnA]; omega) | omega | fail) [rc17_1, rc17_0, wkA, retV, stabOk, dC, ev, fillD, pickCells, putAt, bnd, slD, List.getElem?_cons_zero, List.getElem?_cons_succ, dR.eq_20, Mem.cell, Mem.row, wmA, t3, dBin_rem, bneT hr, w64]
        exact hK (k - 1) _ _ (by omega) ⟨n + 1, by omega, by omega, by omega, rfl, by simp⟩

theorem roomOf_ge (s w : Int) : (if s < 8192 then s else 8192) ≤ roomOf s w := by
  unfold roomOf; split <;> split <;> (try split) <;> omega

theorem l_Room {w0 : World} {m : Mem} {nm : ByteArray} {a s p w z : Int} (hp : Part L0 m) (hz : 0 ≤ z ∧ z ≤ 65535) :
    AbC Tryd.prog w0 6 [.agg ⟨[.string nm, .int .i64 a, .int .i64 s, .int .u32 p, .int .i64 w]⟩, .int .u16 z] m fun v _ => v = .bool true := by
  refine AbC_fn ok6 (by simp) ?_
  simp -implicitDefEqProofs (disch := first | assumption | (simp only [wnA]; done) | (simp only [wnA]; omega) | omega | fail) [rc6, ro6, wkA, retV, stabOk, dC, ev, fillD, pickCells, putAt, bnd, slD, List.getElem?_cons_zero, List.getElem?_cons_succ, dR.eq_20, Mem.cell, Mem.row, wmA]
  have ho : Old m (m.push (.own [.string nm, .int .i64 a, .int .i64 s, .int .u32 p, .int .i64 w] 36)) := (Old.refl m).push _
  refine c_awake (ho.part hp) ?_
  have hr : (9000 : Int) ≠ 0 := by omega
  simp -implicitDefEqProofs (disch := first | assumption | (simp only [wnA]; done) | (simp only [wnA]; omega) | omega | fail) [rc6_0, wkA, retV, stabOk, dC, ev, fillD, pickCells, putAt, bnd, slD, List.getElem?_cons_zero, List.getElem?_cons_succ, dR.eq_20, Mem.cell, Mem.row, wmA, w64, dBin_rem]
  have hq0 : 0 ≤ z.tmod 9000 := by rw [Int.tmod_eq_emod_of_nonneg (by omega)]; omega
  generalize z.tmod 9000 = q at *
  refine SK_st (i := m.next + 1) (o := 0) (by simp [wkA, retV, stabOk, dC, ev, fillD, pickCells, putAt, bnd, slD, List.getElem?_cons_zero, List.getElem?_cons_succ, dR.eq_20]) (e := 36) (by simp -implicitDefEqProofs (disch := first | assumption | (simp only [wnA]; done) | (simp only [wnA]; omega) | omega | fail) [Mem.cell, Mem.row, wmA]; rfl) (by simp) (by simp [wkA, retV, stabOk, dC, ev, fillD, pickCells, putAt, bnd, slD, List.getElem?_cons_zero, List.getElem?_cons_succ, dR.eq_20]) (by simp [wkA, retV, stabOk, dC, ev, fillD, pickCells, putAt, bnd, slD, List.getElem?_cons_zero, List.getElem?_cons_succ, dR.eq_20, oneC]) ?_
  simp -implicitDefEqProofs (disch := first | assumption | (simp only [wnA]; done) | (simp only [wnA]; omega) | omega | fail) [wkA, retV, stabOk, dC, ev, fillD, pickCells, putAt, bnd, slD, List.getElem?_cons_zero, List.getElem?_cons_succ, dR.eq_20, Mem.cell, Mem.row, wmA]
  refine c_Room fun m1 h1 => ?_
  have g0 : m1.get m.next = .own [.string nm, .int .i64 a, .int .i64 s, .int .u32 p, .int .i64 w] 36 := by
    rw [h1.2 _ (by simp only [Mem.set_nxt, Mem.push_nxt]; omega)]; simp -implicitDefEqProofs (disch := first | assumption | (simp only [wnA]; done) | (simp only [wnA]; omega) | omega | fail) [Mem.cell, Mem.row, wmA]
  have g1 : m1.get (m.next + 1) = .own [.string ⟨#[]⟩, .int .i64 0, .int .i64 q, .int .u32 0, .int .i64 w] 36 := by
    rw [h1.2 _ (by simp only [Mem.set_nxt, Mem.push_nxt]; omega)]; simp -implicitDefEqProofs (disch := first | assumption | (simp only [wnA]; done) | (simp only [wnA]; omega) | omega | fail) [Mem.cell, Mem.row, wmA]
  have n1 : m.next + 2 ≤ m1.next := by have := h1.1; simpa using this
  clear h1
  simp -implicitDefEqProofs (disch := first | assumption | (simp only [wnA]; done) | (simp only [wnA]; omega) | omega | fail) [wkA, retV, stabOk, dC, ev, fillD, pickCells, putAt, bnd, slD, List.getElem?_cons_zero, List.getElem?_cons_succ, dR.eq_20, Mem.cell, Mem.row, wmA, g0, g1]
  refine c_room fun m2 h2 => ?_
  have g2 : m2.get (m.next + 1) = .own [.string ⟨#[]⟩, .int .i64 0, .int .i64 q, .int .u32 0, .int .i64 w] 36 := by
    rw [h2.2 _ (by omega)]; exact g1
  have n2 := h2.1
  clear h2 g0 g1
  simp -implicitDefEqProofs (disch := first | assumption | (simp only [wnA]; done) | (simp only [wnA]; omega) | omega | fail) [wkA, retV, stabOk, dC, ev, fillD, pickCells, putAt, bnd, slD, List.getElem?_cons_zero, List.getElem?_cons_succ, dR.eq_20, Mem.cell, Mem.row, wmA, g2]
  refine c_Room fun m3 h3 => ?_
  have g3 : m3.get (m.next + 1) = .own [.string ⟨#[]⟩, .int .i64 0, .int .i64 q, .int .u32 0, .int .i64 w] 36 := by
    rw [h3.2 _ (by omega)]; exact g2
  have n3 := h3.1
  clear h3 g2
  simp -implicitDefEqProofs (disch := first | assumption | (simp only [wnA]; done) | (simp only [wnA]; omega) | omega | fail) [wkA, retV, stabOk, dC, ev, fillD, pickCells, putAt, bnd, slD, List.getElem?_cons_zero, List.getElem?_cons_succ, dR.eq_20, Mem.cell, Mem.row, wmA, g3]
  refine c_room fun m4 h4 => ?_
  have g4 : m4.get (m.next + 1) = .own [.string ⟨#[]⟩, .int .i64 0, .int .i64 q, .int .u32 0, .int .i64 w] 36 := by
    rw [h4.2 _ (by omega)]; exact g3
  have n4 := h4.1
  clear h4 g3
  simp -implicitDefEqProofs (disch := first | assumption | (simp only [wnA]; done) | (simp only [wnA]; omega) | omega | fail) [wkA, retV, stabOk, dC, ev, fillD, pickCells, putAt, bnd, slD, List.getElem?_cons_zero, List.getElem?_cons_succ, dR.eq_20, Mem.cell, Mem.row, wmA, g4]
  refine c_Room fun m5 h5 => ?_
  have g5 : m5.get (m.next + 1) = .own [.string ⟨#[]⟩, .int .i64 0, .int .i64 q, .int .u32 0, .int .i64 w] 36 := by
    rw [h5.2 _ (by omega)]; exact g4
  have := roomOf_ge q w
  have hge : (if 8192 < q then 8192 else q) ≤ roomOf q w := by split at this <;> split <;> omega
  simp -implicitDefEqProofs (disch := first | assumption | (simp only [wnA]; done) | (simp only [wnA]; omega) | omega | fail) [wkA, retV, stabOk, dC, ev, fillD, pickCells, putAt, bnd, slD, List.getElem?_cons_zero, List.getElem?_cons_succ, dR.eq_20, Mem.cell, Mem.row, wmA, g5, geT hge]

def entryShp : Shp := .recd [.str, .int .i64, .int .i64, .int .u32, .int .i64]
theorem absT_entry {m : Mem} {td : TD} {cs : List Value} (h : AbsT m td cs) (hf : Fits entryShp td) : ∃ nm a s p w, cs = [.string nm, .int .i64 a, .int .i64 s, .int .u32 p, .int .i64 w] ∧ nm.size ≤ maxLen ∧
    (Lit.int .i64 a).wf = true ∧ (Lit.int .i64 s).wf = true ∧ (Lit.int .u32 p).wf = true ∧ (Lit.int .i64 w).wf = true ∧ td = .recd [.str nm, .int .i64 a, .int .i64 s, .int .u32 p, .int .i64 w] := by
  obtain ⟨l0, rfl, k, f⟩ := absT_recd h hf
  obtain ⟨d1, r1, c1, e1, rfl, rfl, h1, g1, k, f⟩ := absTs_cons k f
  obtain ⟨d2, r2, c2, e2, rfl, rfl, h2, g2, k, f⟩ := absTs_cons k f
  obtain ⟨d3, r3, c3, e3, rfl, rfl, h3, g3, k, f⟩ := absTs_cons k f
  obtain ⟨d4, r4, c4, e4, rfl, rfl, h4, g4, k, f⟩ := absTs_cons k f
  obtain ⟨d5, r5, c5, e5, rfl, rfl, h5, g5, k, f⟩ := absTs_cons k f
  obtain ⟨rfl, rfl⟩ := absTs_nil k f
  obtain ⟨nm, rfl, rfl, w1⟩ := absT_str h1 g1
  obtain ⟨a, rfl, rfl, w2⟩ := absT_int h2 g2
  obtain ⟨s, rfl, rfl, w3⟩ := absT_int h3 g3
  obtain ⟨p, rfl, rfl, w4⟩ := absT_int h4 g4
  obtain ⟨w, rfl, rfl, w5⟩ := absT_int h5 g5
  exact ⟨nm, a, s, p, w, rfl, w1, w2, w3, w4, w5, rfl⟩
theorem wf_u16 {n : Int} (h : (Lit.int .u16 n).wf = true) : 0 ≤ n ∧ n ≤ 65535 := by
  have : 0 ≤ n ∧ n ≤ 65535 := by simpa [Lit.wf, IntKind.min, IntKind.max, IntKind.signed, IntKind.bits] using h
  exact this
end Go.Proofs.YtgfkjldohilmkaaDoor.Ab
