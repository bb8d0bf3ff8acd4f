/- The laws of the tokens: the same tokens. -/
import Derived.Test.YtilknkpaghihhaaDoorAbz
import Derived.Test.YtilknkpaghihhaaDoorAbtkB
import Derived.Test.YtilknkpaghihhaaDoorAbas3
set_option linter.unusedVariables false
set_option linter.unusedSimpArgs false
namespace Go.Proofs.YtilknkpaghihhaaDoor.Ab
open Go Go.RowKit
set_option maxHeartbeats 1000000
set_option maxRecDepth 100000

/-- What lies of a token in a slice. -/
structure TokAt (m : Mem) (v : Value) (n j : Nat) (p : Tk × Nat) (i q : Nat) (L : List Value) : Prop where
  idx : sidx 4 v (.int .i64 (j : Int)) = some (.pointer (some ⟨i, q, none⟩))
  get : (m.get i).cells? = some L
  len : q + 4 ≤ L.length
  g0 : L[q]? = some (.int .i64 p.1.kd)
  g1 : L[q + 1]? = some (.string ⟨⟨p.1.tx⟩⟩)
  g2 : L[q + 2]? = some (.int .i64 p.1.vl)
  g3 : L[q + 3]? = some (.int .i64 (p.2 : Int))
  g : (L.drop q).take 4 = cellP p
theorem tok_at {m : Mem} {v : Value} {us : List (Tk × Nat)} {j : Nat} (h : SlR m 4 v (us.flatMap cellP) us.length) (hj : j < us.length) : ∃ i q L, TokAt m v us.length j us[j] i q L := by
  obtain ⟨i, o, L, hv, hL, hl, ht, hc⟩ := h.at hj
  refine ⟨i, o + j * 4, L, ?_, hL, by omega, ?_, ?_, ?_, ?_, ?_⟩
  · rw [hv]; exact sidx_at hj
  · have := hc 0 (by omega)
    rw [flat_at' cellP_len us (List.getElem?_eq_getElem hj) (by omega)] at this
    exact this
  · have := hc 1 (by omega)
    rw [flat_at' cellP_len us (List.getElem?_eq_getElem hj) (by omega)] at this
    exact this
  · have := hc 2 (by omega)
    rw [flat_at' cellP_len us (List.getElem?_eq_getElem hj) (by omega)] at this
    exact this
  · have := hc 3 (by omega)
    rw [flat_at' cellP_len us (List.getElem?_eq_getElem hj) (by omega)] at this
    exact this
  · rw [ht, flat_at cellP_len us (List.getElem?_eq_getElem hj)]
theorem getL {L : List Value} {k : Nat} {x : Value} (h : L[k]? = some x) : ∀ hk : k < L.length, L[k]'hk = x := fun hk => by
  rw [List.getElem?_eq_getElem hk] at h
  exact Option.some.inj h

theorem c_Same {w0 : World} {m : Mem} {v1 v2 : Value} {xs ys : List (Tk × Nat)} {Q : Value → Mem → Prop} (h1 : SlR m 4 v1 (xs.flatMap cellP) xs.length) (h2 : SlR m 4 v2 (ys.flatMap cellP) ys.length) (he : xs.map (·.1) = ys.map (·.1)) (hn : xs.length ≤ 1000000) (hq : Q (.bool true) m) :
    AbC Tryd.prog w0 13 [v1, v2] m Q := by
  refine AbC_fn ok13 (by simp) ?_
  have hlen : xs.length = ys.length := by simpa using congrArg List.length he
  simp -implicitDefEqProofs (disch := first | assumption | (simp only [wnA]; done) | (simp only [wnA]; omega) | omega | fail) [rc13, ro13, wkA, retV, stabOk, dC, ev, fillD, pickCells, putAt, bnd, slD, List.getElem?_cons_zero, List.getElem?_cons_succ, dR.eq_20, Mem.cell, Mem.row, wmA, h1.slen, h2.slen, hlen, rc13_3]
  refine LoopW_of (fun k ts m' => ∃ j, j + k = xs.length ∧ m' = m ∧ ts 0 = v1 ∧ ts 1 = v2 ∧ ts 12 = .int .i64 (xs.length : Nat) ∧ ts 13 = .int .i64 (j : Nat)) xs.length ?_ ?_
  · exact ⟨0, by omega, rfl, by simp [frA_at], by simp [frA_at], by simp [hlen], by simp⟩
  · rintro k ts m2 K ⟨j, hj, rfl, t0, t1, t12, t13⟩ hK
    simp -implicitDefEqProofs (disch := first | assumption | (simp only [wnA]; done) | (simp only [wnA]; omega) | omega | fail) [rc13_1, wkA, retV, stabOk, dC, ev, fillD, pickCells, putAt, bnd, slD, List.getElem?_cons_zero, List.getElem?_cons_succ, dR.eq_20, Mem.cell, Mem.row, wmA, t12, t13]
    by_cases hjl : j < xs.length
    · have ijl : (j : Int) < (xs.length : Int) := by omega
      obtain ⟨i1, q1, L1, A⟩ := tok_at h1 hjl
      obtain ⟨i2, q2, L2, B⟩ := tok_at h2 (show j < ys.length by omega)
      have e : (xs[j]).1 = (ys[j]'(by omega)).1 := by
        have := congrArg (fun l => l[j]?) he
        simp only [List.getElem?_map, List.getElem?_eq_getElem hjl, List.getElem?_eq_getElem (show j < ys.length by omega), Option.map_some, Option.some.injEq] at this
        exact this
      have w1 : IntKind.i64.wrap ((j : Int) + 1) = (j : Int) + 1 := w64 (by omega)
      have hb1 := A.len
      have hb2 := B.len
      have a0 := A.g0
      have a1 := A.g1
      have a2 := A.g2
      rw [e] at a0 a1 a2
      simp -implicitDefEqProofs (disch := first | assumption | (simp only [wnA]; done) | (simp only [wnA]; omega) | omega | fail) [wkA, retV, stabOk, dC, ev, fillD, pickCells, putAt, bnd, slD, List.getElem?_cons_zero, List.getElem?_cons_succ, dR.eq_20, Mem.cell, Mem.row, wmA, hjl, ijl, rc13_0, t0, t1, t13, A.idx, B.idx, A.get, B.get, a0, a1, a2, getL a0, getL a1, getL a2, B.g0, B.g1, B.g2, getL B.g0, getL B.g1, getL B.g2, w1]
      exact hK (k - 1) _ m2 (by omega) ⟨j + 1, by omega, rfl, by simp [t0], by simp [t1], by simp [t12], by simp⟩
    · have ijl : ¬ (j : Int) < (xs.length : Int) := by omega
      simp -implicitDefEqProofs (disch := first | assumption | (simp only [wnA]; done) | (simp only [wnA]; omega) | omega | fail) [wkA, retV, stabOk, dC, ev, fillD, pickCells, putAt, bnd, slD, List.getElem?_cons_zero, List.getElem?_cons_succ, dR.eq_20, Mem.cell, Mem.row, wmA, hjl, ijl, rc13_2]
      exact hq
end Go.Proofs.YtilknkpaghihhaaDoor.Ab
