/- A text in quotes is cut into one token. -/
import Derived.Test.YtilknkpaghihhaaDoorAbz
import Derived.Test.YtilknkpaghihhaaDoorAbq2
set_option linter.unusedVariables false
set_option linter.unusedSimpArgs false
namespace Go.Proofs.YtilknkpaghihhaaDoor.Ab
open Go Go.RowKit
set_option maxHeartbeats 4000000
set_option maxRecDepth 100000

theorem idx114 : outIs (.int .i64 2) (callE tab (xCall xs) Tryd.prog 50 31 [.string ⟨#[92, 34, 114, 110]⟩, .int .u8 114] L0) = true := by kernel_rfl
theorem idx110 : outIs (.int .i64 3) (callE tab (xCall xs) Tryd.prog 50 31 [.string ⟨#[92, 34, 114, 110]⟩, .int .u8 110] L0) = true := by kernel_rfl
theorem idx92 : outIs (.int .i64 0) (callE tab (xCall xs) Tryd.prog 50 31 [.string ⟨#[92, 34, 114, 110]⟩, .int .u8 92] L0) = true := by kernel_rfl
theorem idx34 : outIs (.int .i64 1) (callE tab (xCall xs) Tryd.prog 50 31 [.string ⟨#[92, 34, 114, 110]⟩, .int .u8 34] L0) = true := by kernel_rfl
theorem letter34 : outIs (.bool false) (callE tab (xCall xs) Tryd.prog 50 26 [.int .u8 34] L0) = true := by kernel_rfl
theorem digit34 : outIs (.bool false) (callE tab (xCall xs) Tryd.prog 50 28 [.int .u8 34] L0) = true := by kernel_rfl

theorem closed {w0 : World} {m : Mem} {f : FuncId} {args : List Value} {v : Value} {Q : Value → Mem → Prop} {n : Nat} (hp : Part L0 m) (ha : args.all (plainV 6) = true) (h : outIs v (callE tab (xCall xs) Tryd.prog n f args L0) = true) (hv : plainV 6 v = true) (hq : Q v m) : AbC Tryd.prog w0 f args m Q :=
  AbC_run n tab_ok xs_ok hp (Nat.le_of_eq globals_size) ha h hv hq

theorem ba_idx (l : List UInt8) (n : Nat) : (ByteArray.mk ⟨l⟩)[n]? = l[n]? := by
  show (if h : n < l.length then some _ else none) = _
  split
  · rename_i hj; rw [List.getElem?_eq_getElem hj]; rfl
  · rename_i hj; rw [List.getElem?_eq_none (by omega)]
theorem getOf {S : ByteArray} {n : Nat} {x : UInt8} (g : S[n]? = some x) : ∀ h : n < S.size, S[n]'h = x := fun h => by
  have := getElem?_pos S n h
  rw [g] at this
  exact (Option.some.inj this).symm
theorem ba_size (l : List UInt8) : (ByteArray.mk ⟨l⟩).size = l.length := rfl

theorem c_quoted {w0 : World} {m : Mem} {l e : List UInt8} {Q : Value → Mem → Prop} (hp : Part L0 m) (he : escL l = some e) (hll : e.length ≤ 1000000) (hlb : l.length ≤ 1000000)
    (hq : ∀ m', Old m m' → Q (.tuple ⟨[.int .i64 (e.length + 2 : Nat), .string ⟨⟨l⟩⟩, .bool true]⟩) m') : AbC Tryd.prog w0 30 [.string ⟨⟨34 :: (e ++ [34])⟩⟩] m Q := by
  refine AbC_fn ok30 (by simp) ?_
  have hsz : (ByteArray.mk ⟨34 :: (e ++ [34])⟩).size = e.length + 2 := by rw [ba_size]; simp
  have hget : ∀ n, (ByteArray.mk ⟨34 :: (e ++ [34])⟩)[n + 1]? = (e ++ [34])[n]? := fun n => by rw [ba_idx]; rfl
  generalize hS : ByteArray.mk ⟨34 :: (e ++ [34])⟩ = S at *
  simp -implicitDefEqProofs (disch := first | assumption | (simp only [wnA]; done) | (simp only [wnA]; omega) | omega | fail) [rc30, ro30, wkA, retV, stabOk, dC, ev, fillD, pickCells, putAt, bnd, slD, List.getElem?_cons_zero, List.getElem?_cons_succ, dR.eq_20, Mem.cell, Mem.row, wmA]
  refine LoopW_of (fun k ts m' => ∃ l1 l2 e1 e2, l1 ++ l2 = l ∧ escL l1 = some e1 ∧ escL l2 = some e2 ∧ e1 ++ e2 = e ∧ l2.length = k ∧ ts 0 = .string S ∧ ts 6 = .int .i64 (e1.length + 1 : Nat) ∧ ts 5 = .pointer (some ⟨m.next, 0, none⟩) ∧ Bld m m' m.next l1) l.length ?_ ?_
  · exact ⟨[], l, [], e, rfl, rfl, he, rfl, rfl, by simp [frA_at], by simp, by simp, Bld.new (Old.refl m)⟩
  · rintro k ts m2 K ⟨l1, l2, e1, e2, hl, h1, h2, hee, hk, t0, t6, t5, hb⟩ hK
    have hlen := congrArg List.length hee
    simp only [List.length_append] at hlen
    have hl1 := congrArg List.length hl
    simp only [List.length_append] at hl1
    have hlt : e1.length + 1 < S.size := by omega
    have hp2 : Part L0 m2 := hb.1.part hp
    have hlt' : (e1.length : Int) + 1 < (S.size : Int) := by omega
    have e00 : ((e1.length : Int) + 1).toNat = e1.length + 1 := by omega
    have e01 : (0 : Int) ≤ (e1.length : Int) + 1 := by omega
    have e02 : (0 : Int) ≤ (e1.length : Int) + 1 + 1 := by omega
    cases l2 with
    | nil =>
      simp [escL] at h2
      subst h2
      have g1 : S[e1.length + 1]? = some 34 := by rw [hget, ← hee]; simp
      have hll1 : l1 = l := by simpa using hl
      have hee1 : e1 = e := by simpa using hee
      subst hll1 hee1
      simp -implicitDefEqProofs (disch := first | assumption | (simp only [wnA]; done) | (simp only [wnA]; omega) | omega | fail) [rc30_3, rc30_2, wkA, retV, stabOk, dC, ev, fillD, pickCells, putAt, bnd, slD, List.getElem?_cons_zero, List.getElem?_cons_succ, dR.eq_20, Mem.cell, Mem.row, wmA, t0, t5, t6, hlt, hlt', e00, e01, e02, g1, getOf g1, w64]
      refine c_BString hb (by omega) fun m3 h3 => ?_
      simp -implicitDefEqProofs (disch := first | assumption | (simp only [wnA]; done) | (simp only [wnA]; omega) | omega | fail) [wkA, retV, stabOk, dC, ev, fillD, pickCells, putAt, bnd, slD, List.getElem?_cons_zero, List.getElem?_cons_succ, dR.eq_20, Mem.cell, Mem.row, wmA, w64]
      have e0 : ((e1.length : Int) + 1 + 1) = ((e1.length + 2 : Nat) : Int) := by omega
      rw [e0]
      exact hq m3 h3
    | cons c l2 =>
      simp only [escL] at h2
      split at h2
      case h_2 => cases h2
      rename_i a b ha hb2
      simp at h2
      subst h2
      have hw := hK (k - 1)
      have hk' : k - 1 < k := by simp at hk; omega
      have fin : ∀ (ts' : Fr) (m' : Mem), ts' 0 = ts 0 → ts' 5 = ts 5 → ts' 6 = .int .i64 (e1.length + a.length + 1 : Nat) → Bld m m' m.next (l1 ++ [c]) → K ts' m' := fun ts' m' r0 r5 r6 hb' =>
        hw ts' m' hk' ⟨l1 ++ [c], l2, e1 ++ a, b, by simpa using hl, escL_snoc h1 ha, hb2, by simpa using hee, by simp at hk; omega, by rw [r0, t0], by rw [r6]; simp, by rw [r5, t5], hb'⟩
      have hl1b : l1.length + 1 ≤ 140737488355328 := by simp at hl1; omega
      have esc : ∀ (x : UInt8) (z : Int), a = [92, x] → S[e1.length + 1]? = some 92 ∧ S[e1.length + 2]? = some x ∧ ((e1.length : Int) + 1 + 1 == (S.size : Int)) = false := by
        intro x z hax
        subst hax
        refine ⟨by rw [hget, ← hee]; simp, by rw [hget, ← hee]; simp, ?_⟩
        have : (e1.length : Int) + 1 + 1 ≠ (S.size : Int) := by simp at hlen; omega
        simpa using this
      have e0 : ((e1.length : Int) + 1 + 1).toNat = e1.length + 2 := by omega
      have e3 : ((e1.length + 2 + 1 : Nat) : Int) = (e1.length : Int) + 1 + 1 + 1 := by omega
      unfold escC at ha
      split at ha
      · rename_i hc
        simp at ha
        have hcc : c = 13 := UInt8.toNat_inj.1 (by rw [hc]; rfl)
        subst hcc
        obtain ⟨g1, g2, g3⟩ := esc 114 0 ha.symm
        simp -implicitDefEqProofs (disch := first | assumption | (simp only [wnA]; done) | (simp only [wnA]; omega) | omega | fail) [rc30_3, rc30_2, rc30_1, rc30_0, wkA, retV, stabOk, dC, ev, fillD, pickCells, putAt, bnd, slD, List.getElem?_cons_zero, List.getElem?_cons_succ, dR.eq_20, Mem.cell, Mem.row, wmA, t0, t5, t6, hlt, hlt', e00, e01, e02, g1, getOf g1, g2, getOf g2, g3, e0, w64]
        refine closed hp2 rfl idx114 rfl ?_
        simp -implicitDefEqProofs (disch := first | assumption | (simp only [wnA]; done) | (simp only [wnA]; omega) | omega | fail) [wkA, retV, stabOk, dC, ev, fillD, pickCells, putAt, bnd, slD, List.getElem?_cons_zero, List.getElem?_cons_succ, dR.eq_20, Mem.cell, Mem.row, wmA, t0, t5, t6, hlt, hlt', e00, e01, e02, g1, getOf g1, g2, getOf g2, g3, e0, w64]
        refine c_WriteByte (b := 13) hb hl1b fun m3 h3 => ?_
        simp -implicitDefEqProofs (disch := first | assumption | (simp only [wnA]; done) | (simp only [wnA]; omega) | omega | fail) [wkA, retV, stabOk, dC, ev, fillD, pickCells, putAt, bnd, slD, List.getElem?_cons_zero, List.getElem?_cons_succ, dR.eq_20, Mem.cell, Mem.row, wmA, w64]
        subst ha
        exact fin _ _ (by simp) (by simp) (by simp; omega) h3
      · split at ha
        · rename_i hc0 hc
          simp at ha
          have hcc : c = 10 := UInt8.toNat_inj.1 (by rw [hc]; rfl)
          subst hcc
          obtain ⟨g1, g2, g3⟩ := esc 110 0 ha.symm
          simp -implicitDefEqProofs (disch := first | assumption | (simp only [wnA]; done) | (simp only [wnA]; omega) | omega | fail) [rc30_3, rc30_2, rc30_1, rc30_0, wkA, retV, stabOk, dC, ev, fillD, pickCells, putAt, bnd, slD, List.getElem?_cons_zero, List.getElem?_cons_succ, dR.eq_20, Mem.cell, Mem.row, wmA, t0, t5, t6, hlt, hlt', e00, e01, e02, g1, getOf g1, g2, getOf g2, g3, e0, w64]
          refine closed hp2 rfl idx110 rfl ?_
          simp -implicitDefEqProofs (disch := first | assumption | (simp only [wnA]; done) | (simp only [wnA]; omega) | omega | fail) [wkA, retV, stabOk, dC, ev, fillD, pickCells, putAt, bnd, slD, List.getElem?_cons_zero, List.getElem?_cons_succ, dR.eq_20, Mem.cell, Mem.row, wmA, t0, t5, t6, hlt, hlt', e00, e01, e02, g1, getOf g1, g2, getOf g2, g3, e0, w64]
          refine c_WriteByte (b := 10) hb hl1b fun m3 h3 => ?_
          simp -implicitDefEqProofs (disch := first | assumption | (simp only [wnA]; done) | (simp only [wnA]; omega) | omega | fail) [wkA, retV, stabOk, dC, ev, fillD, pickCells, putAt, bnd, slD, List.getElem?_cons_zero, List.getElem?_cons_succ, dR.eq_20, Mem.cell, Mem.row, wmA, w64]
          subst ha
          exact fin _ _ (by simp) (by simp) (by simp; omega) h3
        · split at ha
          · cases ha
          · split at ha
            · rename_i hc
              simp at ha
              rcases hc with hc | hc
              · have hcc : c = 34 := UInt8.toNat_inj.1 (by rw [hc]; rfl)
                subst hcc
                obtain ⟨g1, g2, g3⟩ := esc 34 0 ha.symm
                simp -implicitDefEqProofs (disch := first | assumption | (simp only [wnA]; done) | (simp only [wnA]; omega) | omega | fail) [rc30_3, rc30_2, rc30_1, rc30_0, wkA, retV, stabOk, dC, ev, fillD, pickCells, putAt, bnd, slD, List.getElem?_cons_zero, List.getElem?_cons_succ, dR.eq_20, Mem.cell, Mem.row, wmA, t0, t5, t6, hlt, hlt', e00, e01, e02, g1, getOf g1, g2, getOf g2, g3, e0, w64]
                refine closed hp2 rfl idx34 rfl ?_
                simp -implicitDefEqProofs (disch := first | assumption | (simp only [wnA]; done) | (simp only [wnA]; omega) | omega | fail) [wkA, retV, stabOk, dC, ev, fillD, pickCells, putAt, bnd, slD, List.getElem?_cons_zero, List.getElem?_cons_succ, dR.eq_20, Mem.cell, Mem.row, wmA, t0, t5, t6, hlt, hlt', e00, e01, e02, g1, getOf g1, g2, getOf g2, g3, e0, w64]
                refine c_WriteByte (b := 34) hb hl1b fun m3 h3 => ?_
                simp -implicitDefEqProofs (disch := first | assumption | (simp only [wnA]; done) | (simp only [wnA]; omega) | omega | fail) [wkA, retV, stabOk, dC, ev, fillD, pickCells, putAt, bnd, slD, List.getElem?_cons_zero, List.getElem?_cons_succ, dR.eq_20, Mem.cell, Mem.row, wmA, w64]
                subst ha
                exact fin _ _ (by simp) (by simp) (by simp; omega) h3
              · have hcc : c = 92 := UInt8.toNat_inj.1 (by rw [hc]; rfl)
                subst hcc
                obtain ⟨g1, g2, g3⟩ := esc 92 0 ha.symm
                simp -implicitDefEqProofs (disch := first | assumption | (simp only [wnA]; done) | (simp only [wnA]; omega) | omega | fail) [rc30_3, rc30_2, rc30_1, rc30_0, wkA, retV, stabOk, dC, ev, fillD, pickCells, putAt, bnd, slD, List.getElem?_cons_zero, List.getElem?_cons_succ, dR.eq_20, Mem.cell, Mem.row, wmA, t0, t5, t6, hlt, hlt', e00, e01, e02, g1, getOf g1, g2, getOf g2, g3, e0, w64]
                refine closed hp2 rfl idx92 rfl ?_
                simp -implicitDefEqProofs (disch := first | assumption | (simp only [wnA]; done) | (simp only [wnA]; omega) | omega | fail) [wkA, retV, stabOk, dC, ev, fillD, pickCells, putAt, bnd, slD, List.getElem?_cons_zero, List.getElem?_cons_succ, dR.eq_20, Mem.cell, Mem.row, wmA, t0, t5, t6, hlt, hlt', e00, e01, e02, g1, getOf g1, g2, getOf g2, g3, e0, w64]
                refine c_WriteByte (b := 92) hb hl1b fun m3 h3 => ?_
                simp -implicitDefEqProofs (disch := first | assumption | (simp only [wnA]; done) | (simp only [wnA]; omega) | omega | fail) [wkA, retV, stabOk, dC, ev, fillD, pickCells, putAt, bnd, slD, List.getElem?_cons_zero, List.getElem?_cons_succ, dR.eq_20, Mem.cell, Mem.row, wmA, w64]
                subst ha
                exact fin _ _ (by simp) (by simp) (by simp; omega) h3
            · rename_i n13 n10 nr nq
              simp at ha
              subst ha
              have g1 : S[e1.length + 1]? = some c := by rw [hget, ← hee]; simp
              have c1 : (c.toNat : Int) ≠ 34 := by omega
              have c2 : (c.toNat : Int) ≠ 92 := by omega
              have c3 : (32 : Int) ≤ c.toNat := by omega
              have c4 : (c.toNat : Int) ≤ 126 := by omega
              simp -implicitDefEqProofs (disch := first | assumption | (simp only [wnA]; done) | (simp only [wnA]; omega) | omega | fail) [rc30_3, rc30_2, rc30_1, rc30_0, wkA, retV, stabOk, dC, ev, fillD, pickCells, putAt, bnd, slD, List.getElem?_cons_zero, List.getElem?_cons_succ, dR.eq_20, Mem.cell, Mem.row, wmA, t0, t5, t6, hlt, hlt', e00, e01, e02, g1, getOf g1, e0, w64, beqF c1, bneT c2, ltF c3, gtF c4]
              refine c_WriteByte hb hl1b fun m3 h3 => ?_
              simp -implicitDefEqProofs (disch := first | assumption | (simp only [wnA]; done) | (simp only [wnA]; omega) | omega | fail) [wkA, retV, stabOk, dC, ev, fillD, pickCells, putAt, bnd, slD, List.getElem?_cons_zero, List.getElem?_cons_succ, dR.eq_20, Mem.cell, Mem.row, wmA, t6, w64]
              exact fin _ _ (by simp) (by simp) (by simp) h3
end Go.Proofs.YtilknkpaghihhaaDoor.Ab
