/- Data that are read are those of what is read of them: the law. -/
import Derived.Test.YtkpjbpfemkkheaaDoorAbz
import Derived.Test.YtkpjbpfemkkheaaDoorAbh10
set_option linter.unusedVariables false
set_option linter.unusedSimpArgs false
namespace Go.Proofs.YtkpjbpfemkkheaaDoor.Ab
open Go Go.RowKit
set_option maxHeartbeats 1000000
set_option maxRecDepth 100000

theorem putAt_byte {l : List UInt8} {k : Nat} {w : UInt8} (h : k < l.length) : putAt (l.map byteV) k [byteV w] = (l.set k w).map byteV := by
  unfold putAt
  rw [List.map_set, List.set_eq_take_append_cons_drop, if_pos (by simpa using h)]
  simp
theorem may_size {f : Fl} (h : mayB f = true) : f.ok := by
  simp only [mayB, Bool.and_eq_true, nameB, decide_eq_true_eq] at h
  obtain ⟨⟨-, h1, h2⟩, -⟩ := h
  show f.nm.size ≤ _
  omega
theorem SlR.one {m : Mem} {sz n : Nat} {v : Value} {cs : List Value} (h : SlR m sz v cs n) : cellsV v = [v] ∧ oneC v = true := by
  rcases h.2 with ⟨-, rfl | rfl⟩ | ⟨i, o, L, rfl, -⟩ <;> exact ⟨rfl, rfl⟩
theorem w_ReadL {w0 : World} {m : Mem} {Q : AQ} {ts : Fr} {j : Nat} {V : List Value} {x : Value} {xs : List UInt8} (hp : Part L0 m) (ht : Ten w0) (hE : ErrV w0) (hj : j < 3) (i39 : Nat) (hi : i39 < m.next)
    (t39 : ts 39 = .slice (some ⟨i39, 0, none⟩) 3 1) (t40 : ts 40 = .int .i64 3) (t41 : ts 41 = .int .i64 (j : Nat)) (g39 : m.get i39 = .own V 26) (hx : V[j]? = some x) (hs : SlR m 1 x (xs.map byteV) xs.length) (hb : ∀ b, blk x = some b → b < m.next)
    (hq : ∀ ts' m', Old m m' → ts' 39 = ts 39 → ts' 40 = ts 40 → ts' 41 = .int .i64 ((j + 1 : Nat) : Int) → Q .normal ts' m') : AbW Tryd.prog w0 rc6_0 Q ts m := by
  have hsx := sidx_at (b := i39) (o := 0) (n := 3) (c := 1) (j := j) (sz := 1) (k := .i64) hj
  simp only [Nat.zero_add, Nat.mul_one] at hsx
  obtain ⟨hlt, hx'⟩ := List.getElem?_eq_some_iff.1 hx
  have w1 : IntKind.i64.wrap ((j : Int) + 1) = (j : Int) + 1 := w64 (by omega)
  simp -implicitDefEqProofs (disch := first | assumption | (simp only [wnA]; done) | (simp only [wnA]; omega) | omega | fail) [rc6_0, wkA, retV, stabOk, dC, ev, fillD, pickCells, putAt, bnd, slD, List.getElem?_cons_zero, List.getElem?_cons_succ, dR.eq_20, Mem.cell, Mem.row, wmA, t39, t41, hsx, g39, hx, hx']
  refine c_Read' hp ht hE hs hb fun m1 g b o1 y1 z1 => ?_
  simp only [Fl.v]
  simp -implicitDefEqProofs (disch := first | assumption | (simp only [wnA]; done) | (simp only [wnA]; omega) | omega | fail) [wkA, retV, stabOk, dC, ev, fillD, pickCells, putAt, bnd, slD, List.getElem?_cons_zero, List.getElem?_cons_succ, dR.eq_20, Mem.cell, Mem.row, wmA]
  refine SK_st (i := m1.next) (o := 0) (by simp [wkA, retV, stabOk, dC, ev, fillD, pickCells, putAt, bnd, slD, List.getElem?_cons_zero, List.getElem?_cons_succ, dR.eq_20]) (e := 25) (by simp -implicitDefEqProofs (disch := first | assumption | (simp only [wnA]; done) | (simp only [wnA]; omega) | omega | fail) [Mem.cell, Mem.row, wmA]; rfl) (by simp) (by simp [wkA, retV, stabOk, dC, ev, fillD, pickCells, putAt, bnd, slD, List.getElem?_cons_zero, List.getElem?_cons_succ, dR.eq_20]) (by simp [wkA, retV, stabOk, dC, ev, fillD, pickCells, putAt, bnd, slD, List.getElem?_cons_zero, List.getElem?_cons_succ, dR.eq_20, oneC]) ?_
  simp -implicitDefEqProofs (disch := first | assumption | (simp only [wnA]; done) | (simp only [wnA]; omega) | omega | fail) [wkA, retV, stabOk, dC, ev, fillD, pickCells, putAt, bnd, slD, List.getElem?_cons_zero, List.getElem?_cons_succ, dR.eq_20, Mem.cell, Mem.row, wmA]
  have oM := alst (m := m1) (Z := [.string ⟨#[]⟩, .int .i64 0, .int .i64 0, .int .i64 0]) (V := [.string g.nm, .int .i64 g.size, .int .i64 g.time, .int .i64 g.mode]) (e := 25)
  have gR : ((m1.push (.own [.string ⟨#[]⟩, .int .i64 0, .int .i64 0, .int .i64 0] 25)).set m1.next (.own [.string g.nm, .int .i64 g.size, .int .i64 g.time, .int .i64 g.mode] 25)).get m1.next = .own [.string g.nm, .int .i64 g.size, .int .i64 g.time, .int .i64 g.mode] 25 := by simp
  generalize (m1.push (.own [.string ⟨#[]⟩, .int .i64 0, .int .i64 0, .int .i64 0] 25)).set m1.next (.own [.string g.nm, .int .i64 g.size, .int .i64 g.time, .int .i64 g.mode] 25) = m2 at *
  have n2 := oM.2
  have oo2 := o1.trans oM.1
  clear oM o1
  cases b with
  | false =>
    obtain ⟨rfl, -⟩ := z1 rfl
    have hz : sameB ⟨zeroFl.nm, zeroFl.size, zeroFl.time, zeroFl.mode⟩ ⟨⟨#[]⟩, 0, 0, 0⟩ = true := by decide +kernel
    simp -implicitDefEqProofs (disch := first | assumption | (simp only [wnA]; done) | (simp only [wnA]; omega) | omega | fail) [wkA, retV, stabOk, dC, ev, fillD, pickCells, putAt, bnd, slD, List.getElem?_cons_zero, List.getElem?_cons_succ, dR.eq_20, Mem.cell, Mem.row, wmA, gR, dEq_file, hz, t41, w1]
    exact hq _ _ oo2 (by simp) (by simp) (by simp)
  | true =>
    obtain ⟨hm, hxs⟩ := y1 rfl
    simp -implicitDefEqProofs (disch := first | assumption | (simp only [wnA]; done) | (simp only [wnA]; omega) | omega | fail) [wkA, retV, stabOk, dC, ev, fillD, pickCells, putAt, bnd, slD, List.getElem?_cons_zero, List.getElem?_cons_succ, dR.eq_20, Mem.cell, Mem.row, wmA, gR]
    refine c_lmay (f := g) (may_size hm) fun m3 o3 => ?_
    rw [hm]
    rw [← o3.2 _ (by omega)] at gR
    have oo3 := oo2.trans o3
    have n3 := o3.1
    have hb3 := (hs.keep (m' := m3) fun b hb' => oo3.2 b (hb b hb')).bs
    simp -implicitDefEqProofs (disch := first | assumption | (simp only [wnA]; done) | (simp only [wnA]; omega) | omega | fail) [wkA, retV, stabOk, dC, ev, fillD, pickCells, putAt, bnd, slD, List.getElem?_cons_zero, List.getElem?_cons_succ, dR.eq_20, Mem.cell, Mem.row, wmA, gR, hb3]
    refine c_made (f := g) hm fun m4 o4 => ?_
    have oo4 := oo3.trans o4
    have hb4 := (hs.keep (m' := m4) fun b hb' => oo4.2 b (hb b hb')).bs
    rw [← hxs]
    simp -implicitDefEqProofs (disch := first | assumption | (simp only [wnA]; done) | (simp only [wnA]; omega) | omega | fail) [wkA, retV, stabOk, dC, ev, fillD, pickCells, putAt, bnd, slD, List.getElem?_cons_zero, List.getElem?_cons_succ, dR.eq_20, Mem.cell, Mem.row, wmA, hb4, t41, w1]
    exact hq _ _ oo4 (by simp) (by simp) (by simp)

theorem l_Read {w0 : World} {m : Mem} {v1 v2 : Value} {ns raw : List UInt8} {z a w : Int} (hp : Part L0 m) (ht : Ten w0) (hE : ErrV w0) (h1 : SlR m 1 v1 (ns.map byteV) ns.length) (b1 : ∀ b, blk v1 = some b → b < m.next) (h2 : SlR m 1 v2 (raw.map byteV) raw.length) (b2 : ∀ b, blk v2 = some b → b < m.next)
    (l1 : ns.length ≤ maxLen) (hz : 0 ≤ z ∧ z ≤ 65535) (ha : 0 ≤ a ∧ a ≤ 255) (hw : 0 ≤ w ∧ w ≤ 255) :
    AbC Tryd.prog w0 6 [v1, .int .u16 z, .int .u8 a, .int .u8 w, v2] m fun v _ => v = .bool true := by
  refine AbC_fn ok6 (by simp) ?_
  have hml : maxLen ≤ 9223372036854775807 := by unfold maxLen; omega
  have r0 : (8193 : Int) ≠ 0 := by omega
  have r0' : (128 : Int) ≠ 0 := by omega
  have wz : IntKind.i64.wrap z = z := w64 (by omega)
  have r1 : z.tmod 8193 = z % 8193 := Int.tmod_eq_emod_of_nonneg hz.1
  obtain ⟨K, hK⟩ : ∃ K, z % 8193 = K := ⟨_, rfl⟩
  rw [hK] at r1
  have hK1 : 0 ≤ K ∧ K ≤ 8192 := by omega
  obtain ⟨an, rfl⟩ := Int.eq_ofNat_of_zero_le ha.1
  obtain ⟨k, hk⟩ : ∃ k, an % 128 = k := ⟨_, rfl⟩
  have r2 : (an : Int).tmod 128 = (k : Int) := by rw [Int.tmod_eq_emod_of_nonneg (by omega)]; omega
  have hk1 : k < 128 := by omega
  have hk2 : (k : Int) ≤ 128 := by omega
  have hk3 : k ≤ 128 := by omega
  obtain ⟨wb, hwb⟩ : ∃ wb : UInt8, Value.int .u8 w = byteV wb := by
    obtain ⟨wn, rfl⟩ := Int.eq_ofNat_of_zero_le hw.1
    refine ⟨UInt8.ofNat wn, ?_⟩
    have : (UInt8.ofNat wn).toNat = wn := by rw [UInt8.toNat_ofNat']; omega
    simp only [byteV, this]
  rw [hwb]
  simp -implicitDefEqProofs (disch := first | assumption | (simp only [wnA]; done) | (simp only [wnA]; omega) | omega | fail) [rc6, ro6, wkA, retV, stabOk, dC, ev, fillD, pickCells, putAt, bnd, slD, List.getElem?_cons_zero, List.getElem?_cons_succ, dR.eq_20, Mem.cell, Mem.row, wmA]
  refine c_awake hp ?_
  simp -implicitDefEqProofs (disch := first | assumption | (simp only [wnA]; done) | (simp only [wnA]; omega) | omega | fail) [rc6_3, wkA, retV, stabOk, dC, ev, fillD, pickCells, putAt, bnd, slD, List.getElem?_cons_zero, List.getElem?_cons_succ, dR.eq_20, Mem.cell, Mem.row, wmA]
  refine c_nums h1 (by omega) ?_
  have mA : mayB ⟨⟨⟨nameL ns⟩⟩, K, z, 420⟩ = true := by
    simp [mayB, nameL_ok, hK1, hz.1]
    omega
  simp -implicitDefEqProofs (disch := first | assumption | (simp only [wnA]; done) | (simp only [wnA]; omega) | omega | fail) [wkA, retV, stabOk, dC, ev, fillD, pickCells, putAt, bnd, slD, List.getElem?_cons_zero, List.getElem?_cons_succ, dR.eq_20, Mem.cell, Mem.row, wmA, wz, dBin_rem, r0, r1]
  refine c_made (f := ⟨⟨⟨nameL ns⟩⟩, K, z, 420⟩) mA fun m1 o1 => ?_
  have lA := pad_len mA
  generalize padL (tellL ⟨⟨⟨nameL ns⟩⟩, K, z, 420⟩) = D at *
  simp -implicitDefEqProofs (disch := first | assumption | (simp only [wnA]; done) | (simp only [wnA]; omega) | omega | fail) [wkA, retV, stabOk, dC, ev, fillD, pickCells, putAt, bnd, slD, List.getElem?_cons_zero, List.getElem?_cons_succ, dR.eq_20, Mem.cell, Mem.row, wmA]
  have hs2 : (ByteArray.mk ⟨D⟩).size ≤ 140737488355328 := by show D.length ≤ _; omega
  rw [SK_s2b (s := ⟨⟨D⟩⟩) (by simp [wkA, retV, stabOk, dC, ev, fillD, pickCells, putAt, bnd, slD, List.getElem?_cons_zero, List.getElem?_cons_succ, dR.eq_20]) hs2]
  have hD : (ByteArray.mk ⟨D⟩).size = 128 := lA
  rw [hD]
  have gD : (m1.push (.own ((ByteArray.mk ⟨D⟩).data.toList.map byteV) 5)).get m1.next = .own (D.map byteV) 5 := by simp
  have nD : m1.next + 1 = (m1.push (.own ((ByteArray.mk ⟨D⟩).data.toList.map byteV) 5)).next := by simp
  have o2 : Old m (m1.push (.own ((ByteArray.mk ⟨D⟩).data.toList.map byteV) 5)) := o1.push _
  generalize m1.push (.own ((ByteArray.mk ⟨D⟩).data.toList.map byteV) 5) = m2 at *
  have hsk := sidx_at (b := m1.next) (o := 0) (n := 128) (c := 1) (j := k) (sz := 1) (k := .u8) hk1
  simp only [Nat.zero_add, Nat.mul_one] at hsk
  simp -implicitDefEqProofs (disch := first | assumption | (simp only [wnA]; done) | (simp only [wnA]; omega) | omega | fail) [wkA, retV, stabOk, dC, ev, fillD, pickCells, putAt, bnd, slD, List.getElem?_cons_zero, List.getElem?_cons_succ, dR.eq_20, Mem.cell, Mem.row, wmA, dBin_rem, r0', r2, hsk]
  refine SK_st (i := m1.next) (o := k) (by simp [wkA, retV, stabOk, dC, ev, fillD, pickCells, putAt, bnd, slD, List.getElem?_cons_zero, List.getElem?_cons_succ, dR.eq_20]) (e := 5) gD (by simp; omega) (by simp [wkA, retV, stabOk, dC, ev, fillD, pickCells, putAt, bnd, slD, List.getElem?_cons_zero, List.getElem?_cons_succ, dR.eq_20, byteV]) (by simp [wkA, retV, stabOk, dC, ev, fillD, pickCells, putAt, bnd, slD, List.getElem?_cons_zero, List.getElem?_cons_succ, dR.eq_20, oneC, byteV]) ?_
  have hcb : cellsV (byteV wb) = [byteV wb] := rfl
  have hput : putAt (D.map byteV) k [byteV wb] = (D.set k wb).map byteV := putAt_byte (by omega)
  have hDl : (D.set k wb).length = 128 := by rw [List.length_set]; exact lA
  obtain ⟨E, hEq⟩ : ∃ E, D.set k wb = E := ⟨_, rfl⟩
  rw [hEq] at hput hDl
  have o3 : Old m (m2.set m1.next (.own (E.map byteV) 5)) := o2.set o1.1 _
  have gD3 : (m2.set m1.next (.own (E.map byteV) 5)).get m1.next = .own (E.map byteV) 5 := by simp
  have nD3 : (m2.set m1.next (.own (E.map byteV) 5)).next = m2.next := rfl
  simp -implicitDefEqProofs (disch := first | assumption | (simp only [wnA]; done) | (simp only [wnA]; omega) | omega | fail) [ev, hcb, hput]
  generalize m2.set m1.next (.own (E.map byteV) 5) = m3 at *
  simp -implicitDefEqProofs (disch := first | assumption | (simp only [wnA]; done) | (simp only [wnA]; omega) | omega | fail) [wkA, retV, stabOk, dC, ev, fillD, pickCells, putAt, bnd, slD, List.getElem?_cons_zero, List.getElem?_cons_succ, dR.eq_20, Mem.cell, Mem.row, wmA, dBin_rem, r0', r2, hk2, hk3]
  have h23 := h2.keep (m' := m3) fun b hb => o3.2 b (b2 b hb)
  obtain ⟨v2c, v2o⟩ := h23.one
  have oo := o1.1
  rw [SK_bsl (cs := [.slice (some ⟨m1.next, 0, none⟩) 128 1, v2, .slice (some ⟨m1.next, 0, none⟩) k 1]) (by simp [wkA, retV, stabOk, dC, ev, fillD, pickCells, putAt, bnd, slD, List.getElem?_cons_zero, List.getElem?_cons_succ, dR.eq_20, v2c]) (by simp [oneC, v2o])]
  have o4 : Old m3 (m3.push (.own [.slice (some ⟨m1.next, 0, none⟩) 128 1, v2, .slice (some ⟨m1.next, 0, none⟩) k 1] 26)) := (Old.refl m3).push _
  have g4 : (m3.push (.own [.slice (some ⟨m1.next, 0, none⟩) 128 1, v2, .slice (some ⟨m1.next, 0, none⟩) k 1] 26)).get m3.next = .own [.slice (some ⟨m1.next, 0, none⟩) 128 1, v2, .slice (some ⟨m1.next, 0, none⟩) k 1] 26 := by simp
  have n4 : m3.next + 1 = (m3.push (.own [.slice (some ⟨m1.next, 0, none⟩) 128 1, v2, .slice (some ⟨m1.next, 0, none⟩) k 1] 26)).next := by simp
  have h24 := h23.keep fun b hb => o4.2 b (by have := b2 b hb; omega)
  rw [← o4.2 _ (by omega)] at gD3
  generalize m3.push (.own [.slice (some ⟨m1.next, 0, none⟩) 128 1, v2, .slice (some ⟨m1.next, 0, none⟩) k 1] 26) = m4 at *
  simp -implicitDefEqProofs (disch := first | assumption | (simp only [wnA]; done) | (simp only [wnA]; omega) | omega | fail) [wkA, retV, stabOk, dC, ev, fillD, pickCells, putAt, bnd, slD, List.getElem?_cons_zero, List.getElem?_cons_succ, dR.eq_20, Mem.cell, Mem.row, wmA]
  refine LoopW_of (fun k' ts m' => ∃ j, j + k' = 3 ∧ Old m4 m' ∧ ts 39 = .slice (some ⟨m3.next, 0, none⟩) 3 1 ∧ ts 40 = .int .i64 3 ∧ ts 41 = .int .i64 (j : Nat)) 3 ?_ ?_
  · exact ⟨0, by omega, Old.refl m4, by simp, by simp, by simp⟩
  · rintro k' ts m5 KK ⟨j, hj, o5, t39, t40, t41⟩ hKK
    simp -implicitDefEqProofs (disch := first | assumption | (simp only [wnA]; done) | (simp only [wnA]; omega) | omega | fail) [rc6_1, wkA, retV, stabOk, dC, ev, fillD, pickCells, putAt, bnd, slD, List.getElem?_cons_zero, List.getElem?_cons_succ, dR.eq_20, Mem.cell, Mem.row, wmA, t40, t41]
    by_cases hj3 : j < 3
    · have ij : (j : Int) < 3 := by omega
      have go : ∀ (x : Value) (xs : List UInt8), [Value.slice (some ⟨m1.next, 0, none⟩) 128 1, v2, .slice (some ⟨m1.next, 0, none⟩) k 1][j]? = some x → SlR m4 1 x (xs.map byteV) xs.length → (∀ b, blk x = some b → b < m4.next) → ∀ ts2 : Fr, ts2 39 = ts 39 → ts2 40 = ts 40 → ts2 41 = ts 41 → ∀ Q2 : AQ, (∀ ts' m', Q2 .ret ts' m' = Q2 .ret ts' m') → (∀ ts' m', Old m4 m' → ts' 39 = ts 39 → ts' 40 = ts 40 → ts' 41 = .int .i64 ((j + 1 : Nat) : Int) → Q2 .normal ts' m') → AbW Tryd.prog w0 rc6_0 Q2 ts2 m5 := by
        intro x xs hx hs hb ts2 e39 e40 e41 Q2 _ hn
        have g45 := g4
        rw [← o5.2 _ (by omega)] at g45
        exact w_ReadL (((o3.trans ⟨by omega, fun i hi => o4.2 i hi⟩).trans o5).part hp) ht hE hj3 m3.next (by have := o5.1; omega) (by rw [e39, t39]) (by rw [e40, t40]) (by rw [e41, t41]) g45 hx (hs.keep fun b hb' => o5.2 b (hb b hb')) (fun b hb' => by have := hb b hb'; have := o5.1; omega)
          fun ts' m' o' f39 f40 f41 => hn ts' m' (o5.trans o') (by rw [f39, e39]) (by rw [f40, e40]) f41
      simp -implicitDefEqProofs (disch := first | assumption | (simp only [wnA]; done) | (simp only [wnA]; omega) | omega | fail) [wkA, retV, stabOk, dC, ev, fillD, pickCells, putAt, bnd, slD, List.getElem?_cons_zero, List.getElem?_cons_succ, dR.eq_20, Mem.cell, Mem.row, wmA, hj3, ij]
      have fin : ∀ (ts' : Fr) (m' : Mem), Old m4 m' → ts' 39 = ts 39 → ts' 40 = ts 40 → ts' 41 = .int .i64 ((j + 1 : Nat) : Int) → KK ts' m' := fun ts' m' o' e39 e40 e41 =>
        hKK (k' - 1) ts' m' (by omega) ⟨j + 1, by omega, o', by rw [e39, t39], by rw [e40, t40], e41⟩
      have hd4 := own_read gD3 (by omega) hDl
      have hk4 := own_take (K := k) gD3 (by omega)
      have hj012 : j = 0 ∨ j = 1 ∨ j = 2 := by omega
      rcases hj012 with rfl | rfl | rfl
      · refine go _ E rfl hd4 (fun b hb => by simp only [blk, Option.some.injEq] at hb; omega) _ (by simp) (by simp) (by simp) _ (fun _ _ => rfl) fun ts' m' o' e1 e2 e3 => ?_
        simp -implicitDefEqProofs (disch := first | assumption | (simp only [wnA]; done) | (simp only [wnA]; omega) | omega | fail) [wkA, retV, stabOk, dC, ev, fillD, pickCells, putAt, bnd, slD, List.getElem?_cons_zero, List.getElem?_cons_succ, dR.eq_20]
        exact fin ts' m' o' e1 e2 e3
      · refine go _ raw rfl h24 (fun b hb => by have := b2 b hb; omega) _ (by simp) (by simp) (by simp) _ (fun _ _ => rfl) fun ts' m' o' e1 e2 e3 => ?_
        simp -implicitDefEqProofs (disch := first | assumption | (simp only [wnA]; done) | (simp only [wnA]; omega) | omega | fail) [wkA, retV, stabOk, dC, ev, fillD, pickCells, putAt, bnd, slD, List.getElem?_cons_zero, List.getElem?_cons_succ, dR.eq_20]
        exact fin ts' m' o' e1 e2 e3
      · refine go _ (E.take k) rfl hk4 (fun b hb => by simp only [blk, Option.some.injEq] at hb; omega) _ (by simp) (by simp) (by simp) _ (fun _ _ => rfl) fun ts' m' o' e1 e2 e3 => ?_
        simp -implicitDefEqProofs (disch := first | assumption | (simp only [wnA]; done) | (simp only [wnA]; omega) | omega | fail) [wkA, retV, stabOk, dC, ev, fillD, pickCells, putAt, bnd, slD, List.getElem?_cons_zero, List.getElem?_cons_succ, dR.eq_20]
        exact fin ts' m' o' e1 e2 e3
    · have ij : ¬ (j : Int) < 3 := by omega
      simp -implicitDefEqProofs (disch := first | assumption | (simp only [wnA]; done) | (simp only [wnA]; omega) | omega | fail) [wkA, retV, stabOk, dC, ev, fillD, pickCells, putAt, bnd, slD, List.getElem?_cons_zero, List.getElem?_cons_succ, dR.eq_20, Mem.cell, Mem.row, wmA, hj3, ij, rc6_2]
end Go.Proofs.YtkpjbpfemkkheaaDoor.Ab
