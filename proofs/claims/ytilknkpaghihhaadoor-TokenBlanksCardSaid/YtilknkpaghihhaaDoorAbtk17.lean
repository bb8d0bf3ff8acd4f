/- Two texts with a line feed between have the tokens of both: the law. -/
import Derived.Test.YtilknkpaghihhaaDoorAbz
import Derived.Test.YtilknkpaghihhaaDoorAbtk12
import Derived.Test.YtilknkpaghihhaaDoorAbtk15
set_option linter.unusedVariables false
set_option linter.unusedSimpArgs false
namespace Go.Proofs.YtilknkpaghihhaaDoor.Ab
open Go Go.RowKit
set_option maxHeartbeats 1000000
set_option maxRecDepth 100000

theorem SK_app2 {P : Program} {w0 : World} {ts : Fr} {m base : Mem} {R : Value → Mem → Prop} {e sz bytes n k : Nat} {ob : Option Nat} {cs ys : List Value} {x y : Operand} (hb : Old base m) (h : SlO m e sz ob cs n) (hob : ∀ b, ob = some b → base.next ≤ b)
    (hx : ev ts x = slV ob n sz) (hy : elemsV m sz (ev ts y) = some ys) (hk : lenV (ev ts y) = k) (h1 : ys.all oneC = true) (h2 : (n + k) * bytes ≤ 140737488355328) (h3 : n + k ≤ maxLen) (hl : ys.length = k * sz)
    (hR : ∀ ob' m', Old base m' → SlO m' e sz ob' (cs ++ ys) (n + k) → (∀ b, ob' = some b → base.next ≤ b) → R (slV ob' (n + k) sz) m') : SK P w0 (.e (.app e sz bytes x y)) ts m R := by
  by_cases hpos : 0 < k
  · refine SK_ap h hx hy hk hpos h1 h2 h3 hl (hR _ _ ((hb.kill hob).push _) (SlO.new ?_) ?_)
    · rw [List.length_append, h.1, hl, Nat.add_mul]
    · intro b hb'; cases hb'; exact hb.1
  · obtain rfl : k = 0 := by omega
    obtain rfl : ys = [] := by simpa using hl
    refine SK_app0 hx hy hk ?_
    have := hR ob m hb (by simpa using h) hob
    simpa using this


theorem cellP_one (p : Tk × Nat) : (cellP p).all oneC = true := rfl
theorem cellsP_one (l : List (Tk × Nat)) : (l.flatMap cellP).all oneC = true := by
  rw [List.all_eq_true]
  intro v hv
  obtain ⟨p, -, hp⟩ := List.mem_flatMap.1 hv
  exact List.all_eq_true.1 (cellP_one p) v hp
/-- The first tokens of some. -/
theorem pre_read {m : Mem} {i n : Nat} {us vs : List (Tk × Nat)} (h : SlO m 32 4 (some i) ((us ++ vs).flatMap cellP) n) (hn : us.length ≤ n) : SlR m 4 (.slice (some ⟨i, 0, none⟩) us.length 4) (us.flatMap cellP) us.length := by
  have hl := cellsP_len us
  refine ⟨hl, .inr ⟨i, 0, (us ++ vs).flatMap cellP, rfl, by rw [h.2.1]; rfl, ?_, ?_⟩⟩
  · rw [List.flatMap_append, List.length_append, hl]; omega
  · rw [List.flatMap_append, List.drop_zero, ← hl, List.take_left]

theorem l_Blanks {w0 : World} {m : Mem} {A B : ByteArray} (hp : Part L0 m) (ht : Ten w0) (hE : ErrV w0) (hT : ErrT w0) :
    AbC Tryd.prog w0 4 [.string A, .string B] m fun v _ => v = .bool true := by
  refine AbC_fn ok4 (by simp) ?_
  have la : A.data.toList.length = A.size := by simp
  have lb : B.data.toList.length = B.size := by simp
  simp -implicitDefEqProofs (disch := first | assumption | (simp only [wnA]; done) | (simp only [wnA]; omega) | omega | fail) [rc4, ro4, wkA, retV, stabOk, dC, ev, fillD, pickCells, putAt, bnd, slD, List.getElem?_cons_zero, List.getElem?_cons_succ, dR.eq_20, Mem.cell, Mem.row, wmA]
  refine c_awake hp ?_
  by_cases ha : 900 < A.size
  · have ia : (900 : Int) < (A.size : Int) := by omega
    simp -implicitDefEqProofs (disch := first | assumption | (simp only [wnA]; done) | (simp only [wnA]; omega) | omega | fail) [rc4_3, wkA, retV, stabOk, dC, ev, fillD, pickCells, putAt, bnd, slD, List.getElem?_cons_zero, List.getElem?_cons_succ, dR.eq_20, Mem.cell, Mem.row, wmA, gtT ia]
  · have ia : (A.size : Int) ≤ 900 := by omega
    by_cases hb : 900 < B.size
    · have ib : (900 : Int) < (B.size : Int) := by omega
      simp -implicitDefEqProofs (disch := first | assumption | (simp only [wnA]; done) | (simp only [wnA]; omega) | omega | fail) [rc4_3, wkA, retV, stabOk, dC, ev, fillD, pickCells, putAt, bnd, slD, List.getElem?_cons_zero, List.getElem?_cons_succ, dR.eq_20, Mem.cell, Mem.row, wmA, gtF ia, gtT ib]
    · have ib : (B.size : Int) ≤ 900 := by omega
      have q1 : dBin .add (.string A) (.string ⟨#[10]⟩) = some (.string ⟨⟨A.data.toList ++ [10]⟩⟩) := cat2 (a := A.data.toList) (b := [10]) (by simp; omega)
      have q2 : dBin .add (.string ⟨⟨A.data.toList ++ [10]⟩⟩) (.string B) = some (.string ⟨⟨A.data.toList ++ 10 :: B.data.toList⟩⟩) := by
        have := cat2 (a := A.data.toList ++ [10]) (b := B.data.toList) (by simp; omega)
        rw [List.append_assoc] at this
        exact this
      obtain ⟨k1, k2⟩ := cut_lf B.data.toList A.size 0 A.data.toList (by omega)
      have hzl : (A.data.toList ++ 10 :: B.data.toList).length ≤ 1801 := by rw [List.length_append, List.length_cons]; omega
      have ksh := cutL_shift (A.size + 1) B.size 0 B.data.toList (by omega)
      have hZ := fun (m1 : Mem) (Q1 : Value → Mem → Prop) (hp1 : Part L0 m1) => c_tCut (w0 := w0) (m := m1) (S := ⟨⟨A.data.toList ++ 10 :: B.data.toList⟩⟩) (Q := Q1) hp1 ht hE (fun h => by have : 4096 < (A.data.toList ++ 10 :: B.data.toList).length := h; omega)
      simp -implicitDefEqProofs (disch := first | assumption | (simp only [wnA]; done) | (simp only [wnA]; omega) | omega | fail) [rc4_3, wkA, retV, stabOk, dC, ev, fillD, pickCells, putAt, bnd, slD, List.getElem?_cons_zero, List.getElem?_cons_succ, dR.eq_20, Mem.cell, Mem.row, wmA, gtF ia, gtF ib, rc4_2]
      refine c_tCut hp ht hE (fun h => by omega) (fun _ m1 a o1 hc => ?_) fun _ m1 i1 us o1 h1 hi1 hul hc => ?_
      · simp -implicitDefEqProofs (disch := first | assumption | (simp only [wnA]; done) | (simp only [wnA]; omega) | omega | fail) [wkA, retV, stabOk, dC, ev, fillD, pickCells, putAt, bnd, slD, List.getElem?_cons_zero, List.getElem?_cons_succ, dR.eq_20, Mem.cell, Mem.row, wmA]
        have hcz := k1 a hc
        -- whatever the second text is
        have fin : ∀ (ts : Fr) (m2 : Mem) (Q : AQ), Part L0 m2 → ts 0 = .string A → ts 1 = .string B → ts 6 = faultV 1 a → (∀ ts' m', ts' 4 = .bool true → Q .ret ts' m') → True := fun _ _ _ _ _ _ _ _ => trivial
        refine c_tCut (o1.part hp) ht hE (fun h => by omega) (fun _ m2 b o2 hc2 => ?_) fun _ m2 i2 vs o2 h2 hi2 hvl hc2 => ?_
        · simp -implicitDefEqProofs (disch := first | assumption | (simp only [wnA]; done) | (simp only [wnA]; omega) | omega | fail) [wkA, retV, stabOk, dC, ev, fillD, pickCells, putAt, bnd, slD, List.getElem?_cons_zero, List.getElem?_cons_succ, dR.eq_20, Mem.cell, Mem.row, wmA, q1, q2]
          refine hZ m2 _ ((o1.trans o2).part hp) (fun _ m3 e o3 hc3 => ?_) fun _ m3 i3 zs _ _ _ _ hc3 => by
            have hc3 : cutL 0 (A.data.toList ++ 10 :: B.data.toList) = .inr zs := hc3
            rw [hcz] at hc3; cases hc3
          simp -implicitDefEqProofs (disch := first | assumption | (simp only [wnA]; done) | (simp only [wnA]; omega) | omega | fail) [wkA, retV, stabOk, dC, ev, fillD, pickCells, putAt, bnd, slD, List.getElem?_cons_zero, List.getElem?_cons_succ, dR.eq_20, Mem.cell, Mem.row, wmA, faultV]
        · simp -implicitDefEqProofs (disch := first | assumption | (simp only [wnA]; done) | (simp only [wnA]; omega) | omega | fail) [wkA, retV, stabOk, dC, ev, fillD, pickCells, putAt, bnd, slD, List.getElem?_cons_zero, List.getElem?_cons_succ, dR.eq_20, Mem.cell, Mem.row, wmA, q1, q2]
          refine hZ m2 _ ((o1.trans o2).part hp) (fun _ m3 e o3 hc3 => ?_) fun _ m3 i3 zs _ _ _ _ hc3 => by
            have hc3 : cutL 0 (A.data.toList ++ 10 :: B.data.toList) = .inr zs := hc3
            rw [hcz] at hc3; cases hc3
          simp -implicitDefEqProofs (disch := first | assumption | (simp only [wnA]; done) | (simp only [wnA]; omega) | omega | fail) [wkA, retV, stabOk, dC, ev, fillD, pickCells, putAt, bnd, slD, List.getElem?_cons_zero, List.getElem?_cons_succ, dR.eq_20, Mem.cell, Mem.row, wmA, faultV]
      · obtain ⟨ini, hini, hcz⟩ := k2 us hc
        rw [Nat.zero_add] at ksh
        rw [Nat.zero_add, la, ksh] at hcz
        simp -implicitDefEqProofs (disch := first | assumption | (simp only [wnA]; done) | (simp only [wnA]; omega) | omega | fail) [wkA, retV, stabOk, dC, ev, fillD, pickCells, putAt, bnd, slD, List.getElem?_cons_zero, List.getElem?_cons_succ, dR.eq_20, Mem.cell, Mem.row, wmA]
        refine c_tCut (o1.part hp) ht hE (fun h => by omega) (fun _ m2 b o2 hc2 => ?_) fun _ m2 i2 vs o2 h2 hi2 hvl hc2 => ?_
        · rw [hc2] at hcz
          simp -implicitDefEqProofs (disch := first | assumption | (simp only [wnA]; done) | (simp only [wnA]; omega) | omega | fail) [wkA, retV, stabOk, dC, ev, fillD, pickCells, putAt, bnd, slD, List.getElem?_cons_zero, List.getElem?_cons_succ, dR.eq_20, Mem.cell, Mem.row, wmA, q1, q2]
          refine hZ m2 _ ((o1.trans o2).part hp) (fun _ m3 e o3 hc3 => ?_) fun _ m3 i3 zs _ _ _ _ hc3 => by
            have hc3 : cutL 0 (A.data.toList ++ 10 :: B.data.toList) = .inr zs := hc3
            rw [hcz] at hc3; cases hc3
          have hc3 : cutL 0 (A.data.toList ++ 10 :: B.data.toList) = .inl e := hc3
          rw [hcz] at hc3
          simp only [shC, preC, Sum.inl.injEq] at hc3
          subst hc3
          have hf : faultV 1 b = .iface 57 (.agg ⟨[.int .i64 ((1 : Nat) : Int), .int .i64 (b : Int)]⟩) := rfl
          have hb2 : b ≤ B.size := by
            have := (cut_places B.data.toList B.size 0 (by omega) (by omega)).1 b (by rw [List.drop_zero]; exact hc2)
            omega
          have wb1 : IntKind.i64.wrap ((b : Int) + (A.size : Int)) = (b : Int) + (A.size : Int) := w64 (by omega)
          have wb2 : IntKind.i64.wrap ((b : Int) + (A.size : Int) + 1) = (b : Int) + (A.size : Int) + 1 := w64 (by omega)
          simp -implicitDefEqProofs (disch := first | assumption | (simp only [wnA]; done) | (simp only [wnA]; omega) | omega | fail) [wkA, retV, stabOk, dC, ev, fillD, pickCells, putAt, bnd, slD, List.getElem?_cons_zero, List.getElem?_cons_succ, dR.eq_20, Mem.cell, Mem.row, wmA, rc4_1, hf]
          refine c_Place (n := 1) (a := b + (A.size + 1)) hT fun m4 o4 => ?_
          simp -implicitDefEqProofs (disch := first | assumption | (simp only [wnA]; done) | (simp only [wnA]; omega) | omega | fail) [wkA, retV, stabOk, dC, ev, fillD, pickCells, putAt, bnd, slD, List.getElem?_cons_zero, List.getElem?_cons_succ, dR.eq_20, Mem.cell, Mem.row, wmA, hf]
          refine c_Place (n := 1) (a := b) hT fun m5 o5 => ?_
          have e1 : (b : Int) + ((A.size : Int) + 1) = (b : Int) + (A.size : Int) + 1 := by omega
          rw [e1]
          simp -implicitDefEqProofs (disch := first | assumption | (simp only [wnA]; done) | (simp only [wnA]; omega) | omega | fail) [wkA, retV, stabOk, dC, ev, fillD, pickCells, putAt, bnd, slD, List.getElem?_cons_zero, List.getElem?_cons_succ, dR.eq_20, Mem.cell, Mem.row, wmA, wb1, wb2]
        · rw [hc2] at hcz
          simp -implicitDefEqProofs (disch := first | assumption | (simp only [wnA]; done) | (simp only [wnA]; omega) | omega | fail) [wkA, retV, stabOk, dC, ev, fillD, pickCells, putAt, bnd, slD, List.getElem?_cons_zero, List.getElem?_cons_succ, dR.eq_20, Mem.cell, Mem.row, wmA, q1, q2]
          refine hZ m2 _ ((o1.trans o2).part hp) (fun _ m3 e o3 hc3 => by
            have hc3 : cutL 0 (A.data.toList ++ 10 :: B.data.toList) = .inl e := hc3
            rw [hcz] at hc3; cases hc3) fun _ m3 i3 zs o3 h3 hi3 hzn hc3 => ?_
          have hc3 : cutL 0 (A.data.toList ++ 10 :: B.data.toList) = .inr zs := hc3
          rw [hcz] at hc3
          simp only [shC, preC, Sum.inr.injEq] at hc3
          have h13 : SlO m3 32 4 (some i1) (us.flatMap cellP) us.length := h1.keep (by have := o2.1; have := o3.1; omega) fun b hb => by
            cases hb
            rw [o3.2 _ (by have := h1.lt; have := o2.1; omega), o2.2 _ h1.lt]
          have h23 : SlO m3 32 4 (some i2) (vs.flatMap cellP) vs.length := h2.keep o3.1 fun b hb => by
            cases hb
            rw [o3.2 _ h2.lt]
          have hul1 : us.length = ini.length + 1 := by rw [hini]; simp
          have w3 : IntKind.i64.wrap ((us.length : Int) - 1) = ((ini.length : Nat) : Int) := by rw [w64 (by omega)]; omega
          have c1 : ini.length ≤ us.length := by omega
          have c2 : (ini.length : Int) ≤ (us.length : Int) := by omega
          rw [hini] at h13
          have rp := pre_read h13 (by simp)
          have hsl : slen (slV (some i1) us.length 4) = some (.int .i64 (us.length : Nat)) := rfl
          simp -implicitDefEqProofs (disch := first | assumption | (simp only [wnA]; done) | (simp only [wnA]; omega) | omega | fail) [wkA, retV, stabOk, dC, ev, fillD, pickCells, putAt, bnd, slD, List.getElem?_cons_zero, List.getElem?_cons_succ, dR.eq_20, Mem.cell, Mem.row, wmA, rc4_1, rc4_0, hsl, w3, slV, c1, c2]
          refine SK_app2 (base := m3) (ob := none) (cs := []) (n := 0) (k := ini.length) (ys := ini.flatMap cellP) (Old.refl m3) ⟨rfl, rfl⟩ (fun b hb => by cases hb) (by simp [wkA, retV, stabOk, dC, ev, fillD, pickCells, putAt, bnd, slD, List.getElem?_cons_zero, List.getElem?_cons_succ, dR.eq_20, slV]) (by simp [wkA, retV, stabOk, dC, ev, fillD, pickCells, putAt, bnd, slD, List.getElem?_cons_zero, List.getElem?_cons_succ, dR.eq_20]; exact rp.elems) (by simp [wkA, retV, stabOk, dC, ev, fillD, pickCells, putAt, bnd, slD, List.getElem?_cons_zero, List.getElem?_cons_succ, dR.eq_20]) (cellsP_one _) (by omega) (by simp only [maxLen]; omega) (cellsP_len _) fun ob4 m4 o4 s4 b4 => ?_
          simp -implicitDefEqProofs (disch := first | assumption | (simp only [wnA]; done) | (simp only [wnA]; omega) | omega | fail) [wkA, retV, stabOk, dC, ev, fillD, pickCells, putAt, bnd, slD, List.getElem?_cons_zero, List.getElem?_cons_succ, dR.eq_20, Mem.cell, Mem.row, wmA]
          have h24 : SlR m4 4 (slV (some i2) vs.length 4) (vs.flatMap cellP) vs.length := h23.read.keep fun b hb => by
            rw [blk_slV] at hb
            exact o4.2 b (by cases hb; exact h23.lt)
          refine SK_app2 (base := m3) (n := 0 + ini.length) (k := vs.length) (ys := vs.flatMap cellP) o4 s4 b4 (by simp [wkA, retV, stabOk, dC, ev, fillD, pickCells, putAt, bnd, slD, List.getElem?_cons_zero, List.getElem?_cons_succ, dR.eq_20]) (by simp [wkA, retV, stabOk, dC, ev, fillD, pickCells, putAt, bnd, slD, List.getElem?_cons_zero, List.getElem?_cons_succ, dR.eq_20]; exact h24.elems) (by simp [wkA, retV, stabOk, dC, ev, fillD, pickCells, putAt, bnd, slD, List.getElem?_cons_zero, List.getElem?_cons_succ, dR.eq_20]) (cellsP_one _) (by omega) (by simp only [maxLen]; omega) (cellsP_len _) fun ob5 m5 o5 s5 b5 => ?_
          have r5 : SlR m5 4 (slV ob5 (0 + ini.length + vs.length) 4) ((ini ++ vs).flatMap cellP) (ini ++ vs).length := by
            have := s5.read
            rw [List.flatMap_append, List.length_append]
            simpa using this
          have r3 : SlR m5 4 (slV (some i3) zs.length 4) (zs.flatMap cellP) zs.length := h3.read.keep fun b hb => by
            rw [blk_slV] at hb
            exact o5.2 b (by cases hb; exact h3.lt)
          simp -implicitDefEqProofs (disch := first | assumption | (simp only [wnA]; done) | (simp only [wnA]; omega) | omega | fail) [wkA, retV, stabOk, dC, ev, fillD, pickCells, putAt, bnd, slD, List.getElem?_cons_zero, List.getElem?_cons_succ, dR.eq_20, Mem.cell, Mem.row, wmA]
          refine c_Same (xs := zs) (ys := ini ++ vs) r3 ?_ (by rw [← hc3]; simp) (by omega) ?_
          · simpa using r5
          simp -implicitDefEqProofs (disch := first | assumption | (simp only [wnA]; done) | (simp only [wnA]; omega) | omega | fail) [wkA, retV, stabOk, dC, ev, fillD, pickCells, putAt, bnd, slD, List.getElem?_cons_zero, List.getElem?_cons_succ, dR.eq_20, Mem.cell, Mem.row, wmA]
end Go.Proofs.YtilknkpaghihhaaDoor.Ab
