/- Numbers are one token; tokens stand one behind the other; two texts with a line feed between: the laws. -/
import Derived.Test.YtilknkpaghihhaaDoorAbz
import Derived.Test.YtilknkpaghihhaaDoorAbtk12
import Derived.Test.YtilknkpaghihhaaDoorAbtk14
import Derived.Test.YtilknkpaghihhaaDoorAbtk15
set_option linter.unusedVariables false
set_option linter.unusedSimpArgs false
namespace Go.Proofs.YtilknkpaghihhaaDoor.Ab
open Go Go.RowKit
set_option maxHeartbeats 1000000
set_option maxRecDepth 100000

theorem wf_u32 {n : Int} (h : (Lit.int .u32 n).wf = true) : 0 ≤ n ∧ n ≤ 4294967295 := by
  have : 0 ≤ n ∧ n ≤ 4294967295 := by simpa [Lit.wf, IntKind.min, IntKind.max, IntKind.signed, IntKind.bits] using h
  exact this
theorem wf_u8 {n : Int} (h : (Lit.int .u8 n).wf = true) : 0 ≤ n ∧ n ≤ 255 := by
  have : 0 ≤ n ∧ n ≤ 255 := by simpa [Lit.wf, IntKind.min, IntKind.max, IntKind.signed, IntKind.bits] using h
  exact this

theorem l_Number {w0 : World} {m : Mem} {n : Int} {hex : Bool} {z : Int} (hp : Part L0 m) (ht : Ten w0) (hE : ErrV w0) (hT : ErrT w0) (hn : 0 ≤ n ∧ n ≤ 4294967295) (hz : 0 ≤ z ∧ z ≤ 255) :
    AbC Tryd.prog w0 7 [.int .u32 n, .bool hex, .int .u8 z] m fun v _ => v = .bool true := by
  refine AbC_fn ok7 (by simp) ?_
  obtain ⟨n, rfl⟩ := Int.eq_ofNat_of_zero_le hn.1
  obtain ⟨z, rfl⟩ := Int.eq_ofNat_of_zero_le hz.1
  have wn : IntKind.u64.wrap (n : Int) = (n : Int) := IntWalk.u64_in _ (by omega)
  have wni : IntKind.i64.wrap (n : Int) = (n : Int) := w64 (by omega)
  have wz : IntKind.u64.wrap (z : Int) = (z : Int) := IntWalk.u64_in _ (by omega)
  have wz2 : IntKind.u64.wrap (4294967296 + (z : Int)) = ((4294967296 + z : Nat) : Int) := by rw [IntWalk.u64_in _ (by omega)]; omega
  obtain ⟨Z, hZ⟩ : ∃ Z, 4294967296 + z = Z := ⟨_, rfl⟩
  rw [hZ] at wz2
  have k10 := cut_dec (n := n) (by omega)
  have k16 := cut_hex (n := n) (by omega)
  have kz := cut_zero n
  have kb := cut_big (n := Z) (by omega)
  have l10 := digs_64 (b := 10) (n := n) (by omega) (by omega)
  have l16 := digs_64 (b := 16) (n := n) (by omega) (by omega)
  have lb := digs_64 (b := 16) (n := Z) (by omega) (by omega)
  have d10 := fun (m1 : Mem) (Q1 : Value → Mem → Prop) => @c_ldig w0 10 (.inr rfl) n m1 Q1 (by omega)
  have d16 := fun (m1 : Mem) (Q1 : Value → Mem → Prop) => @c_ldig w0 16 (.inl rfl) n m1 Q1 (by omega)
  have db := fun (m1 : Mem) (Q1 : Value → Mem → Prop) => @c_ldig w0 16 (.inl rfl) Z m1 Q1 (by omega)
  generalize digs 10 n = D10 at *
  generalize digs 16 n = D16 at *
  generalize digs 16 Z = Db at *
  have q16 : dBin .add (.string ⟨#[48, 120]⟩) (.string ⟨⟨D16⟩⟩) = some (.string ⟨⟨48 :: 120 :: D16⟩⟩) := cat2 (a := [48, 120]) (by simp; omega)
  have qb : dBin .add (.string ⟨#[48, 120]⟩) (.string ⟨⟨Db⟩⟩) = some (.string ⟨⟨48 :: 120 :: Db⟩⟩) := cat2 (a := [48, 120]) (by simp; omega)
  have qz : dBin .add (.string ⟨#[48]⟩) (.string ⟨⟨D10⟩⟩) = some (.string ⟨⟨48 :: D10⟩⟩) := cat2 (a := [48]) (by simp; omega)
  have last : ∀ (ts : Fr) (m1 : Mem) (big : List UInt8) (Q : AQ), Part L0 m1 → ts 10 = .string ⟨⟨big⟩⟩ → big.length ≤ 4096 → cutL 0 big = .inl 0 → (∀ ts' m', ts' 6 = .bool true → Q .ret ts' m') → AbW Tryd.prog w0 rc7_0 Q ts m1 := fun ts m1 big Q hp1 t10 hb hc hq => by
    simp -implicitDefEqProofs (disch := first | assumption | (simp only [wnA]; done) | (simp only [wnA]; omega) | omega | fail) [rc7_0, wkA, retV, stabOk, dC, ev, fillD, pickCells, putAt, bnd, slD, List.getElem?_cons_zero, List.getElem?_cons_succ, dR.eq_20, Mem.cell, Mem.row, wmA, t10]
    refine c_tCut (S := ⟨⟨big⟩⟩) hp1 ht hE (fun h => by have : 4096 < big.length := h; omega) (fun _ m2 a o2 hc2 => ?_) fun _ m2 i us _ _ _ _ hc2 => by
      have hc2 : cutL 0 big = .inr us := hc2
      rw [hc] at hc2; cases hc2
    have hc2 : cutL 0 big = .inl a := hc2
    rw [hc] at hc2
    cases hc2
    simp -implicitDefEqProofs (disch := first | assumption | (simp only [wnA]; done) | (simp only [wnA]; omega) | omega | fail) [wkA, retV, stabOk, dC, ev, fillD, pickCells, putAt, bnd, slD, List.getElem?_cons_zero, List.getElem?_cons_succ, dR.eq_20, Mem.cell, Mem.row, wmA]
    refine c_Number (n := 1) (a := 0) hT fun m3 o3 => ?_
    simp -implicitDefEqProofs (disch := first | assumption | (simp only [wnA]; done) | (simp only [wnA]; omega) | omega | fail) [wkA, retV, stabOk, dC, ev, fillD, pickCells, putAt, bnd, slD, List.getElem?_cons_zero, List.getElem?_cons_succ, dR.eq_20, Mem.cell, Mem.row, wmA]
    refine c_Place (n := 1) (a := 0) hT fun m4 o4 => ?_
    simp -implicitDefEqProofs (disch := first | assumption | (simp only [wnA]; done) | (simp only [wnA]; omega) | omega | fail) [wkA, retV, stabOk, dC, ev, fillD, pickCells, putAt, bnd, slD, List.getElem?_cons_zero, List.getElem?_cons_succ, dR.eq_20, Mem.cell, Mem.row, wmA]
    exact hq _ _ (by simp)
  have mid : ∀ (ts : Fr) (m1 : Mem) (S : List UInt8) (Q : AQ), Part L0 m1 → ts 0 = .int .u32 (n : Int) → ts 7 = .string ⟨⟨S⟩⟩ → S.length ≤ 4096 → cutL 0 S = .inr [(⟨2, S, (n : Nat)⟩, 0), (endT, S.length)] → (∀ ts' m', ts' 0 = ts 0 → ts' 1 = ts 1 → ts' 2 = ts 2 → ts' 7 = ts 7 → Part L0 m' → AbW Tryd.prog w0 rc7_1 Q ts' m') → AbW Tryd.prog w0 rc7_2 Q ts m1 := fun ts m1 S Q hp1 t0 t7 hb hc hq => by
    simp -implicitDefEqProofs (disch := first | assumption | (simp only [wnA]; done) | (simp only [wnA]; omega) | omega | fail) [rc7_2, wkA, retV, stabOk, dC, ev, fillD, pickCells, putAt, bnd, slD, List.getElem?_cons_zero, List.getElem?_cons_succ, dR.eq_20, Mem.cell, Mem.row, wmA, t7]
    refine c_tCut (S := ⟨⟨S⟩⟩) hp1 ht hE (fun h => by have : 4096 < S.length := h; omega) (fun _ m2 a o2 hc2 => by
      have hc2 : cutL 0 S = .inl a := hc2
      rw [hc] at hc2; cases hc2) fun _ m2 i us o2 h2 _ _ hc2 => ?_
    have hc2 : cutL 0 S = .inr us := hc2
    rw [hc] at hc2
    cases hc2
    obtain ⟨j1, q1, L1, A⟩ := tok_at h2.read (j := 0) (by simp)
    have hidx : sidx 4 (slV (some i) 2 4) (.int .i64 0) = some (.pointer (some ⟨j1, q1, none⟩)) := A.idx
    have hb1 := A.len
    have g0 : L1[q1]? = some (.int .i64 2) := A.g0
    have g1 : L1[q1 + 1]? = some (.string ⟨⟨S⟩⟩) := A.g1
    have g2 : L1[q1 + 2]? = some (.int .i64 (n : Int)) := A.g2
    have hsl : slen (slV (some i) 2 4) = some (.int .i64 2) := rfl
    simp -implicitDefEqProofs (disch := first | assumption | (simp only [wnA]; done) | (simp only [wnA]; omega) | omega | fail) [wkA, retV, stabOk, dC, ev, fillD, pickCells, putAt, bnd, slD, List.getElem?_cons_zero, List.getElem?_cons_succ, dR.eq_20, Mem.cell, Mem.row, wmA, hsl, hidx, A.get, g0, g1, g2, getL g0, getL g1, getL g2, t0, t7, wni]
    exact hq _ _ (by simp [t0]) (by simp) (by simp) (by simp [t7]) (o2.part hp1)
  simp -implicitDefEqProofs (disch := first | assumption | (simp only [wnA]; done) | (simp only [wnA]; omega) | omega | fail) [rc7, ro7, wkA, retV, stabOk, dC, ev, fillD, pickCells, putAt, bnd, slD, List.getElem?_cons_zero, List.getElem?_cons_succ, dR.eq_20, Mem.cell, Mem.row, wmA]
  refine c_awake hp ?_
  simp -implicitDefEqProofs (disch := first | assumption | (simp only [wnA]; done) | (simp only [wnA]; omega) | omega | fail) [rc7_3, wkA, retV, stabOk, dC, ev, fillD, pickCells, putAt, bnd, slD, List.getElem?_cons_zero, List.getElem?_cons_succ, dR.eq_20, Mem.cell, Mem.row, wmA, wn]
  refine d10 _ _ ?_
  cases hex with
  | false =>
    simp -implicitDefEqProofs (disch := first | assumption | (simp only [wnA]; done) | (simp only [wnA]; omega) | omega | fail) [wkA, retV, stabOk, dC, ev, fillD, pickCells, putAt, bnd, slD, List.getElem?_cons_zero, List.getElem?_cons_succ, dR.eq_20, Mem.cell, Mem.row, wmA]
    refine mid _ _ D10 _ hp (by simp [frA_at]) (by simp) (by omega) k10 fun ts' m' e0 e1 e2 e7 hp' => ?_
    simp [frA_at] at e0 e1 e2 e7
    simp -implicitDefEqProofs (disch := first | assumption | (simp only [wnA]; done) | (simp only [wnA]; omega) | omega | fail) [rc7_1, wkA, retV, stabOk, dC, ev, fillD, pickCells, putAt, bnd, slD, List.getElem?_cons_zero, List.getElem?_cons_succ, dR.eq_20, Mem.cell, Mem.row, wmA, e2, wz, wz2]
    refine db _ _ ?_
    simp -implicitDefEqProofs (disch := first | assumption | (simp only [wnA]; done) | (simp only [wnA]; omega) | omega | fail) [wkA, retV, stabOk, dC, ev, fillD, pickCells, putAt, bnd, slD, List.getElem?_cons_zero, List.getElem?_cons_succ, dR.eq_20, Mem.cell, Mem.row, wmA, qb, e1, e7, qz]
    refine last _ _ (48 :: D10) _ hp' (by simp) (by simp; omega) kz fun ts2 m2 h6 => ?_
    simp -implicitDefEqProofs (disch := first | assumption | (simp only [wnA]; done) | (simp only [wnA]; omega) | omega | fail) [wkA, retV, stabOk, dC, ev, fillD, pickCells, putAt, bnd, slD, List.getElem?_cons_zero, List.getElem?_cons_succ, dR.eq_20, Mem.cell, Mem.row, wmA, h6]
  | true =>
    simp -implicitDefEqProofs (disch := first | assumption | (simp only [wnA]; done) | (simp only [wnA]; omega) | omega | fail) [wkA, retV, stabOk, dC, ev, fillD, pickCells, putAt, bnd, slD, List.getElem?_cons_zero, List.getElem?_cons_succ, dR.eq_20, Mem.cell, Mem.row, wmA, wn]
    refine d16 _ _ ?_
    simp -implicitDefEqProofs (disch := first | assumption | (simp only [wnA]; done) | (simp only [wnA]; omega) | omega | fail) [wkA, retV, stabOk, dC, ev, fillD, pickCells, putAt, bnd, slD, List.getElem?_cons_zero, List.getElem?_cons_succ, dR.eq_20, Mem.cell, Mem.row, wmA, q16]
    refine mid _ _ (48 :: 120 :: D16) _ hp (by simp [frA_at]) (by simp) (by simp; omega) k16 fun ts' m' e0 e1 e2 e7 hp' => ?_
    simp [frA_at] at e0 e1 e2 e7
    simp -implicitDefEqProofs (disch := first | assumption | (simp only [wnA]; done) | (simp only [wnA]; omega) | omega | fail) [rc7_1, wkA, retV, stabOk, dC, ev, fillD, pickCells, putAt, bnd, slD, List.getElem?_cons_zero, List.getElem?_cons_succ, dR.eq_20, Mem.cell, Mem.row, wmA, e2, wz, wz2]
    refine db _ _ ?_
    simp -implicitDefEqProofs (disch := first | assumption | (simp only [wnA]; done) | (simp only [wnA]; omega) | omega | fail) [wkA, retV, stabOk, dC, ev, fillD, pickCells, putAt, bnd, slD, List.getElem?_cons_zero, List.getElem?_cons_succ, dR.eq_20, Mem.cell, Mem.row, wmA, qb, e1]
    refine last _ _ (48 :: 120 :: Db) _ hp' (by simp) (by simp; omega) kb fun ts2 m2 h6 => ?_
    simp -implicitDefEqProofs (disch := first | assumption | (simp only [wnA]; done) | (simp only [wnA]; omega) | omega | fail) [wkA, retV, stabOk, dC, ev, fillD, pickCells, putAt, bnd, slD, List.getElem?_cons_zero, List.getElem?_cons_succ, dR.eq_20, Mem.cell, Mem.row, wmA, h6]

theorem l_Places {w0 : World} {m : Mem} {S : ByteArray} (hp : Part L0 m) (ht : Ten w0) (hE : ErrV w0) (hT : ErrT w0) :
    AbC Tryd.prog w0 5 [.string S] m fun v _ => v = .bool true := by
  refine AbC_fn ok5 (by simp) ?_
  have hl : S.data.toList.length = S.size := by simp
  obtain ⟨pe, pq⟩ := cut_places S.data.toList S.size 0 (by omega) (by omega)
  rw [List.drop_zero] at pe pq
  rw [hl] at pe pq
  simp -implicitDefEqProofs (disch := first | assumption | (simp only [wnA]; done) | (simp only [wnA]; omega) | omega | fail) [rc5, ro5, wkA, retV, stabOk, dC, ev, fillD, pickCells, putAt, bnd, slD, List.getElem?_cons_zero, List.getElem?_cons_succ, dR.eq_20, Mem.cell, Mem.row, wmA]
  refine c_awake hp ?_
  simp -implicitDefEqProofs (disch := first | assumption | (simp only [wnA]; done) | (simp only [wnA]; omega) | omega | fail) [rc5_5, wkA, retV, stabOk, dC, ev, fillD, pickCells, putAt, bnd, slD, List.getElem?_cons_zero, List.getElem?_cons_succ, dR.eq_20, Mem.cell, Mem.row, wmA]
  have bad : ∀ (no a : Nat), a ≤ S.size → (a : Int) ≤ (S.size : Int) ∧ (0 : Int) ≤ (a : Int) := fun no a h => by omega
  refine c_tCut hp ht hE (fun _ m1 o1 => ?_) (fun _ m1 a o1 hc => ?_) fun hs m1 i us o1 h1 hi hul hc => ?_
  · obtain ⟨x1, x2⟩ := bad 7 0 (by omega)
    have hf : faultV 7 0 = .iface 57 (.agg ⟨[.int .i64 ((7 : Nat) : Int), .int .i64 ((0 : Nat) : Int)]⟩) := rfl
    have hsl : slen (.slice none 0 0) = some (.int .i64 0) := rfl
    simp -implicitDefEqProofs (disch := first | assumption | (simp only [wnA]; done) | (simp only [wnA]; omega) | omega | fail) [wkA, retV, stabOk, dC, ev, fillD, pickCells, putAt, bnd, slD, List.getElem?_cons_zero, List.getElem?_cons_succ, dR.eq_20, Mem.cell, Mem.row, wmA, hf, hsl]
    refine c_Place (n := 7) (a := 0) hT fun m2 o2 => ?_
    simp -implicitDefEqProofs (disch := first | assumption | (simp only [wnA]; done) | (simp only [wnA]; omega) | omega | fail) [wkA, retV, stabOk, dC, ev, fillD, pickCells, putAt, bnd, slD, List.getElem?_cons_zero, List.getElem?_cons_succ, dR.eq_20, Mem.cell, Mem.row, wmA]
    refine c_Place (n := 7) (a := 0) hT fun m3 o3 => ?_
    simp -implicitDefEqProofs (disch := first | assumption | (simp only [wnA]; done) | (simp only [wnA]; omega) | omega | fail) [wkA, retV, stabOk, dC, ev, fillD, pickCells, putAt, bnd, slD, List.getElem?_cons_zero, List.getElem?_cons_succ, dR.eq_20, Mem.cell, Mem.row, wmA]
  · have ha := pe a hc
    obtain ⟨x1, x2⟩ := bad 1 a ha
    have hf : faultV 1 a = .iface 57 (.agg ⟨[.int .i64 ((1 : Nat) : Int), .int .i64 (a : Int)]⟩) := rfl
    have hsl : slen (.slice none 0 0) = some (.int .i64 0) := rfl
    simp -implicitDefEqProofs (disch := first | assumption | (simp only [wnA]; done) | (simp only [wnA]; omega) | omega | fail) [wkA, retV, stabOk, dC, ev, fillD, pickCells, putAt, bnd, slD, List.getElem?_cons_zero, List.getElem?_cons_succ, dR.eq_20, Mem.cell, Mem.row, wmA, hf, hsl]
    refine c_Place (n := 1) (a := a) hT fun m2 o2 => ?_
    simp -implicitDefEqProofs (disch := first | assumption | (simp only [wnA]; done) | (simp only [wnA]; omega) | omega | fail) [wkA, retV, stabOk, dC, ev, fillD, pickCells, putAt, bnd, slD, List.getElem?_cons_zero, List.getElem?_cons_succ, dR.eq_20, Mem.cell, Mem.row, wmA, x2]
    refine c_Place (n := 1) (a := a) hT fun m3 o3 => ?_
    simp -implicitDefEqProofs (disch := first | assumption | (simp only [wnA]; done) | (simp only [wnA]; omega) | omega | fail) [wkA, retV, stabOk, dC, ev, fillD, pickCells, putAt, bnd, slD, List.getElem?_cons_zero, List.getElem?_cons_succ, dR.eq_20, Mem.cell, Mem.row, wmA, x1, ha]
  · obtain ⟨hpl, ini, hini⟩ := pq us hc
    have hpl := hpl (-1) (by omega)
    have r1 := h1.read
    have hlast : us.length = ini.length + 1 := by rw [hini]; simp
    simp -implicitDefEqProofs (disch := first | assumption | (simp only [wnA]; done) | (simp only [wnA]; omega) | omega | fail) [wkA, retV, stabOk, dC, ev, fillD, pickCells, putAt, bnd, slD, List.getElem?_cons_zero, List.getElem?_cons_succ, dR.eq_20, Mem.cell, Mem.row, wmA, rc5_4, r1.slen]
    refine LoopW_of (fun k ts m' => ∃ (j : Nat) (pr : Int), j + k = us.length ∧ Old m1 m' ∧ ts 0 = .string S ∧ ts 3 = slV (some i) us.length 4 ∧ ts 5 = .int .i64 pr ∧ ts 32 = slV (some i) us.length 4 ∧ ts 33 = .int .i64 (us.length : Nat) ∧ ts 34 = .int .i64 (j : Nat) ∧ PlL S.data.toList pr (us.drop j)) us.length ?_ ?_
    · exact ⟨0, -1, by omega, Old.refl m1, by simp [frA_at], by simp, by simp, by simp, by simp, by simp, by simpa using hpl⟩
    · rintro k ts m2 K ⟨j, pr, hj, o2, t0, t3, t5, t32, t33, t34, hP⟩ hK
      have r2 : SlR m2 4 (slV (some i) us.length 4) (us.flatMap cellP) us.length := r1.keep fun b hb => by
        rw [blk_slV] at hb
        exact o2.2 b (by cases hb; exact h1.lt)
      simp -implicitDefEqProofs (disch := first | assumption | (simp only [wnA]; done) | (simp only [wnA]; omega) | omega | fail) [rc5_2, wkA, retV, stabOk, dC, ev, fillD, pickCells, putAt, bnd, slD, List.getElem?_cons_zero, List.getElem?_cons_succ, dR.eq_20, Mem.cell, Mem.row, wmA, t33, t34]
      by_cases hjl : j < us.length
      · have ijl : (j : Int) < (us.length : Int) := by omega
        obtain ⟨j1, q1, L1, A⟩ := tok_at r2 hjl
        have hdr : us.drop j = us[j] :: us.drop (j + 1) := List.drop_eq_getElem_cons hjl
        rw [hdr] at hP
        obtain ⟨p1, p2, p3, p4, p5⟩ := hP
        have hb1 := A.len
        have hg := A.g
        clear hdr
        generalize us[j] = u at *
        obtain ⟨⟨kd, tx, vl⟩, pa⟩ := u
        simp only at p1 p2 p3 p4 p5
        rw [hl] at p3 p4
        have hg : (L1.drop q1).take 4 = [.int .i64 kd, .string ⟨⟨tx⟩⟩, .int .i64 vl, .int .i64 (pa : Int)] := hg
        simp -implicitDefEqProofs (disch := first | assumption | (simp only [wnA]; done) | (simp only [wnA]; omega) | omega | fail) [wkA, retV, stabOk, dC, ev, fillD, pickCells, putAt, bnd, slD, List.getElem?_cons_zero, List.getElem?_cons_succ, dR.eq_20, Mem.cell, Mem.row, wmA, hjl, ijl, rc5_1, t32, t34, A.idx, A.get, hg, hb1]
        refine SK_st (i := m2.next) (o := 0) (by simp [wkA, retV, stabOk, dC, ev, fillD, pickCells, putAt, bnd, slD, List.getElem?_cons_zero, List.getElem?_cons_succ, dR.eq_20]) (e := 32) (by simp -implicitDefEqProofs (disch := first | assumption | (simp only [wnA]; done) | (simp only [wnA]; omega) | omega | fail) [Mem.cell, Mem.row, wmA]; rfl) (by simp) (by simp [wkA, retV, stabOk, dC, ev, fillD, pickCells, putAt, bnd, slD, List.getElem?_cons_zero, List.getElem?_cons_succ, dR.eq_20]) (by simp [wkA, retV, stabOk, dC, ev, fillD, pickCells, putAt, bnd, slD, List.getElem?_cons_zero, List.getElem?_cons_succ, dR.eq_20, oneC]) ?_
        have oM : Old m2 ((m2.push (.own [.int .i64 0, .string ⟨#[]⟩, .int .i64 0, .int .i64 0] 32)).set m2.next (.own [.int .i64 kd, .string ⟨⟨tx⟩⟩, .int .i64 vl, .int .i64 (pa : Int)] 32)) := ((Old.refl m2).push _).set (Nat.le_refl _) _
        have gM : ((m2.push (.own [.int .i64 0, .string ⟨#[]⟩, .int .i64 0, .int .i64 0] 32)).set m2.next (.own [.int .i64 kd, .string ⟨⟨tx⟩⟩, .int .i64 vl, .int .i64 (pa : Int)] 32)).get m2.next = .own [.int .i64 kd, .string ⟨⟨tx⟩⟩, .int .i64 vl, .int .i64 (pa : Int)] 32 := by simp
        have w1 : IntKind.i64.wrap ((j : Int) + 1) = (j : Int) + 1 := w64 (by omega)
        have c1 : ¬ (pa : Int) < pr := by omega
        have c2 : ¬ (S.size : Int) < (pa : Int) := by omega
        have c2n : ¬ S.size < pa := by omega
        have go : ∀ (ts3 : Fr), ts3 0 = .string S → ts3 7 = .pointer (some ⟨m2.next, 0, none⟩) → ∀ (M : Mem) (Q : AQ), M.get m2.next = .own [.int .i64 kd, .string ⟨⟨tx⟩⟩, .int .i64 vl, .int .i64 (pa : Int)] 32 → (∀ ts4, ts4 0 = ts3 0 → ts4 3 = ts3 3 → ts4 32 = ts3 32 → ts4 33 = ts3 33 → ts4 34 = ts3 34 → ts4 5 = .int .i64 (pa : Int) → Q .normal ts4 M) → AbW Tryd.prog w0 rc5_0 Q ts3 M := fun ts3 e0 e7 M Q gm hn => by
          by_cases h3 : kd = 3
          · simp -implicitDefEqProofs (disch := first | assumption | (simp only [wnA]; done) | (simp only [wnA]; omega) | omega | fail) [rc5_0, wkA, retV, stabOk, dC, ev, fillD, pickCells, putAt, bnd, slD, List.getElem?_cons_zero, List.getElem?_cons_succ, dR.eq_20, Mem.cell, Mem.row, wmA, e0, e7, gm, h3]
            exact hn _ (by simp) (by simp) (by simp) (by simp) (by simp) (by simp)
          · obtain ⟨y1, y2⟩ := p4 h3
            have hz : (ByteArray.mk ⟨tx⟩).size = tx.length := rfl
            have wa : IntKind.i64.wrap ((pa : Int) + (tx.length : Int)) = (pa : Int) + (tx.length : Int) := w64 (by omega)
            have c3 : (pa : Int) + (tx.length : Int) ≤ (S.size : Int) := by omega
            have c4 : (0 : Int) ≤ (pa : Int) + (tx.length : Int) := by omega
            have c5 : ((pa : Int) + (tx.length : Int)).toNat = pa + tx.length := by omega
            have c6 : (pa : Int) ≤ (pa : Int) + (tx.length : Int) := by omega
            have hx : S.extract pa (pa + tx.length) = ⟨⟨tx⟩⟩ := by
              rw [Lib.extract_eq, show pa + tx.length - pa = tx.length from by omega, y2]
            simp -implicitDefEqProofs (disch := first | assumption | (simp only [wnA]; done) | (simp only [wnA]; omega) | omega | fail) [rc5_0, wkA, retV, stabOk, dC, ev, fillD, pickCells, putAt, bnd, slD, List.getElem?_cons_zero, List.getElem?_cons_succ, dR.eq_20, Mem.cell, Mem.row, wmA, e0, e7, gm, bneT h3, hz, wa, gtF c3, c3, c4, c5, c6, y1, hx]
            exact hn _ (by simp) (by simp) (by simp) (by simp) (by simp) (by simp)
        simp -implicitDefEqProofs (disch := first | assumption | (simp only [wnA]; done) | (simp only [wnA]; omega) | omega | fail) [wkA, retV, stabOk, dC, ev, fillD, pickCells, putAt, bnd, slD, List.getElem?_cons_zero, List.getElem?_cons_succ, dR.eq_20, Mem.cell, Mem.row, wmA]
        generalize (m2.push (.own [.int .i64 0, .string ⟨#[]⟩, .int .i64 0, .int .i64 0] 32)).set m2.next (.own [.int .i64 kd, .string ⟨⟨tx⟩⟩, .int .i64 vl, .int .i64 (pa : Int)] 32) = M at *
        have fin : ∀ ts4 : Fr, ts4 0 = ts 0 → ts4 3 = ts 3 → ts4 32 = ts 32 → ts4 33 = ts 33 → ts4 34 = .int .i64 ((j : Int) + 1) → ts4 5 = .int .i64 (pa : Int) → K ts4 M := fun ts4 e0 e3 e32 e33 e34 e5 =>
          hK (k - 1) ts4 M (by omega) ⟨j + 1, (pa : Int), by omega, o2.trans oM, by rw [e0, t0], by rw [e3, t3], e5, by rw [e32, t32], by rw [e33, t33], by rw [e34]; rfl, p5⟩
        by_cases hle : (pa : Int) ≤ pr
        · have hk0 : kd = 0 := by
            rcases Classical.em (kd = 0) with h | h
            · exact h
            · have := p1 h; omega
          simp -implicitDefEqProofs (disch := first | assumption | (simp only [wnA]; done) | (simp only [wnA]; omega) | omega | fail) [wkA, retV, stabOk, dC, ev, fillD, pickCells, putAt, bnd, slD, List.getElem?_cons_zero, List.getElem?_cons_succ, dR.eq_20, Mem.cell, Mem.row, wmA, gM, t0, t5, hle, hk0, c1, gtF (show (pa : Int) ≤ (S.size : Int) by omega), c2n]
          refine go _ (by simp [t0]) (by simp) M _ gM fun ts4 e0 e3 e32 e33 e34 e5 => ?_
          simp at e0 e3 e32 e33 e34
          simp -implicitDefEqProofs (disch := first | assumption | (simp only [wnA]; done) | (simp only [wnA]; omega) | omega | fail) [wkA, retV, stabOk, dC, ev, fillD, pickCells, putAt, bnd, slD, List.getElem?_cons_zero, List.getElem?_cons_succ, dR.eq_20, Mem.cell, Mem.row, wmA, e34, t34, w1]
          exact fin _ (by simp [e0, t0]) (by simp [e3]) (by simp [e32]) (by simp [e33]) (by simp) (by simp [e5])
        · simp -implicitDefEqProofs (disch := first | assumption | (simp only [wnA]; done) | (simp only [wnA]; omega) | omega | fail) [wkA, retV, stabOk, dC, ev, fillD, pickCells, putAt, bnd, slD, List.getElem?_cons_zero, List.getElem?_cons_succ, dR.eq_20, Mem.cell, Mem.row, wmA, gM, t0, t5, hle, c1, gtF (show (pa : Int) ≤ (S.size : Int) by omega), c2n]
          refine go _ (by simp [t0]) (by simp) M _ gM fun ts4 e0 e3 e32 e33 e34 e5 => ?_
          simp at e0 e3 e32 e33 e34
          simp -implicitDefEqProofs (disch := first | assumption | (simp only [wnA]; done) | (simp only [wnA]; omega) | omega | fail) [wkA, retV, stabOk, dC, ev, fillD, pickCells, putAt, bnd, slD, List.getElem?_cons_zero, List.getElem?_cons_succ, dR.eq_20, Mem.cell, Mem.row, wmA, e34, t34, w1]
          exact fin _ (by simp [e0, t0]) (by simp [e3]) (by simp [e32]) (by simp [e33]) (by simp) (by simp [e5])
      · have ijl : ¬ (j : Int) < (us.length : Int) := by omega
        obtain ⟨j1, q1, L1, A⟩ := tok_at r2 (j := ini.length) (by omega)
        have hge : us[ini.length]'(by omega) = (endT, S.size) := by
          have : us[ini.length]? = some (endT, S.size) := by rw [hini]; simp
          rw [List.getElem?_eq_getElem (by omega)] at this
          exact Option.some.inj this
        have g0 := A.g0
        have g3 := A.g3
        rw [hge] at g0 g3
        have g0 : L1[q1]? = some (.int .i64 0) := g0
        have g3 : L1[q1 + 3]? = some (.int .i64 (S.size : Int)) := g3
        have hb1 := A.len
        have hpos : 0 < us.length := by omega
        have ipos : (0 : Int) < (us.length : Int) := by omega
        have w2 : IntKind.i64.wrap ((us.length : Int) - 1) = ((ini.length : Nat) : Int) := by rw [w64 (by omega)]; omega
        simp -implicitDefEqProofs (disch := first | assumption | (simp only [wnA]; done) | (simp only [wnA]; omega) | omega | fail) [wkA, retV, stabOk, dC, ev, fillD, pickCells, putAt, bnd, slD, List.getElem?_cons_zero, List.getElem?_cons_succ, dR.eq_20, Mem.cell, Mem.row, wmA, hjl, ijl, rc5_3, t0, t3, r2.slen, hpos, ipos, w2, A.idx, A.get, g0, g3, getL g0, getL g3]
end Go.Proofs.YtilknkpaghihhaaDoor.Ab
