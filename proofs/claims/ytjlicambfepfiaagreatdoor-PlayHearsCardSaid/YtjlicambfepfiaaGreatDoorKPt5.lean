/- The law PlayHears, as its statement says it: for every input; the listed variables hold what the program's text lays. -/
import Derived.Test.YtjlicambfepfiaaGreatDoorKPt4
import Derived.Test.YtjlicambfepfiaaGreatDoorCards
import Derived.Test.YtjlicambfepfiaaGreatDoorTie
import Derived.WalkKit
import Derived.ProofKit
import Derived.OpenShut
import Derived.JoinedCond
import Derived.ChangeOld
import Derived.Deep.DeepHandedRow
import Derived.Deep.DeepWitnessRowRef
set_option linter.unusedVariables false
set_option linter.unusedSimpArgs false
namespace Go.Proofs.YtjlicambfepfiaaGreatDoor.Ab
open Go Go.RowKit
set_option maxHeartbeats 4000000
set_option maxRecDepth 100000
theorem l_PHears {w0 : World} {m : Mem} {v1 v2 : Value} {n1 n2 : List UInt8} (hp : Part L0 m) (h1 : SlR m 1 v1 (n1.map byteV) n1.length) (b1 : ∀ b, blk v1 = some b → b < m.next) (l1 : n1.length ≤ maxLen) (h2 : SlR m 1 v2 (n2.map byteV) n2.length) (b2 : ∀ b, blk v2 = some b → b < m.next) (l2 : n2.length ≤ maxLen) :
    AbC Tryz.prog w0 9 [v1, v2] m fun v _ => v = .bool true := by
  refine AbC_fn ok9 (by simp) ?_
  simp -implicitDefEqProofs (disch := first | assumption | (simp only [wnA]; done) | (simp only [wnA]; omega) | omega | fail) [rc9, ro9, wkA, retV, stabOk, dC, ev, fillD, pickCells, putAt, bnd, slD, List.getElem?_cons_zero, List.getElem?_cons_succ, dR.eq_20, Mem.cell, Mem.row, wmA]
  refine c_awakeP hp ?_
  simp -implicitDefEqProofs (disch := first | assumption | (simp only [wnA]; done) | (simp only [wnA]; omega) | omega | fail) [rc9_10, wkA, retV, stabOk, dC, ev, fillD, pickCells, putAt, bnd, slD, List.getElem?_cons_zero, List.getElem?_cons_succ, dR.eq_20, Mem.cell, Mem.row, wmA]
  rw [SK_bsl (cs := [.string ⟨#[97, 98]⟩, .string ⟨#[98]⟩]) (by simp [wkA, retV, stabOk, dC, ev, fillD, pickCells, putAt, bnd, slD, List.getElem?_cons_zero, List.getElem?_cons_succ, dR.eq_20]) (by simp)]
  obtain ⟨M1, hM1⟩ : ∃ M, m.push (.own [.string ⟨#[97, 98]⟩, .string ⟨#[98]⟩] 49) = M := ⟨_, rfl⟩
  have o1 : Old m M1 := by subst hM1; exact (Old.refl m).push _
  have g1 : M1.get m.next = .own [.string ⟨#[97, 98]⟩, .string ⟨#[98]⟩] 49 := by subst hM1; rw [Mem.push_same]
  have n1' : m.next < M1.next := by subst hM1; simp
  rw [hM1]
  clear hM1
  obtain ⟨a1, ha1⟩ : ∃ av : Value, .slice (some ⟨m.next, 0, none⟩) 1 2 = av := ⟨_, rfl⟩
  have hav1 : oneC a1 = true ∧ cellsV a1 = [a1] := by subst ha1; exact ⟨rfl, rfl⟩
  simp -implicitDefEqProofs (disch := first | assumption | (simp only [wnA]; done) | (simp only [wnA]; omega) | omega | fail) [wkA, retV, stabOk, dC, ev, fillD, pickCells, putAt, bnd, slD, List.getElem?_cons_zero, List.getElem?_cons_succ, dR.eq_20, Mem.cell, Mem.row, wmA, ha1, hav1.2]
  rw [SK_bsl (cs := [.string ⟨#[98, 99]⟩, .string ⟨#[99]⟩]) (by simp [wkA, retV, stabOk, dC, ev, fillD, pickCells, putAt, bnd, slD, List.getElem?_cons_zero, List.getElem?_cons_succ, dR.eq_20]) (by simp)]
  obtain ⟨M2, hM2⟩ : ∃ M, M1.push (.own [.string ⟨#[98, 99]⟩, .string ⟨#[99]⟩] 49) = M := ⟨_, rfl⟩
  have o2 : Old M1 M2 := by subst hM2; exact (Old.refl M1).push _
  have g2 : M2.get M1.next = .own [.string ⟨#[98, 99]⟩, .string ⟨#[99]⟩] 49 := by subst hM2; rw [Mem.push_same]
  have n2' : M1.next < M2.next := by subst hM2; simp
  rw [hM2]
  clear hM2
  obtain ⟨a2, ha2⟩ : ∃ av : Value, .slice (some ⟨M1.next, 0, none⟩) 1 2 = av := ⟨_, rfl⟩
  have hav2 : oneC a2 = true ∧ cellsV a2 = [a2] := by subst ha2; exact ⟨rfl, rfl⟩
  simp -implicitDefEqProofs (disch := first | assumption | (simp only [wnA]; done) | (simp only [wnA]; omega) | omega | fail) [wkA, retV, stabOk, dC, ev, fillD, pickCells, putAt, bnd, slD, List.getElem?_cons_zero, List.getElem?_cons_succ, dR.eq_20, Mem.cell, Mem.row, wmA, ha2, hav1.2, hav2.2]
  rw [SK_bsl (cs := (lH a1 a2).flatMap vC) (by simp [wkA, retV, stabOk, dC, ev, fillD, pickCells, putAt, bnd, slD, List.getElem?_cons_zero, List.getElem?_cons_succ, dR.eq_20, lH, stA, stB, stC, vC, dsC, hav1.2, hav2.2]) (by simp [lH, stA, stB, stC, vC, dsC])]
  obtain ⟨M3, hM3⟩ : ∃ M, M2.push (.own ((lH a1 a2).flatMap vC) 29) = M := ⟨_, rfl⟩
  have o3 : Old M2 M3 := by subst hM3; exact (Old.refl M2).push _
  have g3 : M3.get M2.next = .own ((lH a1 a2).flatMap vC) 29 := by subst hM3; rw [Mem.push_same]
  have n3' : M2.next < M3.next := by subst hM3; simp
  rw [hM3]
  clear hM3
  have o13 := (o1.trans o2).trans o3
  have ga1 := ((o2.trans o3).2 _ n1').trans g1
  have ga2 := (o3.2 _ n2').trans g2
  have la1 : m.next < M3.next := by have := (o2.trans o3).1; omega
  have la2 : M1.next < M3.next := by omega
  simp -implicitDefEqProofs (disch := first | assumption | (simp only [wnA]; done) | (simp only [wnA]; omega) | omega | fail) [wkA, retV, stabOk, dC, ev, fillD, pickCells, putAt, bnd, slD, List.getElem?_cons_zero, List.getElem?_cons_succ, dR.eq_20, Mem.cell, Mem.row, wmA]
  refine c_Text7 (h1.keep fun b hb => o13.2 b (b1 b hb)) l1 fun t1 ht1 hc1 => ?_
  have hcat1 := cat2 (a := t1) (b := [97, 98]) (by simp; omega)
  obtain ⟨S, hS⟩ : ∃ S, t1 ++ [97, 98] = S := ⟨_, rfl⟩
  rw [hS] at hcat1
  have hSl : S.length ≤ 16 := by rw [← hS]; simp; omega
  have hSc : ∀ c ∈ S, abc c := fun c hc => by
    rw [← hS] at hc
    rcases List.mem_append.1 hc with hc | hc
    · exact hc1 c hc
    · simp only [List.mem_cons, List.not_mem_nil, or_false] at hc
      rcases hc with rfl | rfl
      · exact .inl rfl
      · exact .inr (.inl rfl)
  have hSN : (S.foldl AS.next (.a false)).isA = false := by rw [← hS]; exact fold_ab t1
  simp -implicitDefEqProofs (disch := first | assumption | (simp only [wnA]; done) | (simp only [wnA]; omega) | omega | fail) [wkA, retV, stabOk, dC, ev, fillD, pickCells, putAt, bnd, slD, List.getElem?_cons_zero, List.getElem?_cons_succ, dR.eq_20, Mem.cell, Mem.row, wmA, hcat1]
  refine c_Text7 (h2.keep fun b hb => o13.2 b (b2 b hb)) l2 fun t2 ht2 hc2 => ?_
  simp -implicitDefEqProofs (disch := first | assumption | (simp only [wnA]; done) | (simp only [wnA]; omega) | omega | fail) [wkA, retV, stabOk, dC, ev, fillD, pickCells, putAt, bnd, slD, List.getElem?_cons_zero, List.getElem?_cons_succ, dR.eq_20, Mem.cell, Mem.row, wmA]
  have dsx : ∀ (X : Nat → Prop) (M : Mem) (a1' : Value) (i j : Nat), Old M3 M → M.get i = .own ((lH a1' a2).flatMap vC) 29 → i < M.next → X i → X M1.next → a1' = .slice (some ⟨j, 0, none⟩) 1 2 → M.get j = .own [.string ⟨#[97, 98]⟩, .string ⟨#[98]⟩] 49 → j < M.next → X j → DsX X M (.slice (some ⟨i, 0, none⟩) 3 7) (lH a1' a2) := fun X M a1' i j oM gi hi hXi hX2 ha gj hj hXj => by
    refine ⟨RdV.blk (n := 3) gi (by simp [lH, stA, stB, stC, vC, dsC]) hi hXi, fun x hx => ?_⟩
    simp only [lH, List.mem_cons, List.not_mem_nil, or_false] at hx
    rcases hx with rfl | rfl | rfl
    · show RdV X M 2 a1' _ 1
      rw [ha]
      exact RdV.blk (n := 1) (sz := 2) gj rfl hj hXj
    · show RdV X M 2 a2 _ 1
      rw [← ha2]
      exact RdV.blk (n := 1) (sz := 2) ((oM.2 _ la2).trans ga2) rfl (Nat.lt_of_lt_of_le la2 oM.1) hX2
    · exact ⟨⟨rfl, .inl ⟨rfl, .inl rfl⟩⟩, fun b hb => by cases hb⟩
  have hD3 : DsX (fun i => i ∉ ([] : List Nat)) M3 (.slice (some ⟨M2.next, 0, none⟩) 3 7) (lH a1 a2) := dsx _ M3 a1 M2.next m.next (Old.refl _) g3 n3' (by simp) (by simp) ha1.symm ga1 la1 (by simp)
  refine c_POfV (V := []) (G := gH) (P := pH) (J := posJ) (o13.part hp) hD3 (fun i hi => by cases hi) (lH_ok a1 a2) (fun _ => ⟨safe_of (by simp [lH]) (lH_chk a1 a2), fun im => by show (0 : Int) ≤ 0; omega⟩) (fun _ M4 ipP im svP sP outP obP hRP hP4 oP hownP soP hobP => ?_) fun hbad => absurd ⟨lH_chk a1 a2, fun _ _ _ => trivial⟩ hbad
  have hrP : relH sP (.a false) := run_E (l := lH a1 a2) (j := 0) (e := stA a1) (n := 0) (s := pl0 im) rfl rfl (fun c hc => hc.1 rfl) (by omega) rfl rfl rfl hRP
  have htP : sP.tr.length ≤ 10 := by rw [run_tr hRP]; simp [pl0]
  simp -implicitDefEqProofs (disch := first | assumption | (simp only [wnA]; done) | (simp only [wnA]; omega) | omega | fail) [wkA, retV, stabOk, dC, ev, fillD, pickCells, putAt, bnd, slD, List.getElem?_cons_zero, List.getElem?_cons_succ, dR.eq_20, Mem.cell, Mem.row, wmA]
  refine w_first9 hP4 oP hownP hrP hSc (by omega) htP (by simp) (by simp) (by simp) (by simp) hSN fun fr5 M5 p o5 hpS hpf e10 sm5 => ?_
  have e5 := (sm5 5 (by simp)).trans (by simp : _ = Value.slice (some ⟨M2.next, 0, none⟩) 3 7)
  have e6 := (sm5 6 (by simp)).trans (by simp : _ = Value.string ⟨⟨S⟩⟩)
  have e7 := (sm5 7 (by simp)).trans (by simp : _ = Value.string ⟨⟨t2⟩⟩)
  have g35 := (o5.2 _ n3').trans g3
  have n35 : M2.next < M5.next := Nat.lt_of_lt_of_le n3' o5.1
  have hD5 := hD3.keep (o5.keeps (X := fun i => i ∉ ([] : List Nat)))
  obtain ⟨vq, hvq, hsq, hbq⟩ := hD5.sl.sl.behind (k := 1) (by simp [lH])
  have hlq : (lH a1 a2).length = 3 := by simp [lH]
  have hvq : slW 7 (.slice (some ⟨M2.next, 0, none⟩) 3 7) (some (.int .i64 1)) none = some vq := hvq
  have hvqe : vq = .slice (some ⟨M2.next, 7, none⟩) 2 7 := by
    have : slW 7 (.slice (some ⟨M2.next, 0, none⟩) 3 7) (some (.int .i64 1)) none = some (.slice (some ⟨M2.next, 7, none⟩) 2 7) := by simp [slW, dR, slD, bnd, ev]
    rw [this] at hvq
    exact (Option.some.inj hvq).symm
  have hsq : SlR M5 7 vq ((lQ a2).flatMap vC) 2 := hsq
  have hD5q : DsX (fun i => i ∉ ([] : List Nat)) M5 vq (lQ a2) := ⟨⟨hsq, fun b hb => hD5.sl.bl b (hbq b hb)⟩, fun x hx => hD5.ar x (List.mem_cons_of_mem _ hx)⟩
  have o05 := o13.trans o5
  rw [hvqe] at hD5q
  simp -implicitDefEqProofs (disch := first | assumption | (simp only [wnA]; done) | (simp only [wnA]; omega) | omega | fail) [rc9_9, rc9_8, wkA, retV, stabOk, dC, ev, fillD, pickCells, putAt, bnd, slD, List.getElem?_cons_zero, List.getElem?_cons_succ, dR.eq_20, Mem.cell, Mem.row, wmA, e5, e6, e7, e10, ltF (show (0 : Int) ≤ (p : Int) by omega), hvq]
  refine c_POfV (V := []) (G := gH) (P := pH) (J := posJ) (o05.part hp) hD5q (fun i hi => by cases hi) (lQ_ok a2) (fun _ => ⟨safe_of (by simp [lQ]) (lQ_chk a2), fun im => by show (0 : Int) ≤ 0; omega⟩) (fun _ M6 ipQ imQ svQ sQ outQ obQ hRQ hP6 oQ hownQ soQ hobQ => ?_) fun hbad => absurd ⟨lQ_chk a2, fun _ _ _ => trivial⟩ hbad
  have hrQ : relQ sQ (.b false) := run_E (l := lQ a2) (j := 0) (e := stB a2) (n := 0) (s := pl0 imQ) rfl rfl (fun c hc => hc.2 rfl) (by omega) rfl rfl rfl hRQ
  have htQ : sQ.tr.length ≤ 10 := by rw [run_tr hRQ]; simp [pl0]
  have o6 := o5.trans oQ
  have g36 := (o6.2 _ n3').trans g3
  have n36 : M2.next < M6.next := Nat.lt_of_lt_of_le n3' o6.1
  have hrest : (⟨⟨S⟩⟩ : ByteArray).extract p S.length = ⟨⟨S.drop p⟩⟩ := by
    rw [Lib.extract_eq, List.take_of_length_le (by simp)]
  have hsz : (⟨⟨S⟩⟩ : ByteArray).size = S.length := rfl
  have hcat2 := cat2 (a := S.drop p) (b := t2) (by simp; omega)
  have hLH : (lH a1 a2).flatMap vC = [.string ⟨⟨[97]⟩⟩, .int .i64 1, .string ⟨⟨[]⟩⟩, a1, .int .i64 9, .string ⟨⟨[97]⟩⟩, .int .i64 0, .string ⟨⟨[98]⟩⟩, .int .i64 1, .string ⟨⟨[]⟩⟩, a2, .int .i64 9, .string ⟨⟨[98]⟩⟩, .int .i64 0, .string ⟨⟨[99]⟩⟩, .int .i64 4, .string ⟨⟨[]⟩⟩, .slice none 0 0, .int .i64 0, .string ⟨⟨[]⟩⟩, .int .i64 0] := rfl
  rw [hLH] at g36
  have hpl : (p : Int) ≤ (S.length : Int) := by omega
  have hs1 : sidx 7 (.slice (some ⟨M2.next, 0, none⟩) 3 7) (.int .i64 1) = some (.pointer (some ⟨M2.next, 7, none⟩)) := by simpa using sidx_at (b := M2.next) (o := 0) (n := 3) (c := 7) (j := 1) (sz := 7) (k := .i64) (by omega)
  have hs2 : sidx 7 (.slice (some ⟨M2.next, 0, none⟩) 3 7) (.int .i64 2) = some (.pointer (some ⟨M2.next, 14, none⟩)) := by simpa using sidx_at (b := M2.next) (o := 0) (n := 3) (c := 7) (j := 2) (sz := 7) (k := .i64) (by omega)
  simp -implicitDefEqProofs (disch := first | assumption | (simp only [wnA]; done) | (simp only [wnA]; omega) | omega | fail) [wkA, retV, stabOk, dC, ev, fillD, pickCells, putAt, bnd, slD, List.getElem?_cons_zero, List.getElem?_cons_succ, dR.eq_20, Mem.cell, Mem.row, wmA, e5, e6, e7, e10, hsz, hpl, hrest, hcat2, g36, hs1, hs2]
  rw [SK_bsl (cs := [.string ⟨#[97, 98]⟩, .string ⟨#[98]⟩]) (by simp [wkA, retV, stabOk, dC, ev, fillD, pickCells, putAt, bnd, slD, List.getElem?_cons_zero, List.getElem?_cons_succ, dR.eq_20]) (by simp)]
  obtain ⟨M7, hM7⟩ : ∃ M, M6.push (.own [.string ⟨#[97, 98]⟩, .string ⟨#[98]⟩] 49) = M := ⟨_, rfl⟩
  have o7 : Old M6 M7 := by subst hM7; exact (Old.refl M6).push _
  have g7 : M7.get M6.next = .own [.string ⟨#[97, 98]⟩, .string ⟨#[98]⟩] 49 := by subst hM7; rw [Mem.push_same]
  have n7 : M6.next < M7.next := by subst hM7; simp
  rw [hM7]
  clear hM7
  obtain ⟨a3, ha3⟩ : ∃ av : Value, .slice (some ⟨M6.next, 0, none⟩) 1 2 = av := ⟨_, rfl⟩
  have hav3 : oneC a3 = true ∧ cellsV a3 = [a3] := by subst ha3; exact ⟨rfl, rfl⟩
  have g37 := (o7.2 _ n36).trans g36
  simp -implicitDefEqProofs (disch := first | assumption | (simp only [wnA]; done) | (simp only [wnA]; omega) | omega | fail) [wkA, retV, stabOk, dC, ev, fillD, pickCells, putAt, bnd, slD, List.getElem?_cons_zero, List.getElem?_cons_succ, dR.eq_20, Mem.cell, Mem.row, wmA, ha3, hav3.2, hav2.2, g37]
  rw [SK_bsl (cs := (lH a3 a2).flatMap vC) (by simp [wkA, retV, stabOk, dC, ev, fillD, pickCells, putAt, bnd, slD, List.getElem?_cons_zero, List.getElem?_cons_succ, dR.eq_20, lH, stA, stB, stC, vC, dsC, hav3.2, hav2.2]) (by simp [lH, stA, stB, stC, vC, dsC])]
  obtain ⟨M8, hM8⟩ : ∃ M, M7.push (.own ((lH a3 a2).flatMap vC) 29) = M := ⟨_, rfl⟩
  have o8 : Old M7 M8 := by subst hM8; exact (Old.refl M7).push _
  have g8 : M8.get M7.next = .own ((lH a3 a2).flatMap vC) 29 := by subst hM8; rw [Mem.push_same]
  have n8 : M7.next < M8.next := by subst hM8; simp
  rw [hM8]
  clear hM8
  have o68 := o7.trans o8
  have o38 := o6.trans o68
  have hP8 := hP6.old o68
  have hqlt : ∀ i ∈ ownP ipQ sQ, i < M6.next ∧ L0.n ≤ i := fun i hi => ⟨hP6.lt i (List.mem_append_left _ hi), hP6.lo i hi⟩
  have n15 : M1.next < M5.next := Nat.lt_of_lt_of_le la2 o5.1
  have hD8 : DsX (fun i => i ∉ ownP ipQ sQ) M8 (.slice (some ⟨M7.next, 0, none⟩) 3 7) (lH a3 a2) := dsx _ M8 a3 M7.next M6.next o38 g8 n8 (fun hm => by have := (hqlt _ hm).1; omega) (fun hm => by have := hownQ _ hm; omega) ha3.symm ((o8.2 _ n7).trans g7) (Nat.lt_of_lt_of_le n7 o8.1) (fun hm => by have := (hqlt _ hm).1; omega)
  simp -implicitDefEqProofs (disch := first | assumption | (simp only [wnA]; done) | (simp only [wnA]; omega) | omega | fail) [wkA, retV, stabOk, dC, ev, fillD, pickCells, putAt, bnd, slD, List.getElem?_cons_zero, List.getElem?_cons_succ, dR.eq_20, Mem.cell, Mem.row, wmA]
  refine c_POfV (V := ownP ipQ sQ) (G := gH) (P := pH) (J := posJ) ((o13.trans o38).part hp) hD8 (fun i hi => ⟨by have := (hqlt i hi).1; have := o68.1; omega, (hqlt i hi).2⟩) (lH_ok a3 a2) (fun _ => ⟨safe_of (by simp [lH]) (lH_chk a3 a2), fun im => by show (0 : Int) ≤ 0; omega⟩) (fun _ M9 ipR imR svR sR outR obR hRR hP9 oR hownR soR hobR => ?_) fun hbad => absurd ⟨lH_chk a3 a2, fun _ _ _ => trivial⟩ hbad
  have hrR : relH sR (.a false) := run_E (l := lH a3 a2) (j := 0) (e := stA a3) (n := 0) (s := pl0 imR) rfl rfl (fun c hc => hc.1 rfl) (by omega) rfl rfl rfl hRR
  have htR : sR.tr.length ≤ 10 := by rw [run_tr hRR]; simp [pl0]
  have hTwo : Two M9 ipQ svQ (lQ a2) sQ ipR svR (lH a3 a2) sR := ⟨hP8.other (V := []) (oR.keeps) (fun i hi => .inr (hownR i hi)) (fun i hi => hP9.lt i (List.mem_append_left _ hi)) (fun i hi => by cases hi), hP9⟩
  simp -implicitDefEqProofs (disch := first | assumption | (simp only [wnA]; done) | (simp only [wnA]; omega) | omega | fail) [wkA, retV, stabOk, dC, ev, fillD, pickCells, putAt, bnd, slD, List.getElem?_cons_zero, List.getElem?_cons_succ, dR.eq_20, Mem.cell, Mem.row, wmA]
  have hRc : ∀ c ∈ S.drop p ++ t2, abc c := fun c hc => by
    rcases List.mem_append.1 hc with hc | hc
    · exact hSc c (List.mem_of_mem_drop hc)
    · exact hc2 c hc
  refine w_mid9 hTwo hrR hSc (by omega) hpS hpf htR (by simp [e6]) (by simp [e10]) (by simp) (by simp) fun fr10 M10 sR' hTwo2 hrR2 htR2 sm10 => ?_
  have f12 := (sm10 12 (by simp)).trans (by simp : _ = Value.pointer (some ⟨ipQ, 0, none⟩))
  have f14 := (sm10 14 (by simp)).trans (by simp : _ = Value.string ⟨⟨S.drop p ++ t2⟩⟩)
  have f15 := (sm10 15 (by simp)).trans (by simp : _ = Value.pointer (some ⟨ipR, 0, none⟩))
  simp -implicitDefEqProofs (disch := first | assumption | (simp only [wnA]; done) | (simp only [wnA]; omega) | omega | fail) [wkA, retV, stabOk, dC, ev, fillD, pickCells, putAt, bnd, slD, List.getElem?_cons_zero, List.getElem?_cons_succ, dR.eq_20, Mem.cell, Mem.row, wmA]
  refine w_last (x := .b false) hTwo2 hrQ hrR2 hRc (by simp; omega) (by omega) htR2 f12 f14 f15 fun fr' m' h4 => ?_
  simp -implicitDefEqProofs (disch := first | assumption | (simp only [wnA]; done) | (simp only [wnA]; omega) | omega | fail) [wkA, retV, stabOk, dC, ev, fillD, pickCells, putAt, bnd, slD, List.getElem?_cons_zero, List.getElem?_cons_succ, dR.eq_20, Mem.cell, Mem.row, wmA, h4]
end Go.Proofs.YtjlicambfepfiaaGreatDoor.Ab

namespace Go.Proofs.YtjlicambfepfiaaGreatDoor.playHears
open Go Go.ChangeShapes Go.WideShapes Go.ChangeAt Go.RowKit Go.Proofs.YtjlicambfepfiaaGreatDoor.Ab
set_option linter.unusedVariables false
theorem own : ownKnob Tryz.prog.godebug = none := by kernel_rfl
theorem laidOut : laidOutB Tryz.prog = true := by kernel_rfl
set_option maxRecDepth 100000 in
theorem contract (H : Type) (enc : TypeId × Value → H) (W : World) (base : Nat) (args : Array Value) (ds gs : List (DataW H)) (before : List MemPlace)
    (hval : ∀ (j : Nat) t v, Tryz.f9.params[j]? = some t → args[j]? = some v → Value.okWide Tryz.prog W .any base t v)
    (hW : DataW.Whole enc Tryz.prog Tryz.f9.params.toList Rows.playHearsSpec.vars false W args.toList ds gs before) (hL : laidMetH Tryz.prog Rows.playHearsRow.laid W) :
    Calls Tryz.prog 9 args W fun e W' => ∃ v, e = .returned v ∧ Rows.playHearsSpec.post enc Tryz.prog Tryz.f9 false true false false W args v W' := by
  have hW' := hW
  obtain ⟨hL', hLh⟩ := (show laidMet Tryz.prog (Rows.playHearsRow.laid.filter fun x => x.2.handleName?.isNone) W ∧ handlesMet Tryz.prog (Rows.playHearsRow.laid.filter fun x => x.2.handleName?.isSome) W from hL)
  obtain ⟨p, q, hA0, hV, rfl, hfz, hnd⟩ := hW
  have hA : DataW.TrodAll enc Tryz.prog W 0 (fun _ => true) true Tryz.f9.params.toList args.toList ds p := hA0
  rw [Tryz.params9] at hA hval
  obtain ⟨v0, vs0, d0, ds0, p0, q0, hargs, rfl, rfl, h0, r0⟩ := trodAll_cons hA
  obtain ⟨v1, vs1, d1, ds1, p1, q1, rfl, rfl, rfl, h1, r1⟩ := trodAll_cons r0
  obtain ⟨rfl, rfl, rfl⟩ := trodAll_nil r1
  obtain rfl : args = #[v0, v1] := by cases args; simp_all
  obtain ⟨rfl, rfl⟩ := trodVars_none hV
  obtain ⟨a0, len0, cap0, rfl⟩ := okWide_slice Tryz.underlying51 (hval 0 51 v0 rfl rfl)
  have lt0 : ∀ x ∈ p0, x.block < W.heap.size := by obtain ⟨m, hm⟩ := h0; exact DataW.trod_lt m _ _ _ hm
  obtain ⟨a1, len1, cap1, rfl⟩ := okWide_slice Tryz.underlying51 (hval 1 51 v1 rfl rfl)
  have lt1 : ∀ x ∈ p1, x.block < W.heap.size := by obtain ⟨m, hm⟩ := h1; exact DataW.trod_lt m _ _ _ hm
  have s : St Tryz.prog W (G0 Tryz.prog) (toMem L0) W := St.laid globals_size L0_get laid_ok (laidIn hL' (List.mem_of_getElem? (i := 0) rfl) (List.mem_of_getElem? (i := 1) rfl) (List.mem_of_getElem? (i := 2) rfl))
  have hp : Part L0 (toMem L0) := Part.of L0_part (Nat.le_refl _) fun _ _ => rfl
  obtain ⟨G0, m0, x0, t0, g0, s0, u0, b0, f0, k0⟩ := arg_one (k := 5) (s := (.sl (.int .u8))) (by kernel_rfl) h0 rfl s
  have hp := g0.part hp
  obtain ⟨G1, m1, x1, t1, g1, s1, u1, b1, f1, k1⟩ := arg_one (k := 5) (s := (.sl (.int .u8))) (by kernel_rfl) h1 rfl s0
  have hp := g1.part hp
  have b0 := b0.mono g1.2.1 g1.2.2
  have u0 := u0.mono g1.1
  refine (AbC_true s1 (.cons _ _ _ _ u0 (.cons _ _ _ _ u1 .nil)) ((by obtain ⟨xs, c0, d0, -⟩ := absT_bys b0 f0; obtain ⟨ys, c1, d1, -⟩ := absT_bys b1 f1; exact l_PHears hp c0 d0 (sl_max c0 u0) c1 d1 (sl_max c1 u1))) (by kernel_rfl)).mono fun e W' ⟨he, bel⟩ => ?_
  subst he
  exact ⟨_, rfl, _, _, _, [], _, [], hW', trodAll_mk1 (shut_bool Tryz.underlying4 _), (trodAll_cons_mk (Below.trod laidOut (by kernel_rfl) (of_decide_eq_true (by kernel_rfl)) h0 bel lt0) (trodAll_cons_mk (Below.trod laidOut (by kernel_rfl) (of_decide_eq_true (by kernel_rfl)) h1 bel lt1) trodAll_mk0)), rfl, bel.frame _, fun h => by cases h⟩
noncomputable def laidWorld (os : Os) : World :=
  let N := (World.settled Tryz.prog os).heap.size
  { World.holding Tryz.prog os ⟨#[.cells #[.string ⟨#[118, 97, 108, 117, 101, 32, 111, 117, 116, 32, 111, 102, 32, 114, 97, 110, 103, 101]⟩] 226, .cells #[.string ⟨#[105, 110, 118, 97, 108, 105, 100, 32, 115, 121, 110, 116, 97, 120]⟩] 226], #[], []⟩ with heap := (((((((World.holding Tryz.prog os ⟨#[.cells #[.string ⟨#[118, 97, 108, 117, 101, 32, 111, 117, 116, 32, 111, 102, 32, 114, 97, 110, 103, 101]⟩] 226, .cells #[.string ⟨#[105, 110, 118, 97, 108, 105, 100, 32, 115, 121, 110, 116, 97, 120]⟩] 226], #[], []⟩).heap.modify 5 fun | .cells _ t frozen => .cells ⟨e32⟩ t frozen | o => o).modify 6 fun | .cells _ t frozen => .cells ⟨e64⟩ t frozen | o => o).modify 2 fun | .cells _ t frozen => .cells ⟨e10⟩ t frozen | o => o).modify 4 fun | .cells _ t frozen => .cells #[.iface 224 (.pointer (some ⟨N, 0, none⟩))] t frozen | o => o).modify 3 fun | .cells _ t frozen => .cells #[.iface 224 (.pointer (some ⟨N + 1, 0, none⟩))] t frozen | o => o).modify 0 fun | .cells _ t frozen => .cells #[.iface 158 (.agg #[.pointer (some ⟨7, 36, none⟩)])] t frozen | o => o) }
theorem laid_met (os : Os) : laidMetH Tryz.prog Rows.playHearsRow.laid ((laidWorld os).forCall (fun _ _ => 0) ⟨#[], #[(.slice none 0 0 : Value), (.slice none 0 0 : Value)], []⟩).memory :=
  laidMetH_of_parts (laidMet_of_run' 8 (by kernel_rfl) (by kernel_rfl)) (by kernel_rfl)
theorem reads (os : Os) {H : Type} (enc : TypeId × Value → H) : ∃ places, DataW.whole enc Tryz.prog ((laidWorld os).forCall (fun _ _ => 0) ⟨#[], #[(.slice none 0 0 : Value), (.slice none 0 0 : Value)], []⟩).memory Tryz.f9.params.toList Rows.playHearsSpec.vars false [(.slice none 0 0 : Value), (.slice none 0 0 : Value)] 8 = some ([.nil, .nil], [], places) :=
  ⟨[], by kernel_rfl⟩
set_option maxRecDepth 100000 in
theorem lifted (os : Os) (started : os.Started) (H : Type) (enc : TypeId × Value → H) (F : Stop.Interp) :
    ReturnsInHanded {} Tryz.checked os 9 .any ((OpenSpec.ofChange Rows.playHearsSpec).preRow enc Tryz.prog Tryz.f9 Rows.playHearsRow.domain false Rows.playHearsRow.laid) (((OpenSpec.ofChange Rows.playHearsSpec).at F).post enc Tryz.prog Tryz.f9 false true false false) := by
  obtain ⟨places, hx⟩ := reads os enc
  refine returnsInHanded_of_row (C := Tryz.checked) (s := (OpenSpec.ofChange Rows.playHearsSpec)) own started (by kernel_rfl) Tryz.func9
    (witness_row_atRef (enc := enc) (C := Tryz.checked) false (laidWorld os) #[(.slice none 0 0 : Value), (.slice none 0 0 : Value)] rfl (by kernel_rfl) (by kernel_rfl) (by kernel_rfl)
      (OpenSpec.preRow_of_cond 8 hx (by kernel_rfl) (fun k hk => by cases hk) (by kernel_rfl) (laid_met os))) ?_
  intro W base args ds gs before hval hW _ _ _ hL _ _
  exact contract H enc W base args ds gs before hval hW hL
theorem over : Rows.PlayHearsSaid :=
  OpenClaim.holds_of_cond 9 Tryz.f9 rfl rfl rfl rfl rfl rfl rfl ⟨rfl, rfl, rfl, rfl, rfl⟩ rfl rfl rfl rfl rfl (by kernel_rfl) Tryz.func9 (by kernel_rfl)
    (of_decide_eq_true (by kernel_rfl)) (by unfold Func.isWrapper; first | (rw [if_pos (by decide +kernel)]; kernel_rfl) | (rw [if_neg (by decide +kernel)]; exact ⟨rfl, rfl⟩))
    (fun os started H enc _ F => by rw [OpenClaim.pre_eq_preRow]; exact lifted os started H enc F)
theorem plain (f : FuncId) (fn : Func) (hf : Tryz.pinned.checked.prog.funcNamed "lifeline/lifelinelaw18.PlayHears" = some f) (hfn : Tryz.pinned.checked.prog.funcs[f]? = some fn) :
    true = Tryz.pinned.checked.prog.looks [] ∧ ∀ (j : Nat) t, fn.params[j]? = some t → Tryz.pinned.checked.prog.wantsStandIn t = false := by
  obtain rfl : f = 9 := Option.some.inj ((show Tryz.prog.funcNamed "lifeline/lifelinelaw18.PlayHears" = some 9 by kernel_rfl).symm.trans hf) |>.symm
  obtain rfl : fn = Tryz.f9 := (Option.some.inj (Tryz.func9.symm.trans hfn)).symm
  refine ⟨by kernel_rfl, fun j t ht => ?_⟩
  rw [Tryz.params9] at ht
  have hall : ∀ t ∈ [51, 51], Tryz.prog.wantsStandIn t = false := by
    intro t ht
    simp only [List.mem_cons, List.mem_nil_iff, or_false] at ht
    rcases ht with rfl | rfl <;> kernel_rfl
  exact hall t (by simpa using Array.mem_of_getElem? ht)
theorem proved : Rows.PlayHearsCardSaid :=
  Claim7.holds_tied_plain_at .later [] _ _ _ _ over (fun _ h => by cases h) (by kernel_rfl) (fun _ h => by cases h) playHears_row_tie rfl ⟨rfl, rfl⟩ (by kernel_rfl) rfl plain (by kernel_rfl)
#print axioms proved
end Go.Proofs.YtjlicambfepfiaaGreatDoor.playHears
