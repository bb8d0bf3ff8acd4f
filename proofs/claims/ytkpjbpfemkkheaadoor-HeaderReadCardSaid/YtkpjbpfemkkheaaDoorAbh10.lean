/- What a batch says of a file is what the document says, and it is read of it: the law. -/
import Derived.Test.YtkpjbpfemkkheaaDoorAbz
import Derived.Test.YtkpjbpfemkkheaaDoorAbh9
set_option linter.unusedVariables false
set_option linter.unusedSimpArgs false
namespace Go.Proofs.YtkpjbpfemkkheaaDoor.Ab
open Go Go.RowKit
set_option maxHeartbeats 1000000
set_option maxRecDepth 100000

theorem l_Make {w0 : World} {m : Mem} {f : Fl} {v1 : Value} {ns : List UInt8} {z t o : Int} (hp : Part L0 m) (ht : Ten w0) (hE : ErrV w0) (hf : f.ok) (h1 : SlR m 1 v1 (ns.map byteV) ns.length) (b1 : ∀ b, blk v1 = some b → b < m.next)
    (l1 : ns.length ≤ maxLen) (hz : 0 ≤ z ∧ z ≤ 65535) (hti : 0 ≤ t ∧ t ≤ 4294967295) (ho : 0 ≤ o ∧ o ≤ 65535) :
    AbC Tryd.prog w0 5 [f.v, v1, .int .u16 z, .int .u32 t, .int .u16 o] m fun v _ => v = .bool true := by
  refine AbC_fn ok5 (by simp) ?_
  have hml : maxLen ≤ 9223372036854775807 := by unfold maxLen; omega
  have hfv : cellsV f.v = [.string f.nm, .int .i64 f.size, .int .i64 f.time, .int .i64 f.mode] := rfl
  have r0 : (8193 : Int) ≠ 0 := by omega
  have wz : IntKind.i64.wrap z = z := w64 (by omega)
  have wt : IntKind.i64.wrap t = t := w64 (by omega)
  have wo : IntKind.i64.wrap o = o := w64 (by omega)
  have r1 : z.tmod 8193 = z % 8193 := Int.tmod_eq_emod_of_nonneg hz.1
  obtain ⟨K, hK⟩ : ∃ K, z % 8193 = K := ⟨_, rfl⟩
  rw [hK] at r1
  have hK1 : 0 ≤ K ∧ K ≤ 8192 := by omega
  simp -implicitDefEqProofs (disch := first | assumption | (simp only [wnA]; done) | (simp only [wnA]; omega) | omega | fail) [rc5, ro5, wkA, retV, stabOk, dC, ev, fillD, pickCells, putAt, bnd, slD, List.getElem?_cons_zero, List.getElem?_cons_succ, dR.eq_20, Mem.cell, Mem.row, wmA, hfv]
  have o0 : Old m (m.push (.own [.string f.nm, .int .i64 f.size, .int .i64 f.time, .int .i64 f.mode] 25)) := (Old.refl m).push _
  have gF : (m.push (.own [.string f.nm, .int .i64 f.size, .int .i64 f.time, .int .i64 f.mode] 25)).get m.next = .own [.string f.nm, .int .i64 f.size, .int .i64 f.time, .int .i64 f.mode] 25 := by simp
  have nF : m.next + 1 = (m.push (.own [.string f.nm, .int .i64 f.size, .int .i64 f.time, .int .i64 f.mode] 25)).next := by simp
  generalize m.push (.own [.string f.nm, .int .i64 f.size, .int .i64 f.time, .int .i64 f.mode] 25) = m0 at *
  refine c_awake (o0.part hp) ?_
  simp -implicitDefEqProofs (disch := first | assumption | (simp only [wnA]; done) | (simp only [wnA]; omega) | omega | fail) [rc5_1, wkA, retV, stabOk, dC, ev, fillD, pickCells, putAt, bnd, slD, List.getElem?_cons_zero, List.getElem?_cons_succ, dR.eq_20, Mem.cell, Mem.row, wmA]
  refine c_nums (h1.keep fun b hb => o0.2 b (b1 b hb)) (by omega) ?_
  have mA : mayB ⟨⟨⟨nameL ns⟩⟩, K, t, o⟩ = true := by
    simp [mayB, nameL_ok, hK1, hti.1, ho.1]
    omega
  simp -implicitDefEqProofs (disch := first | assumption | (simp only [wnA]; done) | (simp only [wnA]; omega) | omega | fail) [wkA, retV, stabOk, dC, ev, fillD, pickCells, putAt, bnd, slD, List.getElem?_cons_zero, List.getElem?_cons_succ, dR.eq_20, Mem.cell, Mem.row, wmA, wz, wt, wo, dBin_rem, r0, r1]
  refine SK_st (i := m0.next) (o := 0) (by simp [wkA, retV, stabOk, dC, ev, fillD, pickCells, putAt, bnd, slD, List.getElem?_cons_zero, List.getElem?_cons_succ, dR.eq_20]) (e := 25) (by simp -implicitDefEqProofs (disch := first | assumption | (simp only [wnA]; done) | (simp only [wnA]; omega) | omega | fail) [Mem.cell, Mem.row, wmA]; rfl) (by simp) (by simp [wkA, retV, stabOk, dC, ev, fillD, pickCells, putAt, bnd, slD, List.getElem?_cons_zero, List.getElem?_cons_succ, dR.eq_20]) (by simp [wkA, retV, stabOk, dC, ev, fillD, pickCells, putAt, bnd, slD, List.getElem?_cons_zero, List.getElem?_cons_succ, dR.eq_20, oneC]) ?_
  simp -implicitDefEqProofs (disch := first | assumption | (simp only [wnA]; done) | (simp only [wnA]; omega) | omega | fail) [wkA, retV, stabOk, dC, ev, fillD, pickCells, putAt, bnd, slD, List.getElem?_cons_zero, List.getElem?_cons_succ, dR.eq_20, Mem.cell, Mem.row, wmA]
  have oM := alst (m := m0) (Z := [.string ⟨#[]⟩, .int .i64 0, .int .i64 0, .int .i64 0]) (V := [.string ⟨⟨nameL ns⟩⟩, .int .i64 K, .int .i64 t, .int .i64 o]) (e := 25)
  have gA : ((m0.push (.own [.string ⟨#[]⟩, .int .i64 0, .int .i64 0, .int .i64 0] 25)).set m0.next (.own [.string ⟨⟨nameL ns⟩⟩, .int .i64 K, .int .i64 t, .int .i64 o] 25)).get m0.next = .own [.string ⟨⟨nameL ns⟩⟩, .int .i64 K, .int .i64 t, .int .i64 o] 25 := by simp
  generalize (m0.push (.own [.string ⟨#[]⟩, .int .i64 0, .int .i64 0, .int .i64 0] 25)).set m0.next (.own [.string ⟨⟨nameL ns⟩⟩, .int .i64 K, .int .i64 t, .int .i64 o] 25) = m1 at *
  rw [← oM.1.2 _ (by omega)] at gF
  have n1 := oM.2
  have oo1 := o0.trans oM.1
  clear oM
  refine c_Make (f := ⟨⟨⟨nameL ns⟩⟩, K, t, o⟩) (oo1.part hp) ht (by show (nameL ns).length ≤ _; simp [nameL]; omega) (fun e => by rw [mA] at e; cases e) fun _ m2 i2 p2 q1 q2 q3 => ?_
  rw [← p2.2 _ (by omega)] at gF gA
  have n2 := p2.1
  have oo2 := oo1.trans p2
  have lA := pad_len mA
  clear p2
  simp -implicitDefEqProofs (disch := first | assumption | (simp only [wnA]; done) | (simp only [wnA]; omega) | omega | fail) [wkA, retV, stabOk, dC, ev, fillD, pickCells, putAt, bnd, slD, List.getElem?_cons_zero, List.getElem?_cons_succ, dR.eq_20, Mem.cell, Mem.row, wmA]
  refine c_Read' (oo2.part hp) ht hE (own_read q3 q2 lA) (fun b hb => by simp only [blk, Option.some.injEq] at hb; omega) fun m3 g3 c3 o3 y3 z3 => ?_
  have hc3 : c3 = true := by
    cases c3 with
    | true => rfl
    | false => exact ((z3 rfl).2 _ mA rfl).elim
  subst hc3
  have hsame : sameB ⟨g3.nm, g3.size, g3.time, g3.mode⟩ ⟨⟨⟨nameL ns⟩⟩, K, t, o⟩ = true := by
    have := tell_inj (y3 rfl).1 mA
    rw [← (y3 rfl).2] at this
    rw [beq_self_eq_true] at this
    exact this.symm
  rw [← o3.2 _ (by omega)] at gF gA q3
  have n3 := o3.1
  have oo3 := oo2.trans o3
  clear y3 z3 o3
  simp only [Fl.v]
  simp -implicitDefEqProofs (disch := first | assumption | (simp only [wnA]; done) | (simp only [wnA]; omega) | omega | fail) [wkA, retV, stabOk, dC, ev, fillD, pickCells, putAt, bnd, slD, List.getElem?_cons_zero, List.getElem?_cons_succ, dR.eq_20, Mem.cell, Mem.row, wmA]
  refine SK_st (i := m3.next) (o := 0) (by simp [wkA, retV, stabOk, dC, ev, fillD, pickCells, putAt, bnd, slD, List.getElem?_cons_zero, List.getElem?_cons_succ, dR.eq_20]) (e := 25) (by simp -implicitDefEqProofs (disch := first | assumption | (simp only [wnA]; done) | (simp only [wnA]; omega) | omega | fail) [Mem.cell, Mem.row, wmA]; rfl) (by simp) (by simp [wkA, retV, stabOk, dC, ev, fillD, pickCells, putAt, bnd, slD, List.getElem?_cons_zero, List.getElem?_cons_succ, dR.eq_20]) (by simp [wkA, retV, stabOk, dC, ev, fillD, pickCells, putAt, bnd, slD, List.getElem?_cons_zero, List.getElem?_cons_succ, dR.eq_20, oneC]) ?_
  simp -implicitDefEqProofs (disch := first | assumption | (simp only [wnA]; done) | (simp only [wnA]; omega) | omega | fail) [wkA, retV, stabOk, dC, ev, fillD, pickCells, putAt, bnd, slD, List.getElem?_cons_zero, List.getElem?_cons_succ, dR.eq_20, Mem.cell, Mem.row, wmA]
  have oM := alst (m := m3) (Z := [.string ⟨#[]⟩, .int .i64 0, .int .i64 0, .int .i64 0]) (V := [.string g3.nm, .int .i64 g3.size, .int .i64 g3.time, .int .i64 g3.mode]) (e := 25)
  have gR : ((m3.push (.own [.string ⟨#[]⟩, .int .i64 0, .int .i64 0, .int .i64 0] 25)).set m3.next (.own [.string g3.nm, .int .i64 g3.size, .int .i64 g3.time, .int .i64 g3.mode] 25)).get m3.next = .own [.string g3.nm, .int .i64 g3.size, .int .i64 g3.time, .int .i64 g3.mode] 25 := by simp
  generalize (m3.push (.own [.string ⟨#[]⟩, .int .i64 0, .int .i64 0, .int .i64 0] 25)).set m3.next (.own [.string g3.nm, .int .i64 g3.size, .int .i64 g3.time, .int .i64 g3.mode] 25) = m4 at *
  rw [← oM.1.2 _ (by omega)] at gF gA q3
  have n4 := oM.2
  have oo4 := oo3.trans oM.1
  clear oM
  have hb4 := bstr_own q3 lA
  simp -implicitDefEqProofs (disch := first | assumption | (simp only [wnA]; done) | (simp only [wnA]; omega) | omega | fail) [wkA, retV, stabOk, dC, ev, fillD, pickCells, putAt, bnd, slD, List.getElem?_cons_zero, List.getElem?_cons_succ, dR.eq_20, Mem.cell, Mem.row, wmA, gA, hb4]
  refine c_made (f := ⟨⟨⟨nameL ns⟩⟩, K, t, o⟩) mA fun m5 o5 => ?_
  rw [← o5.2 _ (by omega)] at gF gA q3 gR
  have n5 := o5.1
  have oo5 := oo4.trans o5
  have hb5 := bstr_own q3 lA
  clear o5
  simp -implicitDefEqProofs (disch := first | assumption | (simp only [wnA]; done) | (simp only [wnA]; omega) | omega | fail) [wkA, retV, stabOk, dC, ev, fillD, pickCells, putAt, bnd, slD, List.getElem?_cons_zero, List.getElem?_cons_succ, dR.eq_20, Mem.cell, Mem.row, wmA, gA, gR, hb5, dEq_file, hsame]
  simp -implicitDefEqProofs (disch := first | assumption | (simp only [wnA]; done) | (simp only [wnA]; omega) | omega | fail) [wkA, retV, stabOk, dC, ev, fillD, pickCells, putAt, bnd, slD, List.getElem?_cons_zero, List.getElem?_cons_succ, dR.eq_20, Mem.cell, Mem.row, wmA, rc5_0, gF]
  cases mf : mayB f with
  | false =>
    refine c_Make (f := f) (oo5.part hp) ht hf (fun _ m6 o6 => ?_) fun e => by rw [mf] at e; cases e
    rw [← o6.2 _ (by omega)] at gF
    have n6 := o6.1
    simp -implicitDefEqProofs (disch := first | assumption | (simp only [wnA]; done) | (simp only [wnA]; omega) | omega | fail) [wkA, retV, stabOk, dC, ev, fillD, pickCells, putAt, bnd, slD, List.getElem?_cons_zero, List.getElem?_cons_succ, dR.eq_20, Mem.cell, Mem.row, wmA, gF]
    refine c_May (f := f) hf fun m7 o7 => ?_
    rw [← o7.2 _ (by omega)] at gF
    have n7 := o7.1
    simp -implicitDefEqProofs (disch := first | assumption | (simp only [wnA]; done) | (simp only [wnA]; omega) | omega | fail) [wkA, retV, stabOk, dC, ev, fillD, pickCells, putAt, bnd, slD, List.getElem?_cons_zero, List.getElem?_cons_succ, dR.eq_20, Mem.cell, Mem.row, wmA, gF]
    refine c_lmay (f := f) hf fun m8 o8 => ?_
    rw [← o8.2 _ (by omega)] at gF
    rw [mf]
    simp -implicitDefEqProofs (disch := first | assumption | (simp only [wnA]; done) | (simp only [wnA]; omega) | omega | fail) [wkA, retV, stabOk, dC, ev, fillD, pickCells, putAt, bnd, slD, List.getElem?_cons_zero, List.getElem?_cons_succ, dR.eq_20, Mem.cell, Mem.row, wmA, gF]
    refine c_lmay (f := f) hf fun m9 o9 => ?_
    rw [mf]
    simp -implicitDefEqProofs (disch := first | assumption | (simp only [wnA]; done) | (simp only [wnA]; omega) | omega | fail) [wkA, retV, stabOk, dC, ev, fillD, pickCells, putAt, bnd, slD, List.getElem?_cons_zero, List.getElem?_cons_succ, dR.eq_20, Mem.cell, Mem.row, wmA]
  | true =>
    refine c_Make (f := f) (oo5.part hp) ht hf (fun e => by rw [mf] at e; cases e) fun _ m6 i6 o6 t1 t2 t3 => ?_
    rw [← o6.2 _ (by omega)] at gF
    have n6 := o6.1
    have lf := pad_len mf
    simp -implicitDefEqProofs (disch := first | assumption | (simp only [wnA]; done) | (simp only [wnA]; omega) | omega | fail) [wkA, retV, stabOk, dC, ev, fillD, pickCells, putAt, bnd, slD, List.getElem?_cons_zero, List.getElem?_cons_succ, dR.eq_20, Mem.cell, Mem.row, wmA, gF]
    refine c_May (f := f) hf fun m7 o7 => ?_
    rw [← o7.2 _ (by omega)] at gF t3
    have n7 := o7.1
    simp -implicitDefEqProofs (disch := first | assumption | (simp only [wnA]; done) | (simp only [wnA]; omega) | omega | fail) [wkA, retV, stabOk, dC, ev, fillD, pickCells, putAt, bnd, slD, List.getElem?_cons_zero, List.getElem?_cons_succ, dR.eq_20, Mem.cell, Mem.row, wmA, gF]
    refine c_lmay (f := f) hf fun m8 o8 => ?_
    rw [← o8.2 _ (by omega)] at gF t3
    have n8 := o8.1
    rw [mf]
    simp -implicitDefEqProofs (disch := first | assumption | (simp only [wnA]; done) | (simp only [wnA]; omega) | omega | fail) [wkA, retV, stabOk, dC, ev, fillD, pickCells, putAt, bnd, slD, List.getElem?_cons_zero, List.getElem?_cons_succ, dR.eq_20, Mem.cell, Mem.row, wmA, gF]
    refine c_lmay (f := f) hf fun m9 o9 => ?_
    rw [← o9.2 _ (by omega)] at gF t3
    have n9 := o9.1
    have hb9 := bstr_own t3 lf
    rw [mf]
    simp -implicitDefEqProofs (disch := first | assumption | (simp only [wnA]; done) | (simp only [wnA]; omega) | omega | fail) [wkA, retV, stabOk, dC, ev, fillD, pickCells, putAt, bnd, slD, List.getElem?_cons_zero, List.getElem?_cons_succ, dR.eq_20, Mem.cell, Mem.row, wmA, gF, hb9]
    refine c_made (f := f) mf fun m10 o10 => ?_
    rw [← o10.2 _ (by omega)] at t3
    have hb10 := bstr_own t3 lf
    simp -implicitDefEqProofs (disch := first | assumption | (simp only [wnA]; done) | (simp only [wnA]; omega) | omega | fail) [wkA, retV, stabOk, dC, ev, fillD, pickCells, putAt, bnd, slD, List.getElem?_cons_zero, List.getElem?_cons_succ, dR.eq_20, Mem.cell, Mem.row, wmA, hb10]
end Go.Proofs.YtkpjbpfemkkheaaDoor.Ab
