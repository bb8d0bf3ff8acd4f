/- Two files are told by the same data just if they are the same: the law. -/
import Derived.Test.YtkpjbpfemkkheaaDoorAbz
import Derived.Test.YtkpjbpfemkkheaaDoorAbh4
set_option linter.unusedVariables false
set_option linter.unusedSimpArgs false
namespace Go.Proofs.YtkpjbpfemkkheaaDoor.Ab
open Go Go.RowKit
set_option maxHeartbeats 4000000
set_option maxRecDepth 100000

theorem bstr_own {m : Mem} {i : Nat} {e : TypeId} {l : List UInt8} {n : Nat} (h : m.get i = .own (l.map byteV) e) (hl : l.length = n) : bstr m (.slice (some ⟨i, 0, none⟩) n 1) = some (.string ⟨⟨l⟩⟩) := by
  subst hl
  have h1 : (l.map byteV).take l.length = l.map byteV := List.take_of_length_le (by simp)
  simp only [bstr, Mem.row_own h, Nat.zero_add, List.length_map, List.drop_zero, h1]
  rw [if_pos (Nat.le_refl _)]
  simp only [bytesOf_mapN]
theorem pad_len {f : Fl} (h : mayB f = true) : (padL (tellL f)).length = 128 := by
  have := tell_len h
  unfold padL; simp; omega
theorem nums_may (ns : List UInt8) {z : Int} (h : 0 ≤ z ∧ z ≤ 8192) : mayB ⟨⟨⟨nameL ns⟩⟩, z, 0, 0⟩ = true := by
  simp [mayB, nameL_ok, h.1, h.2]

theorem dEq_file {n n' : ByteArray} {a b c a' b' c' : Int} : dEq (.recd [(0, 0, .str), (1, 0, .int), (2, 0, .int), (3, 0, .int)]) (.agg ⟨[.string n, .int .i64 a, .int .i64 b, .int .i64 c]⟩) (.agg ⟨[.string n', .int .i64 a', .int .i64 b', .int .i64 c']⟩) = some (sameB ⟨n, a, b, c⟩ ⟨n', a', b', c'⟩) := by
  rw [dEq_recd]
  simp only [dEqs, pickCells, List.drop_zero, List.drop_succ_cons, sameB]
  simp [dEqs, dEq_str, dEq_int]
  cases n.data == n'.data <;> cases a == a' <;> cases b == b' <;> cases c == c' <;> rfl

theorem l_Two {w0 : World} {m : Mem} {f g : Fl} {v1 v2 : Value} {ns ms : List UInt8} {z : Int} (hp : Part L0 m) (ht : Ten w0) (hf : f.ok) (hg : g.ok) (h1 : SlR m 1 v1 (ns.map byteV) ns.length) (b1 : ∀ b, blk v1 = some b → b < m.next) (h2 : SlR m 1 v2 (ms.map byteV) ms.length) (b2 : ∀ b, blk v2 = some b → b < m.next)
    (l1 : ns.length ≤ maxLen) (l2 : ms.length ≤ maxLen) (hz : 0 ≤ z ∧ z ≤ 65535) :
    AbC Tryd.prog w0 4 [f.v, g.v, v1, v2, .int .u16 z] m fun v _ => v = .bool true := by
  refine AbC_fn ok4 (by simp) ?_
  have hml : maxLen ≤ 9223372036854775807 := by unfold maxLen; omega
  have hfv : cellsV f.v = [.string f.nm, .int .i64 f.size, .int .i64 f.time, .int .i64 f.mode] := rfl
  have hgv : cellsV g.v = [.string g.nm, .int .i64 g.size, .int .i64 g.time, .int .i64 g.mode] := rfl
  have r1 : z.tmod 100 = z % 100 := Int.tmod_eq_emod_of_nonneg hz.1
  have r2 : z.tdiv 100 = z / 100 := Int.tdiv_eq_ediv_of_nonneg hz.1
  have r3 : IntKind.u16.wrap (z / 100) = z / 100 := IntWalk.u16_in _ (by omega)
  have r4 : (z / 100).tmod 100 = z / 100 % 100 := Int.tmod_eq_emod_of_nonneg (by omega)
  have hr0 : (100 : Int) ≠ 0 := by omega
  have hA : 0 ≤ z % 100 ∧ z % 100 ≤ 8192 := by omega
  have hB : 0 ≤ z / 100 % 100 ∧ z / 100 % 100 ≤ 8192 := by omega
  have wA : IntKind.i64.wrap (z % 100) = z % 100 := w64 (by omega)
  have wB : IntKind.i64.wrap (z / 100 % 100) = z / 100 % 100 := w64 (by omega)
  simp -implicitDefEqProofs (disch := first | assumption | (simp only [wnA]; done) | (simp only [wnA]; omega) | omega | fail) [rc4, ro4, wkA, retV, stabOk, dC, ev, fillD, pickCells, putAt, bnd, slD, List.getElem?_cons_zero, List.getElem?_cons_succ, dR.eq_20, Mem.cell, Mem.row, wmA, hfv, hgv]
  have o0 : Old m ((m.push (.own [.string f.nm, .int .i64 f.size, .int .i64 f.time, .int .i64 f.mode] 25)).push (.own [.string g.nm, .int .i64 g.size, .int .i64 g.time, .int .i64 g.mode] 25)) := ((Old.refl m).push _).push _
  refine c_awake (o0.part hp) ?_
  simp -implicitDefEqProofs (disch := first | assumption | (simp only [wnA]; done) | (simp only [wnA]; omega) | omega | fail) [rc4_1, wkA, retV, stabOk, dC, ev, fillD, pickCells, putAt, bnd, slD, List.getElem?_cons_zero, List.getElem?_cons_succ, dR.eq_20, Mem.cell, Mem.row, wmA]
  refine c_nums (h1.keep fun b hb => o0.2 b (b1 b hb)) (by omega) ?_
  simp -implicitDefEqProofs (disch := first | assumption | (simp only [wnA]; done) | (simp only [wnA]; omega) | omega | fail) [wkA, retV, stabOk, dC, ev, fillD, pickCells, putAt, bnd, slD, List.getElem?_cons_zero, List.getElem?_cons_succ, dR.eq_20, Mem.cell, Mem.row, wmA, dBin_rem, dBin_quo, r1, r2, r3, r4, wA, wB, hr0]
  refine c_nums (h2.keep fun b hb => o0.2 b (b2 b hb)) (by omega) ?_
  simp -implicitDefEqProofs (disch := first | assumption | (simp only [wnA]; done) | (simp only [wnA]; omega) | omega | fail) [wkA, retV, stabOk, dC, ev, fillD, pickCells, putAt, bnd, slD, List.getElem?_cons_zero, List.getElem?_cons_succ, dR.eq_20, Mem.cell, Mem.row, wmA, dBin_rem, dBin_quo, r1, r2, r3, r4, wA, wB, hr0]
  refine SK_st (i := m.next + 2) (o := 0) (by simp [wkA, retV, stabOk, dC, ev, fillD, pickCells, putAt, bnd, slD, List.getElem?_cons_zero, List.getElem?_cons_succ, dR.eq_20]) (e := 25) (by simp -implicitDefEqProofs (disch := first | assumption | (simp only [wnA]; done) | (simp only [wnA]; omega) | omega | fail) [Mem.cell, Mem.row, wmA]; rfl) (by simp) (by simp [wkA, retV, stabOk, dC, ev, fillD, pickCells, putAt, bnd, slD, List.getElem?_cons_zero, List.getElem?_cons_succ, dR.eq_20]) (by simp [wkA, retV, stabOk, dC, ev, fillD, pickCells, putAt, bnd, slD, List.getElem?_cons_zero, List.getElem?_cons_succ, dR.eq_20, oneC]) ?_
  simp -implicitDefEqProofs (disch := first | assumption | (simp only [wnA]; done) | (simp only [wnA]; omega) | omega | fail) [wkA, retV, stabOk, dC, ev, fillD, pickCells, putAt, bnd, slD, List.getElem?_cons_zero, List.getElem?_cons_succ, dR.eq_20, Mem.cell, Mem.row, wmA]
  refine SK_st (i := m.next + 3) (o := 0) (by simp [wkA, retV, stabOk, dC, ev, fillD, pickCells, putAt, bnd, slD, List.getElem?_cons_zero, List.getElem?_cons_succ, dR.eq_20]) (e := 25) (by simp -implicitDefEqProofs (disch := first | assumption | (simp only [wnA]; done) | (simp only [wnA]; omega) | omega | fail) [Mem.cell, Mem.row, wmA]; rfl) (by simp) (by simp [wkA, retV, stabOk, dC, ev, fillD, pickCells, putAt, bnd, slD, List.getElem?_cons_zero, List.getElem?_cons_succ, dR.eq_20]) (by simp [wkA, retV, stabOk, dC, ev, fillD, pickCells, putAt, bnd, slD, List.getElem?_cons_zero, List.getElem?_cons_succ, dR.eq_20, oneC]) ?_
  simp -implicitDefEqProofs (disch := first | assumption | (simp only [wnA]; done) | (simp only [wnA]; omega) | omega | fail) [wkA, retV, stabOk, dC, ev, fillD, pickCells, putAt, bnd, slD, List.getElem?_cons_zero, List.getElem?_cons_succ, dR.eq_20, Mem.cell, Mem.row, wmA]
  have mA := nums_may ns hA
  have mB := nums_may ms hB
  have okA : (Fl.mk ⟨⟨nameL ns⟩⟩ (z % 100) 0 0).ok := by show (nameL ns).length ≤ _; simp [nameL]; omega
  have okB : (Fl.mk ⟨⟨nameL ms⟩⟩ (z / 100 % 100) 0 0).ok := by show (nameL ms).length ≤ _; simp [nameL]; omega
  refine c_Make (f := ⟨⟨⟨nameL ns⟩⟩, z % 100, 0, 0⟩) ((((((o0.push _).push _).set (by omega) _).set (by omega) _)).part hp) ht okA (fun e => by rw [mA] at e; cases e) fun _ m1 i1 p1 q1 q2 q3 => ?_
  have n1 := p1.1
  simp only [Mem.set_nxt, Mem.push_nxt] at n1 q1
  have gF : m1.get m.next = .own [.string f.nm, .int .i64 f.size, .int .i64 f.time, .int .i64 f.mode] 25 := by rw [p1.2 _ (by simp only [Mem.set_nxt, Mem.push_nxt]; omega)]; simp -implicitDefEqProofs (disch := first | assumption | (simp only [wnA]; done) | (simp only [wnA]; omega) | omega | fail) [Mem.cell, Mem.row, wmA]
  have gG : m1.get (m.next + 1) = .own [.string g.nm, .int .i64 g.size, .int .i64 g.time, .int .i64 g.mode] 25 := by rw [p1.2 _ (by simp only [Mem.set_nxt, Mem.push_nxt]; omega)]; simp -implicitDefEqProofs (disch := first | assumption | (simp only [wnA]; done) | (simp only [wnA]; omega) | omega | fail) [Mem.cell, Mem.row, wmA]
  have gA : m1.get (m.next + 2) = .own [.string ⟨⟨nameL ns⟩⟩, .int .i64 (z % 100), .int .i64 0, .int .i64 0] 25 := by rw [p1.2 _ (by simp only [Mem.set_nxt, Mem.push_nxt]; omega)]; simp -implicitDefEqProofs (disch := first | assumption | (simp only [wnA]; done) | (simp only [wnA]; omega) | omega | fail) [Mem.cell, Mem.row, wmA]
  have gB : m1.get (m.next + 3) = .own [.string ⟨⟨nameL ms⟩⟩, .int .i64 (z / 100 % 100), .int .i64 0, .int .i64 0] 25 := by rw [p1.2 _ (by simp only [Mem.set_nxt, Mem.push_nxt]; omega)]; simp -implicitDefEqProofs (disch := first | assumption | (simp only [wnA]; done) | (simp only [wnA]; omega) | omega | fail) [Mem.cell, Mem.row, wmA]
  have oo1 : Old m m1 := Old.trans ((((o0.push _).push _).set (by omega) _).set (by omega) _) p1
  clear p1
  simp -implicitDefEqProofs (disch := first | assumption | (simp only [wnA]; done) | (simp only [wnA]; omega) | omega | fail) [wkA, retV, stabOk, dC, ev, fillD, pickCells, putAt, bnd, slD, List.getElem?_cons_zero, List.getElem?_cons_succ, dR.eq_20, Mem.cell, Mem.row, wmA, gB]
  refine c_Make (f := ⟨⟨⟨nameL ms⟩⟩, z / 100 % 100, 0, 0⟩) (oo1.part hp) ht okB (fun e => by rw [mB] at e; cases e) fun _ m2 i2 p2 s1 s2 s3 => ?_
  have n2 := p2.1
  rw [← p2.2 _ (by omega)] at gF gG gA gB q3
  have oo2 : Old m m2 := oo1.trans p2
  clear p2
  have hbA := bstr_own q3 (pad_len mA)
  have hbB := bstr_own s3 (pad_len mB)
  have hin := tell_inj mA mB
  simp -implicitDefEqProofs (disch := first | assumption | (simp only [wnA]; done) | (simp only [wnA]; omega) | omega | fail) [wkA, retV, stabOk, dC, ev, fillD, pickCells, putAt, bnd, slD, List.getElem?_cons_zero, List.getElem?_cons_succ, dR.eq_20, Mem.cell, Mem.row, wmA, gA, gB, hbA, hbB, dEq_file, hin]
  simp -implicitDefEqProofs (disch := first | assumption | (simp only [wnA]; done) | (simp only [wnA]; omega) | omega | fail) [rc4_0, wkA, retV, stabOk, dC, ev, fillD, pickCells, putAt, bnd, slD, List.getElem?_cons_zero, List.getElem?_cons_succ, dR.eq_20, Mem.cell, Mem.row, wmA, gF]
  cases mf : mayB f with
  | false =>
    refine c_Make (f := f) (oo2.part hp) ht hf (fun _ m3 p3 => ?_) (fun e => by rw [mf] at e; cases e)
    have n3 := p3.1
    rw [← p3.2 _ (by omega)] at gG
    have oo3 : Old m m3 := oo2.trans p3
    simp -implicitDefEqProofs (disch := first | assumption | (simp only [wnA]; done) | (simp only [wnA]; omega) | omega | fail) [wkA, retV, stabOk, dC, ev, fillD, pickCells, putAt, bnd, slD, List.getElem?_cons_zero, List.getElem?_cons_succ, dR.eq_20, Mem.cell, Mem.row, wmA, gG]
    refine c_Make (f := g) (oo3.part hp) ht hg (fun _ m4 p4 => ?_) (fun _ m4 _ p4 _ _ _ => ?_)
    · simp -implicitDefEqProofs (disch := first | assumption | (simp only [wnA]; done) | (simp only [wnA]; omega) | omega | fail) [wkA, retV, stabOk, dC, ev, fillD, pickCells, putAt, bnd, slD, List.getElem?_cons_zero, List.getElem?_cons_succ, dR.eq_20, Mem.cell, Mem.row, wmA]
    · simp -implicitDefEqProofs (disch := first | assumption | (simp only [wnA]; done) | (simp only [wnA]; omega) | omega | fail) [wkA, retV, stabOk, dC, ev, fillD, pickCells, putAt, bnd, slD, List.getElem?_cons_zero, List.getElem?_cons_succ, dR.eq_20, Mem.cell, Mem.row, wmA]
  | true =>
    refine c_Make (f := f) (oo2.part hp) ht hf (fun e => by rw [mf] at e; cases e) fun _ m3 i3 p3 t1 t2 t3 => ?_
    have n3 := p3.1
    rw [← p3.2 _ (by omega)] at gG gF
    have oo3 : Old m m3 := oo2.trans p3
    simp -implicitDefEqProofs (disch := first | assumption | (simp only [wnA]; done) | (simp only [wnA]; omega) | omega | fail) [wkA, retV, stabOk, dC, ev, fillD, pickCells, putAt, bnd, slD, List.getElem?_cons_zero, List.getElem?_cons_succ, dR.eq_20, Mem.cell, Mem.row, wmA, gG]
    cases mg : mayB g with
    | false =>
      refine c_Make (f := g) (oo3.part hp) ht hg (fun _ m4 p4 => ?_) (fun e => by rw [mg] at e; cases e)
      simp -implicitDefEqProofs (disch := first | assumption | (simp only [wnA]; done) | (simp only [wnA]; omega) | omega | fail) [wkA, retV, stabOk, dC, ev, fillD, pickCells, putAt, bnd, slD, List.getElem?_cons_zero, List.getElem?_cons_succ, dR.eq_20, Mem.cell, Mem.row, wmA]
    | true =>
      refine c_Make (f := g) (oo3.part hp) ht hg (fun e => by rw [mg] at e; cases e) fun _ m4 i4 p4 u1 u2 u3 => ?_
      have n4 := p4.1
      rw [← p4.2 _ (by omega)] at gG gF t3
      have hbF := bstr_own t3 (pad_len mf)
      have hbG := bstr_own u3 (pad_len mg)
      have hi2 := tell_inj mf mg
      simp -implicitDefEqProofs (disch := first | assumption | (simp only [wnA]; done) | (simp only [wnA]; omega) | omega | fail) [wkA, retV, stabOk, dC, ev, fillD, pickCells, putAt, bnd, slD, List.getElem?_cons_zero, List.getElem?_cons_succ, dR.eq_20, Mem.cell, Mem.row, wmA, gF, gG, hbF, hbG, dEq_file, hi2]

def fileShp : Shp := .recd [.str, .int .i64, .int .i64, .int .i64]
theorem absT_file {m : Mem} {td : TD} {cs : List Value} (h : AbsT m td cs) (hf : Fits fileShp td) : ∃ f : Fl, Value.agg ⟨cs⟩ = f.v ∧ f.ok := by
  obtain ⟨l0, rfl, k, f⟩ := absT_recd h hf
  obtain ⟨d1, r1, c1, e1, rfl, rfl, h1, g1, k, f⟩ := absTs_cons k f
  obtain ⟨d2, r2, c2, e2, rfl, rfl, h2, g2, k, f⟩ := absTs_cons k f
  obtain ⟨d3, r3, c3, e3, rfl, rfl, h3, g3, k, f⟩ := absTs_cons k f
  obtain ⟨d4, r4, c4, e4, rfl, rfl, h4, g4, k, f⟩ := absTs_cons k f
  obtain ⟨rfl, rfl⟩ := absTs_nil k f
  obtain ⟨nm, rfl, rfl, w1⟩ := absT_str h1 g1
  obtain ⟨a, rfl, rfl, w2⟩ := absT_int h2 g2
  obtain ⟨s, rfl, rfl, w3⟩ := absT_int h3 g3
  obtain ⟨p, rfl, rfl, w4⟩ := absT_int h4 g4
  exact ⟨⟨nm, a, s, p⟩, rfl, by show nm.size ≤ _; unfold maxLen at w1; omega⟩
end Go.Proofs.YtkpjbpfemkkheaaDoor.Ab
