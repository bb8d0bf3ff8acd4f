/- The law TargetSafe, as its statement says it: what it reads is of the bulk that the statement names; the listed variables hold what the program's text lays. -/
import Derived.Test.YtiapjjgmmiifmaaGreatDoorKTs4
import Derived.Lib.ItoaMem
import Derived.KernelRfl
import Derived.Test.YtiapjjgmmiifmaaGreatDoorCards
import Derived.Test.YtiapjjgmmiifmaaGreatDoorTie
import Derived.WalkKit
import Derived.ProofKit
import Derived.OpenShut
import Derived.JoinedCond
import Derived.ChangeOld
import Derived.Deep.DeepHandedRow
import Derived.Deep.DeepWitnessRowRef
set_option linter.unusedVariables false
set_option linter.unusedSimpArgs false
namespace Go.Proofs.YtiapjjgmmiifmaaGreatDoor.Ab
open Go Go.RowKit
set_option maxHeartbeats 4000000
set_option maxRecDepth 100000
def prStep (r : Nat × Nat) (c : UInt8) : Nat × Nat := ((r.1 + c.toNat) % 65521, (r.2 + (r.1 + c.toNat) % 65521 + 1) % 65521)
def prL (l : List UInt8) : Nat × Nat := l.foldl prStep (0, 0)
def prN (l : List UInt8) : Nat := Nat.lor ((prL l).2 * 65536) (prL l).1
theorem prL_take {l : List UInt8} {j : Nat} (hj : j < l.length) : prL (l.take (j + 1)) = prStep (prL (l.take j)) l[j] := by
  unfold prL
  rw [List.take_add_one, List.getElem?_eq_getElem hj, List.foldl_append]; rfl
theorem prS_lt : ∀ (l : List UInt8) (r : Nat × Nat), r.1 < 65521 → r.2 < 65521 → (l.foldl prStep r).1 < 65521 ∧ (l.foldl prStep r).2 < 65521
  | [], r, h, k => ⟨h, k⟩
  | c :: l, r, h, k => prS_lt l (prStep r c) (Nat.mod_lt _ (by omega)) (Nat.mod_lt _ (by omega))
theorem prL_lt (l : List UInt8) : (prL l).1 < 65521 ∧ (prL l).2 < 65521 := prS_lt l (0, 0) (by omega) (by omega)
theorem prN_lt (l : List UInt8) : prN l < 4294967296 := by
  have h := prL_lt l
  exact Nat.or_lt_two_pow (n := 32) (by omega) (by omega)
theorem w32 {z : Nat} (h : z < 4294967296) : IntKind.u32.wrap (z : Int) = (z : Int) := by
  simp only [IntKind.wrap, IntKind.bits, IntKind.signed]
  simp
  omega
theorem rem32 {z : Nat} : dBin .rem (.int .u32 (z : Int)) (.int .u32 65521) = some (.int .u32 ((z % 65521 : Nat) : Int)) := by
  rw [dBin_rem (by omega), Int.tmod_eq_emod_of_nonneg (by omega)]; rfl
theorem c_prW {w0 : World} {V : Nat → Prop} {m : Mem} {ip : Nat} {v : Value} {b : List UInt8} {Q : Value → Mem → Prop} (h : Sep m V m [(some ip, .own [.int .u32 0, .int .u32 0] 81)]) (hr : RdV V m 1 v (b.map byteV) b.length) (hb : b.length ≤ 9223372036854775806)
    (hq : ∀ M, Sep m V M [(some ip, .own [.int .u32 ((prL b).1 : Nat), .int .u32 ((prL b).2 : Nat)] 81)] → Q (.tuple ⟨[]⟩) M) :
    AbC Tryz.prog w0 32 [.pointer (some ⟨ip, 0, none⟩), v] m Q := by
  refine AbC_fn ok32 (by simp) ?_
  have hsl := hr.sl.slen
  simp -implicitDefEqProofs (disch := first | assumption | omega | fail) [rc32, ro32, wkB, retV, stabOk, dC, ev, fillD, pickCells, putAt, bnd, slD, List.getElem?_cons_zero, List.getElem?_cons_succ, Mem.cell, Mem.row, cells_own, cells_ro, hsl]
  refine LoopW_of (fun k ts m' => ∃ j, j + k = b.length ∧ Sep m V m' [(some ip, .own [.int .u32 ((prL (b.take j)).1 : Nat), .int .u32 ((prL (b.take j)).2 : Nat)] 81)] ∧ ts 0 = .pointer (some ⟨ip, 0, none⟩) ∧ ts 6 = v ∧ ts 7 = .int .i64 (b.length : Nat) ∧ ts 8 = .int .i64 (j : Nat)) b.length ?_ ?_
  · exact ⟨0, by omega, by simpa [prL] using h, by simp [frA_at], by simp [frA_at], by simp, by simp⟩
  · rintro k ts m1 K ⟨j, hj, h1, t0, t6, t7, t8⟩ hK
    by_cases hjl : j < b.length
    · have hj8 : (j : Int) < (b.length : Nat) := by omega
      obtain ⟨i, o, L, e1, e2, e3, e4, e5, e6⟩ := (hr.sep h1).ex (by omega)
      have hc : L[o + j]? = some (byteV (b.getD j 0)) := (e4 j hjl).trans (byte_at hjl)
      simp only [byteV] at hc
      have hidx : sidx 1 v (.int .i64 (j : Int)) = some (.pointer (some ⟨i, o + j, none⟩)) := by rw [e1]; simpa using sidx_at (b := i) (o := o) (n := b.length) (c := 1) (j := j) (sz := 1) (k := .i64) hjl
      have w1 : IntKind.i64.wrap ((j : Int) + 1) = (j : Int) + 1 := w64 (by omega)
      have htk := prL_take hjl
      have hlt := prL_lt (b.take j)
      have hgd : b[j] = b.getD j 0 := by rw [List.getD_eq_getElem?_getD, List.getElem?_eq_getElem hjl]; rfl
      rw [hgd] at htk
      generalize b.getD j 0 = c at *
      have hcl := c.toNat_lt
      have g1 := h1.get 0 rfl
      generalize hP : prL (b.take j) = P at *
      obtain ⟨p, q⟩ := P
      simp only [prStep] at htk hlt g1 h1
      have wc : IntKind.u32.wrap (c.toNat : Int) = (c.toNat : Int) := w32 (by omega)
      obtain ⟨z, hz⟩ : ∃ z, p + c.toNat = z := ⟨_, rfl⟩
      have wp : IntKind.u32.wrap ((p : Int) + (c.toNat : Int)) = (z : Int) := by have := w32 (z := z) (by omega); rw [← this, ← hz]; simp
      have r1 := rem32 (z := z)
      rw [hz] at htk
      obtain ⟨p', hp'⟩ : ∃ p', z % 65521 = p' := ⟨_, rfl⟩
      rw [hp'] at r1 htk
      have hp2 : p' < 65521 := by rw [← hp']; exact Nat.mod_lt _ (by omega)
      obtain ⟨y, hy⟩ : ∃ y, q + p' = y := ⟨_, rfl⟩
      obtain ⟨y1, hy1⟩ : ∃ y1, y + 1 = y1 := ⟨_, rfl⟩
      have wq : IntKind.u32.wrap ((q : Int) + (p' : Int)) = (y : Int) := by have := w32 (z := y) (by omega); rw [← this, ← hy]; simp
      have wy : IntKind.u32.wrap ((y : Int) + 1) = (y1 : Int) := by have := w32 (z := y1) (by omega); rw [← this, ← hy1]; simp
      have r2 := rem32 (z := y1)
      rw [hy, hy1] at htk
      obtain ⟨q', hq'⟩ : ∃ q', y1 % 65521 = q' := ⟨_, rfl⟩
      rw [hq'] at r2 htk
      simp -implicitDefEqProofs (disch := first | assumption | omega | fail) [rc32_1, rc32_0, wkB, retV, stabOk, dC, ev, fillD, pickCells, putAt, bnd, slD, List.getElem?_cons_zero, List.getElem?_cons_succ, Mem.cell, Mem.row, cells_own, cells_ro, t0, t6, t7, t8, hj8, hidx, e2, hc, getL1 hc, g1, wc, wp, r1]
      refine SK_stS h1 0 rfl (o := 0) (vs := [.int .u32 (p' : Nat)]) (cs' := [.int .u32 (p' : Nat), .int .u32 (q : Nat)]) (by simp [wkB, retV, stabOk, dC, ev, fillD, pickCells, putAt, bnd, slD, List.getElem?_cons_zero, List.getElem?_cons_succ, Mem.cell, Mem.row, cells_own, cells_ro]) (by simp [wkB, retV, stabOk, dC, ev, fillD, pickCells, putAt, bnd, slD, List.getElem?_cons_zero, List.getElem?_cons_succ, Mem.cell, Mem.row, cells_own, cells_ro]) (by simp) rfl rfl rfl fun m2 h2 n2 => ?_
      have g2 := h2.get 0 rfl
      simp -implicitDefEqProofs (disch := first | assumption | omega | fail) [wkB, retV, stabOk, dC, ev, fillD, pickCells, putAt, bnd, slD, List.getElem?_cons_zero, List.getElem?_cons_succ, Mem.cell, Mem.row, cells_own, cells_ro, t0, g2, wq, wy, r2]
      refine SK_stS h2 0 rfl (o := 1) (vs := [.int .u32 (q' : Nat)]) (cs' := [.int .u32 (p' : Nat), .int .u32 (q' : Nat)]) (by simp [wkB, retV, stabOk, dC, ev, fillD, pickCells, putAt, bnd, slD, List.getElem?_cons_zero, List.getElem?_cons_succ, Mem.cell, Mem.row, cells_own, cells_ro]) (by simp [wkB, retV, stabOk, dC, ev, fillD, pickCells, putAt, bnd, slD, List.getElem?_cons_zero, List.getElem?_cons_succ, Mem.cell, Mem.row, cells_own, cells_ro]) (by simp) rfl rfl rfl fun m3 h3 n3 => ?_
      simp -implicitDefEqProofs (disch := first | assumption | omega | fail) [wkB, retV, stabOk, dC, ev, fillD, pickCells, putAt, bnd, slD, List.getElem?_cons_zero, List.getElem?_cons_succ, Mem.cell, Mem.row, cells_own, cells_ro, t8, w1]
      refine hK (k - 1) _ _ (by omega) ⟨j + 1, by omega, by rw [htk]; exact h3, by simp [t0], by simp [t6], by simp [t7], by simp⟩
    · have hjj : j = b.length := by omega
      subst hjj
      have hj8 : ¬ ((b.length : Nat) : Int) < (b.length : Nat) := by omega
      rw [List.take_length] at h1
      simp -implicitDefEqProofs (disch := first | assumption | omega | fail) [rc32_1, wkB, retV, stabOk, dC, ev, fillD, pickCells, putAt, bnd, slD, List.getElem?_cons_zero, List.getElem?_cons_succ, Mem.cell, Mem.row, cells_own, cells_ro, t7, t8, hj8]
      exact hq m1 h1
theorem c_Print {w0 : World} {X : Nat → Prop} {m : Mem} {v : Value} {b : List UInt8} {Q : Value → Mem → Prop} (hp : Part L0 m) (hr : RdV X m 1 v (b.map byteV) b.length) (hb : b.length ≤ 9223372036854775806)
    (hq : ∀ M, Old m M → Q (.int .u32 (prN b : Nat)) M) : AbC Tryz.prog w0 16 [v] m Q := by
  refine AbC_fn ok16 (by simp) ?_
  simp -implicitDefEqProofs (disch := first | assumption | omega | fail) [rc16, ro16, wkB, retV, stabOk, dC, ev, fillD, pickCells, putAt, bnd, slD, List.getElem?_cons_zero, List.getElem?_cons_succ, Mem.cell, Mem.row, cells_own, cells_ro]
  refine SK_bxS (Sep.ofOld hp) (cs := [.int .u32 0, .int .u32 0]) (by simp [wkB, retV, stabOk, dC, ev, fillD, pickCells, putAt, bnd, slD, List.getElem?_cons_zero, List.getElem?_cons_succ, Mem.cell, Mem.row, cells_own, cells_ro]) fun ip m1 h1 _ _ => ?_
  simp -implicitDefEqProofs (disch := first | assumption | omega | fail) [wkB, retV, stabOk, dC, ev, fillD, pickCells, putAt, bnd, slD, List.getElem?_cons_zero, List.getElem?_cons_succ, Mem.cell, Mem.row, cells_own, cells_ro]
  refine c_prW h1.self (hr.o.sep h1) hb fun m2 h2 => ?_
  have g2 := h2.get 0 rfl
  simp -implicitDefEqProofs (disch := first | assumption | omega | fail) [wkB, retV, stabOk, dC, ev, fillD, pickCells, putAt, bnd, slD, List.getElem?_cons_zero, List.getElem?_cons_succ, Mem.cell, Mem.row, cells_own, cells_ro]
  refine AbC.mono (Q := fun v M => v = .int .u32 (prN b : Nat) ∧ M = m2) ?_ fun v M ⟨e1, e2⟩ => by subst e1 e2; simp -implicitDefEqProofs (disch := first | assumption | omega | fail) [wkB, retV, stabOk, dC, ev, fillD, pickCells, putAt, bnd, slD, List.getElem?_cons_zero, List.getElem?_cons_succ, Mem.cell, Mem.row, cells_own, cells_ro]; exact hq M (h1.tr h2).toOld
  refine AbC_fn ok33 (by simp) ?_
  have hlt := prL_lt b
  unfold prN
  clear h2
  generalize prL b = P at *
  obtain ⟨p, q⟩ := P
  simp only at hlt g2 ⊢
  have s1 : dBin .shl (.int .u32 (q : Int)) (.int .u64 16) = some (.int .u32 ((q * 65536 : Nat) : Int)) := by
    have := w32 (z := q * 65536) (by omega)
    simp [dBin, IntKind.bits]
    simpa using this
  have s2 : dBin .or (.int .u32 ((q * 65536 : Nat) : Int)) (.int .u32 (p : Int)) = some (.int .u32 ((Nat.lor (q * 65536) p : Nat) : Int)) := by
    have h := binI_eq (op := .or) (k := .u32) (a := Int.ofNat (q * 65536)) (b := Int.ofNat p) (v := .int .u32 (IntKind.u32.wrap (Int.ofNat (Nat.lor (q * 65536) p)))) (by
      simp only [binI, bitI]
      rw [blt_true.2 (show q * 65536 < kTop .u32 by simp [kTop]; omega), blt_true.2 (show p < kTop .u32 by simp [kTop]; omega)]
      simp only [wrapF_eq])
    have w : IntKind.u32.wrap (Int.ofNat (Nat.lor (q * 65536) p)) = ((Nat.lor (q * 65536) p : Nat) : Int) := w32 (Nat.or_lt_two_pow (n := 32) (by omega) (by omega))
    rw [w] at h
    exact h
  generalize Nat.lor (q * 65536) p = r at *
  generalize q * 65536 = q1 at *
  simp -implicitDefEqProofs (disch := first | assumption | omega | fail) [rc33, ro33, wkB, retV, stabOk, dC, ev, fillD, pickCells, putAt, bnd, slD, List.getElem?_cons_zero, List.getElem?_cons_succ, Mem.cell, Mem.row, cells_own, cells_ro, g2, s1, s2]
def fitsF (a n : Int) : Bool := decide (0 ≤ a ∧ 0 ≤ n ∧ a ≤ 16384 ∧ n ≤ 16384 - a)
theorem c_fits {w0 : World} {m : Mem} {a n : Int} {Q : Value → Mem → Prop} (hq : Q (.bool (fitsF a n)) m) : AbC Tryz.prog w0 28 [.int .i64 a, .int .i64 n] m Q := by
  refine AbC_fn ok28 (by simp) ?_
  unfold fitsF at hq
  by_cases h1 : 0 ≤ a
  · by_cases h2 : 0 ≤ n
    · by_cases h3 : a ≤ 16384
      · have w1 : IntKind.i64.wrap (16384 - a) = 16384 - a := w64 (by omega)
        simp -implicitDefEqProofs (disch := first | assumption | omega | fail) [rc28, ro28, wkB, retV, stabOk, dC, ev, fillD, pickCells, putAt, bnd, slD, List.getElem?_cons_zero, List.getElem?_cons_succ, Mem.cell, Mem.row, cells_own, cells_ro, h1, h2, h3, w1]
        simpa [h1, h2, h3] using hq
      · simp -implicitDefEqProofs (disch := first | assumption | omega | fail) [rc28, ro28, wkB, retV, stabOk, dC, ev, fillD, pickCells, putAt, bnd, slD, List.getElem?_cons_zero, List.getElem?_cons_succ, Mem.cell, Mem.row, cells_own, cells_ro, h1, h2, h3]
        simpa [h1, h2, h3] using hq
    · simp -implicitDefEqProofs (disch := first | assumption | omega | fail) [rc28, ro28, wkB, retV, stabOk, dC, ev, fillD, pickCells, putAt, bnd, slD, List.getElem?_cons_zero, List.getElem?_cons_succ, Mem.cell, Mem.row, cells_own, cells_ro, h1, h2]
      simpa [h1, h2] using hq
  · simp -implicitDefEqProofs (disch := first | assumption | omega | fail) [rc28, ro28, wkB, retV, stabOk, dC, ev, fillD, pickCells, putAt, bnd, slD, List.getElem?_cons_zero, List.getElem?_cons_succ, Mem.cell, Mem.row, cells_own, cells_ro, h1]
    simpa [h1] using hq
def stH (sp : Nat) (s : List UInt8) : Option Nat × Ent := (some sp, .own (s.map byteV) 75)
def wrF (s : List UInt8) (a : Nat) (b : List UInt8) : List UInt8 := s.take a ++ b ++ s.drop (a + b.length)
theorem wrF_len {s b : List UInt8} {a : Nat} (h : a + b.length ≤ s.length) : (wrF s a b).length = s.length := by
  simp [wrF]; omega
/-- The bytes of a memory from a on, n of them: where they are read. -/
theorem st_part {V : Nat → Prop} {m0 m : Mem} {l : HL} {sp : Nat} {s : List UInt8} (h : Sep m0 V m l) (q : Nat) (hl : l[q]? = some (stH sp s)) (hs : s.length = 16384) {a n : Nat} (han : a + n ≤ 16384) :
    ∃ v, slaW m 16384 1 (.pointer (some ⟨sp, 0, none⟩)) (some (.int .i64 (a : Nat))) (some (.int .i64 ((a + n : Nat) : Int))) = some v ∧ RdV (fun i => i < m.next) m 1 v (((s.drop a).take n).map byteV) n := by
  have g := h.get q hl
  have hR : SlR m 1 (.slice (some ⟨sp, 0, none⟩) 16384 1) (s.map byteV) 16384 := ⟨by simp [hs], .inr ⟨sp, 0, s.map byteV, rfl, by rw [g]; rfl, by simp [hs], by rw [Nat.mul_one, List.drop_zero, List.take_of_length_le (by simp [hs])]⟩⟩
  obtain ⟨v, h1, h2, h3⟩ := hR.btw (a := a) (b := a + n) (by omega) han
  rw [← List.map_drop, ← List.map_take, show a + n - a = n by omega] at h2
  refine ⟨v, ?_, h2, fun b hb => ?_⟩
  · simp only [slaW, g]
    rw [if_pos (by simp [hs])]
    exact h1
  · have := h3 b hb
    cases this
    exact ⟨h.lt q hl, h.lt q hl⟩
theorem c_sPrint {w0 : World} {V : Nat → Prop} {m0 m : Mem} {l : HL} {sp : Nat} {s : List UInt8} {a n : Int} {Q : Value → Mem → Prop} (h : Sep m0 V m l) (q : Nat) (hl : l[q]? = some (stH sp s)) (hs : s.length = 16384)
    (hq : fitsF a n = true → ∀ M, Sep m0 V M l → Q (.tuple ⟨[.int .u32 (prN ((s.drop a.toNat).take n.toNat) : Nat), .bool true]⟩) M)
    (hz : fitsF a n = false → Q (.tuple ⟨[.int .u32 0, .bool false]⟩) m) : AbC Tryz.prog w0 65 [.pointer (some ⟨sp, 0, none⟩), .int .i64 a, .int .i64 n] m Q := by
  refine AbC_fn ok65 (by simp) ?_
  simp -implicitDefEqProofs (disch := first | assumption | omega | fail) [rc65, ro65, wkB, retV, stabOk, dC, ev, fillD, pickCells, putAt, bnd, slD, List.getElem?_cons_zero, List.getElem?_cons_succ, Mem.cell, Mem.row, cells_own, cells_ro]
  refine c_fits ?_
  cases hf : fitsF a n with
  | false =>
    simp -implicitDefEqProofs (disch := first | assumption | omega | fail) [wkB, retV, stabOk, dC, ev, fillD, pickCells, putAt, bnd, slD, List.getElem?_cons_zero, List.getElem?_cons_succ, Mem.cell, Mem.row, cells_own, cells_ro]
    exact hz hf
  | true =>
    have hf2 := hf
    simp only [fitsF, decide_eq_true_eq] at hf2
    obtain ⟨a, rfl⟩ : ∃ k : Nat, a = (k : Int) := ⟨a.toNat, by omega⟩
    obtain ⟨n, rfl⟩ : ∃ k : Nat, n = (k : Int) := ⟨n.toNat, by omega⟩
    obtain ⟨v, hv, hr⟩ := st_part h q hl hs (a := a) (n := n) (by omega)
    have w1 : IntKind.i64.wrap ((a : Int) + (n : Int)) = ((a + n : Nat) : Int) := by rw [w64 (by omega)]; omega
    generalize hz : a + n = z at *
    have hq := hq hf
    simp only [Int.toNat_natCast] at hq
    have hlen : ((s.drop a).take n).length = n := by simp [hs]; omega
    simp -implicitDefEqProofs (disch := first | assumption | omega | fail) [wkB, retV, stabOk, dC, ev, fillD, pickCells, putAt, bnd, slD, List.getElem?_cons_zero, List.getElem?_cons_succ, Mem.cell, Mem.row, cells_own, cells_ro, rc65_0, w1, hv]
    refine c_Print h.pt (b := (s.drop a).take n) (by rw [hlen]; exact hr) (by omega) fun M o => ?_
    simp -implicitDefEqProofs (disch := first | assumption | omega | fail) [wkB, retV, stabOk, dC, ev, fillD, pickCells, putAt, bnd, slD, List.getElem?_cons_zero, List.getElem?_cons_succ, Mem.cell, Mem.row, cells_own, cells_ro]
    exact hq M (h.old o)
theorem c_sWrite {w0 : World} {V X : Nat → Prop} {m0 m : Mem} {l : HL} {sp : Nat} {s b : List UInt8} {v : Value} {a : Int} {Q : Value → Mem → Prop} (h : Sep m0 V m l) (q : Nat) (hl : l[q]? = some (stH sp s)) (hs : s.length = 16384) (hr : RdV X m 1 v (b.map byteV) b.length)
    (hq : fitsF a b.length = true → ∀ M, Sep m0 V M (l.set q (stH sp (wrF s a.toNat b))) → Q (.bool true) M)
    (hz : fitsF a b.length = false → Q (.bool false) m) : AbC Tryz.prog w0 11 [.pointer (some ⟨sp, 0, none⟩), .int .i64 a, v] m Q := by
  refine AbC_fn ok11 (by simp) ?_
  have hsl := hr.sl.slen
  simp -implicitDefEqProofs (disch := first | assumption | omega | fail) [rc11, ro11, wkB, retV, stabOk, dC, ev, fillD, pickCells, putAt, bnd, slD, List.getElem?_cons_zero, List.getElem?_cons_succ, Mem.cell, Mem.row, cells_own, cells_ro, hsl]
  refine c_fits ?_
  cases hf : fitsF a b.length with
  | false =>
    simp -implicitDefEqProofs (disch := first | assumption | omega | fail) [wkB, retV, stabOk, dC, ev, fillD, pickCells, putAt, bnd, slD, List.getElem?_cons_zero, List.getElem?_cons_succ, Mem.cell, Mem.row, cells_own, cells_ro]
    exact hz hf
  | true =>
    have hf2 := hf
    simp only [fitsF, decide_eq_true_eq] at hf2
    obtain ⟨a, rfl⟩ : ∃ k : Nat, a = (k : Int) := ⟨a.toNat, by omega⟩
    have hq := hq hf
    simp only [Int.toNat_natCast] at hq
    have g := h.get q hl
    have sw : ∀ w, slW 1 (.slice (some ⟨sp, 0, none⟩) 16384 1) (some (.int .i64 (a : Nat))) none = some w → slaW m 16384 1 (.pointer (some ⟨sp, 0, none⟩)) (some (.int .i64 (a : Nat))) none = some w := fun w hw => by
      simp only [slaW, g]
      rw [if_pos (by simp [hs])]
      exact hw
    by_cases ha : a = 16384
    · subst ha
      have hb : b = [] := List.length_eq_zero_iff.1 (by omega)
      subst hb
      have e1 : wrF s 16384 [] = s := by simp [wrF]
      rw [e1] at hq
      have e2 : l.set q (stH sp s) = l := by
        apply List.ext_getElem?
        intro j
        rw [List.getElem?_set]
        split
        · rename_i hj
          subst hj
          rw [hl, if_pos (List.getElem?_eq_some_iff.1 hl).1]
        · rfl
      rw [e2] at hq
      have hv := sw (.slice (some ⟨0, 0, some 0⟩) 0 0) (by simp [slW, dR, ev, bnd, slD])
      have hv : slaW m 16384 1 (.pointer (some ⟨sp, 0, none⟩)) (some (.int .i64 16384)) none = some (.slice (some ⟨0, 0, some 0⟩) 0 0) := hv
      simp -implicitDefEqProofs (disch := first | assumption | omega | fail) [wkB, retV, stabOk, dC, ev, fillD, pickCells, putAt, bnd, slD, List.getElem?_cons_zero, List.getElem?_cons_succ, Mem.cell, Mem.row, cells_own, cells_ro, rc11_0, hv]
      have hel := hr.sl.elems
      have : ∀ R : Value → Mem → Prop, ∀ fr : Fr, fr 16 = .slice (some ⟨0, 0, some 0⟩) 0 0 → fr 17 = v → R (.int .i64 0) m → SK Tryz.prog w0 (.e (.cpy 1 (.tmp 16) (.tmp 17))) fr m R := fun R fr h1 h2 hR => by
        simp only [SK, dE, ev, h1, h2, hel]
        exact hR
      refine this _ _ (by simp) (by simp) ?_
      simp -implicitDefEqProofs (disch := first | assumption | omega | fail) [wkB, retV, stabOk, dC, ev, fillD, pickCells, putAt, bnd, slD, List.getElem?_cons_zero, List.getElem?_cons_succ, Mem.cell, Mem.row, cells_own, cells_ro]
      exact hq m h
    · have hv := sw (.slice (some ⟨sp, a, none⟩) (16384 - a) 1) (by
        have h1 : (a : Int) ≤ 16384 := by omega
        by_cases h0 : a = 0
        · subst h0; simp [slW, dR, ev, bnd, slD]
        · simp [slW, dR, ev, bnd, slD, h0, ha, h1])
      simp -implicitDefEqProofs (disch := first | assumption | omega | fail) [wkB, retV, stabOk, dC, ev, fillD, pickCells, putAt, bnd, slD, List.getElem?_cons_zero, List.getElem?_cons_succ, Mem.cell, Mem.row, cells_own, cells_ro, rc11_0, hv]
      refine SK_cpS h q (i := sp) (o := a) (n := 16384 - a) (z := 1) (k := b.length) (cs' := (wrF s a b).map byteV) hl (by simp [wkB, retV, stabOk, dC, ev, fillD, pickCells, putAt, bnd, slD, List.getElem?_cons_zero, List.getElem?_cons_succ, Mem.cell, Mem.row, cells_own, cells_ro]) (by simp [wkB, retV, stabOk, dC, ev, fillD, pickCells, putAt, bnd, slD, List.getElem?_cons_zero, List.getElem?_cons_succ, Mem.cell, Mem.row, cells_own, cells_ro]; exact hr.sl.elems) (by simp [wkB, retV, stabOk, dC, ev, fillD, pickCells, putAt, bnd, slD, List.getElem?_cons_zero, List.getElem?_cons_succ, Mem.cell, Mem.row, cells_own, cells_ro]; exact hr.sl.lenV) (by omega) (by simp [hs]; omega) (byteV_oneC _) (by simp) (by simp [putAt, wrF]) fun M hM _ => ?_
      simp -implicitDefEqProofs (disch := first | assumption | omega | fail) [wkB, retV, stabOk, dC, ev, fillD, pickCells, putAt, bnd, slD, List.getElem?_cons_zero, List.getElem?_cons_succ, Mem.cell, Mem.row, cells_own, cells_ro]
      exact hq M hM
end Go.Proofs.YtiapjjgmmiifmaaGreatDoor.Ab

set_option linter.unusedVariables false
set_option linter.unusedSimpArgs false
namespace Go.Proofs.YtiapjjgmmiifmaaGreatDoor.Ab
open Go Go.RowKit
open Go.Sort (Holds putRow putCells onCells)
set_option maxHeartbeats 4000000
set_option maxRecDepth 100000
/-- The numeral is written into a row of zeros. -/
theorem c_fmtB10 {w0 : World} {m : Mem} {i n u : Nat} {cs : List Value} {E : TypeId} {Q : Value → Mem → Prop} (hg : m.get i = .own cs E) (hn : n = Lib.nDigits u) (hl : n ≤ cs.length) (hz : ∀ j, j < n → cs[j]? = some (.int .u8 0)) (hu : 1 ≤ u ∧ u < 18446744073709551616)
    (hq : Q (.tuple ⟨[]⟩) (m.set i (.own ((digs 10 u).map byteV ++ cs.drop n) E))) : AbC Tryz.prog w0 68 [.slice (some ⟨i, 0, none⟩) n 1, .int .u64 (u : Int)] m Q := by
  intro G w args' hs hargs
  have hnd : n ≤ 20 := by have := Lib.numDigits_eq u hu.1 hu.2; split at this <;> omega
  have hn1 : 1 ≤ n := by rw [hn, ← Lib.decDigits_length, dec_digs]; exact digs_pos _ _
  cases hargs with
  | cons _ a1 _ r1 h1 hr =>
  cases hr with
  | cons _ a2 _ r2 h2 hr =>
  cases hr
  cases h2
  cases h1 with
  | sl _ _ B b S _ cp _ hgi hnc hcm hS =>
  rw [run_callFunc_enter (by kernel_rfl)]
  show Calls _ _ _ _ _
  obtain ⟨hB, c, fz, hw, hcS, hop, hcell, hlen⟩ := own_get hs hgi hg
  have hlen := hlen (by omega)
  simp only [Nat.add_zero]
  have hH : Holds (fun (b : UInt8) => Value.int .u8 (b.toNat : Int)) w B b (Array.replicate n 0) := by
    intro j hj
    rw [Array.size_replicate] at hj
    obtain ⟨v', hv1, hv2⟩ := hcell j _ (hz j hj)
    cases hv2
    refine ⟨?_, cells_frozen hw hop _ (by omega)⟩
    simp only [World.cell?, hw, Option.isSome_none, Bool.false_eq_true, if_false, hv1]
    rw [getElem!_pos _ j (by simpa using hj), Array.getElem_replicate]; rfl
  have key := Tryz.internal_strconv_formatBase10 B b cp u (Array.replicate n 0) w hH (by rw [Array.size_replicate, hn]; exact Lib.lt_pow_nDigits u) hu.2 (by rw [Array.size_replicate]; omega)
  rw [Array.size_replicate] at key
  refine key.mono ?_
  rintro e w' ⟨rfl, k, v', dk, rfl, hF⟩
  have hdk : dk.size = n := hF.size
  have hst : St Tryz.prog w0 G (m.set i (.own ((digs 10 u).map byteV ++ cs.drop n) E)) ((putRow (fun (b : UInt8) => Value.int .u8 (b.toNat : Int)) w B b dk).drewN k) := by
    have hw' : ((putRow (fun (b : UInt8) => Value.int .u8 (b.toNat : Int)) w B b dk).drewN k).heap[B]? = some (.cells (putCells (fun (b : UInt8) => Value.int .u8 (b.toNat : Int)) b dk c) E fz) := by
      show (w.heap.modify B _)[B]? = _
      rw [Array.getElem?_modify]
      simp [hw, onCells]
    refine hs.write (e := .own ((digs 10 u).map byteV ++ cs.drop n) E) (by rw [hg]; rfl) hgi rfl rfl rfl (by simp [World.drewN]) (fun q hq => ?_) ⟨hB, _, fz, hw', by simp [putCells, hcS], by simpa [putCells] using hop, fun j v hj => ?_⟩ (fun cs' e' he => by cases he; exact ⟨cs, hg⟩)
    · show (w.heap.modify B _)[q]? = _
      rw [Array.getElem?_modify, if_neg (fun e => hq e.symm)]
    · have hdl : (digs 10 u).length = n := by rw [← dec_digs, Lib.decDigits_length, hn]
      rw [List.getElem?_append] at hj
      by_cases hjn : j < n
      · rw [if_pos (by simpa [hdl] using hjn), List.getElem?_map] at hj
        have hjd : j < (digs 10 u).length := by omega
        rw [List.getElem?_eq_getElem hjd] at hj
        simp at hj; subst hj
        refine ⟨_, ?_, .int _ _⟩
        have hjc : b + j < c.size := by omega
        have hnum := Lib.row_is_numeral (u := u) (v' := v') (dk := dk) (by rw [← hn]; exact hF) j (by rw [Lib.decDigits_length, ← hn]; exact hjn)
        have hd2 : (digs 10 u)[j] = dk[j]! := by rw [← hnum]; congr 1; exact (dec_digs u).symm
        simp only [putCells, Array.getElem?_mapIdx]
        rw [Array.getElem?_eq_getElem hjc]
        simp only [Option.map_some]
        rw [if_pos (by omega), Nat.add_sub_cancel_left, hd2]
      · rw [if_neg (by simpa [hdl] using hjn), List.length_map, hdl, List.getElem?_drop, show n + (j - n) = j from by omega] at hj
        obtain ⟨v2, hv1, hv2⟩ := hcell j v hj
        refine ⟨v2, ?_, hv2⟩
        simp only [putCells, Array.getElem?_mapIdx, hv1, Option.map_some]
        rw [if_neg (by omega)]
  exact ⟨_, rfl, G, _, _, Loc.le_refl G, .tuple _ _ .nil, hst, hq⟩
theorem bstr_pre {m : Mem} {i n : Nat} {E : TypeId} {l : List UInt8} {r : List Value} (h : m.get i = .own (l.map byteV ++ r) E) (hl : l.length = n) : bstr m (.slice (some ⟨i, 0, none⟩) n 1) = some (.string ⟨⟨l⟩⟩) := by
  subst hl
  have h1 : (l.map byteV ++ r).take l.length = l.map byteV := by
    rw [List.take_append_of_le_length (by simp)]; exact List.take_of_length_le (by simp)
  simp only [bstr, Mem.row_own h, Nat.zero_add, List.drop_zero, h1]
  rw [if_pos (by simp)]
  simp only [bytesOf_mapN]
theorem c_FormatUint {w0 : World} {m : Mem} {B u : Nat} {Q : Value → Mem → Prop} (hp : Part L0 m) (ht : Ten w0) (hB : B = 10 ∨ B = 16) (hu : u < 18446744073709551616) (hq : ∀ m', Old m m' → Q (.string ⟨⟨digs B u⟩⟩) m') : AbC Tryz.prog w0 34 [.int .u64 (u : Int), .int .i64 (B : Int)] m Q := by
  refine AbC_fn ok34 (by simp) ?_
  simp -implicitDefEqProofs (disch := first | assumption | (simp only [wnA]; done) | (simp only [wnA]; omega) | omega | fail) [rc34, ro34, wkA, retV, stabOk, dC, ev, fillD, pickCells, putAt, bnd, slD, List.getElem?_cons_zero, List.getElem?_cons_succ, dR_sl, Mem.cell, Mem.row, wmA]
  refine AbC_fn ok47 (by simp) ?_
  rcases hB with rfl | rfl
  · by_cases h100 : u < 100
    · have h1 : (u : Int) < 100 := by omega
      have w1 : IntKind.i64.wrap (u : Int) = (u : Int) := w64 (by omega)
      simp -implicitDefEqProofs (disch := first | assumption | (simp only [wnA]; done) | (simp only [wnA]; omega) | omega | fail) [rc47, ro47, wkA, retV, stabOk, dC, ev, fillD, pickCells, putAt, bnd, slD, List.getElem?_cons_zero, List.getElem?_cons_succ, dR_sl, Mem.cell, Mem.row, wmA, h1, w1]
      refine c_calls (v := .string ⟨⟨digs 10 u⟩⟩) (by kernel_rfl) rfl rfl (fun G w hs => ?_) ?_
      · refine (Tryz.internal_strconv_small u h100 w).mono ?_
        rintro e w' ⟨rfl, rfl⟩
        exact ⟨by rw [dec_digs], Below.refl _ _⟩
      · simp -implicitDefEqProofs (disch := first | assumption | (simp only [wnA]; done) | (simp only [wnA]; omega) | omega | fail) [wkA, retV, stabOk, dC, ev, fillD, pickCells, putAt, bnd, slD, List.getElem?_cons_zero, List.getElem?_cons_succ, dR_sl, Mem.cell, Mem.row, wmA]
        exact hq m (Old.refl m)
    · have h1 : ¬ (u : Int) < 100 := by omega
      have hnd : Lib.nDigits u ≤ 20 := by have := Lib.numDigits_eq u (by omega) hu; split at this <;> omega
      have hdl : (digs 10 u).length = Lib.nDigits u := by rw [← dec_digs, Lib.decDigits_length]
      have hn1 := digs_pos 10 u
      simp -implicitDefEqProofs (disch := first | assumption | (simp only [wnA]; done) | (simp only [wnA]; omega) | omega | fail) [rc47, ro47, rc47_0, wkA, retV, stabOk, dC, ev, fillD, pickCells, putAt, bnd, slD, List.getElem?_cons_zero, List.getElem?_cons_succ, dR_sl, Mem.cell, Mem.row, wmA, h1]
      refine c_calls (v := .int .i64 (Lib.nDigits u)) (by kernel_rfl) rfl rfl (fun G w hs => ?_) ?_
      · refine (Tryz.internal_strconv_numDigits u (by omega) hu w (tab_at ht hs)).mono ?_
        rintro e w' ⟨rfl, rfl⟩
        exact ⟨rfl, Below.refl _ _⟩
      · generalize hN : Lib.nDigits u = n at *
        have hi : (0 : Int) ≤ (n : Int) ∧ (n : Int) ≤ 24 := by omega
        have hn0 : n ≠ 0 := by omega
        have hn24 : n ≤ 24 := by omega
        simp -implicitDefEqProofs (disch := first | assumption | (simp only [wnA]; done) | (simp only [wnA]; omega) | omega | fail) [wkA, retV, stabOk, dC, ev, fillD, pickCells, putAt, bnd, slD, List.getElem?_cons_zero, List.getElem?_cons_succ, dR_sl, Mem.cell, Mem.row, wmA, hi, hn24]
        refine c_fmtB10 (Mem.push_same m _) hN.symm (by simp; omega) (fun j hj => ?_) ⟨by omega, hu⟩ ?_
        · have hj24 : j < 24 := by omega
          have : ∀ k : Fin 24, (List.replicate 24 (Value.int .u8 0))[k.val]? = some (Value.int .u8 0) := fun k => by rw [List.getElem?_replicate, if_pos k.isLt]
          exact this ⟨j, hj24⟩
        · have hgo : ∀ (M : Mem), M.get m.next = .own ((digs 10 u).map byteV ++ (List.replicate 24 (Value.int .u8 0)).drop n) 123 → (((digs 10 u).map byteV ++ (List.replicate 24 (Value.int .u8 0)).drop n).length = 24) → True := fun _ _ _ => trivial
          have hlen24 : ((digs 10 u).map byteV ++ (List.replicate 24 (Value.int .u8 0)).drop n).length = 24 := by
            rw [List.length_append, List.length_map, List.length_drop, List.length_replicate, hdl]; omega
          have ho : ∀ E1 E2, Old m ((m.push E1).set m.next E2) := fun E1 E2 => ((Old.refl m).push E1).set (Nat.le_refl _) E2
          have hbs : ∀ E1, bstr ((m.push E1).set m.next (.own ((digs 10 u).map byteV ++ (List.replicate 24 (Value.int .u8 0)).drop n) 123)) (.slice (some ⟨m.next, 0, none⟩) n 1) = some (.string ⟨⟨digs 10 u⟩⟩) := fun E1 => bstr_pre (Mem.set_same _ _ _) hdl
          have hrep : (List.replicate 24 (Value.int .u8 0)) = [.int .u8 0, .int .u8 0, .int .u8 0, .int .u8 0, .int .u8 0, .int .u8 0, .int .u8 0, .int .u8 0, .int .u8 0, .int .u8 0, .int .u8 0, .int .u8 0, .int .u8 0, .int .u8 0, .int .u8 0, .int .u8 0, .int .u8 0, .int .u8 0, .int .u8 0, .int .u8 0, .int .u8 0, .int .u8 0, .int .u8 0, .int .u8 0] := rfl
          rw [hrep] at hlen24 hbs
          generalize hR : (digs 10 u).map byteV ++ List.drop n [.int .u8 0, .int .u8 0, .int .u8 0, .int .u8 0, .int .u8 0, .int .u8 0, .int .u8 0, .int .u8 0, .int .u8 0, .int .u8 0, .int .u8 0, .int .u8 0, .int .u8 0, .int .u8 0, .int .u8 0, .int .u8 0, .int .u8 0, .int .u8 0, .int .u8 0, .int .u8 0, .int .u8 0, .int .u8 0, .int .u8 0, .int .u8 0] = R at *
          simp -implicitDefEqProofs (disch := first | assumption | (simp only [wnA]; done) | (simp only [wnA]; omega) | omega | fail) [wkA, retV, stabOk, dC, ev, fillD, pickCells, putAt, bnd, slD, List.getElem?_cons_zero, List.getElem?_cons_succ, dR_sl, Mem.cell, Mem.row, wmA, hi, hn24, hlen24, hbs]
          exact hq _ (ho _ _)
  · simp -implicitDefEqProofs (disch := first | assumption | (simp only [wnA]; done) | (simp only [wnA]; omega) | omega | fail) [rc47, ro47, wkA, retV, stabOk, dC, ev, fillD, pickCells, putAt, bnd, slD, List.getElem?_cons_zero, List.getElem?_cons_succ, dR_sl, Mem.cell, Mem.row, wmA, rc47_1]
    refine c_fmtBits (B := 16) (k := 4) (a := u) (neg := false) hp rfl (by omega) (by omega) hu (by simp) pow16 tz16 fun m' ho => ?_
    simp -implicitDefEqProofs (disch := first | assumption | (simp only [wnA]; done) | (simp only [wnA]; omega) | omega | fail) [wkA, retV, stabOk, dC, ev, fillD, pickCells, putAt, bnd, slD, List.getElem?_cons_zero, List.getElem?_cons_succ, dR_sl, Mem.cell, Mem.row, wmA]
    exact hq m' ho
end Go.Proofs.YtiapjjgmmiifmaaGreatDoor.Ab

set_option linter.unusedVariables false
set_option linter.unusedSimpArgs false
namespace Go.Proofs.YtiapjjgmmiifmaaGreatDoor.Ab
open Go Go.RowKit
set_option maxHeartbeats 4000000
set_option maxRecDepth 100000
theorem catB (a b : List UInt8) (h : a.length + b.length ≤ 9223372036854775807) : dBin .add (.string ⟨⟨a⟩⟩) (.string ⟨⟨b⟩⟩) = some (.string ⟨⟨a ++ b⟩⟩) := by
  have e : (ByteArray.mk ⟨a⟩) ++ (ByteArray.mk ⟨b⟩) = ⟨⟨a ++ b⟩⟩ := by
    apply ByteArray.ext
    simp
  rw [dBin_sadd (by show a.length + b.length ≤ _; omega), e]
theorem catE (a b : List UInt8) (h : a.length + b.length ≤ 9223372036854775807) : ∃ e : List UInt8, a ++ b = e ∧ e.length = a.length + b.length ∧ dBin .add (.string ⟨⟨a⟩⟩) (.string ⟨⟨b⟩⟩) = some (.string ⟨⟨e⟩⟩) := ⟨_, rfl, by simp, catB a b h⟩
theorem numS_nat (B n : Nat) : numS B (n : Int) = digs B n := by
  unfold numS sgn
  rw [if_neg (by simp)]
  simp
def sumW : List UInt8 := [115, 117, 109, 32]
def loadW : List UInt8 := [108, 111, 97, 100, 32]
def lineL (a n : Int) (p : Nat) : List UInt8 := sumW ++ numS 16 a ++ [32] ++ numS 16 n ++ [32] ++ digs 16 p ++ [13, 10]
def askL (a n : Int) : List UInt8 := sumW ++ numS 16 a ++ [32] ++ numS 16 n ++ [13]
def wayL (k : Nat) : List UInt8 := if k = 0 then [99, 104, 101, 99, 107] else if k = 1 then [99, 114, 99] else if k = 2 then [108, 97, 114, 103, 101] else [98, 97, 116, 99, 104]
def wayN (w : Int) : Nat := if w ≤ 0 then 0 else if w = 1 then 1 else if w = 2 then 2 else 3
def loadL (k : Nat) (a : Int) : List UInt8 := loadW ++ wayL k ++ [32] ++ numS 16 a ++ [13]
theorem num16 {i : Int} (hi : -9223372036854775808 ≤ i ∧ i ≤ 9223372036854775807) : (numS 16 i).length ≤ 17 := numS_len (by omega) (L := 16) (by omega) (by omega)
theorem c_Ask {w0 : World} {m : Mem} {a n : Int} {Q : Value → Mem → Prop} (hp : Part L0 m) (ht : Ten w0) (ha : -9223372036854775808 ≤ a ∧ a ≤ 9223372036854775807) (hn : -9223372036854775808 ≤ n ∧ n ≤ 9223372036854775807)
    (hq : ∀ m', Old m m' → Q (.string ⟨⟨askL a n⟩⟩) m') : AbC Tryz.prog w0 13 [.int .i64 a, .int .i64 n] m Q := by
  refine AbC_fn ok13 (by simp) ?_
  have la := num16 ha
  have ln := num16 hn
  unfold askL sumW at hq
  simp -implicitDefEqProofs (disch := first | assumption | (simp only [wnA]; done) | (simp only [wnA]; omega) | omega | fail) [rc13, ro13, wkA, retV, stabOk, dC, ev, fillD, pickCells, putAt, bnd, slD, List.getElem?_cons_zero, List.getElem?_cons_succ, dR.eq_20, Mem.cell, Mem.row, wmA]
  refine c_FormatInt (B := 16) hp ht (by omega) ha fun m1 o1 => ?_
  generalize numS 16 a = A at *
  obtain ⟨E1, hE1, l1, k1⟩ := catE [115, 117, 109, 32] A (by simp; omega)
  simp only [List.length_cons, List.length_nil] at l1
  obtain ⟨E2, hE2, l2, k2⟩ := catE E1 [32] (by simp; omega)
  simp only [List.length_cons, List.length_nil] at l2
  have k1 : dBin .add (.string ⟨#[115, 117, 109, 32]⟩) (.string ⟨⟨A⟩⟩) = some (.string ⟨⟨E1⟩⟩) := k1
  have k2 : dBin .add (.string ⟨⟨E1⟩⟩) (.string ⟨#[32]⟩) = some (.string ⟨⟨E2⟩⟩) := k2
  rw [hE1, hE2] at hq
  simp -implicitDefEqProofs (disch := first | assumption | (simp only [wnA]; done) | (simp only [wnA]; omega) | omega | fail) [wkA, retV, stabOk, dC, ev, fillD, pickCells, putAt, bnd, slD, List.getElem?_cons_zero, List.getElem?_cons_succ, dR.eq_20, Mem.cell, Mem.row, wmA, k1, k2]
  refine c_FormatInt (B := 16) (Old.part hp o1) ht (by omega) hn fun m2 o2 => ?_
  generalize numS 16 n = Z at *
  obtain ⟨E3, hE3, l3, k3⟩ := catE E2 Z (by omega)
  obtain ⟨E4, hE4, l4, k4⟩ := catE E3 [13] (by simp; omega)
  have k4 : dBin .add (.string ⟨⟨E3⟩⟩) (.string ⟨#[13]⟩) = some (.string ⟨⟨E4⟩⟩) := k4
  rw [hE3, hE4] at hq
  simp -implicitDefEqProofs (disch := first | assumption | (simp only [wnA]; done) | (simp only [wnA]; omega) | omega | fail) [wkA, retV, stabOk, dC, ev, fillD, pickCells, putAt, bnd, slD, List.getElem?_cons_zero, List.getElem?_cons_succ, dR.eq_20, Mem.cell, Mem.row, wmA, k3, k4]
  exact hq _ (o1.trans o2)
theorem c_Line {w0 : World} {m : Mem} {a n : Int} {p : Nat} {Q : Value → Mem → Prop} (hp : Part L0 m) (ht : Ten w0) (ha : -9223372036854775808 ≤ a ∧ a ≤ 9223372036854775807) (hn : -9223372036854775808 ≤ n ∧ n ≤ 9223372036854775807) (hpp : p < 4294967296)
    (hq : ∀ m', Old m m' → Q (.string ⟨⟨lineL a n p⟩⟩) m') : AbC Tryz.prog w0 17 [.agg ⟨[.int .i64 a, .int .i64 n, .int .u32 (p : Int)]⟩] m Q := by
  refine AbC_fn ok17 (by simp) ?_
  have la := num16 ha
  have ln := num16 hn
  have lp := digs_64 (b := 16) (by omega) (show p < 18446744073709551616 by omega)
  unfold lineL sumW at hq
  have w1 : IntKind.u64.wrap (p : Int) = (p : Int) := by rw [IntWalk.u64_in]; omega
  have hp1 : Part L0 (m.push (.own [.int .i64 a, .int .i64 n, .int .u32 (p : Int)] 44)) := Old.part hp ((Old.refl m).push _)
  simp -implicitDefEqProofs (disch := first | assumption | (simp only [wnA]; done) | (simp only [wnA]; omega) | omega | fail) [rc17, ro17, wkA, retV, stabOk, dC, ev, fillD, pickCells, putAt, bnd, slD, List.getElem?_cons_zero, List.getElem?_cons_succ, dR.eq_20, Mem.cell, Mem.row, wmA, w1]
  refine c_FormatInt (B := 16) hp1 ht (by omega) ha fun m1 o1 => ?_
  have g1 : m1.get m.next = .own [.int .i64 a, .int .i64 n, .int .u32 (p : Int)] 44 := by rw [o1.2 _ (by simp)]; simp
  generalize numS 16 a = A at *
  obtain ⟨E1, hE1, l1, k1⟩ := catE [115, 117, 109, 32] A (by simp; omega)
  simp only [List.length_cons, List.length_nil] at l1
  obtain ⟨E2, hE2, l2, k2⟩ := catE E1 [32] (by simp; omega)
  simp only [List.length_cons, List.length_nil] at l2
  have k1 : dBin .add (.string ⟨#[115, 117, 109, 32]⟩) (.string ⟨⟨A⟩⟩) = some (.string ⟨⟨E1⟩⟩) := k1
  have k2 : dBin .add (.string ⟨⟨E1⟩⟩) (.string ⟨#[32]⟩) = some (.string ⟨⟨E2⟩⟩) := k2
  rw [hE1, hE2] at hq
  simp -implicitDefEqProofs (disch := first | assumption | (simp only [wnA]; done) | (simp only [wnA]; omega) | omega | fail) [wkA, retV, stabOk, dC, ev, fillD, pickCells, putAt, bnd, slD, List.getElem?_cons_zero, List.getElem?_cons_succ, dR.eq_20, Mem.cell, Mem.row, wmA, k1, k2, g1]
  refine c_FormatInt (B := 16) (Old.part hp1 o1) ht (by omega) hn fun m2 o2 => ?_
  have g2 : m2.get m.next = .own [.int .i64 a, .int .i64 n, .int .u32 (p : Int)] 44 := by
    have : m.next < m1.next := Nat.lt_of_lt_of_le (by simp) o1.1
    rw [o2.2 _ this]; exact g1
  generalize numS 16 n = Z at *
  obtain ⟨E3, hE3, l3, k3⟩ := catE E2 Z (by omega)
  obtain ⟨E4, hE4, l4, k4⟩ := catE E3 [32] (by simp; omega)
  simp only [List.length_cons, List.length_nil] at l4
  have k4 : dBin .add (.string ⟨⟨E3⟩⟩) (.string ⟨#[32]⟩) = some (.string ⟨⟨E4⟩⟩) := k4
  rw [hE3, hE4] at hq
  simp -implicitDefEqProofs (disch := first | assumption | (simp only [wnA]; done) | (simp only [wnA]; omega) | omega | fail) [wkA, retV, stabOk, dC, ev, fillD, pickCells, putAt, bnd, slD, List.getElem?_cons_zero, List.getElem?_cons_succ, dR.eq_20, Mem.cell, Mem.row, wmA, k3, k4, g2, w1]
  refine c_FormatUint (B := 16) (Old.part (Old.part hp1 o1) o2) ht (by omega) (by omega) fun m3 o3 => ?_
  generalize digs 16 p = Y at *
  obtain ⟨E5, hE5, l5, k5⟩ := catE E4 Y (by omega)
  obtain ⟨E6, hE6, l6, k6⟩ := catE E5 [13, 10] (by simp; omega)
  have k6 : dBin .add (.string ⟨⟨E5⟩⟩) (.string ⟨#[13, 10]⟩) = some (.string ⟨⟨E6⟩⟩) := k6
  rw [hE5, hE6] at hq
  simp -implicitDefEqProofs (disch := first | assumption | (simp only [wnA]; done) | (simp only [wnA]; omega) | omega | fail) [wkA, retV, stabOk, dC, ev, fillD, pickCells, putAt, bnd, slD, List.getElem?_cons_zero, List.getElem?_cons_succ, dR.eq_20, Mem.cell, Mem.row, wmA, k5, k6]
  exact hq _ ((((Old.refl m).push _).trans o1).trans (o2.trans o3))
theorem way_k (w : Int) : ∃ k : Nat, k < 4 ∧ wayN w = k ∧ (if (0 : Int) < (if (3 : Int) < w then 3 else w) then (if (3 : Int) < w then 3 else w) else 0) = (k : Int) := by
  unfold wayN
  by_cases h0 : w ≤ 0
  · exact ⟨0, by omega, by rw [if_pos h0], by split <;> split <;> omega⟩
  by_cases h1 : w = 1
  · subst h1; exact ⟨1, by omega, by simp, by simp⟩
  by_cases h2 : w = 2
  · subst h2; exact ⟨2, by omega, by simp, by simp⟩
  · exact ⟨3, by omega, by rw [if_neg h0, if_neg h1, if_neg h2], by split <;> split <;> omega⟩
def waysC : List Value := [.string ⟨⟨wayL 0⟩⟩, .string ⟨⟨wayL 1⟩⟩, .string ⟨⟨wayL 2⟩⟩, .string ⟨⟨wayL 3⟩⟩]
theorem ways_at {k : Nat} (hk : k < 4) : waysC[k]? = some (.string ⟨⟨wayL k⟩⟩) := by
  rcases (show k = 0 ∨ k = 1 ∨ k = 2 ∨ k = 3 by omega) with rfl | rfl | rfl | rfl <;> rfl
theorem c_Ways {w0 : World} {m : Mem} {Q : Value → Mem → Prop} (hq : Q (.slice (some ⟨m.next, 0, none⟩) 4 1) (m.push (.own waysC 9))) : AbC Tryz.prog w0 35 [] m Q := by
  refine AbC_fn ok35 (by simp) ?_
  simp -implicitDefEqProofs (disch := first | assumption | (simp only [wnA]; done) | (simp only [wnA]; omega) | omega | fail) [rc35, ro35, wkA, retV, stabOk, dC, ev, fillD, pickCells, putAt, bnd, slD, List.getElem?_cons_zero, List.getElem?_cons_succ, dR.eq_20, Mem.cell, Mem.row, wmA]
  rw [SK_bsl (cs := waysC) (by simp [fillD, pickCells, wkA, retV, stabOk, dC, ev, fillD, pickCells, putAt, bnd, slD, List.getElem?_cons_zero, List.getElem?_cons_succ, dR.eq_20, waysC, wayL]) rfl]
  simp -implicitDefEqProofs (disch := first | assumption | (simp only [wnA]; done) | (simp only [wnA]; omega) | omega | fail) [wkA, retV, stabOk, dC, ev, fillD, pickCells, putAt, bnd, slD, List.getElem?_cons_zero, List.getElem?_cons_succ, dR.eq_20, Mem.cell, Mem.row, wmA]
  exact hq
theorem c_Load {w0 : World} {m : Mem} {w a : Int} {Q : Value → Mem → Prop} (hp : Part L0 m) (ht : Ten w0) (ha : -9223372036854775808 ≤ a ∧ a ≤ 9223372036854775807)
    (hq : ∀ m', Old m m' → Q (.string ⟨⟨loadL (wayN w) a⟩⟩) m') : AbC Tryz.prog w0 18 [.int .i64 w, .int .i64 a] m Q := by
  refine AbC_fn ok18 (by simp) ?_
  have la := num16 ha
  unfold loadL loadW at hq
  obtain ⟨k, hk, hk1, hk2⟩ := way_k w
  rw [hk1] at hq
  simp -implicitDefEqProofs (disch := first | assumption | (simp only [wnA]; done) | (simp only [wnA]; omega) | omega | fail) [rc18, ro18, wkA, retV, stabOk, dC, ev, fillD, pickCells, putAt, bnd, slD, List.getElem?_cons_zero, List.getElem?_cons_succ, dR.eq_20, Mem.cell, Mem.row, wmA, hk2]
  refine c_Ways ?_
  have hidx : sidx 1 (.slice (some ⟨m.next, 0, none⟩) 4 1) (.int .i64 (k : Int)) = some (.pointer (some ⟨m.next, 0 + k * 1, none⟩)) := sidx_at hk
  have hat := ways_at hk
  have hw : (wayL k).length ≤ 5 := by rcases (show k = 0 ∨ k = 1 ∨ k = 2 ∨ k = 3 by omega) with rfl | rfl | rfl | rfl <;> decide
  have hg : (m.push (.own waysC 9)).get m.next = .own waysC 9 := by simp
  have hp1 : Part L0 (m.push (.own waysC 9)) := Old.part hp ((Old.refl m).push _)
  have o0 : Old m (m.push (.own waysC 9)) := (Old.refl m).push _
  have hm : m.next < (m.push (.own waysC 9)).next := by simp
  generalize m.push (.own waysC 9) = m0 at *
  generalize wayL k = W at *
  generalize waysC = C at *
  obtain ⟨E1, hE1, l1, k1⟩ := catE [108, 111, 97, 100, 32] W (by simp; omega)
  simp only [List.length_cons, List.length_nil] at l1
  obtain ⟨E2, hE2, l2, k2⟩ := catE E1 [32] (by simp; omega)
  simp only [List.length_cons, List.length_nil] at l2
  have k1 : dBin .add (.string ⟨#[108, 111, 97, 100, 32]⟩) (.string ⟨⟨W⟩⟩) = some (.string ⟨⟨E1⟩⟩) := k1
  have k2 : dBin .add (.string ⟨⟨E1⟩⟩) (.string ⟨#[32]⟩) = some (.string ⟨⟨E2⟩⟩) := k2
  rw [hE1, hE2] at hq
  have hidx : sidx 1 (.slice (some ⟨m.next, 0, none⟩) 4 1) (.int .i64 (k : Int)) = some (.pointer (some ⟨m.next, k, none⟩)) := by rw [hidx]; simp
  obtain ⟨hlt, hat'⟩ := List.getElem?_eq_some_iff.1 hat
  simp -implicitDefEqProofs (disch := first | assumption | (simp only [wnA]; done) | (simp only [wnA]; omega) | omega | fail) [wkA, retV, stabOk, dC, ev, fillD, pickCells, putAt, bnd, slD, List.getElem?_cons_zero, List.getElem?_cons_succ, dR.eq_20, Mem.cell, Mem.row, wmA, hk2, hidx, hg, hat, hat', hlt, k1, k2]
  refine c_FormatInt (B := 16) hp1 ht (by omega) ha fun m1 o1 => ?_
  have g1 : m1.get m.next = .own C 9 := by rw [o1.2 _ hm]; exact hg
  generalize numS 16 a = A at *
  obtain ⟨E3, hE3, l3, k3⟩ := catE E2 A (by omega)
  obtain ⟨E4, hE4, l4, k4⟩ := catE E3 [13] (by simp; omega)
  have k4 : dBin .add (.string ⟨⟨E3⟩⟩) (.string ⟨#[13]⟩) = some (.string ⟨⟨E4⟩⟩) := k4
  rw [hE3, hE4] at hq
  simp -implicitDefEqProofs (disch := first | assumption | (simp only [wnA]; done) | (simp only [wnA]; omega) | omega | fail) [wkA, retV, stabOk, dC, ev, fillD, pickCells, putAt, bnd, slD, List.getElem?_cons_zero, List.getElem?_cons_succ, dR.eq_20, Mem.cell, Mem.row, wmA, k3, k4, g1, hat, hat', hlt]
  exact hq _ (o0.trans o1)
end Go.Proofs.YtiapjjgmmiifmaaGreatDoor.Ab

set_option linter.unusedVariables false
set_option linter.unusedSimpArgs false
namespace Go.Proofs.YtiapjjgmmiifmaaGreatDoor.Ab
open Go Go.RowKit
set_option maxHeartbeats 4000000
set_option maxRecDepth 100000
inductive Tak where
  | no
  | plain (r : Rc)
  | files (b : Br)
noncomputable def Tak.put : Tak → List UInt8 → Tak × List UInt8
  | .no, _ => (.no, [])
  | .plain r, b => (.plain (rPutF r b).1, (rPutF r b).2)
  | .files r, b => (.files (bPutF r b).1, (bPutF r b).2)
noncomputable def Tak.tick : Tak → Tak × List UInt8
  | .no => (.no, [])
  | .plain r => (.plain (rTickF r).1, (rTickF r).2)
  | .files r => (.files (bTickF r).1, (bTickF r).2)
def Tak.over : Tak → Bool
  | .no => false
  | .plain r => r.over
  | .files r => r.over
def Tak.err : Tak → Nat
  | .no => 0
  | .plain r => r.err
  | .files r => r.err
def Tak.data : Tak → List UInt8
  | .no => []
  | .plain r => r.data
  | .files r => r.data
/-- How many bytes it holds at most. -/
def Tak.sz : Tak → Nat
  | .no => 0
  | .plain r => r.data.length + r.buffer.length
  | .files r => r.part.data.length + r.part.buffer.length
def TakR (H : HL) (v : Value) : Tak → Prop
  | .no => H = [] ∧ v = .nilIface
  | .plain r => ∃ ir, v = .iface 91 (.pointer (some ⟨ir, 0, none⟩)) ∧ RcR H ir r
  | .files r => ∃ ib, v = .iface 92 (.pointer (some ⟨ib, 0, none⟩)) ∧ BrR H ib r
structure TgS where
  mem : List UInt8
  tr : Int
  wt : Int
  asleep : Bool
  line : List UInt8
  tak : Tak
  addr : Int
  reps : List (Int × Int × Nat)
def repC (r : Int × Int × Nat) : List Value := [.int .i64 r.1, .int .i64 r.2.1, .int .u32 (r.2.2 : Int)]
theorem repC_len (r : Int × Int × Nat) : (repC r).length = 3 := rfl
theorem rep_one : ∀ (l : List (Int × Int × Nat)), (l.flatMap repC).all oneC = true
  | [] => rfl
  | r :: l => by rw [List.flatMap_cons, List.all_append, rep_one l]; rfl
def tgC (s : TgS) (sp : Nat) (vl tv vr : Value) : List Value := [.pointer (some ⟨sp, 0, none⟩), .int .i64 s.tr, .int .i64 s.wt, .bool s.asleep, vl, tv, .int .i64 s.addr, vr]
def reH (ob : Option Nat) (l : List (Int × Int × Nat)) : Option Nat × Ent := (ob, .own (l.flatMap repC) 44)
def tgH (it sp : Nat) (ol orr : Option Nat) (tv : Value) (s : TgS) : HL := [(some it, .own (tgC s sp (slV ol s.line.length 1) tv (slV orr s.reps.length 3)) 34), stH sp s.mem, byH ol s.line, reH orr s.reps]
structure TgR (H : HL) (it : Nat) (s : TgS) : Prop where
  ex : ∃ sp ol orr tv HT, H = tgH it sp ol orr tv s ++ HT ∧ TakR HT tv s.tak ∧ (ol = none → s.line.length = 0) ∧ (orr = none → s.reps.length = 0)
  ml : s.mem.length = 16384
  ll : s.line.length ≤ 80
theorem m_rPut : methOf Tryz.prog 91 "Put" = some 43 := by kernel_rfl
theorem m_rTick : methOf Tryz.prog 91 "Tick" = some 41 := by kernel_rfl
theorem m_rDone : methOf Tryz.prog 91 "Done" = some 51 := by kernel_rfl
theorem m_rData : methOf Tryz.prog 91 "Data" = some 52 := by kernel_rfl
theorem m_bPut : methOf Tryz.prog 92 "Put" = some 42 := by kernel_rfl
theorem m_bTick : methOf Tryz.prog 92 "Tick" = some 40 := by kernel_rfl
theorem m_bDone : methOf Tryz.prog 92 "Done" = some 49 := by kernel_rfl
theorem m_bData : methOf Tryz.prog 92 "Data" = some 50 := by kernel_rfl
/-- What takes is told of by its name: one call for both kinds. -/
theorem call_takPut {w0 : World} {V : Nat → Prop} {m : Mem} {H : HL} {tv v : Value} {k : Tak} {b : List UInt8} {ts : Fr} {x y : Operand} {R : Value → Mem → Prop} (ht : Ten w0) (hE : ErrV w0) (h : Sep m V m H) (hk : TakR H tv k) (hne : k ≠ .no) (hr : RdV V m 1 v (b.map byteV) b.length)
    (hbig : k.sz + b.length + 1024 ≤ 140737488355328) (hx : ev ts x = tv) (hy : ev ts y = v)
    (hq : ∀ oo H' M, Sep m V M (byH oo (k.put b).2 :: H') → TakR H' tv (k.put b).1 → (oo = none → (k.put b).2.length = 0) → R (slV oo (k.put b).2.length 1) M) :
    SK Tryz.prog w0 (.c (.inv x "Put" [y])) ts m R := by
  cases k with
  | no => exact absurd rfl hne
  | plain r =>
    obtain ⟨ir, rfl, hR⟩ := hk
    simp only [SK, dC, hx, m_rPut, List.map_cons, List.map_nil, hy]
    simp only [Tak.sz] at hbig
    exact c_rPut h hR hr (by omega) (by omega) fun oo H' M h1 h2 h3 => hq oo H' M h1 ⟨ir, rfl, h2⟩ h3
  | files r =>
    obtain ⟨ib, rfl, hR⟩ := hk
    simp only [SK, dC, hx, m_bPut, List.map_cons, List.map_nil, hy]
    simp only [Tak.sz] at hbig
    exact c_bPut ht hE h hR hr (by omega) (by omega) fun oo H' M h1 h2 h3 => hq oo H' M h1 ⟨ib, rfl, h2⟩ h3
theorem call_takTick {w0 : World} {V : Nat → Prop} {m : Mem} {H : HL} {tv : Value} {k : Tak} {ts : Fr} {x : Operand} {R : Value → Mem → Prop} (ht : Ten w0) (hE : ErrV w0) (h : Sep m V m H) (hk : TakR H tv k) (hne : k ≠ .no)
    (hbig : k.sz ≤ 140737488355328) (hx : ev ts x = tv)
    (hq : ∀ oo H' M, Sep m V M (byH oo (k.tick).2 :: H') → TakR H' tv (k.tick).1 → (oo = none → (k.tick).2.length = 0) → R (slV oo (k.tick).2.length 1) M) :
    SK Tryz.prog w0 (.c (.inv x "Tick" [])) ts m R := by
  cases k with
  | no => exact absurd rfl hne
  | plain r =>
    obtain ⟨ir, rfl, hR⟩ := hk
    simp only [SK, dC, hx, m_rTick, List.map_nil]
    exact c_rTick h hR fun oo H' M h1 h2 h3 => hq oo H' M h1 ⟨ir, rfl, h2⟩ h3
  | files r =>
    obtain ⟨ib, rfl, hR⟩ := hk
    simp only [SK, dC, hx, m_bTick, List.map_nil]
    simp only [Tak.sz] at hbig
    exact c_bTick ht hE h hR (by omega) fun oo H' M h1 h2 h3 => hq oo H' M h1 ⟨ib, rfl, h2⟩ h3
theorem call_takDone {w0 : World} {V : Nat → Prop} {m0 m : Mem} {l H : HL} {tv : Value} {k : Tak} {ts : Fr} {x : Operand} {R : Value → Mem → Prop} (h : Sep m0 V m l) (hk : TakR H tv k) (hs : ∀ p ∈ H, p ∈ l) (hne : k ≠ .no) (hx : ev ts x = tv)
    (hq : R (.tuple ⟨[.bool k.over, errV k.err]⟩) m) : SK Tryz.prog w0 (.c (.inv x "Done" [])) ts m R := by
  cases k with
  | no => exact absurd rfl hne
  | plain r =>
    obtain ⟨ir, rfl, hR⟩ := hk
    obtain ⟨⟨ob, od, rfl, hb, hd⟩, hw⟩ := hR
    simp only [SK, dC, hx, m_rDone, List.map_nil]
    obtain ⟨q, hq'⟩ := List.mem_iff_getElem?.1 (hs _ (List.mem_cons_self ..))
    exact c_rDone h q hq' hq
  | files r =>
    obtain ⟨ib, rfl, hR⟩ := hk
    simp only [SK, dC, hx, m_bDone, List.map_nil]
    exact c_bDone h hR hs hq
theorem call_takData {w0 : World} {V : Nat → Prop} {m : Mem} {H : HL} {tv : Value} {k : Tak} {ts : Fr} {x : Operand} {R : Value → Mem → Prop} (h : Sep m V m H) (hk : TakR H tv k) (hne : k ≠ .no) (hbig : k.sz ≤ 140737488355328) (hx : ev ts x = tv)
    (hq : ∀ oo M, Sep m V M (byH oo k.data :: H) → (oo = none → k.data.length = 0) → R (slV oo k.data.length 1) M) : SK Tryz.prog w0 (.c (.inv x "Data" [])) ts m R := by
  cases k with
  | no => exact absurd rfl hne
  | plain r =>
    obtain ⟨ir, rfl, hR⟩ := hk
    simp only [SK, dC, hx, m_rData, List.map_nil]
    simp only [Tak.sz] at hbig
    exact c_rData h hR (by omega) hq
  | files r =>
    obtain ⟨ib, rfl, hR⟩ := hk
    simp only [SK, dC, hx, m_bData, List.map_nil]
    exact c_bData h hR hq
end Go.Proofs.YtiapjjgmmiifmaaGreatDoor.Ab

set_option linter.unusedVariables false
set_option linter.unusedSimpArgs false
namespace Go.Proofs.YtiapjjgmmiifmaaGreatDoor.Ab
open Go Go.RowKit
set_option maxHeartbeats 4000000
set_option maxRecDepth 100000
def hexN (l : List UInt8) : Option Nat := match puL 16 4294967295 0 l with
  | some v => if digs 16 v = l then some v else none
  | none => none
theorem puL_le {B M : Nat} : ∀ (l : List UInt8) (n v : Nat), n ≤ M → puL B M n l = some v → v ≤ M
  | [], n, v, h, e => by cases e; exact h
  | c :: l, n, v, h, e => by
    simp only [puL] at e
    split at e
    · rename_i n' hn
      refine puL_le l n' v ?_ e
      unfold puStep at hn
      split at hn
      · split at hn
        · rename_i hh; cases hn; exact hh.2
        · cases hn
      · cases hn
    · cases e
theorem hexN_lt {l : List UInt8} {n : Nat} (h : hexN l = some n) : n < 4294967296 := by
  unfold hexN at h
  split at h
  · rename_i v hv
    have := puL_le l 0 v (by omega) hv
    split at h
    · cases h; omega
    · cases h
  · cases h
theorem c_hex {w0 : World} {m : Mem} {s : List UInt8} {Q : Value → Mem → Prop} (hp : Part L0 m) (ht : Ten w0) (hE : ErrV w0) (hs : s.length ≤ 1000000)
    (h1 : ∀ M (n : Nat), Old m M → hexN s = some n → Q (.tuple ⟨[.int .i64 (n : Int), .bool true]⟩) M) (h0 : ∀ M (z : Int), Old m M → hexN s = none → Q (.tuple ⟨[.int .i64 z, .bool false]⟩) M) :
    AbC Tryz.prog w0 63 [.string ⟨⟨s⟩⟩] m Q := by
  refine AbC_fn ok63 (by simp) ?_
  simp -implicitDefEqProofs (disch := first | assumption | omega | fail) [rc63, ro63, wkB, retV, stabOk, dC, ev, fillD, pickCells, putAt, bnd, slD, List.getElem?_cons_zero, List.getElem?_cons_succ, Mem.cell, Mem.row, cells_own, cells_ro]
  refine c_ParseUint (B := 16) (M := 4294967295) (bits := 32) hE (by omega) (.inl ⟨rfl, rfl⟩) (by show s.length ≤ _; omega) (fun M v p o he => ?_) fun M v o hs0 hv => ?_
  · simp -implicitDefEqProofs (disch := first | assumption | omega | fail) [wkB, retV, stabOk, dC, ev, fillD, pickCells, putAt, bnd, slD, List.getElem?_cons_zero, List.getElem?_cons_succ, Mem.cell, Mem.row, cells_own, cells_ro]
    refine h0 M _ o ?_
    unfold hexN
    rcases he with he | he
    · have : s = [] := List.length_eq_zero_iff.1 he
      subst this
      simp only [puL]
      rw [digs_lt (by omega)]
      simp
    · have he : puL 16 4294967295 0 s = none := he
      rw [he]
  · have hv : puL 16 4294967295 0 s = some v := hv
    have hle := puL_le s 0 v (by omega) hv
    have w1 : IntKind.i64.wrap (v : Int) = (v : Int) := w64 (by omega)
    simp -implicitDefEqProofs (disch := first | assumption | omega | fail) [wkB, retV, stabOk, dC, ev, fillD, pickCells, putAt, bnd, slD, List.getElem?_cons_zero, List.getElem?_cons_succ, Mem.cell, Mem.row, cells_own, cells_ro, w1]
    refine c_FormatUint (B := 16) (Old.part hp o) ht (by omega) (by omega) fun M2 o2 => ?_
    by_cases he : digs 16 v = s
    · have e2 : (digs 16 v == s) = true := by simp [he]
      simp -implicitDefEqProofs (disch := first | assumption | omega | fail) [wkB, retV, stabOk, dC, ev, fillD, pickCells, putAt, bnd, slD, List.getElem?_cons_zero, List.getElem?_cons_succ, Mem.cell, Mem.row, cells_own, cells_ro, e2]
      exact h1 M2 v (o.trans o2) (by unfold hexN; rw [hv]; simp [he])
    · have e2 : (digs 16 v == s) = false := by simp [he]
      simp -implicitDefEqProofs (disch := first | assumption | omega | fail) [wkB, retV, stabOk, dC, ev, fillD, pickCells, putAt, bnd, slD, List.getElem?_cons_zero, List.getElem?_cons_succ, Mem.cell, Mem.row, cells_own, cells_ro, e2]
      exact h0 M2 _ (o.trans o2) (by unfold hexN; rw [hv]; simp [he])
def wayIx (l : List UInt8) : Option Nat := if l = wayL 0 then some 0 else if l = wayL 1 then some 1 else if l = wayL 2 then some 2 else if l = wayL 3 then some 3 else none
def begF (s : TgS) (k : Nat) (a : Int) : TgS := { s with addr := a, tak := if k = 3 then .files (bTake s.tr s.wt) else .plain (rOf s.tr s.wt 1 (decide (k ≠ 0)) true 1) }
def wayCs : List Value := [.string ⟨⟨wayL 0⟩⟩, .string ⟨⟨wayL 1⟩⟩, .string ⟨⟨wayL 2⟩⟩, .string ⟨⟨wayL 3⟩⟩]
theorem wayCs_at {j : Nat} (h : j < 4) : wayCs[j]? = some (.string ⟨⟨wayL j⟩⟩) := by
  rcases (show j = 0 ∨ j = 1 ∨ j = 2 ∨ j = 3 by omega) with rfl | rfl | rfl | rfl <;> rfl
theorem c_begin {w0 : World} {V : Nat → Prop} {m0 m : Mem} {it sp : Nat} {ol orr : Option Nat} {s : TgS} {way : List UInt8} {a : Int} {Q : Value → Mem → Prop} (h : Sep m0 V m (tgH it sp ol orr .nilIface s))
    (h1 : ∀ M k tv HT, wayIx way = some k → Sep m0 V M (tgH it sp ol orr tv (begF s k a) ++ HT) → TakR HT tv (begF s k a).tak → Q (.bool true) M)
    (h0 : ∀ M, wayIx way = none → Sep m0 V M (tgH it sp ol orr .nilIface s) → Q (.bool false) M) :
    AbC Tryz.prog w0 64 [.pointer (some ⟨it, 0, none⟩), .string ⟨⟨way⟩⟩, .int .i64 a] m Q := by
  refine AbC_fn ok64 (by simp) ?_
  simp -implicitDefEqProofs (disch := first | assumption | omega | fail) [rc64, ro64, wkB, retV, stabOk, dC, ev, fillD, pickCells, putAt, bnd, slD, List.getElem?_cons_zero, List.getElem?_cons_succ, Mem.cell, Mem.row, cells_own, cells_ro]
  refine AbC_fn ok35 (by simp) ?_
  simp -implicitDefEqProofs (disch := first | assumption | omega | fail) [rc35, ro35, wkB, retV, stabOk, dC, ev, fillD, pickCells, putAt, bnd, slD, List.getElem?_cons_zero, List.getElem?_cons_succ, Mem.cell, Mem.row, cells_own, cells_ro]
  refine SK_bslS h (cs := wayCs) (by simp [fillD, pickCells, wkB, retV, stabOk, dC, ev, fillD, pickCells, putAt, bnd, slD, List.getElem?_cons_zero, List.getElem?_cons_succ, Mem.cell, Mem.row, cells_own, cells_ro, wayCs, wayL]) rfl fun bw m1 hh1 _ _ => ?_
  simp -implicitDefEqProofs (disch := first | assumption | omega | fail) [wkB, retV, stabOk, dC, ev, fillD, pickCells, putAt, bnd, slD, List.getElem?_cons_zero, List.getElem?_cons_succ, Mem.cell, Mem.row, cells_own, cells_ro]
  refine LoopW_of (fun k ts m' => ∃ j, j + k = 4 ∧ m' = m1 ∧ (∀ i, i < j → way ≠ wayL i) ∧ ts 0 = .pointer (some ⟨it, 0, none⟩) ∧ ts 1 = .string ⟨⟨way⟩⟩ ∧ ts 2 = .int .i64 a ∧ ts 9 = .slice (some ⟨bw, 0, none⟩) 4 1 ∧ ts 10 = .int .i64 4 ∧ ts 11 = .int .i64 (j : Nat)) 4 ?_ ?_
  · exact ⟨0, by omega, rfl, fun i hi => by omega, by simp [frA_at], by simp [frA_at], by simp [frA_at], by simp, by simp, by simp⟩
  · rintro k ts m' K ⟨j, hj, rfl, hne, t0, t1, t2, t9, t10, t11⟩ hK
    by_cases hj4 : j < 4
    · have hj8 : (j : Int) < 4 := by omega
      have hidx : sidx 1 (.slice (some ⟨bw, 0, none⟩) 4 1) (.int .i64 (j : Int)) = some (.pointer (some ⟨bw, j, none⟩)) := by simpa using sidx_at (b := bw) (o := 0) (n := 4) (c := 1) (j := j) (sz := 1) (k := .i64) hj4
      have gw := hh1.get 0 rfl
      have hc := wayCs_at hj4
      have w1 : IntKind.i64.wrap ((j : Int) + 1) = (j : Int) + 1 := w64 (by omega)
      obtain ⟨C, hC⟩ : ∃ C, wayCs = C := ⟨_, rfl⟩
      rw [hC] at gw hc
      by_cases hw : way = wayL j
      · have hw2 : (!(wayL j == way)) = false := by simp [hw]
        have hix : wayIx way = some j := by
          subst hw
          rcases (show j = 0 ∨ j = 1 ∨ j = 2 ∨ j = 3 by omega) with rfl | rfl | rfl | rfl <;> decide
        have hh2 := hh1.tl
        simp -implicitDefEqProofs (disch := first | assumption | omega | fail) [rc64_3, rc64_2, wkB, retV, stabOk, dC, ev, fillD, pickCells, putAt, bnd, slD, List.getElem?_cons_zero, List.getElem?_cons_succ, Mem.cell, Mem.row, cells_own, cells_ro, t0, t1, t2, t9, t10, t11, hj8, hidx, gw, hc, getL1 hc, hw2, rc64_1]
        refine SK_stS hh2 0 rfl (o := 6) (vs := [.int .i64 a]) (cs' := tgC { s with addr := a } sp (slV ol s.line.length 1) .nilIface (slV orr s.reps.length 3)) (by simp [wkB, retV, stabOk, dC, ev, fillD, pickCells, putAt, bnd, slD, List.getElem?_cons_zero, List.getElem?_cons_succ, Mem.cell, Mem.row, cells_own, cells_ro]) (by simp [wkB, retV, stabOk, dC, ev, fillD, pickCells, putAt, bnd, slD, List.getElem?_cons_zero, List.getElem?_cons_succ, Mem.cell, Mem.row, cells_own, cells_ro]) (by simp [tgC]) rfl rfl (by simp [tgC, putAt]) fun m2 h2 _ => ?_
        have g2 := h2.get 0 rfl
        simp only [tgC] at g2
        by_cases h3 : j = 3
        · subst h3
          simp -implicitDefEqProofs (disch := first | assumption | omega | fail) [wkB, retV, stabOk, dC, ev, fillD, pickCells, putAt, bnd, slD, List.getElem?_cons_zero, List.getElem?_cons_succ, Mem.cell, Mem.row, cells_own, cells_ro, t0, t11, g2]
          refine c_bTake h2 fun ib H M hM hR => ?_
          simp -implicitDefEqProofs (disch := first | assumption | omega | fail) [wkB, retV, stabOk, dC, ev, fillD, pickCells, putAt, bnd, slD, List.getElem?_cons_zero, List.getElem?_cons_succ, Mem.cell, Mem.row, cells_own, cells_ro]
          have hM := hM.perm List.perm_append_comm
          refine SK_stS hM 0 rfl (o := 5) (vs := [.iface 92 (.pointer (some ⟨ib, 0, none⟩))]) (cs' := tgC (begF s 3 a) sp (slV ol s.line.length 1) (.iface 92 (.pointer (some ⟨ib, 0, none⟩))) (slV orr s.reps.length 3)) (by simp [wkB, retV, stabOk, dC, ev, fillD, pickCells, putAt, bnd, slD, List.getElem?_cons_zero, List.getElem?_cons_succ, Mem.cell, Mem.row, cells_own, cells_ro]) (by simp [wkB, retV, stabOk, dC, ev, fillD, pickCells, putAt, bnd, slD, List.getElem?_cons_zero, List.getElem?_cons_succ, Mem.cell, Mem.row, cells_own, cells_ro]) (by simp [tgC]) rfl rfl (by simp [tgC, putAt, begF]) fun m4 h4 _ => ?_
          simp -implicitDefEqProofs (disch := first | assumption | omega | fail) [wkB, retV, stabOk, dC, ev, fillD, pickCells, putAt, bnd, slD, List.getElem?_cons_zero, List.getElem?_cons_succ, Mem.cell, Mem.row, cells_own, cells_ro, rc64_0]
          exact h1 m4 3 _ H hix h4 ⟨ib, rfl, hR⟩
        · have h3' : ((j : Int) == 3) = false := beq_eq_false_iff_ne.2 (by omega)
          have e0 : ((j : Int) != 0) = decide (j ≠ 0) := by by_cases hh : j = 0 <;> simp [hh]
          simp -implicitDefEqProofs (disch := first | assumption | omega | fail) [wkB, retV, stabOk, dC, ev, fillD, pickCells, putAt, bnd, slD, List.getElem?_cons_zero, List.getElem?_cons_succ, Mem.cell, Mem.row, cells_own, cells_ro, t0, t11, g2, h3', e0]
          refine c_rOf (n := 1) h2 fun ir H M hM hR => ?_
          simp -implicitDefEqProofs (disch := first | assumption | omega | fail) [wkB, retV, stabOk, dC, ev, fillD, pickCells, putAt, bnd, slD, List.getElem?_cons_zero, List.getElem?_cons_succ, Mem.cell, Mem.row, cells_own, cells_ro]
          have hM := hM.perm List.perm_append_comm
          refine SK_stS hM 0 rfl (o := 5) (vs := [.iface 91 (.pointer (some ⟨ir, 0, none⟩))]) (cs' := tgC (begF s j a) sp (slV ol s.line.length 1) (.iface 91 (.pointer (some ⟨ir, 0, none⟩))) (slV orr s.reps.length 3)) (by simp [wkB, retV, stabOk, dC, ev, fillD, pickCells, putAt, bnd, slD, List.getElem?_cons_zero, List.getElem?_cons_succ, Mem.cell, Mem.row, cells_own, cells_ro]) (by simp [wkB, retV, stabOk, dC, ev, fillD, pickCells, putAt, bnd, slD, List.getElem?_cons_zero, List.getElem?_cons_succ, Mem.cell, Mem.row, cells_own, cells_ro]) (by simp [tgC]) rfl rfl (by simp [tgC, putAt, begF]) fun m4 h4 _ => ?_
          simp -implicitDefEqProofs (disch := first | assumption | omega | fail) [wkB, retV, stabOk, dC, ev, fillD, pickCells, putAt, bnd, slD, List.getElem?_cons_zero, List.getElem?_cons_succ, Mem.cell, Mem.row, cells_own, cells_ro, rc64_0]
          refine h1 m4 j _ H hix h4 ?_
          simp only [begF, if_neg h3]
          exact ⟨ir, rfl, by simpa using hR⟩
      · have hw2 : (!(wayL j == way)) = true := by simp; exact fun e => hw e.symm
        simp -implicitDefEqProofs (disch := first | assumption | omega | fail) [rc64_3, rc64_2, wkB, retV, stabOk, dC, ev, fillD, pickCells, putAt, bnd, slD, List.getElem?_cons_zero, List.getElem?_cons_succ, Mem.cell, Mem.row, cells_own, cells_ro, t0, t1, t2, t9, t10, t11, hj8, hidx, gw, hc, getL1 hc, hw2, w1]
        exact hK (k - 1) _ _ (by omega) ⟨j + 1, by omega, rfl, fun i hi => by
          by_cases e : i = j
          · subst e; exact hw
          · exact hne i (by omega), by simp [t0], by simp [t1], by simp [t2], by simp [t9], by simp [t10], by simp⟩
    · have hjj : j = 4 := by omega
      subst hjj
      have hix : wayIx way = none := by
        unfold wayIx
        rw [if_neg (hne 0 (by omega)), if_neg (hne 1 (by omega)), if_neg (hne 2 (by omega)), if_neg (hne 3 (by omega))]
      simp -implicitDefEqProofs (disch := first | assumption | omega | fail) [rc64_3, rc64_4, wkB, retV, stabOk, dC, ev, fillD, pickCells, putAt, bnd, slD, List.getElem?_cons_zero, List.getElem?_cons_succ, Mem.cell, Mem.row, cells_own, cells_ro, t10, t11]
      exact h0 m' hix hh1.tl
end Go.Proofs.YtiapjjgmmiifmaaGreatDoor.Ab

set_option linter.unusedVariables false
set_option linter.unusedSimpArgs false
namespace Go.Proofs.YtiapjjgmmiifmaaGreatDoor.Ab
open Go Go.RowKit
set_option maxHeartbeats 4000000
set_option maxRecDepth 100000
def proL : List UInt8 := [13, 10, 61, 62, 32]
def qryL : List UInt8 := 63 :: proL
def load4 : List UInt8 := [108, 111, 97, 100]
def sum3 : List UInt8 := [115, 117, 109]
def loadR (s : TgS) (w b c : List UInt8) : Option TgS := if w = load4 then (match hexN c, wayIx b with | some a, some k => some (begF s k a) | _, _ => none) else none
def sumR (s : TgS) (w b c : List UInt8) : Option (Int × Int × Nat) := if w = sum3 then (match hexN b, hexN c with | some x, some y => if fitsF x y = true then some ((x : Int), (y : Int), prN ((s.mem.drop x).take y)) else none | _, _ => none) else none
def elseF (line : List UInt8) : List UInt8 := if line = [] then proL else qryL
def doesF (s : TgS) (line : List UInt8) : TgS × List UInt8 := match words 32 line with
  | [w, b, c] => match loadR s w b c with
    | some s' => (s', [])
    | none => match sumR s w b c with
      | some r => ({ s with reps := s.reps ++ [r] }, lineL r.1 r.2.1 r.2.2 ++ [61, 62, 32])
      | none => (s, elseF line)
  | _ => (s, elseF line)
theorem words3 {line w b c : List UInt8} (h : words 32 line = [w, b, c]) : w.length ≤ line.length ∧ b.length ≤ line.length ∧ c.length ≤ line.length := by
  have hj := splitK_join (c := 32) (line.count 32) line
  rw [show Lib.splitK [32] 0 (line.count 32) line = words 32 line from rfl, h] at hj
  simp only [joinC] at hj
  have := congrArg List.length hj
  simp at this
  omega
theorem c_hexQ {w0 : World} {m : Mem} {s : List UInt8} {Q : Value → Mem → Prop} (hp : Part L0 m) (ht : Ten w0) (hE : ErrV w0) (hs : s.length ≤ 1000000)
    (hq : ∀ M (z : Int) (b : Bool), Old m M → (b = true → ∃ n : Nat, hexN s = some n ∧ z = n) → (b = false → hexN s = none) → Q (.tuple ⟨[.int .i64 z, .bool b]⟩) M) :
    AbC Tryz.prog w0 63 [.string ⟨⟨s⟩⟩] m Q :=
  c_hex hp ht hE hs (fun M n o h => hq M n true o (fun _ => ⟨n, h, rfl⟩) fun e => by cases e) fun M z o h => hq M z false o (fun e => by cases e) fun _ => h
theorem c_tdoes {w0 : World} {V : Nat → Prop} {m : Mem} {H : HL} {it : Nat} {s : TgS} {line : List UInt8} {Q : Value → Mem → Prop} (ht : Ten w0) (hE : ErrV w0) (h : Sep m V m H) (hR : TgR H it s) (hno : s.tak = .no) (hl : line.length ≤ 80) (hrl : s.reps.length ≤ 5000000000000)
    (hq : ∀ M H', Sep m V M H' → TgR H' it (doesF s line).1 → Q (.string ⟨⟨(doesF s line).2⟩⟩) M) :
    AbC Tryz.prog w0 45 [.pointer (some ⟨it, 0, none⟩), .string ⟨⟨line⟩⟩] m Q := by
  refine AbC_fn ok45 (by simp) ?_
  obtain ⟨⟨sp, ol, orr, tv, HT, rfl, hT, hol, hor⟩, hml, hll⟩ := hR
  rw [hno] at hT
  obtain ⟨rfl, rfl⟩ := hT
  have hR0 : TgR (tgH it sp ol orr .nilIface s ++ []) it s := ⟨⟨sp, ol, orr, .nilIface, [], rfl, by rw [hno]; exact ⟨rfl, rfl⟩, hol, hor⟩, hml, hll⟩
  have fin : ∀ fr M, Sep m V M (tgH it sp ol orr .nilIface s) → fr 1 = .string ⟨⟨line⟩⟩ → doesF s line = (s, elseF line) → AbW Tryz.prog w0 rc45_1 (bodyA [.mv (.tmp 4)] Q) fr M := by
    intro fr M hM t1 hd
    rw [hd] at hq
    by_cases hn : line = []
    · subst hn
      simp -implicitDefEqProofs (disch := first | assumption | omega | fail) [rc45_1, wkB, retV, stabOk, dC, ev, fillD, pickCells, putAt, bnd, slD, List.getElem?_cons_zero, List.getElem?_cons_succ, Mem.cell, Mem.row, cells_own, cells_ro, t1]
      exact hq M _ (by simpa using hM) hR0
    · have hn2 : (line == []) = false := by simpa using hn
      have e1 : elseF line = qryL := by unfold elseF; rw [if_neg hn]
      rw [e1] at hq
      simp -implicitDefEqProofs (disch := first | assumption | omega | fail) [rc45_1, rc45_0, wkB, retV, stabOk, dC, ev, fillD, pickCells, putAt, bnd, slD, List.getElem?_cons_zero, List.getElem?_cons_succ, Mem.cell, Mem.row, cells_own, cells_ro, t1, hn2]
      exact hq M _ (by simpa using hM) hR0
  simp -implicitDefEqProofs (disch := first | assumption | omega | fail) [rc45, ro45, wkB, retV, stabOk, dC, ev, fillD, pickCells, putAt, bnd, slD, List.getElem?_cons_zero, List.getElem?_cons_succ, Mem.cell, Mem.row, cells_own, cells_ro]
  refine c_Split (c := 32) (by show line.length < _; omega) ?_
  have h1 := h.push (.own ((words 32 line).map fun l => .string ⟨⟨l⟩⟩) 9)
  rw [show (ByteArray.mk ⟨line⟩).data.toList = line from rfl]
  obtain ⟨m1, hm1⟩ : ∃ m1, m.push (.own ((words 32 line).map fun l => .string ⟨⟨l⟩⟩) 9) = m1 := ⟨_, rfl⟩
  obtain ⟨bw, hbw⟩ : ∃ bw, m.next = bw := ⟨_, rfl⟩
  rw [hm1, hbw] at h1
  rw [hm1, hbw]
  clear hm1
  unfold doesF at hq fin
  generalize hwd : words 32 line = ws at *
  by_cases h3 : ws.length = 3
  · obtain ⟨w, b, c, rfl⟩ : ∃ w b c, ws = [w, b, c] := by
      match ws, h3 with
      | [w, b, c], _ => exact ⟨w, b, c, rfl⟩
    have g1 := h1.get 0 rfl
    have i0 : sidx 1 (.slice (some ⟨bw, 0, none⟩) 3 1) (.int .i64 0) = some (.pointer (some ⟨bw, 0, none⟩)) := rfl
    have i1 : sidx 1 (.slice (some ⟨bw, 0, none⟩) 3 1) (.int .i64 1) = some (.pointer (some ⟨bw, 1, none⟩)) := rfl
    have i2 : sidx 1 (.slice (some ⟨bw, 0, none⟩) 3 1) (.int .i64 2) = some (.pointer (some ⟨bw, 2, none⟩)) := rfl
    have hcl : c.length ≤ 1000000 ∧ b.length ≤ 1000000 := by have := words3 hwd; omega
    have sums : ∀ fr M, Sep m V M ((some bw, .own [.string ⟨⟨w⟩⟩, .string ⟨⟨b⟩⟩, .string ⟨⟨c⟩⟩] 9) :: tgH it sp ol orr .nilIface s) → fr 0 = .pointer (some ⟨it, 0, none⟩) → fr 1 = .string ⟨⟨line⟩⟩ → fr 5 = .slice (some ⟨bw, 0, none⟩) 3 1 → loadR s w b c = none → AbW Tryz.prog w0 rc45_2 (bodyA [.mv (.tmp 4)] Q) fr M := by
      intro fr M hM t0 t1 t5 hlr
      have gM := hM.get 0 rfl
      simp only [hlr] at hq fin
      by_cases hw : w = sum3
      · have hw2 : (w == ([115, 117, 109] : List UInt8)) = true := by simp [hw, sum3]
        simp -implicitDefEqProofs (disch := first | assumption | omega | fail) [rc45_2, wkB, retV, stabOk, dC, ev, fillD, pickCells, putAt, bnd, slD, List.getElem?_cons_zero, List.getElem?_cons_succ, Mem.cell, Mem.row, cells_own, cells_ro, t0, t1, t5, i0, i1, i2, gM, hw2]
        refine c_hexQ hM.pt ht hE hcl.2 fun M1 z1 b1 o1 et1 ef1 => ?_
        have hM1 := hM.old o1
        have gM1 := hM1.get 0 rfl
        simp -implicitDefEqProofs (disch := first | assumption | omega | fail) [wkB, retV, stabOk, dC, ev, fillD, pickCells, putAt, bnd, slD, List.getElem?_cons_zero, List.getElem?_cons_succ, Mem.cell, Mem.row, cells_own, cells_ro, t0, t1, t5, i2, gM1]
        refine c_hexQ hM1.pt ht hE hcl.1 fun M2 z2 b2 o2 et2 ef2 => ?_
        have hM2 := hM1.old o2
        have gM2 := hM2.get 1 rfl
        simp only [tgC] at gM2
        simp -implicitDefEqProofs (disch := first | assumption | omega | fail) [wkB, retV, stabOk, dC, ev, fillD, pickCells, putAt, bnd, slD, List.getElem?_cons_zero, List.getElem?_cons_succ, Mem.cell, Mem.row, cells_own, cells_ro, t0, t1, t5, gM2]
        have hsn : (b1 = false ∨ b2 = false ∨ fitsF z1 z2 = false) → sumR s w b c = none := fun hh => by
          unfold sumR
          rw [if_pos hw]
          cases b1 with
          | false => rw [ef1 rfl]
          | true =>
            obtain ⟨n1, e1, rfl⟩ := et1 rfl
            rw [e1]
            cases b2 with
            | false => rw [ef2 rfl]
            | true =>
              obtain ⟨n2, e2, rfl⟩ := et2 rfl
              rw [e2]
              simp only
              rw [if_neg]
              rcases hh with hh | hh | hh
              · cases hh
              · cases hh
              · rw [hh]; simp
        refine c_sPrint (s := s.mem) hM2 2 rfl hml (fun hf M3 h3 => ?_) fun hf => ?_
        · cases b1 with
          | false =>
            simp -implicitDefEqProofs (disch := first | assumption | omega | fail) [wkB, retV, stabOk, dC, ev, fillD, pickCells, putAt, bnd, slD, List.getElem?_cons_zero, List.getElem?_cons_succ, Mem.cell, Mem.row, cells_own, cells_ro, t0, t1, t5]
            exact fin _ M3 h3.tl (by simp [t1]) (by rw [hsn (.inl rfl)])
          | true =>
            cases b2 with
            | false =>
              simp -implicitDefEqProofs (disch := first | assumption | omega | fail) [wkB, retV, stabOk, dC, ev, fillD, pickCells, putAt, bnd, slD, List.getElem?_cons_zero, List.getElem?_cons_succ, Mem.cell, Mem.row, cells_own, cells_ro, t0, t1, t5]
              exact fin _ M3 h3.tl (by simp [t1]) (by rw [hsn (.inr (.inl rfl))])
            | true =>
              obtain ⟨n1, e1, rfl⟩ := et1 rfl
              obtain ⟨n2, e2, rfl⟩ := et2 rfl
              have hsr : sumR s w b c = some ((n1 : Int), (n2 : Int), prN ((s.mem.drop n1).take n2)) := by
                unfold sumR
                rw [if_pos hw, e1, e2]
                simp only
                rw [if_pos hf]
              simp only [hsr] at hq
              simp only [Int.toNat_natCast]
              have hpl := prN_lt ((s.mem.drop n1).take n2)
              generalize prN ((s.mem.drop n1).take n2) = pr at *
              have hl1 := hexN_lt e1
              have hl2 := hexN_lt e2
              simp -implicitDefEqProofs (disch := first | assumption | omega | fail) [wkB, retV, stabOk, dC, ev, fillD, pickCells, putAt, bnd, slD, List.getElem?_cons_zero, List.getElem?_cons_succ, Mem.cell, Mem.row, cells_own, cells_ro, t0, t1, t5]
              refine SK_alS h3 fun br m4 h4 _ _ => ?_
              simp -implicitDefEqProofs (disch := first | assumption | omega | fail) [wkB, retV, stabOk, dC, ev, fillD, pickCells, putAt, bnd, slD, List.getElem?_cons_zero, List.getElem?_cons_succ, Mem.cell, Mem.row, cells_own, cells_ro]
              refine SK_stS h4 0 rfl (o := 0) (vs := repC ((n1 : Int), (n2 : Int), pr)) (cs' := repC ((n1 : Int), (n2 : Int), pr)) (by simp [wkB, retV, stabOk, dC, ev, fillD, pickCells, putAt, bnd, slD, List.getElem?_cons_zero, List.getElem?_cons_succ, Mem.cell, Mem.row, cells_own, cells_ro]) (by simp [wkB, retV, stabOk, dC, ev, fillD, pickCells, putAt, bnd, slD, List.getElem?_cons_zero, List.getElem?_cons_succ, Mem.cell, Mem.row, cells_own, cells_ro, repC]) (by simp) rfl rfl rfl fun m5 h5 _ => ?_
              have g50 := h5.get 0 rfl
              have g52 := h5.get 2 rfl
              simp only [tgC] at g52
              simp only [repC] at g50
              simp -implicitDefEqProofs (disch := first | assumption | omega | fail) [wkB, retV, stabOk, dC, ev, fillD, pickCells, putAt, bnd, slD, List.getElem?_cons_zero, List.getElem?_cons_succ, Mem.cell, Mem.row, cells_own, cells_ro, t0, g50, g52]
              refine SK_bslS h5 (cs := repC ((n1 : Int), (n2 : Int), pr)) (by simp [fillD, pickCells, wkB, retV, stabOk, dC, ev, fillD, pickCells, putAt, bnd, slD, List.getElem?_cons_zero, List.getElem?_cons_succ, Mem.cell, Mem.row, cells_own, cells_ro, repC, g50]) rfl fun bs m6 h6 _ _ => ?_
              have g60 := h6.get 1 rfl
              have g62 := h6.get 3 rfl
              simp only [tgC] at g62
              simp only [repC] at g60
              have hO6 := (h6.slO 0 (k := 1) (sz := 3) rfl rfl (fun e => by cases e)).read
              simp -implicitDefEqProofs (disch := first | assumption | omega | fail) [wkB, retV, stabOk, dC, ev, fillD, pickCells, putAt, bnd, slD, List.getElem?_cons_zero, List.getElem?_cons_succ, Mem.cell, Mem.row, cells_own, cells_ro, t0, g60, g62]
              refine SK_apS h6 6 (n := s.reps.length) (k := 1) (ys := repC ((n1 : Int), (n2 : Int), pr)) rfl (by simp [wkB, retV, stabOk, dC, ev, fillD, pickCells, putAt, bnd, slD, List.getElem?_cons_zero, List.getElem?_cons_succ, Mem.cell, Mem.row, cells_own, cells_ro]) (flat_len repC_len s.reps) hor (by simp [wkB, retV, stabOk, dC, ev, fillD, pickCells, putAt, bnd, slD, List.getElem?_cons_zero, List.getElem?_cons_succ, Mem.cell, Mem.row, cells_own, cells_ro]; exact hO6.elems) (by simp [wkB, retV, stabOk, dC, ev, fillD, pickCells, putAt, bnd, slD, List.getElem?_cons_zero, List.getElem?_cons_succ, Mem.cell, Mem.row, cells_own, cells_ro]) rfl (by omega) (by unfold maxLen; omega) rfl fun or7 m7 h7 hn7 _ => ?_
              simp -implicitDefEqProofs (disch := first | assumption | omega | fail) [wkB, retV, stabOk, dC, ev, fillD, pickCells, putAt, bnd, slD, List.getElem?_cons_zero, List.getElem?_cons_succ, Mem.cell, Mem.row, cells_own, cells_ro, t0]
              refine SK_stS h7 3 rfl (o := 7) (vs := [slV or7 (s.reps.length + 1) 3]) (cs' := tgC { s with reps := s.reps ++ [((n1 : Int), (n2 : Int), pr)] } sp (slV ol s.line.length 1) .nilIface (slV or7 (s.reps.length + 1) 3)) (by simp [wkB, retV, stabOk, dC, ev, fillD, pickCells, putAt, bnd, slD, List.getElem?_cons_zero, List.getElem?_cons_succ, Mem.cell, Mem.row, cells_own, cells_ro]) (by simp [wkB, retV, stabOk, dC, ev, fillD, pickCells, putAt, bnd, slD, List.getElem?_cons_zero, List.getElem?_cons_succ, Mem.cell, Mem.row, cells_own, cells_ro]) (by simp [tgC]) rfl (by simp [oneC_slV]) (by simp [tgC, putAt]) fun m8 h8 _ => ?_
              have g8 := h8.get 1 rfl
              simp only [repC] at g8
              simp -implicitDefEqProofs (disch := first | assumption | omega | fail) [wkB, retV, stabOk, dC, ev, fillD, pickCells, putAt, bnd, slD, List.getElem?_cons_zero, List.getElem?_cons_succ, Mem.cell, Mem.row, cells_own, cells_ro, g8]
              refine c_Line h8.pt ht (by omega) (by omega) hpl fun m9 o9 => ?_
              have h9 := h8.old o9
              have e10 : s.reps.flatMap repC ++ repC ((n1 : Int), (n2 : Int), pr) = (s.reps ++ [((n1 : Int), (n2 : Int), pr)]).flatMap repC := by simp
              rw [e10] at h9
              have hlen := catB (lineL n1 n2 pr) [61, 62, 32] (by
                have la := num16 (i := n1) (by omega)
                have ln := num16 (i := n2) (by omega)
                have lp := digs_64 (b := 16) (by omega) (show pr < 18446744073709551616 by omega)
                simp [lineL, sumW]; omega)
              have hlen : dBin .add (.string ⟨⟨lineL n1 n2 pr⟩⟩) (.string ⟨#[61, 62, 32]⟩) = some (.string ⟨⟨lineL n1 n2 pr ++ [61, 62, 32]⟩⟩) := hlen
              simp -implicitDefEqProofs (disch := first | assumption | omega | fail) [wkB, retV, stabOk, dC, ev, fillD, pickCells, putAt, bnd, slD, List.getElem?_cons_zero, List.getElem?_cons_succ, Mem.cell, Mem.row, cells_own, cells_ro, hlen]
              refine hq m9 (tgH it sp ol or7 .nilIface { s with reps := s.reps ++ [((n1 : Int), (n2 : Int), pr)] } ++ []) ?_ ⟨⟨sp, ol, or7, .nilIface, [], rfl, by rw [hno]; exact ⟨rfl, rfl⟩, hol, fun e => by have := hn7 e; omega⟩, hml, hll⟩
              have h11 := h9.sel [3, 4, 5, 6] (by decide)
              have e12 : (s.reps ++ [((n1 : Int), (n2 : Int), pr)]).length = s.reps.length + 1 := by simp
              simp only [tgH, reH, List.append_nil]
              rw [e12]
              exact h11
        · have hn := hsn (.inr (.inr hf))
          cases b1 <;> cases b2
          all_goals
            simp -implicitDefEqProofs (disch := first | assumption | omega | fail) [wkB, retV, stabOk, dC, ev, fillD, pickCells, putAt, bnd, slD, List.getElem?_cons_zero, List.getElem?_cons_succ, Mem.cell, Mem.row, cells_own, cells_ro, t0, t1, t5]
            exact fin _ M2 hM2.tl (by simp [t1]) (by rw [hn])
      · have hw2 : (w == ([115, 117, 109] : List UInt8)) = false := by simpa [sum3] using hw
        simp -implicitDefEqProofs (disch := first | assumption | omega | fail) [rc45_2, wkB, retV, stabOk, dC, ev, fillD, pickCells, putAt, bnd, slD, List.getElem?_cons_zero, List.getElem?_cons_succ, Mem.cell, Mem.row, cells_own, cells_ro, t0, t1, t5, i0, i1, i2, gM, hw2]
        exact fin _ M hM.tl (by simp [t1]) (by unfold sumR; rw [if_neg hw])
    by_cases hw : w = load4
    · have hw2 : (w == ([108, 111, 97, 100] : List UInt8)) = true := by simp [hw, load4]
      simp -implicitDefEqProofs (disch := first | assumption | omega | fail) [wkB, retV, stabOk, dC, ev, fillD, pickCells, putAt, bnd, slD, List.getElem?_cons_zero, List.getElem?_cons_succ, Mem.cell, Mem.row, cells_own, cells_ro, i0, i1, i2, g1, hw2]
      refine c_hex h1.pt ht hE hcl.1 (fun M n o hn => ?_) fun M z o hn => ?_
      · have h2 := h1.old o
        have g2 := h2.get 0 rfl
        simp -implicitDefEqProofs (disch := first | assumption | omega | fail) [wkB, retV, stabOk, dC, ev, fillD, pickCells, putAt, bnd, slD, List.getElem?_cons_zero, List.getElem?_cons_succ, Mem.cell, Mem.row, cells_own, cells_ro, i1, g2]
        have h2' := h2.rot1
        refine c_begin h2'.fr (fun M2 k tv HT hk hM hT => ?_) fun M2 hk hM => ?_
        · have hlr : loadR s w b c = some (begF s k n) := by unfold loadR; rw [if_pos hw, hn, hk]
          simp only [hlr] at hq
          simp -implicitDefEqProofs (disch := first | assumption | omega | fail) [wkB, retV, stabOk, dC, ev, fillD, pickCells, putAt, bnd, slD, List.getElem?_cons_zero, List.getElem?_cons_succ, Mem.cell, Mem.row, cells_own, cells_ro]
          exact hq M2 _ ((h2'.un hM).sub (List.sublist_append_left _ _)) ⟨⟨sp, ol, orr, tv, HT, rfl, hT, hol, hor⟩, hml, hll⟩
        · have hM := (h2'.un hM).perm List.perm_append_comm
          simp -implicitDefEqProofs (disch := first | assumption | omega | fail) [wkB, retV, stabOk, dC, ev, fillD, pickCells, putAt, bnd, slD, List.getElem?_cons_zero, List.getElem?_cons_succ, Mem.cell, Mem.row, cells_own, cells_ro]
          exact sums _ M2 hM (by simp [frA_at]) (by simp [frA_at]) (by simp) (by unfold loadR; rw [if_pos hw, hn, hk])
      · have h2 := h1.old o
        simp -implicitDefEqProofs (disch := first | assumption | omega | fail) [wkB, retV, stabOk, dC, ev, fillD, pickCells, putAt, bnd, slD, List.getElem?_cons_zero, List.getElem?_cons_succ, Mem.cell, Mem.row, cells_own, cells_ro]
        exact sums _ M h2 (by simp [frA_at]) (by simp [frA_at]) (by simp) (by unfold loadR; rw [if_pos hw, hn])
    · have hw2 : (w == ([108, 111, 97, 100] : List UInt8)) = false := by simpa [load4] using hw
      simp -implicitDefEqProofs (disch := first | assumption | omega | fail) [wkB, retV, stabOk, dC, ev, fillD, pickCells, putAt, bnd, slD, List.getElem?_cons_zero, List.getElem?_cons_succ, Mem.cell, Mem.row, cells_own, cells_ro, i0, i1, i2, g1, hw2]
      exact sums _ m1 h1 (by simp [frA_at]) (by simp [frA_at]) (by simp) (by unfold loadR; rw [if_neg hw])
  · have h3' : ((ws.length : Int) == 3) = false := beq_eq_false_iff_ne.2 (by omega)
    simp -implicitDefEqProofs (disch := first | assumption | omega | fail) [wkB, retV, stabOk, dC, ev, fillD, pickCells, putAt, bnd, slD, List.getElem?_cons_zero, List.getElem?_cons_succ, Mem.cell, Mem.row, cells_own, cells_ro, h3', rc45_2]
    refine fin _ m1 h1.tl (by simp [frA_at]) ?_
    split
    · simp at h3
    · rfl
end Go.Proofs.YtiapjjgmmiifmaaGreatDoor.Ab

set_option linter.unusedVariables false
set_option linter.unusedSimpArgs false
namespace Go.Proofs.YtiapjjgmmiifmaaGreatDoor.Ab
open Go Go.RowKit
set_option maxHeartbeats 4000000
set_option maxRecDepth 100000
def pushL (l : List UInt8) (c : UInt8) : List UInt8 := if l.length < 80 then l ++ [c] else l
def putCF (s : TgS) (c : UInt8) : TgS × List UInt8 :=
  if s.asleep = true then ({ s with asleep := false }, proL)
  else if c = 13 then doesF { s with line := [] } s.line
  else ({ s with line := pushL s.line c }, [])
/-- Told: what is told of a board by a byte, or by bytes. -/
def TgQ (V : Nat → Prop) (m : Mem) (it : Nat) (r : TgS × List UInt8) (Q : Value → Mem → Prop) : Prop :=
  ∀ oo H' M, Sep m V M (byH oo r.2 :: H') → TgR H' it r.1 → (oo = none → r.2.length = 0) → Q (slV oo r.2.length 1) M
theorem line_len {a n : Nat} {p : Nat} (ha : a < 4294967296) (hn : n < 4294967296) (hp : p < 4294967296) : (lineL a n p).length ≤ 100 := by
  have la := num16 (i := a) (by omega)
  have ln := num16 (i := n) (by omega)
  have lp := digs_64 (b := 16) (by omega) (show p < 18446744073709551616 by omega)
  simp [lineL, sumW]; omega
theorem sumR_lt {s : TgS} {w b c : List UInt8} {r : Int × Int × Nat} (h : sumR s w b c = some r) : ∃ x y : Nat, r = ((x : Int), (y : Int), prN ((s.mem.drop x).take y)) ∧ x < 4294967296 ∧ y < 4294967296 ∧ fitsF x y = true ∧ hexN b = some x ∧ hexN c = some y ∧ w = sum3 := by
  unfold sumR at h
  split at h
  · rename_i hw
    split at h
    · rename_i x y hx hy
      split at h
      · rename_i hf
        cases h
        exact ⟨x, y, rfl, hexN_lt hx, hexN_lt hy, hf, hx, hy, hw⟩
      · cases h
    · cases h
  · cases h
theorem doesF_len (s : TgS) (line : List UInt8) : (doesF s line).2.length ≤ 200 := by
  unfold doesF
  have he : (elseF line).length ≤ 6 := by unfold elseF; split <;> simp [proL, qryL]
  split
  · split
    · simp
    · split
      · rename_i r hr
        obtain ⟨x, y, rfl, hx, hy, -⟩ := sumR_lt hr
        have := line_len hx hy (prN_lt ((s.mem.drop x).take y))
        simp only [List.length_append, List.length_cons, List.length_nil]
        omega
      · simp only; omega
  · simp only; omega
theorem c_tput {w0 : World} {V : Nat → Prop} {m : Mem} {H : HL} {it : Nat} {s : TgS} {c : UInt8} {Q : Value → Mem → Prop} (ht : Ten w0) (hE : ErrV w0) (h : Sep m V m H) (hR : TgR H it s) (hno : s.tak = .no) (hrl : s.reps.length ≤ 5000000000000)
    (hq : TgQ V m it (putCF s c) Q) : AbC Tryz.prog w0 30 [.pointer (some ⟨it, 0, none⟩), .int .u8 (c.toNat : Int)] m Q := by
  refine AbC_fn ok30 (by simp) ?_
  obtain ⟨⟨sp, ol, orr, tv, HT, rfl, hT, hol, hor⟩, hml, hll⟩ := hR
  rw [hno] at hT
  obtain ⟨rfl, rfl⟩ := hT
  have g0 := h.get 0 rfl
  simp only [tgC] at g0
  unfold putCF at hq
  cases has : s.asleep with
  | true =>
    rw [if_pos has] at hq
    rw [has] at g0
    simp -implicitDefEqProofs (disch := first | assumption | omega | fail) [rc30, ro30, wkB, retV, stabOk, dC, ev, fillD, pickCells, putAt, bnd, slD, List.getElem?_cons_zero, List.getElem?_cons_succ, Mem.cell, Mem.row, cells_own, cells_ro, g0]
    refine SK_stS h 0 rfl (o := 3) (vs := [.bool false]) (cs' := tgC { s with asleep := false } sp (slV ol s.line.length 1) .nilIface (slV orr s.reps.length 3)) (by simp [wkB, retV, stabOk, dC, ev, fillD, pickCells, putAt, bnd, slD, List.getElem?_cons_zero, List.getElem?_cons_succ, Mem.cell, Mem.row, cells_own, cells_ro]) (by simp [wkB, retV, stabOk, dC, ev, fillD, pickCells, putAt, bnd, slD, List.getElem?_cons_zero, List.getElem?_cons_succ, Mem.cell, Mem.row, cells_own, cells_ro]) (by simp [tgC]) rfl rfl (by simp [tgC, putAt]) fun m1 h1 _ => ?_
    simp -implicitDefEqProofs (disch := first | assumption | omega | fail) [wkB, retV, stabOk, dC, ev, fillD, pickCells, putAt, bnd, slD, List.getElem?_cons_zero, List.getElem?_cons_succ, Mem.cell, Mem.row, cells_own, cells_ro]
    refine SK_bslS h1 (cs := proL.map byteV) (by simp [fillD, pickCells, wkB, retV, stabOk, dC, ev, fillD, pickCells, putAt, bnd, slD, List.getElem?_cons_zero, List.getElem?_cons_succ, Mem.cell, Mem.row, cells_own, cells_ro, byteV, proL]) rfl fun b m2 h2 _ _ => ?_
    have g2 := h2.get 0 rfl
    simp -implicitDefEqProofs (disch := first | assumption | omega | fail) [wkB, retV, stabOk, dC, ev, fillD, pickCells, putAt, bnd, slD, List.getElem?_cons_zero, List.getElem?_cons_succ, Mem.cell, Mem.row, cells_own, cells_ro]
    refine SK_cvm (i := b) (o := 0) (n := 5) (z := 1) (cs := proL.map byteV) (by simp [wkB, retV, stabOk, dC, ev, fillD, pickCells, putAt, bnd, slD, List.getElem?_cons_zero, List.getElem?_cons_succ, Mem.cell, Mem.row, cells_own, cells_ro]) g2 ?_
    simp -implicitDefEqProofs (disch := first | assumption | omega | fail) [wkB, retV, stabOk, dC, ev, fillD, pickCells, putAt, bnd, slD, List.getElem?_cons_zero, List.getElem?_cons_succ, Mem.cell, Mem.row, cells_own, cells_ro]
    exact hq (some b) _ m2 h2 ⟨⟨sp, ol, orr, .nilIface, [], rfl, by rw [hno]; exact ⟨rfl, rfl⟩, hol, hor⟩, hml, hll⟩ (fun e => by cases e)
  | false =>
    rw [if_neg (by rw [has]; simp)] at hq
    rw [has] at g0
    by_cases hc : c = 13
    · subst hc
      rw [if_pos rfl] at hq
      have hO := (h.slO 2 (k := s.line.length) (sz := 1) rfl (by simp) hol).read
      have hbs : bstr m (slV ol s.line.length 1) = some (.string ⟨⟨s.line⟩⟩) := SlR.txt hO
      have e13 : (((13 : UInt8).toNat : Int) == 13) = true := rfl
      simp -implicitDefEqProofs (disch := first | assumption | omega | fail) [rc30, ro30, wkB, retV, stabOk, dC, ev, fillD, pickCells, putAt, bnd, slD, List.getElem?_cons_zero, List.getElem?_cons_succ, Mem.cell, Mem.row, cells_own, cells_ro, g0, rc30_2, e13, hbs]
      refine SK_stS h 0 rfl (o := 4) (vs := [.slice none 0 0]) (cs' := tgC { s with line := [] } sp (.slice none 0 0) .nilIface (slV orr s.reps.length 3)) (by simp [wkB, retV, stabOk, dC, ev, fillD, pickCells, putAt, bnd, slD, List.getElem?_cons_zero, List.getElem?_cons_succ, Mem.cell, Mem.row, cells_own, cells_ro]) (by simp [wkB, retV, stabOk, dC, ev, fillD, pickCells, putAt, bnd, slD, List.getElem?_cons_zero, List.getElem?_cons_succ, Mem.cell, Mem.row, cells_own, cells_ro]) (by simp [tgC]) rfl rfl (by simp [tgC, putAt]) fun m1 h1 _ => ?_
      have h1 : Sep m V m1 (tgH it sp none orr .nilIface { s with line := [] } ++ []) := h1.nul 2 (.own [] 5)
      simp -implicitDefEqProofs (disch := first | assumption | omega | fail) [wkB, retV, stabOk, dC, ev, fillD, pickCells, putAt, bnd, slD, List.getElem?_cons_zero, List.getElem?_cons_succ, Mem.cell, Mem.row, cells_own, cells_ro]
      have hdl := doesF_len { s with line := [] } s.line
      refine c_tdoes ht hE h1.self ⟨⟨sp, none, orr, .nilIface, [], rfl, by simp only [hno]; exact ⟨rfl, rfl⟩, fun _ => rfl, hor⟩, hml, by simp⟩ hno hll hrl fun M H2 h2 hR2 => ?_
      generalize doesF { s with line := [] } s.line = r at *
      have h3 := h1.tr h2
      simp -implicitDefEqProofs (disch := first | assumption | omega | fail) [wkB, retV, stabOk, dC, ev, fillD, pickCells, putAt, bnd, slD, List.getElem?_cons_zero, List.getElem?_cons_succ, Mem.cell, Mem.row, cells_own, cells_ro]
      refine SK_s2bS h3 (s := r.2) (by simp [wkB, retV, stabOk, dC, ev, fillD, pickCells, putAt, bnd, slD, List.getElem?_cons_zero, List.getElem?_cons_succ, Mem.cell, Mem.row, cells_own, cells_ro]) (by omega) fun b m4 h4 _ _ => ?_
      simp -implicitDefEqProofs (disch := first | assumption | omega | fail) [wkB, retV, stabOk, dC, ev, fillD, pickCells, putAt, bnd, slD, List.getElem?_cons_zero, List.getElem?_cons_succ, Mem.cell, Mem.row, cells_own, cells_ro]
      exact hq (some b) _ m4 h4 hR2 (fun e => by cases e)
    · rw [if_neg hc] at hq
      have e13 : ((c.toNat : Int) == 13) = false := by have := b8 c 13 (by omega); rw [show ((13 : Int)) = ((13 : Nat) : Int) from rfl, this]; simp; exact hc
      have hsl := (h.slO 2 (k := s.line.length) (sz := 1) rfl (by simp) hol).slen
      unfold pushL at hq
      by_cases hlt : s.line.length < 80
      · have hlt' : (s.line.length : Int) < 80 := by omega
        rw [if_pos hlt] at hq
        simp -implicitDefEqProofs (disch := first | assumption | omega | fail) [rc30, ro30, wkB, retV, stabOk, dC, ev, fillD, pickCells, putAt, bnd, slD, List.getElem?_cons_zero, List.getElem?_cons_succ, Mem.cell, Mem.row, cells_own, cells_ro, g0, rc30_2, e13, rc30_1, hsl, hlt']
        refine SK_bslS h (cs := ([c] : List UInt8).map byteV) (by simp [fillD, pickCells, wkB, retV, stabOk, dC, ev, fillD, pickCells, putAt, bnd, slD, List.getElem?_cons_zero, List.getElem?_cons_succ, Mem.cell, Mem.row, cells_own, cells_ro, byteV]) rfl fun b m2 h2 _ _ => ?_
        have hO2 := (h2.slO 0 (k := 1) (sz := 1) rfl rfl (fun e => by cases e)).read
        simp -implicitDefEqProofs (disch := first | assumption | omega | fail) [wkB, retV, stabOk, dC, ev, fillD, pickCells, putAt, bnd, slD, List.getElem?_cons_zero, List.getElem?_cons_succ, Mem.cell, Mem.row, cells_own, cells_ro]
        refine SK_apS h2 3 (n := s.line.length) (k := 1) (ys := ([c] : List UInt8).map byteV) rfl (by simp [wkB, retV, stabOk, dC, ev, fillD, pickCells, putAt, bnd, slD, List.getElem?_cons_zero, List.getElem?_cons_succ, Mem.cell, Mem.row, cells_own, cells_ro]) (by simp) hol (by simp [wkB, retV, stabOk, dC, ev, fillD, pickCells, putAt, bnd, slD, List.getElem?_cons_zero, List.getElem?_cons_succ, Mem.cell, Mem.row, cells_own, cells_ro]; exact hO2.elems) (by simp [wkB, retV, stabOk, dC, ev, fillD, pickCells, putAt, bnd, slD, List.getElem?_cons_zero, List.getElem?_cons_succ, Mem.cell, Mem.row, cells_own, cells_ro]) (byteV_oneC _) (by omega) (by unfold maxLen; omega) rfl fun ol3 m3 h3 hn3 _ => ?_
        simp -implicitDefEqProofs (disch := first | assumption | omega | fail) [wkB, retV, stabOk, dC, ev, fillD, pickCells, putAt, bnd, slD, List.getElem?_cons_zero, List.getElem?_cons_succ, Mem.cell, Mem.row, cells_own, cells_ro]
        refine SK_stS h3 1 rfl (o := 4) (vs := [slV ol3 (s.line.length + 1) 1]) (cs' := tgC { s with line := s.line ++ [c] } sp (slV ol3 (s.line.length + 1) 1) .nilIface (slV orr s.reps.length 3)) (by simp [wkB, retV, stabOk, dC, ev, fillD, pickCells, putAt, bnd, slD, List.getElem?_cons_zero, List.getElem?_cons_succ, Mem.cell, Mem.row, cells_own, cells_ro]) (by simp [wkB, retV, stabOk, dC, ev, fillD, pickCells, putAt, bnd, slD, List.getElem?_cons_zero, List.getElem?_cons_succ, Mem.cell, Mem.row, cells_own, cells_ro]) (by simp [tgC]) rfl (by simp [oneC_slV]) (by simp [tgC, putAt]) fun m4 h4 _ => ?_
        simp -implicitDefEqProofs (disch := first | assumption | omega | fail) [wkB, retV, stabOk, dC, ev, fillD, pickCells, putAt, bnd, slD, List.getElem?_cons_zero, List.getElem?_cons_succ, Mem.cell, Mem.row, cells_own, cells_ro, rc30_0]
        have e6 : s.line.map byteV ++ ([c] : List UInt8).map byteV = (s.line ++ [c]).map byteV := by simp
        rw [e6] at h4
        have h5 := (h4.tl).non (.own [] 5)
        refine hq none (tgH it sp ol3 orr .nilIface { s with line := s.line ++ [c] } ++ []) m4 ?_ ⟨⟨sp, ol3, orr, .nilIface, [], rfl, by simp only [hno]; exact ⟨rfl, rfl⟩, fun e => by have := hn3 e; omega, hor⟩, hml, by simp; omega⟩ (fun _ => rfl)
        have e7 : (s.line ++ [c]).length = s.line.length + 1 := by simp
        simp only [tgH, List.append_nil]
        rw [e7]
        exact h5
      · have hlt' : ¬ (s.line.length : Int) < 80 := by omega
        rw [if_neg hlt] at hq
        simp -implicitDefEqProofs (disch := first | assumption | omega | fail) [rc30, ro30, wkB, retV, stabOk, dC, ev, fillD, pickCells, putAt, bnd, slD, List.getElem?_cons_zero, List.getElem?_cons_succ, Mem.cell, Mem.row, cells_own, cells_ro, g0, rc30_2, e13, rc30_1, hsl, hlt', rc30_0]
        exact hq none _ m (h.non _) ⟨⟨sp, ol, orr, .nilIface, [], rfl, by rw [hno]; exact ⟨rfl, rfl⟩, hol, hor⟩, hml, hll⟩ (fun _ => rfl)
end Go.Proofs.YtiapjjgmmiifmaaGreatDoor.Ab

set_option linter.unusedVariables false
set_option linter.unusedSimpArgs false
namespace Go.Proofs.YtiapjjgmmiifmaaGreatDoor.Ab
open Go Go.RowKit
set_option maxHeartbeats 4000000
set_option maxRecDepth 100000
def ldF (s : TgS) (o : List UInt8) : TgS × List UInt8 :=
  if s.tak.over = false then (s, o)
  else if s.tak.err = 0 ∧ fitsF s.addr s.tak.data.length = true then ({ s with tak := .no, mem := wrF s.mem s.addr.toNat s.tak.data }, o ++ proL)
  else ({ s with tak := .no }, o ++ 33 :: proL)
theorem elems_str {m : Mem} {l : List UInt8} : elemsV m 1 (.string ⟨⟨l⟩⟩) = some (l.map byteV) := rfl
theorem c_tloaded {w0 : World} {V : Nat → Prop} {m0 m : Mem} {H : HL} {it : Nat} {s : TgS} {oo : Option Nat} {o : List UInt8} {Q : Value → Mem → Prop} (h : Sep m0 V m (byH oo o :: H)) (hoo : oo = none → o.length = 0) (hR : TgR H it s) (hne : s.tak ≠ .no)
    (hbig : s.tak.sz ≤ 140737488355328) (hol9 : o.length ≤ 1000000000) (hq : TgQ V m0 it (ldF s o) Q) : AbC Tryz.prog w0 29 [.pointer (some ⟨it, 0, none⟩), slV oo o.length 1] m Q := by
  refine AbC_fn ok29 (by simp) ?_
  have hR0 := hR
  obtain ⟨⟨sp, ol, orr, tv, HT, rfl, hT, hol, hor⟩, hml, hll⟩ := hR
  have g0 := h.get 1 rfl
  simp only [tgC] at g0
  unfold ldF at hq
  have cat1 : dBin .add (.string ⟨#[13, 10]⟩) (.string ⟨#[61, 62, 32]⟩) = some (.string ⟨⟨proL⟩⟩) := catB [13, 10] [61, 62, 32] (by simp)
  have cat2 : dBin .add (.string ⟨#[33, 13, 10]⟩) (.string ⟨#[61, 62, 32]⟩) = some (.string ⟨⟨33 :: proL⟩⟩) := catB [33, 13, 10] [61, 62, 32] (by simp)
  /- the end: the taker is let go, and it is told -/
  have fin : ∀ (fr : Fr) (M : Mem) (mem' : List UInt8) (B : HL) (say tl : List UInt8), Sep m0 V M ((byH oo o :: tgH it sp ol orr tv { s with mem := mem' }) ++ B) → mem'.length = 16384 → fr 0 = .pointer (some ⟨it, 0, none⟩) → fr 1 = slV oo o.length 1 → fr 7 = .string ⟨⟨say⟩⟩ → dBin .add (.string ⟨⟨say⟩⟩) (.string ⟨#[61, 62, 32]⟩) = some (.string ⟨⟨tl⟩⟩) → tl.length ≤ 6 →
      TgQ V m0 it ({ s with tak := .no, mem := mem' }, o ++ tl) Q → AbW Tryz.prog w0 rc29_0 (bodyA [.mv (.tmp 4)] Q) fr M := by
    intro fr M mem' B say tl hM hm' t0 t1 t7 hcat htl hq
    have gM := hM.get 1 rfl
    simp only [tgC] at gM
    simp -implicitDefEqProofs (disch := first | assumption | omega | fail) [rc29_0, wkB, retV, stabOk, dC, ev, fillD, pickCells, putAt, bnd, slD, List.getElem?_cons_zero, List.getElem?_cons_succ, Mem.cell, Mem.row, cells_own, cells_ro, t0, t1, t7, gM]
    refine SK_stS hM 1 rfl (o := 5) (vs := [.nilIface]) (cs' := tgC { s with tak := .no, mem := mem' } sp (slV ol s.line.length 1) .nilIface (slV orr s.reps.length 3)) (by simp [wkB, retV, stabOk, dC, ev, fillD, pickCells, putAt, bnd, slD, List.getElem?_cons_zero, List.getElem?_cons_succ, Mem.cell, Mem.row, cells_own, cells_ro]) (by simp [wkB, retV, stabOk, dC, ev, fillD, pickCells, putAt, bnd, slD, List.getElem?_cons_zero, List.getElem?_cons_succ, Mem.cell, Mem.row, cells_own, cells_ro]) (by simp [tgC]) rfl rfl (by simp [tgC, putAt]) fun m1 h1 _ => ?_
    simp -implicitDefEqProofs (disch := first | assumption | omega | fail) [wkB, retV, stabOk, dC, ev, fillD, pickCells, putAt, bnd, slD, List.getElem?_cons_zero, List.getElem?_cons_succ, Mem.cell, Mem.row, cells_own, cells_ro, t0, t1, t7, hcat]
    refine SK_apS h1 0 (n := o.length) (k := tl.length) (ys := tl.map byteV) rfl (by simp [wkB, retV, stabOk, dC, ev, fillD, pickCells, putAt, bnd, slD, List.getElem?_cons_zero, List.getElem?_cons_succ, Mem.cell, Mem.row, cells_own, cells_ro, t1]) (by simp) hoo (by simp [wkB, retV, stabOk, dC, ev, fillD, pickCells, putAt, bnd, slD, List.getElem?_cons_zero, List.getElem?_cons_succ, Mem.cell, Mem.row, cells_own, cells_ro, elems_str]) (by simp [wkB, retV, stabOk, dC, ev, fillD, pickCells, putAt, bnd, slD, List.getElem?_cons_zero, List.getElem?_cons_succ, Mem.cell, Mem.row, cells_own, cells_ro]; rfl) (byteV_oneC _) (by omega) (by unfold maxLen; omega) (by simp) fun oo2 m2 h2 hn2 _ => ?_
    simp -implicitDefEqProofs (disch := first | assumption | omega | fail) [wkB, retV, stabOk, dC, ev, fillD, pickCells, putAt, bnd, slD, List.getElem?_cons_zero, List.getElem?_cons_succ, Mem.cell, Mem.row, cells_own, cells_ro]
    have e6 : o.map byteV ++ tl.map byteV = (o ++ tl).map byteV := by simp
    rw [e6] at h2
    have e7 : (o ++ tl).length = o.length + tl.length := by simp
    have := hq oo2 (tgH it sp ol orr .nilIface { s with tak := .no, mem := mem' } ++ []) m2 (by
      rw [List.append_nil]
      exact h2.sub (List.sublist_append_left (byH oo2 (o ++ tl) :: tgH it sp ol orr .nilIface { s with tak := .no, mem := mem' }) B)) ⟨⟨sp, ol, orr, .nilIface, [], rfl, ⟨rfl, rfl⟩, hol, hor⟩, hm', hll⟩ (fun e => by rw [e7]; exact hn2 e)
    rw [e7] at this
    exact this
  simp -implicitDefEqProofs (disch := first | assumption | omega | fail) [rc29, ro29, wkB, retV, stabOk, dC, ev, fillD, pickCells, putAt, bnd, slD, List.getElem?_cons_zero, List.getElem?_cons_succ, Mem.cell, Mem.row, cells_own, cells_ro, g0]
  refine call_takDone h hT (fun p hp => List.mem_cons_of_mem _ (List.mem_append_right _ hp)) hne (by simp [wkB, retV, stabOk, dC, ev, fillD, pickCells, putAt, bnd, slD, List.getElem?_cons_zero, List.getElem?_cons_succ, Mem.cell, Mem.row, cells_own, cells_ro]) ?_
  cases hov : s.tak.over with
  | false =>
    rw [if_pos hov] at hq
    simp -implicitDefEqProofs (disch := first | assumption | omega | fail) [wkB, retV, stabOk, dC, ev, fillD, pickCells, putAt, bnd, slD, List.getElem?_cons_zero, List.getElem?_cons_succ, Mem.cell, Mem.row, cells_own, cells_ro]
    exact hq oo _ m h hR0 hoo
  | true =>
    rw [if_neg (by rw [hov]; simp)] at hq
    have h0 : Sep m0 V m ((byH oo o :: tgH it sp ol orr tv s) ++ HT) := h
    cases her : s.tak.err with
    | succ k =>
      rw [if_neg (fun hh => by rw [her] at hh; cases hh.1)] at hq
      simp -implicitDefEqProofs (disch := first | assumption | omega | fail) [wkB, retV, stabOk, dC, ev, fillD, pickCells, putAt, bnd, slD, List.getElem?_cons_zero, List.getElem?_cons_succ, Mem.cell, Mem.row, cells_own, cells_ro, errV, rc29_1]
      exact fin _ m s.mem HT [33, 13, 10] (33 :: proL) h0 hml (by simp [frA_at]) (by simp [frA_at]) (by simp) cat2 (by simp [proL]) hq
    | zero =>
      simp -implicitDefEqProofs (disch := first | assumption | omega | fail) [wkB, retV, stabOk, dC, ev, fillD, pickCells, putAt, bnd, slD, List.getElem?_cons_zero, List.getElem?_cons_succ, Mem.cell, Mem.row, cells_own, cells_ro, errV, rc29_1, g0]
      have h1 := h0.perm List.perm_append_comm
      refine call_takData h1.fr hT hne hbig (by simp [wkB, retV, stabOk, dC, ev, fillD, pickCells, putAt, bnd, slD, List.getElem?_cons_zero, List.getElem?_cons_succ, Mem.cell, Mem.row, cells_own, cells_ro]) fun od m2 hM hod => ?_
      have h2 := (h1.un hM).perm List.perm_append_comm
      have g2 := h2.get 1 rfl
      simp only [tgC] at g2
      have hrd : RdV (fun i => i < m2.next) m2 1 (slV od s.tak.data.length 1) (s.tak.data.map byteV) s.tak.data.length := h2.rd 5 rfl (by simp) hod (fun i hi => by subst hi; exact h2.lt 5 rfl)
      simp -implicitDefEqProofs (disch := first | assumption | omega | fail) [wkB, retV, stabOk, dC, ev, fillD, pickCells, putAt, bnd, slD, List.getElem?_cons_zero, List.getElem?_cons_succ, Mem.cell, Mem.row, cells_own, cells_ro, g2]
      refine c_sWrite h2 2 rfl hml hrd (fun hf m3 h3 => ?_) fun hf => ?_
      · rw [if_pos ⟨her, hf⟩] at hq
        have hf2 := hf
        simp only [fitsF, decide_eq_true_eq] at hf2
        simp -implicitDefEqProofs (disch := first | assumption | omega | fail) [wkB, retV, stabOk, dC, ev, fillD, pickCells, putAt, bnd, slD, List.getElem?_cons_zero, List.getElem?_cons_succ, Mem.cell, Mem.row, cells_own, cells_ro]
        exact fin _ m3 (wrF s.mem s.addr.toNat s.tak.data) (byH od s.tak.data :: HT) [13, 10] proL h3 (by rw [wrF_len (by rw [hml]; omega)]; exact hml) (by simp [frA_at]) (by simp [frA_at]) (by simp) cat1 (by simp [proL]) hq
      · rw [if_neg (fun hh => by rw [hf] at hh; cases hh.2)] at hq
        simp -implicitDefEqProofs (disch := first | assumption | omega | fail) [wkB, retV, stabOk, dC, ev, fillD, pickCells, putAt, bnd, slD, List.getElem?_cons_zero, List.getElem?_cons_succ, Mem.cell, Mem.row, cells_own, cells_ro]
        exact fin _ m2 s.mem (byH od s.tak.data :: HT) [33, 13, 10] (33 :: proL) h2 hml (by simp [frA_at]) (by simp [frA_at]) (by simp) cat2 (by simp [proL]) hq
end Go.Proofs.YtiapjjgmmiifmaaGreatDoor.Ab

set_option linter.unusedVariables false
set_option linter.unusedSimpArgs false
namespace Go.Proofs.YtiapjjgmmiifmaaGreatDoor.Ab
open Go Go.RowKit
set_option maxHeartbeats 4000000
set_option maxRecDepth 100000
def Tak.isNo : Tak → Bool
  | .no => true
  | _ => false
theorem Tak.isNo_iff {k : Tak} : k.isNo = true ↔ k = .no := by cases k <;> simp [Tak.isNo]
noncomputable def tPutL : TgS → List UInt8 → List UInt8 → TgS × List UInt8
  | s, out, [] => (s, out)
  | s, out, c :: r => if s.tak.isNo = true then tPutL (putCF s c).1 (out ++ (putCF s c).2) r
    else ((ldF { s with tak := (s.tak.put (c :: r)).1 } (s.tak.put (c :: r)).2).1, out ++ (ldF { s with tak := (s.tak.put (c :: r)).1 } (s.tak.put (c :: r)).2).2)
noncomputable def tPutF (s : TgS) (b : List UInt8) : TgS × List UInt8 :=
  if s.tak.isNo = true then tPutL s [] b else ldF { s with tak := (s.tak.put b).1 } (s.tak.put b).2
noncomputable def tTickF (s : TgS) : TgS × List UInt8 :=
  if s.tak.isNo = true then (s, []) else ldF { s with tak := s.tak.tick.1 } s.tak.tick.2
theorem begF_sz (s : TgS) (k : Nat) (a : Int) : (begF s k a).tak.sz = 0 ∧ (begF s k a).reps = s.reps := by
  refine ⟨?_, rfl⟩
  unfold begF
  simp only
  split <;> rfl
theorem doesF_keep (s : TgS) (line : List UInt8) (hno : s.tak = .no) : (doesF s line).1.tak.sz = 0 ∧ (doesF s line).1.reps.length ≤ s.reps.length + 1 := by
  have h0 : s.tak.sz = 0 ∧ s.reps.length ≤ s.reps.length + 1 := ⟨by rw [hno]; rfl, by omega⟩
  unfold doesF
  split
  · rename_i w b c _
    split
    · rename_i s' hs
      unfold loadR at hs
      split at hs
      · split at hs
        · cases hs
          have := begF_sz s
          exact ⟨(this _ _).1, by rw [(this _ _).2]; omega⟩
        · cases hs
      · cases hs
    · split
      · exact ⟨h0.1, by simp⟩
      · exact h0
  · exact h0
theorem putCF_keep (s : TgS) (c : UInt8) (hno : s.tak = .no) : (putCF s c).1.tak.sz = 0 ∧ (putCF s c).1.reps.length ≤ s.reps.length + 1 ∧ (putCF s c).2.length ≤ 200 := by
  unfold putCF
  split
  · exact ⟨by simp [hno, Tak.sz], by simp, by simp [proL]⟩
  · split
    · have := doesF_keep { s with line := [] } s.line hno
      exact ⟨this.1, this.2, doesF_len _ _⟩
    · exact ⟨by simp [hno, Tak.sz], by simp, by simp⟩
theorem takPut_no {k : Tak} {b : List UInt8} (h : k ≠ .no) : (k.put b).1 ≠ .no := by
  cases k
  · exact absurd rfl h
  · simp [Tak.put]
  · simp [Tak.put]
theorem takTick_no {k : Tak} (h : k ≠ .no) : k.tick.1 ≠ .no := by
  cases k
  · exact absurd rfl h
  · simp [Tak.tick]
  · simp [Tak.tick]
theorem rOut (s : Rc) (b : List UInt8) : (rPutF s b).2.length ≤ 2 := by
  have hf : ∀ s, (finF s).2.length ≤ 2 := fun s => by unfold finF; split <;> simp
  have ht : ∀ s n d, (takeF s n d).2.length ≤ 2 := fun s n d => by
    unfold takeF
    split
    · exact hf _
    · split
      · simp
      · exact hf _
  unfold rPutF
  split
  · simp
  · unfold rPut1
    split
    · simp
    · split
      · simp
      · split
        · simp
        · unfold scaF
          split
          · simp
          · split
            · simp
            · exact ht _ _ _
theorem rTickOut (s : Rc) : (rTickF s).2.length ≤ 2 := by
  unfold rTickF
  split
  · simp
  · split
    · simp
    · split
      · simp
      · split <;> simp
theorem takPut_out (k : Tak) (b : List UInt8) : (k.put b).2.length ≤ 2 := by
  cases k with
  | no => simp [Tak.put]
  | plain r => exact rOut r b
  | files r =>
    simp only [Tak.put]
    unfold bPutF
    split
    · simp
    · exact rOut _ _
theorem takTick_out (k : Tak) : k.tick.2.length ≤ 2 := by
  cases k with
  | no => simp [Tak.tick]
  | plain r => exact rTickOut r
  | files r =>
    simp only [Tak.tick]
    unfold bTickF
    split
    · simp
    · exact rTickOut _
theorem aft_sz (s : Br) : (aftF s).part.data.length + (aftF s).part.buffer.length ≤ s.part.data.length + s.part.buffer.length := by
  unfold aftF
  split
  · exact Nat.le_refl _
  · split
    · exact Nat.le_refl _
    · split
      · split
        · exact Nat.le_refl _
        · simp [rOf]
      · split
        · split
          · exact Nat.le_refl _
          · simp [rOf]
        · split
          · exact Nat.le_refl _
          · exact Nat.le_refl _
theorem takPut_sz (k : Tak) (b : List UInt8) : (k.put b).1.sz ≤ k.sz + 1024 + b.length := by
  cases k with
  | no => simp [Tak.put, Tak.sz]
  | plain r =>
    have := rPutF_data r b
    simp only [Tak.put, Tak.sz]
    omega
  | files r =>
    simp only [Tak.put, Tak.sz]
    unfold bPutF
    split
    · simp only; omega
    · have h1 := aft_sz { r with part := (rPutF r.part b).1 }
      have h2 := rPutF_data r.part b
      simp only at h1 ⊢
      omega
theorem takTick_sz (k : Tak) : k.tick.1.sz ≤ k.sz := by
  cases k with
  | no => simp [Tak.tick, Tak.sz]
  | plain r =>
    have := rTickF_data r
    simp only [Tak.tick, Tak.sz]
    rw [this.1]
    omega
  | files r =>
    simp only [Tak.tick, Tak.sz]
    unfold bTickF
    split
    · simp only; omega
    · have h1 := aft_sz { r with part := (rTickF r.part).1 }
      have h2 := rTickF_data r.part
      simp only at h1 ⊢
      rw [h2.1] at h1
      omega
theorem c_tgo {w0 : World} {V : Nat → Prop} {m0 M : Mem} {HT : HL} {it sp : Nat} {ol orr oo : Option Nat} {tv : Value} {s : TgS} {k : Tak} {o : List UInt8} {Q : Value → Mem → Prop} (h : Sep m0 V M ((byH oo o :: HT) ++ tgH it sp ol orr tv s)) (hT : TakR HT tv k) (hoo : oo = none → o.length = 0) (hne : k ≠ .no)
    (hol : ol = none → s.line.length = 0) (hor : orr = none → s.reps.length = 0) (hml : s.mem.length = 16384) (hll : s.line.length ≤ 80) (hbig : k.sz ≤ 140737488355328) (hol9 : o.length ≤ 1000000000) (hq : TgQ V m0 it (ldF { s with tak := k } o) Q) :
    AbC Tryz.prog w0 29 [.pointer (some ⟨it, 0, none⟩), slV oo o.length 1] M Q :=
  c_tloaded (s := { s with tak := k }) (h.perm (List.Perm.cons _ List.perm_append_comm)) hoo ⟨⟨sp, ol, orr, tv, HT, rfl, hT, hol, hor⟩, hml, hll⟩ hne hbig hol9 hq
theorem c_tTick {w0 : World} {V : Nat → Prop} {m : Mem} {H : HL} {it : Nat} {s : TgS} {Q : Value → Mem → Prop} (ht : Ten w0) (hE : ErrV w0) (h : Sep m V m H) (hR : TgR H it s) (hbig : s.tak.sz ≤ 140737488355328)
    (hq : TgQ V m it (tTickF s) Q) : AbC Tryz.prog w0 22 [.pointer (some ⟨it, 0, none⟩)] m Q := by
  refine AbC_fn ok22 (by simp) ?_
  have hR0 := hR
  obtain ⟨⟨sp, ol, orr, tv, HT, rfl, hT, hol, hor⟩, hml, hll⟩ := hR
  have g0 := h.get 0 rfl
  simp only [tgC] at g0
  unfold tTickF at hq
  cases hno : s.tak.isNo with
  | true =>
    rw [if_pos hno] at hq
    have hk := Tak.isNo_iff.1 hno
    rw [hk] at hT
    obtain ⟨rfl, rfl⟩ := hT
    simp -implicitDefEqProofs (disch := first | assumption | omega | fail) [rc22, ro22, wkB, retV, stabOk, dC, ev, fillD, pickCells, putAt, bnd, slD, List.getElem?_cons_zero, List.getElem?_cons_succ, Mem.cell, Mem.row, cells_own, cells_ro, g0]
    exact hq none _ m (h.non _) hR0 fun _ => rfl
  | false =>
    rw [if_neg (by rw [hno]; simp)] at hq
    have hk : s.tak ≠ .no := fun e => by rw [e] at hno; cases hno
    have htv : ∃ t x, tv = .iface t x := by
      cases hs : s.tak with
      | no => exact absurd hs hk
      | plain r => rw [hs] at hT; obtain ⟨ir, rfl, -⟩ := hT; exact ⟨_, _, rfl⟩
      | files r => rw [hs] at hT; obtain ⟨ir, rfl, -⟩ := hT; exact ⟨_, _, rfl⟩
    obtain ⟨tt, tx, rfl⟩ := htv
    simp -implicitDefEqProofs (disch := first | assumption | omega | fail) [rc22, ro22, wkB, retV, stabOk, dC, ev, fillD, pickCells, putAt, bnd, slD, List.getElem?_cons_zero, List.getElem?_cons_succ, Mem.cell, Mem.row, cells_own, cells_ro, g0, rc22_0]
    have h1 : Sep m V m (HT ++ tgH it sp ol orr (.iface tt tx) s) := h.perm List.perm_append_comm
    refine call_takTick ht hE h1.fr hT hk hbig (by simp [wkB, retV, stabOk, dC, ev, fillD, pickCells, putAt, bnd, slD, List.getElem?_cons_zero, List.getElem?_cons_succ, Mem.cell, Mem.row, cells_own, cells_ro]) fun oo HT2 M hM hT2 hoo => ?_
    simp -implicitDefEqProofs (disch := first | assumption | omega | fail) [wkB, retV, stabOk, dC, ev, fillD, pickCells, putAt, bnd, slD, List.getElem?_cons_zero, List.getElem?_cons_succ, Mem.cell, Mem.row, cells_own, cells_ro]
    have hz := takTick_sz s.tak
    have hz2 := takTick_out s.tak
    refine c_tgo (h1.un hM) hT2 hoo (takTick_no hk) hol hor hml hll (by omega) (by omega) fun oo2 H2 M2 h2 hR2 hoo2 => ?_
    simp -implicitDefEqProofs (disch := first | assumption | omega | fail) [wkB, retV, stabOk, dC, ev, fillD, pickCells, putAt, bnd, slD, List.getElem?_cons_zero, List.getElem?_cons_succ, Mem.cell, Mem.row, cells_own, cells_ro]
    exact hq oo2 H2 M2 h2 hR2 hoo2
theorem c_tReplies {w0 : World} {V : Nat → Prop} {m : Mem} {H : HL} {it : Nat} {s : TgS} {Q : Value → Mem → Prop} (h : Sep m V m H) (hR : TgR H it s) (hrl : s.reps.length ≤ 5000000000000)
    (hq : ∀ oo M, Sep m V M (reH oo s.reps :: H) → (oo = none → s.reps.length = 0) → Q (slV oo s.reps.length 3) M) : AbC Tryz.prog w0 15 [.pointer (some ⟨it, 0, none⟩)] m Q := by
  refine AbC_fn ok15 (by simp) ?_
  obtain ⟨⟨sp, ol, orr, tv, HT, rfl, hT, hol, hor⟩, hml, hll⟩ := hR
  have g0 := h.get 0 rfl
  simp only [tgC] at g0
  have hO := (h.slO 3 (k := s.reps.length) (sz := 3) rfl (flat_len repC_len s.reps) hor).read
  simp -implicitDefEqProofs (disch := first | assumption | omega | fail) [rc15, ro15, wkB, retV, stabOk, dC, ev, fillD, pickCells, putAt, bnd, slD, List.getElem?_cons_zero, List.getElem?_cons_succ, Mem.cell, Mem.row, cells_own, cells_ro, g0]
  refine SK_nwS h (k := s.reps.length) (ys := s.reps.flatMap repC) (by simp [wkB, retV, stabOk, dC, ev, fillD, pickCells, putAt, bnd, slD, List.getElem?_cons_zero, List.getElem?_cons_succ, Mem.cell, Mem.row, cells_own, cells_ro]) (by simp [wkB, retV, stabOk, dC, ev, fillD, pickCells, putAt, bnd, slD, List.getElem?_cons_zero, List.getElem?_cons_succ, Mem.cell, Mem.row, cells_own, cells_ro]; exact hO.elems) (by simp [wkB, retV, stabOk, dC, ev, fillD, pickCells, putAt, bnd, slD, List.getElem?_cons_zero, List.getElem?_cons_succ, Mem.cell, Mem.row, cells_own, cells_ro]; exact hO.lenV) (rep_one s.reps) (by omega) (by unfold maxLen; omega) (flat_len repC_len s.reps) fun oo m1 h1 hn1 _ => ?_
  simp -implicitDefEqProofs (disch := first | assumption | omega | fail) [wkB, retV, stabOk, dC, ev, fillD, pickCells, putAt, bnd, slD, List.getElem?_cons_zero, List.getElem?_cons_succ, Mem.cell, Mem.row, cells_own, cells_ro]
  exact hq oo m1 h1 hn1
end Go.Proofs.YtiapjjgmmiifmaaGreatDoor.Ab

set_option linter.unusedVariables false
set_option maxRecDepth 100000
namespace Go.Proofs.YtiapjjgmmiifmaaGreatDoor.Ab
open Go Go.RowKit
theorem zst_eq : zst = List.replicate 16384 (.int .u8 0) := by kernel_rfl
end Go.Proofs.YtiapjjgmmiifmaaGreatDoor.Ab

set_option linter.unusedVariables false
set_option linter.unusedSimpArgs false
namespace Go.Proofs.YtiapjjgmmiifmaaGreatDoor.Ab
open Go Go.RowKit
set_option maxHeartbeats 4000000
set_option maxRecDepth 100000
def zmem : List UInt8 := List.replicate 16384 0
theorem zst_map : zst = zmem.map byteV := by
  rw [zst_eq, zmem, List.map_replicate]; rfl
theorem zmem_len : zmem.length = 16384 := by simp [zmem]
def tg0S (tr wt : Int) : TgS := ⟨zmem, tr, wt, true, [], .no, 0, []⟩
theorem c_tOf {w0 : World} {V : Nat → Prop} {m0 m : Mem} {l : HL} {tr wt : Int} {Q : Value → Mem → Prop} (h : Sep m0 V m l)
    (hq : ∀ it H M, Sep m0 V M (H ++ l) → TgR H it (tg0S tr wt) → Q (.pointer (some ⟨it, 0, none⟩)) M) : AbC Tryz.prog w0 10 [.agg ⟨[.int .i64 tr, .int .i64 wt]⟩] m Q := by
  refine AbC_fn ok10 (by simp) ?_
  have hz : ∀ ts : Fr, ∀ m' : Mem, dR ts m' (.bld zst []) = some (.agg ⟨zst⟩) := fun ts m' => by simp [dR, fillD]
  simp -implicitDefEqProofs (disch := first | assumption | omega | fail) [rc10, ro10, wkB, retV, stabOk, dC, ev, fillD, pickCells, putAt, bnd, slD, List.getElem?_cons_zero, List.getElem?_cons_succ, Mem.cell, Mem.row, cells_own, cells_ro, hz]
  refine SK_bxS h (cs := [.int .i64 tr, .int .i64 wt]) (by simp [wkB, retV, stabOk, dC, ev, fillD, pickCells, putAt, bnd, slD, List.getElem?_cons_zero, List.getElem?_cons_succ, Mem.cell, Mem.row, cells_own, cells_ro]) fun B m1 h1 _ _ => ?_
  have g1 := h1.get 0 rfl
  simp -implicitDefEqProofs (disch := first | assumption | omega | fail) [wkB, retV, stabOk, dC, ev, fillD, pickCells, putAt, bnd, slD, List.getElem?_cons_zero, List.getElem?_cons_succ, Mem.cell, Mem.row, cells_own, cells_ro, hz]
  refine SK_bxS h1 (cs := zmem.map byteV) (by simp [wkB, retV, stabOk, dC, ev, fillD, pickCells, putAt, bnd, slD, List.getElem?_cons_zero, List.getElem?_cons_succ, Mem.cell, Mem.row, cells_own, cells_ro]; exact zst_map) fun sp m2 h2 _ _ => ?_
  have g2 := h2.get 1 rfl
  simp -implicitDefEqProofs (disch := first | assumption | omega | fail) [wkB, retV, stabOk, dC, ev, fillD, pickCells, putAt, bnd, slD, List.getElem?_cons_zero, List.getElem?_cons_succ, Mem.cell, Mem.row, cells_own, cells_ro, g2]
  refine SK_bxS h2 (cs := tgC (tg0S tr wt) sp (.slice none 0 0) .nilIface (.slice none 0 0)) (by simp [wkB, retV, stabOk, dC, ev, fillD, pickCells, putAt, bnd, slD, List.getElem?_cons_zero, List.getElem?_cons_succ, Mem.cell, Mem.row, cells_own, cells_ro, tgC, tg0S]) fun it m3 h3 _ _ => ?_
  simp -implicitDefEqProofs (disch := first | assumption | omega | fail) [wkB, retV, stabOk, dC, ev, fillD, pickCells, putAt, bnd, slD, List.getElem?_cons_zero, List.getElem?_cons_succ, Mem.cell, Mem.row, cells_own, cells_ro]
  have h4 := ((h3.del 2).non (.own [] 44)).non (.own [] 5)
  refine hq it (tgH it sp none none .nilIface (tg0S tr wt) ++ []) m3 ?_ ⟨⟨sp, none, none, .nilIface, [], rfl, ⟨rfl, rfl⟩, fun _ => rfl, fun _ => rfl⟩, zmem_len, by simp [tg0S]⟩
  rw [List.append_nil]
  refine h4.perm ?_
  exact (List.perm_append_comm (l₁ := [(none, Ent.own [] 5), (none, Ent.own [] 44)]) (l₂ := [(some it, Ent.own (tgC (tg0S tr wt) sp (.slice none 0 0) .nilIface (.slice none 0 0)) 34), stH sp zmem])).append_right l
theorem c_tPutIn {w0 : World} {V : Nat → Prop} {m : Mem} {it : Nat} {v : Value} {b : List UInt8} {s0 : TgS} {fr : Fr} {Q : Value → Mem → Prop} (ht : Ten w0) (hE : ErrV w0) {H : HL} (h : Sep m V m H) (hR : TgR H it s0) (hno : s0.tak = .no) (hr : RdV V m 1 v (b.map byteV) b.length)
    (hb : b.length ≤ 4000000) (hrl : s0.reps.length + b.length ≤ 5000000000000) (hq : TgQ V m it (tPutL s0 [] b) Q) (t0 : fr 0 = .pointer (some ⟨it, 0, none⟩)) (t1 : fr 1 = v) :
    AbW Tryz.prog w0 rc12_3 (bodyA [.mv (.tmp 4)] Q) fr m := by
  have hsl := hr.sl.slen
  simp -implicitDefEqProofs (disch := first | assumption | omega | fail) [rc12_3, wkB, retV, stabOk, dC, ev, fillD, pickCells, putAt, bnd, slD, List.getElem?_cons_zero, List.getElem?_cons_succ, Mem.cell, Mem.row, cells_own, cells_ro, t0, t1, hsl]
  refine LoopW_of (fun k ts m' => ∃ j sj oj obj Hj, j + k = b.length ∧ Sep m V m' (byH obj oj :: Hj) ∧ TgR Hj it sj ∧ (obj = none → oj.length = 0) ∧ oj.length ≤ 200 * j ∧ sj.reps.length ≤ s0.reps.length + j ∧ sj.tak.sz = 0 ∧ tPutL s0 [] b = tPutL sj oj (b.drop j) ∧
    ts 0 = .pointer (some ⟨it, 0, none⟩) ∧ ts 1 = v ∧ ts 5 = slV obj oj.length 1 ∧ ts 21 = v ∧ ts 22 = .int .i64 (b.length : Nat) ∧ ts 23 = .int .i64 (j : Nat)) b.length ?_ ?_
  · exact ⟨0, s0, [], none, H, by omega, h.non _, hR, fun _ => rfl, by simp, by omega, by rw [hno]; rfl, by simp, by simp [t0], by simp [t1], by simp [slV], by simp, by simp, by simp⟩
  · rintro k ts m1 K ⟨j, sj, oj, obj, Hj, hj, h1, hRj, hobj, holj, hrlj, hszj, heq, t0, t1, t5, t21, t22, t23⟩ hK
    by_cases hjl : j < b.length
    · have hj8 : (j : Int) < (b.length : Nat) := by omega
      have hrv := hr.sep h1
      obtain ⟨i, o, L, e1, e2, e3, e4, e5, e6⟩ := hrv.ex (by omega)
      have hc : L[o + j]? = some (byteV (b.getD j 0)) := (e4 j hjl).trans (byte_at hjl)
      simp only [byteV] at hc
      have hidx : sidx 1 v (.int .i64 (j : Int)) = some (.pointer (some ⟨i, o + j, none⟩)) := by rw [e1]; simpa using sidx_at (b := i) (o := o) (n := b.length) (c := 1) (j := j) (sz := 1) (k := .i64) hjl
      have w1 : IntKind.i64.wrap ((j : Int) + 1) = (j : Int) + 1 := w64 (by omega)
      have hdrop : b.drop j = b.getD j 0 :: b.drop (j + 1) := by
        rw [List.drop_eq_getElem_cons hjl, List.getD_eq_getElem?_getD, List.getElem?_eq_getElem hjl]; rfl
      have hRj0 := hRj
      obtain ⟨⟨sp, ol, orr, tv, HT, rfl, hT, hol, hor⟩, hml, hll⟩ := hRj
      have g1 := h1.get 1 rfl
      simp only [tgC] at g1
      cases hnk : sj.tak.isNo with
      | true =>
        have hkn := Tak.isNo_iff.1 hnk
        rw [hdrop, tPutL, if_pos hnk] at heq
        rw [hkn] at hT
        obtain ⟨rfl, rfl⟩ := hT
        generalize b.getD j 0 = c at *
        simp -implicitDefEqProofs (disch := first | assumption | omega | fail) [rc12_1, rc12_0, wkB, retV, stabOk, dC, ev, fillD, pickCells, putAt, bnd, slD, List.getElem?_cons_zero, List.getElem?_cons_succ, Mem.cell, Mem.row, cells_own, cells_ro, t0, t1, t5, t21, t22, t23, hj8, hidx, e2, hc, getL1 hc, g1]
        have hkeep := putCF_keep sj c hkn
        have h1' := h1.rot1
        refine c_tput ht hE h1'.fr hRj0 hkn (by omega) fun oo H2 M2 hM hR2 hoo => ?_
        have h2 := h1'.un hM
        generalize putCF sj c = r at *
        have hO := (h2.slO 0 (k := r.2.length) (sz := 1) rfl (by simp) hoo).read
        simp -implicitDefEqProofs (disch := first | assumption | omega | fail) [wkB, retV, stabOk, dC, ev, fillD, pickCells, putAt, bnd, slD, List.getElem?_cons_zero, List.getElem?_cons_succ, Mem.cell, Mem.row, cells_own, cells_ro, t5, t23]
        have h3 : Sep m V M2 (byH obj oj :: (byH oo r.2 :: H2)) := h2.perm (List.perm_append_comm (l₁ := byH oo r.2 :: H2) (l₂ := [byH obj oj]))
        refine SK_apS h3 0 (n := oj.length) (k := r.2.length) (ys := r.2.map byteV) rfl (by simp [wkB, retV, stabOk, dC, ev, fillD, pickCells, putAt, bnd, slD, List.getElem?_cons_zero, List.getElem?_cons_succ, Mem.cell, Mem.row, cells_own, cells_ro, t5]) (by simp) hobj (by simp [wkB, retV, stabOk, dC, ev, fillD, pickCells, putAt, bnd, slD, List.getElem?_cons_zero, List.getElem?_cons_succ, Mem.cell, Mem.row, cells_own, cells_ro]; exact hO.elems) (by simp [wkB, retV, stabOk, dC, ev, fillD, pickCells, putAt, bnd, slD, List.getElem?_cons_zero, List.getElem?_cons_succ, Mem.cell, Mem.row, cells_own, cells_ro]; exact hO.lenV) (byteV_oneC _) (by omega) (by unfold maxLen; omega) (by simp) fun ob4 m4 h4 hn4 _ => ?_
        simp -implicitDefEqProofs (disch := first | assumption | omega | fail) [wkB, retV, stabOk, dC, ev, fillD, pickCells, putAt, bnd, slD, List.getElem?_cons_zero, List.getElem?_cons_succ, Mem.cell, Mem.row, cells_own, cells_ro, t23, w1]
        have e7 : oj.map byteV ++ r.2.map byteV = (oj ++ r.2).map byteV := by simp
        rw [e7] at h4
        refine hK (k - 1) _ _ (by omega) ⟨j + 1, r.1, oj ++ r.2, ob4, H2, by omega, h4.del 1, hR2, fun e => by have := hn4 e; simp only [List.length_append]; omega, by simp only [List.length_append]; omega, by omega, hkeep.1, heq, by simp [t0], by simp [t1], by simp, by simp [t21], by simp [t22], by simp⟩
      | false =>
        have hkn : sj.tak ≠ .no := fun e => by rw [e] at hnk; cases hnk
        rw [hdrop, tPutL, if_neg (by rw [hnk]; simp), ← hdrop] at heq
        rw [heq] at hq
        have htv : ∃ t x, tv = .iface t x := by
          cases hs : sj.tak with
          | no => exact absurd hs hkn
          | plain r => rw [hs] at hT; obtain ⟨ir, rfl, -⟩ := hT; exact ⟨_, _, rfl⟩
          | files r => rw [hs] at hT; obtain ⟨ir, rfl, -⟩ := hT; exact ⟨_, _, rfl⟩
        obtain ⟨tt, tx, rfl⟩ := htv
        obtain ⟨v2, hv2, hr2, hb2⟩ := hrv.sl.behind (k := j) (by omega)
        rw [Nat.mul_one, ← List.map_drop] at hr2
        have hdl : (b.drop j).length = b.length - j := by simp
        rw [← hdl] at hr2
        have hrv2 : RdV V m1 1 v2 ((b.drop j).map byteV) (b.drop j).length := ⟨hr2, fun x hx => hrv.bl x (hb2 x hx)⟩
        generalize b.getD j 0 = c at *
        generalize b.drop j = bj at *
        simp -implicitDefEqProofs (disch := first | assumption | omega | fail) [rc12_1, rc12_0, wkB, retV, stabOk, dC, ev, fillD, pickCells, putAt, bnd, slD, List.getElem?_cons_zero, List.getElem?_cons_succ, Mem.cell, Mem.row, cells_own, cells_ro, t0, t1, t5, t21, t22, t23, hj8, hidx, e2, hc, getL1 hc, g1, hv2]
        have h1' : Sep m V m1 (HT ++ (byH obj oj :: tgH it sp ol orr (.iface tt tx) sj)) := h1.perm (List.perm_append_comm (l₁ := byH obj oj :: tgH it sp ol orr (.iface tt tx) sj) (l₂ := HT))
        have hsz := takPut_sz sj.tak bj
        have hso := takPut_out sj.tak bj
        refine call_takPut ht hE h1'.fr hT hkn (hrv2.mono fun _ _ hx => .inl hx) (by omega) (by simp [wkB, retV, stabOk, dC, ev, fillD, pickCells, putAt, bnd, slD, List.getElem?_cons_zero, List.getElem?_cons_succ, Mem.cell, Mem.row, cells_own, cells_ro]) (by simp [wkB, retV, stabOk, dC, ev, fillD, pickCells, putAt, bnd, slD, List.getElem?_cons_zero, List.getElem?_cons_succ, Mem.cell, Mem.row, cells_own, cells_ro]) fun oo HT2 M hM hT2 hoo => ?_
        have h2 := h1'.un hM
        have h3 : Sep m V M (((byH oo (sj.tak.put bj).2 :: HT2) ++ tgH it sp ol orr (.iface tt tx) sj) ++ [byH obj oj]) := h2.perm (by
          rw [List.append_assoc]
          exact List.Perm.append_left _ (List.perm_append_comm (l₁ := [byH obj oj]) (l₂ := tgH it sp ol orr (.iface tt tx) sj)))
        simp -implicitDefEqProofs (disch := first | assumption | omega | fail) [wkB, retV, stabOk, dC, ev, fillD, pickCells, putAt, bnd, slD, List.getElem?_cons_zero, List.getElem?_cons_succ, Mem.cell, Mem.row, cells_own, cells_ro]
        refine c_tgo h3.fr hT2 hoo (takPut_no hkn) hol hor hml hll (by omega) (by omega) fun oo3 H3 M3 hM3 hR3 hoo3 => ?_
        have h4 : Sep m V M3 (byH obj oj :: (byH oo3 _ :: H3)) := (h3.un hM3).perm (List.perm_append_comm (l₂ := [byH obj oj]))
        have hldl : ∀ s o, (ldF s o).2.length ≤ o.length + 6 := fun s o => by
          unfold ldF
          split
          · simp
          · split
            · simp [proL]
            · simp [proL]
        have hld := hldl { sj with tak := (sj.tak.put bj).1 } (sj.tak.put bj).2
        generalize ldF { sj with tak := (sj.tak.put bj).1 } (sj.tak.put bj).2 = r at *
        have hO := (h4.slO 1 (k := r.2.length) (sz := 1) rfl (by simp) hoo3).read
        simp -implicitDefEqProofs (disch := first | assumption | omega | fail) [wkB, retV, stabOk, dC, ev, fillD, pickCells, putAt, bnd, slD, List.getElem?_cons_zero, List.getElem?_cons_succ, Mem.cell, Mem.row, cells_own, cells_ro]
        refine SK_apS h4 0 (n := oj.length) (k := r.2.length) (ys := r.2.map byteV) rfl (by simp [wkB, retV, stabOk, dC, ev, fillD, pickCells, putAt, bnd, slD, List.getElem?_cons_zero, List.getElem?_cons_succ, Mem.cell, Mem.row, cells_own, cells_ro]) (by simp) hobj (by simp [wkB, retV, stabOk, dC, ev, fillD, pickCells, putAt, bnd, slD, List.getElem?_cons_zero, List.getElem?_cons_succ, Mem.cell, Mem.row, cells_own, cells_ro]; exact hO.elems) (by simp [wkB, retV, stabOk, dC, ev, fillD, pickCells, putAt, bnd, slD, List.getElem?_cons_zero, List.getElem?_cons_succ, Mem.cell, Mem.row, cells_own, cells_ro]; exact hO.lenV) (byteV_oneC _) (by omega) (by unfold maxLen; omega) (by simp) fun ob5 m5 h5 hn5 _ => ?_
        simp -implicitDefEqProofs (disch := first | assumption | omega | fail) [wkB, retV, stabOk, dC, ev, fillD, pickCells, putAt, bnd, slD, List.getElem?_cons_zero, List.getElem?_cons_succ, Mem.cell, Mem.row, cells_own, cells_ro]
        have e7 : oj.map byteV ++ r.2.map byteV = (oj ++ r.2).map byteV := by simp
        rw [e7] at h5
        have := hq ob5 H3 m5 (h5.del 1) hR3 (fun e => by simp only [List.length_append]; exact hn5 e)
        simp only [List.length_append] at this
        exact this
    · have hjj : j = b.length := by omega
      subst hjj
      have hj8 : ¬ ((b.length : Nat) : Int) < (b.length : Nat) := by omega
      rw [List.drop_length, tPutL] at heq
      rw [heq] at hq
      simp -implicitDefEqProofs (disch := first | assumption | omega | fail) [rc12_1, rc12_2, wkB, retV, stabOk, dC, ev, fillD, pickCells, putAt, bnd, slD, List.getElem?_cons_zero, List.getElem?_cons_succ, Mem.cell, Mem.row, cells_own, cells_ro, t5, t22, t23, hj8]
      exact hq obj Hj m1 h1 hRj hobj
theorem c_tPut {w0 : World} {V : Nat → Prop} {m : Mem} {H : HL} {it : Nat} {v : Value} {b : List UInt8} {s : TgS} {Q : Value → Mem → Prop} (ht : Ten w0) (hE : ErrV w0) (h : Sep m V m H) (hR : TgR H it s) (hr : RdV V m 1 v (b.map byteV) b.length)
    (hb : b.length ≤ 4000000) (hrl : s.reps.length + b.length ≤ 5000000000000) (hbig : s.tak.sz ≤ 100000000000000) (hq : TgQ V m it (tPutF s b) Q) :
    AbC Tryz.prog w0 12 [.pointer (some ⟨it, 0, none⟩), v] m Q := by
  refine AbC_fn ok12 (by simp) ?_
  have hR0 := hR
  obtain ⟨⟨sp, ol, orr, tv, HT, rfl, hT, hol, hor⟩, hml, hll⟩ := hR
  have g0 := h.get 0 rfl
  simp only [tgC] at g0
  unfold tPutF at hq
  cases hnk : s.tak.isNo with
  | true =>
    rw [if_pos hnk] at hq
    have hkn := Tak.isNo_iff.1 hnk
    rw [hkn] at hT
    obtain ⟨rfl, rfl⟩ := hT
    simp -implicitDefEqProofs (disch := first | assumption | omega | fail) [rc12, ro12, wkB, retV, stabOk, dC, ev, fillD, pickCells, putAt, bnd, slD, List.getElem?_cons_zero, List.getElem?_cons_succ, Mem.cell, Mem.row, cells_own, cells_ro, g0]
    exact c_tPutIn ht hE h hR0 hkn hr hb hrl hq (by simp [frA_at]) (by simp [frA_at])
  | false =>
    rw [if_neg (by rw [hnk]; simp)] at hq
    have hkn : s.tak ≠ .no := fun e => by rw [e] at hnk; cases hnk
    have htv : ∃ t x, tv = .iface t x := by
      cases hs : s.tak with
      | no => exact absurd hs hkn
      | plain r => rw [hs] at hT; obtain ⟨ir, rfl, -⟩ := hT; exact ⟨_, _, rfl⟩
      | files r => rw [hs] at hT; obtain ⟨ir, rfl, -⟩ := hT; exact ⟨_, _, rfl⟩
    obtain ⟨tt, tx, rfl⟩ := htv
    have h1' : Sep m V m (HT ++ tgH it sp ol orr (.iface tt tx) s) := h.perm List.perm_append_comm
    have hsz := takPut_sz s.tak b
    have hso := takPut_out s.tak b
    simp -implicitDefEqProofs (disch := first | assumption | omega | fail) [rc12, ro12, wkB, retV, stabOk, dC, ev, fillD, pickCells, putAt, bnd, slD, List.getElem?_cons_zero, List.getElem?_cons_succ, Mem.cell, Mem.row, cells_own, cells_ro, g0]
    refine call_takPut ht hE h1'.fr hT hkn (hr.mono fun _ _ hx => .inl hx) (by omega) (by simp [wkB, retV, stabOk, dC, ev, fillD, pickCells, putAt, bnd, slD, List.getElem?_cons_zero, List.getElem?_cons_succ, Mem.cell, Mem.row, cells_own, cells_ro]) (by simp [wkB, retV, stabOk, dC, ev, fillD, pickCells, putAt, bnd, slD, List.getElem?_cons_zero, List.getElem?_cons_succ, Mem.cell, Mem.row, cells_own, cells_ro, frA_at]) fun oo HT2 M hM hT2 hoo => ?_
    simp -implicitDefEqProofs (disch := first | assumption | omega | fail) [wkB, retV, stabOk, dC, ev, fillD, pickCells, putAt, bnd, slD, List.getElem?_cons_zero, List.getElem?_cons_succ, Mem.cell, Mem.row, cells_own, cells_ro]
    refine c_tgo (h1'.un hM) hT2 hoo (takPut_no hkn) hol hor hml hll (by omega) (by omega) fun oo2 H2 M2 h2 hR2 hoo2 => ?_
    simp -implicitDefEqProofs (disch := first | assumption | omega | fail) [wkB, retV, stabOk, dC, ev, fillD, pickCells, putAt, bnd, slD, List.getElem?_cons_zero, List.getElem?_cons_succ, Mem.cell, Mem.row, cells_own, cells_ro]
    exact hq oo2 H2 M2 h2 hR2 hoo2
end Go.Proofs.YtiapjjgmmiifmaaGreatDoor.Ab

set_option linter.unusedVariables false
set_option linter.unusedSimpArgs false
namespace Go.Proofs.YtiapjjgmmiifmaaGreatDoor.Ab
open Go Go.RowKit
set_option maxHeartbeats 4000000
set_option maxRecDepth 100000
theorem hex_mem (n : Nat) : ∀ c ∈ digs 16 n, c ≠ 32 ∧ c ≠ 13 ∧ c ≠ 115 := by
  have hd : ∀ d : Fin 36, digC d.val ≠ 32 ∧ digC d.val ≠ 13 := by decide +kernel
  have hd2 : ∀ d : Fin 16, digC d.val ≠ 115 := by decide +kernel
  induction n using Nat.strongRecOn with
  | _ n ih =>
    intro c hc
    by_cases h : n < 16
    · rw [digs_lt h] at hc
      simp only [List.mem_cons, List.not_mem_nil, or_false] at hc
      subst hc
      exact ⟨(hd ⟨n, by omega⟩).1, (hd ⟨n, by omega⟩).2, hd2 ⟨n, h⟩⟩
    · rw [digs_ge (by omega) (by omega)] at hc
      rcases List.mem_append.1 hc with hc | hc
      · exact ih (n / 16) (Nat.div_lt_self (by omega) (by omega)) c hc
      · simp only [List.mem_cons, List.not_mem_nil, or_false] at hc
        subst hc
        have : n % 16 < 16 := Nat.mod_lt _ (by omega)
        exact ⟨(hd ⟨n % 16, by omega⟩).1, (hd ⟨n % 16, by omega⟩).2, hd2 ⟨n % 16, this⟩⟩
end Go.Proofs.YtiapjjgmmiifmaaGreatDoor.Ab

set_option linter.unusedVariables false
set_option linter.unusedSimpArgs false
namespace Go.Proofs.YtiapjjgmmiifmaaGreatDoor.Ab
open Go Go.RowKit
set_option maxHeartbeats 4000000
set_option maxRecDepth 100000
abbrev Rep := Int × Int × Nat
def repL (r : Rep) : List UInt8 := lineL r.1 r.2.1 r.2.2
/-- A text that tells some replies, in order, and no other print. -/
inductive Sfx : List UInt8 → List Rep → Prop
  | nil : Sfx [] []
  | skip {c : UInt8} {S : List UInt8} {rs : List Rep} (hc : c ≠ 115) (h : Sfx S rs) : Sfx (c :: S) rs
  | line {r : Rep} {S : List UInt8} {rs : List Rep} (hr : ∃ x y : Nat, r.1 = x ∧ r.2.1 = y ∧ x < 4294967296 ∧ y < 4294967296 ∧ r.2.2 < 4294967296) (h : Sfx S rs) : Sfx (repL r ++ S) (r :: rs)
theorem Sfx.plain : ∀ {l : List UInt8}, (∀ c ∈ l, c ≠ 115) → Sfx l []
  | [], _ => .nil
  | c :: l, h => .skip (h c (by simp)) (Sfx.plain fun x hx => h x (by simp [hx]))
theorem Sfx.skips : ∀ {l S : List UInt8} {rs : List Rep}, (∀ c ∈ l, c ≠ 115) → Sfx S rs → Sfx (l ++ S) rs
  | [], _, _, _, h => h
  | c :: l, _, _, hl, h => .skip (hl c (by simp)) (Sfx.skips (fun x hx => hl x (by simp [hx])) h)
theorem Sfx.app {S T : List UInt8} {rs qs : List Rep} (h : Sfx S rs) (k : Sfx T qs) : Sfx (S ++ T) (rs ++ qs) := by
  induction h with
  | nil => exact k
  | skip hc _ ih => exact .skip hc ih
  | line hr _ ih => rw [List.append_assoc, List.cons_append]; exact .line hr ih
theorem repL_eq {r : Rep} {x y : Nat} (h1 : r.1 = x) (h2 : r.2.1 = y) : repL r = 115 :: 117 :: 109 :: 32 :: (digs 16 x ++ 32 :: (digs 16 y ++ 32 :: (digs 16 r.2.2 ++ [13, 10]))) := by
  unfold repL lineL
  rw [h1, h2, numS_nat, numS_nat]
  simp [sumW]
theorem repL_tail {r : Rep} {x y : Nat} (h1 : r.1 = x) (h2 : r.2.1 = y) : ∀ c ∈ (repL r).tail, c ≠ 115 := by
  rw [repL_eq h1 h2]
  intro c hc
  simp only [List.tail_cons, List.mem_cons, List.mem_append, List.not_mem_nil, or_false] at hc
  rcases hc with hc | hc | hc | hc | hc | hc | hc | hc | hc | hc
  · subst hc; decide
  · subst hc; decide
  · subst hc; decide
  · exact (hex_mem x c hc).2.2
  · subst hc; decide
  · exact (hex_mem y c hc).2.2
  · subst hc; decide
  · exact (hex_mem r.2.2 c hc).2.2
  · subst hc; decide
  · subst hc; decide
/-- At one place of such a text. -/
theorem Sfx.cases4 {S : List UInt8} {rs : List Rep} (h : Sfx S rs) (h4 : 4 ≤ S.length) :
    (S.take 4 ≠ [115, 117, 109, 32] ∧ Sfx S.tail rs) ∨ (∃ r qs, rs = r :: qs ∧ S.take 4 = [115, 117, 109, 32] ∧ (repL r).length ≤ S.length ∧ S.take (repL r).length = repL r ∧ Sfx S.tail qs ∧ ∃ x y : Nat, r.1 = x ∧ r.2.1 = y ∧ x < 4294967296 ∧ y < 4294967296 ∧ r.2.2 < 4294967296) := by
  cases h with
  | nil => simp at h4
  | skip hc h =>
    refine .inl ⟨fun e => ?_, h⟩
    rename_i c T
    match T, h4 with
    | a :: b :: d :: T, _ =>
      simp at e
      exact hc e.1
  | line hr h =>
    rename_i r T qs
    obtain ⟨x, y, h1, h2, h3, h5, h6⟩ := hr
    have e := repL_eq h1 h2
    refine .inr ⟨r, qs, rfl, ?_, by simp, by simp, ?_, x, y, h1, h2, h3, h5, h6⟩
    · rw [e]; simp
    · have ht := repL_tail h1 h2
      have e2 : (repL r ++ T).tail = (repL r).tail ++ T := by rw [e]; simp
      rw [e2]
      exact Sfx.skips ht h
theorem Sfx.short {S : List UInt8} {rs : List Rep} (h : Sfx S rs) (h4 : S.length < 4) : rs = [] := by
  induction h with
  | nil => rfl
  | skip _ _ ih => exact ih (by simp at h4; omega)
  | line hr _ _ =>
    obtain ⟨x, y, h1, h2, -⟩ := hr
    rw [repL_eq h1 h2] at h4
    simp at h4
    omega
/-- What is told is told of the replies that are new. -/
def Tells (s : TgS) (r : TgS × List UInt8) : Prop := ∃ new, r.1.reps = s.reps ++ new ∧ Sfx r.2 new
theorem Tells.no {s : TgS} {r : TgS × List UInt8} (h1 : r.1.reps = s.reps) (h2 : ∀ c ∈ r.2, c ≠ 115) : Tells s r := ⟨[], by rw [h1]; simp, Sfx.plain h2⟩
theorem pro_no : ∀ c ∈ proL, c ≠ 115 := by decide
theorem else_no (line : List UInt8) : ∀ c ∈ elseF line, c ≠ 115 := by
  unfold elseF
  split
  · decide
  · decide
theorem does_tells (s : TgS) (line : List UInt8) : Tells s (doesF s line) := by
  unfold doesF
  split
  · rename_i w b c _
    split
    · rename_i s' hs
      refine Tells.no ?_ (fun c hc => by cases hc)
      unfold loadR at hs
      split at hs
      · split at hs
        · cases hs; rfl
        · cases hs
      · cases hs
    · split
      · rename_i r hr
        obtain ⟨x, y, rfl, hx, hy, -⟩ := sumR_lt hr
        refine ⟨[_], rfl, ?_⟩
        have h0 : Sfx [61, 62, 32] [] := Sfx.plain (by decide)
        exact Sfx.line (r := ((x : Int), (y : Int), prN ((s.mem.drop x).take y))) ⟨x, y, rfl, rfl, hx, hy, prN_lt _⟩ h0
      · exact Tells.no rfl (else_no line)
  · exact Tells.no rfl (else_no line)
theorem putC_tells (s : TgS) (c : UInt8) : Tells s (putCF s c) := by
  unfold putCF
  split
  · exact Tells.no rfl pro_no
  · split
    · exact does_tells { s with line := [] } s.line
    · exact Tells.no rfl (fun c hc => by cases hc)
theorem n00 : ∀ c ∈ ([] : List UInt8), c ≠ 115 := by decide
theorem n06 : ∀ c ∈ ([6] : List UInt8), c ≠ 115 := by decide
theorem n21 : ∀ c ∈ ([21] : List UInt8), c ≠ 115 := by decide
theorem n24 : ∀ c ∈ ([24, 24] : List UInt8), c ≠ 115 := by decide
theorem n67 : ∀ c ∈ ([67] : List UInt8), c ≠ 115 := by decide
theorem rPut_no (s : Rc) (b : List UInt8) : ∀ c ∈ (rPutF s b).2, c ≠ 115 := by
  have hf : ∀ s, ∀ c ∈ (finF s).2, c ≠ 115 := fun s => by unfold finF; split <;> first | exact n00 | exact n06 | exact n21 | exact n24 | exact n67
  have ht : ∀ s n d, ∀ c ∈ (takeF s n d).2, c ≠ 115 := fun s n d => by
    unfold takeF
    split
    · exact hf _
    · split
      · first | exact n00 | exact n06 | exact n21 | exact n24 | exact n67
      · exact hf _
  unfold rPutF
  split
  · first | exact n00 | exact n06 | exact n21 | exact n24 | exact n67
  · unfold rPut1
    split
    · first | exact n00 | exact n06 | exact n21 | exact n24 | exact n67
    · split
      · first | exact n00 | exact n06 | exact n21 | exact n24 | exact n67
      · split
        · first | exact n00 | exact n06 | exact n21 | exact n24 | exact n67
        · unfold scaF
          split
          · first | exact n00 | exact n06 | exact n21 | exact n24 | exact n67
          · split
            · first | exact n00 | exact n06 | exact n21 | exact n24 | exact n67
            · exact ht _ _ _
theorem rTick_no (s : Rc) : ∀ c ∈ (rTickF s).2, c ≠ 115 := by
  unfold rTickF
  split
  · first | exact n00 | exact n06 | exact n21 | exact n24 | exact n67
  · split
    · first | exact n00 | exact n06 | exact n21 | exact n24 | exact n67
    · split
      · first | exact n00 | exact n06 | exact n21 | exact n24 | exact n67
      · split
        · first | exact n00 | exact n06 | exact n21 | exact n24 | exact n67
        · split <;> first | exact n00 | exact n06 | exact n21 | exact n24 | exact n67
theorem takPut_nos (k : Tak) (b : List UInt8) : ∀ c ∈ (k.put b).2, c ≠ 115 := by
  cases k with
  | no => exact fun c hc => by cases hc
  | plain r => exact rPut_no r b
  | files r =>
    simp only [Tak.put]
    unfold bPutF
    split
    · exact fun c hc => by cases hc
    · exact rPut_no _ _
theorem takTick_nos (k : Tak) : ∀ c ∈ k.tick.2, c ≠ 115 := by
  cases k with
  | no => exact fun c hc => by cases hc
  | plain r => exact rTick_no r
  | files r =>
    simp only [Tak.tick]
    unfold bTickF
    split
    · exact fun c hc => by cases hc
    · exact rTick_no _
theorem ld_tells {s : TgS} {o : List UInt8} (ho : ∀ c ∈ o, c ≠ 115) : Tells s (ldF s o) := by
  unfold ldF
  split
  · exact Tells.no rfl ho
  · split
    · refine Tells.no rfl fun c hc => ?_
      rcases List.mem_append.1 hc with h | h
      · exact ho c h
      · exact pro_no c h
    · refine Tells.no rfl fun c hc => ?_
      rcases List.mem_append.1 hc with h | h
      · exact ho c h
      · rcases List.mem_cons.1 h with h | h
        · subst h; decide
        · exact pro_no c h
theorem putL_tells : ∀ (b : List UInt8) (s0 s : TgS) (out : List UInt8), Tells s0 (s, out) → Tells s0 (tPutL s out b)
  | [], s0, s, out, h => h
  | c :: r, s0, s, out, h => by
    obtain ⟨new, h1, h2⟩ := h
    rw [tPutL]
    split
    · obtain ⟨new2, k1, k2⟩ := putC_tells s c
      exact putL_tells r s0 _ _ ⟨new ++ new2, by rw [k1]; simp only at h1; rw [h1]; simp, h2.app k2⟩
    · obtain ⟨new2, k1, k2⟩ := ld_tells (s := { s with tak := (s.tak.put (c :: r)).1 }) (takPut_nos s.tak (c :: r))
      exact ⟨new ++ new2, by rw [k1]; simp only at h1 ⊢; rw [h1]; simp, h2.app k2⟩
theorem tPut_tells (s : TgS) (b : List UInt8) : Tells s (tPutF s b) := by
  unfold tPutF
  split
  · exact putL_tells b s s [] ⟨[], by simp, .nil⟩
  · exact ld_tells (s := { s with tak := (s.tak.put b).1 }) (takPut_nos s.tak b)
theorem tTick_tells (s : TgS) : Tells s (tTickF s) := by
  unfold tTickF
  split
  · exact ⟨[], by simp, .nil⟩
  · exact ld_tells (s := { s with tak := s.tak.tick.1 }) (takTick_nos s.tak)
theorem ld_sz {s : TgS} {o : List UInt8} : (ldF s o).1.tak.sz ≤ s.tak.sz ∧ (ldF s o).1.reps = s.reps ∧ (ldF s o).2.length ≤ o.length + 6 := by
  unfold ldF
  split
  · exact ⟨Nat.le_refl _, rfl, by simp⟩
  · split
    · exact ⟨by simp [Tak.sz], rfl, by simp [proL]⟩
    · exact ⟨by simp [Tak.sz], rfl, by simp [proL]⟩
theorem putL_sz : ∀ (b : List UInt8) (s : TgS) (out : List UInt8), s.tak.sz = 0 → (tPutL s out b).1.tak.sz ≤ 1024 + b.length ∧ (tPutL s out b).1.reps.length ≤ s.reps.length + b.length ∧ (tPutL s out b).2.length ≤ out.length + 200 * b.length
  | [], s, out, h => by simp [tPutL, h]
  | c :: r, s, out, h => by
    rw [tPutL]
    split
    · rename_i hn
      have hk := putCF_keep s c (Tak.isNo_iff.1 hn)
      have := putL_sz r (putCF s c).1 (out ++ (putCF s c).2) hk.1
      simp only [List.length_append, List.length_cons] at this ⊢
      omega
    · have h1 := takPut_sz s.tak (c :: r)
      have h2 := takPut_out s.tak (c :: r)
      have h3 := ld_sz (s := { s with tak := (s.tak.put (c :: r)).1 }) (o := (s.tak.put (c :: r)).2)
      simp only [List.length_append] at h3 ⊢
      rw [h] at h1
      simp only [List.length_cons] at h1 h2 ⊢
      refine ⟨by omega, by rw [h3.2.1]; omega, by omega⟩
theorem tPut_sz (s : TgS) (b : List UInt8) : (tPutF s b).1.tak.sz ≤ s.tak.sz + 1024 + b.length ∧ (tPutF s b).1.reps.length ≤ s.reps.length + b.length ∧ (tPutF s b).2.length ≤ 200 * b.length + 200 := by
  unfold tPutF
  split
  · rename_i hn
    have hz : s.tak.sz = 0 := by rw [Tak.isNo_iff.1 hn]; rfl
    have := putL_sz b s [] hz
    simp only [List.length_nil] at this
    omega
  · have h1 := takPut_sz s.tak b
    have h2 := takPut_out s.tak b
    have h3 := ld_sz (s := { s with tak := (s.tak.put b).1 }) (o := (s.tak.put b).2)
    simp only at h3
    refine ⟨by omega, by rw [h3.2.1]; omega, by omega⟩
theorem tTick_sz (s : TgS) : (tTickF s).1.tak.sz ≤ s.tak.sz ∧ (tTickF s).1.reps = s.reps ∧ (tTickF s).2.length ≤ 10 := by
  unfold tTickF
  split
  · simp
  · have h1 := takTick_sz s.tak
    have h2 := takTick_out s.tak
    have h3 := ld_sz (s := { s with tak := s.tak.tick.1 }) (o := s.tak.tick.2)
    simp only at h3
    refine ⟨by omega, h3.2.1, by omega⟩
end Go.Proofs.YtiapjjgmmiifmaaGreatDoor.Ab

set_option linter.unusedVariables false
set_option linter.unusedSimpArgs false
namespace Go.Proofs.YtiapjjgmmiifmaaGreatDoor.Ab
open Go Go.RowKit
set_option maxHeartbeats 4000000
set_option maxRecDepth 100000
theorem u8any (z : Int) : ∃ c : UInt8, IntKind.u8.wrap z = (c.toNat : Int) := by
  have h1 : IntKind.u8.wrap z = z % 256 := by
    simp only [IntKind.wrap, IntKind.bits, IntKind.signed]; simp
  refine ⟨UInt8.ofNat (z % 256).toNat, ?_⟩
  rw [h1]
  simp
  omega
theorem xor8 (a b : Int) : ∃ c : UInt8, xorK .u8 a b = (c.toNat : Int) := u8any _
theorem c_Data {w0 : World} {X : Nat → Prop} {m : Mem} {v : Value} {b : List UInt8} {long : Bool} {Q : Value → Mem → Prop} (hp : Part L0 m) (hr : RdV X m 1 v (b.map byteV) b.length) (hb : b.length ≤ 9223372036854775807)
    (hq : ∀ (d : List UInt8) x M, Old m M → m.next ≤ x → x < M.next → M.get x = .own (d.map byteV) 5 → d.length = (if long then 1024 else 128) → Q (.slice (some ⟨x, 0, none⟩) d.length 1) M) :
    AbC Tryz.prog w0 37 [v, .bool long] m Q := by
  refine AbC_fn ok37 (by simp) ?_
  obtain ⟨n, hn⟩ : ∃ n : Nat, n = if long then 1024 else 128 := ⟨_, rfl⟩
  have hn2 : n = 1024 ∨ n = 128 := by rw [hn]; cases long <;> simp
  have key : ∀ fr, fr 0 = v → fr 5 = .int .i64 (n : Int) → AbW Tryz.prog w0 rc37_3 (bodyA [.mv (.tmp 4)] Q) fr m := by
    intro fr t0 t5
    have hrr := hr.o
    simp -implicitDefEqProofs (disch := first | assumption | omega | fail) [rc37_3, wkB, retV, stabOk, dC, ev, fillD, pickCells, putAt, bnd, slD, List.getElem?_cons_zero, List.getElem?_cons_succ, Mem.cell, Mem.row, cells_own, cells_ro, t0, t5]
    refine SK_mkS (Sep.ofOld hp) (n := n) (by simp [wkB, retV, stabOk, dC, ev, fillD, pickCells, putAt, bnd, slD, List.getElem?_cons_zero, List.getElem?_cons_succ, Mem.cell, Mem.row, cells_own, cells_ro, t5]) (by simp [wkB, retV, stabOk, dC, ev, fillD, pickCells, putAt, bnd, slD, List.getElem?_cons_zero, List.getElem?_cons_succ, Mem.cell, Mem.row, cells_own, cells_ro, t5]) (by omega) (by unfold maxLen; omega) fun x m1 h1 _ _ => ?_
    simp -implicitDefEqProofs (disch := first | assumption | omega | fail) [wkB, retV, stabOk, dC, ev, fillD, pickCells, putAt, bnd, slD, List.getElem?_cons_zero, List.getElem?_cons_succ, Mem.cell, Mem.row, cells_own, cells_ro, t0, t5]
    refine LoopW_of (fun k ts m' => ∃ j, ∃ l : List UInt8, j + k = n ∧ l.length = n ∧ Sep m (fun i => i < m.next) m' [(some x, .own (l.map byteV) 5)] ∧ ts 0 = v ∧ ts 6 = .slice (some ⟨x, 0, none⟩) n 1 ∧ ts 12 = .int .i64 (n : Int) ∧ ts 13 = .int .i64 (j : Nat)) n ?_ ?_
    · exact ⟨0, List.replicate n 0, by omega, by simp, by rw [List.map_replicate]; exact h1, by simp [t0], by simp, by simp, by simp⟩
    · rintro k ts m' K ⟨j, l, hj, hl, h2, t0, t6, t12, t13⟩ hK
      have hsl := hrr.sl.slen
      by_cases hjl : j < n
      · have hj8 : (j : Int) < (n : Int) := by omega
        have w1 : IntKind.i64.wrap ((j : Int) + 1) = (j : Int) + 1 := w64 (by omega)
        by_cases hb0 : 0 < b.length
        · have hb8 : (0 : Int) < (b.length : Int) := by omega
          have r1 : dBin .rem (.int .i64 (j : Int)) (.int .i64 (b.length : Int)) = some (.int .i64 ((j % b.length : Nat) : Int)) := by
            rw [dBin_rem (by omega), Int.tmod_eq_emod_of_nonneg (by omega)]; rfl
          have q1 : dBin .quo (.int .i64 (j : Int)) (.int .i64 (b.length : Int)) = some (.int .i64 ((j / b.length : Nat) : Int)) := by
            have hle : j / b.length ≤ j := Nat.div_le_self _ _
            rw [dBin_quo (by omega), Int.tdiv_eq_ediv_of_nonneg (by omega)]
            rw [show (j : Int) / (b.length : Int) = ((j / b.length : Nat) : Int) from rfl]
            generalize j / b.length = z at *
            rw [w64 (by omega)]
          have hlt : j % b.length < b.length := Nat.mod_lt _ hb0
          generalize j % b.length = p at *
          generalize j / b.length = q at *
          obtain ⟨i, o, L, e1, e2, e3, e4, e5, e6⟩ := (hrr.sep h2).ex hb0
          have hc : L[o + p]? = some (byteV (b.getD p 0)) := (e4 p hlt).trans (byte_at hlt)
          simp only [byteV] at hc
          have hidx : sidx 1 v (.int .i64 (p : Int)) = some (.pointer (some ⟨i, o + p, none⟩)) := by rw [e1]; simpa using sidx_at (b := i) (o := o) (n := b.length) (c := 1) (j := p) (sz := 1) (k := .i64) hlt
          have hidj : sidx 1 (.slice (some ⟨x, 0, none⟩) n 1) (.int .i64 (j : Int)) = some (.pointer (some ⟨x, j, none⟩)) := by simpa using sidx_at (b := x) (o := 0) (n := n) (c := 1) (j := j) (sz := 1) (k := .i64) hjl
          generalize b.getD p 0 = c at *
          obtain ⟨c2, hc2⟩ := u8any ((q : Nat) : Int)
          obtain ⟨c3, hc3⟩ := u8any ((c.toNat : Int) + (c2.toNat : Int))
          simp -implicitDefEqProofs (disch := first | assumption | omega | fail) [rc37_1, rc37_0, wkB, retV, stabOk, dC, ev, fillD, pickCells, putAt, bnd, slD, List.getElem?_cons_zero, List.getElem?_cons_succ, Mem.cell, Mem.row, cells_own, cells_ro, t0, t6, t12, t13, hj8, hsl, hb0, hb8, r1, q1, hidx, hidj, e2, hc, getL1 hc, hc2, hc3]
          refine SK_stS h2 0 rfl (o := j) (vs := [byteV c3]) (cs' := (l.set j c3).map byteV) (by simp [wkB, retV, stabOk, dC, ev, fillD, pickCells, putAt, bnd, slD, List.getElem?_cons_zero, List.getElem?_cons_succ, Mem.cell, Mem.row, cells_own, cells_ro]) (by simp [wkB, retV, stabOk, dC, ev, fillD, pickCells, putAt, bnd, slD, List.getElem?_cons_zero, List.getElem?_cons_succ, Mem.cell, Mem.row, cells_own, cells_ro, byteV, hc3]) (by simp; omega) rfl rfl (by
            rw [List.map_set, List.set_eq_take_append_cons_drop, if_pos (by simp; omega)]
            simp [putAt]) fun m3 h3 _ => ?_
          simp -implicitDefEqProofs (disch := first | assumption | omega | fail) [wkB, retV, stabOk, dC, ev, fillD, pickCells, putAt, bnd, slD, List.getElem?_cons_zero, List.getElem?_cons_succ, Mem.cell, Mem.row, cells_own, cells_ro, t13, w1]
          exact hK (k - 1) _ _ (by omega) ⟨j + 1, l.set j c3, by omega, by simpa using hl, h3, by simp [t0], by simp [t6], by simp [t12], by simp⟩
        · have hb8 : ¬ (0 : Int) < (b.length : Int) := by omega
          simp -implicitDefEqProofs (disch := first | assumption | omega | fail) [rc37_1, rc37_0, wkB, retV, stabOk, dC, ev, fillD, pickCells, putAt, bnd, slD, List.getElem?_cons_zero, List.getElem?_cons_succ, Mem.cell, Mem.row, cells_own, cells_ro, t0, t6, t12, t13, hj8, hsl, hb0, hb8, w1]
          exact hK (k - 1) _ _ (by omega) ⟨j + 1, l, by omega, hl, h2, by simp [t0], by simp [t6], by simp [t12], by simp⟩
      · have hj8 : ¬ (j : Int) < (n : Int) := by omega
        simp -implicitDefEqProofs (disch := first | assumption | omega | fail) [rc37_1, rc37_2, wkB, retV, stabOk, dC, ev, fillD, pickCells, putAt, bnd, slD, List.getElem?_cons_zero, List.getElem?_cons_succ, Mem.cell, Mem.row, cells_own, cells_ro, t6, t12, t13, hj8]
        have := hq l x m' h2.toOld (by have := h2.nv 0 rfl; omega) (h2.lt 0 rfl) (h2.get 0 rfl) (by rw [hl, hn])
        rw [hl] at this
        exact this
  cases long with
  | true =>
    simp only [if_true] at hn
    subst hn
    simp -implicitDefEqProofs (disch := first | assumption | omega | fail) [rc37, ro37, wkB, retV, stabOk, dC, ev, fillD, pickCells, putAt, bnd, slD, List.getElem?_cons_zero, List.getElem?_cons_succ, Mem.cell, Mem.row, cells_own, cells_ro]
    exact key _ (by simp [frA_at]) (by first | rfl | simp)
  | false =>
    simp only [Bool.false_eq_true, if_false] at hn
    subst hn
    simp -implicitDefEqProofs (disch := first | assumption | omega | fail) [rc37, ro37, wkB, retV, stabOk, dC, ev, fillD, pickCells, putAt, bnd, slD, List.getElem?_cons_zero, List.getElem?_cons_succ, Mem.cell, Mem.row, cells_own, cells_ro]
    exact key _ (by simp [frA_at]) (by first | rfl | simp)
end Go.Proofs.YtiapjjgmmiifmaaGreatDoor.Ab

set_option linter.unusedVariables false
set_option linter.unusedSimpArgs false
namespace Go.Proofs.YtiapjjgmmiifmaaGreatDoor.Ab
open Go Go.RowKit
set_option maxHeartbeats 4000000
set_option maxRecDepth 100000
theorem rem8 {a b : Nat} (hb : 0 < b) : dBin .rem (.int .u8 (a : Int)) (.int .u8 (b : Int)) = some (.int .u8 ((a % b : Nat) : Int)) := by
  rw [dBin_rem (by omega), Int.tmod_eq_emod_of_nonneg (by omega)]; rfl
theorem w16i {z : Nat} (h : z < 65536) : IntKind.i64.wrap (z : Int) = (z : Int) := w64 (by omega)
theorem slW_upto' {ob : Option Nat} {n k : Nat} (hp : ob = none → n = 0) (hk : k ≤ n) : slW 1 (slV ob n 1) none (some (.int .i64 (k : Int))) = some (slV ob k 1) := by
  cases ob with
  | none =>
    have := hp rfl
    subst this
    have hk0 : k = 0 := by omega
    subst hk0
    simp [slW, dR, ev, bnd, slV]
  | some b => simp [slW, dR, ev, bnd, slV, slD, hk]
theorem own_upto {m : Mem} {x n k : Nat} {l : List UInt8} (h : m.get x = .own (l.map byteV) 5) (hl : l.length = n) (hk : k ≤ n) : SlR m 1 (.slice (some ⟨x, 0, none⟩) k 1) ((l.take k).map byteV) (l.take k).length := by
  have hk2 : (l.take k).length = k := by simp; omega
  refine ⟨by simp, .inr ⟨x, 0, l.map byteV, by rw [hk2], by rw [h]; rfl, by simp; exact Nat.min_le_right _ _, ?_⟩⟩
  rw [hk2, Nat.mul_one, List.drop_zero, List.map_take]
theorem c_aPut {w0 : World} {X : Nat → Prop} {m : Mem} {v : Value} {b : List UInt8} {op no at_ : Nat} {by_ : Int} {next : UInt8} {crc : Bool} {Q : Value → Mem → Prop} (hp : Part L0 m) (hr : RdV X m 1 v (b.map byteV) b.length) (hb : b.length ≤ 9223372036854775807) (hno : no < 256) (hat : at_ < 65536)
    (hq : ∀ u (l : List UInt8) M, Old m M → SlR M 1 u (l.map byteV) l.length → (∀ i, blk u = some i → (m.next ≤ i ∧ i < M.next) ∨ blk v = some i) → l.length ≤ b.length + 1100 → (op = 4 → no = 0 → ∃ d : List UInt8, d.length = 128 ∧ l = blkL next d crc) → Q u M) :
    AbC Tryz.prog w0 20 [.agg ⟨[.int .u8 (op : Int), .int .u8 (no : Int), v, .int .u16 (at_ : Int), .int .u8 by_]⟩, .int .u8 (next.toNat : Int), .bool crc] m Q := by
  refine AbC_fn ok20 (by simp) ?_
  have hrr := hr.o
  have hov : cellsV v = [v] ∧ oneC v = true := by
    rcases hr.sl.2 with ⟨_, rfl | rfl⟩ | ⟨i, o, L, rfl, _⟩ <;> exact ⟨rfl, rfl⟩
  have r8 : ∀ k : Nat, dBin .rem (.int .u8 (k : Int)) (.int .u8 8) = some (.int .u8 ((k % 8 : Nat) : Int)) := fun k => rem8 (b := 8) (by omega)
  have r5 : dBin .rem (.int .u8 (no : Int)) (.int .u8 5) = some (.int .u8 ((no % 5 : Nat) : Int)) := rem8 (b := 5) (by omega)
  have r16 : dBin .rem (.int .u8 (op : Int)) (.int .u8 16) = some (.int .u8 ((op % 16 : Nat) : Int)) := rem8 (b := 16) (by omega)
  have ro := r8 op
  have rn := r8 no
  have hop4 : op = 4 → op % 8 = 4 ∧ op % 16 = 4 := fun h => by subst h; decide
  have hno0 : no = 0 → no % 8 = 0 ∧ no % 5 = 0 := fun h => by subst h; decide
  have l5 : no % 5 < 5 := Nat.mod_lt _ (by omega)
  generalize op % 8 = r at *
  generalize op % 16 = q16 at *
  generalize no % 8 = q8 at *
  generalize no % 5 = j5 at *
  simp -implicitDefEqProofs (disch := first | assumption | omega | fail) [rc20, ro20, wkB, retV, stabOk, dC, ev, fillD, pickCells, putAt, bnd, slD, List.getElem?_cons_zero, List.getElem?_cons_succ, Mem.cell, Mem.row, cells_own, cells_ro]
  refine SK_bxS (Sep.ofOld hp) (cs := [.int .u8 (op : Int), .int .u8 (no : Int), v, .int .u16 (at_ : Int), .int .u8 by_]) (by simp [wkB, retV, stabOk, dC, ev, fillD, pickCells, putAt, bnd, slD, List.getElem?_cons_zero, List.getElem?_cons_succ, Mem.cell, Mem.row, cells_own, cells_ro]) fun x0 m1 h1 _ _ => ?_
  have g1 := h1.get 0 rfl
  simp -implicitDefEqProofs (disch := first | assumption | omega | fail) [wkB, retV, stabOk, dC, ev, fillD, pickCells, putAt, bnd, slD, List.getElem?_cons_zero, List.getElem?_cons_succ, Mem.cell, Mem.row, cells_own, cells_ro, g1, ro]
  by_cases e0 : r = 0
  · have f0 : ((r : Int) == 0) = true := by rw [e0]; rfl
    simp -implicitDefEqProofs (disch := first | assumption | omega | fail) [wkB, retV, stabOk, dC, ev, fillD, pickCells, putAt, bnd, slD, List.getElem?_cons_zero, List.getElem?_cons_succ, Mem.cell, Mem.row, cells_own, cells_ro, f0, g1]
    refine SK_bslS h1 (cs := ([4, 24, 6, 21, 1] : List UInt8).map byteV) (by simp [fillD, pickCells, wkB, retV, stabOk, dC, ev, fillD, pickCells, putAt, bnd, slD, List.getElem?_cons_zero, List.getElem?_cons_succ, Mem.cell, Mem.row, cells_own, cells_ro, byteV]) rfl fun x1 m2 h2 _ _ => ?_
    have g2 := h2.get 1 rfl
    have g20 := h2.get 0 rfl
    have hidx : sidx 1 (.slice (some ⟨x1, 0, none⟩) 5 1) (.int .u8 (j5 : Int)) = some (.pointer (some ⟨x1, j5, none⟩)) := by simpa using sidx_at (b := x1) (o := 0) (n := 5) (c := 1) (j := j5) (sz := 1) (k := .u8) l5
    have hc := byte_at (b := [4, 24, 6, 21, 1]) (k := j5) l5
    simp only [byteV] at hc
    obtain ⟨C, hC⟩ : ∃ C, ([4, 24, 6, 21, 1] : List UInt8).map byteV = C := ⟨_, rfl⟩
    have hc : C[j5]? = some (.int .u8 ((([4, 24, 6, 21, 1] : List UInt8).getD j5 0).toNat : Int)) := by rw [← hC]; exact hc
    rw [hC] at g20
    generalize ([4, 24, 6, 21, 1] : List UInt8).getD j5 0 = c at *
    simp -implicitDefEqProofs (disch := first | assumption | omega | fail) [wkB, retV, stabOk, dC, ev, fillD, pickCells, putAt, bnd, slD, List.getElem?_cons_zero, List.getElem?_cons_succ, Mem.cell, Mem.row, cells_own, cells_ro, g2, r5, hidx, g20, hc, getL1 hc]
    refine SK_bslS h2 (cs := ([c] : List UInt8).map byteV) (by simp [fillD, pickCells, wkB, retV, stabOk, dC, ev, fillD, pickCells, putAt, bnd, slD, List.getElem?_cons_zero, List.getElem?_cons_succ, Mem.cell, Mem.row, cells_own, cells_ro, byteV, g20, hc, getL1 hc]) rfl fun x3 m3 h3 _ _ => ?_
    simp -implicitDefEqProofs (disch := first | assumption | omega | fail) [wkB, retV, stabOk, dC, ev, fillD, pickCells, putAt, bnd, slD, List.getElem?_cons_zero, List.getElem?_cons_succ, Mem.cell, Mem.row, cells_own, cells_ro]
    have := hq (.slice (some ⟨x3, 0, none⟩) 1 1) [c] m3 h3.toOld (h3.slO 0 (k := 1) (sz := 1) (ob := some x3) rfl rfl (fun e => by cases e)).read (fun i hi => by cases hi; exact .inl ⟨by have := h3.nv 0 rfl; omega, h3.lt 0 rfl⟩) (by simp) (fun h _ => by have := (hop4 h).1; omega)
    exact this
  · have f0 : ((r : Int) == 0) = false := beq_eq_false_iff_ne.2 (by omega)
    by_cases e1 : r = 1
    · have f1 : ((r : Int) == 1) = true := by rw [e1]; rfl
      simp -implicitDefEqProofs (disch := first | assumption | omega | fail) [wkB, retV, stabOk, dC, ev, fillD, pickCells, putAt, bnd, slD, List.getElem?_cons_zero, List.getElem?_cons_succ, Mem.cell, Mem.row, cells_own, cells_ro, f0, f1, g1]
      refine SK_bslS h1 (cs := ([24, 24] : List UInt8).map byteV) (by simp [fillD, pickCells, wkB, retV, stabOk, dC, ev, fillD, pickCells, putAt, bnd, slD, List.getElem?_cons_zero, List.getElem?_cons_succ, Mem.cell, Mem.row, cells_own, cells_ro, byteV]) rfl fun x1 m2 h2 _ _ => ?_
      simp -implicitDefEqProofs (disch := first | assumption | omega | fail) [wkB, retV, stabOk, dC, ev, fillD, pickCells, putAt, bnd, slD, List.getElem?_cons_zero, List.getElem?_cons_succ, Mem.cell, Mem.row, cells_own, cells_ro]
      exact hq (.slice (some ⟨x1, 0, none⟩) 2 1) [24, 24] m2 h2.toOld (h2.slO 0 (k := 2) (sz := 1) (ob := some x1) rfl rfl (fun e => by cases e)).read (fun i hi => by cases hi; exact .inl ⟨by have := h2.nv 0 rfl; omega, h2.lt 0 rfl⟩) (by simp) (fun h _ => by have := (hop4 h).1; omega)
    · have f1 : ((r : Int) == 1) = false := beq_eq_false_iff_ne.2 (by omega)
      by_cases e2 : r = 2
      · have f2 : ((r : Int) == 2) = true := by rw [e2]; rfl
        simp -implicitDefEqProofs (disch := first | assumption | omega | fail) [wkB, retV, stabOk, dC, ev, fillD, pickCells, putAt, bnd, slD, List.getElem?_cons_zero, List.getElem?_cons_succ, Mem.cell, Mem.row, cells_own, cells_ro, f0, f1, f2, g1]
        exact hq v b m1 h1.toOld (hrr.sep h1).sl (fun i hi => .inr hi) (by omega) (fun h _ => by have := (hop4 h).1; omega)
      · have f2 : ((r : Int) == 2) = false := beq_eq_false_iff_ne.2 (by omega)
        /- the last cut -/
        have key1 : ∀ fr M (l : List UInt8) x, Sep m (fun i => i < m.next) M ((some x, .own (l.map byteV) 5) :: [(some x0, .own [.int .u8 (op : Int), .int .u8 (no : Int), v, .int .u16 (at_ : Int), .int .u8 by_] 53)]) → fr 3 = .pointer (some ⟨x0, 0, none⟩) → fr 8 = .slice (some ⟨x, 0, none⟩) l.length 1 → 1 ≤ l.length → l.length ≤ 1100 → (op = 4 → no = 0 → ∃ d : List UInt8, d.length = 128 ∧ l = blkL next d crc) →
            AbW Tryz.prog w0 rc20_1 (bodyA [.mv (.tmp 6)] Q) fr M := by
          intro fr M l x hM t3 t8 hl1 hl2 h4
          have gM := hM.get 1 rfl
          have wa : IntKind.i64.wrap (at_ : Int) = (at_ : Int) := w16i hat
          by_cases e12 : q16 = 12
          · have f12 : ((q16 : Int) == 12) = true := by rw [e12]; rfl
            have rl : dBin .rem (.int .i64 (at_ : Int)) (.int .i64 (l.length : Int)) = some (.int .i64 ((at_ % l.length : Nat) : Int)) := by
              rw [dBin_rem (by omega), Int.tmod_eq_emod_of_nonneg (by omega)]; rfl
            have hlt : at_ % l.length < l.length := Nat.mod_lt _ hl1
            have hsu := slW_upto' (ob := some x) (n := l.length) (k := at_ % l.length) (by intro e; cases e) (by omega)
            generalize at_ % l.length = k at *
            have hsu : slW 1 (.slice (some ⟨x, 0, none⟩) l.length 1) none (some (.int .i64 (k : Int))) = some (.slice (some ⟨x, 0, none⟩) k 1) := hsu
            simp -implicitDefEqProofs (disch := first | assumption | omega | fail) [rc20_1, rc20_0, wkB, retV, stabOk, dC, ev, fillD, pickCells, putAt, bnd, slD, List.getElem?_cons_zero, List.getElem?_cons_succ, Mem.cell, Mem.row, cells_own, cells_ro, t3, t8, gM, r16, f12, wa, rl, hsu]
            have hu := own_upto (hM.get 0 rfl) rfl (show k ≤ l.length by omega)
            exact hq (.slice (some ⟨x, 0, none⟩) k 1) (l.take k) M hM.toOld hu (fun i hi => by cases hi; exact .inl ⟨by have := hM.nv 0 rfl; omega, hM.lt 0 rfl⟩) (by simp; omega) (fun h => absurd e12 (by have := (hop4 h).2; omega))
          · have f12 : ((q16 : Int) == 12) = false := beq_eq_false_iff_ne.2 (by omega)
            simp -implicitDefEqProofs (disch := first | assumption | omega | fail) [rc20_1, rc20_0, wkB, retV, stabOk, dC, ev, fillD, pickCells, putAt, bnd, slD, List.getElem?_cons_zero, List.getElem?_cons_succ, Mem.cell, Mem.row, cells_own, cells_ro, t3, t8, gM, r16, f12]
            exact hq (.slice (some ⟨x, 0, none⟩) l.length 1) l M hM.toOld (hM.slO 0 (k := l.length) (sz := 1) (ob := some x) rfl (by simp) (fun e => by cases e)).read (fun i hi => by cases hi; exact .inl ⟨by have := hM.nv 0 rfl; omega, hM.lt 0 rfl⟩) (by omega) h4
        /- the block -/
        have key2 : ∀ fr (n : UInt8), fr 3 = .pointer (some ⟨x0, 0, none⟩) → fr 2 = .bool crc → fr 7 = .int .u8 (n.toNat : Int) → (op = 4 → no = 0 → n = next) → AbW Tryz.prog w0 rc20_2 (bodyA [.mv (.tmp 6)] Q) fr m1 := by
          intro fr n t3 t2 t7 hn4
          obtain ⟨lg, hlg⟩ : ∃ lg : Bool, ((j5 : Int) == 4) = lg := ⟨_, rfl⟩
          have hlg0 : no = 0 → lg = false := fun h => by rw [← hlg, (hno0 h).2]; rfl
          simp -implicitDefEqProofs (disch := first | assumption | omega | fail) [rc20_2, wkB, retV, stabOk, dC, ev, fillD, pickCells, putAt, bnd, slD, List.getElem?_cons_zero, List.getElem?_cons_succ, Mem.cell, Mem.row, cells_own, cells_ro, t3, t2, t7, g1, r5, hlg]
          refine c_Data h1.pt (hrr.sep h1) hb fun d x M o1 hx1 hx2 hx3 hdl => ?_
          have h2 := h1.new (ob := some x) (E := .own (d.map byteV) 5) o1 (fun i hi => by cases hi; exact ⟨hx1, hx2, hx3⟩)
          have hdl2 : d.length = 128 ∨ d.length = 1024 := by rw [hdl]; cases lg <;> simp
          have hrd : RdV (fun i => i < M.next) M 1 (.slice (some ⟨x, 0, none⟩) d.length 1) (d.map byteV) d.length := h2.rd 0 (ob := some x) rfl (by simp) (fun e => by cases e) (fun i hi => by cases hi; exact hx2)
          simp -implicitDefEqProofs (disch := first | assumption | omega | fail) [wkB, retV, stabOk, dC, ev, fillD, pickCells, putAt, bnd, slD, List.getElem?_cons_zero, List.getElem?_cons_succ, Mem.cell, Mem.row, cells_own, cells_ro, t2]
          refine c_bMake h2.pt hrd hdl2 fun M3 y o3 hy1 hy2 hy3 => ?_
          have h3 := (h2.new (ob := some y) (E := .own ((blkL n d crc).map byteV) 5) o3 (fun i hi => by cases hi; exact ⟨hy1, hy2, hy3⟩)).del 1
          have hbl := blk_len n d crc
          have htr : 1 ≤ trN crc ∧ trN crc ≤ 2 := by cases crc <;> decide
          have h44 : op = 4 → no = 0 → ∃ d' : List UInt8, d'.length = 128 ∧ blkL n d crc = blkL next d' crc := fun h h' => ⟨d, by rw [hdl, hlg0 h']; rfl, by rw [hn4 h h']⟩
          clear hdl
          generalize blkL n d crc = l at *
          have hlb : 1 ≤ l.length ∧ l.length ≤ 1100 := by clear h44; omega
          have g3 := h3.get 1 rfl
          have wa : IntKind.i64.wrap (at_ : Int) = (at_ : Int) := w16i hat
          by_cases e3 : r = 3
          · have f3 : ((r : Int) == 3) = true := by rw [e3]; rfl
            have rl : dBin .rem (.int .i64 (at_ : Int)) (.int .i64 (l.length : Int)) = some (.int .i64 ((at_ % l.length : Nat) : Int)) := by
              rw [dBin_rem (by omega), Int.tmod_eq_emod_of_nonneg (by omega)]; rfl
            have hlt : at_ % l.length < l.length := Nat.mod_lt _ (by omega)
            generalize at_ % l.length = k at *
            have hidx : sidx 1 (.slice (some ⟨y, 0, none⟩) l.length 1) (.int .i64 (k : Int)) = some (.pointer (some ⟨y, k, none⟩)) := by simpa using sidx_at (b := y) (o := 0) (n := l.length) (c := 1) (j := k) (sz := 1) (k := .i64) hlt
            have hc := byte_at (b := l) (k := k) hlt
            simp only [byteV] at hc
            generalize l.getD k 0 = c at *
            obtain ⟨c2, hc2⟩ := xor8 (c.toNat : Int) by_
            have g30 := h3.get 0 rfl
            obtain ⟨L, hL⟩ : ∃ L, l.map byteV = L := ⟨_, rfl⟩
            rw [hL] at g30
            have hc : L[k]? = some (.int .u8 (c.toNat : Int)) := by rw [← hL]; exact hc
            simp -implicitDefEqProofs (disch := first | assumption | omega | fail) [wkB, retV, stabOk, dC, ev, fillD, pickCells, putAt, bnd, slD, List.getElem?_cons_zero, List.getElem?_cons_succ, Mem.cell, Mem.row, cells_own, cells_ro, t3, g3, ro, f3, wa, rl, hidx, g30, hc, getL1 hc, hc2]
            refine SK_stS h3 0 rfl (o := k) (vs := [byteV c2]) (cs' := (l.set k c2).map byteV) (by simp [wkB, retV, stabOk, dC, ev, fillD, pickCells, putAt, bnd, slD, List.getElem?_cons_zero, List.getElem?_cons_succ, Mem.cell, Mem.row, cells_own, cells_ro]) (by simp [wkB, retV, stabOk, dC, ev, fillD, pickCells, putAt, bnd, slD, List.getElem?_cons_zero, List.getElem?_cons_succ, Mem.cell, Mem.row, cells_own, cells_ro, byteV, hc2]) (by simp; omega) rfl rfl (by
              rw [List.map_set, List.set_eq_take_append_cons_drop, if_pos (by simp; omega)]
              simp [putAt]) fun m4 h4 _ => ?_
            simp -implicitDefEqProofs (disch := first | assumption | omega | fail) [wkB, retV, stabOk, dC, ev, fillD, pickCells, putAt, bnd, slD, List.getElem?_cons_zero, List.getElem?_cons_succ, Mem.cell, Mem.row, cells_own, cells_ro]
            exact key1 _ m4 (l.set k c2) y h4 (by simp [t3]) (by simp) (by rw [List.length_set]; exact hlb.1) (by rw [List.length_set]; exact hlb.2) (fun h => absurd e3 (by have := (hop4 h).1; omega))
          · have f3 : ((r : Int) == 3) = false := beq_eq_false_iff_ne.2 (by omega)
            simp -implicitDefEqProofs (disch := first | assumption | omega | fail) [wkB, retV, stabOk, dC, ev, fillD, pickCells, putAt, bnd, slD, List.getElem?_cons_zero, List.getElem?_cons_succ, Mem.cell, Mem.row, cells_own, cells_ro, t3, g3, ro, f3]
            exact key1 _ M3 l y h3 (by simp [t3]) (by simp) hlb.1 hlb.2 h44
        /- its number -/
        have key3 : ∀ fr (n : UInt8), fr 3 = .pointer (some ⟨x0, 0, none⟩) → fr 2 = .bool crc → fr 7 = .int .u8 (n.toNat : Int) → (op = 4 → no = 0 → n = next) → AbW Tryz.prog w0 rc20_3 (bodyA [.mv (.tmp 6)] Q) fr m1 := by
          intro fr n t3 t2 t7 hn4
          by_cases e250 : no = 250
          · have f250 : ((no : Int) == 250) = true := by rw [e250]; rfl
            obtain ⟨c, hc⟩ := u8any (at_ : Int)
            simp -implicitDefEqProofs (disch := first | assumption | omega | fail) [rc20_3, wkB, retV, stabOk, dC, ev, fillD, pickCells, putAt, bnd, slD, List.getElem?_cons_zero, List.getElem?_cons_succ, Mem.cell, Mem.row, cells_own, cells_ro, t3, g1, f250, hc]
            exact key2 _ c (by simp [t3]) (by simp [t2]) (by simp) (fun _ h => by omega)
          · have f250 : ((no : Int) == 250) = false := beq_eq_false_iff_ne.2 (by omega)
            simp -implicitDefEqProofs (disch := first | assumption | omega | fail) [rc20_3, wkB, retV, stabOk, dC, ev, fillD, pickCells, putAt, bnd, slD, List.getElem?_cons_zero, List.getElem?_cons_succ, Mem.cell, Mem.row, cells_own, cells_ro, t3, g1, f250]
            exact key2 _ n (by simp [t3]) (by simp [t2]) (by simp [t7]) hn4
        have s8 := sub8 next
        by_cases e7 : q8 = 7
        · have f7 : ((q8 : Int) == 7) = true := by rw [e7]; rfl
          simp -implicitDefEqProofs (disch := first | assumption | omega | fail) [wkB, retV, stabOk, dC, ev, fillD, pickCells, putAt, bnd, slD, List.getElem?_cons_zero, List.getElem?_cons_succ, Mem.cell, Mem.row, cells_own, cells_ro, f0, f1, f2, rc20_4, g1, rn, f7, s8]
          exact key3 _ (next - 1) (by simp) (by simp [frA_at]) (by simp) (fun _ h => by have := (hno0 h).1; omega)
        · have f7 : ((q8 : Int) == 7) = false := beq_eq_false_iff_ne.2 (by omega)
          simp -implicitDefEqProofs (disch := first | assumption | omega | fail) [wkB, retV, stabOk, dC, ev, fillD, pickCells, putAt, bnd, slD, List.getElem?_cons_zero, List.getElem?_cons_succ, Mem.cell, Mem.row, cells_own, cells_ro, f0, f1, f2, rc20_4, g1, rn, f7]
          exact key3 _ next (by simp) (by simp [frA_at]) (by simp) (fun _ _ => rfl)
end Go.Proofs.YtiapjjgmmiifmaaGreatDoor.Ab

set_option linter.unusedVariables false
set_option linter.unusedSimpArgs false
namespace Go.Proofs.YtiapjjgmmiifmaaGreatDoor.Ab
open Go Go.RowKit
set_option maxHeartbeats 4000000
set_option maxRecDepth 100000
def lineC : List (List UInt8) := [[13], [108, 111, 97, 100, 32, 120, 32, 49, 13], [115, 117, 109, 32, 49, 13], [108, 111, 97, 100, 32, 99, 114, 99, 32, 48, 49, 13], [115, 117, 109, 32, 32, 49, 32, 50, 13], [108, 111, 97, 100, 32, 99, 104, 101, 99, 107, 32, 49, 48, 48, 13]]
theorem lineC_at {j : Nat} (h : j < 6) : ∃ l : List UInt8, (lineC.map fun l => Value.string ⟨⟨l⟩⟩)[j]? = some (.string ⟨⟨l⟩⟩) ∧ l.length ≤ 16 := by
  rcases (show j = 0 ∨ j = 1 ∨ j = 2 ∨ j = 3 ∨ j = 4 ∨ j = 5 by omega) with rfl | rfl | rfl | rfl | rfl | rfl
  all_goals exact ⟨_, rfl, by decide⟩
structure Dd where
  op : Nat
  way : Nat
  addr : Nat
  size : Nat
  vr : Value
  raw : List UInt8
  bop : Nat
  bno : Nat
  vb : Value
  bb : List UInt8
  bat : Nat
  bby : Int
def Dd.cells (x : Dd) : List Value := [.int .u8 (x.op : Int), .int .u8 (x.way : Int), .int .u16 (x.addr : Int), .int .u16 (x.size : Int), x.vr, .int .u8 (x.bop : Int), .int .u8 (x.bno : Int), x.vb, .int .u16 (x.bat : Int), .int .u8 x.bby]
theorem Dd.clen (x : Dd) : x.cells.length = 10 := rfl
structure DdOk (X : Nat → Prop) (m : Mem) (x : Dd) : Prop where
  r : RdV X m 1 x.vr (x.raw.map byteV) x.raw.length
  b : RdV X m 1 x.vb (x.bb.map byteV) x.bb.length
  h1 : x.op < 256
  h2 : x.way < 256
  h3 : x.addr < 65536
  h4 : x.size < 65536
  h5 : x.bno < 256
  h6 : x.bat < 65536
  h7 : x.bb.length ≤ 9223372036854775807
theorem DdOk.keep {X : Nat → Prop} {m m' : Mem} {x : Dd} (h : DdOk X m x) (k : Keeps X m m') : DdOk X m' x := ⟨h.r.keep k, h.b.keep k, h.h1, h.h2, h.h3, h.h4, h.h5, h.h6, h.h7⟩
theorem RdV.oneC {X : Nat → Prop} {m : Mem} {v : Value} {l : List UInt8} (h : RdV X m 1 v (l.map byteV) l.length) : cellsV v = [v] ∧ oneC v = true := by
  rcases h.sl.2 with ⟨_, rfl | rfl⟩ | ⟨i, o, L, rfl, _⟩ <;> exact ⟨rfl, rfl⟩
theorem ask_len {a n : Nat} (ha : a < 65536) (hn : n < 65536) : (askL a n).length ≤ 60 := by
  have l1 := num16 (i := (a : Int)) (by omega)
  have l2 := num16 (i := (n : Int)) (by omega)
  simp [askL, sumW]; omega
theorem loadL_len {k a : Nat} (hk : k < 4) (ha : a < 65536) : (loadL k a).length ≤ 60 := by
  have l1 := num16 (i := (a : Int)) (by omega)
  have lw : (wayL k).length ≤ 5 := by rcases (show k = 0 ∨ k = 1 ∨ k = 2 ∨ k = 3 by omega) with rfl | rfl | rfl | rfl <;> decide
  simp [loadL, loadW]; omega
theorem c_bytes {w0 : World} {X : Nat → Prop} {m : Mem} {x : Dd} {next : UInt8} {Q : Value → Mem → Prop} (hp : Part L0 m) (ht : Ten w0) (hx : DdOk X m x)
    (hq : ∀ u (l : List UInt8) M, Old m M → SlR M 1 u (l.map byteV) l.length → (∀ i, blk u = some i → (m.next ≤ i ∧ i < M.next) ∨ blk x.vr = some i ∨ blk x.vb = some i) → l.length ≤ x.raw.length + x.bb.length + 1200 → Q u M) :
    AbC Tryz.prog w0 23 [.agg ⟨x.cells⟩, .int .u8 (next.toNat : Int)] m Q := by
  refine AbC_fn ok23 (by simp) ?_
  have hov1 := hx.r.oneC
  have hov2 := hx.b.oneC
  have ro : dBin .rem (.int .u8 (x.op : Int)) (.int .u8 8) = some (.int .u8 ((x.op % 8 : Nat) : Int)) := rem8 (b := 8) (by omega)
  have rw4 : dBin .rem (.int .u8 (x.way : Int)) (.int .u8 4) = some (.int .u8 ((x.way % 4 : Nat) : Int)) := rem8 (b := 4) (by omega)
  have rw6 : dBin .rem (.int .u8 (x.way : Int)) (.int .u8 6) = some (.int .u8 ((x.way % 6 : Nat) : Int)) := rem8 (b := 6) (by omega)
  have wa : IntKind.i64.wrap (x.addr : Int) = (x.addr : Int) := w64 (by have := hx.h3; omega)
  have ws : IntKind.i64.wrap (x.size : Int) = (x.size : Int) := w64 (by have := hx.h4; omega)
  have r1 : dBin .rem (.int .i64 (x.addr : Int)) (.int .i64 17000) = some (.int .i64 ((x.addr % 17000 : Nat) : Int)) := by rw [dBin_rem (by omega), Int.tmod_eq_emod_of_nonneg (by omega)]; rfl
  have r2 : dBin .rem (.int .i64 (x.size : Int)) (.int .i64 300) = some (.int .i64 ((x.size % 300 : Nat) : Int)) := by rw [dBin_rem (by omega), Int.tmod_eq_emod_of_nonneg (by omega)]; rfl
  have l4 : x.way % 4 < 4 := Nat.mod_lt _ (by omega)
  have l6 : x.way % 6 < 6 := Nat.mod_lt _ (by omega)
  have la : x.addr % 17000 < 17000 := Nat.mod_lt _ (by omega)
  have lz : x.size % 300 < 300 := Nat.mod_lt _ (by omega)
  generalize x.op % 8 = r at *
  generalize x.way % 4 = q4 at *
  generalize x.way % 6 = q6 at *
  generalize x.addr % 17000 = a at *
  generalize x.size % 300 = n at *
  have w4 : IntKind.i64.wrap (q4 : Int) = (q4 : Int) := w64 (by omega)
  simp -implicitDefEqProofs (disch := first | assumption | omega | fail) [rc23, ro23, wkB, retV, stabOk, dC, ev, fillD, pickCells, putAt, bnd, slD, List.getElem?_cons_zero, List.getElem?_cons_succ, Mem.cell, Mem.row, cells_own, cells_ro]
  refine SK_bxS (Sep.ofOld hp) (cs := x.cells) (by simp [wkB, retV, stabOk, dC, ev, fillD, pickCells, putAt, bnd, slD, List.getElem?_cons_zero, List.getElem?_cons_succ, Mem.cell, Mem.row, cells_own, cells_ro]) fun x0 m1 h1 _ _ => ?_
  have g1 := h1.get 0 rfl
  simp only [Dd.cells] at g1
  have hnew : ∀ {M : Mem} {l : List UInt8} {b : Nat} {L : HL}, Sep m (fun i => i < m.next) M ((some b, .own (l.map byteV) 5) :: L) → l.length ≤ 1200 → Q (.slice (some ⟨b, 0, none⟩) l.length 1) M := fun {M l b L} hM hl =>
    hq _ l M hM.toOld (hM.slO 0 (ob := some b) (k := l.length) (sz := 1) rfl (by simp) (fun e => by cases e)).read (fun i hi => by cases hi; exact .inl ⟨by have := hM.nv 0 rfl; omega, hM.lt 0 rfl⟩) (by omega)
  simp -implicitDefEqProofs (disch := first | assumption | omega | fail) [wkB, retV, stabOk, dC, ev, fillD, pickCells, putAt, bnd, slD, List.getElem?_cons_zero, List.getElem?_cons_succ, Mem.cell, Mem.row, cells_own, cells_ro, g1, ro]
  by_cases e0 : r = 0
  · subst e0
    simp -implicitDefEqProofs (disch := first | assumption | omega | fail) [wkB, retV, stabOk, dC, ev, fillD, pickCells, putAt, bnd, slD, List.getElem?_cons_zero, List.getElem?_cons_succ, Mem.cell, Mem.row, cells_own, cells_ro, g1, rw4, w4, wa, r1]
    refine c_Load h1.pt ht (by omega) fun m2 o2 => ?_
    have h2 := h1.old o2
    have hwn : wayN (q4 : Int) = q4 := by rcases (show q4 = 0 ∨ q4 = 1 ∨ q4 = 2 ∨ q4 = 3 by omega) with rfl | rfl | rfl | rfl <;> rfl
    rw [hwn]
    have hl := loadL_len (k := q4) (a := a) l4 (by omega)
    simp -implicitDefEqProofs (disch := first | assumption | omega | fail) [wkB, retV, stabOk, dC, ev, fillD, pickCells, putAt, bnd, slD, List.getElem?_cons_zero, List.getElem?_cons_succ, Mem.cell, Mem.row, cells_own, cells_ro]
    refine SK_s2bS h2 (s := loadL q4 a) (by simp [wkB, retV, stabOk, dC, ev, fillD, pickCells, putAt, bnd, slD, List.getElem?_cons_zero, List.getElem?_cons_succ, Mem.cell, Mem.row, cells_own, cells_ro]) (by omega) fun x3 m3 h3 _ _ => ?_
    simp -implicitDefEqProofs (disch := first | assumption | omega | fail) [wkB, retV, stabOk, dC, ev, fillD, pickCells, putAt, bnd, slD, List.getElem?_cons_zero, List.getElem?_cons_succ, Mem.cell, Mem.row, cells_own, cells_ro]
    exact hnew h3 (by omega)
  · have f0 : ((r : Int) == 0) = false := beq_eq_false_iff_ne.2 (by omega)
    by_cases e1 : r = 1
    · subst e1
      simp -implicitDefEqProofs (disch := first | assumption | omega | fail) [wkB, retV, stabOk, dC, ev, fillD, pickCells, putAt, bnd, slD, List.getElem?_cons_zero, List.getElem?_cons_succ, Mem.cell, Mem.row, cells_own, cells_ro, g1, ws, wa, r1, r2]
      refine c_Ask h1.pt ht (by omega) (by omega) fun m2 o2 => ?_
      have h2 := h1.old o2
      have hl := ask_len (a := a) (n := n) (by omega) (by omega)
      simp -implicitDefEqProofs (disch := first | assumption | omega | fail) [wkB, retV, stabOk, dC, ev, fillD, pickCells, putAt, bnd, slD, List.getElem?_cons_zero, List.getElem?_cons_succ, Mem.cell, Mem.row, cells_own, cells_ro]
      refine SK_s2bS h2 (s := askL a n) (by simp [wkB, retV, stabOk, dC, ev, fillD, pickCells, putAt, bnd, slD, List.getElem?_cons_zero, List.getElem?_cons_succ, Mem.cell, Mem.row, cells_own, cells_ro]) (by omega) fun x3 m3 h3 _ _ => ?_
      simp -implicitDefEqProofs (disch := first | assumption | omega | fail) [wkB, retV, stabOk, dC, ev, fillD, pickCells, putAt, bnd, slD, List.getElem?_cons_zero, List.getElem?_cons_succ, Mem.cell, Mem.row, cells_own, cells_ro]
      exact hnew h3 (by omega)
    · have f1 : ((r : Int) == 1) = false := beq_eq_false_iff_ne.2 (by omega)
      by_cases e2 : r = 2
      · subst e2
        simp -implicitDefEqProofs (disch := first | assumption | omega | fail) [wkB, retV, stabOk, dC, ev, fillD, pickCells, putAt, bnd, slD, List.getElem?_cons_zero, List.getElem?_cons_succ, Mem.cell, Mem.row, cells_own, cells_ro, g1]
        exact hq x.vr x.raw m1 h1.toOld (hx.r.o.sep h1).sl (fun i hi => .inr (.inl hi)) (by omega)
      · have f2 : ((r : Int) == 2) = false := beq_eq_false_iff_ne.2 (by omega)
        by_cases e3 : r = 3
        · subst e3
          simp -implicitDefEqProofs (disch := first | assumption | omega | fail) [wkB, retV, stabOk, dC, ev, fillD, pickCells, putAt, bnd, slD, List.getElem?_cons_zero, List.getElem?_cons_succ, Mem.cell, Mem.row, cells_own, cells_ro, g1]
          refine SK_bslS h1 (cs := lineC.map fun l => Value.string ⟨⟨l⟩⟩) (by simp [fillD, pickCells, wkB, retV, stabOk, dC, ev, fillD, pickCells, putAt, bnd, slD, List.getElem?_cons_zero, List.getElem?_cons_succ, Mem.cell, Mem.row, cells_own, cells_ro, lineC]) rfl fun x1 m2 h2 _ _ => ?_
          have g2 := h2.get 1 rfl
          have g20 := h2.get 0 rfl
          simp only [Dd.cells] at g2
          have hidx : sidx 1 (.slice (some ⟨x1, 0, none⟩) 6 1) (.int .u8 (q6 : Int)) = some (.pointer (some ⟨x1, q6, none⟩)) := by simpa using sidx_at (b := x1) (o := 0) (n := 6) (c := 1) (j := q6) (sz := 1) (k := .u8) l6
          obtain ⟨l, hc, hll⟩ := lineC_at l6
          generalize (lineC.map fun l => Value.string ⟨⟨l⟩⟩) = C at *
          simp -implicitDefEqProofs (disch := first | assumption | omega | fail) [wkB, retV, stabOk, dC, ev, fillD, pickCells, putAt, bnd, slD, List.getElem?_cons_zero, List.getElem?_cons_succ, Mem.cell, Mem.row, cells_own, cells_ro, g2, rw6, hidx, g20, hc, getL1 hc]
          refine SK_s2bS h2 (s := l) (by simp [wkB, retV, stabOk, dC, ev, fillD, pickCells, putAt, bnd, slD, List.getElem?_cons_zero, List.getElem?_cons_succ, Mem.cell, Mem.row, cells_own, cells_ro, g20, hc, getL1 hc]) (by omega) fun x3 m3 h3 _ _ => ?_
          simp -implicitDefEqProofs (disch := first | assumption | omega | fail) [wkB, retV, stabOk, dC, ev, fillD, pickCells, putAt, bnd, slD, List.getElem?_cons_zero, List.getElem?_cons_succ, Mem.cell, Mem.row, cells_own, cells_ro]
          exact hnew h3 (by omega)
        · have f3 : ((r : Int) == 3) = false := beq_eq_false_iff_ne.2 (by omega)
          simp -implicitDefEqProofs (disch := first | assumption | omega | fail) [wkB, retV, stabOk, dC, ev, fillD, pickCells, putAt, bnd, slD, List.getElem?_cons_zero, List.getElem?_cons_succ, Mem.cell, Mem.row, cells_own, cells_ro, f0, f1, f2, f3, g1, rc23_0, rw4]
          obtain ⟨crc, hcrc⟩ : ∃ c : Bool, decide (0 < q4) = c := ⟨_, rfl⟩
          try rw [hcrc]
          refine c_aPut (op := x.bop) (no := x.bno) (at_ := x.bat) (by_ := x.bby) (b := x.bb) (v := x.vb) h1.pt (hx.b.o.sep h1) hx.h7 hx.h5 hx.h6 fun u l m2 o2 hu hub hl _ => ?_
          have h2 := h1.old o2
          simp -implicitDefEqProofs (disch := first | assumption | omega | fail) [wkB, retV, stabOk, dC, ev, fillD, pickCells, putAt, bnd, slD, List.getElem?_cons_zero, List.getElem?_cons_succ, Mem.cell, Mem.row, cells_own, cells_ro]
          exact hq u l m2 h2.toOld hu (fun i hi => by
            rcases hub i hi with ⟨h3, h4⟩ | h3
            · exact .inl ⟨Nat.le_trans h1.n h3, h4⟩
            · exact .inr (.inr h3)) (by omega)
end Go.Proofs.YtiapjjgmmiifmaaGreatDoor.Ab

set_option linter.unusedVariables false
set_option linter.unusedSimpArgs false
namespace Go.Proofs.YtiapjjgmmiifmaaGreatDoor.Ab
open Go Go.RowKit
set_option maxHeartbeats 4000000
set_option maxRecDepth 100000
/-- A slice's element of some cells: where it is read. -/
theorem SlR.cellsAt {m : Mem} {sz n j : Nat} {v : Value} {cs C : List Value} (h : SlR m sz v cs n) (hj : j < n) (hC : (cs.drop (j * sz)).take sz = C) :
    ∃ i o L, v = .slice (some ⟨i, o, none⟩) n sz ∧ sidx sz v (.int .i64 (j : Int)) = some (.pointer (some ⟨i, o + j * sz, none⟩)) ∧ (m.get i).cells? = some L ∧ o + j * sz + sz ≤ L.length ∧ (L.drop (o + j * sz)).take sz = C := by
  obtain ⟨i, o, L, rfl, h2, h3, h4, -⟩ := h.at hj
  have hle : j * sz + sz ≤ n * sz := by
    have : (j + 1) * sz ≤ n * sz := Nat.mul_le_mul_right _ hj
    rwa [Nat.add_mul, Nat.one_mul] at this
  exact ⟨i, o, L, rfl, sidx_at hj, h2, by omega, by rw [h4, hC]⟩
theorem dd_at {ds : List Dd} {j : Nat} (hj : j < ds.length) : ((ds.flatMap Dd.cells).drop (j * 10)).take 10 = (ds[j]).cells := flat_at Dd.clen ds (List.getElem?_eq_getElem hj)
/-- A text that comes behind another one. -/
theorem catL (a b : List UInt8) (h : a.length + b.length ≤ 9223372036854775807) : dBin .add (.string ⟨⟨a⟩⟩) (.string ⟨⟨b⟩⟩) = some (.string ⟨⟨a ++ b⟩⟩) := catB a b h
structure SafeI (it : Nat) (j : Nat) (s : TgS) (told : List UInt8) : Prop where
  f : Sfx told s.reps
  tl : told.length ≤ 1000000000 * j
  rl : s.reps.length ≤ 3300000 * j
  sz : s.tak.sz ≤ 3300000 * j
theorem c_safeCount {w0 : World} {V : Nat → Prop} {m0 m : Mem} {H : HL} {it : Nat} {s : TgS} {told : List UInt8} {fr : Fr} (ht : Ten w0) (h : Sep m0 V m H) (hR : TgR H it s) (hf : Sfx told s.reps) (hl : told.length ≤ 9000000000000000) (hrl : s.reps.length ≤ 5000000000000) (t7 : fr 7 = .pointer (some ⟨it, 0, none⟩)) (t8 : fr 8 = .string ⟨⟨told⟩⟩) :
    AbW Tryz.prog w0 rc7_6 (bodyA [.mv (.tmp 6)] fun u _ => u = .bool true) fr m := by
  simp -implicitDefEqProofs (disch := first | assumption | omega | fail) [rc7_6, wkB, retV, stabOk, dC, ev, fillD, pickCells, putAt, bnd, slD, List.getElem?_cons_zero, List.getElem?_cons_succ, Mem.cell, Mem.row, cells_own, cells_ro, t7, t8]
  refine LoopW_of (fun k ts m' => ∃ j n : Nat, j + k = told.length ∧ n ≤ s.reps.length ∧ Sep m0 V m' H ∧ Sfx (told.drop j) (s.reps.drop n) ∧ ts 7 = .pointer (some ⟨it, 0, none⟩) ∧ ts 8 = .string ⟨⟨told⟩⟩ ∧ ts 11 = .int .i64 (n : Int) ∧ ts 12 = .int .i64 (j : Int)) told.length ?_ ?_
  · exact ⟨0, 0, by omega, by omega, h, by simpa using hf, by simp [t7], by simp [t8], by simp, by simp⟩
  rintro k ts m1 K ⟨j, n, hj, hn, h1, hS, t7, t8, t11, t12⟩ hK
  have w4 : IntKind.i64.wrap ((j : Int) + 4) = ((j + 4 : Nat) : Int) := by rw [w64 (by omega)]; omega
  have w1 : IntKind.i64.wrap ((j : Int) + 1) = ((j + 1 : Nat) : Int) := by rw [w64 (by omega)]; omega
  have hsz : (ByteArray.mk ⟨told⟩).size = told.length := rfl
  have hdl : (told.drop j).length = told.length - j := by simp
  by_cases h4 : j + 4 ≤ told.length
  · have hc4 : ((j + 4 : Nat) : Int) ≤ (told.length : Int) := by omega
    have hs4 := slsW_at (l := told) (a := j) (b := j + 4) (by omega) h4
    rw [show j + 4 - j = 4 by omega] at hs4
    have htail : (told.drop j).tail = told.drop (j + 1) := by rw [List.tail_drop]
    rcases hS.cases4 (by omega) with ⟨hne, hS2⟩ | ⟨r, qs, hrs, h5, h6, h7, hS2, x, y, hx, hy, hx2, hy2, hp2⟩
    · rw [htail] at hS2
      generalize (told.drop j).take 4 = T at *
      have hb : (T == ([115, 117, 109, 32] : List UInt8)) = false := by simpa using hne
      obtain ⟨J4, hJ4⟩ : ∃ J4, j + 4 = J4 := ⟨_, rfl⟩
      obtain ⟨J1, hJ1⟩ : ∃ J1, j + 1 = J1 := ⟨_, rfl⟩
      rw [hJ4] at w4 hc4 hs4
      rw [hJ1] at w1 hS2
      simp -implicitDefEqProofs (disch := first | assumption | omega | fail) [rc7_4, rc7_3, wkB, retV, stabOk, dC, ev, fillD, pickCells, putAt, bnd, slD, List.getElem?_cons_zero, List.getElem?_cons_succ, Mem.cell, Mem.row, cells_own, cells_ro, t7, t8, t11, t12, w4, hsz, hc4, hs4, hb, w1]
      exact hK (k - 1) _ _ (by omega) ⟨J1, n, by omega, hn, h1, hS2, by simp [t7], by simp [t8], by simp [t11], by simp⟩
    · rw [htail] at hS2
      have hnl : n < s.reps.length := by
        rcases Nat.lt_or_ge n s.reps.length with h' | h'
        · exact h'
        · rw [List.drop_of_length_le h'] at hrs; cases hrs
      have hgn : s.reps[n]? = some r := by
        have := congrArg (fun l : List Rep => l[0]?) hrs
        simpa [List.getElem?_drop] using this
      have hdn : s.reps.drop (n + 1) = qs := by rw [← List.tail_drop, hrs]; rfl
      have hb : (([115, 117, 109, 32] : List UInt8) == ([115, 117, 109, 32] : List UInt8)) = true := rfl
      rw [h5] at hs4
      obtain ⟨J4, hJ4⟩ : ∃ J4, j + 4 = J4 := ⟨_, rfl⟩
      obtain ⟨J1, hJ1⟩ : ∃ J1, j + 1 = J1 := ⟨_, rfl⟩
      rw [hJ4] at w4 hc4 hs4
      rw [hJ1] at w1 hS2
      have hgn' : ¬ ((s.reps.length : Int) ≤ (n : Int)) := by omega
      simp -implicitDefEqProofs (disch := first | assumption | omega | fail) [rc7_4, rc7_3, wkB, retV, stabOk, dC, ev, fillD, pickCells, putAt, bnd, slD, List.getElem?_cons_zero, List.getElem?_cons_succ, Mem.cell, Mem.row, cells_own, cells_ro, t7, t8, t11, t12, w4, hsz, hc4, hs4]
      refine c_tReplies h1.self hR (by omega) fun o2 m2 h2 hn2 => ?_
      have h2' := h1.tr h2
      have hsl2 := (h2'.slO 0 (k := s.reps.length) (sz := 3) rfl (flat_len repC_len _) hn2).slen
      have h3 := h2'.tl
      simp -implicitDefEqProofs (disch := first | assumption | omega | fail) [wkB, retV, stabOk, dC, ev, fillD, pickCells, putAt, bnd, slD, List.getElem?_cons_zero, List.getElem?_cons_succ, Mem.cell, Mem.row, cells_own, cells_ro, hsl2, t7, t11, hgn', hnl, rc7_2]
      refine c_tReplies h3.self hR (by omega) fun o4 m4 h4' hn4 => ?_
      have h4 := h3.tr h4'
      have hrow := flat_at repC_len s.reps hgn
      obtain ⟨i, o, L, hi1, hi2, hi3, hi4, hi5⟩ := (h4.slO 0 (k := s.reps.length) (sz := 3) rfl (flat_len repC_len _) hn4).read.cellsAt hnl hrow
      have h5' := h4.tl
      simp -implicitDefEqProofs (disch := first | assumption | omega | fail) [wkB, retV, stabOk, dC, ev, fillD, pickCells, putAt, bnd, slD, List.getElem?_cons_zero, List.getElem?_cons_succ, Mem.cell, Mem.row, cells_own, cells_ro, t11, hi2, hi3, hi4, hi5, repC]
      rw [hx, hy]
      refine c_Line h5'.pt ht (by omega) (by omega) hp2 fun m6 o6 => ?_
      have h6' := h5'.old o6
      have hrl' : repL r = lineL x y r.2.2 := by unfold repL; rw [hx, hy]
      rw [hrl'] at h6 h7
      have hll := line_len hx2 hy2 hp2
      generalize lineL x y r.2.2 = T at *
      have hszT : (ByteArray.mk ⟨T⟩).size = T.length := rfl
      have wT : IntKind.i64.wrap ((j : Int) + (T.length : Int)) = ((j + T.length : Nat) : Int) := by rw [w64 (by omega)]; omega
      have hsT := slsW_at (l := told) (a := j) (b := j + T.length) (by omega) (by omega)
      rw [show j + T.length - j = T.length by omega, h7] at hsT
      have hgt : ¬ ((told.length : Int) < ((j + T.length : Nat) : Int)) := by omega
      have wn : IntKind.i64.wrap ((n : Int) + 1) = ((n + 1 : Nat) : Int) := by rw [w64 (by omega)]; omega
      obtain ⟨JT, hJT⟩ : ∃ JT, j + T.length = JT := ⟨_, rfl⟩
      obtain ⟨N1, hN1⟩ : ∃ N1, n + 1 = N1 := ⟨_, rfl⟩
      rw [hJT] at wT hsT hgt
      rw [hN1] at wn hdn
      have hTT : (T == T) = true := by simp
      simp -implicitDefEqProofs (disch := first | assumption | omega | fail) [wkB, retV, stabOk, dC, ev, fillD, pickCells, putAt, bnd, slD, List.getElem?_cons_zero, List.getElem?_cons_succ, Mem.cell, Mem.row, cells_own, cells_ro, t7, t8, t11, t12, hsz, hszT, wT, hgt, hsT, hTT, wn, w1]
      exact hK (k - 1) _ _ (by omega) ⟨J1, N1, by omega, by omega, h6', by rw [hdn]; exact hS2, by simp [t7], by simp [t8], by simp, by simp⟩
  · have hc4 : ¬ ((j + 4 : Nat) : Int) ≤ (told.length : Int) := by omega
    have hnil := hS.short (by omega)
    have hnn : n = s.reps.length := by
      have := congrArg List.length hnil
      simp at this
      omega
    obtain ⟨J4, hJ4⟩ : ∃ J4, j + 4 = J4 := ⟨_, rfl⟩
    rw [hJ4] at w4 hc4
    simp -implicitDefEqProofs (disch := first | assumption | omega | fail) [rc7_4, rc7_5, wkB, retV, stabOk, dC, ev, fillD, pickCells, putAt, bnd, slD, List.getElem?_cons_zero, List.getElem?_cons_succ, Mem.cell, Mem.row, cells_own, cells_ro, t7, t8, t11, t12, w4, hsz, hc4]
    refine c_tReplies h1.self hR (by omega) fun o2 m2 h2 hn2 => ?_
    have h2' := h1.tr h2
    have hsl2 := (h2'.slO 0 (k := s.reps.length) (sz := 3) rfl (flat_len repC_len _) hn2).slen
    simp -implicitDefEqProofs (disch := first | assumption | omega | fail) [wkB, retV, stabOk, dC, ev, fillD, pickCells, putAt, bnd, slD, List.getElem?_cons_zero, List.getElem?_cons_succ, Mem.cell, Mem.row, cells_own, cells_ro, hsl2, t11, hnn]
end Go.Proofs.YtiapjjgmmiifmaaGreatDoor.Ab

set_option linter.unusedVariables false
set_option linter.unusedSimpArgs false
namespace Go.Proofs.YtiapjjgmmiifmaaGreatDoor.Ab
open Go Go.RowKit
set_option maxHeartbeats 4000000
set_option maxRecDepth 100000
theorem le_sum_of_mem {α : Type} (g : α → Nat) : ∀ (l : List α) {x : α}, x ∈ l → g x ≤ (l.map g).sum
  | y :: l, x, h => by
    rw [List.map_cons, List.sum_cons]
    rcases List.mem_cons.1 h with rfl | h
    · omega
    · have := le_sum_of_mem g l h
      omega
section
variable {m : Mem}
theorem absT_bysR {td : TD} {v : Value} (h : AbsT m td [v]) (hs : Fits (.sl (.int .u8)) td) : ∃ bs : List UInt8, RdV (fun i => i < m.next) m 1 v (bs.map byteV) bs.length ∧ bs.length + 1 ≤ td.bulk := by
  obtain ⟨bs, c, d, l⟩ := absT_bys h hs
  exact ⟨bs, ⟨c, fun i hi => ⟨d i hi, d i hi⟩⟩, l⟩
theorem absT_rws {td : TD} {v : Value} (h : AbsT m td [v]) (hs : Fits (.sl (.sl (.int .u8))) td) :
    ∃ xs : List (Value × List UInt8), RdV (fun i => i < m.next) m 1 v (xs.flatMap fun x => [x.1]) xs.length ∧ (∀ x ∈ xs, RdV (fun i => i < m.next) m 1 x.1 (x.2.map byteV) x.2.length ∧ x.2.length ≤ td.bulk) := by
  obtain ⟨l, xs, rfl, h1, h2, h3⟩ := absT_slice (f := fun x : Value × List UInt8 => [x.1]) (z := 1) (R := fun d x => RdV (fun i => i < m.next) m 1 x.1 (x.2.map byteV) x.2.length ∧ x.2.length ≤ d.bulk) (fun _ => rfl) (fun d c hf ha => by
    obtain ⟨v, rfl⟩ := ha.one hf (by intro ss; simp)
    obtain ⟨bs, q1, q2⟩ := absT_bysR ha hf
    exact ⟨(v, bs), rfl, q1, by show bs.length ≤ _; omega⟩) h hs
  refine ⟨xs, ⟨h1, fun i hi => ⟨h3 i hi, h3 i hi⟩⟩, fun x hx => ⟨(h2.right x hx).choose_spec.2.1, ?_⟩⟩
  have h4 := h2.sum (g := fun x => x.2.length) fun d b hr => hr.2
  have h5 : x.2.length ≤ (xs.map fun x => x.2.length).sum := le_sum_of_mem (fun x => x.2.length) xs hx
  simp [TD.bulk]; omega
def actShp : Shp := .recd [.int .u8, .int .u8, .int .u16, .int .u16, .sl (.int .u8), .recd [.int .u8, .int .u8, .sl (.int .u8), .int .u16, .int .u8]]
theorem absT_act {td : TD} {cs : List Value} (h : AbsT m td cs) (hf : Fits actShp td) : ∃ x : Dd, cs = x.cells ∧ (x.bb.length ≤ 9223372036854775807 → DdOk (fun i => i < m.next) m x) ∧ x.raw.length + x.bb.length ≤ td.bulk := by
  obtain ⟨l0, rfl, k, f⟩ := absT_recd h hf
  obtain ⟨d1, r1, c1, e1, rfl, rfl, h1, g1, k, f⟩ := absTs_cons k f
  obtain ⟨d2, r2, c2, e2, rfl, rfl, h2, g2, k, f⟩ := absTs_cons k f
  obtain ⟨d3, r3, c3, e3, rfl, rfl, h3, g3, k, f⟩ := absTs_cons k f
  obtain ⟨d4, r4, c4, e4, rfl, rfl, h4, g4, k, f⟩ := absTs_cons k f
  obtain ⟨d5, r5, c5, e5, rfl, rfl, h5, g5, k, f⟩ := absTs_cons k f
  obtain ⟨d6, r6, c6, e6, rfl, rfl, h6, g6, k, f⟩ := absTs_cons k f
  obtain ⟨rfl, rfl⟩ := absTs_nil k f
  obtain ⟨l1, rfl, k, f⟩ := absT_recd h6 g6
  obtain ⟨d7, r7, c7, e7, rfl, rfl, h7, g7, k, f⟩ := absTs_cons k f
  obtain ⟨d8, r8, c8, e8, rfl, rfl, h8, g8, k, f⟩ := absTs_cons k f
  obtain ⟨d9, r9, c9, e9, rfl, rfl, h9, g9, k, f⟩ := absTs_cons k f
  obtain ⟨d10, r10, c10, e10, rfl, rfl, h10, g10, k, f⟩ := absTs_cons k f
  obtain ⟨d11, r11, c11, e11, rfl, rfl, h11, g11, k, f⟩ := absTs_cons k f
  obtain ⟨rfl, rfl⟩ := absTs_nil k f
  obtain ⟨a1, rfl, rfl, w1⟩ := absT_int h1 g1
  obtain ⟨a2, rfl, rfl, w2⟩ := absT_int h2 g2
  obtain ⟨a3, rfl, rfl, w3⟩ := absT_int h3 g3
  obtain ⟨a4, rfl, rfl, w4⟩ := absT_int h4 g4
  obtain ⟨v5, rfl⟩ := h5.one g5 (by intro ss; simp)
  obtain ⟨b5, q5, l5⟩ := absT_bysR h5 g5
  obtain ⟨a7, rfl, rfl, w7⟩ := absT_int h7 g7
  obtain ⟨a8, rfl, rfl, w8⟩ := absT_int h8 g8
  obtain ⟨v9, rfl⟩ := h9.one g9 (by intro ss; simp)
  obtain ⟨b9, q9, l9⟩ := absT_bysR h9 g9
  obtain ⟨a10, rfl, rfl, w10⟩ := absT_int h10 g10
  obtain ⟨a11, rfl, rfl, w11⟩ := absT_int h11 g11
  have x1 := wf_u8 w1
  have x2 := wf_u8 w2
  have x3 := wf_u16 w3
  have x4 := wf_u16 w4
  have x7 := wf_u8 w7
  have x8 := wf_u8 w8
  have x10 := wf_u16 w10
  obtain ⟨a1, rfl⟩ := Int.eq_ofNat_of_zero_le x1.1
  obtain ⟨a2, rfl⟩ := Int.eq_ofNat_of_zero_le x2.1
  obtain ⟨a3, rfl⟩ := Int.eq_ofNat_of_zero_le x3.1
  obtain ⟨a4, rfl⟩ := Int.eq_ofNat_of_zero_le x4.1
  obtain ⟨a7, rfl⟩ := Int.eq_ofNat_of_zero_le x7.1
  obtain ⟨a8, rfl⟩ := Int.eq_ofNat_of_zero_le x8.1
  obtain ⟨a10, rfl⟩ := Int.eq_ofNat_of_zero_le x10.1
  have lb : b5.length + b9.length ≤ (TD.recd [.int .u8 (a1 : Int), .int .u8 (a2 : Int), .int .u16 (a3 : Int), .int .u16 (a4 : Int), d5, .recd [.int .u8 (a7 : Int), .int .u8 (a8 : Int), d9, .int .u16 (a10 : Int), .int .u8 a11]]).bulk := by
    simp [TD.bulk, TD.bulks]; omega
  exact ⟨⟨a1, a2, a3, a4, v5, b5, a7, a8, v9, b9, a10, a11⟩, rfl, fun hb => ⟨q5, q9, by simp only; omega, by simp only; omega, by simp only; omega, by simp only; omega, by simp only; omega, by simp only; omega, hb⟩, lb⟩
theorem absT_acts {td : TD} {v : Value} (h : AbsT m td [v]) (hs : Fits (.sl actShp) td) (hk : td.bulk ≤ 1048576) :
    ∃ ds : List Dd, RdV (fun i => i < m.next) m 10 v (ds.flatMap Dd.cells) ds.length ∧ (∀ x ∈ ds, DdOk (fun i => i < m.next) m x ∧ x.raw.length + x.bb.length ≤ td.bulk) ∧ ds.length ≤ td.bulk := by
  obtain ⟨l, xs, rfl, h1, h2, h3⟩ := absT_slice (f := Dd.cells) (z := 10) (R := fun d x => (x.bb.length ≤ 9223372036854775807 → DdOk (fun i => i < m.next) m x) ∧ x.raw.length + x.bb.length ≤ d.bulk) Dd.clen (fun d c hf ha => by
    obtain ⟨x, rfl, q1, q2⟩ := absT_act ha hf
    exact ⟨x, rfl, q1, q2⟩) h hs
  have hA : ∀ x ∈ xs, x.raw.length + x.bb.length ≤ (TD.sl l).bulk := fun x hx => by
    have h4 := h2.sum (g := fun x => x.raw.length + x.bb.length) fun d b hr => hr.2
    have h5 : x.raw.length + x.bb.length ≤ (xs.map fun x => x.raw.length + x.bb.length).sum := le_sum_of_mem (fun x => x.raw.length + x.bb.length) xs hx
    simp [TD.bulk]; omega
  refine ⟨xs, ⟨h1, fun i hi => ⟨h3 i hi, h3 i hi⟩⟩, fun x hx => ⟨(h2.right x hx).choose_spec.2.1 (by have := hA x hx; omega), hA x hx⟩, ?_⟩
  have := TD.bulks_len l
  rw [h2.length]
  simp [TD.bulk]; omega
end
end Go.Proofs.YtiapjjgmmiifmaaGreatDoor.Ab

set_option linter.unusedVariables false
set_option linter.unusedSimpArgs false
namespace Go.Proofs.YtiapjjgmmiifmaaGreatDoor.Ab
open Go Go.RowKit
set_option maxHeartbeats 4000000
set_option maxRecDepth 100000
theorem rws_at {xs : List (Value × List UInt8)} {j : Nat} (hj : j < xs.length) : ((xs.flatMap fun x => [x.1]).drop (j * 1)).take 1 = [(xs[j]).1] := flat_at (f := fun x : Value × List UInt8 => [x.1]) (fun _ => rfl) xs (List.getElem?_eq_getElem hj)
theorem SafeI.put {it j : Nat} {s : TgS} {told l : List UInt8} {T S : Nat} (h : Sfx told s.reps ∧ told.length ≤ T ∧ s.reps.length ≤ S ∧ s.tak.sz ≤ S) (hl : l.length ≤ 3000000) : Sfx (told ++ (tPutF s l).2) (tPutF s l).1.reps ∧ (told ++ (tPutF s l).2).length ≤ T + 200 * l.length + 200 ∧ (tPutF s l).1.reps.length ≤ S + l.length + 1024 ∧ (tPutF s l).1.tak.sz ≤ S + l.length + 1024 := by
  obtain ⟨h1, h2, h3, h4⟩ := h
  obtain ⟨new, k1, k2⟩ := tPut_tells s l
  have k := tPut_sz s l
  refine ⟨by rw [k1]; exact h1.app k2, by simp only [List.length_append]; omega, by omega, by omega⟩
theorem SafeI.tick {s : TgS} {told : List UInt8} {T S : Nat} (h : Sfx told s.reps ∧ told.length ≤ T ∧ s.reps.length ≤ S ∧ s.tak.sz ≤ S) : Sfx (told ++ (tTickF s).2) (tTickF s).1.reps ∧ (told ++ (tTickF s).2).length ≤ T + 10 ∧ (tTickF s).1.reps.length ≤ S ∧ (tTickF s).1.tak.sz ≤ S := by
  obtain ⟨h1, h2, h3, h4⟩ := h
  obtain ⟨new, k1, k2⟩ := tTick_tells s
  have k := tTick_sz s
  refine ⟨by rw [k1]; exact h1.app k2, by simp only [List.length_append]; omega, by rw [k.2.1]; omega, by omega⟩
theorem l_Safe {w0 : World} {m : Mem} {tr wt : Int} {va vw : Value} {ds : List Dd} {xs : List (Value × List UInt8)} (hp : Part L0 m) (ht : Ten w0) (hE : ErrV w0)
    (ha : RdV (fun i => i < m.next) m 10 va (ds.flatMap Dd.cells) ds.length) (hds : ∀ x ∈ ds, DdOk (fun i => i < m.next) m x ∧ x.raw.length + x.bb.length ≤ 1048576) (hdl : ds.length ≤ 1048576)
    (hw : RdV (fun i => i < m.next) m 1 vw (xs.flatMap fun x => [x.1]) xs.length) (hxs : ∀ x ∈ xs, RdV (fun i => i < m.next) m 1 x.1 (x.2.map byteV) x.2.length ∧ x.2.length ≤ 1048576) :
    AbC Tryz.prog w0 7 [.agg ⟨[.int .i64 tr, .int .i64 wt]⟩, va, vw] m fun u _ => u = .bool true := by
  refine AbC_fn ok7 (by simp) ?_
  simp -implicitDefEqProofs (disch := first | assumption | omega | fail) [rc7, ro7, wkB, retV, stabOk, dC, ev, fillD, pickCells, putAt, bnd, slD, List.getElem?_cons_zero, List.getElem?_cons_succ, Mem.cell, Mem.row, cells_own, cells_ro]
  refine SK_bxS (Sep.ofOld hp) (cs := [.int .i64 tr, .int .i64 wt]) (by simp [wkB, retV, stabOk, dC, ev, fillD, pickCells, putAt, bnd, slD, List.getElem?_cons_zero, List.getElem?_cons_succ, Mem.cell, Mem.row, cells_own, cells_ro]) fun B m1 h1 _ _ => ?_
  have g1 := h1.get 0 rfl
  simp -implicitDefEqProofs (disch := first | assumption | omega | fail) [wkB, retV, stabOk, dC, ev, fillD, pickCells, putAt, bnd, slD, List.getElem?_cons_zero, List.getElem?_cons_succ, Mem.cell, Mem.row, cells_own, cells_ro]
  refine c_awake h1.pt ?_
  simp -implicitDefEqProofs (disch := first | assumption | omega | fail) [wkB, retV, stabOk, dC, ev, fillD, pickCells, putAt, bnd, slD, List.getElem?_cons_zero, List.getElem?_cons_succ, Mem.cell, Mem.row, cells_own, cells_ro, rc7_7, g1]
  refine c_tOf h1.tl fun it H m2 h2 hR2 => ?_
  rw [List.append_nil] at h2
  simp -implicitDefEqProofs (disch := first | assumption | omega | fail) [wkB, retV, stabOk, dC, ev, fillD, pickCells, putAt, bnd, slD, List.getElem?_cons_zero, List.getElem?_cons_succ, Mem.cell, Mem.row, cells_own, cells_ro, ha.sl.slen]
  refine LoopW_of (fun k ts m' => ∃ (j : Nat) (s : TgS) (told : List UInt8) (H : HL), j + k = ds.length ∧ Sep m (fun i => i < m.next) m' H ∧ TgR H it s ∧ (Sfx told s.reps ∧ told.length ≤ 1000000000 * j ∧ s.reps.length ≤ 3300000 * j ∧ s.tak.sz ≤ 3300000 * j) ∧
    ts 1 = va ∧ ts 2 = vw ∧ ts 7 = .pointer (some ⟨it, 0, none⟩) ∧ ts 8 = .string ⟨⟨told⟩⟩ ∧ ts 18 = va ∧ ts 19 = .int .i64 (ds.length : Nat) ∧ ts 20 = .int .i64 (j : Nat)) ds.length ?_ ?_
  · exact ⟨0, tg0S tr wt, [], H, by omega, h2, hR2, ⟨.nil, by simp, by simp [tg0S], by simp [tg0S, Tak.sz]⟩, by simp [frA_at], by simp [frA_at], by simp, by simp, by simp [frA_at], by simp, by simp⟩
  clear h1 g1 h2 hR2
  rintro k ts m3 K ⟨j, s, told, H, hj, h3, hR3, hI, t1, t2, t7, t8, t18, t19, t20⟩ hK
  by_cases hjl : j < ds.length
  · have hjl' : (j : Int) < (ds.length : Nat) := by omega
    have wj : IntKind.i64.wrap ((j : Int) + 1) = ((j + 1 : Nat) : Int) := by rw [w64 (by omega)]; omega
    obtain ⟨i, o, L, hi1, hi2, hi3, hi4, hi5⟩ := (ha.sep h3).sl.cellsAt hjl (dd_at hjl)
    obtain ⟨x, hx⟩ : ∃ x, ds[j] = x := ⟨_, rfl⟩
    obtain ⟨hxo, hxl⟩ := hds x (by rw [← hx]; exact List.getElem_mem hjl)
    rw [hx] at hi5
    have hov1 := hxo.r.oneC
    have hov2 := hxo.b.oneC
    have hi5 : (L.drop (o + j * 10)).take 10 = [.int .u8 (x.op : Int), .int .u8 (x.way : Int), .int .u16 (x.addr : Int), .int .u16 (x.size : Int), x.vr, .int .u8 (x.bop : Int), .int .u8 (x.bno : Int), x.vb, .int .u16 (x.bat : Int), .int .u8 x.bby] := hi5
    simp -implicitDefEqProofs (disch := first | assumption | omega | fail) [rc7_1, rc7_0, wkB, retV, stabOk, dC, ev, fillD, pickCells, putAt, bnd, slD, List.getElem?_cons_zero, List.getElem?_cons_succ, Mem.cell, Mem.row, cells_own, cells_ro, t1, t2, t7, t8, t18, t19, t20, hjl, hjl', hi2, hi3, hi4, hi5]
    refine SK_alS h3 fun x4 m4 h4 _ _ => ?_
    simp -implicitDefEqProofs (disch := first | assumption | omega | fail) [wkB, retV, stabOk, dC, ev, fillD, pickCells, putAt, bnd, slD, List.getElem?_cons_zero, List.getElem?_cons_succ, Mem.cell, Mem.row, cells_own, cells_ro, t20]
    refine SK_stS h4 0 rfl (o := 0) (vs := x.cells) (cs' := x.cells) (by simp [wkB, retV, stabOk, dC, ev, fillD, pickCells, putAt, bnd, slD, List.getElem?_cons_zero, List.getElem?_cons_succ, Mem.cell, Mem.row, cells_own, cells_ro]) (by simp [wkB, retV, stabOk, dC, ev, fillD, pickCells, putAt, bnd, slD, List.getElem?_cons_zero, List.getElem?_cons_succ, Mem.cell, Mem.row, cells_own, cells_ro, Dd.cells]) (by simp) rfl (by simp only [Dd.cells, List.all_cons, List.all_nil, hov1.2, hov2.2, Bool.and_true]; rfl) rfl fun m5 h5 _ => ?_
    have g5 := h5.get 0 rfl
    simp only [Dd.cells] at g5
    have h5' := h5.tl
    simp -implicitDefEqProofs (disch := first | assumption | omega | fail) [wkB, retV, stabOk, dC, ev, fillD, pickCells, putAt, bnd, slD, List.getElem?_cons_zero, List.getElem?_cons_succ, Mem.cell, Mem.row, cells_own, cells_ro, g5, t7, t8]
    refine c_bytes (next := 1) h5'.pt ht (hxo.keep h5'.k) fun u l m6 o6 hu hub hll => ?_
    have h6 := h5'.old o6
    have hll : l.length ≤ 1049776 := by omega
    have hpr : ∀ i, blk u = some i → i < m6.next ∧ ¬ ids H i := fun i hi => by
      rcases hub i hi with ⟨q1, q2⟩ | q | q
      · exact ⟨q2, fun hid => by have := h5'.il hid; omega⟩
      · have hlt := (hxo.r.bl i q).1
        exact ⟨Nat.lt_of_lt_of_le hlt h6.n, fun hid => (h6.il hid).2 hlt⟩
      · have hlt := (hxo.b.bl i q).1
        exact ⟨Nat.lt_of_lt_of_le hlt h6.n, fun hid => (h6.il hid).2 hlt⟩
    have h6' := h6.prot (fun i => blk u = some i) hpr
    have hru : RdV (fun i => i < m.next ∨ blk u = some i) m6 1 u (l.map byteV) l.length := ⟨hu, fun i hi => ⟨(hpr i hi).1, .inr hi⟩⟩
    clear hub hpr h3 h4 h5 g5 hi5 hi4 hi3 hi2 hi1
    simp -implicitDefEqProofs (disch := first | assumption | omega | fail) [wkB, retV, stabOk, dC, ev, fillD, pickCells, putAt, bnd, slD, List.getElem?_cons_zero, List.getElem?_cons_succ, Mem.cell, Mem.row, cells_own, cells_ro, t7, t8]
    refine c_tPut (b := l) ht hE h6' hR3 hru (by omega) (by omega) (by omega) fun o7 H7 m7 h7 hR7 ho7 => ?_
    have h7 := h6.trm h7 (fun i hi => .inl hi)
    have hI7 := SafeI.put (it := 0) (j := 0) hI (l := l) (by omega)
    generalize tPutF s l = r7 at *
    have hb7 : bstr m7 (slV o7 r7.2.length 1) = some (.string ⟨⟨r7.2⟩⟩) := SlR.txt (h7.slm (List.mem_cons_self ..) (by simp) ho7).read
    have h7' := h7.rot1
    have hc7 := catL told r7.2 (by have := hI7.2.1; rw [List.length_append] at this; omega)
    simp -implicitDefEqProofs (disch := first | assumption | omega | fail) [wkB, retV, stabOk, dC, ev, fillD, pickCells, putAt, bnd, slD, List.getElem?_cons_zero, List.getElem?_cons_succ, Mem.cell, Mem.row, cells_own, cells_ro, t7, t8, hb7, hc7]
    refine c_tTick ht hE h7'.fr hR7 (by omega) fun o8 H8 m8 h8 hR8 ho8 => ?_
    have h8 := h7'.un h8
    have hI8 := SafeI.tick hI7
    generalize tTickF r7.1 = r8 at *
    have hb7' : bstr m8 (slV o7 r7.2.length 1) = some (.string ⟨⟨r7.2⟩⟩) := SlR.txt (h8.slm (List.mem_append_right _ (List.mem_singleton.2 rfl)) (by simp) ho7).read
    have hb8 : bstr m8 (slV o8 r8.2.length 1) = some (.string ⟨⟨r8.2⟩⟩) := SlR.txt (h8.slm (List.mem_cons_self ..) (by simp) ho8).read
    have hc8 := catL (told ++ r7.2) r8.2 (by have := hI8.2.1; rw [List.length_append] at this; omega)
    have h8' := (h8.sub (List.sublist_append_left _ _)).tl
    generalize told ++ r7.2 ++ r8.2 = told8 at *
    simp -implicitDefEqProofs (disch := first | assumption | omega | fail) [wkB, retV, stabOk, dC, ev, fillD, pickCells, putAt, bnd, slD, List.getElem?_cons_zero, List.getElem?_cons_succ, Mem.cell, Mem.row, cells_own, cells_ro, t2, t7, t8, t20, hb7', hb8, hc8, hw.sl.slen]
    by_cases hjx : j < xs.length
    · have hjx' : (j : Int) < (xs.length : Nat) := by omega
      obtain ⟨i, o, L, hi1, hi2, hi3, hi4, hi5⟩ := (hw.sep h8').sl.cellsAt hjx (rws_at hjx)
      obtain ⟨x, hx⟩ : ∃ x, xs[j] = x := ⟨_, rfl⟩
      obtain ⟨hxr, hxl⟩ := hxs x (by rw [← hx]; exact List.getElem_mem hjx)
      rw [hx] at hi5
      have hg : L[o + j * 1]? = some x.1 := by
        have := congrArg (fun q : List Value => q[0]?) hi5
        simpa [List.getElem?_take, List.getElem?_drop] using this
      rw [Nat.mul_one] at hg hi2
      simp -implicitDefEqProofs (disch := first | assumption | omega | fail) [wkB, retV, stabOk, dC, ev, fillD, pickCells, putAt, bnd, slD, List.getElem?_cons_zero, List.getElem?_cons_succ, Mem.cell, Mem.row, cells_own, cells_ro, t2, t7, t8, t20, hjx, hjx', hi2, hi3, hg, getL1 hg]
      refine c_tPut (b := x.2) ht hE h8'.self hR8 (hxr.sep h8') (by omega) (by omega) (by omega) fun o9 H9 m9 h9 hR9 ho9 => ?_
      have h9 := h8'.tr h9
      have hI9 := SafeI.put (it := 0) (j := 0) hI8 (l := x.2) (by omega)
      generalize tPutF r8.1 x.2 = r9 at *
      have hb9 : bstr m9 (slV o9 r9.2.length 1) = some (.string ⟨⟨r9.2⟩⟩) := SlR.txt (h9.slm (List.mem_cons_self ..) (by simp) ho9).read
      have hc9 := catL told8 r9.2 (by have := hI9.2.1; rw [List.length_append] at this; omega)
      generalize told8 ++ r9.2 = told9 at *
      simp -implicitDefEqProofs (disch := first | assumption | omega | fail) [wkB, retV, stabOk, dC, ev, fillD, pickCells, putAt, bnd, slD, List.getElem?_cons_zero, List.getElem?_cons_succ, Mem.cell, Mem.row, cells_own, cells_ro, hb9, hc9, t20, wj]
      exact hK (k - 1) _ _ (by omega) ⟨j + 1, r9.1, told9, H9, by omega, h9.tl, hR9, ⟨hI9.1, by omega, by omega, by omega⟩, by simp [t1], by simp [t2], by simp [t7], by simp, by simp [t18], by simp [t19], by simp⟩
    · have hjx' : ¬ (j : Int) < (xs.length : Nat) := by omega
      simp -implicitDefEqProofs (disch := first | assumption | omega | fail) [wkB, retV, stabOk, dC, ev, fillD, pickCells, putAt, bnd, slD, List.getElem?_cons_zero, List.getElem?_cons_succ, Mem.cell, Mem.row, cells_own, cells_ro, t2, t7, t8, t20, hjx, hjx', wj]
      exact hK (k - 1) _ _ (by omega) ⟨j + 1, r8.1, told8, H8, by omega, h8', hR8, ⟨hI8.1, by omega, by omega, by omega⟩, by simp [t1], by simp [t2], by simp [t7], by simp, by simp [t18], by simp [t19], by simp⟩
  · have hjj : j = ds.length := by omega
    subst hjj
    simp -implicitDefEqProofs (disch := first | assumption | omega | fail) [rc7_1, wkB, retV, stabOk, dC, ev, fillD, pickCells, putAt, bnd, slD, List.getElem?_cons_zero, List.getElem?_cons_succ, Mem.cell, Mem.row, cells_own, cells_ro, t19, t20]
    exact c_safeCount ht h3 hR3 hI.1 (by omega) (by omega) (by simp [t7]) (by simp [t8])
theorem absT_cfg2 {m : Mem} {td : TD} {cs : List Value} (h : AbsT m td cs) (hf : Fits (.recd [.int .i64, .int .i64]) td) : ∃ tr wt : Int, cs = [.int .i64 tr, .int .i64 wt] := by
  obtain ⟨l0, rfl, k, f⟩ := absT_recd h hf
  obtain ⟨d1, r1, c1, e1, rfl, rfl, h1, g1, k, f⟩ := absTs_cons k f
  obtain ⟨d2, r2, c2, e2, rfl, rfl, h2, g2, k, f⟩ := absTs_cons k f
  obtain ⟨rfl, rfl⟩ := absTs_nil k f
  obtain ⟨a, rfl, rfl, w1⟩ := absT_int h1 g1
  obtain ⟨b, rfl, rfl, w2⟩ := absT_int h2 g2
  exact ⟨a, b, rfl⟩
theorem l_SafeI {w0 : World} {m : Mem} {cs : List Value} {va vw : Value} {t0 t1 t2 : TD} (hp : Part L0 m) (ht : Ten w0) (hE : ErrV w0) (h0 : AbsT m t0 cs) (f0 : Fits (.recd [.int .i64, .int .i64]) t0) (h1 : AbsT m t1 [va]) (f1 : Fits (.sl actShp) t1) (h2 : AbsT m t2 [vw]) (f2 : Fits (.sl (.sl (.int .u8))) t2)
    (k1 : t1.bulk ≤ 1048576) (k2 : t2.bulk ≤ 1048576) : AbC Tryz.prog w0 7 [.agg ⟨cs⟩, va, vw] m fun u _ => u = .bool true := by
  obtain ⟨tr, wt, rfl⟩ := absT_cfg2 h0 f0
  obtain ⟨ds, a1, a2, a3⟩ := absT_acts h1 f1 k1
  obtain ⟨xs, b1, b2⟩ := absT_rws h2 f2
  exact l_Safe hp ht hE a1 (fun x hx => ⟨(a2 x hx).1, by have := (a2 x hx).2; omega⟩) (by omega) b1 fun x hx => ⟨(b2 x hx).1, by have := (b2 x hx).2; omega⟩
end Go.Proofs.YtiapjjgmmiifmaaGreatDoor.Ab

namespace Go.Proofs.YtiapjjgmmiifmaaGreatDoor.targetSafe
open Go Go.ChangeShapes Go.WideShapes Go.ChangeAt Go.RowKit Go.Proofs.YtiapjjgmmiifmaaGreatDoor.Ab
set_option linter.unusedVariables false
theorem own : ownKnob Tryz.prog.godebug = none := by kernel_rfl
theorem laidOut : laidOutB Tryz.prog = true := by kernel_rfl
set_option maxRecDepth 100000 in
theorem contract (H : Type) (enc : TypeId × Value → H) (W : World) (base : Nat) (args : Array Value) (ds gs : List (DataW H)) (before : List MemPlace)
    (hval : ∀ (j : Nat) t v, Tryz.f7.params[j]? = some t → args[j]? = some v → Value.okWide Tryz.prog W .any base t v)
    (hW : DataW.Whole enc Tryz.prog Tryz.f7.params.toList Rows.targetSafeSpec.vars false W args.toList ds gs before) (hL : laidMetH Tryz.prog Rows.targetSafeUptoRow.laid W) (hk : Rows.uptoSmall H (ds ++ gs) = true) :
    Calls Tryz.prog 7 args W fun e W' => ∃ v, e = .returned v ∧ Rows.targetSafeSpec.post enc Tryz.prog Tryz.f7 false true false false W args v W' := by
  have hW' := hW
  have hL' : laidMet Tryz.prog Rows.targetSafeUptoRow.laid W := hL
  obtain ⟨p, q, hA0, hV, rfl, hfz, hnd⟩ := hW
  have hA : DataW.TrodAll enc Tryz.prog W 0 (fun _ => true) true Tryz.f7.params.toList args.toList ds p := hA0
  rw [Tryz.params7] at hA hval
  obtain ⟨v0, vs0, d0, ds0, p0, q0, hargs, rfl, rfl, h0, r0⟩ := trodAll_cons hA
  obtain ⟨v1, vs1, d1, ds1, p1, q1, rfl, rfl, rfl, h1, r1⟩ := trodAll_cons r0
  obtain ⟨v2, vs2, d2, ds2, p2, q2, rfl, rfl, rfl, h2, r2⟩ := trodAll_cons r1
  obtain ⟨rfl, rfl, rfl⟩ := trodAll_nil r2
  obtain rfl : args = #[v0, v1, v2] := by cases args; simp_all
  obtain ⟨rfl, rfl⟩ := trodVars_none hV
  obtain ⟨a0, rfl, sz0⟩ := okWide_struct Tryz.underlying28 (hval 0 28 v0 rfl rfl)
  have lt0 : ∀ x ∈ p0, x.block < W.heap.size := by obtain ⟨m, hm⟩ := h0; exact DataW.trod_lt m _ _ _ hm
  obtain ⟨a1, len1, cap1, rfl⟩ := okWide_slice Tryz.underlying61 (hval 1 61 v1 rfl rfl)
  have lt1 : ∀ x ∈ p1, x.block < W.heap.size := by obtain ⟨m, hm⟩ := h1; exact DataW.trod_lt m _ _ _ hm
  obtain ⟨a2, len2, cap2, rfl⟩ := okWide_slice Tryz.underlying62 (hval 2 62 v2 rfl rfl)
  have lt2 : ∀ x ∈ p2, x.block < W.heap.size := by obtain ⟨m, hm⟩ := h2; exact DataW.trod_lt m _ _ _ hm
  have hbk := of_decide_eq_true hk
  simp only [Rows.uptoBulkAll, List.append_nil] at hbk
  have s : St Tryz.prog W (G0 Tryz.prog) (toMem L0) W := St.laid globals_size L0_get laid_ok (laidIn hL' (List.mem_of_getElem? (i := 0) rfl) (List.mem_of_getElem? (i := 1) rfl) (List.mem_of_getElem? (i := 2) rfl))
  have hp : Part L0 (toMem L0) := Part.of L0_part (Nat.le_refl _) fun _ _ => rfl
  obtain ⟨G0, m0, x0, t0, g0, s0, u0, b0, f0, k0⟩ := arg_agg (k := 5) (s := (.recd [.int .i64, .int .i64])) (by kernel_rfl) h0 s
  have hp := g0.part hp
  obtain ⟨G1, m1, x1, t1, g1, s1, u1, b1, f1, k1⟩ := arg_one (k := 5) (s := (.sl actShp)) (by kernel_rfl) h1 rfl s0
  have hp := g1.part hp
  have b0 := b0.mono g1.2.1 g1.2.2
  have u0 := u0.mono g1.1
  obtain ⟨G2, m2, x2, t2, g2, s2, u2, b2, f2, k2⟩ := arg_one (k := 5) (s := (.sl (.sl (.int .u8)))) (by kernel_rfl) h2 rfl s1
  have hp := g2.part hp
  have b0 := b0.mono g2.2.1 g2.2.2
  have u0 := u0.mono g2.1
  have b1 := b1.mono g2.2.1 g2.2.2
  have u1 := u1.mono g2.1
  refine (AbC_true s2 (.cons _ _ _ _ u0 (.cons _ _ _ _ u1 (.cons _ _ _ _ u2 .nil))) ((l_SafeI hp (ten_of hL' (List.mem_of_getElem? (i := 2) rfl)) (errV_of hL' (List.mem_of_getElem? (i := 5) rfl) (List.mem_of_getElem? (i := 4) rfl)) b0 f0 b1 f1 b2 f2 (by omega) (by omega))) (by kernel_rfl)).mono fun e W' ⟨he, bel⟩ => ?_
  subst he
  exact ⟨_, rfl, _, _, _, [], _, [], hW', trodAll_mk1 (shut_bool Tryz.underlying4 _), (trodAll_cons_mk (Below.trod laidOut (by kernel_rfl) (of_decide_eq_true (by kernel_rfl)) h0 bel lt0) (trodAll_cons_mk (Below.trod laidOut (by kernel_rfl) (of_decide_eq_true (by kernel_rfl)) h1 bel lt1) (trodAll_cons_mk (Below.trod laidOut (by kernel_rfl) (of_decide_eq_true (by kernel_rfl)) h2 bel lt2) trodAll_mk0))), rfl, bel.frame _, fun h => by cases h⟩
noncomputable def laidWorld (os : Os) : World :=
  let N := (World.settled Tryz.prog os).heap.size
  { World.holding Tryz.prog os ⟨#[.cells #[.string ⟨#[118, 97, 108, 117, 101, 32, 111, 117, 116, 32, 111, 102, 32, 114, 97, 110, 103, 101]⟩] 190, .cells #[.string ⟨#[105, 110, 118, 97, 108, 105, 100, 32, 115, 121, 110, 116, 97, 120]⟩] 190], #[], []⟩ with heap := ((((((((World.holding Tryz.prog os ⟨#[.cells #[.string ⟨#[118, 97, 108, 117, 101, 32, 111, 117, 116, 32, 111, 102, 32, 114, 97, 110, 103, 101]⟩] 190, .cells #[.string ⟨#[105, 110, 118, 97, 108, 105, 100, 32, 115, 121, 110, 116, 97, 120]⟩] 190], #[], []⟩).heap.modify 1 fun | .cells _ t frozen => .cells ⟨e32⟩ t frozen | o => o).modify 2 fun | .cells _ t frozen => .cells ⟨e64⟩ t frozen | o => o).modify 0 fun | .cells _ t frozen => .cells ⟨e10⟩ t frozen | o => o).modify 5 fun | .cells _ t frozen => .cells #[.iface 188 (.pointer (some ⟨N, 0, none⟩))] t frozen | o => o).modify 4 fun | .cells _ t frozen => .cells #[.iface 188 (.pointer (some ⟨N + 1, 0, none⟩))] t frozen | o => o).modify 6 fun | .cells _ t frozen => .cells ⟨Go.Pinned.utf8FirstZ.map fun (n : Nat) => Value.int .u8 (n : Int)⟩ t frozen | o => o).modify 7 fun | .cells _ t frozen => .cells ⟨([128, 191, 160, 191, 128, 159, 144, 191, 128, 143] ++ List.replicate 22 0 : List Int).map fun (n : Int) => Value.int .u8 n⟩ t frozen | o => o) }
theorem laid_met (os : Os) : laidMet Tryz.prog Rows.targetSafeUptoRow.laid ((laidWorld os).forCall (fun _ _ => 0) ⟨#[], #[(.agg #[.int .i64 0, .int .i64 0] : Value), (.slice none 0 0 : Value), (.slice none 0 0 : Value)], []⟩).memory :=
  laidMet_of_run' 8 (by kernel_rfl) (by kernel_rfl)
theorem reads (os : Os) {H : Type} (enc : TypeId × Value → H) : ∃ places, DataW.whole enc Tryz.prog ((laidWorld os).forCall (fun _ _ => 0) ⟨#[], #[(.agg #[.int .i64 0, .int .i64 0] : Value), (.slice none 0 0 : Value), (.slice none 0 0 : Value)], []⟩).memory Tryz.f7.params.toList Rows.targetSafeSpec.vars false [(.agg #[.int .i64 0, .int .i64 0] : Value), (.slice none 0 0 : Value), (.slice none 0 0 : Value)] 8 = some ([.agg [.lit (.int .i64 0), .lit (.int .i64 0)], .nil, .nil], [], places) :=
  ⟨[], by kernel_rfl⟩
set_option maxRecDepth 100000 in
theorem lifted (os : Os) (started : os.Started) (H : Type) (enc : TypeId × Value → H) (F : Stop.Interp) :
    ReturnsInHanded {} Tryz.checked os 7 .any ((Rows.OpenSpec.upto Rows.targetSafeSpec).preRow enc Tryz.prog Tryz.f7 Rows.targetSafeUptoRow.domain false Rows.targetSafeUptoRow.laid) (((Rows.OpenSpec.upto Rows.targetSafeSpec).at F).post enc Tryz.prog Tryz.f7 false true false false) := by
  obtain ⟨places, hx⟩ := reads os enc
  refine returnsInHanded_of_row (C := Tryz.checked) (s := (Rows.OpenSpec.upto Rows.targetSafeSpec)) own started (by kernel_rfl) Tryz.func7
    (witness_row_atRef (enc := enc) (C := Tryz.checked) false (laidWorld os) #[(.agg #[.int .i64 0, .int .i64 0] : Value), (.slice none 0 0 : Value), (.slice none 0 0 : Value)] rfl (by kernel_rfl) (by kernel_rfl) (by kernel_rfl)
      (OpenSpec.preRow_of_cond 8 hx (by kernel_rfl) (fun k hk => by cases hk; kernel_rfl) (by kernel_rfl) (laid_met os))) ?_
  intro W base args ds gs before hval hW _ hcond _ hL _ _
  exact contract H enc W base args ds gs before hval hW hL (hcond _ rfl)
theorem over : Rows.TargetSafeUptoSaid :=
  OpenClaim.holds_of_cond 7 Tryz.f7 rfl rfl rfl rfl rfl rfl rfl ⟨rfl, rfl, rfl, rfl, rfl⟩ rfl rfl rfl rfl rfl (by kernel_rfl) Tryz.func7 (by kernel_rfl)
    (of_decide_eq_true (by kernel_rfl)) (by unfold Func.isWrapper; first | (rw [if_pos (by decide +kernel)]; kernel_rfl) | (rw [if_neg (by decide +kernel)]; exact ⟨rfl, rfl⟩))
    (fun os started H enc _ F => by rw [OpenClaim.pre_eq_preRow]; exact lifted os started H enc F)
theorem plain (f : FuncId) (fn : Func) (hf : Tryz.pinned.checked.prog.funcNamed "lifeline/lifelinelaw20.TargetSafe" = some f) (hfn : Tryz.pinned.checked.prog.funcs[f]? = some fn) :
    true = Tryz.pinned.checked.prog.looks [] ∧ ∀ (j : Nat) t, fn.params[j]? = some t → Tryz.pinned.checked.prog.wantsStandIn t = false := by
  obtain rfl : f = 7 := Option.some.inj ((show Tryz.prog.funcNamed "lifeline/lifelinelaw20.TargetSafe" = some 7 by kernel_rfl).symm.trans hf) |>.symm
  obtain rfl : fn = Tryz.f7 := (Option.some.inj (Tryz.func7.symm.trans hfn)).symm
  refine ⟨by kernel_rfl, fun j t ht => ?_⟩
  rw [Tryz.params7] at ht
  have hall : ∀ t ∈ [28, 61, 62], Tryz.prog.wantsStandIn t = false := by
    intro t ht
    simp only [List.mem_cons, List.mem_nil_iff, or_false] at ht
    rcases ht with rfl | rfl | rfl <;> kernel_rfl
  exact hall t (by simpa using Array.mem_of_getElem? ht)
theorem proved : Rows.TargetSafeUptoCardSaid :=
  Claim7.holds_tied_plain_at .later [] _ _ _ _ over (fun _ h => by cases h) (by kernel_rfl) (fun _ h => by cases h) targetSafeUpto_row_tie rfl ⟨rfl, rfl⟩ (by kernel_rfl) rfl plain (by kernel_rfl)
#print axioms proved
end Go.Proofs.YtiapjjgmmiifmaaGreatDoor.targetSafe
