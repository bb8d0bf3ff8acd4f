/- The law TargetScript, as its statement says it: what it reads is of the bulk that the statement names; the listed variables hold what the program's text lays. -/
import Derived.Test.YtiapjjgmmiifmaaGreatDoorKTt5
import Derived.Test.YtiapjjgmmiifmaaGreatDoorCards
import Derived.Test.YtiapjjgmmiifmaaGreatDoorTie
import Derived.WalkKit
import Derived.ProofKit
import Derived.OpenShut
import Derived.JoinedCond
import Derived.ChangeOld
import Derived.Deep.DeepHandedRow
import Derived.Deep.DeepWitnessRowRef
set_option linter.unusedVariables false
set_option linter.unusedSimpArgs false
namespace Go.Proofs.YtiapjjgmmiifmaaGreatDoor.Ab
open Go Go.RowKit
set_option maxHeartbeats 4000000
set_option maxRecDepth 100000
def lineC : List (List UInt8) := [[13], [108, 111, 97, 100, 32, 120, 32, 49, 13], [115, 117, 109, 32, 49, 13], [108, 111, 97, 100, 32, 99, 114, 99, 32, 48, 49, 13], [115, 117, 109, 32, 32, 49, 32, 50, 13], [108, 111, 97, 100, 32, 99, 104, 101, 99, 107, 32, 49, 48, 48, 13]]
theorem lineC_at {j : Nat} (h : j < 6) : ∃ l : List UInt8, (lineC.map fun l => Value.string ⟨⟨l⟩⟩)[j]? = some (.string ⟨⟨l⟩⟩) ∧ l.length ≤ 16 := by
  rcases (show j = 0 ∨ j = 1 ∨ j = 2 ∨ j = 3 ∨ j = 4 ∨ j = 5 by omega) with rfl | rfl | rfl | rfl | rfl | rfl
  all_goals exact ⟨_, rfl, by decide⟩
structure Dd where
  op : Nat
  way : Nat
  addr : Nat
  size : Nat
  vr : Value
  raw : List UInt8
  bop : Nat
  bno : Nat
  vb : Value
  bb : List UInt8
  bat : Nat
  bby : Int
def Dd.cells (x : Dd) : List Value := [.int .u8 (x.op : Int), .int .u8 (x.way : Int), .int .u16 (x.addr : Int), .int .u16 (x.size : Int), x.vr, .int .u8 (x.bop : Int), .int .u8 (x.bno : Int), x.vb, .int .u16 (x.bat : Int), .int .u8 x.bby]
theorem Dd.clen (x : Dd) : x.cells.length = 10 := rfl
structure DdOk (X : Nat → Prop) (m : Mem) (x : Dd) : Prop where
  r : RdV X m 1 x.vr (x.raw.map byteV) x.raw.length
  b : RdV X m 1 x.vb (x.bb.map byteV) x.bb.length
  h1 : x.op < 256
  h2 : x.way < 256
  h3 : x.addr < 65536
  h4 : x.size < 65536
  h5 : x.bno < 256
  h6 : x.bat < 65536
  h7 : x.bb.length ≤ 9223372036854775807
theorem DdOk.keep {X : Nat → Prop} {m m' : Mem} {x : Dd} (h : DdOk X m x) (k : Keeps X m m') : DdOk X m' x := ⟨h.r.keep k, h.b.keep k, h.h1, h.h2, h.h3, h.h4, h.h5, h.h6, h.h7⟩
theorem RdV.oneC {X : Nat → Prop} {m : Mem} {v : Value} {l : List UInt8} (h : RdV X m 1 v (l.map byteV) l.length) : cellsV v = [v] ∧ oneC v = true := by
  rcases h.sl.2 with ⟨_, rfl | rfl⟩ | ⟨i, o, L, rfl, _⟩ <;> exact ⟨rfl, rfl⟩
theorem ask_len {a n : Nat} (ha : a < 65536) (hn : n < 65536) : (askL a n).length ≤ 60 := by
  have l1 := num16 (i := (a : Int)) (by omega)
  have l2 := num16 (i := (n : Int)) (by omega)
  simp [askL, sumW]; omega
theorem loadL_len {k a : Nat} (hk : k < 4) (ha : a < 65536) : (loadL k a).length ≤ 60 := by
  have l1 := num16 (i := (a : Int)) (by omega)
  have lw : (wayL k).length ≤ 5 := by rcases (show k = 0 ∨ k = 1 ∨ k = 2 ∨ k = 3 by omega) with rfl | rfl | rfl | rfl <;> decide
  simp [loadL, loadW]; omega
theorem c_bytes {w0 : World} {X : Nat → Prop} {m : Mem} {x : Dd} {next : UInt8} {Q : Value → Mem → Prop} (hp : Part L0 m) (ht : Ten w0) (hx : DdOk X m x)
    (hq : ∀ u (l : List UInt8) M, Old m M → SlR M 1 u (l.map byteV) l.length → (∀ i, blk u = some i → (m.next ≤ i ∧ i < M.next) ∨ blk x.vr = some i ∨ blk x.vb = some i) → l.length ≤ x.raw.length + x.bb.length + 1200 → Q u M) :
    AbC Tryz.prog w0 23 [.agg ⟨x.cells⟩, .int .u8 (next.toNat : Int)] m Q := by
  refine AbC_fn ok23 (by simp) ?_
  have hov1 := hx.r.oneC
  have hov2 := hx.b.oneC
  have ro : dBin .rem (.int .u8 (x.op : Int)) (.int .u8 8) = some (.int .u8 ((x.op % 8 : Nat) : Int)) := rem8 (b := 8) (by omega)
  have rw4 : dBin .rem (.int .u8 (x.way : Int)) (.int .u8 4) = some (.int .u8 ((x.way % 4 : Nat) : Int)) := rem8 (b := 4) (by omega)
  have rw6 : dBin .rem (.int .u8 (x.way : Int)) (.int .u8 6) = some (.int .u8 ((x.way % 6 : Nat) : Int)) := rem8 (b := 6) (by omega)
  have wa : IntKind.i64.wrap (x.addr : Int) = (x.addr : Int) := w64 (by have := hx.h3; omega)
  have ws : IntKind.i64.wrap (x.size : Int) = (x.size : Int) := w64 (by have := hx.h4; omega)
  have r1 : dBin .rem (.int .i64 (x.addr : Int)) (.int .i64 17000) = some (.int .i64 ((x.addr % 17000 : Nat) : Int)) := by rw [dBin_rem (by omega), Int.tmod_eq_emod_of_nonneg (by omega)]; rfl
  have r2 : dBin .rem (.int .i64 (x.size : Int)) (.int .i64 300) = some (.int .i64 ((x.size % 300 : Nat) : Int)) := by rw [dBin_rem (by omega), Int.tmod_eq_emod_of_nonneg (by omega)]; rfl
  have l4 : x.way % 4 < 4 := Nat.mod_lt _ (by omega)
  have l6 : x.way % 6 < 6 := Nat.mod_lt _ (by omega)
  have la : x.addr % 17000 < 17000 := Nat.mod_lt _ (by omega)
  have lz : x.size % 300 < 300 := Nat.mod_lt _ (by omega)
  generalize x.op % 8 = r at *
  generalize x.way % 4 = q4 at *
  generalize x.way % 6 = q6 at *
  generalize x.addr % 17000 = a at *
  generalize x.size % 300 = n at *
  have w4 : IntKind.i64.wrap (q4 : Int) = (q4 : Int) := w64 (by omega)
  simp -implicitDefEqProofs (disch := first | assumption | omega | fail) [rc23, ro23, wkB, retV, stabOk, dC, ev, fillD, pickCells, putAt, bnd, slD, List.getElem?_cons_zero, List.getElem?_cons_succ, Mem.cell, Mem.row, cells_own, cells_ro]
  refine SK_bxS (Sep.ofOld hp) (cs := x.cells) (by simp [wkB, retV, stabOk, dC, ev, fillD, pickCells, putAt, bnd, slD, List.getElem?_cons_zero, List.getElem?_cons_succ, Mem.cell, Mem.row, cells_own, cells_ro]) fun x0 m1 h1 _ _ => ?_
  have g1 := h1.get 0 rfl
  simp only [Dd.cells] at g1
  have hnew : ∀ {M : Mem} {l : List UInt8} {b : Nat} {L : HL}, Sep m (fun i => i < m.next) M ((some b, .own (l.map byteV) 5) :: L) → l.length ≤ 1200 → Q (.slice (some ⟨b, 0, none⟩) l.length 1) M := fun {M l b L} hM hl =>
    hq _ l M hM.toOld (hM.slO 0 (ob := some b) (k := l.length) (sz := 1) rfl (by simp) (fun e => by cases e)).read (fun i hi => by cases hi; exact .inl ⟨by have := hM.nv 0 rfl; omega, hM.lt 0 rfl⟩) (by omega)
  simp -implicitDefEqProofs (disch := first | assumption | omega | fail) [wkB, retV, stabOk, dC, ev, fillD, pickCells, putAt, bnd, slD, List.getElem?_cons_zero, List.getElem?_cons_succ, Mem.cell, Mem.row, cells_own, cells_ro, g1, ro]
  by_cases e0 : r = 0
  · subst e0
    simp -implicitDefEqProofs (disch := first | assumption | omega | fail) [wkB, retV, stabOk, dC, ev, fillD, pickCells, putAt, bnd, slD, List.getElem?_cons_zero, List.getElem?_cons_succ, Mem.cell, Mem.row, cells_own, cells_ro, g1, rw4, w4, wa, r1]
    refine c_Load h1.pt ht (by omega) fun m2 o2 => ?_
    have h2 := h1.old o2
    have hwn : wayN (q4 : Int) = q4 := by rcases (show q4 = 0 ∨ q4 = 1 ∨ q4 = 2 ∨ q4 = 3 by omega) with rfl | rfl | rfl | rfl <;> rfl
    rw [hwn]
    have hl := loadL_len (k := q4) (a := a) l4 (by omega)
    simp -implicitDefEqProofs (disch := first | assumption | omega | fail) [wkB, retV, stabOk, dC, ev, fillD, pickCells, putAt, bnd, slD, List.getElem?_cons_zero, List.getElem?_cons_succ, Mem.cell, Mem.row, cells_own, cells_ro]
    refine SK_s2bS h2 (s := loadL q4 a) (by simp [wkB, retV, stabOk, dC, ev, fillD, pickCells, putAt, bnd, slD, List.getElem?_cons_zero, List.getElem?_cons_succ, Mem.cell, Mem.row, cells_own, cells_ro]) (by omega) fun x3 m3 h3 _ _ => ?_
    simp -implicitDefEqProofs (disch := first | assumption | omega | fail) [wkB, retV, stabOk, dC, ev, fillD, pickCells, putAt, bnd, slD, List.getElem?_cons_zero, List.getElem?_cons_succ, Mem.cell, Mem.row, cells_own, cells_ro]
    exact hnew h3 (by omega)
  · have f0 : ((r : Int) == 0) = false := beq_eq_false_iff_ne.2 (by omega)
    by_cases e1 : r = 1
    · subst e1
      simp -implicitDefEqProofs (disch := first | assumption | omega | fail) [wkB, retV, stabOk, dC, ev, fillD, pickCells, putAt, bnd, slD, List.getElem?_cons_zero, List.getElem?_cons_succ, Mem.cell, Mem.row, cells_own, cells_ro, g1, ws, wa, r1, r2]
      refine c_Ask h1.pt ht (by omega) (by omega) fun m2 o2 => ?_
      have h2 := h1.old o2
      have hl := ask_len (a := a) (n := n) (by omega) (by omega)
      simp -implicitDefEqProofs (disch := first | assumption | omega | fail) [wkB, retV, stabOk, dC, ev, fillD, pickCells, putAt, bnd, slD, List.getElem?_cons_zero, List.getElem?_cons_succ, Mem.cell, Mem.row, cells_own, cells_ro]
      refine SK_s2bS h2 (s := askL a n) (by simp [wkB, retV, stabOk, dC, ev, fillD, pickCells, putAt, bnd, slD, List.getElem?_cons_zero, List.getElem?_cons_succ, Mem.cell, Mem.row, cells_own, cells_ro]) (by omega) fun x3 m3 h3 _ _ => ?_
      simp -implicitDefEqProofs (disch := first | assumption | omega | fail) [wkB, retV, stabOk, dC, ev, fillD, pickCells, putAt, bnd, slD, List.getElem?_cons_zero, List.getElem?_cons_succ, Mem.cell, Mem.row, cells_own, cells_ro]
      exact hnew h3 (by omega)
    · have f1 : ((r : Int) == 1) = false := beq_eq_false_iff_ne.2 (by omega)
      by_cases e2 : r = 2
      · subst e2
        simp -implicitDefEqProofs (disch := first | assumption | omega | fail) [wkB, retV, stabOk, dC, ev, fillD, pickCells, putAt, bnd, slD, List.getElem?_cons_zero, List.getElem?_cons_succ, Mem.cell, Mem.row, cells_own, cells_ro, g1]
        exact hq x.vr x.raw m1 h1.toOld (hx.r.o.sep h1).sl (fun i hi => .inr (.inl hi)) (by omega)
      · have f2 : ((r : Int) == 2) = false := beq_eq_false_iff_ne.2 (by omega)
        by_cases e3 : r = 3
        · subst e3
          simp -implicitDefEqProofs (disch := first | assumption | omega | fail) [wkB, retV, stabOk, dC, ev, fillD, pickCells, putAt, bnd, slD, List.getElem?_cons_zero, List.getElem?_cons_succ, Mem.cell, Mem.row, cells_own, cells_ro, g1]
          refine SK_bslS h1 (cs := lineC.map fun l => Value.string ⟨⟨l⟩⟩) (by simp [fillD, pickCells, wkB, retV, stabOk, dC, ev, fillD, pickCells, putAt, bnd, slD, List.getElem?_cons_zero, List.getElem?_cons_succ, Mem.cell, Mem.row, cells_own, cells_ro, lineC]) rfl fun x1 m2 h2 _ _ => ?_
          have g2 := h2.get 1 rfl
          have g20 := h2.get 0 rfl
          simp only [Dd.cells] at g2
          have hidx : sidx 1 (.slice (some ⟨x1, 0, none⟩) 6 1) (.int .u8 (q6 : Int)) = some (.pointer (some ⟨x1, q6, none⟩)) := by simpa using sidx_at (b := x1) (o := 0) (n := 6) (c := 1) (j := q6) (sz := 1) (k := .u8) l6
          obtain ⟨l, hc, hll⟩ := lineC_at l6
          generalize (lineC.map fun l => Value.string ⟨⟨l⟩⟩) = C at *
          simp -implicitDefEqProofs (disch := first | assumption | omega | fail) [wkB, retV, stabOk, dC, ev, fillD, pickCells, putAt, bnd, slD, List.getElem?_cons_zero, List.getElem?_cons_succ, Mem.cell, Mem.row, cells_own, cells_ro, g2, rw6, hidx, g20, hc, getL1 hc]
          refine SK_s2bS h2 (s := l) (by simp [wkB, retV, stabOk, dC, ev, fillD, pickCells, putAt, bnd, slD, List.getElem?_cons_zero, List.getElem?_cons_succ, Mem.cell, Mem.row, cells_own, cells_ro, g20, hc, getL1 hc]) (by omega) fun x3 m3 h3 _ _ => ?_
          simp -implicitDefEqProofs (disch := first | assumption | omega | fail) [wkB, retV, stabOk, dC, ev, fillD, pickCells, putAt, bnd, slD, List.getElem?_cons_zero, List.getElem?_cons_succ, Mem.cell, Mem.row, cells_own, cells_ro]
          exact hnew h3 (by omega)
        · have f3 : ((r : Int) == 3) = false := beq_eq_false_iff_ne.2 (by omega)
          simp -implicitDefEqProofs (disch := first | assumption | omega | fail) [wkB, retV, stabOk, dC, ev, fillD, pickCells, putAt, bnd, slD, List.getElem?_cons_zero, List.getElem?_cons_succ, Mem.cell, Mem.row, cells_own, cells_ro, f0, f1, f2, f3, g1, rc23_0, rw4]
          obtain ⟨crc, hcrc⟩ : ∃ c : Bool, decide (0 < q4) = c := ⟨_, rfl⟩
          try rw [hcrc]
          refine c_aPut (op := x.bop) (no := x.bno) (at_ := x.bat) (by_ := x.bby) (b := x.bb) (v := x.vb) h1.pt (hx.b.o.sep h1) hx.h7 hx.h5 hx.h6 fun u l m2 o2 hu hub hl _ => ?_
          have h2 := h1.old o2
          simp -implicitDefEqProofs (disch := first | assumption | omega | fail) [wkB, retV, stabOk, dC, ev, fillD, pickCells, putAt, bnd, slD, List.getElem?_cons_zero, List.getElem?_cons_succ, Mem.cell, Mem.row, cells_own, cells_ro]
          exact hq u l m2 h2.toOld hu (fun i hi => by
            rcases hub i hi with ⟨h3, h4⟩ | h3
            · exact .inl ⟨Nat.le_trans h1.n h3, h4⟩
            · exact .inr (.inr h3)) (by omega)
end Go.Proofs.YtiapjjgmmiifmaaGreatDoor.Ab

set_option linter.unusedVariables false
set_option linter.unusedSimpArgs false
namespace Go.Proofs.YtiapjjgmmiifmaaGreatDoor.Ab
open Go Go.RowKit
set_option maxHeartbeats 4000000
set_option maxRecDepth 100000
/-- A slice's element of some cells: where it is read. -/
theorem SlR.cellsAt {m : Mem} {sz n j : Nat} {v : Value} {cs C : List Value} (h : SlR m sz v cs n) (hj : j < n) (hC : (cs.drop (j * sz)).take sz = C) :
    ∃ i o L, v = .slice (some ⟨i, o, none⟩) n sz ∧ sidx sz v (.int .i64 (j : Int)) = some (.pointer (some ⟨i, o + j * sz, none⟩)) ∧ (m.get i).cells? = some L ∧ o + j * sz + sz ≤ L.length ∧ (L.drop (o + j * sz)).take sz = C := by
  obtain ⟨i, o, L, rfl, h2, h3, h4, -⟩ := h.at hj
  have hle : j * sz + sz ≤ n * sz := by
    have : (j + 1) * sz ≤ n * sz := Nat.mul_le_mul_right _ hj
    rwa [Nat.add_mul, Nat.one_mul] at this
  exact ⟨i, o, L, rfl, sidx_at hj, h2, by omega, by rw [h4, hC]⟩
theorem dd_at {ds : List Dd} {j : Nat} (hj : j < ds.length) : ((ds.flatMap Dd.cells).drop (j * 10)).take 10 = (ds[j]).cells := flat_at Dd.clen ds (List.getElem?_eq_getElem hj)
structure SafeI (it : Nat) (j : Nat) (s : TgS) (told : List UInt8) : Prop where
  f : Sfx told s.reps
  tl : told.length ≤ 1000000000 * j
  rl : s.reps.length ≤ 3300000 * j
  sz : s.tak.sz ≤ 3300000 * j
end Go.Proofs.YtiapjjgmmiifmaaGreatDoor.Ab

set_option linter.unusedVariables false
set_option linter.unusedSimpArgs false
namespace Go.Proofs.YtiapjjgmmiifmaaGreatDoor.Ab
open Go Go.RowKit
set_option maxHeartbeats 4000000
set_option maxRecDepth 100000
theorem dEq_rep {a n : Int} {p : Int} : dEq (.recd [(0, 0, .int), (1, 0, .int), (2, 0, .int)]) (.agg ⟨[.int .i64 a, .int .i64 n, .int .u32 p]⟩) (.agg ⟨[.int .i64 a, .int .i64 n, .int .u32 p]⟩) = some true := by
  unfold dEq dEqs; simp [dEqs, dEq, pickCells]
end Go.Proofs.YtiapjjgmmiifmaaGreatDoor.Ab

set_option linter.unusedVariables false
set_option linter.unusedSimpArgs false
namespace Go.Proofs.YtiapjjgmmiifmaaGreatDoor.Ab
open Go Go.RowKit
set_option maxHeartbeats 4000000
set_option maxRecDepth 100000
def Tak.fresh : Tak → Prop
  | .no => True
  | .plain r => r.over = false
  | .files b => b.over = false ∧ b.part.over = false
def Tak.good : Tak → Prop
  | .files b => b.over = false → b.part.over = false
  | _ => True
theorem Tak.fresh_of {k : Tak} (h : k.good) (ho : k.over = false) : k.fresh := by
  cases k with
  | no => trivial
  | plain r => exact ho
  | files b => exact ⟨ho, h ho⟩
theorem aft_good (s : Br) (h : (aftF s).over = false) : (aftF s).part.over = false := by
  unfold aftF at h ⊢
  split
  · assumption
  · rename_i h1
    rw [if_neg h1] at h
    split
    · rename_i h2
      rw [if_pos h2] at h
      cases h
    · rename_i h2
      rw [if_neg h2] at h
      split
      · rename_i h3
        rw [if_pos h3] at h
        split
        · rename_i h4
          rw [h4] at h
          cases h
        · rfl
      · rename_i h3
        rw [if_neg h3] at h
        split
        · rename_i h4
          rw [if_pos h4] at h
          split
          · rename_i h5
            rw [if_pos h5] at h
            cases h
          · rfl
        · rename_i h4
          rw [if_neg h4] at h
          split
          · rename_i h5
            rw [if_pos h5] at h
            cases h
          · rename_i h5
            rw [if_neg h5] at h
            cases h
theorem put_good (k : Tak) (b : List UInt8) : (k.put b).1.good := by
  cases k with
  | no => trivial
  | plain r => trivial
  | files r =>
    simp only [Tak.put, Tak.good]
    unfold bPutF
    split
    · rename_i h
      intro h2
      rw [h] at h2
      cases h2
    · exact aft_good _
theorem tick_good (k : Tak) : k.tick.1.good := by
  cases k with
  | no => trivial
  | plain r => trivial
  | files r =>
    simp only [Tak.tick, Tak.good]
    unfold bTickF
    split
    · rename_i h
      intro h2
      rw [h] at h2
      cases h2
    · exact aft_good _
theorem ld_fresh {s : TgS} {o : List UInt8} (h : s.tak.good) : (ldF s o).1.tak.fresh := by
  unfold ldF
  split
  · rename_i ho
    exact Tak.fresh_of h ho
  · split
    · trivial
    · trivial
theorem does_fresh {s : TgS} (line : List UInt8) (h : s.tak.fresh) : (doesF s line).1.tak.fresh := by
  unfold doesF
  split
  · rename_i w b c _
    split
    · rename_i s' hs
      unfold loadR at hs
      split at hs
      · split at hs
        · rename_i a k _ _
          cases hs
          show (begF s k (a : Int)).tak.fresh
          unfold begF
          simp only
          split
          · exact ⟨rfl, rfl⟩
          · exact rfl
        · cases hs
      · cases hs
    · split
      · exact h
      · exact h
  · exact h
theorem putC_fresh {s : TgS} (c : UInt8) (h : s.tak.fresh) : (putCF s c).1.tak.fresh := by
  unfold putCF
  split
  · exact h
  · split
    · exact does_fresh (s := { s with line := [] }) _ h
    · exact h
theorem putL_fresh : ∀ (b : List UInt8) (s : TgS) (out : List UInt8), s.tak.fresh → (tPutL s out b).1.tak.fresh
  | [], s, out, h => by simpa [tPutL] using h
  | c :: r, s, out, h => by
    rw [tPutL]
    split
    · exact putL_fresh r _ _ (putC_fresh c h)
    · exact ld_fresh (put_good _ _)
theorem tick_fresh {s : TgS} (h : s.tak.fresh) : (tTickF s).1.tak.fresh := by
  unfold tTickF
  split
  · exact h
  · exact ld_fresh (tick_good _)
/-- Both take alike. -/
theorem tPut_L {s : TgS} (b : List UInt8) (h : s.tak.fresh) : tPutL s [] b = tPutF s b := by
  unfold tPutF
  split
  · rfl
  · rename_i hn
    cases b with
    | cons c r => rw [tPutL, if_neg hn]; simp
    | nil =>
      rw [tPutL]
      cases hk : s.tak with
      | no => rw [hk] at hn; exact absurd rfl hn
      | plain r =>
        rw [hk] at h
        have e : rPutF r [] = (r, []) := by unfold rPutF; rw [if_pos (.inr rfl)]
        simp only [Tak.put, e]
        have e3 : ldF { s with tak := .plain r } [] = ({ s with tak := .plain r }, []) := by unfold ldF; exact if_pos h
        rw [e3, ← hk]
      | files r =>
        rw [hk] at h
        have e : rPutF r.part [] = (r.part, []) := by unfold rPutF; rw [if_pos (.inr rfl)]
        have e2 : bPutF r [] = (r, []) := by
          unfold bPutF
          rw [if_neg (by rw [h.1]; simp), e]
          unfold aftF
          rw [if_pos h.2]
        simp only [Tak.put, e2]
        have e3 : ldF { s with tak := .files r } [] = ({ s with tak := .files r }, []) := by unfold ldF; exact if_pos h.1
        rw [e3, ← hk]
theorem c_Agrees {w0 : World} {V : Nat → Prop} {m : Mem} {HM HG : HL} {im it : Nat} {s : TgS} {Q : Value → Mem → Prop} (h : Sep m V m (HM ++ HG)) (hM : MdR HM im s) (hG : TgR HG it s) (hrl : s.reps.length ≤ 5000000000000)
    (hq : ∀ M, Sep m V M (HM ++ HG) → Q (.bool true) M) : AbC Tryz.prog w0 25 [.pointer (some ⟨im, 0, none⟩), .pointer (some ⟨it, 0, none⟩)] m Q := by
  refine AbC_fn ok25 (by simp) ?_
  simp -implicitDefEqProofs (disch := first | assumption | omega | fail) [rc25, ro25, wkB, retV, stabOk, dC, ev, fillD, pickCells, putAt, bnd, slD, List.getElem?_cons_zero, List.getElem?_cons_succ, Mem.cell, Mem.row, cells_own, cells_ro]
  have hp := h.perm List.perm_append_comm
  refine c_tReplies hp.fr hG hrl fun o1 m1 h1 hn1 => ?_
  have h1 := hp.un h1
  have hs1 := (h1.slO 0 (k := s.reps.length) (sz := 3) rfl (flat_len repC_len _) hn1).slen
  have hM0 := hM
  have hG0 := hG
  simp -implicitDefEqProofs (disch := first | assumption | omega | fail) [wkB, retV, stabOk, dC, ev, fillD, pickCells, putAt, bnd, slD, List.getElem?_cons_zero, List.getElem?_cons_succ, Mem.cell, Mem.row, cells_own, cells_ro]
  refine c_tLoads h1 hG (fun p hp => List.mem_cons_of_mem _ (List.mem_append_left _ hp)) ?_
  simp -implicitDefEqProofs (disch := first | assumption | omega | fail) [wkB, retV, stabOk, dC, ev, fillD, pickCells, putAt, bnd, slD, List.getElem?_cons_zero, List.getElem?_cons_succ, Mem.cell, Mem.row, cells_own, cells_ro]
  refine c_mLoads h1 hM (fun p hp => List.mem_cons_of_mem _ (List.mem_append_right _ hp)) ?_
  obtain ⟨⟨sp, orr, vp, vf, HT, rfl, hT, hor⟩, hml, hll⟩ := hM
  have g1 := h1.mem (List.mem_cons_of_mem _ (List.mem_append_right _ (List.mem_cons_self ..)))
  simp only [mdC] at g1
  have hOm : SlR m1 3 (slV orr s.reps.length 3) (s.reps.flatMap repC) s.reps.length := (h1.slm (List.mem_cons_of_mem _ (List.mem_append_right _ (List.mem_cons_of_mem _ (List.mem_cons_of_mem _ (List.mem_cons_self ..))))) (flat_len repC_len _) hor).read
  have hOt : SlR m1 3 (slV o1 s.reps.length 3) (s.reps.flatMap repC) s.reps.length := (h1.slO 0 (k := s.reps.length) (sz := 3) rfl (flat_len repC_len _) hn1).read
  have hbb : ((!s.tak.isNo) != (!s.tak.isNo)) = false := by simp
  obtain ⟨B, hB⟩ : ∃ B, (!s.tak.isNo) = B := ⟨_, rfl⟩
  rw [hB] at hbb
  simp -implicitDefEqProofs (disch := first | assumption | omega | fail) [wkB, retV, stabOk, dC, ev, fillD, pickCells, putAt, bnd, slD, List.getElem?_cons_zero, List.getElem?_cons_succ, Mem.cell, Mem.row, cells_own, cells_ro, hB, hbb, hs1, g1, hOm.slen, rc25_3]
  refine LoopW_of (fun k ts m' => ∃ j, j + k = s.reps.length ∧ m' = m1 ∧ ts 0 = .pointer (some ⟨im, 0, none⟩) ∧ ts 1 = .pointer (some ⟨it, 0, none⟩) ∧ ts 5 = slV o1 s.reps.length 3 ∧ ts 29 = .int .i64 (s.reps.length : Nat) ∧ ts 30 = .int .i64 (j : Nat)) s.reps.length ?_ ?_
  · exact ⟨0, by omega, rfl, by simp [frA_at], by simp [frA_at], by simp, by simp, by simp⟩
  rintro k ts m' K ⟨j, hj, rfl, t0, t1, t5, t29, t30⟩ hK
  by_cases hjl : j < s.reps.length
  · have hj8 : (j : Int) < (s.reps.length : Nat) := by omega
    have w1 : IntKind.i64.wrap ((j : Int) + 1) = ((j + 1 : Nat) : Int) := by rw [w64 (by omega)]; omega
    have hrow := flat_at repC_len s.reps (List.getElem?_eq_getElem hjl)
    obtain ⟨i, o, L, hi1, hi2, hi3, hi4, hi5⟩ := hOt.cellsAt hjl hrow
    obtain ⟨i', o', L', hi1', hi2', hi3', hi4', hi5'⟩ := hOm.cellsAt hjl hrow
    generalize s.reps[j] = r at *
    simp only [repC] at hi5 hi5'
    simp -implicitDefEqProofs (disch := first | assumption | omega | fail) [rc25_1, rc25_0, wkB, retV, stabOk, dC, ev, fillD, pickCells, putAt, bnd, slD, List.getElem?_cons_zero, List.getElem?_cons_succ, Mem.cell, Mem.row, cells_own, cells_ro, t0, t1, t5, t29, t30, hj8, hi2, hi3, hi4, hi5, g1, hi2', hi3', hi4', hi5', w1, dEq_rep]
    exact hK (k - 1) _ _ (by omega) ⟨j + 1, by omega, rfl, by simp [t0], by simp [t1], by simp [t5], by simp [t29], by simp⟩
  · have hjj : j = s.reps.length := by omega
    subst hjj
    obtain ⟨⟨sp2, ol2, orr2, tv2, HT2, rfl, hT2, hol2, hor2⟩, hml2, hll2⟩ := hG
    have g2 := h1.mem (List.mem_cons_of_mem _ (List.mem_append_left _ (List.mem_cons_self ..)))
    simp only [tgC] at g2
    have f0 : fitsF 0 16384 = true := rfl
    have e18 : (s.mem.drop (0 : Int).toNat).take (16384 : Int).toNat = s.mem := by
      rw [show (0 : Int).toNat = 0 from rfl, show (16384 : Int).toNat = 16384 from rfl, List.drop_zero, List.take_of_length_le (by omega)]
    simp -implicitDefEqProofs (disch := first | assumption | omega | fail) [rc25_1, rc25_2, wkB, retV, stabOk, dC, ev, fillD, pickCells, putAt, bnd, slD, List.getElem?_cons_zero, List.getElem?_cons_succ, Mem.cell, Mem.row, cells_own, cells_ro, t0, t1, t29, t30, g2]
    refine c_sRead h1 2 rfl hml (fun _ o3 m3 h3 hn3 => ?_) fun hh => by rw [f0] at hh; cases hh
    rw [e18] at h3
    have h3' : Sep m V m3 ((mdH im sp orr vp vf s ++ HT) ++ (byH o3 s.mem :: reH o1 s.reps :: (tgH it sp2 ol2 orr2 tv2 s ++ HT2))) := h3.perm (List.perm_append_comm (l₁ := byH o3 s.mem :: reH o1 s.reps :: (tgH it sp2 ol2 orr2 tv2 s ++ HT2)))
    have g3 := h3'.get 0 rfl
    simp only [mdC] at g3
    simp -implicitDefEqProofs (disch := first | assumption | omega | fail) [wkB, retV, stabOk, dC, ev, fillD, pickCells, putAt, bnd, slD, List.getElem?_cons_zero, List.getElem?_cons_succ, Mem.cell, Mem.row, cells_own, cells_ro, t0, g3]
    refine c_sRead h3' 1 rfl hml (fun _ o4 m4 h4 hn4 => ?_) fun hh => by rw [f0] at hh; cases hh
    rw [e18] at h4
    have e19 : (16384 : Int).toNat = s.mem.length := by rw [hml]; rfl
    rw [e19] at hn3 hn4
    have b4 : bstr m4 (slV o4 s.mem.length 1) = some (.string ⟨⟨s.mem⟩⟩) := SlR.txt (h4.slO 0 (k := s.mem.length) (sz := 1) rfl (by simp) hn4).read
    have b3 : bstr m4 (slV o3 s.mem.length 1) = some (.string ⟨⟨s.mem⟩⟩) := SlR.txt (h4.slm (List.mem_cons_of_mem _ (List.mem_append_right _ (List.mem_cons_self ..))) (by simp) hn3).read
    rw [hml] at b3 b4
    have bss : (s.mem == s.mem) = true := by simp
    simp -implicitDefEqProofs (disch := first | assumption | omega | fail) [wkB, retV, stabOk, dC, ev, fillD, pickCells, putAt, bnd, slD, List.getElem?_cons_zero, List.getElem?_cons_succ, Mem.cell, Mem.row, cells_own, cells_ro, b3, b4, bss]
    exact hq m4 (h4.tl.sub (List.Sublist.append_left ((List.sublist_cons_self _ _).trans (List.sublist_cons_self _ _)) _))
end Go.Proofs.YtiapjjgmmiifmaaGreatDoor.Ab

set_option linter.unusedVariables false
set_option linter.unusedSimpArgs false
namespace Go.Proofs.YtiapjjgmmiifmaaGreatDoor.Ab
open Go Go.RowKit
set_option maxHeartbeats 4000000
set_option maxRecDepth 100000
theorem le_sum_of_mem {α : Type} (g : α → Nat) : ∀ (l : List α) {x : α}, x ∈ l → g x ≤ (l.map g).sum
  | y :: l, x, h => by
    rw [List.map_cons, List.sum_cons]
    rcases List.mem_cons.1 h with rfl | h
    · omega
    · have := le_sum_of_mem g l h
      omega
section
variable {m : Mem}
theorem absT_bysR {td : TD} {v : Value} (h : AbsT m td [v]) (hs : Fits (.sl (.int .u8)) td) : ∃ bs : List UInt8, RdV (fun i => i < m.next) m 1 v (bs.map byteV) bs.length ∧ bs.length + 1 ≤ td.bulk := by
  obtain ⟨bs, c, d, l⟩ := absT_bys h hs
  exact ⟨bs, ⟨c, fun i hi => ⟨d i hi, d i hi⟩⟩, l⟩
def actShp : Shp := .recd [.int .u8, .int .u8, .int .u16, .int .u16, .sl (.int .u8), .recd [.int .u8, .int .u8, .sl (.int .u8), .int .u16, .int .u8]]
theorem absT_act {td : TD} {cs : List Value} (h : AbsT m td cs) (hf : Fits actShp td) : ∃ x : Dd, cs = x.cells ∧ (x.bb.length ≤ 9223372036854775807 → DdOk (fun i => i < m.next) m x) ∧ x.raw.length + x.bb.length ≤ td.bulk := by
  obtain ⟨l0, rfl, k, f⟩ := absT_recd h hf
  obtain ⟨d1, r1, c1, e1, rfl, rfl, h1, g1, k, f⟩ := absTs_cons k f
  obtain ⟨d2, r2, c2, e2, rfl, rfl, h2, g2, k, f⟩ := absTs_cons k f
  obtain ⟨d3, r3, c3, e3, rfl, rfl, h3, g3, k, f⟩ := absTs_cons k f
  obtain ⟨d4, r4, c4, e4, rfl, rfl, h4, g4, k, f⟩ := absTs_cons k f
  obtain ⟨d5, r5, c5, e5, rfl, rfl, h5, g5, k, f⟩ := absTs_cons k f
  obtain ⟨d6, r6, c6, e6, rfl, rfl, h6, g6, k, f⟩ := absTs_cons k f
  obtain ⟨rfl, rfl⟩ := absTs_nil k f
  obtain ⟨l1, rfl, k, f⟩ := absT_recd h6 g6
  obtain ⟨d7, r7, c7, e7, rfl, rfl, h7, g7, k, f⟩ := absTs_cons k f
  obtain ⟨d8, r8, c8, e8, rfl, rfl, h8, g8, k, f⟩ := absTs_cons k f
  obtain ⟨d9, r9, c9, e9, rfl, rfl, h9, g9, k, f⟩ := absTs_cons k f
  obtain ⟨d10, r10, c10, e10, rfl, rfl, h10, g10, k, f⟩ := absTs_cons k f
  obtain ⟨d11, r11, c11, e11, rfl, rfl, h11, g11, k, f⟩ := absTs_cons k f
  obtain ⟨rfl, rfl⟩ := absTs_nil k f
  obtain ⟨a1, rfl, rfl, w1⟩ := absT_int h1 g1
  obtain ⟨a2, rfl, rfl, w2⟩ := absT_int h2 g2
  obtain ⟨a3, rfl, rfl, w3⟩ := absT_int h3 g3
  obtain ⟨a4, rfl, rfl, w4⟩ := absT_int h4 g4
  obtain ⟨v5, rfl⟩ := h5.one g5 (by intro ss; simp)
  obtain ⟨b5, q5, l5⟩ := absT_bysR h5 g5
  obtain ⟨a7, rfl, rfl, w7⟩ := absT_int h7 g7
  obtain ⟨a8, rfl, rfl, w8⟩ := absT_int h8 g8
  obtain ⟨v9, rfl⟩ := h9.one g9 (by intro ss; simp)
  obtain ⟨b9, q9, l9⟩ := absT_bysR h9 g9
  obtain ⟨a10, rfl, rfl, w10⟩ := absT_int h10 g10
  obtain ⟨a11, rfl, rfl, w11⟩ := absT_int h11 g11
  have x1 := wf_u8 w1
  have x2 := wf_u8 w2
  have x3 := wf_u16 w3
  have x4 := wf_u16 w4
  have x7 := wf_u8 w7
  have x8 := wf_u8 w8
  have x10 := wf_u16 w10
  obtain ⟨a1, rfl⟩ := Int.eq_ofNat_of_zero_le x1.1
  obtain ⟨a2, rfl⟩ := Int.eq_ofNat_of_zero_le x2.1
  obtain ⟨a3, rfl⟩ := Int.eq_ofNat_of_zero_le x3.1
  obtain ⟨a4, rfl⟩ := Int.eq_ofNat_of_zero_le x4.1
  obtain ⟨a7, rfl⟩ := Int.eq_ofNat_of_zero_le x7.1
  obtain ⟨a8, rfl⟩ := Int.eq_ofNat_of_zero_le x8.1
  obtain ⟨a10, rfl⟩ := Int.eq_ofNat_of_zero_le x10.1
  have lb : b5.length + b9.length ≤ (TD.recd [.int .u8 (a1 : Int), .int .u8 (a2 : Int), .int .u16 (a3 : Int), .int .u16 (a4 : Int), d5, .recd [.int .u8 (a7 : Int), .int .u8 (a8 : Int), d9, .int .u16 (a10 : Int), .int .u8 a11]]).bulk := by
    simp [TD.bulk, TD.bulks]; omega
  exact ⟨⟨a1, a2, a3, a4, v5, b5, a7, a8, v9, b9, a10, a11⟩, rfl, fun hb => ⟨q5, q9, by simp only; omega, by simp only; omega, by simp only; omega, by simp only; omega, by simp only; omega, by simp only; omega, hb⟩, lb⟩
theorem absT_acts {td : TD} {v : Value} (h : AbsT m td [v]) (hs : Fits (.sl actShp) td) (hk : td.bulk ≤ 1048576) :
    ∃ ds : List Dd, RdV (fun i => i < m.next) m 10 v (ds.flatMap Dd.cells) ds.length ∧ (∀ x ∈ ds, DdOk (fun i => i < m.next) m x ∧ x.raw.length + x.bb.length ≤ td.bulk) ∧ ds.length ≤ td.bulk := by
  obtain ⟨l, xs, rfl, h1, h2, h3⟩ := absT_slice (f := Dd.cells) (z := 10) (R := fun d x => (x.bb.length ≤ 9223372036854775807 → DdOk (fun i => i < m.next) m x) ∧ x.raw.length + x.bb.length ≤ d.bulk) Dd.clen (fun d c hf ha => by
    obtain ⟨x, rfl, q1, q2⟩ := absT_act ha hf
    exact ⟨x, rfl, q1, q2⟩) h hs
  have hA : ∀ x ∈ xs, x.raw.length + x.bb.length ≤ (TD.sl l).bulk := fun x hx => by
    have h4 := h2.sum (g := fun x => x.raw.length + x.bb.length) fun d b hr => hr.2
    have h5 : x.raw.length + x.bb.length ≤ (xs.map fun x => x.raw.length + x.bb.length).sum := le_sum_of_mem (fun x => x.raw.length + x.bb.length) xs hx
    simp [TD.bulk]; omega
  refine ⟨xs, ⟨h1, fun i hi => ⟨h3 i hi, h3 i hi⟩⟩, fun x hx => ⟨(h2.right x hx).choose_spec.2.1 (by have := hA x hx; omega), hA x hx⟩, ?_⟩
  have := TD.bulks_len l
  rw [h2.length]
  simp [TD.bulk]; omega
end
end Go.Proofs.YtiapjjgmmiifmaaGreatDoor.Ab

set_option linter.unusedVariables false
set_option linter.unusedSimpArgs false
namespace Go.Proofs.YtiapjjgmmiifmaaGreatDoor.Ab
open Go Go.RowKit
set_option maxHeartbeats 4000000
set_option maxRecDepth 100000
theorem SafeI.put {it j : Nat} {s : TgS} {told l : List UInt8} {T S : Nat} (h : Sfx told s.reps ∧ told.length ≤ T ∧ s.reps.length ≤ S ∧ s.tak.sz ≤ S) (hl : l.length ≤ 3000000) : Sfx (told ++ (tPutF s l).2) (tPutF s l).1.reps ∧ (told ++ (tPutF s l).2).length ≤ T + 200 * l.length + 200 ∧ (tPutF s l).1.reps.length ≤ S + l.length + 1024 ∧ (tPutF s l).1.tak.sz ≤ S + l.length + 1024 := by
  obtain ⟨h1, h2, h3, h4⟩ := h
  obtain ⟨new, k1, k2⟩ := tPut_tells s l
  have k := tPut_sz s l
  refine ⟨by rw [k1]; exact h1.app k2, by simp only [List.length_append]; omega, by omega, by omega⟩
theorem SafeI.tick {s : TgS} {told : List UInt8} {T S : Nat} (h : Sfx told s.reps ∧ told.length ≤ T ∧ s.reps.length ≤ S ∧ s.tak.sz ≤ S) : Sfx (told ++ (tTickF s).2) (tTickF s).1.reps ∧ (told ++ (tTickF s).2).length ≤ T + 10 ∧ (tTickF s).1.reps.length ≤ S ∧ (tTickF s).1.tak.sz ≤ S := by
  obtain ⟨h1, h2, h3, h4⟩ := h
  obtain ⟨new, k1, k2⟩ := tTick_tells s
  have k := tTick_sz s
  refine ⟨by rw [k1]; exact h1.app k2, by simp only [List.length_append]; omega, by rw [k.2.1]; omega, by omega⟩
theorem absT_cfg2 {m : Mem} {td : TD} {cs : List Value} (h : AbsT m td cs) (hf : Fits (.recd [.int .i64, .int .i64]) td) : ∃ tr wt : Int, cs = [.int .i64 tr, .int .i64 wt] := by
  obtain ⟨l0, rfl, k, f⟩ := absT_recd h hf
  obtain ⟨d1, r1, c1, e1, rfl, rfl, h1, g1, k, f⟩ := absTs_cons k f
  obtain ⟨d2, r2, c2, e2, rfl, rfl, h2, g2, k, f⟩ := absTs_cons k f
  obtain ⟨rfl, rfl⟩ := absTs_nil k f
  obtain ⟨a, rfl, rfl, w1⟩ := absT_int h1 g1
  obtain ⟨b, rfl, rfl, w2⟩ := absT_int h2 g2
  exact ⟨a, b, rfl⟩
end Go.Proofs.YtiapjjgmmiifmaaGreatDoor.Ab

set_option linter.unusedVariables false
set_option linter.unusedSimpArgs false
namespace Go.Proofs.YtiapjjgmmiifmaaGreatDoor.Ab
open Go Go.RowKit
set_option maxHeartbeats 4000000
set_option maxRecDepth 100000
theorem nx_ok (n : Nat) : (UInt8.ofNat (n % 3 + 1)).toNat = n % 3 + 1 := by
  have : n % 3 < 3 := Nat.mod_lt _ (by omega)
  rw [UInt8.toNat_ofNat']; omega
theorem nx_cvi (n : Nat) : IntKind.u8.wrap ((n % 3 : Nat) : Int) = ((n % 3 : Nat) : Int) := by
  have : n % 3 < 3 := Nat.mod_lt _ (by omega)
  exact IntWalk.u8_in _ (by omega)
theorem nx_add (n : Nat) : IntKind.u8.wrap (((n % 3 : Nat) : Int) + 1) = ((n % 3 + 1 : Nat) : Int) := by
  have : n % 3 < 3 := Nat.mod_lt _ (by omega)
  rw [IntWalk.u8_in _ (by omega)]; omega
/-- How long it waits. -/
def waitF (wt : Int) : Int := 1 + ((wt.tmod 5 + 5).tmod 5)
theorem tm5 (a : Int) : -4 ≤ a.tmod 5 ∧ a.tmod 5 ≤ 4 := by
  rcases Int.le_total 0 a with h | h
  · rw [Int.tmod_eq_emod_of_nonneg h]; omega
  · have e : a.tmod 5 = -((-a).tmod 5) := by rw [Int.neg_tmod]; omega
    rw [e, Int.tmod_eq_emod_of_nonneg (by omega)]; omega
theorem l_Script {w0 : World} {m : Mem} {tr wt : Int} {va : Value} {ds : List Dd} (hp : Part L0 m) (ht : Ten w0) (hE : ErrV w0)
    (ha : RdV (fun i => i < m.next) m 10 va (ds.flatMap Dd.cells) ds.length) (hds : ∀ x ∈ ds, DdOk (fun i => i < m.next) m x ∧ x.raw.length + x.bb.length ≤ 1048576) (hdl : ds.length ≤ 1048576) :
    AbC Tryz.prog w0 8 [.agg ⟨[.int .i64 tr, .int .i64 wt]⟩, va] m fun u _ => u = .bool true := by
  refine AbC_fn ok8 (by simp) ?_
  simp -implicitDefEqProofs (disch := first | assumption | omega | fail) [rc8, ro8, wkB, retV, stabOk, dC, ev, fillD, pickCells, putAt, bnd, slD, List.getElem?_cons_zero, List.getElem?_cons_succ, Mem.cell, Mem.row, cells_own, cells_ro]
  refine SK_bxS (Sep.ofOld hp) (cs := [.int .i64 tr, .int .i64 wt]) (by simp [wkB, retV, stabOk, dC, ev, fillD, pickCells, putAt, bnd, slD, List.getElem?_cons_zero, List.getElem?_cons_succ, Mem.cell, Mem.row, cells_own, cells_ro]) fun B m1 h1 _ _ => ?_
  have g1 := h1.get 0 rfl
  simp -implicitDefEqProofs (disch := first | assumption | omega | fail) [wkB, retV, stabOk, dC, ev, fillD, pickCells, putAt, bnd, slD, List.getElem?_cons_zero, List.getElem?_cons_succ, Mem.cell, Mem.row, cells_own, cells_ro]
  refine c_awake h1.pt ?_
  have t5a := tm5 wt
  have r1 : dBin .rem (.int .i64 wt) (.int .i64 5) = some (.int .i64 (wt.tmod 5)) := dBin_rem (by omega)
  have w1 : IntKind.i64.wrap (wt.tmod 5 + 5) = wt.tmod 5 + 5 := w64 (by omega)
  have r2 : dBin .rem (.int .i64 (wt.tmod 5 + 5)) (.int .i64 5) = some (.int .i64 ((wt.tmod 5 + 5).tmod 5)) := dBin_rem (by omega)
  have t5b := tm5 (wt.tmod 5 + 5)
  have w2 : IntKind.i64.wrap (1 + (wt.tmod 5 + 5).tmod 5) = waitF wt := w64 (by omega)
  generalize waitF wt = wt' at *
  simp -implicitDefEqProofs (disch := first | assumption | omega | fail) [wkB, retV, stabOk, dC, ev, fillD, pickCells, putAt, bnd, slD, List.getElem?_cons_zero, List.getElem?_cons_succ, Mem.cell, Mem.row, cells_own, cells_ro, rc8_5, g1, r1, w1, r2, w2]
  refine SK_stS h1 0 rfl (o := 1) (vs := [.int .i64 wt']) (cs' := [.int .i64 tr, .int .i64 wt']) (by simp [wkB, retV, stabOk, dC, ev, fillD, pickCells, putAt, bnd, slD, List.getElem?_cons_zero, List.getElem?_cons_succ, Mem.cell, Mem.row, cells_own, cells_ro]) (by simp [wkB, retV, stabOk, dC, ev, fillD, pickCells, putAt, bnd, slD, List.getElem?_cons_zero, List.getElem?_cons_succ, Mem.cell, Mem.row, cells_own, cells_ro]) (by simp) rfl rfl rfl fun m2 h2 _ => ?_
  have g2 := h2.get 0 rfl
  simp -implicitDefEqProofs (disch := first | assumption | omega | fail) [wkB, retV, stabOk, dC, ev, fillD, pickCells, putAt, bnd, slD, List.getElem?_cons_zero, List.getElem?_cons_succ, Mem.cell, Mem.row, cells_own, cells_ro, g2]
  refine c_tOf h2 fun it HG m3 h3 hR3 => ?_
  have g3 := h3.mem (List.mem_append_right _ (List.mem_cons_self ..))
  simp -implicitDefEqProofs (disch := first | assumption | omega | fail) [wkB, retV, stabOk, dC, ev, fillD, pickCells, putAt, bnd, slD, List.getElem?_cons_zero, List.getElem?_cons_succ, Mem.cell, Mem.row, cells_own, cells_ro, g3]
  refine c_NewModel h3 fun im HM m4 h4 hM4 => ?_
  have h4 : Sep m (fun i => i < m.next) m4 (HM ++ HG) := h4.sub (List.Sublist.append_left (List.sublist_append_left _ _) _)
  have hR3' := hR3
  obtain ⟨⟨sp, ol, orr, tv, HT, rfl, hT, hol, hor⟩, hml, hll⟩ := hR3
  have g4 := h4.mem (List.mem_append_right _ (List.mem_cons_self ..))
  simp only [tgC, tg0S] at g4
  simp -implicitDefEqProofs (disch := first | assumption | omega | fail) [wkB, retV, stabOk, dC, ev, fillD, pickCells, putAt, bnd, slD, List.getElem?_cons_zero, List.getElem?_cons_succ, Mem.cell, Mem.row, cells_own, cells_ro, g4]
  refine c_Agrees h4.self hM4 hR3' (by simp [tg0S]) fun m5 h5 => ?_
  have h5 := h4.tr h5
  generalize tgH it sp ol orr tv (tg0S tr wt') ++ HT = HG at *
  simp -implicitDefEqProofs (disch := first | assumption | omega | fail) [wkB, retV, stabOk, dC, ev, fillD, pickCells, putAt, bnd, slD, List.getElem?_cons_zero, List.getElem?_cons_succ, Mem.cell, Mem.row, cells_own, cells_ro, rc8_4, ha.sl.slen]
  refine LoopW_of (fun k ts m' => ∃ (j : Nat) (s : TgS) (HM HG : HL) (nx : UInt8), j + k = ds.length ∧ Sep m (fun i => i < m.next) m' (HM ++ HG) ∧ MdR HM im s ∧ TgR HG it s ∧ s.tak.fresh ∧ s.reps.length ≤ 1100000 * j ∧ s.tak.sz ≤ 1100000 * j ∧
    ts 5 = .pointer (some ⟨it, 0, none⟩) ∧ ts 6 = .pointer (some ⟨im, 0, none⟩) ∧ ts 7 = .int .u8 (nx.toNat : Int) ∧ ts 37 = va ∧ ts 38 = .int .i64 (ds.length : Nat) ∧ ts 39 = .int .i64 (j : Nat)) ds.length ?_ ?_
  · exact ⟨0, tg0S tr wt', HM, HG, 1, by omega, h5, hM4, hR3', trivial, by simp [tg0S], by simp [tg0S, Tak.sz], by simp, by simp, by simp, by simp [frA_at], by simp, by simp⟩
  clear h1 g1 h2 g2 h3 g3 h4 hM4 hR3' g4 h5 hT hol hor hml hll
  rintro k ts m3 K ⟨j, s, HM, HG, nx, hj, h3, hM3, hR3, hfr, hrl, hsz, t5, t6, t7, t37, t38, t39⟩ hK
  by_cases hjl : j < ds.length
  · have hjl' : (j : Int) < (ds.length : Nat) := by omega
    have wj : IntKind.i64.wrap ((j : Int) + 1) = ((j + 1 : Nat) : Int) := by rw [w64 (by omega)]; omega
    obtain ⟨i, o, L, hi1, hi2, hi3, hi4, hi5⟩ := (ha.sep h3).sl.cellsAt hjl (dd_at hjl)
    obtain ⟨x, hx⟩ : ∃ x, ds[j] = x := ⟨_, rfl⟩
    obtain ⟨hxo, hxl⟩ := hds x (by rw [← hx]; exact List.getElem_mem hjl)
    rw [hx] at hi5
    have hov1 := hxo.r.oneC
    have hov2 := hxo.b.oneC
    have hi5 : (L.drop (o + j * 10)).take 10 = [.int .u8 (x.op : Int), .int .u8 (x.way : Int), .int .u16 (x.addr : Int), .int .u16 (x.size : Int), x.vr, .int .u8 (x.bop : Int), .int .u8 (x.bno : Int), x.vb, .int .u16 (x.bat : Int), .int .u8 x.bby] := hi5
    /- behind a deed: what both told is alike, and both show the same -/
    have rest : ∀ (fr : Fr) (M : Mem) (s' : TgS) (HM' HG' : HL) (out : List UInt8), Sep m (fun i => i < m.next) M (HM' ++ HG') → MdR HM' im s' → TgR HG' it s' → s'.tak.fresh → s'.reps.length ≤ s.reps.length + 1050000 → s'.tak.sz ≤ s.tak.sz + 1060000 → out.length ≤ 1000000000 →
        fr 5 = ts 5 → fr 6 = ts 6 → fr 10 = .string ⟨⟨out⟩⟩ → fr 11 = .string ⟨⟨out⟩⟩ → fr 37 = ts 37 → fr 38 = ts 38 → fr 39 = ts 39 →
        ∀ R : AQ, (∀ fr' M', Sep m (fun i => i < m.next) M' (HM' ++ HG') → (∃ nx : UInt8, fr' 7 = .int .u8 (nx.toNat : Int)) → fr' 5 = ts 5 → fr' 6 = ts 6 → fr' 37 = ts 37 → fr' 38 = ts 38 → fr' 39 = ts 39 → R .normal fr' M') → AbW Tryz.prog w0 rc8_0 R fr M := by
      intro fr M s' HM' HG' out hS hM' hG' hf' hrl' hsz' hol e5 e6 e10 e11 e37 e38 e39 R hR
      have hsz9 : (ByteArray.mk ⟨out⟩).size = out.length := rfl
      have r3 : dBin .rem (.int .i64 (out.length : Int)) (.int .i64 3) = some (.int .i64 ((out.length % 3 : Nat) : Int)) := by rw [dBin_rem (by omega), Int.tmod_eq_emod_of_nonneg (by omega)]; rfl
      have q1 := nx_cvi out.length
      have q2 := nx_add out.length
      have q3 := nx_ok out.length
      obtain ⟨n3, hn3⟩ : ∃ n3, out.length % 3 = n3 := ⟨_, rfl⟩
      rw [hn3] at r3 q1 q2 q3
      have hoo : (out != out) = false := by simp
      simp -implicitDefEqProofs (disch := first | assumption | omega | fail) [rc8_0, wkB, retV, stabOk, dC, ev, fillD, pickCells, putAt, bnd, slD, List.getElem?_cons_zero, List.getElem?_cons_succ, Mem.cell, Mem.row, cells_own, cells_ro, e5, e6, e10, e11, hsz9, r3, q1, q2, hoo, t5, t6]
      refine c_Agrees hS.self hM' hG' (by omega) fun m9 h9 => ?_
      have h9 := hS.tr h9
      simp -implicitDefEqProofs (disch := first | assumption | omega | fail) [wkB, retV, stabOk, dC, ev, fillD, pickCells, putAt, bnd, slD, List.getElem?_cons_zero, List.getElem?_cons_succ, Mem.cell, Mem.row, cells_own, cells_ro]
      exact hR _ m9 h9 ⟨UInt8.ofNat (n3 + 1), by rw [q3]; simp⟩ (by simp [e5]) (by simp [e6]) (by simp [e37]) (by simp [e38]) (by simp [e39])
    simp -implicitDefEqProofs (disch := first | assumption | omega | fail) [rc8_2, rc8_1, wkB, retV, stabOk, dC, ev, fillD, pickCells, putAt, bnd, slD, List.getElem?_cons_zero, List.getElem?_cons_succ, Mem.cell, Mem.row, cells_own, cells_ro, t5, t6, t7, t37, t38, t39, hjl, hjl', hi2, hi3, hi4, hi5]
    refine SK_alS h3 fun x4 m4 h4 _ _ => ?_
    simp -implicitDefEqProofs (disch := first | assumption | omega | fail) [wkB, retV, stabOk, dC, ev, fillD, pickCells, putAt, bnd, slD, List.getElem?_cons_zero, List.getElem?_cons_succ, Mem.cell, Mem.row, cells_own, cells_ro]
    refine SK_stS h4 0 rfl (o := 0) (vs := x.cells) (cs' := x.cells) (by simp [wkB, retV, stabOk, dC, ev, fillD, pickCells, putAt, bnd, slD, List.getElem?_cons_zero, List.getElem?_cons_succ, Mem.cell, Mem.row, cells_own, cells_ro]) (by simp [wkB, retV, stabOk, dC, ev, fillD, pickCells, putAt, bnd, slD, List.getElem?_cons_zero, List.getElem?_cons_succ, Mem.cell, Mem.row, cells_own, cells_ro, Dd.cells]) (by simp) rfl (by simp only [Dd.cells, List.all_cons, List.all_nil, hov1.2, hov2.2, Bool.and_true]; rfl) rfl fun m5 h5 _ => ?_
    have g5 := h5.get 0 rfl
    simp only [Dd.cells] at g5
    have h5' := h5.tl
    have ro : dBin .rem (.int .u8 (x.op : Int)) (.int .u8 8) = some (.int .u8 ((x.op % 8 : Nat) : Int)) := rem8 (b := 8) (by omega)
    have htl := tPut_L (s := s)
    by_cases h7 : x.op % 8 = 7
    · have e7 : (((x.op % 8 : Nat) : Int) == 7) = true := by rw [h7]; rfl
      generalize x.op % 8 = o8 at *
      simp -implicitDefEqProofs (disch := first | assumption | omega | fail) [wkB, retV, stabOk, dC, ev, fillD, pickCells, putAt, bnd, slD, List.getElem?_cons_zero, List.getElem?_cons_succ, Mem.cell, Mem.row, cells_own, cells_ro, g5, ro, e7, t5, t6]
      have hp5 := h5'.perm (List.perm_append_comm (l₁ := HM) (l₂ := HG))
      refine c_tTick ht hE hp5.fr hR3 (by omega) fun o6 H6 m6 h6 hR6 ho6 => ?_
      have h6 := (hp5.un h6).perm (List.perm_append_comm (l₁ := byH o6 (tTickF s).2 :: H6) (l₂ := HM))
      have hz := tTick_sz s
      have hf := tick_fresh hfr
      have hb6 : bstr m6 (slV o6 (tTickF s).2.length 1) = some (.string ⟨⟨(tTickF s).2⟩⟩) := SlR.txt (h6.slm (List.mem_append_right _ (List.mem_cons_self ..)) (by simp) ho6).read
      simp -implicitDefEqProofs (disch := first | assumption | omega | fail) [wkB, retV, stabOk, dC, ev, fillD, pickCells, putAt, bnd, slD, List.getElem?_cons_zero, List.getElem?_cons_succ, Mem.cell, Mem.row, cells_own, cells_ro, t6, hb6]
      refine c_mTick ht hE h6.fr hM3 (by omega) fun m7 H7 h7 hM7 => ?_
      have h7 := h6.un h7
      have hb7 : bstr m7 (slV o6 (tTickF s).2.length 1) = some (.string ⟨⟨(tTickF s).2⟩⟩) := SlR.txt (h7.slm (List.mem_append_right _ (List.mem_cons_self ..)) (by simp) ho6).read
      have hz7 : Sep m (fun i => i < m.next) m7 (H7 ++ H6) := h7.sub (List.Sublist.append_left (List.sublist_cons_self _ _) _)
      generalize tTickF s = q at *
      simp -implicitDefEqProofs (disch := first | assumption | omega | fail) [wkB, retV, stabOk, dC, ev, fillD, pickCells, putAt, bnd, slD, List.getElem?_cons_zero, List.getElem?_cons_succ, Mem.cell, Mem.row, cells_own, cells_ro, hb7]
      refine rest _ m7 q.1 H7 H6 q.2 hz7 hM7 hR6 hf (by rw [hz.2.1]; omega) (by omega) (by omega) (by simp) (by simp) (by simp) (by simp) (by simp) (by simp) (by simp) _ fun fr' M' hS' hnx e5 e6 e37 e38 e39 => ?_
      obtain ⟨nx', hnx⟩ := hnx
      simp -implicitDefEqProofs (disch := first | assumption | omega | fail) [wkB, retV, stabOk, dC, ev, fillD, pickCells, putAt, bnd, slD, List.getElem?_cons_zero, List.getElem?_cons_succ, Mem.cell, Mem.row, cells_own, cells_ro, e39, t39, wj]
      exact hK (k - 1) _ _ (by omega) ⟨j + 1, q.1, H7, H6, nx', by omega, hS', hM7, hR6, hf, by rw [hz.2.1]; omega, by omega, by simp [e5, t5], by simp [e6, t6], by simp [hnx], by simp [e37, t37], by simp [e38, t38], by simp⟩
    · have e7 : (((x.op % 8 : Nat) : Int) == 7) = false := beq_eq_false_iff_ne.2 (by omega)
      generalize x.op % 8 = o8 at *
      simp -implicitDefEqProofs (disch := first | assumption | omega | fail) [wkB, retV, stabOk, dC, ev, fillD, pickCells, putAt, bnd, slD, List.getElem?_cons_zero, List.getElem?_cons_succ, Mem.cell, Mem.row, cells_own, cells_ro, g5, ro, e7, t5, t6, t7]
      refine c_bytes (next := nx) h5'.pt ht (hxo.keep h5'.k) fun u l m6 o6 hu hub hll => ?_
      have h6 := h5'.old o6
      have hll : l.length ≤ 1049776 := by omega
      have hpr : ∀ i, blk u = some i → i < m6.next ∧ ¬ ids (HM ++ HG) i := fun i hi => by
        rcases hub i hi with ⟨q1, q2⟩ | q | q
        · exact ⟨q2, fun hid => by have := h5'.il hid; omega⟩
        · have hlt := (hxo.r.bl i q).1
          exact ⟨Nat.lt_of_lt_of_le hlt h6.n, fun hid => (h6.il hid).2 hlt⟩
        · have hlt := (hxo.b.bl i q).1
          exact ⟨Nat.lt_of_lt_of_le hlt h6.n, fun hid => (h6.il hid).2 hlt⟩
      have h6' := h6.prot (fun i => blk u = some i) hpr
      have hru : RdV (fun i => i < m.next ∨ blk u = some i) m6 1 u (l.map byteV) l.length := ⟨hu, fun i hi => ⟨(hpr i hi).1, .inr hi⟩⟩
      clear hub hpr h3 h4 h5 g5 hi5 hi4 hi3 hi2 hi1
      have hp6 := h6'.perm (List.perm_append_comm (l₁ := HM) (l₂ := HG))
      have hz := tPut_sz s l
      have hf := putL_fresh l s [] hfr
      have hml := tPut_L l hfr
      rw [hml] at hf
      simp -implicitDefEqProofs (disch := first | assumption | omega | fail) [wkB, retV, stabOk, dC, ev, fillD, pickCells, putAt, bnd, slD, List.getElem?_cons_zero, List.getElem?_cons_succ, Mem.cell, Mem.row, cells_own, cells_ro, t5, t6]
      refine c_tPut (b := l) ht hE hp6.fr hR3 (hru.mono fun _ _ hx => .inl hx) (by omega) (by omega) (by omega) fun o7 H7 m7 h7 hR7 ho7 => ?_
      have h7 := (hp6.un h7).perm (List.perm_append_comm (l₁ := byH o7 (tPutF s l).2 :: H7) (l₂ := HM))
      have hb7 : bstr m7 (slV o7 (tPutF s l).2.length 1) = some (.string ⟨⟨(tPutF s l).2⟩⟩) := SlR.txt (h7.slm (List.mem_append_right _ (List.mem_cons_self ..)) (by simp) ho7).read
      simp -implicitDefEqProofs (disch := first | assumption | omega | fail) [wkB, retV, stabOk, dC, ev, fillD, pickCells, putAt, bnd, slD, List.getElem?_cons_zero, List.getElem?_cons_succ, Mem.cell, Mem.row, cells_own, cells_ro, t6, hb7]
      refine c_mPut (b := l) ht hE h7.fr hM3 ((hru.keep h7.k).mono fun _ _ hx => .inl hx) (by omega) (by omega) (by omega) fun m8 H8 h8 hM8 => ?_
      rw [hml] at hM8
      rw [hml]
      have h8 := h7.un h8
      have hb8 : bstr m8 (slV o7 (tPutF s l).2.length 1) = some (.string ⟨⟨(tPutF s l).2⟩⟩) := SlR.txt (h8.slm (List.mem_append_right _ (List.mem_cons_self ..)) (by simp) ho7).read
      have hz8 : Sep m (fun i => i < m.next) m8 (H8 ++ H7) := (h6.trm h8 fun i hi => .inl hi).sub (List.Sublist.append_left (List.sublist_cons_self _ _) _)
      clear hml htl
      generalize tPutF s l = q at *
      simp -implicitDefEqProofs (disch := first | assumption | omega | fail) [wkB, retV, stabOk, dC, ev, fillD, pickCells, putAt, bnd, slD, List.getElem?_cons_zero, List.getElem?_cons_succ, Mem.cell, Mem.row, cells_own, cells_ro, hb8]
      refine rest _ m8 q.1 H8 H7 q.2 hz8 hM8 hR7 hf (by omega) (by omega) (by omega) (by simp) (by simp) (by simp) (by simp) (by simp) (by simp) (by simp) _ fun fr' M' hS' hnx e5 e6 e37 e38 e39 => ?_
      obtain ⟨nx', hnx⟩ := hnx
      simp -implicitDefEqProofs (disch := first | assumption | omega | fail) [wkB, retV, stabOk, dC, ev, fillD, pickCells, putAt, bnd, slD, List.getElem?_cons_zero, List.getElem?_cons_succ, Mem.cell, Mem.row, cells_own, cells_ro, e39, t39, wj]
      exact hK (k - 1) _ _ (by omega) ⟨j + 1, q.1, H8, H7, nx', by omega, hS', hM8, hR7, hf, by omega, by omega, by simp [e5, t5], by simp [e6, t6], by simp [hnx], by simp [e37, t37], by simp [e38, t38], by simp⟩
  · have hjj : j = ds.length := by omega
    subst hjj
    simp -implicitDefEqProofs (disch := first | assumption | omega | fail) [rc8_2, rc8_3, wkB, retV, stabOk, dC, ev, fillD, pickCells, putAt, bnd, slD, List.getElem?_cons_zero, List.getElem?_cons_succ, Mem.cell, Mem.row, cells_own, cells_ro, t38, t39]
theorem l_ScriptI {w0 : World} {m : Mem} {cs : List Value} {va : Value} {t0 t1 : TD} (hp : Part L0 m) (ht : Ten w0) (hE : ErrV w0) (h0 : AbsT m t0 cs) (f0 : Fits (.recd [.int .i64, .int .i64]) t0) (h1 : AbsT m t1 [va]) (f1 : Fits (.sl actShp) t1)
    (k1 : t1.bulk ≤ 1048576) : AbC Tryz.prog w0 8 [.agg ⟨cs⟩, va] m fun u _ => u = .bool true := by
  obtain ⟨tr, wt, rfl⟩ := absT_cfg2 h0 f0
  obtain ⟨ds, a1, a2, a3⟩ := absT_acts h1 f1 k1
  exact l_Script hp ht hE a1 (fun x hx => ⟨(a2 x hx).1, by have := (a2 x hx).2; omega⟩) (by omega)
end Go.Proofs.YtiapjjgmmiifmaaGreatDoor.Ab

namespace Go.Proofs.YtiapjjgmmiifmaaGreatDoor.targetScript
open Go Go.ChangeShapes Go.WideShapes Go.ChangeAt Go.RowKit Go.Proofs.YtiapjjgmmiifmaaGreatDoor.Ab
set_option linter.unusedVariables false
theorem own : ownKnob Tryz.prog.godebug = none := by kernel_rfl
theorem laidOut : laidOutB Tryz.prog = true := by kernel_rfl
set_option maxRecDepth 100000 in
theorem contract (H : Type) (enc : TypeId × Value → H) (W : World) (base : Nat) (args : Array Value) (ds gs : List (DataW H)) (before : List MemPlace)
    (hval : ∀ (j : Nat) t v, Tryz.f8.params[j]? = some t → args[j]? = some v → Value.okWide Tryz.prog W .any base t v)
    (hW : DataW.Whole enc Tryz.prog Tryz.f8.params.toList Rows.targetScriptSpec.vars false W args.toList ds gs before) (hL : laidMetH Tryz.prog Rows.targetScriptUptoRow.laid W) (hk : Rows.uptoSmall H (ds ++ gs) = true) :
    Calls Tryz.prog 8 args W fun e W' => ∃ v, e = .returned v ∧ Rows.targetScriptSpec.post enc Tryz.prog Tryz.f8 false true false false W args v W' := by
  have hW' := hW
  have hL' : laidMet Tryz.prog Rows.targetScriptUptoRow.laid W := hL
  obtain ⟨p, q, hA0, hV, rfl, hfz, hnd⟩ := hW
  have hA : DataW.TrodAll enc Tryz.prog W 0 (fun _ => true) true Tryz.f8.params.toList args.toList ds p := hA0
  rw [Tryz.params8] at hA hval
  obtain ⟨v0, vs0, d0, ds0, p0, q0, hargs, rfl, rfl, h0, r0⟩ := trodAll_cons hA
  obtain ⟨v1, vs1, d1, ds1, p1, q1, rfl, rfl, rfl, h1, r1⟩ := trodAll_cons r0
  obtain ⟨rfl, rfl, rfl⟩ := trodAll_nil r1
  obtain rfl : args = #[v0, v1] := by cases args; simp_all
  obtain ⟨rfl, rfl⟩ := trodVars_none hV
  obtain ⟨a0, rfl, sz0⟩ := okWide_struct Tryz.underlying28 (hval 0 28 v0 rfl rfl)
  have lt0 : ∀ x ∈ p0, x.block < W.heap.size := by obtain ⟨m, hm⟩ := h0; exact DataW.trod_lt m _ _ _ hm
  obtain ⟨a1, len1, cap1, rfl⟩ := okWide_slice Tryz.underlying61 (hval 1 61 v1 rfl rfl)
  have lt1 : ∀ x ∈ p1, x.block < W.heap.size := by obtain ⟨m, hm⟩ := h1; exact DataW.trod_lt m _ _ _ hm
  have hbk := of_decide_eq_true hk
  simp only [Rows.uptoBulkAll, List.append_nil] at hbk
  have s : St Tryz.prog W (G0 Tryz.prog) (toMem L0) W := St.laid globals_size L0_get laid_ok (laidIn hL' (List.mem_of_getElem? (i := 0) rfl) (List.mem_of_getElem? (i := 1) rfl) (List.mem_of_getElem? (i := 2) rfl))
  have hp : Part L0 (toMem L0) := Part.of L0_part (Nat.le_refl _) fun _ _ => rfl
  obtain ⟨G0, m0, x0, t0, g0, s0, u0, b0, f0, k0⟩ := arg_agg (k := 5) (s := (.recd [.int .i64, .int .i64])) (by kernel_rfl) h0 s
  have hp := g0.part hp
  obtain ⟨G1, m1, x1, t1, g1, s1, u1, b1, f1, k1⟩ := arg_one (k := 5) (s := (.sl actShp)) (by kernel_rfl) h1 rfl s0
  have hp := g1.part hp
  have b0 := b0.mono g1.2.1 g1.2.2
  have u0 := u0.mono g1.1
  refine (AbC_true s1 (.cons _ _ _ _ u0 (.cons _ _ _ _ u1 .nil)) ((l_ScriptI hp (ten_of hL' (List.mem_of_getElem? (i := 2) rfl)) (errV_of hL' (List.mem_of_getElem? (i := 5) rfl) (List.mem_of_getElem? (i := 4) rfl)) b0 f0 b1 f1 (by omega))) (by kernel_rfl)).mono fun e W' ⟨he, bel⟩ => ?_
  subst he
  exact ⟨_, rfl, _, _, _, [], _, [], hW', trodAll_mk1 (shut_bool Tryz.underlying4 _), (trodAll_cons_mk (Below.trod laidOut (by kernel_rfl) (of_decide_eq_true (by kernel_rfl)) h0 bel lt0) (trodAll_cons_mk (Below.trod laidOut (by kernel_rfl) (of_decide_eq_true (by kernel_rfl)) h1 bel lt1) trodAll_mk0)), rfl, bel.frame _, fun h => by cases h⟩
noncomputable def laidWorld (os : Os) : World :=
  let N := (World.settled Tryz.prog os).heap.size
  { World.holding Tryz.prog os ⟨#[.cells #[.string ⟨#[118, 97, 108, 117, 101, 32, 111, 117, 116, 32, 111, 102, 32, 114, 97, 110, 103, 101]⟩] 190, .cells #[.string ⟨#[105, 110, 118, 97, 108, 105, 100, 32, 115, 121, 110, 116, 97, 120]⟩] 190], #[], []⟩ with heap := ((((((((World.holding Tryz.prog os ⟨#[.cells #[.string ⟨#[118, 97, 108, 117, 101, 32, 111, 117, 116, 32, 111, 102, 32, 114, 97, 110, 103, 101]⟩] 190, .cells #[.string ⟨#[105, 110, 118, 97, 108, 105, 100, 32, 115, 121, 110, 116, 97, 120]⟩] 190], #[], []⟩).heap.modify 1 fun | .cells _ t frozen => .cells ⟨e32⟩ t frozen | o => o).modify 2 fun | .cells _ t frozen => .cells ⟨e64⟩ t frozen | o => o).modify 0 fun | .cells _ t frozen => .cells ⟨e10⟩ t frozen | o => o).modify 5 fun | .cells _ t frozen => .cells #[.iface 188 (.pointer (some ⟨N, 0, none⟩))] t frozen | o => o).modify 4 fun | .cells _ t frozen => .cells #[.iface 188 (.pointer (some ⟨N + 1, 0, none⟩))] t frozen | o => o).modify 6 fun | .cells _ t frozen => .cells ⟨Go.Pinned.utf8FirstZ.map fun (n : Nat) => Value.int .u8 (n : Int)⟩ t frozen | o => o).modify 7 fun | .cells _ t frozen => .cells ⟨([128, 191, 160, 191, 128, 159, 144, 191, 128, 143] ++ List.replicate 22 0 : List Int).map fun (n : Int) => Value.int .u8 n⟩ t frozen | o => o) }
theorem laid_met (os : Os) : laidMet Tryz.prog Rows.targetScriptUptoRow.laid ((laidWorld os).forCall (fun _ _ => 0) ⟨#[], #[(.agg #[.int .i64 0, .int .i64 0] : Value), (.slice none 0 0 : Value)], []⟩).memory :=
  laidMet_of_run' 8 (by kernel_rfl) (by kernel_rfl)
theorem reads (os : Os) {H : Type} (enc : TypeId × Value → H) : ∃ places, DataW.whole enc Tryz.prog ((laidWorld os).forCall (fun _ _ => 0) ⟨#[], #[(.agg #[.int .i64 0, .int .i64 0] : Value), (.slice none 0 0 : Value)], []⟩).memory Tryz.f8.params.toList Rows.targetScriptSpec.vars false [(.agg #[.int .i64 0, .int .i64 0] : Value), (.slice none 0 0 : Value)] 8 = some ([.agg [.lit (.int .i64 0), .lit (.int .i64 0)], .nil], [], places) :=
  ⟨[], by kernel_rfl⟩
set_option maxRecDepth 100000 in
theorem lifted (os : Os) (started : os.Started) (H : Type) (enc : TypeId × Value → H) (F : Stop.Interp) :
    ReturnsInHanded {} Tryz.checked os 8 .any ((Rows.OpenSpec.upto Rows.targetScriptSpec).preRow enc Tryz.prog Tryz.f8 Rows.targetScriptUptoRow.domain false Rows.targetScriptUptoRow.laid) (((Rows.OpenSpec.upto Rows.targetScriptSpec).at F).post enc Tryz.prog Tryz.f8 false true false false) := by
  obtain ⟨places, hx⟩ := reads os enc
  refine returnsInHanded_of_row (C := Tryz.checked) (s := (Rows.OpenSpec.upto Rows.targetScriptSpec)) own started (by kernel_rfl) Tryz.func8
    (witness_row_atRef (enc := enc) (C := Tryz.checked) false (laidWorld os) #[(.agg #[.int .i64 0, .int .i64 0] : Value), (.slice none 0 0 : Value)] rfl (by kernel_rfl) (by kernel_rfl) (by kernel_rfl)
      (OpenSpec.preRow_of_cond 8 hx (by kernel_rfl) (fun k hk => by cases hk; kernel_rfl) (by kernel_rfl) (laid_met os))) ?_
  intro W base args ds gs before hval hW _ hcond _ hL _ _
  exact contract H enc W base args ds gs before hval hW hL (hcond _ rfl)
theorem over : Rows.TargetScriptUptoSaid :=
  OpenClaim.holds_of_cond 8 Tryz.f8 rfl rfl rfl rfl rfl rfl rfl ⟨rfl, rfl, rfl, rfl, rfl⟩ rfl rfl rfl rfl rfl (by kernel_rfl) Tryz.func8 (by kernel_rfl)
    (of_decide_eq_true (by kernel_rfl)) (by unfold Func.isWrapper; first | (rw [if_pos (by decide +kernel)]; kernel_rfl) | (rw [if_neg (by decide +kernel)]; exact ⟨rfl, rfl⟩))
    (fun os started H enc _ F => by rw [OpenClaim.pre_eq_preRow]; exact lifted os started H enc F)
theorem plain (f : FuncId) (fn : Func) (hf : Tryz.pinned.checked.prog.funcNamed "lifeline/lifelinelaw20.TargetScript" = some f) (hfn : Tryz.pinned.checked.prog.funcs[f]? = some fn) :
    true = Tryz.pinned.checked.prog.looks [] ∧ ∀ (j : Nat) t, fn.params[j]? = some t → Tryz.pinned.checked.prog.wantsStandIn t = false := by
  obtain rfl : f = 8 := Option.some.inj ((show Tryz.prog.funcNamed "lifeline/lifelinelaw20.TargetScript" = some 8 by kernel_rfl).symm.trans hf) |>.symm
  obtain rfl : fn = Tryz.f8 := (Option.some.inj (Tryz.func8.symm.trans hfn)).symm
  refine ⟨by kernel_rfl, fun j t ht => ?_⟩
  rw [Tryz.params8] at ht
  have hall : ∀ t ∈ [28, 61], Tryz.prog.wantsStandIn t = false := by
    intro t ht
    simp only [List.mem_cons, List.mem_nil_iff, or_false] at ht
    rcases ht with rfl | rfl <;> kernel_rfl
  exact hall t (by simpa using Array.mem_of_getElem? ht)
theorem proved : Rows.TargetScriptUptoCardSaid :=
  Claim7.holds_tied_plain_at .later [] _ _ _ _ over (fun _ h => by cases h) (by kernel_rfl) (fun _ h => by cases h) targetScriptUpto_row_tie rfl ⟨rfl, rfl⟩ (by kernel_rfl) rfl plain (by kernel_rfl)
#print axioms proved
end Go.Proofs.YtiapjjgmmiifmaaGreatDoor.targetScript
