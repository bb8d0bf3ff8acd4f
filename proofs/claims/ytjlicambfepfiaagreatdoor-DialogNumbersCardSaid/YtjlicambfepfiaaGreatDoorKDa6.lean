/- The law DialogNumbers, as its statement says it: for every input; the listed variables hold what the program's text lays. -/
import Derived.Test.YtjlicambfepfiaaGreatDoorKDa5
import Derived.Test.YtjlicambfepfiaaGreatDoorProg
import Derived.WalkKit
import Derived.LaidEql
import Derived.Stop.Asserts
import Derived.RowKitTokens
import Derived.KernelRfl
import Derived.Test.YtjlicambfepfiaaGreatDoorCards
import Derived.Test.YtjlicambfepfiaaGreatDoorTie
import Derived.ProofKit
import Derived.OpenShut
import Derived.JoinedCond
import Derived.ChangeOld
import Derived.Deep.DeepHandedRow
import Derived.Deep.DeepWitnessRowRef
set_option linter.unusedVariables false
set_option linter.unusedSimpArgs false
namespace Go.Proofs.YtjlicambfepfiaaGreatDoor.Ab
open Go Go.RowKit
set_option maxHeartbeats 4000000
set_option maxRecDepth 100000
theorem w_line2 {w0 : World} {Q : AQ} {fr : Fr} {m : Mem} {S : List UInt8} (t3 : fr 3 = .string ⟨⟨S⟩⟩) (hl : S.length ≤ 4398046511104)
    (hq : ∀ fr', fr' 2 = .string ⟨⟨S ++ [59, 10]⟩⟩ → Q .ret fr' m) : AbW Tryz.prog w0 rc39_2 Q fr m := by
  have c1 := cat2 (a := S) (b := [59, 10]) (by simp; omega)
  simp -implicitDefEqProofs (disch := first | assumption | (simp only [wnA]; done) | (simp only [wnA]; omega) | omega | (simp only [List.length_append, List.length_cons, List.length_nil]; omega) | fail) [rc39_2, wkA, retV, stabOk, dC, ev, fillD, pickCells, putAt, bnd, slD, List.getElem?_cons_zero, List.getElem?_cons_succ, dR.eq_20, Mem.cell, Mem.row, wmA, t3, c1]
  exact hq _ (by simp)

theorem w_body {w0 : World} {Q : AQ} {fr : Fr} {m : Mem} {b : Nat} {d : DS} {av : Value} {S : List UInt8} (ht : Ten w0) (hv : SlR m 2 av (d.arms.flatMap Arm.cells) d.arms.length) (hvb : ∀ b, blk av = some b → b < m.next) (hw : wD d ≤ 1099511627776) (hn : -9223372036854775808 ≤ d.n ∧ d.n ≤ 9223372036854775807)
    (hg : m.get b = .own (dsC d av) 29) (hb : b < m.next) (t1 : fr 1 = .pointer (some ⟨b, 0, none⟩)) (t3 : fr 3 = .string ⟨⟨S⟩⟩) (hS : S.length ≤ 1099511627776)
    (hq : ∀ fr' m', Old m m' → fr' 2 = .string ⟨⟨S ++ wordsL.getD (kN d.kd) [] ++ restL d ++ [59, 10]⟩⟩ → Q .ret fr' m') : AbW Tryz.prog w0 rc39_3 Q fr m := by
  have fin : ∀ fr' m' R, Old m m' → fr' 3 = .string ⟨⟨R⟩⟩ → R = S ++ wordsL.getD (kN d.kd) [] ++ restL d → R.length ≤ 4398046511104 → AbW Tryz.prog w0 rc39_2 Q fr' m' := by
    intro fr' m' R o e hR hl
    subst hR
    exact w_line2 e hl fun fr'' e2 => hq fr'' m' o e2
  obtain ⟨lb, kd, tx, arms, n, to, pl⟩ := d
  have hg : m.get b = .own [.string ⟨⟨lb⟩⟩, .int .i64 kd, .string ⟨⟨tx⟩⟩, av, .int .i64 n, .string ⟨⟨to⟩⟩, .int .i64 pl] 29 := hg
  have hkk : (if 0 < if 5 < kd then 5 else kd then if 5 < kd then 5 else kd else 0) = (kN kd : Int) := by
    by_cases h5 : 5 < kd
    · simp only [h5, if_true, kN, if_neg (show ¬ kd < 0 by omega), gt_iff_lt]
      rfl
    · simp only [h5, if_false, kN, gt_iff_lt]
      by_cases h0 : kd < 0
      · rw [if_neg (by omega), if_pos h0]; rfl
      · rw [if_neg h0]
        split <;> omega
  have hle := kN_le kd
  simp -implicitDefEqProofs (disch := first | assumption | (simp only [wnA]; done) | (simp only [wnA]; omega) | omega | fail) [rc39_3, wkA, retV, stabOk, dC, ev, fillD, pickCells, putAt, bnd, slD, List.getElem?_cons_zero, List.getElem?_cons_succ, dR.eq_20, Mem.cell, Mem.row, wmA, t1, hg]
  rw [hkk]
  refine c_words ?_
  obtain ⟨m1, hm1⟩ : ∃ m1, m.push (.own (wordsL.map fun w => .string ⟨⟨w⟩⟩) 9) = m1 := ⟨_, rfl⟩
  have o1 : Old m m1 := by subst hm1; exact (Old.refl m).push _
  have gw : m1.get m.next = .own (wordsL.map fun w => .string ⟨⟨w⟩⟩) 9 := by subst hm1; rw [Mem.push_same]
  have g1 := (o1.2 b hb).trans hg
  have hr : restL ⟨lb, kd, tx, arms, n, to, pl⟩ = restX (kN kd) ⟨lb, kd, tx, arms, n, to, pl⟩ := rfl
  simp only [hr] at fin
  clear hkk hr hq
  rw [hm1]
  have hix : sidx 1 (.slice (some ⟨m.next, 0, none⟩) 6 1) (.int .i64 ((kN kd : Nat) : Int)) = some (.pointer (some ⟨m.next, 0 + kN kd * 1, none⟩)) := sidx_at (by omega)
  simp only [Nat.zero_add, Nat.mul_one] at hix
  have hwl : kN kd < wordsL.length := by show kN kd < 6; omega
  have hwj : (wordsL.map fun w => (.string ⟨⟨w⟩⟩ : Value))[kN kd]? = some (.string ⟨⟨wordsL.getD (kN kd) []⟩⟩) := by simp [List.getElem?_map, List.getElem?_eq_getElem hwl, List.getD]
  have hwl6 : (wordsL.getD (kN kd) []).length ≤ 6 := by
    rcases (show kN kd = 0 ∨ kN kd = 1 ∨ kN kd = 2 ∨ kN kd = 3 ∨ kN kd = 4 ∨ kN kd = 5 by omega) with e | e | e | e | e | e <;> rw [e] <;> decide
  generalize wordsL.getD (kN kd) [] = W at *
  generalize (wordsL.map fun w => (.string ⟨⟨w⟩⟩ : Value)) = ws at *
  have c1 := cat2 (a := S) (b := W) (by omega)
  have hSW : (S ++ W).length ≤ 1099511627782 := by simp; omega
  have hv1 : SlR m1 2 av (arms.flatMap Arm.cells) arms.length := hv.keep fun b h => o1.2 b (hvb b h)
  have hvb1 : ∀ b, blk av = some b → b < m1.next := fun b h => Nat.lt_of_lt_of_le (hvb b h) o1.1
  have hb1 : b < m1.next := Nat.lt_of_lt_of_le hb o1.1
  simp only [wD] at hw
  have lj := joinA_len arms
  have ln := num_len10 (i := n) hn
  have lq := qL_len tx
  have hal := wArms_len arms
  generalize S ++ W = R at *
  generalize kN kd = kk at *
  simp -implicitDefEqProofs (disch := first | assumption | (simp only [wnA]; done) | (simp only [wnA]; omega) | omega | (simp only [List.length_append, List.length_cons, List.length_nil]; omega) | fail) [wkA, retV, stabOk, dC, ev, fillD, pickCells, putAt, bnd, slD, List.getElem?_cons_zero, List.getElem?_cons_succ, dR.eq_20, Mem.cell, Mem.row, wmA, t3, hix, gw, hwj, getL hwj, c1, t1]
  rcases (show kk = 0 ∨ kk = 1 ∨ kk = 2 ∨ kk = 3 ∨ kk = 4 ∨ kk = 5 by omega) with rfl | rfl | rfl | rfl | rfl | rfl
  · simp -implicitDefEqProofs (disch := first | assumption | (simp only [wnA]; done) | (simp only [wnA]; omega) | omega | (simp only [List.length_append, List.length_cons, List.length_nil]; omega) | fail) [wkA, retV, stabOk, dC, ev, fillD, pickCells, putAt, bnd, slD, List.getElem?_cons_zero, List.getElem?_cons_succ, dR.eq_20, Mem.cell, Mem.row, wmA, t1, g1]
    refine c_Quote (by show tx.length ≤ 1099511627776; omega) fun m2 o2 => ?_
    rw [quoteV_eq]
    simp -implicitDefEqProofs (disch := first | assumption | (simp only [wnA]; done) | (simp only [wnA]; omega) | omega | (simp only [List.length_append, List.length_cons, List.length_nil]; omega) | fail) [wkA, retV, stabOk, dC, ev, fillD, pickCells, putAt, bnd, slD, List.getElem?_cons_zero, List.getElem?_cons_succ, dR.eq_20, Mem.cell, Mem.row, wmA, cat2]
    exact fin _ m2 (R ++ ([32] ++ qL tx)) (o1.trans o2) (by simp) (by simp [restX]) (by simp; omega)
  · simp -implicitDefEqProofs (disch := first | assumption | (simp only [wnA]; done) | (simp only [wnA]; omega) | omega | (simp only [List.length_append, List.length_cons, List.length_nil]; omega) | fail) [wkA, retV, stabOk, dC, ev, fillD, pickCells, putAt, bnd, slD, List.getElem?_cons_zero, List.getElem?_cons_succ, dR.eq_20, Mem.cell, Mem.row, wmA, t1, g1, hv1.slen]
    refine w_arms (av := av) (l := arms) hv1 hvb1 (by omega) (by simp) (by simp) (by simp) (by simp) fun fr' m2 ob o2 sm so hob e7 => ?_
    have e1 := sm 1 (by simp)
    have e3 := sm 3 (by simp)
    simp [t1] at e1 e3
    have g2 := (o2.2 b hb1).trans g1
    have hJ := totA_le arms
    simp -implicitDefEqProofs (disch := first | assumption | (simp only [wnA]; done) | (simp only [wnA]; omega) | omega | (simp only [List.length_append, List.length_cons, List.length_nil]; omega) | fail) [wkA, retV, stabOk, dC, ev, fillD, pickCells, putAt, bnd, slD, List.getElem?_cons_zero, List.getElem?_cons_succ, dR.eq_20, Mem.cell, Mem.row, wmA, e1, e3, e7, g2]
    refine c_JoinA (xs := arms.map armB) (sep := ⟨⟨[44, 32]⟩⟩) (by rw [List.length_map]; exact so.read) (fun x h => by rw [blk_slV] at h; subst h; exact so.lt) (by decide) (by show (2 + 1) * _ + _ ≤ _; omega) fun m3 o3 => ?_
    have hjj : joinL (ByteArray.mk ⟨[44, 32]⟩).data.toList (arms.map armB) = joinA arms := rfl
    rw [hjj]
    have g3 := (o3.2 b (Nat.lt_of_lt_of_le hb1 o2.1)).trans g2
    simp -implicitDefEqProofs (disch := first | assumption | (simp only [wnA]; done) | (simp only [wnA]; omega) | omega | (simp only [List.length_append, List.length_cons, List.length_nil]; omega) | fail) [wkA, retV, stabOk, dC, ev, fillD, pickCells, putAt, bnd, slD, List.getElem?_cons_zero, List.getElem?_cons_succ, dR.eq_20, Mem.cell, Mem.row, wmA, e1, e3, g3, cat2]
    refine c_Itoa ht hn ?_
    simp -implicitDefEqProofs (disch := first | assumption | (simp only [wnA]; done) | (simp only [wnA]; omega) | omega | (simp only [List.length_append, List.length_cons, List.length_nil]; omega) | fail) [wkA, retV, stabOk, dC, ev, fillD, pickCells, putAt, bnd, slD, List.getElem?_cons_zero, List.getElem?_cons_succ, dR.eq_20, Mem.cell, Mem.row, wmA, e1, e3, g3, cat2]
    exact fin _ m3 (R ++ restX 1 ⟨lb, kd, tx, arms, n, to, pl⟩) ((o1.trans o2).trans o3) (by simp [restX, goS, afterL]) rfl (by simp [restX, goS, afterL]; omega)
  · simp -implicitDefEqProofs (disch := first | assumption | (simp only [wnA]; done) | (simp only [wnA]; omega) | omega | (simp only [List.length_append, List.length_cons, List.length_nil]; omega) | fail) [wkA, retV, stabOk, dC, ev, fillD, pickCells, putAt, bnd, slD, List.getElem?_cons_zero, List.getElem?_cons_succ, dR.eq_20, Mem.cell, Mem.row, wmA, t1, g1, cat2]
    exact fin _ m1 (R ++ ([32] ++ to)) o1 (by simp) (by simp [restX]) (by simp; omega)
  · simp -implicitDefEqProofs (disch := first | assumption | (simp only [wnA]; done) | (simp only [wnA]; omega) | omega | (simp only [List.length_append, List.length_cons, List.length_nil]; omega) | fail) [wkA, retV, stabOk, dC, ev, fillD, pickCells, putAt, bnd, slD, List.getElem?_cons_zero, List.getElem?_cons_succ, dR.eq_20, Mem.cell, Mem.row, wmA, t1, g1]
    refine c_Itoa ht hn ?_
    simp -implicitDefEqProofs (disch := first | assumption | (simp only [wnA]; done) | (simp only [wnA]; omega) | omega | (simp only [List.length_append, List.length_cons, List.length_nil]; omega) | fail) [wkA, retV, stabOk, dC, ev, fillD, pickCells, putAt, bnd, slD, List.getElem?_cons_zero, List.getElem?_cons_succ, dR.eq_20, Mem.cell, Mem.row, wmA, t1, g1, cat2]
    exact fin _ m1 (R ++ ([32] ++ numS 10 n ++ [32, 103, 111, 32] ++ to)) o1 (by simp) (by simp [restX, goS]) (by simp; omega)
  · simp -implicitDefEqProofs (disch := first | assumption | (simp only [wnA]; done) | (simp only [wnA]; omega) | omega | (simp only [List.length_append, List.length_cons, List.length_nil]; omega) | fail) [wkA, retV, stabOk, dC, ev, fillD, pickCells, putAt, bnd, slD, List.getElem?_cons_zero, List.getElem?_cons_succ, dR.eq_20, Mem.cell, Mem.row, wmA, t1, g1]
    exact fin _ m1 R o1 (by simp) (by simp [restX]) (by omega)
  · simp -implicitDefEqProofs (disch := first | assumption | (simp only [wnA]; done) | (simp only [wnA]; omega) | omega | (simp only [List.length_append, List.length_cons, List.length_nil]; omega) | fail) [wkA, retV, stabOk, dC, ev, fillD, pickCells, putAt, bnd, slD, List.getElem?_cons_zero, List.getElem?_cons_succ, dR.eq_20, Mem.cell, Mem.row, wmA, t1, g1]
    exact fin _ m1 R o1 (by simp) (by simp [restX]) (by omega)
end Go.Proofs.YtjlicambfepfiaaGreatDoor.Ab

set_option linter.unusedVariables false
set_option linter.unusedSimpArgs false
namespace Go.Proofs.YtjlicambfepfiaaGreatDoor.Ab
open Go Go.RowKit
set_option maxHeartbeats 4000000
set_option maxRecDepth 100000

/-- A step, and the value of its patterns. -/
abbrev DV := DS × Value
def vC (x : DV) : List Value := dsC x.1 x.2
theorem vC_len (x : DV) : (vC x).length = 7 := rfl
/-- The patterns of a step lie. -/
structure ArmV (m : Mem) (x : DV) : Prop where
  sl : SlR m 2 x.2 (x.1.arms.flatMap Arm.cells) x.1.arms.length
  bl : ∀ b, blk x.2 = some b → b < m.next
theorem ArmV.old {m m' : Mem} {x : DV} (h : ArmV m x) (o : Old m m') : ArmV m' x := ⟨h.sl.keep fun b hb => o.2 b (h.bl b hb), fun b hb => Nat.lt_of_lt_of_le (h.bl b hb) o.1⟩
theorem SlR.one {m : Mem} {sz n : Nat} {v : Value} {cs : List Value} (h : SlR m sz v cs n) : oneC v = true ∧ cellsV v = [v] := by
  rcases h.2 with ⟨-, h | h⟩ | ⟨i, o, L, h, -⟩ <;> rw [h] <;> exact ⟨rfl, rfl⟩
/-- Steps lie. -/
structure DsV (m : Mem) (v : Value) (l : List DV) : Prop where
  sl : SlR m 7 v (l.flatMap vC) l.length
  bl : ∀ b, blk v = some b → b < m.next
  ar : ∀ x ∈ l, ArmV m x
theorem DsV.old {m m' : Mem} {v : Value} {l : List DV} (h : DsV m v l) (o : Old m m') : DsV m' v l := ⟨h.sl.keep fun b hb => o.2 b (h.bl b hb), fun b hb => Nat.lt_of_lt_of_le (h.bl b hb) o.1, fun x hx => (h.ar x hx).old o⟩
def wT (l : List DV) : Nat := (l.map fun x => wD x.1).sum
theorem wT_take (l : List DV) (j : Nat) : wT (l.take j) ≤ wT l := by
  induction l generalizing j with
  | nil => simp [wT]
  | cons x xs ih =>
    cases j with
    | zero => simp [wT]
    | succ j => have := ih j; simp only [wT, List.take_succ_cons, List.map_cons, List.sum_cons] at this ⊢; omega
theorem wT_succ {l : List DV} {j : Nat} (h : j < l.length) : wT (l.take (j + 1)) = wT (l.take j) + wD l[j].1 := by
  unfold wT
  rw [List.take_succ_eq_append_getElem h, List.map_append, List.sum_append]; simp
theorem wT_len (l : List DV) : 128 * l.length ≤ wT l := by
  induction l with
  | nil => simp [wT]
  | cons x l ih => simp only [wT, List.map_cons, List.sum_cons, List.length_cons, wD] at ih ⊢; omega
def NOk (d : DS) : Prop := -9223372036854775808 ≤ d.n ∧ d.n ≤ 9223372036854775807
theorem lineD_len {d : DS} (hn : NOk d) : (lineD d).length ≤ wD d := by
  have hw : (wordsL.getD (kN d.kd) []).length ≤ 6 := by
    have := kN_le d.kd
    rcases (show kN d.kd = 0 ∨ kN d.kd = 1 ∨ kN d.kd = 2 ∨ kN d.kd = 3 ∨ kN d.kd = 4 ∨ kN d.kd = 5 by omega) with e | e | e | e | e | e <;> rw [e] <;> decide
  have lj := joinA_len d.arms
  have ln := num_len10 hn
  have lq := qL_len d.tx
  have l1 : (labL d).length ≤ d.lb.length + 2 := by unfold labL; split <;> simp
  have l2 : (restL d).length ≤ 2 * d.tx.length + d.to.length + wArms d.arms + 48 := by
    unfold restL restX
    split <;> simp [goS, afterL] <;> omega
  simp only [lineD, List.length_append, List.length_cons, List.length_nil, wD]
  omega
def textL (l : List DV) : List UInt8 := l.flatMap fun x => lineD x.1
theorem textL_len {l : List DV} (h : ∀ x ∈ l, NOk x.1) : (textL l).length ≤ wT l := by
  induction l with
  | nil => simp [textL, wT]
  | cons x xs ih =>
    have h1 := lineD_len (h x (by simp))
    have h2 := ih fun e he => h e (by simp [he])
    simp only [textL, List.flatMap_cons, List.length_append, wT, List.map_cons, List.sum_cons] at h2 ⊢
    omega

theorem c_stepT {w0 : World} {m : Mem} {x : DV} {Q : Value → Mem → Prop} (ht : Ten w0) (ha : ArmV m x) (hw : wD x.1 ≤ 1099511627776) (hn : NOk x.1) (hq : ∀ m', Old m m' → Q (.string ⟨⟨lineD x.1⟩⟩) m') :
    AbC Tryz.prog w0 39 [.agg ⟨vC x⟩] m Q := by
  refine AbC_fn ok39 (by simp) ?_
  obtain ⟨⟨lb, kd, tx, arms, n, to, pl⟩, av⟩ := x
  have e : vC (⟨lb, kd, tx, arms, n, to, pl⟩, av) = [.string ⟨⟨lb⟩⟩, .int .i64 kd, .string ⟨⟨tx⟩⟩, av, .int .i64 n, .string ⟨⟨to⟩⟩, .int .i64 pl] := rfl
  rw [e]
  have hone := ha.sl.one
  obtain ⟨m1, hm1⟩ : ∃ m1, m.push (.own [.string ⟨⟨lb⟩⟩, .int .i64 kd, .string ⟨⟨tx⟩⟩, av, .int .i64 n, .string ⟨⟨to⟩⟩, .int .i64 pl] 29) = m1 := ⟨_, rfl⟩
  have o1 : Old m m1 := by subst hm1; exact (Old.refl m).push _
  have g1 : m1.get m.next = .own [.string ⟨⟨lb⟩⟩, .int .i64 kd, .string ⟨⟨tx⟩⟩, av, .int .i64 n, .string ⟨⟨to⟩⟩, .int .i64 pl] 29 := by subst hm1; rw [Mem.push_same]
  have n1 : m.next < m1.next := by subst hm1; simp
  have hw' := hw
  simp only [wD] at hw
  have go : ∀ (fr : Fr) (S : List UInt8), fr 1 = .pointer (some ⟨m.next, 0, none⟩) → fr 3 = .string ⟨⟨S⟩⟩ → S = labL ⟨lb, kd, tx, arms, n, to, pl⟩ → AbW Tryz.prog w0 rc39_3 (bodyA [.mv (.tmp 2)] Q) fr m1 := by
    intro fr S e1 e3 hS
    have hSl : S.length ≤ lb.length + 2 := by rw [hS]; unfold labL; split <;> simp
    refine w_body (d := ⟨lb, kd, tx, arms, n, to, pl⟩) (av := av) (S := S) (b := m.next) ht (ha.old o1).sl (ha.old o1).bl hw' hn g1 n1 e1 e3 (by omega) fun fr' m' o e2 => ?_
    have := hq m' (o1.trans o)
    simp only [lineD, ← hS] at this
    simp -implicitDefEqProofs (disch := first | assumption | (simp only [wnA]; done) | (simp only [wnA]; omega) | omega | fail) [wkA, retV, stabOk, dC, ev, fillD, pickCells, putAt, bnd, slD, List.getElem?_cons_zero, List.getElem?_cons_succ, dR.eq_20, Mem.cell, Mem.row, wmA, e2]
    simpa using this
  by_cases hlb : lb = []
  · subst hlb
    simp -implicitDefEqProofs (disch := first | assumption | (simp only [wnA]; done) | (simp only [wnA]; omega) | omega | fail) [rc39, ro39, wkA, retV, stabOk, dC, ev, fillD, pickCells, putAt, bnd, slD, List.getElem?_cons_zero, List.getElem?_cons_succ, dR.eq_20, Mem.cell, Mem.row, wmA, hm1, g1]
    exact go _ [] (by simp) (by simp) rfl
  · have c1 := cat2 (a := lb) (b := [58, 32]) (by simp; omega)
    have hb0 : lb.isEmpty = false := by cases lb <;> simp at hlb ⊢
    simp -implicitDefEqProofs (disch := first | assumption | (simp only [wnA]; done) | (simp only [wnA]; omega) | omega | (simp only [List.length_append, List.length_cons, List.length_nil]; omega) | fail) [rc39, ro39, wkA, retV, stabOk, dC, ev, fillD, pickCells, putAt, bnd, slD, List.getElem?_cons_zero, List.getElem?_cons_succ, dR.eq_20, Mem.cell, Mem.row, wmA, hm1, g1, hlb, hb0, c1]
    exact go _ (lb ++ [58, 32]) (by simp) (by simp) (by simp [labL, hlb])

theorem c_DText {w0 : World} {m : Mem} {v : Value} {l : List DV} {Q : Value → Mem → Prop} (ht : Ten w0) (hv : DsV m v l) (hl : wT l ≤ 1099511627776) (hn : ∀ x ∈ l, NOk x.1)
    (hq : ∀ m', Old m m' → Q (.string ⟨⟨textL l⟩⟩) m') : AbC Tryz.prog w0 21 [v] m Q := by
  refine AbC_fn ok21 (by simp) ?_
  have hll := wT_len l
  simp -implicitDefEqProofs (disch := first | assumption | (simp only [wnA]; done) | (simp only [wnA]; omega) | omega | fail) [rc21, ro21, wkA, retV, stabOk, dC, ev, fillD, pickCells, putAt, bnd, slD, List.getElem?_cons_zero, List.getElem?_cons_succ, dR.eq_20, Mem.cell, Mem.row, wmA, hv.sl.slen]
  refine LoopW_of (fun k ts m' => ∃ j, j + k = l.length ∧ ts 3 = .pointer (some ⟨m.next, 0, none⟩) ∧ ts 6 = v ∧ ts 7 = .int .i64 (l.length : Nat) ∧ ts 8 = .int .i64 (j : Nat) ∧ Bld m m' m.next (textL (l.take j))) l.length ?_ ?_
  · exact ⟨0, by omega, by simp, by simp [frA_at], by simp, by simp, Bld.new (Old.refl m)⟩
  · rintro k ts m1 K ⟨j, hj, t3, t6, t7, t8, hb⟩ hK
    have hlen := textL_len (l := l.take j) fun e h => hn e (List.mem_of_mem_take h)
    have htk := wT_take l j
    simp -implicitDefEqProofs (disch := first | assumption | (simp only [wnA]; done) | (simp only [wnA]; omega) | omega | fail) [rc21_1, wkA, retV, stabOk, dC, ev, fillD, pickCells, putAt, bnd, slD, List.getElem?_cons_zero, List.getElem?_cons_succ, dR.eq_20, Mem.cell, Mem.row, wmA, t7, t8]
    by_cases hjl : j < l.length
    · have hv1 := hv.old hb.1
      obtain ⟨bi, bo, L, hvv, hL, hLl, hLt, -⟩ := hv1.sl.at hjl
      rw [flat_at vC_len l (List.getElem?_eq_getElem hjl)] at hLt
      have hx1 := wT_succ hjl
      have hx2 := wT_take l (j + 1)
      obtain ⟨x, hx⟩ : ∃ x, l[j] = x := ⟨_, rfl⟩
      have hxm : x ∈ l := by rw [← hx]; exact List.getElem_mem hjl
      have hnx : textL (l.take (j + 1)) = textL (l.take j) ++ lineD x.1 := by
        unfold textL
        rw [List.take_succ_eq_append_getElem hjl, List.flatMap_append, hx]; simp
      have hax := hv1.ar x hxm
      have hll2 := lineD_len (hn x hxm)
      rw [hx] at hLt hx1
      rw [hvv] at t6
      have hle : bo + j * 7 + 7 ≤ L.length := by omega
      have hjw : IntKind.i64.wrap ((j : Int) + 1) = ((j + 1 : Nat) : Int) := by rw [w64 (by omega)]; omega
      have hone := hax.sl.one
      simp -implicitDefEqProofs (disch := first | assumption | (simp only [wnA]; done) | (simp only [wnA]; omega) | omega | fail) [hjl, rc21_0, wkA, retV, stabOk, dC, ev, fillD, pickCells, putAt, bnd, slD, List.getElem?_cons_zero, List.getElem?_cons_succ, dR.eq_20, Mem.cell, Mem.row, wmA, t3, t6, t7, t8, sidx_at, hL, hLt, hle]
      obtain ⟨M, hM⟩ : ∃ M, (m1.push (.own [.string ⟨#[]⟩, .int .i64 0, .string ⟨#[]⟩, .slice none 0 0, .int .i64 0, .string ⟨#[]⟩, .int .i64 0] 29)).set m1.next (.own (putAt [.string ⟨#[]⟩, .int .i64 0, .string ⟨#[]⟩, .slice none 0 0, .int .i64 0, .string ⟨#[]⟩, .int .i64 0] 0 (vC x)) 29) = M := ⟨_, rfl⟩
      refine SK_stm (i := m1.next) (o := 0) (vs := vC x) (cs := [.string ⟨#[]⟩, .int .i64 0, .string ⟨#[]⟩, .slice none 0 0, .int .i64 0, .string ⟨#[]⟩, .int .i64 0]) (e := 29) (M := M) (by simp [wkA, retV, stabOk, dC, ev, fillD, pickCells, putAt, bnd, slD, List.getElem?_cons_zero, List.getElem?_cons_succ, dR.eq_20]) (by simp -implicitDefEqProofs (disch := first | assumption | (simp only [wnA]; done) | (simp only [wnA]; omega) | omega | fail) [wkA, retV, stabOk, dC, ev, fillD, pickCells, putAt, bnd, slD, List.getElem?_cons_zero, List.getElem?_cons_succ, dR.eq_20, Mem.cell, Mem.row, wmA]) (by simp [wkA, retV, stabOk, dC, ev, fillD, pickCells, putAt, bnd, slD, List.getElem?_cons_zero, List.getElem?_cons_succ, dR.eq_20]) (by simp) rfl (by simp only [vC, dsC, List.all_cons, List.all_nil, hone.1]; rfl) hM ?_
      have oM : Old m1 M := by subst hM; exact ((Old.refl m1).push _).set (Nat.le_refl _) _
      have gM : M.get m1.next = .own (vC x) 29 := by subst hM; rw [Mem.set_same]; rfl
      have hvl : (vC x).length = 7 := rfl
      have htk7 : (vC x).take 7 = vC x := rfl
      clear hM
      simp -implicitDefEqProofs (disch := first | assumption | (simp only [wnA]; done) | (simp only [wnA]; omega) | omega | fail) [wkA, retV, stabOk, dC, ev, fillD, pickCells, putAt, bnd, slD, List.getElem?_cons_zero, List.getElem?_cons_succ, dR.eq_20, Mem.cell, Mem.row, wmA, gM, hvl, htk7]
      refine c_stepT ht (hax.old oM) (by omega) (hn x hxm) fun m2 o2 => ?_
      have hb2 := (hb.keep oM).keep o2
      simp -implicitDefEqProofs (disch := first | assumption | (simp only [wnA]; done) | (simp only [wnA]; omega) | omega | fail) [wkA, retV, stabOk, dC, ev, fillD, pickCells, putAt, bnd, slD, List.getElem?_cons_zero, List.getElem?_cons_succ, dR.eq_20, Mem.cell, Mem.row, wmA, t3]
      refine c_WriteString hb2 ?_ fun m3 hb3 => ?_
      · show _ + (lineD x.1).length ≤ _
        omega
      · simp -implicitDefEqProofs (disch := first | assumption | (simp only [wnA]; done) | (simp only [wnA]; omega) | omega | fail) [wkA, retV, stabOk, dC, ev, fillD, pickCells, putAt, bnd, slD, List.getElem?_cons_zero, List.getElem?_cons_succ, dR.eq_20, Mem.cell, Mem.row, wmA, t8, hjw]
        refine hK (k - 1) _ _ (by omega) ⟨j + 1, by omega, by simp [t3], by simp [t6, hvv], by simp [t7], by simp, ?_⟩
        rw [hnx]
        exact hb3
    · have hjj : j = l.length := by omega
      subst hjj
      rw [List.take_length] at hb hlen
      simp -implicitDefEqProofs (disch := first | assumption | (simp only [wnA]; done) | (simp only [wnA]; omega) | omega | fail) [hjl, rc21_2, wkA, retV, stabOk, dC, ev, fillD, pickCells, putAt, bnd, slD, List.getElem?_cons_zero, List.getElem?_cons_succ, dR.eq_20, Mem.cell, Mem.row, wmA, t3]
      refine c_BString hb (by omega) fun m2 o2 => ?_
      simp -implicitDefEqProofs (disch := first | assumption | (simp only [wnA]; done) | (simp only [wnA]; omega) | omega | fail) [wkA, retV, stabOk, dC, ev, fillD, pickCells, putAt, bnd, slD, List.getElem?_cons_zero, List.getElem?_cons_succ, dR.eq_20, Mem.cell, Mem.row, wmA]
      exact hq m2 o2
end Go.Proofs.YtjlicambfepfiaaGreatDoor.Ab

set_option linter.unusedVariables false
set_option linter.unusedSimpArgs false
namespace Go.Proofs.YtjlicambfepfiaaGreatDoor.Ab
open Go Go.RowKit
set_option maxHeartbeats 1000000
set_option maxRecDepth 100000

def WordOk (t : List UInt8) : Prop := (∃ c w, t = c :: w ∧ isLet c = true) ∧ wordN false t = t.length
theorem cx_wd {t : List UInt8} {x : UInt8} {r : List UInt8} (h : WordOk t) (hx : wq true x = false) : Cx (t ++ x :: r) [⟨1, t, 0⟩] (x :: r) := by
  obtain ⟨⟨c, w, rfl, hc⟩, hw⟩ := h
  exact cx_word hc hw hx
theorem cx_sg {c : UInt8} {r : List UInt8} (h : c = 58 ∨ c = 44 ∨ c = 59) : Cx (c :: r) [⟨4, [c], 0⟩] r := by
  rcases h with rfl | rfl | rfl
  · exact cx_tok (l := []) (r := r) rfl (by decide) rfl
  · exact cx_tok (l := []) (r := r) rfl (by decide) rfl
  · exact cx_tok (l := []) (r := r) rfl (by decide) rfl
theorem cx_to {l l' r : List UInt8} {ts : List Tk} (h : Cx l ts r) (e : l' = l) : Cx l' ts r := e ▸ h
theorem cx_tt {l l' r : List UInt8} {ts ts' : List Tk} (h : Cx l ts r) (e : l' = l) (e2 : ts' = ts) : Cx l' ts' r := by subst e e2; exact h
theorem cx_sp {r r' : List UInt8} {ts : List Tk} (h : Cx r ts r') : Cx (32 :: r) ts r' := (cx_bl (c := 32) (r := r) rfl).trans h

def wdT (t : List UInt8) : Tk := ⟨1, t, 0⟩
def stT (t : List UInt8) : Tk := ⟨3, t, 0⟩
def sgT (c : UInt8) : Tk := ⟨4, [c], 0⟩
def nmT (n : Nat) : Tk := ⟨2, digs 10 n, (n : Nat)⟩
def armT (a : Arm) : List Tk := [stT a.pat, wdT goL, wdT a.to]
def armsT : List Arm → List Tk
  | [] => []
  | a :: r => armT a ++ r.flatMap fun b => sgT 44 :: armT b
def labT (d : DS) : List Tk := if d.lb = [] then [] else [wdT d.lb, sgT 58]
def restT (d : DS) : List Tk := match kN d.kd with
  | 0 => [stT d.tx]
  | 1 => armsT d.arms ++ [wdT afterL, nmT d.n.toNat, wdT goL, wdT d.to]
  | 2 => [wdT d.to]
  | 3 => [nmT d.n.toNat, wdT goL, wdT d.to]
  | _ => []
def tokD (d : DS) : List Tk := labT d ++ wdT (wordsL.getD (kN d.kd) []) :: restT d ++ [sgT 59]
/-- A step that is right. -/
def WFd (d : DS) : Prop := (d.lb = [] ∨ WordOk d.lb) ∧
  ((d.kd = 0 ∧ StrOk d.tx ∧ d.arms = [] ∧ d.n = 0 ∧ d.to = []) ∨
   (d.kd = 1 ∧ d.tx = [] ∧ d.arms ≠ [] ∧ (∀ a ∈ d.arms, StrOk a.pat ∧ WordOk a.to) ∧ (1 ≤ d.n ∧ d.n ≤ 99) ∧ WordOk d.to) ∨
   (d.kd = 2 ∧ d.tx = [] ∧ d.arms = [] ∧ d.n = 0 ∧ WordOk d.to) ∨
   (d.kd = 3 ∧ d.tx = [] ∧ d.arms = [] ∧ (1 ≤ d.n ∧ d.n ≤ 9) ∧ WordOk d.to) ∨
   ((d.kd = 4 ∨ d.kd = 5) ∧ d.tx = [] ∧ d.arms = [] ∧ d.n = 0 ∧ d.to = []))

theorem wd_const {t : List UInt8} (h : t ∈ afterL :: wordsL) : WordOk t := by
  simp only [wordsL, List.mem_cons, List.not_mem_nil, or_false] at h
  rcases h with rfl | rfl | rfl | rfl | rfl | rfl | rfl <;> exact ⟨⟨_, _, rfl, by decide⟩, by decide⟩
theorem wd_go : WordOk goL := wd_const (by simp [wordsL])
theorem cx_arm {a : Arm} {x : UInt8} {r : List UInt8} (h1 : StrOk a.pat) (h2 : WordOk a.to) (hx : wq true x = false) : Cx (armL a ++ x :: r) (armT a) (x :: r) := by
  have q1 := cx_quo (r := goS ++ a.to ++ x :: r) h1
  have q2 : Cx (goS ++ a.to ++ x :: r) [wdT goL] (32 :: (a.to ++ x :: r)) := cx_sp (cx_to (cx_wd (r := a.to ++ x :: r) (x := 32) wd_go rfl) (by simp [goL]))
  have q3 : Cx (32 :: (a.to ++ x :: r)) [wdT a.to] (x :: r) := cx_sp (cx_wd h2 hx)
  exact cx_to ((q1.trans q2).trans q3) (by simp [armL])
theorem cx_armsR : ∀ (l : List Arm) {r : List UInt8}, (∀ a ∈ l, StrOk a.pat ∧ WordOk a.to) → Cx (((l.map armB).flatMap fun y => [44, 32] ++ y.data.toList) ++ 32 :: r) (l.flatMap fun b => sgT 44 :: armT b) (32 :: r)
  | [], r, _ => Cx.refl _
  | a :: l, r, h => by
    have ha := h a (by simp)
    have ih := cx_armsR l (r := r) fun b hb => h b (by simp [hb])
    have q1 : ∀ s, Cx (44 :: 32 :: s) [sgT 44] (32 :: s) := fun s => cx_sg (by simp)
    cases l with
    | nil =>
      have q2 := cx_arm (x := 32) (r := r) ha.1 ha.2 rfl
      exact cx_to ((q1 (armL a ++ 32 :: r)).trans (cx_sp q2)) (by simp [armB])
    | cons b l =>
      have q2 := cx_arm (x := 44) (r := 32 :: (armL b ++ (((l.map armB).flatMap fun y => [44, 32] ++ y.data.toList) ++ 32 :: r))) ha.1 ha.2 rfl
      have e : ((((b :: l).map armB).flatMap fun y => [44, 32] ++ y.data.toList) ++ 32 :: r) = 44 :: 32 :: (armL b ++ (((l.map armB).flatMap fun y => [44, 32] ++ y.data.toList) ++ 32 :: r)) := by simp [armB]
      rw [e] at ih
      exact cx_to (((q1 _).trans (cx_sp q2)).trans ih) (by simp [armB])
theorem cx_arms {l : List Arm} {r : List UInt8} (h : ∀ a ∈ l, StrOk a.pat ∧ WordOk a.to) : Cx (joinA l ++ 32 :: r) (armsT l) (32 :: r) := by
  cases l with
  | nil => exact Cx.refl _
  | cons a l =>
    have ha := h a (by simp)
    have ih := cx_armsR l (r := r) fun b hb => h b (by simp [hb])
    cases l with
    | nil =>
      have q2 := cx_arm (x := 32) (r := r) ha.1 ha.2 rfl
      exact cx_to (q2.trans ih) (by simp [joinA, joinL, armB])
    | cons b l =>
      have e : ((((b :: l).map armB).flatMap fun y => [44, 32] ++ y.data.toList) ++ 32 :: r) = 44 :: (32 :: (armL b ++ (((l.map armB).flatMap fun y => [44, 32] ++ y.data.toList) ++ 32 :: r))) := by simp [armB]
      rw [e] at ih
      have q2 := cx_arm (x := 44) (r := 32 :: (armL b ++ (((l.map armB).flatMap fun y => [44, 32] ++ y.data.toList) ++ 32 :: r))) ha.1 ha.2 rfl
      exact cx_to (q2.trans ih) (by simp [joinA, joinL, armB])
theorem numS_nn {n : Int} (h : 0 ≤ n) : numS 10 n = digs 10 n.toNat := by
  obtain ⟨k, rfl⟩ : ∃ k : Nat, n = k := ⟨n.toNat, by omega⟩
  unfold numS sgn
  rw [if_neg (by simp)]
  simp
theorem cx_line {d : DS} {r : List UInt8} (h : WFd d) : Cx (lineD d ++ r) (tokD d) r := by
  obtain ⟨hl, h⟩ := h
  have hend : Cx (59 :: 10 :: r) [sgT 59] r := (cx_sg (c := 59) (r := 10 :: r) (by simp)).trans (cx_bl rfl)
  have hlab : ∀ s, Cx (labL d ++ s) (labT d) s := by
    intro s
    unfold labL labT
    rcases hl with hl | hl
    · rw [if_pos hl, if_pos hl]; exact Cx.refl _
    · by_cases h0 : d.lb = []
      · rw [if_pos h0, if_pos h0]; exact Cx.refl _
      · rw [if_neg h0, if_neg h0]
        exact cx_to ((cx_wd (x := 58) (r := 32 :: s) hl rfl).trans ((cx_sg (c := 58) (r := 32 :: s) (by simp)).trans (cx_bl rfl))) (by simp)
  have hkw : ∀ (k : Nat) (x : UInt8) (s : List UInt8), k ≤ 5 → wq true x = false → Cx (wordsL.getD k [] ++ x :: s) [wdT (wordsL.getD k [])] (x :: s) := by
    intro k x s hk hx
    refine cx_wd (wd_const ?_) hx
    rcases (show k = 0 ∨ k = 1 ∨ k = 2 ∨ k = 3 ∨ k = 4 ∨ k = 5 by omega) with rfl | rfl | rfl | rfl | rfl | rfl <;> simp [wordsL]
  have hgo : ∀ s, Cx (goS ++ s) [wdT goL] (32 :: s) := fun s => cx_sp (cx_to (cx_wd (r := s) (x := 32) wd_go rfl) (by simp [goL]))
  have hto : WordOk d.to → Cx (d.to ++ 59 :: 10 :: r) [wdT d.to] (59 :: 10 :: r) := fun hw => cx_wd hw rfl
  have hnum : ∀ s, 1 ≤ d.n ∧ d.n ≤ 99 → Cx (numS 10 d.n ++ goS ++ s) [nmT d.n.toNat] (goS ++ s) := by
    intro s hn
    rw [numS_nn (by omega)]
    exact cx_to (cx_dec (n := d.n.toNat) (r := [103, 111, 32] ++ s) (by omega)) (by simp [goS])
  rcases h with ⟨hk, h1, -⟩ | ⟨hk, -, -, h1, hn, ht⟩ | ⟨hk, -, -, -, ht⟩ | ⟨hk, -, -, hn, ht⟩ | ⟨hk, -⟩
  · have e : kN d.kd = 0 := by rw [hk]; rfl
    have q := (hlab _).trans ((hkw 0 32 (qL d.tx ++ 59 :: 10 :: r) (by omega) rfl).trans ((cx_sp (cx_quo (r := 59 :: 10 :: r) h1)).trans hend))
    unfold tokD lineD restT restL restX
    rw [e]
    exact cx_tt q (by simp) (by simp [stT])
  · have e : kN d.kd = 1 := by rw [hk]; rfl
    have qA := cx_arms (r := afterL ++ 32 :: (numS 10 d.n ++ goS ++ (d.to ++ 59 :: 10 :: r))) h1
    have qB : Cx (32 :: (afterL ++ 32 :: (numS 10 d.n ++ goS ++ (d.to ++ 59 :: 10 :: r)))) [wdT afterL] (32 :: (numS 10 d.n ++ goS ++ (d.to ++ 59 :: 10 :: r))) := cx_sp (cx_wd (wd_const (by simp)) rfl)
    have qC := cx_sp ((hnum (d.to ++ 59 :: 10 :: r) hn).trans ((hgo _).trans (cx_sp (hto ht))))
    have q := (hlab _).trans ((hkw 1 32 (joinA d.arms ++ 32 :: (afterL ++ 32 :: (numS 10 d.n ++ goS ++ (d.to ++ 59 :: 10 :: r)))) (by omega) rfl).trans ((cx_sp (qA.trans (qB.trans qC))).trans hend))
    unfold tokD lineD restT restL restX
    rw [e]
    exact cx_tt q (by simp) (by simp)
  · have e : kN d.kd = 2 := by rw [hk]; rfl
    have q := (hlab _).trans ((hkw 2 32 (d.to ++ 59 :: 10 :: r) (by omega) rfl).trans ((cx_sp (hto ht)).trans hend))
    unfold tokD lineD restT restL restX
    rw [e]
    exact cx_tt q (by simp) (by simp [stT])
  · have e : kN d.kd = 3 := by rw [hk]; rfl
    have qC := cx_sp ((hnum (d.to ++ 59 :: 10 :: r) (by omega)).trans ((hgo _).trans (cx_sp (hto ht))))
    have q := (hlab _).trans ((hkw 3 32 (numS 10 d.n ++ goS ++ (d.to ++ 59 :: 10 :: r)) (by omega) rfl).trans (qC.trans hend))
    unfold tokD lineD restT restL restX
    rw [e]
    exact cx_tt q (by simp) (by simp [stT])
  · rcases hk with hk | hk
    · have e : kN d.kd = 4 := by rw [hk]; rfl
      have q := (hlab _).trans ((hkw 4 59 (10 :: r) (by omega) rfl).trans hend)
      unfold tokD lineD restT restL restX
      rw [e]
      exact cx_tt q (by simp) (by simp [stT])
    · have e : kN d.kd = 5 := by rw [hk]; rfl
      have q := (hlab _).trans ((hkw 5 59 (10 :: r) (by omega) rfl).trans hend)
      unfold tokD lineD restT restL restX
      rw [e]
      exact cx_tt q (by simp) (by simp [stT])
theorem cx_text : ∀ {l : List DV}, (∀ x ∈ l, WFd x.1) → Cx (textL l) (l.flatMap fun x => tokD x.1) []
  | [], _ => Cx.refl _
  | x :: l, h => (cx_line (r := textL l) (h x (by simp))).trans (cx_text fun y hy => h y (by simp [hy]))
end Go.Proofs.YtjlicambfepfiaaGreatDoor.Ab

set_option linter.unusedVariables false
set_option linter.unusedSimpArgs false
namespace Go.Proofs.YtjlicambfepfiaaGreatDoor.Ab
open Go Go.RowKit
set_option maxHeartbeats 1000000
set_option maxRecDepth 100000

/-- These tokens stand at a place. -/
def At (ts : List (Tk × Nat)) (k : Nat) (T : List Tk) : Prop := ∃ rest, (ts.map (·.1)).drop k = T ++ rest
theorem At.hd {ts : List (Tk × Nat)} {k : Nat} {t : Tk} {T : List Tk} (h : At ts k (t :: T)) : (ts.getD k tok0).1 = t ∧ At ts (k + 1) T ∧ k < ts.length := by
  obtain ⟨rest, hr⟩ := h
  have hk : k < (ts.map (·.1)).length := by
    rcases Nat.lt_or_ge k (ts.map (·.1)).length with h | h
    · exact h
    · rw [List.drop_eq_nil_of_le h] at hr; cases hr
  rw [List.drop_eq_getElem_cons hk] at hr
  have hk' : k < ts.length := by simpa using hk
  refine ⟨?_, ⟨rest, (List.cons.inj hr).2⟩, hk'⟩
  have := (List.cons.inj hr).1
  rw [List.getElem_map] at this
  rw [← this]
  simp [List.getD, List.getElem?_eq_getElem hk']
theorem At.app {ts : List (Tk × Nat)} {k : Nat} {A B : List Tk} (h : At ts k (A ++ B)) : At ts k A ∧ At ts (k + A.length) B := by
  obtain ⟨rest, hr⟩ := h
  refine ⟨⟨B ++ rest, by rw [hr]; simp⟩, ⟨rest, ?_⟩⟩
  rw [← List.drop_drop, hr]
  simp
theorem At.len {ts : List (Tk × Nat)} {k : Nat} {T : List Tk} (h : At ts k T) : T.length ≤ ts.length := by
  obtain ⟨rest, hr⟩ := h
  have := congrArg List.length hr
  simp at this
  omega
/-- A token of this kind is taken. -/
theorem take_at {ts : List (Tk × Nat)} {k : Nat} {t : Tk} {kd : Int} {tx : List UInt8} (h : (ts.getD k tok0).1 = t) (hm : misfit t kd tx = false) : takeF ts kd tx ⟨k, none⟩ = (ts.getD k tok0, ⟨k + 1, none⟩) := takeF_fit (by rw [h]; exact hm)
theorem is_at {ts : List (Tk × Nat)} {k : Nat} {t : Tk} {kd : Int} {tx : List UInt8} (h : (ts.getD k tok0).1 = t) : isF ts kd tx ⟨k, none⟩ = !misfit t kd tx := by
  unfold isF; rw [h]; rfl
theorem mf_wd (t : List UInt8) : misfit (wdT t) 1 [] = false := rfl
theorem mf_eq (t : List UInt8) : misfit (wdT t) 1 t = false := by simp [misfit, wdT]
theorem mf_st (t : List UInt8) : misfit (stT t) 3 [] = false := rfl
theorem mf_nm (n : Nat) : misfit (nmT n) 2 [] = false := rfl
theorem to_at {ts : List (Tk × Nat)} {k : Nat} {t : List UInt8} {T : List Tk} (h : At ts k (wdT goL :: wdT t :: T)) : toF ts ⟨k, none⟩ = (t, ⟨k + 2, none⟩) ∧ At ts (k + 2) T := by
  obtain ⟨h0, h, -⟩ := h.hd
  obtain ⟨h1, h, -⟩ := h.hd
  refine ⟨?_, h⟩
  unfold toF
  rw [take_at h0 (mf_eq goL)]
  simp only
  rw [take_at h1 (mf_wd t), h1]
  rfl
theorem num_at {ts : List (Tk × Nat)} {k n : Nat} {most : Int} {T : List Tk} (h : At ts k (nmT n :: T)) (hn : 1 ≤ (n : Int) ∧ (n : Int) ≤ most) : numF most ts ⟨k, none⟩ = ((n : Int), ⟨k + 1, none⟩) ∧ At ts (k + 1) T := by
  obtain ⟨h0, h, -⟩ := h.hd
  refine ⟨?_, h⟩
  unfold numF
  rw [take_at h0 (mf_nm n)]
  simp only [numR, h0, nmT]
  rw [if_neg (by omega)]
theorem arm_at {ts : List (Tk × Nat)} {k : Nat} {a : Arm} {T : List Tk} (h : At ts k (armT a ++ T)) : armF ts ⟨k, none⟩ = (a, ⟨k + 3, none⟩) ∧ At ts (k + 3) T := by
  obtain ⟨h0, h, -⟩ := At.hd (T := wdT goL :: wdT a.to :: T) (t := stT a.pat) h
  obtain ⟨h1, h⟩ := to_at h
  refine ⟨?_, h⟩
  unfold armF
  rw [take_at h0 (mf_st _)]
  simp only [h1, h0]
  rfl
theorem arms_at {ts : List (Tk × Nat)} {t : Tk} {T : List Tk} (ht : misfit t 4 [44] = true) : ∀ (l : List Arm) (n k : Nat) (out : List Arm), l ≠ [] → l.length ≤ n → At ts k (armsT l ++ t :: T) → armsF n ts ⟨k, none⟩ out = (out ++ l, ⟨k + (armsT l).length, none⟩)
  | [], _, _, _, h, _, _ => absurd rfl h
  | a :: l, n, k, out, _, hn, h => by
    obtain ⟨n, rfl⟩ : ∃ n', n = n' + 1 := ⟨n - 1, by simp at hn; omega⟩
    cases l with
    | nil =>
      have h : At ts k (armT a ++ t :: T) := by simpa [armsT] using h
      obtain ⟨h1, h2⟩ := arm_at h
      obtain ⟨h3, -, -⟩ := h2.hd
      simp only [armsF, h1, is_at h3, ht, armsT]
      simp [armT]
    | cons b l =>
      have h : At ts k (armT a ++ (sgT 44 :: (armsT (b :: l) ++ t :: T))) := by simpa [armsT] using h
      obtain ⟨h1, h2⟩ := arm_at h
      obtain ⟨h3, h4, -⟩ := h2.hd
      have ih := arms_at ht (b :: l) n (k + 3 + 1) (out ++ [a]) (by simp) (by simp at hn ⊢; omega) h4
      simp only [armsF, h1, is_at h3]
      rw [if_pos (by rfl), ih]
      simp only [armsT, armT, List.append_assoc, List.length_append, List.length_cons, List.length_nil, List.flatMap_cons, List.cons_append, List.nil_append]
      congr 2
      omega
theorem head_lab {ts : List (Tk × Nat)} {k : Nat} {lb w : List UInt8} {T : List Tk} (h : At ts k (wdT lb :: sgT 58 :: wdT w :: T)) : headF ts ⟨k, none⟩ = (lb, ts.getD (k + 2) tok0, ⟨k + 3, none⟩) ∧ At ts (k + 3) T ∧ (ts.getD (k + 2) tok0).1 = wdT w := by
  obtain ⟨h0, h, -⟩ := h.hd
  obtain ⟨h1, h, -⟩ := h.hd
  obtain ⟨h2, h, -⟩ := h.hd
  refine ⟨?_, h, h2⟩
  unfold headF
  rw [take_at h0 (mf_wd _)]
  simp only [is_at h1]
  rw [if_pos (by rfl), take_at h2 (mf_wd _), h0]
  rfl
theorem head_no {ts : List (Tk × Nat)} {k : Nat} {w : List UInt8} {t : Tk} {T : List Tk} (h : At ts k (wdT w :: t :: T)) (ht : misfit t 4 [58] = true) : headF ts ⟨k, none⟩ = ([], ts.getD k tok0, ⟨k + 1, none⟩) ∧ At ts (k + 1) (t :: T) ∧ (ts.getD k tok0).1 = wdT w := by
  obtain ⟨h0, h, -⟩ := h.hd
  obtain ⟨h1, -, -⟩ := h.hd
  refine ⟨?_, h, h0⟩
  unfold headF
  rw [take_at h0 (mf_wd _)]
  simp only [is_at h1, ht]
  rfl
theorem kind_at {k : Nat} (h : k ≤ 5) : kindOf (wordsL.getD k []) = k := by
  rcases (show k = 0 ∨ k = 1 ∨ k = 2 ∨ k = 3 ∨ k = 4 ∨ k = 5 by omega) with rfl | rfl | rfl | rfl | rfl | rfl <;> decide
theorem rest_at {ts : List (Tk × Nat)} {k : Nat} {d : DS} {p : Int} {t : Tk × Nat} (hw : WFd d) (ht : t.1 = wdT (wordsL.getD (kN d.kd) [])) (h : At ts k (restT d ++ [sgT 59])) :
    restF ts { ds0 with lb := d.lb, pl := p } t ⟨k, none⟩ = ({ d with pl := p }, ⟨k + (restT d).length, none⟩) ∧ At ts (k + (restT d).length) [sgT 59] := by
  refine ⟨?_, h.app.2⟩
  obtain ⟨lb, kd, tx, arms, n, to, pl⟩ := d
  have hk : kindOf t.1.tx = kN kd := by rw [ht]; exact kind_at (kN_le kd)
  unfold restF
  rw [hk]
  clear hk ht
  obtain ⟨-, hw⟩ := hw
  simp only at hw
  rcases hw with ⟨rfl, h1, rfl, rfl, rfl⟩ | ⟨rfl, rfl, h0, h1, hn, ht⟩ | ⟨rfl, rfl, rfl, rfl, ht⟩ | ⟨rfl, rfl, rfl, hn, ht⟩ | ⟨hk, rfl, rfl, rfl, rfl⟩
  · have h : At ts k [stT tx, sgT 59] := h
    obtain ⟨h0, h, -⟩ := h.hd
    show restK 0 ts _ _ _ = _
    simp only [restK, take_at h0 (mf_st _), h0]
    rfl
  · have h : At ts k (armsT arms ++ (wdT afterL :: nmT n.toNat :: wdT goL :: wdT to :: [sgT 59])) := by simpa [restT, kN] using h
    have hA := arms_at (t := wdT afterL) rfl arms ts.length k [] h0 (by
      have h3 := At.len h.app.1
      have h4 : arms.length ≤ (armsT arms).length := by
        cases arms with
        | nil => simp
        | cons a l =>
          have : ∀ l : List Arm, l.length ≤ (l.flatMap fun b => sgT 44 :: armT b).length := by
            intro l
            induction l with
            | nil => simp
            | cons a l ih => simp at ih ⊢; omega
          have := this l
          simp [armsT, armT] at this ⊢; omega
      omega) h
    have h := h.app.2
    obtain ⟨k1, h, -⟩ := h.hd
    obtain ⟨k2, h⟩ := num_at (most := 99) h (by omega)
    obtain ⟨k3, h⟩ := to_at h
    show restK 1 ts _ _ _ = _
    have hA' : armsL ts ⟨k, none⟩ = (arms, ⟨k + (armsT arms).length, none⟩) := by unfold armsL; rw [hA]; rfl
    simp only [restK, hA', take_at k1 (mf_eq afterL), k2, k3]
    have : ((n.toNat : Nat) : Int) = n := by omega
    simp [restT, kN, this, ds0]
    omega
  · have h : At ts k [wdT to, sgT 59] := h
    obtain ⟨h0, h, -⟩ := h.hd
    show restK 2 ts _ _ _ = _
    simp only [restK, take_at h0 (mf_wd _), h0]
    rfl
  · have h : At ts k [nmT n.toNat, wdT goL, wdT to, sgT 59] := h
    obtain ⟨k2, h⟩ := num_at (most := 9) h (by omega)
    obtain ⟨k3, h⟩ := to_at h
    show restK 3 ts _ _ _ = _
    simp only [restK, k2, k3]
    have : ((n.toNat : Nat) : Int) = n := by omega
    simp [restT, kN, this, ds0]
  · rcases hk with rfl | rfl
    · rfl
    · rfl
def clr (d : DS) : DS := { d with pl := 0 }
theorem step_at {ts : List (Tk × Nat)} {k : Nat} {d : DS} (hw : WFd d) (h : At ts k (tokD d)) : stepF ts ⟨k, none⟩ = ({ d with pl := (ts.getD k tok0).2 }, ⟨k + (tokD d).length, none⟩) := by
  have hl := hw.1
  by_cases h0 : d.lb = []
  · have e : tokD d = wdT (wordsL.getD (kN d.kd) []) :: (restT d ++ [sgT 59]) := by simp [tokD, labT, h0]
    rw [e] at h ⊢
    have hr : ∃ t T, restT d ++ [sgT 59] = t :: T ∧ misfit t 4 [58] = true := by
      obtain ⟨lb, kd, tx, arms, n, to, pl⟩ := d
      obtain ⟨-, hw⟩ := hw
      simp only at hw
      rcases hw with ⟨rfl, h1, rfl, rfl, rfl⟩ | ⟨rfl, rfl, h0, h1, hn, ht⟩ | ⟨rfl, rfl, rfl, rfl, ht⟩ | ⟨rfl, rfl, rfl, hn, ht⟩ | ⟨hk, rfl, rfl, rfl, rfl⟩
      · exact ⟨_, _, rfl, rfl⟩
      · cases arms with
        | nil => exact absurd rfl h0
        | cons a l => exact ⟨stT a.pat, _, rfl, rfl⟩
      · exact ⟨_, _, rfl, rfl⟩
      · exact ⟨_, _, rfl, rfl⟩
      · rcases hk with rfl | rfl
        · exact ⟨_, _, rfl, rfl⟩
        · exact ⟨_, _, rfl, rfl⟩
    obtain ⟨t, T, hr1, hr2⟩ := hr
    rw [hr1] at h
    obtain ⟨k1, h, k2⟩ := head_no h hr2
    rw [← hr1] at h
    obtain ⟨r1, h⟩ := rest_at (p := ((ts.getD k tok0).2 : Int)) hw k2 h
    obtain ⟨k3, -, -⟩ := h.hd
    rw [h0] at r1
    unfold stepF
    simp only [k1, r1, take_at (kd := 4) (tx := [59]) k3 rfl]
    simp only [List.length_cons, List.length_append, List.length_nil]
    rw [h0]
    congr 2
    omega
  · have e : tokD d = wdT d.lb :: sgT 58 :: wdT (wordsL.getD (kN d.kd) []) :: (restT d ++ [sgT 59]) := by simp [tokD, labT, h0]
    rw [e] at h ⊢
    obtain ⟨k1, h, k2⟩ := head_lab h
    obtain ⟨r1, h⟩ := rest_at (p := ((ts.getD k tok0).2 : Int)) hw k2 h
    obtain ⟨k3, -, -⟩ := h.hd
    unfold stepF
    simp only [k1, r1, take_at (kd := 4) (tx := [59]) k3 rfl]
    simp only [List.length_cons, List.length_append, List.length_nil]
    congr 2
    omega
theorem steps_at {ts : List (Tk × Nat)} : ∀ (l : List DS) (n k : Nat) (out : List DS), (∀ d ∈ l, WFd d) → l.length < n → At ts k (l.flatMap tokD ++ [endT]) → ∃ l', stepsF n ts ⟨k, none⟩ out = (out ++ l', none) ∧ l'.map clr = l.map clr
  | [], n, k, out, _, _, h => by
    obtain ⟨h0, -, -⟩ := h.hd
    refine ⟨[], ?_, rfl⟩
    rw [stop_step (fun h => h.2 (by rw [h0]; rfl))]
    simp
  | d :: l, n, k, out, hw, hn, h => by
    obtain ⟨n, rfl⟩ : ∃ n', n = n' + 1 := ⟨n - 1, by simp at hn; omega⟩
    have h : At ts k (tokD d ++ (l.flatMap tokD ++ [endT])) := by simpa using h
    have hs := step_at (hw d (by simp)) h.app.1
    have hkd : (ts.getD k tok0).1.kd ≠ 0 := by
      have : ∃ w T, tokD d = wdT w :: T := by
        unfold tokD labT
        split
        · exact ⟨_, _, rfl⟩
        · exact ⟨_, _, rfl⟩
      obtain ⟨w, T, e⟩ := this
      have h2 := h
      rw [e] at h2
      obtain ⟨h0, -, -⟩ := At.hd (t := wdT w) (T := T ++ (l.flatMap tokD ++ [endT])) h2
      rw [h0]
      show (1 : Int) ≠ 0
      decide
    obtain ⟨l', e1, e2⟩ := steps_at l n (k + (tokD d).length) (out ++ [{ d with pl := (ts.getD k tok0).2 }]) (fun x hx => hw x (by simp [hx])) (by simp at hn; omega) h.app.2
    refine ⟨{ d with pl := (ts.getD k tok0).2 } :: l', ?_, by simp [e2, clr]⟩
    rw [stepsF, if_pos ⟨rfl, hkd⟩, hs, e1]
    simp
/-- What a dialogue's text is read as. -/
theorem parse_text {l : List DV} {us : List (Tk × Nat)} (hw : ∀ x ∈ l, WFd x.1) (hc : cutL 0 (textL l) = .inr us) : ∃ l', parseD us = (l', none) ∧ l'.map clr = l.map fun x => clr x.1 := by
  obtain ⟨a', ws, e1, e2⟩ := cx_text hw 0
  rw [hc] at e2
  have e3 : us = ws ++ [(endT, a')] := by
    have : cutL a' [] = .inr [(endT, a')] := rfl
    rw [this] at e2
    exact Sum.inr.inj e2
  have hat : At us 0 ((l.map fun x => x.1).flatMap tokD ++ [endT]) := ⟨[], by rw [e3]; simp [e1, List.flatMap_map]⟩
  have hlen := hat.len
  have h4 : l.length ≤ ((l.map fun x => x.1).flatMap tokD).length := by
    clear hat e1 hc hlen e2 hw
    induction l with
    | nil => simp
    | cons x l ih => simp [tokD] at ih ⊢; omega
  obtain ⟨l', k1, k2⟩ := steps_at (l.map fun x => x.1) us.length 0 [] (fun d hd => by
    obtain ⟨x, hx, rfl⟩ := List.mem_map.1 hd
    exact hw x hx) (by simp at hlen h4 ⊢; omega) hat
  exact ⟨l', by unfold parseD; rw [k1]; rfl, by rw [k2, List.map_map]; rfl⟩
end Go.Proofs.YtjlicambfepfiaaGreatDoor.Ab

set_option linter.unusedVariables false
set_option linter.unusedSimpArgs false
namespace Go.Proofs.YtjlicambfepfiaaGreatDoor.Ab
open Go Go.RowKit
set_option maxHeartbeats 1000000
set_option maxRecDepth 100000

theorem q_tok {a : Nat} {c : UInt8} {l r : List UInt8} {t : Tk} (hb : isBl c = false) (h2 : c.toNat ≠ 35) (ho : oneL (c :: l ++ r) = some (t, (c :: l).length)) : cutL a (c :: l ++ r) = preC [(t, a)] (cutL (a + (c :: l).length) r) := by
  have this : cutL a (c :: l ++ r) = preC [(t, a)] (cutL (a + (c :: l).length) ((c :: l ++ r).drop (c :: l).length)) := cutL_some hb h2 ho
  rw [List.drop_left] at this
  exact this
theorem q_wd {a : Nat} {t : List UInt8} {x : UInt8} {r : List UInt8} (h : WordOk t) (hx : wq true x = false) : cutL a (t ++ x :: r) = preC [(wdT t, a)] (cutL (a + t.length) (x :: r)) := by
  obtain ⟨⟨c, w, rfl, hc⟩, hw⟩ := h
  refine q_tok (let_facts hc).1 (let_facts hc).2 ?_
  have h := wordN_app (c :: w) false (x := x) (r := r) hw (by simp) hx
  have h' : wordN false (c :: (w ++ x :: r)) = (c :: w).length := h
  show oneL (c :: (w ++ x :: r)) = _
  simp only [oneL, hc, if_true, h', wdT]
  congr 3
  rw [show c :: (w ++ x :: r) = c :: w ++ x :: r from rfl, List.take_left]
theorem q_sg {a : Nat} {c : UInt8} {r : List UInt8} (h : c = 58 ∨ c = 44 ∨ c = 59) : cutL a (c :: r) = preC [(sgT c, a)] (cutL (a + 1) r) := by
  rcases h with rfl | rfl | rfl
  · exact q_tok (l := []) (r := r) rfl (by decide) rfl
  · exact q_tok (l := []) (r := r) rfl (by decide) rfl
  · exact q_tok (l := []) (r := r) rfl (by decide) rfl
theorem q_sp {a : Nat} {r : List UInt8} : cutL a (32 :: r) = cutL (a + 1) r := cutL_bl rfl
theorem q_dec {a n : Nat} {r : List UInt8} (hn : n ≤ 4294967295) : cutL a (digs 10 n ++ 32 :: r) = preC [(nmT n, a)] (cutL (a + (digs 10 n).length) (32 :: r)) := by
  have hall := digs10_all n
  have hh : hexH (digs 10 n ++ 32 :: r) = false := by
    obtain ⟨c, l, e⟩ := digs_cons 10 n
    rw [e] at hall ⊢
    cases l with
    | nil => simp [hexH]
    | cons d l =>
      have := (dig_facts (hall d (by simp))).2.2.2
      simp [hexH, this]
  have hB : nB (digs 10 n ++ 32 :: r) = 10 := by simp [nB, hh]
  have hF : nF (digs 10 n ++ 32 :: r) = 0 := by simp [nF, hh]
  have hN : nN (digs 10 n ++ 32 :: r) = (digs 10 n).length := by
    unfold nN
    rw [hB, hF, Nat.zero_add, List.drop_zero]
    exact runN_app (fun c hc => by simp [inB, hall c hc]) rfl
  have hD : nDs (digs 10 n ++ 32 :: r) = digs 10 n := by
    unfold nDs
    rw [hN, hF, List.drop_zero, List.take_left]
  have hv : numV (digs 10 n ++ 32 :: r) = some n := by
    unfold numV
    rw [hD, hB, puL_digs (by omega) n hn, hN, List.drop_left]
    simp [wordN, wq, isLet]
  have hnm : nmT n = ⟨2, digs 10 n, (n : Nat)⟩ := rfl
  rw [hnm]
  obtain ⟨c, l, e⟩ := digs_cons 10 n
  rw [e] at hall hN hv ⊢
  have hd := hall c (by simp)
  obtain ⟨h1, h2, h3, -⟩ := dig_facts hd
  refine q_tok h2 h3 ?_
  have hv : numV (c :: (l ++ 32 :: r)) = some n := hv
  have hN : nN (c :: (l ++ 32 :: r)) = (c :: l).length := hN
  show oneL (c :: (l ++ 32 :: r)) = _
  simp only [oneL, h1, hd, if_true, Bool.false_eq_true, if_false, hv, Option.map_some, hN]
  congr 3
  rw [show c :: (l ++ 32 :: r) = c :: l ++ 32 :: r from rfl, List.take_left]
theorem q_x {a : Nat} {r : List UInt8} : cutL a (34 :: 120 :: 34 :: r) = preC [(stT [120], a)] (cutL (a + 3) r) := by
  have hs : StrOk [120] := strOk_cons (by decide) strOk_nil
  obtain ⟨e, he, hq⟩ := hs
  have h1 : escL [120] = some [120] := rfl
  rw [h1] at he
  cases he
  have hq' : qd (120 :: 34 :: r) = some (2, [120]) := hq r
  refine q_tok (l := [120, 34]) (r := r) rfl (by decide) ?_
  have h1 : isLet 34 = false := rfl
  have h2 : isDig 34 = false := rfl
  have h3 : (34 : UInt8).toNat = 34 := rfl
  show oneL (34 :: 120 :: 34 :: r) = _
  simp only [oneL, h1, h2, h3, if_true, Bool.false_eq_true, if_false, hq', Option.map_some]
  rfl
theorem preC_cons (p : Tk × Nat) (l : List (Tk × Nat)) (c : Cuts) : preC [p] (preC l c) = preC (p :: l) c := by
  cases c <;> rfl

def headL : List UInt8 := [97, 58, 32, 101, 120, 112, 101, 99, 116, 32, 34, 120, 34, 32, 103, 111, 32, 97, 32, 97, 102, 116, 101, 114, 32]
def midL : List UInt8 := [32, 103, 111, 32, 97, 59, 32, 116, 114, 121, 32]
def endL : List UInt8 := [32, 103, 111, 32, 97, 59]
def numText (n m : Nat) : List UInt8 := headL ++ digs 10 n ++ midL ++ digs 10 m ++ endL
theorem wd_a : WordOk [97] := ⟨⟨_, _, rfl, rfl⟩, by decide⟩
theorem cut_nums {n m : Nat} (hn : n ≤ 4294967295) (hm : m ≤ 4294967295) : cutL 0 (numText n m) = .inr [(wdT [97], 0), (sgT 58, 1), (wdT expectL, 3), (stT [120], 10), (wdT goL, 14), (wdT [97], 17), (wdT afterL, 19), (nmT n, 25),
    (wdT goL, 25 + (digs 10 n).length + 1), (wdT [97], 25 + (digs 10 n).length + 4), (sgT 59, 25 + (digs 10 n).length + 5), (wdT tryL, 25 + (digs 10 n).length + 7), (nmT m, 25 + (digs 10 n).length + 11),
    (wdT goL, 25 + (digs 10 n).length + 11 + (digs 10 m).length + 1), (wdT [97], 25 + (digs 10 n).length + 11 + (digs 10 m).length + 4), (sgT 59, 25 + (digs 10 n).length + 11 + (digs 10 m).length + 5), (endT, 25 + (digs 10 n).length + 11 + (digs 10 m).length + 6)] := by
  have tail : ∀ (a : Nat) (x : UInt8) (r : List UInt8), cutL a (32 :: 103 :: 111 :: 32 :: 97 :: 59 :: r) = preC [(wdT goL, a + 1), (wdT [97], a + 4), (sgT 59, a + 5)] (cutL (a + 6) r) := by
    intro a x r
    rw [q_sp]
    have e1 := q_wd (a := a + 1) (t := goL) (x := 32) (r := 97 :: 59 :: r) wd_go rfl
    have e2 := q_wd (a := a + 4) (t := [97]) (x := 59) (r := r) wd_a rfl
    have e3 := q_sg (a := a + 5) (c := 59) (r := r) (by simp)
    simp only [goL, List.cons_append, List.nil_append, List.length_cons, List.length_nil] at e1 e2
    rw [e1, q_sp, e2, e3]
    simp only [preC_cons]
    rfl
  have e : numText n m = [97] ++ 58 :: (32 :: (expectL ++ 32 :: (34 :: 120 :: 34 :: (32 :: (goL ++ 32 :: ([97] ++ 32 :: (afterL ++ 32 :: (digs 10 n ++ 32 :: 103 :: 111 :: 32 :: 97 :: 59 :: (32 :: (tryL ++ 32 :: (digs 10 m ++ 32 :: 103 :: 111 :: 32 :: 97 :: 59 :: []))))))))))) := by
    simp [numText, headL, midL, endL, expectL, goL, afterL, tryL]
  rw [e]
  rw [q_wd wd_a rfl, q_sg (by simp), q_sp, q_wd (wd_const (by simp [wordsL])) rfl, q_sp, q_x, q_sp, q_wd wd_go rfl, q_sp, q_wd wd_a rfl, q_sp, q_wd (wd_const (by simp)) rfl, q_sp, q_dec hn, tail _ 0, q_sp, q_wd (wd_const (by simp [wordsL])) rfl, q_sp, q_dec hm, tail _ 0]
  simp only [preC_cons]
  simp [preC, cutL, cutF, expectL, goL, afterL, tryL]
end Go.Proofs.YtjlicambfepfiaaGreatDoor.Ab

set_option linter.unusedVariables false
set_option linter.unusedSimpArgs false
namespace Go.Proofs.YtjlicambfepfiaaGreatDoor.Ab
open Go Go.RowKit
set_option maxHeartbeats 1000000
set_option maxRecDepth 100000

theorem take_bad {ts : List (Tk × Nat)} (kd : Int) (tx : List UInt8) {s : PS} {e : Nat × Nat} (h : s.err = some e) : (takeF ts kd tx s).2.err = some e := by
  have key : ∀ s' : PS, s'.err = some e → (takeR (ts.getD s.k tok0) s').2.err = some e := by
    intro s' h'
    unfold takeR
    rw [h']
    exact h'
  rw [takeF_eq]
  refine key _ ?_
  split
  · unfold failF; rw [h]; exact h
  · exact h
theorem to_bad {ts : List (Tk × Nat)} {s : PS} {e : Nat × Nat} (h : s.err = some e) : (toF ts s).2.err = some e := take_bad 1 [] (take_bad 1 goL h)
theorem num_bad {ts : List (Tk × Nat)} {k n : Nat} {most : Int} {T : List Tk} (h : At ts k (nmT n :: T)) (hn : (n : Int) < 1 ∨ most < (n : Int)) : (numF most ts ⟨k, none⟩).2.err = some (5, (ts.getD k tok0).2) := by
  obtain ⟨h0, h, -⟩ := h.hd
  unfold numF
  rw [take_at h0 (mf_nm n)]
  simp only [numR, h0, nmT]
  rw [if_pos hn]
theorem expect_bad {ts : List (Tk × Nat)} {k n : Nat} {lb : List UInt8} {arms : List Arm} {T : List Tk} (h0 : arms ≠ []) (hn : (n : Int) < 1 ∨ 99 < (n : Int)) (hal : arms.length ≤ ts.length)
    (h : At ts k (wdT lb :: sgT 58 :: wdT expectL :: (armsT arms ++ wdT afterL :: nmT n :: T))) : (stepF ts ⟨k, none⟩).2.err = some (5, (ts.getD (k + 3 + (armsT arms).length + 1) tok0).2) := by
  obtain ⟨k1, h, k2⟩ := head_lab h
  have hA := arms_at (t := wdT afterL) rfl arms ts.length (k + 3) [] h0 hal h
  have h := h.app.2
  obtain ⟨k3, h, -⟩ := h.hd
  have k4 := num_bad h hn
  have hA' : armsL ts ⟨k + 3, none⟩ = (arms, ⟨k + 3 + (armsT arms).length, none⟩) := by unfold armsL; rw [hA]; rfl
  unfold stepF
  refine take_bad 4 [59] ?_
  rw [k1]
  show (restK (kindOf (ts.getD (k + 2) tok0).1.tx) ts _ _ _).2.err = _
  rw [k2]
  show (restK 1 ts _ _ _).2.err = _
  simp only [restK, hA', take_at k3 (mf_eq afterL)]
  exact to_bad k4
theorem try_bad {ts : List (Tk × Nat)} {k n : Nat} {T : List Tk} (hn : (n : Int) < 1 ∨ 9 < (n : Int)) (h : At ts k (wdT tryL :: nmT n :: T)) : (stepF ts ⟨k, none⟩).2.err = some (5, (ts.getD (k + 1) tok0).2) := by
  obtain ⟨k1, h, k2⟩ := head_no h rfl
  have k4 := num_bad h hn
  unfold stepF
  refine take_bad 4 [59] ?_
  rw [k1]
  show (restK (kindOf (ts.getD k tok0).1.tx) ts _ _ _).2.err = _
  rw [k2]
  show (restK 3 ts _ _ _).2.err = _
  simp only [restK]
  exact to_bad k4

def numUs (n m : Nat) : List (Tk × Nat) := [(wdT [97], 0), (sgT 58, 1), (wdT expectL, 3), (stT [120], 10), (wdT goL, 14), (wdT [97], 17), (wdT afterL, 19), (nmT n, 25),
    (wdT goL, 25 + (digs 10 n).length + 1), (wdT [97], 25 + (digs 10 n).length + 4), (sgT 59, 25 + (digs 10 n).length + 5), (wdT tryL, 25 + (digs 10 n).length + 7), (nmT m, 25 + (digs 10 n).length + 11),
    (wdT goL, 25 + (digs 10 n).length + 11 + (digs 10 m).length + 1), (wdT [97], 25 + (digs 10 n).length + 11 + (digs 10 m).length + 4), (sgT 59, 25 + (digs 10 n).length + 11 + (digs 10 m).length + 5), (endT, 25 + (digs 10 n).length + 11 + (digs 10 m).length + 6)]
def dn1 (n : Nat) : DS := ⟨[97], 1, [], [⟨[120], [97]⟩], (n : Nat), [97], 0⟩
def dn2 (m : Nat) : DS := ⟨[], 3, [], [], (m : Nat), [97], 0⟩
theorem x_ok : StrOk [120] := strOk_cons (by decide) strOk_nil
theorem step1_err {f : Nat} {us : List (Tk × Nat)} {e : Nat × Nat} (h0 : (us.getD 0 tok0).1.kd ≠ 0) (h : (stepF us ⟨0, none⟩).2.err = some e) : (stepsF (f + 1) us ⟨0, none⟩ []).2 = some e := by
  rw [stepsF, if_pos ⟨rfl, h0⟩, stop_step (fun hh => by rw [h] at hh; cases hh.1)]
  exact h
theorem parse_bad1 {n m : Nat} (hn : n < 1 ∨ 99 < n) : (parseD (numUs n m)).2 = some (5, 25) := by
  refine step1_err (f := 16) (by show (1 : Int) ≠ 0; decide) ?_
  exact expect_bad (ts := numUs n m) (k := 0) (n := n) (lb := [97]) (arms := [⟨[120], [97]⟩]) (T := (numUs n m).tail.tail.tail.tail.tail.tail.tail.tail.map (·.1)) (by simp) (by omega) (by simp [numUs]) ⟨[], by rw [List.append_nil]; rfl⟩
theorem wf1 {n : Nat} (hn : 1 ≤ n ∧ n ≤ 99) : WFd (dn1 n) := by
  refine ⟨.inr wd_a, .inr (.inl ⟨rfl, rfl, by simp [dn1], fun a ha => ?_, ?_, wd_a⟩)⟩
  · have : a = ⟨[120], [97]⟩ := by simpa [dn1] using ha
    subst this
    exact ⟨x_ok, wd_a⟩
  · show 1 ≤ (n : Int) ∧ (n : Int) ≤ 99
    omega
theorem wf2 {m : Nat} (hm : 1 ≤ m ∧ m ≤ 9) : WFd (dn2 m) := by
  refine ⟨.inl rfl, .inr (.inr (.inr (.inl ⟨rfl, rfl, rfl, ?_, wd_a⟩)))⟩
  show 1 ≤ (m : Int) ∧ (m : Int) ≤ 9
  omega
theorem parse_bad2 {n m : Nat} (hn : 1 ≤ n ∧ n ≤ 99) (hm : m < 1 ∨ 9 < m) : (parseD (numUs n m)).2 = some (5, 25 + (digs 10 n).length + 11) := by
  have h1 := step_at (ts := numUs n m) (k := 0) (wf1 hn) ⟨(numUs n m).tail.tail.tail.tail.tail.tail.tail.tail.tail.tail.tail.map (·.1), rfl⟩
  have h2 := try_bad (ts := numUs n m) (k := 11) (n := m) (T := (numUs n m).tail.tail.tail.tail.tail.tail.tail.tail.tail.tail.tail.tail.tail.map (·.1)) (by omega) ⟨[], by rw [List.append_nil]; rfl⟩
  show (stepsF 17 (numUs n m) ⟨0, none⟩ []).2 = _
  have h1' : stepF (numUs n m) ⟨0, none⟩ = ({ dn1 n with pl := 0 }, ⟨11, none⟩) := h1
  rw [stepsF, if_pos ⟨rfl, (by show (1 : Int) ≠ 0; decide)⟩, h1', stepsF, if_pos ⟨rfl, (by show (1 : Int) ≠ 0; decide)⟩, stop_step (fun hh => by rw [h2] at hh; cases hh.1)]
  exact h2
theorem parse_good {n m : Nat} (hn : 1 ≤ n ∧ n ≤ 99) (hm : 1 ≤ m ∧ m ≤ 9) : ∃ l', parseD (numUs n m) = (l', none) ∧ l'.map clr = [dn1 n, dn2 m] := by
  obtain ⟨l', e1, e2⟩ := steps_at (ts := numUs n m) [dn1 n, dn2 m] 17 0 [] (fun d hd => by
    rcases List.mem_cons.1 hd with rfl | hd
    · exact wf1 hn
    · rw [List.mem_singleton] at hd; subst hd; exact wf2 hm) (by simp) ⟨[], by rw [List.append_nil]; rfl⟩
  exact ⟨l', e1, e2⟩
end Go.Proofs.YtjlicambfepfiaaGreatDoor.Ab

set_option linter.unusedVariables false
set_option linter.unusedSimpArgs false
namespace Go.Proofs.YtjlicambfepfiaaGreatDoor.As
open Go Go.RowKit Go.Extern.Stop Go.Stop Go.Extern
set_option maxRecDepth 100000

abbrev hd (T : TypeId) : Value := .pointer (some ⟨7, T, none⟩)
abbrev rt (T : TypeId) : Value := .iface 158 (.agg #[hd T])
theorem valueOfP (t : Addr) (w : World) : (ReflectliteValue.unpack (.iface 93 (.pointer (some t)))).run Tryz.prog w
    = .ok (.agg #[hd 93, .pointer (some ⟨w.heap.size, 0, none⟩), .int .u64 150]) (w.alloc (.cells #[.pointer (some t)] 93)) := by kernel_rfl
theorem typeP (a : Addr) (w : World) : (ReflectliteValue.methodAny (ReflectliteValue.valueError "reflectlite.Value.Type" 0) (fun t _ _ _ => ReflectliteType.toType t) #[.agg #[hd 93, .pointer (some a), .int .u64 150]]).run Tryz.prog w = .ok (rt 93) w := by kernel_rfl
theorem methodKind (h : Value) (w : World) : (Go.method 355 158 (.agg #[h]) "Kind").run Tryz.prog w = .ok (143, h) w := by kernel_rfl
theorem methodElem (h : Value) (w : World) : (Go.method 355 158 (.agg #[h]) "Elem").run Tryz.prog w = .ok (157, .agg #[h]) w := by kernel_rfl
theorem methodImplements (h : Value) (w : World) : (Go.method 355 158 (.agg #[h]) "Implements").run Tryz.prog w = .ok (158, .agg #[h]) w := by kernel_rfl
theorem methodAssignableTo (h : Value) (w : World) : (Go.method 355 158 (.agg #[h]) "AssignableTo").run Tryz.prog w = .ok (155, .agg #[h]) w := by kernel_rfl
theorem kindP (w : World) : ((ReflectliteType.abiMethod fun t => (fun a : Nat => Value.int IntKind.u8 (a : Int)) <$> Rtype.kind t) #[hd 93]).run Tryz.prog w = .ok (.int .u8 22) w := by kernel_rfl
theorem kindF (w : World) : ((ReflectliteType.abiMethod fun t => (fun a : Nat => Value.int IntKind.u8 (a : Int)) <$> Rtype.kind t) #[hd 92]).run Tryz.prog w = .ok (.int .u8 25) w := by kernel_rfl
theorem elemP (w : World) : (ReflectliteType.method ReflectliteType.elem #[.agg #[hd 93]]).run Tryz.prog w = .ok (rt 92) w := by kernel_rfl
theorem implF (w : World) : (ReflectliteType.relation "Implements" ReflectliteType.implements_ #[.agg #[hd 92], rt 36]).run Tryz.prog w = .ok (.bool true) w := by kernel_rfl
theorem typeOfF (v : Value) (w : World) : (ReflectliteType.typeOf #[.iface 92 v]).run Tryz.prog w = .ok (rt 92) w := by kernel_rfl
theorem assignF (w : World) : (ReflectliteType.relation "AssignableTo" ReflectliteType.assignableTo #[.agg #[hd 92], rt 92]).run Tryz.prog w = .ok (.bool true) w := by kernel_rfl
theorem valueOfF (n a : Int) (w : World) : (ReflectliteValue.unpack (.iface 92 (.agg #[.int .i64 n, .int .i64 a]))).run Tryz.prog w
    = .ok (.agg #[hd 92, .pointer (some ⟨w.heap.size, 0, none⟩), .int .u64 153]) (w.alloc (.cells #[.int .i64 n, .int .i64 a] 92)) := by kernel_rfl
theorem rlm (z : Sem Value) (f : TypeId → Addr → Nat → Nat → Sem Value) (v : Value) :
    ReflectliteValue.method z f #[v] = (do match ← ReflectliteValue.parts v with | none => z | some (t, a, fl) => f t a fl (fl % 32)) := rfl
theorem partsP (a : Addr) (w : World) : (ReflectliteValue.parts (.agg #[hd 93, .pointer (some a), .int .u64 150])).run Tryz.prog w = .ok (some (93, a, 150)) w := by kernel_rfl
theorem isNilP (a p : Addr) (W : World) (ha : W.cell? a = some (.pointer (some p))) :
    (ReflectliteValue.method (ReflectliteValue.valueError "reflectlite.Value.IsNil" 0) ReflectliteValue.isNil #[.agg #[hd 93, .pointer (some a), .int .u64 150]]).run Tryz.prog W = .ok (.bool false) W := by
  rw [rlm]
  simp only [Sem.run_bind, partsP, Result.andThen]
  simp [ReflectliteValue.isNil, loadVar, isAgg, underlying, Tryz.underlying93, ha, Result.andThen]
theorem elemOfP (w : World) : (Rtype.elem? 93).run Tryz.prog w = .ok (some 92) w := by kernel_rfl
theorem mkF (p : Addr) (w : World) : (ReflectliteValue.mk 92 p ReflectliteValue.flagAddr).run Tryz.prog w = .ok (.agg #[hd 92, .pointer (some p), .int .u64 409]) w := by kernel_rfl
theorem elemVP (a p : Addr) (W : World) (ha : W.cell? a = some (.pointer (some p))) :
    (ReflectliteValue.method (ReflectliteValue.valueError "reflectlite.Value.Elem" 0) ReflectliteValue.elem #[.agg #[hd 93, .pointer (some a), .int .u64 150]]).run Tryz.prog W
      = .ok (.agg #[hd 92, .pointer (some p), .int .u64 409]) W := by
  rw [rlm]
  simp only [Sem.run_bind, partsP, Result.andThen]
  simp [ReflectliteValue.elem, loadVar, isAgg, underlying, Tryz.underlying93, ha, Result.andThen, elemOfP, mkF]
theorem rls (v x : Value) : ReflectliteValue.set #[v, x] = (do
    let (some (dst, a, fl), some (src, b, _)) := (← ReflectliteValue.parts v, ← ReflectliteValue.parts x)
      | unsupported (.noEntry "extern/(internal/reflectlite.Value).Set.zeroValue")
    if fl / ReflectliteValue.flagAddr % 2 == 0 then unsupported (.noEntry "extern/(internal/reflectlite.Value).Set.unaddressable")
    let val ← loadVar src b
    if ← Rtype.directlyAssignable dst src then storeVar dst a val
    else if ← Rtype.implements dst src then
      if (← Rtype.kind src) == 20 then
        match val with
        | .nilIface => unsupported (.noEntry "extern/reflectlite: a nil value of one interface type handed on as a value of another")
        | _ => storeVar dst a val
      else storeVar dst a (.iface src val)
    else panicString ("reflectlite.Set: value of type " ++ (← Rtype.spelt src) ++ " is not assignable to type " ++ (← Rtype.spelt dst))
    pure (.tuple #[])) := rfl
theorem partsFa (a : Addr) (w : World) : (ReflectliteValue.parts (.agg #[hd 92, .pointer (some a), .int .u64 409])).run Tryz.prog w = .ok (some (92, a, 409)) w := by kernel_rfl
theorem partsF (a : Addr) (w : World) : (ReflectliteValue.parts (.agg #[hd 92, .pointer (some a), .int .u64 153])).run Tryz.prog w = .ok (some (92, a, 153)) w := by kernel_rfl
theorem directF (w : World) : (Rtype.directlyAssignable 92 92).run Tryz.prog w = .ok true w := by kernel_rfl
theorem sizeF (w : World) : (sizeOf 92).run Tryz.prog w = .ok 2 w := by kernel_rfl
theorem setF (t : Addr) (bb : Nat) (n a : Int) (W W' : World) (hb0 : W.cell? ⟨bb, 0, none⟩ = some (.int .i64 n)) (hb1 : W.cell? ⟨bb, 1, none⟩ = some (.int .i64 a))
    (hst : (storeCells t [.int .i64 n, .int .i64 a]).run Tryz.prog W = .ok () W') :
    (ReflectliteValue.set #[.agg #[hd 92, .pointer (some t), .int .u64 409], .agg #[hd 92, .pointer (some ⟨bb, 0, none⟩), .int .u64 153]]).run Tryz.prog W = .ok (.tuple #[]) W' := by
  rw [rls]
  simp only [Sem.run_bind, partsFa, partsF, Result.andThen]
  simp [ReflectliteValue.flagAddr, loadVar, isAgg, underlying, Tryz.underlying92, Result.andThen, directF, storeVar, Value.cells, sizeF]
  have hl : (loadCells ⟨bb, 0, none⟩ 2).run Tryz.prog W = .ok #[.int .i64 n, .int .i64 a] W := by
    simp [loadCells, loadCellsFrom, run_load, hb0, hb1, Addr.add, Result.andThen]
  rw [hl]
  simp [hst]

/-- What errors.As lays, before it writes. -/
def laidP (w : World) (t : Addr) : World := ((w.alloc (.cells #[.pointer (some t)] 93)).alloc (.cells #[hd 93, .pointer (some ⟨w.heap.size, 0, none⟩), .int .u64 150] 124)).alloc (.cells #[hd 93, .pointer (some ⟨w.heap.size, 0, none⟩), .int .u64 150] 124)

set_option maxHeartbeats 4000000 in
theorem as_place (n a : Int) (t : Addr) (w W' : World) (hg : w.cell? ⟨0, 0, none⟩ = some (rt 36)) (ht : t.block < w.heap.size)
    (hst : (storeCells t [.int .i64 n, .int .i64 a]).run Tryz.prog ((laidP w t).alloc (.cells #[.int .i64 n, .int .i64 a] 92)) = .ok () W') :
    Calls Tryz.prog 37 #[.iface 92 (.agg #[.int .i64 n, .int .i64 a]), .iface 93 (.pointer (some t))] w fun ev w' => ev = .returned (.bool true) ∧ w' = W' := by
  have h6 := @run_callFunc_extern Tryz.prog 55 _ (fun args => ReflectliteValue.unpack (args.getD 0 (.tuple #[]))) Tryz.func55 (by kernel_rfl) (by kernel_rfl) (by kernel_rfl) (by kernel_rfl)
  have h7 := @run_callFunc_extern Tryz.prog 56 _ (ReflectliteValue.methodAny (ReflectliteValue.valueError "reflectlite.Value.Type" 0) (fun t _ _ _ => ReflectliteType.toType t)) Tryz.func56 (by kernel_rfl) (by kernel_rfl) (by kernel_rfl) (by kernel_rfl)
  have h8 := @run_callFunc_extern Tryz.prog 57 _ (ReflectliteValue.method (ReflectliteValue.valueError "reflectlite.Value.IsNil" 0) ReflectliteValue.isNil) Tryz.func57 (by kernel_rfl) (by kernel_rfl) (by kernel_rfl) (by kernel_rfl)
  have h27 := @run_callFunc_extern Tryz.prog 143 _ (ReflectliteType.abiMethod fun t => do pure (.int .u8 (← Rtype.kind t))) Tryz.func143 (by kernel_rfl) (by kernel_rfl) (by kernel_rfl) (by kernel_rfl)
  have h37 := @run_callFunc_extern Tryz.prog 157 _ (ReflectliteType.method ReflectliteType.elem) Tryz.func157 (by kernel_rfl) (by kernel_rfl) (by kernel_rfl) (by kernel_rfl)
  have h38 := @run_callFunc_extern Tryz.prog 158 _ (ReflectliteType.relation "Implements" ReflectliteType.implements_) Tryz.func158 (by kernel_rfl) (by kernel_rfl) (by kernel_rfl) (by kernel_rfl)
  have h10 := @run_callFunc_extern Tryz.prog 78 _ ReflectliteType.typeOf Tryz.func78 (by kernel_rfl) (by kernel_rfl) (by kernel_rfl) (by kernel_rfl)
  have h35 := @run_callFunc_extern Tryz.prog 155 _ (ReflectliteType.relation "AssignableTo" ReflectliteType.assignableTo) Tryz.func155 (by kernel_rfl) (by kernel_rfl) (by kernel_rfl) (by kernel_rfl)
  have h11 := @run_callFunc_extern Tryz.prog 79 _ (ReflectliteValue.method (ReflectliteValue.valueError "reflectlite.Value.Elem" 0) ReflectliteValue.elem) Tryz.func79 (by kernel_rfl) (by kernel_rfl) (by kernel_rfl) (by kernel_rfl)
  have h12 := @run_callFunc_extern Tryz.prog 80 _ ReflectliteValue.set Tryz.func80 (by kernel_rfl) (by kernel_rfl) (by kernel_rfl) (by kernel_rfl)
  have tO := typeOfF
  have mA := methodAssignableTo
  have a25 := assignF
  have v25 := valueOfF
  have f6 := valueOfP
  have f7 := typeP
  have mK := methodKind
  have mE := methodElem
  have mI := methodImplements
  have k27 := kindP
  have k25 := kindF
  have e27 := elemP
  have i25 := implF
  have hlt : 0 < w.heap.size := by
    rcases Nat.lt_or_ge 0 w.heap.size with h | h
    · exact h
    · simp [World.cell?, Array.getElem?_eq_none h] at hg
  have n8 := isNilP ⟨w.heap.size, 0, none⟩ t ((w.alloc (.cells #[.pointer (some t)] 93)).alloc (.cells #[hd 93, .pointer (some ⟨w.heap.size, 0, none⟩), .int .u64 150] 124)) (by simp)
  have hg2 : ((w.alloc (.cells #[.pointer (some t)] 93)).alloc (.cells #[hd 93, .pointer (some ⟨w.heap.size, 0, none⟩), .int .u64 150] 124)).cell? ⟨0, 0, none⟩ = some (rt 36) := by
    rw [World.cell?_alloc_lt _ _ ⟨0, 0, none⟩ (by first | (simp; done) | (simp; omega)), World.cell?_alloc_lt _ _ ⟨0, 0, none⟩ hlt]; exact hg
  have el := elemVP ⟨w.heap.size, 0, none⟩ t (laidP w t) (by unfold laidP; rw [World.cell?_alloc_lt _ _ ⟨w.heap.size, 0, none⟩ (by simp; omega)]; simp)
  have st := setF t (w.heap.size + 1 + 1 + 1) n a ((laidP w t).alloc (.cells #[.int .i64 n, .int .i64 a] 92)) W'
    (by rw [World.cell?_alloc_at _ _ _ _ (by simp [laidP])]; rfl)
    (by rw [World.cell?_alloc_at _ _ _ _ (by simp [laidP])]; rfl) hst
  unfold laidP at el st
  clear hst
  go_enter Tryz.func37, Tryz.ntmps37
  go_wp2
  refine wp_loop_rounds 1 ?_
  rw [rounds_succ]
  go_wp2
  go_ret
  exact ⟨rfl, rfl⟩
end Go.Proofs.YtjlicambfepfiaaGreatDoor.As
/- errors.As at the target *Errno: a Fault's number, behind its Unwrap. -/
set_option linter.unusedVariables false
set_option linter.unusedSimpArgs false
namespace Go.Proofs.YtjlicambfepfiaaGreatDoor.As
open Go Go.RowKit Go.Extern.Stop Go.Stop Go.Extern
set_option maxRecDepth 100000

theorem valueOfQ (t : Addr) (w : World) : (ReflectliteValue.unpack (.iface 90 (.pointer (some t)))).run Tryz.prog w
    = .ok (.agg #[hd 90, .pointer (some ⟨w.heap.size, 0, none⟩), .int .u64 150]) (w.alloc (.cells #[.pointer (some t)] 90)) := by kernel_rfl
theorem typeQ (a : Addr) (w : World) : (ReflectliteValue.methodAny (ReflectliteValue.valueError "reflectlite.Value.Type" 0) (fun t _ _ _ => ReflectliteType.toType t) #[.agg #[hd 90, .pointer (some a), .int .u64 150]]).run Tryz.prog w = .ok (rt 90) w := by kernel_rfl
theorem kindQ (w : World) : ((ReflectliteType.abiMethod fun t => (fun a : Nat => Value.int IntKind.u8 (a : Int)) <$> Rtype.kind t) #[hd 90]).run Tryz.prog w = .ok (.int .u8 22) w := by kernel_rfl
theorem kindE (w : World) : ((ReflectliteType.abiMethod fun t => (fun a : Nat => Value.int IntKind.u8 (a : Int)) <$> Rtype.kind t) #[hd 39]).run Tryz.prog w = .ok (.int .u8 2) w := by kernel_rfl
theorem elemQ (w : World) : (ReflectliteType.method ReflectliteType.elem #[.agg #[hd 90]]).run Tryz.prog w = .ok (rt 39) w := by kernel_rfl
theorem implE (w : World) : (ReflectliteType.relation "Implements" ReflectliteType.implements_ #[.agg #[hd 39], rt 36]).run Tryz.prog w = .ok (.bool true) w := by kernel_rfl
theorem typeOfE (v : Value) (w : World) : (ReflectliteType.typeOf #[.iface 39 v]).run Tryz.prog w = .ok (rt 39) w := by kernel_rfl
theorem assignFE (w : World) : (ReflectliteType.relation "AssignableTo" ReflectliteType.assignableTo #[.agg #[hd 92], rt 39]).run Tryz.prog w = .ok (.bool false) w := by kernel_rfl
theorem assignE (w : World) : (ReflectliteType.relation "AssignableTo" ReflectliteType.assignableTo #[.agg #[hd 39], rt 39]).run Tryz.prog w = .ok (.bool true) w := by kernel_rfl
theorem valueOfE (n : Int) (w : World) : (ReflectliteValue.unpack (.iface 39 (.int .i64 n))).run Tryz.prog w
    = .ok (.agg #[hd 39, .pointer (some ⟨w.heap.size, 0, none⟩), .int .u64 130]) (w.alloc (.cells #[.int .i64 n] 39)) := by kernel_rfl
theorem partsQ (a : Addr) (w : World) : (ReflectliteValue.parts (.agg #[hd 90, .pointer (some a), .int .u64 150])).run Tryz.prog w = .ok (some (90, a, 150)) w := by kernel_rfl
theorem isNilQ (a p : Addr) (W : World) (ha : W.cell? a = some (.pointer (some p))) :
    (ReflectliteValue.method (ReflectliteValue.valueError "reflectlite.Value.IsNil" 0) ReflectliteValue.isNil #[.agg #[hd 90, .pointer (some a), .int .u64 150]]).run Tryz.prog W = .ok (.bool false) W := by
  rw [rlm]
  simp only [Sem.run_bind, partsQ, Result.andThen]
  simp [ReflectliteValue.isNil, loadVar, isAgg, underlying, Tryz.underlying90, ha, Result.andThen]
theorem elemOfQ (w : World) : (Rtype.elem? 90).run Tryz.prog w = .ok (some 39) w := by kernel_rfl
theorem mkE (p : Addr) (w : World) : (ReflectliteValue.mk 39 p ReflectliteValue.flagAddr).run Tryz.prog w = .ok (.agg #[hd 39, .pointer (some p), .int .u64 386]) w := by kernel_rfl
theorem elemVQ (a p : Addr) (W : World) (ha : W.cell? a = some (.pointer (some p))) :
    (ReflectliteValue.method (ReflectliteValue.valueError "reflectlite.Value.Elem" 0) ReflectliteValue.elem #[.agg #[hd 90, .pointer (some a), .int .u64 150]]).run Tryz.prog W
      = .ok (.agg #[hd 39, .pointer (some p), .int .u64 386]) W := by
  rw [rlm]
  simp only [Sem.run_bind, partsQ, Result.andThen]
  simp [ReflectliteValue.elem, loadVar, isAgg, underlying, Tryz.underlying90, ha, Result.andThen, elemOfQ, mkE]
theorem partsEa (a : Addr) (w : World) : (ReflectliteValue.parts (.agg #[hd 39, .pointer (some a), .int .u64 386])).run Tryz.prog w = .ok (some (39, a, 386)) w := by kernel_rfl
theorem partsE (a : Addr) (w : World) : (ReflectliteValue.parts (.agg #[hd 39, .pointer (some a), .int .u64 130])).run Tryz.prog w = .ok (some (39, a, 130)) w := by kernel_rfl
theorem directE (w : World) : (Rtype.directlyAssignable 39 39).run Tryz.prog w = .ok true w := by kernel_rfl
theorem sizeE (w : World) : (sizeOf 39).run Tryz.prog w = .ok 1 w := by kernel_rfl
theorem setE (t : Addr) (bb : Nat) (n : Int) (W W' : World) (hb0 : W.cell? ⟨bb, 0, none⟩ = some (.int .i64 n))
    (hst : (storeCells t [.int .i64 n]).run Tryz.prog W = .ok () W') :
    (ReflectliteValue.set #[.agg #[hd 39, .pointer (some t), .int .u64 386], .agg #[hd 39, .pointer (some ⟨bb, 0, none⟩), .int .u64 130]]).run Tryz.prog W = .ok (.tuple #[]) W' := by
  rw [rls]
  simp only [Sem.run_bind, partsEa, partsE, Result.andThen]
  simp [ReflectliteValue.flagAddr, loadVar, isAgg, underlying, Tryz.underlying39, Result.andThen, directE, storeVar, Value.cells, sizeE, hb0, hst]
theorem methodUnwrap (v : Value) (w : World) : (Go.method 355 92 v "Unwrap").run Tryz.prog w = .ok (148, v) w := by kernel_rfl
theorem unwrap (n a : Int) (w : World) : Calls Tryz.prog 148 #[.agg #[.int .i64 n, .int .i64 a]] w fun ev w' => ev = .returned (.iface 39 (.int .i64 n)) ∧ w' = w.alloc (.cells #[.int .i64 n, .int .i64 a] 92) := by
  go_enter Tryz.func148, Tryz.ntmps148
  go_wp2
  go_ret
  exact ⟨rfl, rfl⟩
def laidQ (w : World) (t : Addr) : World := ((w.alloc (.cells #[.pointer (some t)] 90)).alloc (.cells #[hd 90, .pointer (some ⟨w.heap.size, 0, none⟩), .int .u64 150] 124)).alloc (.cells #[hd 90, .pointer (some ⟨w.heap.size, 0, none⟩), .int .u64 150] 124)

set_option maxHeartbeats 4000000 in
theorem as_number (n a : Int) (t : Addr) (w W' : World) (hg : w.cell? ⟨0, 0, none⟩ = some (rt 36)) (ht : t.block < w.heap.size)
    (hst : (storeCells t [.int .i64 n]).run Tryz.prog (((laidQ w t).alloc (.cells #[.int .i64 n, .int .i64 a] 92)).alloc (.cells #[.int .i64 n] 39)) = .ok () W') :
    Calls Tryz.prog 37 #[.iface 92 (.agg #[.int .i64 n, .int .i64 a]), .iface 90 (.pointer (some t))] w fun ev w' => ev = .returned (.bool true) ∧ w' = W' := by
  have h6 := @run_callFunc_extern Tryz.prog 55 _ (fun args => ReflectliteValue.unpack (args.getD 0 (.tuple #[]))) Tryz.func55 (by kernel_rfl) (by kernel_rfl) (by kernel_rfl) (by kernel_rfl)
  have h7 := @run_callFunc_extern Tryz.prog 56 _ (ReflectliteValue.methodAny (ReflectliteValue.valueError "reflectlite.Value.Type" 0) (fun t _ _ _ => ReflectliteType.toType t)) Tryz.func56 (by kernel_rfl) (by kernel_rfl) (by kernel_rfl) (by kernel_rfl)
  have h8 := @run_callFunc_extern Tryz.prog 57 _ (ReflectliteValue.method (ReflectliteValue.valueError "reflectlite.Value.IsNil" 0) ReflectliteValue.isNil) Tryz.func57 (by kernel_rfl) (by kernel_rfl) (by kernel_rfl) (by kernel_rfl)
  have h27 := @run_callFunc_extern Tryz.prog 143 _ (ReflectliteType.abiMethod fun t => do pure (.int .u8 (← Rtype.kind t))) Tryz.func143 (by kernel_rfl) (by kernel_rfl) (by kernel_rfl) (by kernel_rfl)
  have h37 := @run_callFunc_extern Tryz.prog 157 _ (ReflectliteType.method ReflectliteType.elem) Tryz.func157 (by kernel_rfl) (by kernel_rfl) (by kernel_rfl) (by kernel_rfl)
  have h38 := @run_callFunc_extern Tryz.prog 158 _ (ReflectliteType.relation "Implements" ReflectliteType.implements_) Tryz.func158 (by kernel_rfl) (by kernel_rfl) (by kernel_rfl) (by kernel_rfl)
  have h10 := @run_callFunc_extern Tryz.prog 78 _ ReflectliteType.typeOf Tryz.func78 (by kernel_rfl) (by kernel_rfl) (by kernel_rfl) (by kernel_rfl)
  have h35 := @run_callFunc_extern Tryz.prog 155 _ (ReflectliteType.relation "AssignableTo" ReflectliteType.assignableTo) Tryz.func155 (by kernel_rfl) (by kernel_rfl) (by kernel_rfl) (by kernel_rfl)
  have h11 := @run_callFunc_extern Tryz.prog 79 _ (ReflectliteValue.method (ReflectliteValue.valueError "reflectlite.Value.Elem" 0) ReflectliteValue.elem) Tryz.func79 (by kernel_rfl) (by kernel_rfl) (by kernel_rfl) (by kernel_rfl)
  have h12 := @run_callFunc_extern Tryz.prog 80 _ ReflectliteValue.set Tryz.func80 (by kernel_rfl) (by kernel_rfl) (by kernel_rfl) (by kernel_rfl)
  have tO := typeOfF
  have tO2 := typeOfE
  have mA := methodAssignableTo
  have a25 := assignFE
  have a26 := assignE
  have v25 := valueOfE
  have f6 := valueOfQ
  have f7 := typeQ
  have mK := methodKind
  have mE := methodElem
  have mI := methodImplements
  have k27 := kindQ
  have k25 := kindE
  have e27 := elemQ
  have i25 := implE
  have hlt : 0 < w.heap.size := by
    rcases Nat.lt_or_ge 0 w.heap.size with h | h
    · exact h
    · simp [World.cell?, Array.getElem?_eq_none h] at hg
  have n8 := isNilQ ⟨w.heap.size, 0, none⟩ t ((w.alloc (.cells #[.pointer (some t)] 90)).alloc (.cells #[hd 90, .pointer (some ⟨w.heap.size, 0, none⟩), .int .u64 150] 124)) (by simp)
  have hg2 : ((w.alloc (.cells #[.pointer (some t)] 90)).alloc (.cells #[hd 90, .pointer (some ⟨w.heap.size, 0, none⟩), .int .u64 150] 124)).cell? ⟨0, 0, none⟩ = some (rt 36) := by
    rw [World.cell?_alloc_lt _ _ ⟨0, 0, none⟩ (by first | (simp; done) | (simp; omega)), World.cell?_alloc_lt _ _ ⟨0, 0, none⟩ hlt]; exact hg
  have el := elemVQ ⟨w.heap.size, 0, none⟩ t ((laidQ w t).alloc (.cells #[.int .i64 n, .int .i64 a] 92)) (by unfold laidQ; rw [World.cell?_alloc_lt _ _ ⟨w.heap.size, 0, none⟩ (by simp; omega)]; rw [World.cell?_alloc_lt _ _ ⟨w.heap.size, 0, none⟩ (by simp; omega)]; simp)
  have st := setE t (w.heap.size + 1 + 1 + 1 + 1) n (((laidQ w t).alloc (.cells #[.int .i64 n, .int .i64 a] 92)).alloc (.cells #[.int .i64 n] 39)) W'
    (by rw [World.cell?_alloc_at _ _ _ _ (by simp [laidQ])]; rfl) hst
  have mU := methodUnwrap
  have tA := fun (v : Value) (xT : TypeId) (w : World) => run_typeAssert_lacksB (P := Tryz.prog) (t := 92) (asserted := 163) Tryz.underlying163 (by kernel_rfl) (z := .nilIface) (by kernel_rfl) v xT w
  have tU := fun (v : Value) (xT : TypeId) (w : World) => run_typeAssert_hasB (P := Tryz.prog) (t := 92) (asserted := 166) Tryz.underlying166 (by kernel_rfl) v xT w
  unfold laidQ at el st
  clear hst
  go_enter Tryz.func37, Tryz.ntmps37
  go_wp2
  refine wp_loop_rounds 2 ?_
  rw [rounds_succ]
  go_wp2_with (go_at_call 148; refine (unwrap n a _).mono ?_; rintro e w' ⟨rfl, rfl⟩)
  rw [rounds_succ]
  go_wp2
  go_ret
  exact ⟨rfl, rfl⟩
end Go.Proofs.YtjlicambfepfiaaGreatDoor.As

set_option linter.unusedVariables false
set_option linter.unusedSimpArgs false
namespace Go.Proofs.YtjlicambfepfiaaGreatDoor.Ab
open Go Go.RowKit
set_option maxHeartbeats 1000000
set_option maxRecDepth 100000

/-- The library's type of an error lies in the world. -/
abbrev ErrT (w : World) : Prop := w.cell? ⟨0, 0, none⟩ = some (As.rt 36)
theorem errT_at {w0 w : World} {G : Loc} {m : Mem} (h : ErrT w0) (hs : St Tryz.prog w0 G m w) : ErrT w := by
  have hlt : 0 < w0.heap.size := by
    rcases Nat.lt_or_ge 0 w0.heap.size with h' | h'
    · exact h'
    · simp [ErrT, World.cell?, Array.getElem?_eq_none h'] at h
  unfold ErrT World.cell? at h ⊢
  rw [hs.below.block 0 hlt]; exact h
theorem c_asPlace {w0 : World} {m : Mem} {i : Nat} {n a : Int} {c0 c1 : Value} {Q : Value → Mem → Prop} (hT : ErrT w0) (hg : m.get i = .own [c0, c1] 92) (hq : Q (.bool true) (m.set i (.own [.int .i64 n, .int .i64 a] 92))) :
    AbC Tryz.prog w0 37 [.iface 92 (.agg ⟨[.int .i64 n, .int .i64 a]⟩), .iface 93 (.pointer (some ⟨i, 0, none⟩))] m Q := by
  intro G w args' hs hargs
  cases hargs with
  | cons _ v1 _ l1 h1 hargs =>
  cases hargs with
  | cons _ v2 _ l2 h2 hargs =>
  cases hargs
  have e1 : v1 = .iface 92 (.agg ⟨[.int .i64 n, .int .i64 a]⟩) := VR.plain_eq 6 _ _ rfl h1
  subst e1
  cases h2 with
  | iface _ _ v2 h2 =>
  cases h2 with
  | ptr _ _ B b S hG =>
  rw [run_callFunc_enter (by kernel_rfl)]
  show Calls _ _ _ _ _
  have hlt : B < w.heap.size := hs.lim i B b S (by rw [hg]; simp) hG
  have hbel : Below w.heap.size w ((As.laidP w ⟨B, b + 0, none⟩).alloc (.cells #[.int .i64 n, .int .i64 a] 92)) :=
    ((((Below.refl _ w).alloc (by simp) _).alloc (by simp) _).alloc (by simp; omega) _).alloc (by simp [As.laidP]; omega) _
  have hs4 := hs.grown hbel
  obtain ⟨w', h3, h4⟩ := snd_put (o := 0) (vs := [.int .i64 n, .int .i64 a]) (vs' := [.int .i64 n, .int .i64 a]) hs4 hG hg (by simp) (.cons _ _ _ _ (.int _ _) (.cons _ _ _ _ (.int _ _) .nil)) rfl
  refine (As.as_place n a ⟨B, b + 0, none⟩ w w' (errT_at hT hs) hlt h3).mono ?_
  rintro e w2 ⟨rfl, rfl⟩
  exact ⟨_, rfl, G, .bool true, _, Loc.le_refl G, .bool true, h4, hq⟩
theorem c_asNumber {w0 : World} {m : Mem} {i : Nat} {n a : Int} {c0 : Value} {Q : Value → Mem → Prop} (hT : ErrT w0) (hg : m.get i = .own [c0] 39) (hq : Q (.bool true) (m.set i (.own [.int .i64 n] 39))) :
    AbC Tryz.prog w0 37 [.iface 92 (.agg ⟨[.int .i64 n, .int .i64 a]⟩), .iface 90 (.pointer (some ⟨i, 0, none⟩))] m Q := by
  intro G w args' hs hargs
  cases hargs with
  | cons _ v1 _ l1 h1 hargs =>
  cases hargs with
  | cons _ v2 _ l2 h2 hargs =>
  cases hargs
  have e1 : v1 = .iface 92 (.agg ⟨[.int .i64 n, .int .i64 a]⟩) := VR.plain_eq 6 _ _ rfl h1
  subst e1
  cases h2 with
  | iface _ _ v2 h2 =>
  cases h2 with
  | ptr _ _ B b S hG =>
  rw [run_callFunc_enter (by kernel_rfl)]
  show Calls _ _ _ _ _
  have hlt : B < w.heap.size := hs.lim i B b S (by rw [hg]; simp) hG
  have hbel : Below w.heap.size w (((As.laidQ w ⟨B, b + 0, none⟩).alloc (.cells #[.int .i64 n, .int .i64 a] 92)).alloc (.cells #[.int .i64 n] 39)) :=
    (((((Below.refl _ w).alloc (by simp) _).alloc (by simp) _).alloc (by simp; omega) _).alloc (by simp [As.laidQ]; omega) _).alloc (by simp [As.laidQ]; omega) _
  have hs4 := hs.grown hbel
  obtain ⟨w', h3, h4⟩ := snd_put (o := 0) (vs := [.int .i64 n]) (vs' := [.int .i64 n]) hs4 hG hg (by simp) (.cons _ _ _ _ (.int _ _) .nil) rfl
  refine (As.as_number n a ⟨B, b + 0, none⟩ w w' (errT_at hT hs) hlt h3).mono ?_
  rintro e w2 ⟨rfl, rfl⟩
  exact ⟨_, rfl, G, .bool true, _, Loc.le_refl G, .bool true, h4, hq⟩

theorem c_Place {w0 : World} {m : Mem} {n a : Nat} {Q : Value → Mem → Prop} (hT : ErrT w0) (hq : ∀ m', Old m m' → Q (.int .i64 (a : Int)) m') : AbC Tryz.prog w0 20 [faultV n a] m Q := by
  refine AbC_fn ok20 (by simp) ?_
  simp -implicitDefEqProofs (disch := first | assumption | (simp only [wnA]; done) | (simp only [wnA]; omega) | omega | fail) [rc20, ro20, wkA, retV, stabOk, dC, ev, fillD, pickCells, putAt, bnd, slD, List.getElem?_cons_zero, List.getElem?_cons_succ, dR.eq_20, Mem.cell, Mem.row, wmA, faultV]
  refine c_asPlace hT (c0 := .int .i64 0) (c1 := .int .i64 0) (by simp) ?_
  simp -implicitDefEqProofs (disch := first | assumption | (simp only [wnA]; done) | (simp only [wnA]; omega) | omega | fail) [wkA, retV, stabOk, dC, ev, fillD, pickCells, putAt, bnd, slD, List.getElem?_cons_zero, List.getElem?_cons_succ, dR.eq_20, Mem.cell, Mem.row, wmA]
  exact hq _ (((Old.refl m).push _).set (Nat.le_refl _) _)
theorem c_Number {w0 : World} {m : Mem} {n a : Nat} {Q : Value → Mem → Prop} (hT : ErrT w0) (hq : ∀ m', Old m m' → Q (.int .i64 (n : Int)) m') : AbC Tryz.prog w0 19 [faultV n a] m Q := by
  refine AbC_fn ok19 (by simp) ?_
  simp -implicitDefEqProofs (disch := first | assumption | (simp only [wnA]; done) | (simp only [wnA]; omega) | omega | fail) [rc19, ro19, wkA, retV, stabOk, dC, ev, fillD, pickCells, putAt, bnd, slD, List.getElem?_cons_zero, List.getElem?_cons_succ, dR.eq_20, Mem.cell, Mem.row, wmA, faultV]
  refine c_asNumber hT (c0 := .int .i64 0) (by simp) ?_
  simp -implicitDefEqProofs (disch := first | assumption | (simp only [wnA]; done) | (simp only [wnA]; omega) | omega | fail) [wkA, retV, stabOk, dC, ev, fillD, pickCells, putAt, bnd, slD, List.getElem?_cons_zero, List.getElem?_cons_succ, dR.eq_20, Mem.cell, Mem.row, wmA]
  exact hq _ (((Old.refl m).push _).set (Nat.le_refl _) _)
theorem et : Tryz.prog.globalNamed "errors.errorType" = some 0 := by kernel_rfl
theorem rtN : (Tryz.prog.cutTypes.find? (·.1 == "internal/reflectlite.rtype")).map (·.2) = some 158 := by kernel_rfl
theorem oneRow : ((List.range 255).filter fun t => Tryz.prog.rowNamed t [101, 114, 114, 111, 114]) = [36] := by kernel_rfl
theorem tsize : Tryz.prog.types.size = 255 := by kernel_rfl
/-- What the rows lay of errors.errorType. -/
theorem errT_of {l : List (String × DataW Unit)} {W : World} (h : handlesMet Tryz.prog l W) (hm : ("errors.errorType", DataW.iface "internal/reflectlite.rtype" (.agg [.ptr (.lit (.string [101, 114, 114, 111, 114]))])) ∈ l) : ErrT W := by
  obtain ⟨name, u, ty, e1, e2, e3, e4, e5⟩ := h _ hm
  have en : name = [101, 114, 114, 111, 114] := (Option.some.inj e1).symm
  subst en
  obtain rfl := Option.some.inj (rtN.symm.trans e2)
  have hm : ty ∈ (List.range 255).filter fun t => Tryz.prog.rowNamed t [101, 114, 114, 111, 114] := List.mem_filter.2 ⟨List.mem_range.2 (by rw [← tsize]; exact e3), e4⟩
  rw [oneRow] at hm
  obtain rfl := List.mem_singleton.1 hm
  have hh : typeHandle Tryz.prog 36 = .pointer (some ⟨7, 36, none⟩) := by kernel_rfl
  rw [hh] at e5
  have := World.var?_cell et e5 0
  show W.cell? ⟨0, 0, none⟩ = _
  rw [this]; rfl
end Go.Proofs.YtjlicambfepfiaaGreatDoor.Ab

set_option linter.unusedVariables false
set_option linter.unusedSimpArgs false
namespace Go.Proofs.YtjlicambfepfiaaGreatDoor.Ab
open Go Go.RowKit
set_option maxHeartbeats 4000000
set_option maxRecDepth 100000

/-! The document's digits. -/
theorem dec_sub : ∀ k : Fin 10, (ByteArray.mk #[48, 49, 50, 51, 52, 53, 54, 55, 56, 57]).extract k.val (k.val + 1) = ⟨⟨[digC k.val]⟩⟩ := by decide +kernel
theorem numS_nat (B n : Nat) : numS B (n : Int) = digs B n := by
  unfold numS sgn
  rw [if_neg (by simp)]
  simp
theorem c_digN {w0 : World} {m : Mem} : ∀ (n : Nat), n ≤ 9223372036854775807 → ∀ {Q : Value → Mem → Prop}, Q (.string ⟨⟨digs 10 n⟩⟩) m → AbC Tryz.prog w0 17 [.int .i64 (n : Int)] m Q := by
  intro n
  induction n using Nat.strongRecOn with
  | _ n ih =>
    intro hn Q hq
    refine AbC_fn ok17 (by simp) ?_
    have f0 : (0 : Int) ≤ (n : Int) := by omega
    simp -implicitDefEqProofs (disch := first | assumption | (simp only [wnA]; done) | (simp only [wnA]; omega) | omega | fail) [rc17, ro17, wkA, retV, stabOk, dC, ev, fillD, pickCells, putAt, bnd, slD, List.getElem?_cons_zero, List.getElem?_cons_succ, dR.eq_20, Mem.cell, Mem.row, wmA, ltF f0, rc17_1]
    by_cases hb : n < 10
    · have hb' : (n : Int) < (10 : Int) := by omega
      have h16 : n < 10 := by omega
      have hs := dec_sub ⟨n, h16⟩
      simp only at hs
      have hw : IntKind.i64.wrap ((n : Int) + 1) = ((n + 1 : Nat) : Int) := by rw [w64 (by omega)]; omega
      have hsz : (ByteArray.mk #[48, 49, 50, 51, 52, 53, 54, 55, 56, 57]).size = 10 := rfl
      have p1 : (0 : Int) ≤ (n : Int) + 1 ∧ (n : Int) + 1 ≤ 10 := by omega
      have p3 : (n : Int) ≤ (n : Int) + 1 := by omega
      rw [digs_lt hb] at hq
      generalize digC n = c at *
      simp -implicitDefEqProofs (disch := first | assumption | (simp only [wnA]; done) | (simp only [wnA]; omega) | omega | fail) [wkA, retV, stabOk, dC, ev, fillD, pickCells, putAt, bnd, slD, List.getElem?_cons_zero, List.getElem?_cons_succ, dR.eq_20, Mem.cell, Mem.row, wmA, ltT hb', hb, hw, hsz, p1, p3, hs]
      exact hq
    · have hb' : ¬ (n : Int) < (10 : Int) := by omega
      have hB0 : (10 : Int) ≠ 0 := by omega
      have hd : (n : Int).tdiv (10 : Int) = ((n / 10 : Nat) : Int) := by rw [Int.tdiv_eq_ediv_of_nonneg (by omega)]; rfl
      have hm : (n : Int).tmod (10 : Int) = ((n % 10 : Nat) : Int) := by rw [Int.tmod_eq_emod_of_nonneg (by omega)]; rfl
      have h1 : n / 10 < n := Nat.div_lt_self (by omega) (by omega)
      have h2 : n % 10 < 10 := Nat.mod_lt _ (by omega)
      have hDle : n / 10 ≤ n := Nat.div_le_self _ _
      have hwd : IntKind.i64.wrap ((n / 10 : Nat) : Int) = ((n / 10 : Nat) : Int) := by
        generalize n / 10 = D at hDle ⊢
        exact w64 (by omega)
      have l1 := digs_64 (b := 10) (by omega) (show n / 10 < 18446744073709551616 by omega)
      have hdl : (digs 10 (n % 10)).length = 1 := by rw [digs_lt h2]; rfl
      have hcat := cat2 (a := digs 10 (n / 10)) (b := digs 10 (n % 10)) (by omega)
      have q1 : dBin .quo (.int .i64 (n : Int)) (.int .i64 (10 : Int)) = some (.int .i64 ((n / 10 : Nat) : Int)) := by rw [dBin_quo hB0, hd, hwd]
      have q2 : dBin .rem (.int .i64 (n : Int)) (.int .i64 (10 : Int)) = some (.int .i64 ((n % 10 : Nat) : Int)) := by rw [dBin_rem hB0, hm]
      have hge : digs 10 n = digs 10 (n / 10) ++ digs 10 (n % 10) := by rw [digs_ge (by omega) (by omega), digs_lt h2]
      rw [hge] at hq
      generalize hD : n / 10 = D at *
      generalize hM : n % 10 = M at *
      simp -implicitDefEqProofs (disch := first | assumption | (simp only [wnA]; done) | (simp only [wnA]; omega) | omega | fail) [wkA, retV, stabOk, dC, ev, fillD, pickCells, putAt, bnd, slD, List.getElem?_cons_zero, List.getElem?_cons_succ, dR.eq_20, Mem.cell, Mem.row, wmA, hb, hb', q1, q2, rc17_0]
      refine ih D h1 (by omega) ?_
      simp -implicitDefEqProofs (disch := first | assumption | (simp only [wnA]; done) | (simp only [wnA]; omega) | omega | fail) [wkA, retV, stabOk, dC, ev, fillD, pickCells, putAt, bnd, slD, List.getElem?_cons_zero, List.getElem?_cons_succ, dR.eq_20, Mem.cell, Mem.row, wmA, q2]
      refine ih M (by omega) (by omega) ?_
      simp -implicitDefEqProofs (disch := first | assumption | (simp only [wnA]; done) | (simp only [wnA]; omega) | omega | fail) [wkA, retV, stabOk, dC, ev, fillD, pickCells, putAt, bnd, slD, List.getElem?_cons_zero, List.getElem?_cons_succ, dR.eq_20, Mem.cell, Mem.row, wmA, hcat]
      exact hq
theorem c_digits {w0 : World} {m : Mem} {n : Int} (hn : -9223372036854775807 ≤ n ∧ n ≤ 9223372036854775807) {Q : Value → Mem → Prop} (hq : Q (.string ⟨⟨numS 10 n⟩⟩) m) : AbC Tryz.prog w0 17 [.int .i64 n] m Q := by
  by_cases h : 0 ≤ n
  · obtain ⟨k, rfl⟩ : ∃ k : Nat, n = k := ⟨n.toNat, by omega⟩
    rw [numS_nat] at hq
    exact c_digN k (by omega) hq
  · obtain ⟨k, rfl⟩ : ∃ k : Nat, n = -(k : Int) := ⟨n.natAbs, by omega⟩
    refine AbC_fn ok17 (by simp) ?_
    have f0 : -(k : Int) < 0 := by omega
    have hw : IntKind.i64.wrap (0 - -(k : Int)) = (k : Int) := by rw [w64 (by omega)]; omega
    have hw' : IntKind.i64.wrap (k : Int) = (k : Int) := w64 (by omega)
    have hN : numS 10 (-(k : Int)) = 45 :: digs 10 k := by
      unfold numS sgn
      rw [if_pos (by simpa using f0)]
      simp
    rw [hN] at hq
    have l1 := digs_64 (b := 10) (by omega) (show k < 18446744073709551616 by omega)
    have hcat := cat2 (a := [45]) (b := digs 10 k) (by simp; omega)
    have hk0 : 0 < k := by omega
    simp -implicitDefEqProofs (disch := first | assumption | (simp only [wnA]; done) | (simp only [wnA]; omega) | omega | fail) [rc17, ro17, wkA, retV, stabOk, dC, ev, fillD, pickCells, putAt, bnd, slD, List.getElem?_cons_zero, List.getElem?_cons_succ, dR.eq_20, Mem.cell, Mem.row, wmA, ltT f0, hk0, hw, hw']
    refine c_digN k (by omega) ?_
    simp -implicitDefEqProofs (disch := first | assumption | (simp only [wnA]; done) | (simp only [wnA]; omega) | omega | fail) [wkA, retV, stabOk, dC, ev, fillD, pickCells, putAt, bnd, slD, List.getElem?_cons_zero, List.getElem?_cons_succ, dR.eq_20, Mem.cell, Mem.row, wmA, hcat]
    exact hq

end Go.Proofs.YtjlicambfepfiaaGreatDoor.Ab

set_option linter.unusedVariables false
set_option linter.unusedSimpArgs false
namespace Go.Proofs.YtjlicambfepfiaaGreatDoor.Ab
open Go Go.RowKit
set_option maxHeartbeats 4000000
set_option maxRecDepth 100000

theorem rem_u8 {k b : Nat} (hb : 0 < b) : dBin .rem (.int .u8 (k : Int)) (.int .u8 (b : Int)) = some (.int .u8 ((k % b : Nat) : Int)) := by
  rw [dBin_rem (by omega), Int.tmod_eq_emod_of_nonneg (by omega)]
  rfl
theorem c_dn {w0 : World} {m : Mem} {k : Nat} {Q : Value → Mem → Prop} (hq : Q (.string ⟨⟨digs 10 (k % 120)⟩⟩) m) : AbC Tryz.prog w0 16 [.int .u8 (k : Int)] m Q := by
  refine AbC_fn ok16 (by simp) ?_
  have h1 := rem_u8 (k := k) (b := 120) (by omega)
  have hlt : k % 120 < 120 := Nat.mod_lt _ (by omega)
  have hw : IntKind.i64.wrap ((k % 120 : Nat) : Int) = ((k % 120 : Nat) : Int) := w64 (by omega)
  generalize k % 120 = n at *
  have h1 : dBin .rem (.int .u8 (k : Int)) (.int .u8 120) = some (.int .u8 (n : Int)) := h1
  simp -implicitDefEqProofs (disch := first | assumption | (simp only [wnA]; done) | (simp only [wnA]; omega) | omega | fail) [rc16, ro16, wkA, retV, stabOk, dC, ev, fillD, pickCells, putAt, bnd, slD, List.getElem?_cons_zero, List.getElem?_cons_succ, dR.eq_20, Mem.cell, Mem.row, wmA, h1, hw]
  refine c_digits (n := (n : Int)) (by omega) ?_
  rw [numS_nat]
  simp -implicitDefEqProofs (disch := first | assumption | (simp only [wnA]; done) | (simp only [wnA]; omega) | omega | fail) [wkA, retV, stabOk, dC, ev, fillD, pickCells, putAt, bnd, slD, List.getElem?_cons_zero, List.getElem?_cons_succ, dR.eq_20, Mem.cell, Mem.row, wmA]
  exact hq

theorem l_DNumbers {w0 : World} {m : Mem} {k j : Nat} (hk : k ≤ 255) (hj : j ≤ 255) (hp : Part L0 m) (ht : Ten w0) (hE : ErrV w0) (hT : ErrT w0) :
    AbC Tryz.prog w0 4 [.int .u8 (k : Int), .int .u8 (j : Int)] m fun v _ => v = .bool true := by
  refine AbC_fn ok4 (by simp) ?_
  simp -implicitDefEqProofs (disch := first | assumption | (simp only [wnA]; done) | (simp only [wnA]; omega) | omega | fail) [rc4, ro4, wkA, retV, stabOk, dC, ev, fillD, pickCells, putAt, bnd, slD, List.getElem?_cons_zero, List.getElem?_cons_succ, dR.eq_20, Mem.cell, Mem.row, wmA]
  refine c_awake hp ?_
  simp -implicitDefEqProofs (disch := first | assumption | (simp only [wnA]; done) | (simp only [wnA]; omega) | omega | fail) [rc4_2, wkA, retV, stabOk, dC, ev, fillD, pickCells, putAt, bnd, slD, List.getElem?_cons_zero, List.getElem?_cons_succ, dR.eq_20, Mem.cell, Mem.row, wmA]
  refine c_dn ?_
  have hn : k % 120 < 120 := Nat.mod_lt _ (by omega)
  have hm : j % 15 < 15 := Nat.mod_lt _ (by omega)
  have hmm : j % 15 % 120 = j % 15 := Nat.mod_eq_of_lt (by omega)
  have r1 := rem_u8 (k := k) (b := 120) (by omega)
  have r2 := rem_u8 (k := j) (b := 15) (by omega)
  have w1 : IntKind.i64.wrap ((k % 120 : Nat) : Int) = ((k % 120 : Nat) : Int) := w64 (by omega)
  have w2 : IntKind.i64.wrap ((j % 15 : Nat) : Int) = ((j % 15 : Nat) : Int) := w64 (by omega)
  have hcd : ∀ (mm : Mem) (Q : Value → Mem → Prop), Q (.string ⟨⟨digs 10 (j % 15)⟩⟩) mm → AbC Tryz.prog w0 16 [.int .u8 ((j % 15 : Nat) : Int)] mm Q := fun mm Q hq => c_dn (by rw [hmm]; exact hq)
  clear hmm
  have hck : ∀ (mm : Mem) (Q : Value → Mem → Prop), Q (.string ⟨⟨digs 10 (k % 120)⟩⟩) mm → AbC Tryz.prog w0 16 [.int .u8 (k : Int)] mm Q := fun mm Q hq => c_dn hq
  generalize k % 120 = n at *
  generalize j % 15 = q at *
  have r1 : dBin .rem (.int .u8 (k : Int)) (.int .u8 120) = some (.int .u8 (n : Int)) := r1
  have r2 : dBin .rem (.int .u8 (j : Int)) (.int .u8 15) = some (.int .u8 (q : Int)) := r2
  have l1 := digs_64 (b := 10) (n := n) (by omega) (by omega)
  have l2 := digs_64 (b := 10) (n := q) (by omega) (by omega)
  obtain ⟨T1, hT1⟩ : ∃ x, headL ++ digs 10 n = x := ⟨_, rfl⟩
  obtain ⟨T2, hT2⟩ : ∃ x, T1 ++ midL = x := ⟨_, rfl⟩
  obtain ⟨T3, hT3⟩ : ∃ x, T2 ++ digs 10 q = x := ⟨_, rfl⟩
  have hT4 : numText n q = T3 ++ endL := by unfold numText; rw [hT1, hT2, hT3]
  have n1 : T1.length = 25 + (digs 10 n).length := by rw [← hT1]; simp [headL]; omega
  have n2 : T2.length = T1.length + 11 := by rw [← hT2]; simp [midL]
  have n3 : T3.length = T2.length + (digs 10 q).length := by rw [← hT3]; simp
  have n4 : (numText n q).length = T3.length + 6 := by rw [hT4]; simp [endL]
  have c1 : dBin .add (.string ⟨⟨[97, 58, 32, 101, 120, 112, 101, 99, 116, 32, 34, 120, 34, 32, 103, 111, 32, 97, 32, 97, 102, 116, 101, 114, 32]⟩⟩) (.string ⟨⟨digs 10 n⟩⟩) = some (.string ⟨⟨T1⟩⟩) := by rw [← hT1]; exact cat2 (by simp; omega)
  have c2 : dBin .add (.string ⟨⟨T1⟩⟩) (.string ⟨⟨[32, 103, 111, 32, 97, 59, 32, 116, 114, 121, 32]⟩⟩) = some (.string ⟨⟨T2⟩⟩) := by rw [← hT2]; exact cat2 (by simp; omega)
  have c3 : dBin .add (.string ⟨⟨T2⟩⟩) (.string ⟨⟨digs 10 q⟩⟩) = some (.string ⟨⟨T3⟩⟩) := by rw [← hT3]; exact cat2 (by omega)
  have c4 : dBin .add (.string ⟨⟨T3⟩⟩) (.string ⟨⟨[32, 103, 111, 32, 97, 59]⟩⟩) = some (.string ⟨⟨numText n q⟩⟩) := by rw [hT4]; exact cat2 (by simp; omega)
  have h25 : (ByteArray.mk #[97, 58, 32, 101, 120, 112, 101, 99, 116, 32, 34, 120, 34, 32, 103, 111, 32, 97, 32, 97, 102, 116, 101, 114, 32]).size = 25 := rfl
  have hcut := cut_nums (n := n) (m := q) (by omega) (by omega)
  have hcut : cutL 0 (numText n q) = .inr (numUs n q) := hcut
  have hb1 := parse_bad1 (n := n) (m := q)
  have hb2 := parse_bad2 (n := n) (m := q)
  have hg := parse_good (n := n) (m := q)
  clear hT1 hT2 hT3 hT4
  generalize numText n q = T at *
  generalize numUs n q = U at *
  simp -implicitDefEqProofs (disch := first | assumption | (simp only [wnA]; done) | (simp only [wnA]; omega) | omega | fail) [wkA, retV, stabOk, dC, ev, fillD, pickCells, putAt, bnd, slD, List.getElem?_cons_zero, List.getElem?_cons_succ, dR.eq_20, Mem.cell, Mem.row, wmA, c1, c2, r2]
  refine hcd _ _ ?_
  simp -implicitDefEqProofs (disch := first | assumption | (simp only [wnA]; done) | (simp only [wnA]; omega) | omega | fail) [wkA, retV, stabOk, dC, ev, fillD, pickCells, putAt, bnd, slD, List.getElem?_cons_zero, List.getElem?_cons_succ, dR.eq_20, Mem.cell, Mem.row, wmA, c3, c4]
  have hsz : (⟨⟨T⟩⟩ : ByteArray).size = T.length := by simp [ByteArray.size]
  refine c_Parse hp ht hE (fun h => by rw [hsz] at h; omega) (fun _ m3 a o3 hc3 => ?_) (fun _ m3 us3 e o3 hc3 hpe3 => ?_) fun h m3 us3 ob l3 o3 hc3 _ hpe3 s3 hob3 hAA3 hlu3 => ?_
  · have hc3 : cutL 0 T = .inl a := hc3
    rw [hcut] at hc3; cases hc3
  · have hc3 : cutL 0 T = .inr us3 := hc3
    rw [hcut] at hc3; cases hc3
    by_cases hn1 : n < 1 ∨ 99 < n
    · have := hb1 hn1
      rw [hpe3] at this
      cases this
      have hf : faultV 5 25 = .iface 92 (.agg ⟨[.int .i64 5, .int .i64 25]⟩) := rfl
      rcases (show (n : Int) < 1 ∨ (1 ≤ (n : Int) ∧ 99 < (n : Int)) by omega) with hx | ⟨hx, hy⟩
      · simp -implicitDefEqProofs (disch := first | assumption | (simp only [wnA]; done) | (simp only [wnA]; omega) | omega | fail) [wkA, retV, stabOk, dC, ev, fillD, pickCells, putAt, bnd, slD, List.getElem?_cons_zero, List.getElem?_cons_succ, dR.eq_20, Mem.cell, Mem.row, wmA, h25, r1, r2, w1, w2, ltT hx, hx]
        refine c_Number (n := 5) (a := 25) hT fun m4 o4 => ?_
        simp -implicitDefEqProofs (disch := first | assumption | (simp only [wnA]; done) | (simp only [wnA]; omega) | omega | fail) [wkA, retV, stabOk, dC, ev, fillD, pickCells, putAt, bnd, slD, List.getElem?_cons_zero, List.getElem?_cons_succ, dR.eq_20, Mem.cell, Mem.row, wmA]
        refine c_Place (n := 5) (a := 25) hT fun m5 o5 => ?_
        simp -implicitDefEqProofs (disch := first | assumption | (simp only [wnA]; done) | (simp only [wnA]; omega) | omega | fail) [wkA, retV, stabOk, dC, ev, fillD, pickCells, putAt, bnd, slD, List.getElem?_cons_zero, List.getElem?_cons_succ, dR.eq_20, Mem.cell, Mem.row, wmA]
      · simp -implicitDefEqProofs (disch := first | assumption | (simp only [wnA]; done) | (simp only [wnA]; omega) | omega | fail) [wkA, retV, stabOk, dC, ev, fillD, pickCells, putAt, bnd, slD, List.getElem?_cons_zero, List.getElem?_cons_succ, dR.eq_20, Mem.cell, Mem.row, wmA, h25, r1, r2, w1, w2, ltF hx, gtT hy, hx, hy]
        refine c_Number (n := 5) (a := 25) hT fun m4 o4 => ?_
        simp -implicitDefEqProofs (disch := first | assumption | (simp only [wnA]; done) | (simp only [wnA]; omega) | omega | fail) [wkA, retV, stabOk, dC, ev, fillD, pickCells, putAt, bnd, slD, List.getElem?_cons_zero, List.getElem?_cons_succ, dR.eq_20, Mem.cell, Mem.row, wmA]
        refine c_Place (n := 5) (a := 25) hT fun m5 o5 => ?_
        simp -implicitDefEqProofs (disch := first | assumption | (simp only [wnA]; done) | (simp only [wnA]; omega) | omega | fail) [wkA, retV, stabOk, dC, ev, fillD, pickCells, putAt, bnd, slD, List.getElem?_cons_zero, List.getElem?_cons_succ, dR.eq_20, Mem.cell, Mem.row, wmA]
    · have hx : 1 ≤ n ∧ n ≤ 99 := by omega
      by_cases hq1 : q < 1 ∨ 9 < q
      · have := hb2 hx hq1
        rw [hpe3] at this
        cases this
        have hy : 1 ≤ (n : Int) := by omega
        have hz : (n : Int) ≤ 99 := by omega
        have hds : (⟨⟨digs 10 n⟩⟩ : ByteArray).size = (digs 10 n).length := by simp [ByteArray.size]
        generalize digs 10 n = D at *
        have hf : faultV 5 (25 + D.length + 11) = .iface 92 (.agg ⟨[.int .i64 5, .int .i64 ((25 + D.length + 11 : Nat) : Int)]⟩) := rfl
        have u1 : IntKind.i64.wrap (25 + (D.length : Int)) = 25 + (D.length : Int) := w64 (by omega)
        have u2 : IntKind.i64.wrap (25 + (D.length : Int) + 11) = 25 + (D.length : Int) + 11 := w64 (by omega)
        rcases (show (q : Int) < 1 ∨ (1 ≤ (q : Int) ∧ 9 < (q : Int)) by omega) with hv | ⟨hv, hu⟩
        · simp -implicitDefEqProofs (disch := first | assumption | (simp only [wnA]; done) | (simp only [wnA]; omega) | omega | fail) [wkA, retV, stabOk, dC, ev, fillD, pickCells, putAt, bnd, slD, List.getElem?_cons_zero, List.getElem?_cons_succ, dR.eq_20, Mem.cell, Mem.row, wmA, h25, r1, r2, w1, w2, ltF hy, gtF hz, rc4_1, ltT hv, hx, hv]
          refine c_Number (n := 5) (a := 25 + D.length + 11) hT fun m4 o4 => ?_
          simp -implicitDefEqProofs (disch := first | assumption | (simp only [wnA]; done) | (simp only [wnA]; omega) | omega | fail) [wkA, retV, stabOk, dC, ev, fillD, pickCells, putAt, bnd, slD, List.getElem?_cons_zero, List.getElem?_cons_succ, dR.eq_20, Mem.cell, Mem.row, wmA]
          refine c_Place (n := 5) (a := 25 + D.length + 11) hT fun m5 o5 => ?_
          simp -implicitDefEqProofs (disch := first | assumption | (simp only [wnA]; done) | (simp only [wnA]; omega) | omega | fail) [wkA, retV, stabOk, dC, ev, fillD, pickCells, putAt, bnd, slD, List.getElem?_cons_zero, List.getElem?_cons_succ, dR.eq_20, Mem.cell, Mem.row, wmA]
          refine hck _ _ ?_
          simp -implicitDefEqProofs (disch := first | assumption | (simp only [wnA]; done) | (simp only [wnA]; omega) | omega | fail) [wkA, retV, stabOk, dC, ev, fillD, pickCells, putAt, bnd, slD, List.getElem?_cons_zero, List.getElem?_cons_succ, dR.eq_20, Mem.cell, Mem.row, wmA]
          rw [hds, u1, u2]
        · simp -implicitDefEqProofs (disch := first | assumption | (simp only [wnA]; done) | (simp only [wnA]; omega) | omega | fail) [wkA, retV, stabOk, dC, ev, fillD, pickCells, putAt, bnd, slD, List.getElem?_cons_zero, List.getElem?_cons_succ, dR.eq_20, Mem.cell, Mem.row, wmA, h25, r1, r2, w1, w2, ltF hy, gtF hz, rc4_1, ltF hv, gtT hu, hx, hv, hu]
          refine c_Number (n := 5) (a := 25 + D.length + 11) hT fun m4 o4 => ?_
          simp -implicitDefEqProofs (disch := first | assumption | (simp only [wnA]; done) | (simp only [wnA]; omega) | omega | fail) [wkA, retV, stabOk, dC, ev, fillD, pickCells, putAt, bnd, slD, List.getElem?_cons_zero, List.getElem?_cons_succ, dR.eq_20, Mem.cell, Mem.row, wmA]
          refine c_Place (n := 5) (a := 25 + D.length + 11) hT fun m5 o5 => ?_
          simp -implicitDefEqProofs (disch := first | assumption | (simp only [wnA]; done) | (simp only [wnA]; omega) | omega | fail) [wkA, retV, stabOk, dC, ev, fillD, pickCells, putAt, bnd, slD, List.getElem?_cons_zero, List.getElem?_cons_succ, dR.eq_20, Mem.cell, Mem.row, wmA]
          refine hck _ _ ?_
          simp -implicitDefEqProofs (disch := first | assumption | (simp only [wnA]; done) | (simp only [wnA]; omega) | omega | fail) [wkA, retV, stabOk, dC, ev, fillD, pickCells, putAt, bnd, slD, List.getElem?_cons_zero, List.getElem?_cons_succ, dR.eq_20, Mem.cell, Mem.row, wmA]
          rw [hds, u1, u2]
      · obtain ⟨l', e1, -⟩ := hg hx (by omega)
        rw [e1] at hpe3
        cases hpe3
  · have hc3 : cutL 0 T = .inr us3 := hc3
    rw [hcut] at hc3; cases hc3
    have hx : 1 ≤ n ∧ n ≤ 99 := by
      by_cases hn1 : n < 1 ∨ 99 < n
      · have := hb1 hn1
        rw [hpe3] at this
        cases this
      · omega
    have hx2 : 1 ≤ q ∧ q ≤ 9 := by
      by_cases hn1 : q < 1 ∨ 9 < q
      · have := hb2 hx hn1
        rw [hpe3] at this
        cases this
      · omega
    obtain ⟨l', e1, e2⟩ := hg hx hx2
    rw [hpe3] at e1
    have e3 : l3.map Prod.fst = l' := (Prod.mk.inj e1).1
    subst e3
    have hle : l3.length = 2 := by have := congrArg List.length e2; simpa using this
    match l3, hle, e2, s3 with
    | [x, y], _, e2, s3 =>
      obtain ⟨⟨xa, xb, xc, xd, xe, xf, xg⟩, xo⟩ := x
      obtain ⟨⟨ya, yb, yc, yd, ye, yf, yg⟩, yo⟩ := y
      simp only [List.map_cons, List.map_nil, clr, dn1, dn2, List.cons.injEq, DS.mk.injEq, and_true] at e2
      obtain ⟨⟨rfl, rfl, rfl, rfl, rfl, rfl⟩, rfl, rfl, rfl, rfl, rfl, rfl⟩ := e2
      cases ob with
      | none => exact absurd (show (2 : Nat) = 0 from s3.2) (by decide)
      | some b =>
        have gb := s3.2.1
        obtain ⟨av, hav⟩ : ∃ av, slV xo 1 2 = av := ⟨_, rfl⟩
        obtain ⟨bv, hbv⟩ : ∃ bv, slV yo 0 2 = bv := ⟨_, rfl⟩
        have gb : m3.get b = .own [.string ⟨⟨[97]⟩⟩, .int .i64 1, .string ⟨⟨[]⟩⟩, av, .int .i64 (n : Int), .string ⟨⟨[97]⟩⟩, .int .i64 xg, .string ⟨⟨[]⟩⟩, .int .i64 3, .string ⟨⟨[]⟩⟩, bv, .int .i64 (q : Int), .string ⟨⟨[97]⟩⟩, .int .i64 yg] 29 := by rw [← hav, ← hbv]; exact gb
        have s0 : sidx 7 (.slice (some ⟨b, 0, none⟩) 2 7) (.int .i64 0) = some (.pointer (some ⟨b, 0, none⟩)) := rfl
        have s1 : sidx 7 (.slice (some ⟨b, 0, none⟩) 2 7) (.int .i64 1) = some (.pointer (some ⟨b, 7, none⟩)) := rfl
        have hy : 1 ≤ (n : Int) := by omega
        have hz : (n : Int) ≤ 99 := by omega
        have hv : 1 ≤ (q : Int) := by omega
        have hu : (q : Int) ≤ 9 := by omega
        have hsv : slV (some b) 2 7 = .slice (some ⟨b, 0, none⟩) 2 7 := rfl
        simp -implicitDefEqProofs (disch := first | assumption | (simp only [wnA]; done) | (simp only [wnA]; omega) | omega | fail) [wkA, retV, stabOk, dC, ev, fillD, pickCells, putAt, bnd, slD, List.getElem?_cons_zero, List.getElem?_cons_succ, dR.eq_20, Mem.cell, Mem.row, wmA, h25, r1, r2, w1, w2, ltF hy, gtF hz, rc4_1, ltF hv, gtF hu, hx, hx2, rc4_0, hsv, s0, s1, gb]
theorem wf_u8n {n : Int} (h : (Lit.int .u8 n).wf = true) : ∃ k : Nat, n = k ∧ k ≤ 255 := by
  have : 0 ≤ n ∧ n ≤ 255 := by simpa [Lit.wf, IntKind.min, IntKind.max, IntKind.signed, IntKind.bits] using h
  exact ⟨n.toNat, by omega, by omega⟩
theorem l_DNumbersI {w0 : World} {m : Mem} {a b : Int} (ha : (Lit.int .u8 a).wf = true) (hb : (Lit.int .u8 b).wf = true) (hp : Part L0 m) (ht : Ten w0) (hE : ErrV w0) (hT : ErrT w0) :
    AbC Tryz.prog w0 4 [.int .u8 a, .int .u8 b] m fun v _ => v = .bool true := by
  obtain ⟨k, rfl, hk⟩ := wf_u8n ha
  obtain ⟨j, rfl, hj⟩ := wf_u8n hb
  exact l_DNumbers hk hj hp ht hE hT
end Go.Proofs.YtjlicambfepfiaaGreatDoor.Ab

namespace Go.Proofs.YtjlicambfepfiaaGreatDoor.dialogNumbers
open Go Go.ChangeShapes Go.WideShapes Go.ChangeAt Go.RowKit Go.Proofs.YtjlicambfepfiaaGreatDoor.Ab
set_option linter.unusedVariables false

theorem own : ownKnob Tryz.prog.godebug = none := by kernel_rfl
theorem laidOut : laidOutB Tryz.prog = true := by kernel_rfl

set_option maxRecDepth 100000 in
theorem contract (H : Type) (enc : TypeId × Value → H) (W : World) (base : Nat) (args : Array Value) (ds gs : List (DataW H)) (before : List MemPlace)
    (hval : ∀ (j : Nat) t v, Tryz.f4.params[j]? = some t → args[j]? = some v → Value.okWide Tryz.prog W .any base t v)
    (hW : DataW.Whole enc Tryz.prog Tryz.f4.params.toList Rows.dialogNumbersSpec.vars false W args.toList ds gs before) (hL : laidMetH Tryz.prog Rows.dialogNumbersRow.laid W) :
    Calls Tryz.prog 4 args W fun e W' => ∃ v, e = .returned v ∧ Rows.dialogNumbersSpec.post enc Tryz.prog Tryz.f4 false true false false W args v W' := by
  have hW' := hW
  obtain ⟨hL', hLh⟩ := (show laidMet Tryz.prog (Rows.dialogNumbersRow.laid.filter fun x => x.2.handleName?.isNone) W ∧ handlesMet Tryz.prog (Rows.dialogNumbersRow.laid.filter fun x => x.2.handleName?.isSome) W from hL)
  obtain ⟨p, q, hA0, hV, rfl, hfz, hnd⟩ := hW
  have hA : DataW.TrodAll enc Tryz.prog W 0 (fun _ => true) true Tryz.f4.params.toList args.toList ds p := hA0
  rw [Tryz.params4] at hA hval
  obtain ⟨v0, vs0, d0, ds0, p0, q0, hargs, rfl, rfl, h0, r0⟩ := trodAll_cons hA
  obtain ⟨v1, vs1, d1, ds1, p1, q1, rfl, rfl, rfl, h1, r1⟩ := trodAll_cons r0
  obtain ⟨rfl, rfl, rfl⟩ := trodAll_nil r1
  obtain rfl : args = #[v0, v1] := by cases args; simp_all
  obtain ⟨rfl, rfl⟩ := trodVars_none hV
  obtain ⟨a0, rfl⟩ := okWide_int Tryz.underlying5 (hval 0 5 v0 rfl rfl)
  have lt0 : ∀ x ∈ p0, x.block < W.heap.size := by obtain ⟨m, hm⟩ := h0; exact DataW.trod_lt m _ _ _ hm
  obtain ⟨a1, rfl⟩ := okWide_int Tryz.underlying5 (hval 1 5 v1 rfl rfl)
  have lt1 : ∀ x ∈ p1, x.block < W.heap.size := by obtain ⟨m, hm⟩ := h1; exact DataW.trod_lt m _ _ _ hm
  have s : St Tryz.prog W (G0 Tryz.prog) (toMem L0) W := St.laid globals_size L0_get laid_ok (laidIn hL' (List.mem_of_getElem? (i := 0) rfl) (List.mem_of_getElem? (i := 1) rfl) (List.mem_of_getElem? (i := 2) rfl))
  have hp : Part L0 (toMem L0) := Part.of L0_part (Nat.le_refl _) fun _ _ => rfl
  obtain ⟨G0, m0, x0, t0, g0, s0, u0, b0, f0, k0⟩ := arg_one (k := 5) (s := .int .u8) (by kernel_rfl) h0 rfl s
  have hp := g0.part hp
  obtain ⟨G1, m1, x1, t1, g1, s1, u1, b1, f1, k1⟩ := arg_one (k := 5) (s := .int .u8) (by kernel_rfl) h1 rfl s0
  have hp := g1.part hp
  have b0 := b0.mono g1.2.1 g1.2.2
  have u0 := u0.mono g1.1
  refine (AbC_true s1 (.cons _ _ _ _ u0 (.cons _ _ _ _ u1 .nil)) ((by obtain ⟨n1, hx1, -, w1⟩ := absT_int b0 f0; cases hx1; obtain ⟨n2, hx2, -, w2⟩ := absT_int b1 f1; cases hx2; exact l_DNumbersI w1 w2 hp (ten_of hL' (List.mem_of_getElem? (i := 2) rfl)) (errV_of hL' (List.mem_of_getElem? (i := 4) rfl) (List.mem_of_getElem? (i := 3) rfl)) (errT_of hLh (List.mem_of_getElem? (i := 0) rfl)))) (by kernel_rfl)).mono fun e W' ⟨he, bel⟩ => ?_
  subst he
  exact ⟨_, rfl, _, _, _, [], _, [], hW', trodAll_mk1 (shut_bool Tryz.underlying4 _), (trodAll_cons_mk (Below.trod laidOut (by kernel_rfl) (of_decide_eq_true (by kernel_rfl)) h0 bel lt0) (trodAll_cons_mk (Below.trod laidOut (by kernel_rfl) (of_decide_eq_true (by kernel_rfl)) h1 bel lt1) trodAll_mk0)), rfl, bel.frame _, fun h => by cases h⟩

noncomputable def laidWorld (os : Os) : World :=
  let N := (World.settled Tryz.prog os).heap.size
  { World.holding Tryz.prog os ⟨#[.cells #[.string ⟨#[118, 97, 108, 117, 101, 32, 111, 117, 116, 32, 111, 102, 32, 114, 97, 110, 103, 101]⟩] 226, .cells #[.string ⟨#[105, 110, 118, 97, 108, 105, 100, 32, 115, 121, 110, 116, 97, 120]⟩] 226], #[], []⟩ with heap := (((((((World.holding Tryz.prog os ⟨#[.cells #[.string ⟨#[118, 97, 108, 117, 101, 32, 111, 117, 116, 32, 111, 102, 32, 114, 97, 110, 103, 101]⟩] 226, .cells #[.string ⟨#[105, 110, 118, 97, 108, 105, 100, 32, 115, 121, 110, 116, 97, 120]⟩] 226], #[], []⟩).heap.modify 5 fun | .cells _ t frozen => .cells ⟨e32⟩ t frozen | o => o).modify 6 fun | .cells _ t frozen => .cells ⟨e64⟩ t frozen | o => o).modify 2 fun | .cells _ t frozen => .cells ⟨e10⟩ t frozen | o => o).modify 4 fun | .cells _ t frozen => .cells #[.iface 224 (.pointer (some ⟨N, 0, none⟩))] t frozen | o => o).modify 3 fun | .cells _ t frozen => .cells #[.iface 224 (.pointer (some ⟨N + 1, 0, none⟩))] t frozen | o => o).modify 0 fun | .cells _ t frozen => .cells #[.iface 158 (.agg #[.pointer (some ⟨7, 36, none⟩)])] t frozen | o => o) }
theorem laid_met (os : Os) : laidMetH Tryz.prog Rows.dialogNumbersRow.laid ((laidWorld os).forCall (fun _ _ => 0) ⟨#[], #[(.int .u8 0 : Value), (.int .u8 0 : Value)], []⟩).memory :=
  laidMetH_of_parts (laidMet_of_run' 8 (by kernel_rfl) (by kernel_rfl)) (by kernel_rfl)
theorem reads (os : Os) {H : Type} (enc : TypeId × Value → H) : ∃ places, DataW.whole enc Tryz.prog ((laidWorld os).forCall (fun _ _ => 0) ⟨#[], #[(.int .u8 0 : Value), (.int .u8 0 : Value)], []⟩).memory Tryz.f4.params.toList Rows.dialogNumbersSpec.vars false [(.int .u8 0 : Value), (.int .u8 0 : Value)] 8 = some ([.lit (.int .u8 0), .lit (.int .u8 0)], [], places) :=
  ⟨[], by kernel_rfl⟩

set_option maxRecDepth 100000 in
theorem lifted (os : Os) (started : os.Started) (H : Type) (enc : TypeId × Value → H) (F : Stop.Interp) :
    ReturnsInHanded {} Tryz.checked os 4 .any ((OpenSpec.ofChange Rows.dialogNumbersSpec).preRow enc Tryz.prog Tryz.f4 Rows.dialogNumbersRow.domain false Rows.dialogNumbersRow.laid) (((OpenSpec.ofChange Rows.dialogNumbersSpec).at F).post enc Tryz.prog Tryz.f4 false true false false) := by
  obtain ⟨places, hx⟩ := reads os enc
  refine returnsInHanded_of_row (C := Tryz.checked) (s := (OpenSpec.ofChange Rows.dialogNumbersSpec)) own started (by kernel_rfl) Tryz.func4
    (witness_row_atRef (enc := enc) (C := Tryz.checked) false (laidWorld os) #[(.int .u8 0 : Value), (.int .u8 0 : Value)] rfl (by kernel_rfl) (by kernel_rfl) (by kernel_rfl)
      (OpenSpec.preRow_of_cond 8 hx (by kernel_rfl) (fun k hk => by cases hk) (by kernel_rfl) (laid_met os))) ?_
  intro W base args ds gs before hval hW _ _ _ hL _ _
  exact contract H enc W base args ds gs before hval hW hL

theorem over : Rows.DialogNumbersSaid :=
  OpenClaim.holds_of_cond 4 Tryz.f4 rfl rfl rfl rfl rfl rfl rfl ⟨rfl, rfl, rfl, rfl, rfl⟩ rfl rfl rfl rfl rfl (by kernel_rfl) Tryz.func4 (by kernel_rfl)
    (of_decide_eq_true (by kernel_rfl)) (by unfold Func.isWrapper; first | (rw [if_pos (by decide +kernel)]; kernel_rfl) | (rw [if_neg (by decide +kernel)]; exact ⟨rfl, rfl⟩))
    (fun os started H enc _ F => by rw [OpenClaim.pre_eq_preRow]; exact lifted os started H enc F)

theorem plain (f : FuncId) (fn : Func) (hf : Tryz.pinned.checked.prog.funcNamed "lifeline/lifelinelaw17.DialogNumbers" = some f) (hfn : Tryz.pinned.checked.prog.funcs[f]? = some fn) :
    true = Tryz.pinned.checked.prog.looks [] ∧ ∀ (j : Nat) t, fn.params[j]? = some t → Tryz.pinned.checked.prog.wantsStandIn t = false := by
  obtain rfl : f = 4 := Option.some.inj ((show Tryz.prog.funcNamed "lifeline/lifelinelaw17.DialogNumbers" = some 4 by kernel_rfl).symm.trans hf) |>.symm
  obtain rfl : fn = Tryz.f4 := (Option.some.inj (Tryz.func4.symm.trans hfn)).symm
  refine ⟨by kernel_rfl, fun j t ht => ?_⟩
  rw [Tryz.params4] at ht
  have hall : ∀ t ∈ [5, 5], Tryz.prog.wantsStandIn t = false := by
    intro t ht
    simp only [List.mem_cons, List.mem_nil_iff, or_false] at ht
    rcases ht with rfl | rfl <;> kernel_rfl
  exact hall t (by simpa using Array.mem_of_getElem? ht)

theorem proved : Rows.DialogNumbersCardSaid :=
  Claim7.holds_tied_plain_at .later [] _ _ _ _ over (fun _ h => by cases h) (by kernel_rfl) (fun _ h => by cases h) dialogNumbers_row_tie rfl ⟨rfl, rfl⟩ (by kernel_rfl) rfl plain (by kernel_rfl)
#print axioms proved
end Go.Proofs.YtjlicambfepfiaaGreatDoor.dialogNumbers
