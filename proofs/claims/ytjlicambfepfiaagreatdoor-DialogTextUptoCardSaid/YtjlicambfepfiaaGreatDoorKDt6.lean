/- The law DialogText, as its statement says it: what it reads is of the bulk that the statement names; the listed variables hold what the program's text lays. -/
import Derived.Test.YtjlicambfepfiaaGreatDoorKDt5
import Derived.Test.YtjlicambfepfiaaGreatDoorCards
import Derived.Test.YtjlicambfepfiaaGreatDoorTie
import Derived.WalkKit
import Derived.ProofKit
import Derived.OpenShut
import Derived.JoinedCond
import Derived.ChangeOld
import Derived.Deep.DeepHandedRow
import Derived.Deep.DeepWitnessRowRef
set_option linter.unusedVariables false
set_option linter.unusedSimpArgs false
namespace Go.Proofs.YtjlicambfepfiaaGreatDoor.Ab
open Go Go.RowKit
set_option maxHeartbeats 4000000
set_option maxRecDepth 100000
theorem w_line2 {w0 : World} {Q : AQ} {fr : Fr} {m : Mem} {S : List UInt8} (t3 : fr 3 = .string ⟨⟨S⟩⟩) (hl : S.length ≤ 4398046511104)
    (hq : ∀ fr', fr' 2 = .string ⟨⟨S ++ [59, 10]⟩⟩ → Q .ret fr' m) : AbW Tryz.prog w0 rc39_2 Q fr m := by
  have c1 := cat2 (a := S) (b := [59, 10]) (by simp; omega)
  simp -implicitDefEqProofs (disch := first | assumption | (simp only [wnA]; done) | (simp only [wnA]; omega) | omega | (simp only [List.length_append, List.length_cons, List.length_nil]; omega) | fail) [rc39_2, wkA, retV, stabOk, dC, ev, fillD, pickCells, putAt, bnd, slD, List.getElem?_cons_zero, List.getElem?_cons_succ, dR.eq_20, Mem.cell, Mem.row, wmA, t3, c1]
  exact hq _ (by simp)

theorem w_body {w0 : World} {Q : AQ} {fr : Fr} {m : Mem} {b : Nat} {d : DS} {av : Value} {S : List UInt8} (ht : Ten w0) (hv : SlR m 2 av (d.arms.flatMap Arm.cells) d.arms.length) (hvb : ∀ b, blk av = some b → b < m.next) (hw : wD d ≤ 1099511627776) (hn : -9223372036854775808 ≤ d.n ∧ d.n ≤ 9223372036854775807)
    (hg : m.get b = .own (dsC d av) 29) (hb : b < m.next) (t1 : fr 1 = .pointer (some ⟨b, 0, none⟩)) (t3 : fr 3 = .string ⟨⟨S⟩⟩) (hS : S.length ≤ 1099511627776)
    (hq : ∀ fr' m', Old m m' → fr' 2 = .string ⟨⟨S ++ wordsL.getD (kN d.kd) [] ++ restL d ++ [59, 10]⟩⟩ → Q .ret fr' m') : AbW Tryz.prog w0 rc39_3 Q fr m := by
  have fin : ∀ fr' m' R, Old m m' → fr' 3 = .string ⟨⟨R⟩⟩ → R = S ++ wordsL.getD (kN d.kd) [] ++ restL d → R.length ≤ 4398046511104 → AbW Tryz.prog w0 rc39_2 Q fr' m' := by
    intro fr' m' R o e hR hl
    subst hR
    exact w_line2 e hl fun fr'' e2 => hq fr'' m' o e2
  obtain ⟨lb, kd, tx, arms, n, to, pl⟩ := d
  have hg : m.get b = .own [.string ⟨⟨lb⟩⟩, .int .i64 kd, .string ⟨⟨tx⟩⟩, av, .int .i64 n, .string ⟨⟨to⟩⟩, .int .i64 pl] 29 := hg
  have hkk : (if 0 < if 5 < kd then 5 else kd then if 5 < kd then 5 else kd else 0) = (kN kd : Int) := by
    by_cases h5 : 5 < kd
    · simp only [h5, if_true, kN, if_neg (show ¬ kd < 0 by omega), gt_iff_lt]
      rfl
    · simp only [h5, if_false, kN, gt_iff_lt]
      by_cases h0 : kd < 0
      · rw [if_neg (by omega), if_pos h0]; rfl
      · rw [if_neg h0]
        split <;> omega
  have hle := kN_le kd
  simp -implicitDefEqProofs (disch := first | assumption | (simp only [wnA]; done) | (simp only [wnA]; omega) | omega | fail) [rc39_3, wkA, retV, stabOk, dC, ev, fillD, pickCells, putAt, bnd, slD, List.getElem?_cons_zero, List.getElem?_cons_succ, dR.eq_20, Mem.cell, Mem.row, wmA, t1, hg]
  rw [hkk]
  refine c_words ?_
  obtain ⟨m1, hm1⟩ : ∃ m1, m.push (.own (wordsL.map fun w => .string ⟨⟨w⟩⟩) 9) = m1 := ⟨_, rfl⟩
  have o1 : Old m m1 := by subst hm1; exact (Old.refl m).push _
  have gw : m1.get m.next = .own (wordsL.map fun w => .string ⟨⟨w⟩⟩) 9 := by subst hm1; rw [Mem.push_same]
  have g1 := (o1.2 b hb).trans hg
  have hr : restL ⟨lb, kd, tx, arms, n, to, pl⟩ = restX (kN kd) ⟨lb, kd, tx, arms, n, to, pl⟩ := rfl
  simp only [hr] at fin
  clear hkk hr hq
  rw [hm1]
  have hix : sidx 1 (.slice (some ⟨m.next, 0, none⟩) 6 1) (.int .i64 ((kN kd : Nat) : Int)) = some (.pointer (some ⟨m.next, 0 + kN kd * 1, none⟩)) := sidx_at (by omega)
  simp only [Nat.zero_add, Nat.mul_one] at hix
  have hwl : kN kd < wordsL.length := by show kN kd < 6; omega
  have hwj : (wordsL.map fun w => (.string ⟨⟨w⟩⟩ : Value))[kN kd]? = some (.string ⟨⟨wordsL.getD (kN kd) []⟩⟩) := by simp [List.getElem?_map, List.getElem?_eq_getElem hwl, List.getD]
  have hwl6 : (wordsL.getD (kN kd) []).length ≤ 6 := by
    rcases (show kN kd = 0 ∨ kN kd = 1 ∨ kN kd = 2 ∨ kN kd = 3 ∨ kN kd = 4 ∨ kN kd = 5 by omega) with e | e | e | e | e | e <;> rw [e] <;> decide
  generalize wordsL.getD (kN kd) [] = W at *
  generalize (wordsL.map fun w => (.string ⟨⟨w⟩⟩ : Value)) = ws at *
  have c1 := cat2 (a := S) (b := W) (by omega)
  have hSW : (S ++ W).length ≤ 1099511627782 := by simp; omega
  have hv1 : SlR m1 2 av (arms.flatMap Arm.cells) arms.length := hv.keep fun b h => o1.2 b (hvb b h)
  have hvb1 : ∀ b, blk av = some b → b < m1.next := fun b h => Nat.lt_of_lt_of_le (hvb b h) o1.1
  have hb1 : b < m1.next := Nat.lt_of_lt_of_le hb o1.1
  simp only [wD] at hw
  have lj := joinA_len arms
  have ln := num_len10 (i := n) hn
  have lq := qL_len tx
  have hal := wArms_len arms
  generalize S ++ W = R at *
  generalize kN kd = kk at *
  simp -implicitDefEqProofs (disch := first | assumption | (simp only [wnA]; done) | (simp only [wnA]; omega) | omega | (simp only [List.length_append, List.length_cons, List.length_nil]; omega) | fail) [wkA, retV, stabOk, dC, ev, fillD, pickCells, putAt, bnd, slD, List.getElem?_cons_zero, List.getElem?_cons_succ, dR.eq_20, Mem.cell, Mem.row, wmA, t3, hix, gw, hwj, getL hwj, c1, t1]
  rcases (show kk = 0 ∨ kk = 1 ∨ kk = 2 ∨ kk = 3 ∨ kk = 4 ∨ kk = 5 by omega) with rfl | rfl | rfl | rfl | rfl | rfl
  · simp -implicitDefEqProofs (disch := first | assumption | (simp only [wnA]; done) | (simp only [wnA]; omega) | omega | (simp only [List.length_append, List.length_cons, List.length_nil]; omega) | fail) [wkA, retV, stabOk, dC, ev, fillD, pickCells, putAt, bnd, slD, List.getElem?_cons_zero, List.getElem?_cons_succ, dR.eq_20, Mem.cell, Mem.row, wmA, t1, g1]
    refine c_Quote (by show tx.length ≤ 1099511627776; omega) fun m2 o2 => ?_
    rw [quoteV_eq]
    simp -implicitDefEqProofs (disch := first | assumption | (simp only [wnA]; done) | (simp only [wnA]; omega) | omega | (simp only [List.length_append, List.length_cons, List.length_nil]; omega) | fail) [wkA, retV, stabOk, dC, ev, fillD, pickCells, putAt, bnd, slD, List.getElem?_cons_zero, List.getElem?_cons_succ, dR.eq_20, Mem.cell, Mem.row, wmA, cat2]
    exact fin _ m2 (R ++ ([32] ++ qL tx)) (o1.trans o2) (by simp) (by simp [restX]) (by simp; omega)
  · simp -implicitDefEqProofs (disch := first | assumption | (simp only [wnA]; done) | (simp only [wnA]; omega) | omega | (simp only [List.length_append, List.length_cons, List.length_nil]; omega) | fail) [wkA, retV, stabOk, dC, ev, fillD, pickCells, putAt, bnd, slD, List.getElem?_cons_zero, List.getElem?_cons_succ, dR.eq_20, Mem.cell, Mem.row, wmA, t1, g1, hv1.slen]
    refine w_arms (av := av) (l := arms) hv1 hvb1 (by omega) (by simp) (by simp) (by simp) (by simp) fun fr' m2 ob o2 sm so hob e7 => ?_
    have e1 := sm 1 (by simp)
    have e3 := sm 3 (by simp)
    simp [t1] at e1 e3
    have g2 := (o2.2 b hb1).trans g1
    have hJ := totA_le arms
    simp -implicitDefEqProofs (disch := first | assumption | (simp only [wnA]; done) | (simp only [wnA]; omega) | omega | (simp only [List.length_append, List.length_cons, List.length_nil]; omega) | fail) [wkA, retV, stabOk, dC, ev, fillD, pickCells, putAt, bnd, slD, List.getElem?_cons_zero, List.getElem?_cons_succ, dR.eq_20, Mem.cell, Mem.row, wmA, e1, e3, e7, g2]
    refine c_JoinA (xs := arms.map armB) (sep := ⟨⟨[44, 32]⟩⟩) (by rw [List.length_map]; exact so.read) (fun x h => by rw [blk_slV] at h; subst h; exact so.lt) (by decide) (by show (2 + 1) * _ + _ ≤ _; omega) fun m3 o3 => ?_
    have hjj : joinL (ByteArray.mk ⟨[44, 32]⟩).data.toList (arms.map armB) = joinA arms := rfl
    rw [hjj]
    have g3 := (o3.2 b (Nat.lt_of_lt_of_le hb1 o2.1)).trans g2
    simp -implicitDefEqProofs (disch := first | assumption | (simp only [wnA]; done) | (simp only [wnA]; omega) | omega | (simp only [List.length_append, List.length_cons, List.length_nil]; omega) | fail) [wkA, retV, stabOk, dC, ev, fillD, pickCells, putAt, bnd, slD, List.getElem?_cons_zero, List.getElem?_cons_succ, dR.eq_20, Mem.cell, Mem.row, wmA, e1, e3, g3, cat2]
    refine c_Itoa ht hn ?_
    simp -implicitDefEqProofs (disch := first | assumption | (simp only [wnA]; done) | (simp only [wnA]; omega) | omega | (simp only [List.length_append, List.length_cons, List.length_nil]; omega) | fail) [wkA, retV, stabOk, dC, ev, fillD, pickCells, putAt, bnd, slD, List.getElem?_cons_zero, List.getElem?_cons_succ, dR.eq_20, Mem.cell, Mem.row, wmA, e1, e3, g3, cat2]
    exact fin _ m3 (R ++ restX 1 ⟨lb, kd, tx, arms, n, to, pl⟩) ((o1.trans o2).trans o3) (by simp [restX, goS, afterL]) rfl (by simp [restX, goS, afterL]; omega)
  · simp -implicitDefEqProofs (disch := first | assumption | (simp only [wnA]; done) | (simp only [wnA]; omega) | omega | (simp only [List.length_append, List.length_cons, List.length_nil]; omega) | fail) [wkA, retV, stabOk, dC, ev, fillD, pickCells, putAt, bnd, slD, List.getElem?_cons_zero, List.getElem?_cons_succ, dR.eq_20, Mem.cell, Mem.row, wmA, t1, g1, cat2]
    exact fin _ m1 (R ++ ([32] ++ to)) o1 (by simp) (by simp [restX]) (by simp; omega)
  · simp -implicitDefEqProofs (disch := first | assumption | (simp only [wnA]; done) | (simp only [wnA]; omega) | omega | (simp only [List.length_append, List.length_cons, List.length_nil]; omega) | fail) [wkA, retV, stabOk, dC, ev, fillD, pickCells, putAt, bnd, slD, List.getElem?_cons_zero, List.getElem?_cons_succ, dR.eq_20, Mem.cell, Mem.row, wmA, t1, g1]
    refine c_Itoa ht hn ?_
    simp -implicitDefEqProofs (disch := first | assumption | (simp only [wnA]; done) | (simp only [wnA]; omega) | omega | (simp only [List.length_append, List.length_cons, List.length_nil]; omega) | fail) [wkA, retV, stabOk, dC, ev, fillD, pickCells, putAt, bnd, slD, List.getElem?_cons_zero, List.getElem?_cons_succ, dR.eq_20, Mem.cell, Mem.row, wmA, t1, g1, cat2]
    exact fin _ m1 (R ++ ([32] ++ numS 10 n ++ [32, 103, 111, 32] ++ to)) o1 (by simp) (by simp [restX, goS]) (by simp; omega)
  · simp -implicitDefEqProofs (disch := first | assumption | (simp only [wnA]; done) | (simp only [wnA]; omega) | omega | (simp only [List.length_append, List.length_cons, List.length_nil]; omega) | fail) [wkA, retV, stabOk, dC, ev, fillD, pickCells, putAt, bnd, slD, List.getElem?_cons_zero, List.getElem?_cons_succ, dR.eq_20, Mem.cell, Mem.row, wmA, t1, g1]
    exact fin _ m1 R o1 (by simp) (by simp [restX]) (by omega)
  · simp -implicitDefEqProofs (disch := first | assumption | (simp only [wnA]; done) | (simp only [wnA]; omega) | omega | (simp only [List.length_append, List.length_cons, List.length_nil]; omega) | fail) [wkA, retV, stabOk, dC, ev, fillD, pickCells, putAt, bnd, slD, List.getElem?_cons_zero, List.getElem?_cons_succ, dR.eq_20, Mem.cell, Mem.row, wmA, t1, g1]
    exact fin _ m1 R o1 (by simp) (by simp [restX]) (by omega)
end Go.Proofs.YtjlicambfepfiaaGreatDoor.Ab

set_option linter.unusedVariables false
set_option linter.unusedSimpArgs false
namespace Go.Proofs.YtjlicambfepfiaaGreatDoor.Ab
open Go Go.RowKit
set_option maxHeartbeats 4000000
set_option maxRecDepth 100000

/-- A step, and the value of its patterns. -/
abbrev DV := DS × Value
def vC (x : DV) : List Value := dsC x.1 x.2
theorem vC_len (x : DV) : (vC x).length = 7 := rfl
/-- The patterns of a step lie. -/
structure ArmV (m : Mem) (x : DV) : Prop where
  sl : SlR m 2 x.2 (x.1.arms.flatMap Arm.cells) x.1.arms.length
  bl : ∀ b, blk x.2 = some b → b < m.next
theorem ArmV.old {m m' : Mem} {x : DV} (h : ArmV m x) (o : Old m m') : ArmV m' x := ⟨h.sl.keep fun b hb => o.2 b (h.bl b hb), fun b hb => Nat.lt_of_lt_of_le (h.bl b hb) o.1⟩
theorem SlR.one {m : Mem} {sz n : Nat} {v : Value} {cs : List Value} (h : SlR m sz v cs n) : oneC v = true ∧ cellsV v = [v] := by
  rcases h.2 with ⟨-, h | h⟩ | ⟨i, o, L, h, -⟩ <;> rw [h] <;> exact ⟨rfl, rfl⟩
/-- Steps lie. -/
structure DsV (m : Mem) (v : Value) (l : List DV) : Prop where
  sl : SlR m 7 v (l.flatMap vC) l.length
  bl : ∀ b, blk v = some b → b < m.next
  ar : ∀ x ∈ l, ArmV m x
theorem DsV.old {m m' : Mem} {v : Value} {l : List DV} (h : DsV m v l) (o : Old m m') : DsV m' v l := ⟨h.sl.keep fun b hb => o.2 b (h.bl b hb), fun b hb => Nat.lt_of_lt_of_le (h.bl b hb) o.1, fun x hx => (h.ar x hx).old o⟩
def wT (l : List DV) : Nat := (l.map fun x => wD x.1).sum
theorem wT_take (l : List DV) (j : Nat) : wT (l.take j) ≤ wT l := by
  induction l generalizing j with
  | nil => simp [wT]
  | cons x xs ih =>
    cases j with
    | zero => simp [wT]
    | succ j => have := ih j; simp only [wT, List.take_succ_cons, List.map_cons, List.sum_cons] at this ⊢; omega
theorem wT_succ {l : List DV} {j : Nat} (h : j < l.length) : wT (l.take (j + 1)) = wT (l.take j) + wD l[j].1 := by
  unfold wT
  rw [List.take_succ_eq_append_getElem h, List.map_append, List.sum_append]; simp
theorem wT_len (l : List DV) : 128 * l.length ≤ wT l := by
  induction l with
  | nil => simp [wT]
  | cons x l ih => simp only [wT, List.map_cons, List.sum_cons, List.length_cons, wD] at ih ⊢; omega
def NOk (d : DS) : Prop := -9223372036854775808 ≤ d.n ∧ d.n ≤ 9223372036854775807
theorem lineD_len {d : DS} (hn : NOk d) : (lineD d).length ≤ wD d := by
  have hw : (wordsL.getD (kN d.kd) []).length ≤ 6 := by
    have := kN_le d.kd
    rcases (show kN d.kd = 0 ∨ kN d.kd = 1 ∨ kN d.kd = 2 ∨ kN d.kd = 3 ∨ kN d.kd = 4 ∨ kN d.kd = 5 by omega) with e | e | e | e | e | e <;> rw [e] <;> decide
  have lj := joinA_len d.arms
  have ln := num_len10 hn
  have lq := qL_len d.tx
  have l1 : (labL d).length ≤ d.lb.length + 2 := by unfold labL; split <;> simp
  have l2 : (restL d).length ≤ 2 * d.tx.length + d.to.length + wArms d.arms + 48 := by
    unfold restL restX
    split <;> simp [goS, afterL] <;> omega
  simp only [lineD, List.length_append, List.length_cons, List.length_nil, wD]
  omega
def textL (l : List DV) : List UInt8 := l.flatMap fun x => lineD x.1
theorem textL_len {l : List DV} (h : ∀ x ∈ l, NOk x.1) : (textL l).length ≤ wT l := by
  induction l with
  | nil => simp [textL, wT]
  | cons x xs ih =>
    have h1 := lineD_len (h x (by simp))
    have h2 := ih fun e he => h e (by simp [he])
    simp only [textL, List.flatMap_cons, List.length_append, wT, List.map_cons, List.sum_cons] at h2 ⊢
    omega

theorem c_stepT {w0 : World} {m : Mem} {x : DV} {Q : Value → Mem → Prop} (ht : Ten w0) (ha : ArmV m x) (hw : wD x.1 ≤ 1099511627776) (hn : NOk x.1) (hq : ∀ m', Old m m' → Q (.string ⟨⟨lineD x.1⟩⟩) m') :
    AbC Tryz.prog w0 39 [.agg ⟨vC x⟩] m Q := by
  refine AbC_fn ok39 (by simp) ?_
  obtain ⟨⟨lb, kd, tx, arms, n, to, pl⟩, av⟩ := x
  have e : vC (⟨lb, kd, tx, arms, n, to, pl⟩, av) = [.string ⟨⟨lb⟩⟩, .int .i64 kd, .string ⟨⟨tx⟩⟩, av, .int .i64 n, .string ⟨⟨to⟩⟩, .int .i64 pl] := rfl
  rw [e]
  have hone := ha.sl.one
  obtain ⟨m1, hm1⟩ : ∃ m1, m.push (.own [.string ⟨⟨lb⟩⟩, .int .i64 kd, .string ⟨⟨tx⟩⟩, av, .int .i64 n, .string ⟨⟨to⟩⟩, .int .i64 pl] 29) = m1 := ⟨_, rfl⟩
  have o1 : Old m m1 := by subst hm1; exact (Old.refl m).push _
  have g1 : m1.get m.next = .own [.string ⟨⟨lb⟩⟩, .int .i64 kd, .string ⟨⟨tx⟩⟩, av, .int .i64 n, .string ⟨⟨to⟩⟩, .int .i64 pl] 29 := by subst hm1; rw [Mem.push_same]
  have n1 : m.next < m1.next := by subst hm1; simp
  have hw' := hw
  simp only [wD] at hw
  have go : ∀ (fr : Fr) (S : List UInt8), fr 1 = .pointer (some ⟨m.next, 0, none⟩) → fr 3 = .string ⟨⟨S⟩⟩ → S = labL ⟨lb, kd, tx, arms, n, to, pl⟩ → AbW Tryz.prog w0 rc39_3 (bodyA [.mv (.tmp 2)] Q) fr m1 := by
    intro fr S e1 e3 hS
    have hSl : S.length ≤ lb.length + 2 := by rw [hS]; unfold labL; split <;> simp
    refine w_body (d := ⟨lb, kd, tx, arms, n, to, pl⟩) (av := av) (S := S) (b := m.next) ht (ha.old o1).sl (ha.old o1).bl hw' hn g1 n1 e1 e3 (by omega) fun fr' m' o e2 => ?_
    have := hq m' (o1.trans o)
    simp only [lineD, ← hS] at this
    simp -implicitDefEqProofs (disch := first | assumption | (simp only [wnA]; done) | (simp only [wnA]; omega) | omega | fail) [wkA, retV, stabOk, dC, ev, fillD, pickCells, putAt, bnd, slD, List.getElem?_cons_zero, List.getElem?_cons_succ, dR.eq_20, Mem.cell, Mem.row, wmA, e2]
    simpa using this
  by_cases hlb : lb = []
  · subst hlb
    simp -implicitDefEqProofs (disch := first | assumption | (simp only [wnA]; done) | (simp only [wnA]; omega) | omega | fail) [rc39, ro39, wkA, retV, stabOk, dC, ev, fillD, pickCells, putAt, bnd, slD, List.getElem?_cons_zero, List.getElem?_cons_succ, dR.eq_20, Mem.cell, Mem.row, wmA, hm1, g1]
    exact go _ [] (by simp) (by simp) rfl
  · have c1 := cat2 (a := lb) (b := [58, 32]) (by simp; omega)
    have hb0 : lb.isEmpty = false := by cases lb <;> simp at hlb ⊢
    simp -implicitDefEqProofs (disch := first | assumption | (simp only [wnA]; done) | (simp only [wnA]; omega) | omega | (simp only [List.length_append, List.length_cons, List.length_nil]; omega) | fail) [rc39, ro39, wkA, retV, stabOk, dC, ev, fillD, pickCells, putAt, bnd, slD, List.getElem?_cons_zero, List.getElem?_cons_succ, dR.eq_20, Mem.cell, Mem.row, wmA, hm1, g1, hlb, hb0, c1]
    exact go _ (lb ++ [58, 32]) (by simp) (by simp) (by simp [labL, hlb])

theorem c_DText {w0 : World} {m : Mem} {v : Value} {l : List DV} {Q : Value → Mem → Prop} (ht : Ten w0) (hv : DsV m v l) (hl : wT l ≤ 1099511627776) (hn : ∀ x ∈ l, NOk x.1)
    (hq : ∀ m', Old m m' → Q (.string ⟨⟨textL l⟩⟩) m') : AbC Tryz.prog w0 21 [v] m Q := by
  refine AbC_fn ok21 (by simp) ?_
  have hll := wT_len l
  simp -implicitDefEqProofs (disch := first | assumption | (simp only [wnA]; done) | (simp only [wnA]; omega) | omega | fail) [rc21, ro21, wkA, retV, stabOk, dC, ev, fillD, pickCells, putAt, bnd, slD, List.getElem?_cons_zero, List.getElem?_cons_succ, dR.eq_20, Mem.cell, Mem.row, wmA, hv.sl.slen]
  refine LoopW_of (fun k ts m' => ∃ j, j + k = l.length ∧ ts 3 = .pointer (some ⟨m.next, 0, none⟩) ∧ ts 6 = v ∧ ts 7 = .int .i64 (l.length : Nat) ∧ ts 8 = .int .i64 (j : Nat) ∧ Bld m m' m.next (textL (l.take j))) l.length ?_ ?_
  · exact ⟨0, by omega, by simp, by simp [frA_at], by simp, by simp, Bld.new (Old.refl m)⟩
  · rintro k ts m1 K ⟨j, hj, t3, t6, t7, t8, hb⟩ hK
    have hlen := textL_len (l := l.take j) fun e h => hn e (List.mem_of_mem_take h)
    have htk := wT_take l j
    simp -implicitDefEqProofs (disch := first | assumption | (simp only [wnA]; done) | (simp only [wnA]; omega) | omega | fail) [rc21_1, wkA, retV, stabOk, dC, ev, fillD, pickCells, putAt, bnd, slD, List.getElem?_cons_zero, List.getElem?_cons_succ, dR.eq_20, Mem.cell, Mem.row, wmA, t7, t8]
    by_cases hjl : j < l.length
    · have hv1 := hv.old hb.1
      obtain ⟨bi, bo, L, hvv, hL, hLl, hLt, -⟩ := hv1.sl.at hjl
      rw [flat_at vC_len l (List.getElem?_eq_getElem hjl)] at hLt
      have hx1 := wT_succ hjl
      have hx2 := wT_take l (j + 1)
      obtain ⟨x, hx⟩ : ∃ x, l[j] = x := ⟨_, rfl⟩
      have hxm : x ∈ l := by rw [← hx]; exact List.getElem_mem hjl
      have hnx : textL (l.take (j + 1)) = textL (l.take j) ++ lineD x.1 := by
        unfold textL
        rw [List.take_succ_eq_append_getElem hjl, List.flatMap_append, hx]; simp
      have hax := hv1.ar x hxm
      have hll2 := lineD_len (hn x hxm)
      rw [hx] at hLt hx1
      rw [hvv] at t6
      have hle : bo + j * 7 + 7 ≤ L.length := by omega
      have hjw : IntKind.i64.wrap ((j : Int) + 1) = ((j + 1 : Nat) : Int) := by rw [w64 (by omega)]; omega
      have hone := hax.sl.one
      simp -implicitDefEqProofs (disch := first | assumption | (simp only [wnA]; done) | (simp only [wnA]; omega) | omega | fail) [hjl, rc21_0, wkA, retV, stabOk, dC, ev, fillD, pickCells, putAt, bnd, slD, List.getElem?_cons_zero, List.getElem?_cons_succ, dR.eq_20, Mem.cell, Mem.row, wmA, t3, t6, t7, t8, sidx_at, hL, hLt, hle]
      obtain ⟨M, hM⟩ : ∃ M, (m1.push (.own [.string ⟨#[]⟩, .int .i64 0, .string ⟨#[]⟩, .slice none 0 0, .int .i64 0, .string ⟨#[]⟩, .int .i64 0] 29)).set m1.next (.own (putAt [.string ⟨#[]⟩, .int .i64 0, .string ⟨#[]⟩, .slice none 0 0, .int .i64 0, .string ⟨#[]⟩, .int .i64 0] 0 (vC x)) 29) = M := ⟨_, rfl⟩
      refine SK_stm (i := m1.next) (o := 0) (vs := vC x) (cs := [.string ⟨#[]⟩, .int .i64 0, .string ⟨#[]⟩, .slice none 0 0, .int .i64 0, .string ⟨#[]⟩, .int .i64 0]) (e := 29) (M := M) (by simp [wkA, retV, stabOk, dC, ev, fillD, pickCells, putAt, bnd, slD, List.getElem?_cons_zero, List.getElem?_cons_succ, dR.eq_20]) (by simp -implicitDefEqProofs (disch := first | assumption | (simp only [wnA]; done) | (simp only [wnA]; omega) | omega | fail) [wkA, retV, stabOk, dC, ev, fillD, pickCells, putAt, bnd, slD, List.getElem?_cons_zero, List.getElem?_cons_succ, dR.eq_20, Mem.cell, Mem.row, wmA]) (by simp [wkA, retV, stabOk, dC, ev, fillD, pickCells, putAt, bnd, slD, List.getElem?_cons_zero, List.getElem?_cons_succ, dR.eq_20]) (by simp) rfl (by simp only [vC, dsC, List.all_cons, List.all_nil, hone.1]; rfl) hM ?_
      have oM : Old m1 M := by subst hM; exact ((Old.refl m1).push _).set (Nat.le_refl _) _
      have gM : M.get m1.next = .own (vC x) 29 := by subst hM; rw [Mem.set_same]; rfl
      have hvl : (vC x).length = 7 := rfl
      have htk7 : (vC x).take 7 = vC x := rfl
      clear hM
      simp -implicitDefEqProofs (disch := first | assumption | (simp only [wnA]; done) | (simp only [wnA]; omega) | omega | fail) [wkA, retV, stabOk, dC, ev, fillD, pickCells, putAt, bnd, slD, List.getElem?_cons_zero, List.getElem?_cons_succ, dR.eq_20, Mem.cell, Mem.row, wmA, gM, hvl, htk7]
      refine c_stepT ht (hax.old oM) (by omega) (hn x hxm) fun m2 o2 => ?_
      have hb2 := (hb.keep oM).keep o2
      simp -implicitDefEqProofs (disch := first | assumption | (simp only [wnA]; done) | (simp only [wnA]; omega) | omega | fail) [wkA, retV, stabOk, dC, ev, fillD, pickCells, putAt, bnd, slD, List.getElem?_cons_zero, List.getElem?_cons_succ, dR.eq_20, Mem.cell, Mem.row, wmA, t3]
      refine c_WriteString hb2 ?_ fun m3 hb3 => ?_
      · show _ + (lineD x.1).length ≤ _
        omega
      · simp -implicitDefEqProofs (disch := first | assumption | (simp only [wnA]; done) | (simp only [wnA]; omega) | omega | fail) [wkA, retV, stabOk, dC, ev, fillD, pickCells, putAt, bnd, slD, List.getElem?_cons_zero, List.getElem?_cons_succ, dR.eq_20, Mem.cell, Mem.row, wmA, t8, hjw]
        refine hK (k - 1) _ _ (by omega) ⟨j + 1, by omega, by simp [t3], by simp [t6, hvv], by simp [t7], by simp, ?_⟩
        rw [hnx]
        exact hb3
    · have hjj : j = l.length := by omega
      subst hjj
      rw [List.take_length] at hb hlen
      simp -implicitDefEqProofs (disch := first | assumption | (simp only [wnA]; done) | (simp only [wnA]; omega) | omega | fail) [hjl, rc21_2, wkA, retV, stabOk, dC, ev, fillD, pickCells, putAt, bnd, slD, List.getElem?_cons_zero, List.getElem?_cons_succ, dR.eq_20, Mem.cell, Mem.row, wmA, t3]
      refine c_BString hb (by omega) fun m2 o2 => ?_
      simp -implicitDefEqProofs (disch := first | assumption | (simp only [wnA]; done) | (simp only [wnA]; omega) | omega | fail) [wkA, retV, stabOk, dC, ev, fillD, pickCells, putAt, bnd, slD, List.getElem?_cons_zero, List.getElem?_cons_succ, dR.eq_20, Mem.cell, Mem.row, wmA]
      exact hq m2 o2
end Go.Proofs.YtjlicambfepfiaaGreatDoor.Ab

set_option linter.unusedVariables false
set_option linter.unusedSimpArgs false
namespace Go.Proofs.YtjlicambfepfiaaGreatDoor.Ab
open Go Go.RowKit
set_option maxHeartbeats 4000000
set_option maxRecDepth 100000

/-! The document's digits. -/
theorem dec_sub : ∀ k : Fin 10, (ByteArray.mk #[48, 49, 50, 51, 52, 53, 54, 55, 56, 57]).extract k.val (k.val + 1) = ⟨⟨[digC k.val]⟩⟩ := by decide +kernel
theorem numS_nat (B n : Nat) : numS B (n : Int) = digs B n := by
  unfold numS sgn
  rw [if_neg (by simp)]
  simp
theorem c_digN {w0 : World} {m : Mem} : ∀ (n : Nat), n ≤ 9223372036854775807 → ∀ {Q : Value → Mem → Prop}, Q (.string ⟨⟨digs 10 n⟩⟩) m → AbC Tryz.prog w0 17 [.int .i64 (n : Int)] m Q := by
  intro n
  induction n using Nat.strongRecOn with
  | _ n ih =>
    intro hn Q hq
    refine AbC_fn ok17 (by simp) ?_
    have f0 : (0 : Int) ≤ (n : Int) := by omega
    simp -implicitDefEqProofs (disch := first | assumption | (simp only [wnA]; done) | (simp only [wnA]; omega) | omega | fail) [rc17, ro17, wkA, retV, stabOk, dC, ev, fillD, pickCells, putAt, bnd, slD, List.getElem?_cons_zero, List.getElem?_cons_succ, dR.eq_20, Mem.cell, Mem.row, wmA, ltF f0, rc17_1]
    by_cases hb : n < 10
    · have hb' : (n : Int) < (10 : Int) := by omega
      have h16 : n < 10 := by omega
      have hs := dec_sub ⟨n, h16⟩
      simp only at hs
      have hw : IntKind.i64.wrap ((n : Int) + 1) = ((n + 1 : Nat) : Int) := by rw [w64 (by omega)]; omega
      have hsz : (ByteArray.mk #[48, 49, 50, 51, 52, 53, 54, 55, 56, 57]).size = 10 := rfl
      have p1 : (0 : Int) ≤ (n : Int) + 1 ∧ (n : Int) + 1 ≤ 10 := by omega
      have p3 : (n : Int) ≤ (n : Int) + 1 := by omega
      rw [digs_lt hb] at hq
      generalize digC n = c at *
      simp -implicitDefEqProofs (disch := first | assumption | (simp only [wnA]; done) | (simp only [wnA]; omega) | omega | fail) [wkA, retV, stabOk, dC, ev, fillD, pickCells, putAt, bnd, slD, List.getElem?_cons_zero, List.getElem?_cons_succ, dR.eq_20, Mem.cell, Mem.row, wmA, ltT hb', hb, hw, hsz, p1, p3, hs]
      exact hq
    · have hb' : ¬ (n : Int) < (10 : Int) := by omega
      have hB0 : (10 : Int) ≠ 0 := by omega
      have hd : (n : Int).tdiv (10 : Int) = ((n / 10 : Nat) : Int) := by rw [Int.tdiv_eq_ediv_of_nonneg (by omega)]; rfl
      have hm : (n : Int).tmod (10 : Int) = ((n % 10 : Nat) : Int) := by rw [Int.tmod_eq_emod_of_nonneg (by omega)]; rfl
      have h1 : n / 10 < n := Nat.div_lt_self (by omega) (by omega)
      have h2 : n % 10 < 10 := Nat.mod_lt _ (by omega)
      have hDle : n / 10 ≤ n := Nat.div_le_self _ _
      have hwd : IntKind.i64.wrap ((n / 10 : Nat) : Int) = ((n / 10 : Nat) : Int) := by
        generalize n / 10 = D at hDle ⊢
        exact w64 (by omega)
      have l1 := digs_64 (b := 10) (by omega) (show n / 10 < 18446744073709551616 by omega)
      have hdl : (digs 10 (n % 10)).length = 1 := by rw [digs_lt h2]; rfl
      have hcat := cat2 (a := digs 10 (n / 10)) (b := digs 10 (n % 10)) (by omega)
      have q1 : dBin .quo (.int .i64 (n : Int)) (.int .i64 (10 : Int)) = some (.int .i64 ((n / 10 : Nat) : Int)) := by rw [dBin_quo hB0, hd, hwd]
      have q2 : dBin .rem (.int .i64 (n : Int)) (.int .i64 (10 : Int)) = some (.int .i64 ((n % 10 : Nat) : Int)) := by rw [dBin_rem hB0, hm]
      have hge : digs 10 n = digs 10 (n / 10) ++ digs 10 (n % 10) := by rw [digs_ge (by omega) (by omega), digs_lt h2]
      rw [hge] at hq
      generalize hD : n / 10 = D at *
      generalize hM : n % 10 = M at *
      simp -implicitDefEqProofs (disch := first | assumption | (simp only [wnA]; done) | (simp only [wnA]; omega) | omega | fail) [wkA, retV, stabOk, dC, ev, fillD, pickCells, putAt, bnd, slD, List.getElem?_cons_zero, List.getElem?_cons_succ, dR.eq_20, Mem.cell, Mem.row, wmA, hb, hb', q1, q2, rc17_0]
      refine ih D h1 (by omega) ?_
      simp -implicitDefEqProofs (disch := first | assumption | (simp only [wnA]; done) | (simp only [wnA]; omega) | omega | fail) [wkA, retV, stabOk, dC, ev, fillD, pickCells, putAt, bnd, slD, List.getElem?_cons_zero, List.getElem?_cons_succ, dR.eq_20, Mem.cell, Mem.row, wmA, q2]
      refine ih M (by omega) (by omega) ?_
      simp -implicitDefEqProofs (disch := first | assumption | (simp only [wnA]; done) | (simp only [wnA]; omega) | omega | fail) [wkA, retV, stabOk, dC, ev, fillD, pickCells, putAt, bnd, slD, List.getElem?_cons_zero, List.getElem?_cons_succ, dR.eq_20, Mem.cell, Mem.row, wmA, hcat]
      exact hq
theorem c_digits {w0 : World} {m : Mem} {n : Int} (hn : -9223372036854775807 ≤ n ∧ n ≤ 9223372036854775807) {Q : Value → Mem → Prop} (hq : Q (.string ⟨⟨numS 10 n⟩⟩) m) : AbC Tryz.prog w0 17 [.int .i64 n] m Q := by
  by_cases h : 0 ≤ n
  · obtain ⟨k, rfl⟩ : ∃ k : Nat, n = k := ⟨n.toNat, by omega⟩
    rw [numS_nat] at hq
    exact c_digN k (by omega) hq
  · obtain ⟨k, rfl⟩ : ∃ k : Nat, n = -(k : Int) := ⟨n.natAbs, by omega⟩
    refine AbC_fn ok17 (by simp) ?_
    have f0 : -(k : Int) < 0 := by omega
    have hw : IntKind.i64.wrap (0 - -(k : Int)) = (k : Int) := by rw [w64 (by omega)]; omega
    have hw' : IntKind.i64.wrap (k : Int) = (k : Int) := w64 (by omega)
    have hN : numS 10 (-(k : Int)) = 45 :: digs 10 k := by
      unfold numS sgn
      rw [if_pos (by simpa using f0)]
      simp
    rw [hN] at hq
    have l1 := digs_64 (b := 10) (by omega) (show k < 18446744073709551616 by omega)
    have hcat := cat2 (a := [45]) (b := digs 10 k) (by simp; omega)
    have hk0 : 0 < k := by omega
    simp -implicitDefEqProofs (disch := first | assumption | (simp only [wnA]; done) | (simp only [wnA]; omega) | omega | fail) [rc17, ro17, wkA, retV, stabOk, dC, ev, fillD, pickCells, putAt, bnd, slD, List.getElem?_cons_zero, List.getElem?_cons_succ, dR.eq_20, Mem.cell, Mem.row, wmA, ltT f0, hk0, hw, hw']
    refine c_digN k (by omega) ?_
    simp -implicitDefEqProofs (disch := first | assumption | (simp only [wnA]; done) | (simp only [wnA]; omega) | omega | fail) [wkA, retV, stabOk, dC, ev, fillD, pickCells, putAt, bnd, slD, List.getElem?_cons_zero, List.getElem?_cons_succ, dR.eq_20, Mem.cell, Mem.row, wmA, hcat]
    exact hq

end Go.Proofs.YtjlicambfepfiaaGreatDoor.Ab

set_option linter.unusedVariables false
set_option linter.unusedSimpArgs false
namespace Go.Proofs.YtjlicambfepfiaaGreatDoor.Ab
open Go Go.RowKit
set_option maxHeartbeats 4000000
set_option maxRecDepth 100000

theorem joinL_snoc (sep : List UInt8) (xs : List ByteArray) (x : ByteArray) : joinL sep (xs ++ [x]) = joinL sep xs ++ (if xs = [] then [] else sep) ++ x.data.toList := by
  cases xs with
  | nil => simp [joinL]
  | cons y r => simp [joinL]
theorem joinA_snoc (l : List Arm) (a : Arm) : joinA (l ++ [a]) = joinA l ++ (if l = [] then [] else [44, 32]) ++ armL a := by
  unfold joinA
  rw [List.map_append, List.map_singleton, joinL_snoc]
  cases l <;> simp [armB]
theorem wArms_take (l : List Arm) (j : Nat) : wArms (l.take j) ≤ wArms l := by
  induction l generalizing j with
  | nil => simp [wArms]
  | cons x xs ih =>
    cases j with
    | zero => simp [wArms]
    | succ j => have := ih j; simp only [wArms, List.take_succ_cons, List.map_cons, List.sum_cons] at this ⊢; omega

theorem w_larms {w0 : World} {Q : AQ} {fr : Fr} {m : Mem} {av : Value} {l : List Arm} {S : List UInt8} (hv : SlR m 2 av (l.flatMap Arm.cells) l.length) (hvb : ∀ b, blk av = some b → b < m.next) (hl : wArms l ≤ 1099511627776) (hS : S.length ≤ 4398046511104)
    (e3 : fr 3 = .string ⟨⟨S⟩⟩) (e57 : fr 57 = av) (e58 : fr 58 = .int .i64 (l.length : Nat)) (e59 : fr 59 = .int .i64 0)
    (hq : ∀ fr' m', Old m m' → (∀ k ∈ [5, 13, 14, 15], fr' k = fr k) → fr' 3 = .string ⟨⟨S ++ joinA l⟩⟩ → Q .normal fr' m') : LoopW (AbW Tryz.prog w0 rc22_2) (inBlockA 3 Q) fr m := by
  have hll := wArms_len l
  refine LoopW_of (fun k ts m' => ∃ j, j + k = l.length ∧ Old m m' ∧ (∀ k ∈ [5, 13, 14, 15], ts k = fr k) ∧ ts 57 = av ∧ ts 58 = .int .i64 (l.length : Nat) ∧ ts 59 = .int .i64 (j : Nat) ∧ ts 3 = .string ⟨⟨S ++ joinA (l.take j)⟩⟩) l.length ?_ ?_
  · exact ⟨0, by omega, Old.refl m, fun k _ => rfl, e57, e58, e59, by rw [e3]; simp [joinA, joinL]⟩
  · rintro k ts m1 K ⟨j, hj, o1, sm, t57, t58, t59, t3⟩ hK
    simp -implicitDefEqProofs (disch := first | assumption | (simp only [wnA]; done) | (simp only [wnA]; omega) | omega | fail) [rc22_2, wkA, retV, stabOk, dC, ev, fillD, pickCells, putAt, bnd, slD, List.getElem?_cons_zero, List.getElem?_cons_succ, dR.eq_20, Mem.cell, Mem.row, wmA, t58, t59]
    by_cases hjl : j < l.length
    · have hv1 : SlR m1 2 av (l.flatMap Arm.cells) l.length := hv.keep fun b h => o1.2 b (hvb b h)
      obtain ⟨bi, bo, L, hvv, hL, hLl, hLt, -⟩ := hv1.at hjl
      rw [flat_at arl l (List.getElem?_eq_getElem hjl)] at hLt
      obtain ⟨a, hx⟩ : ∃ a, l[j] = a := ⟨_, rfl⟩
      have ham : a ∈ l := by rw [← hx]; exact List.getElem_mem hjl
      have hw := wArms_mem ham
      have hjl0 : (l.take j = []) ↔ j = 0 := by
        rw [List.take_eq_nil_iff]
        constructor
        · rintro (h | h)
          · exact h
          · subst h; simp at hjl
        · exact fun h => .inl h
      have hjt := joinA_len (l.take j)
      have hwt := wArms_take l j
      have hnx : joinA (l.take (j + 1)) = joinA (l.take j) ++ (if j = 0 then [] else [44, 32]) ++ armL a := by
        rw [List.take_succ_eq_append_getElem hjl, joinA_snoc, hx]
        simp only [hjl0]
      rw [hx] at hLt
      have hnx' := hnx
      generalize joinA (l.take j) = J at *
      obtain ⟨pt, tt⟩ := a
      have hLt : (L.drop (bo + j * 2)).take 2 = [.string ⟨⟨pt⟩⟩, .string ⟨⟨tt⟩⟩] := hLt
      rw [hvv] at t57
      have hle : bo + j * 2 + 2 ≤ L.length := by omega
      have hjw : IntKind.i64.wrap ((j : Int) + 1) = ((j + 1 : Nat) : Int) := by rw [w64 (by omega)]; omega
      simp -implicitDefEqProofs (disch := first | assumption | (simp only [wnA]; done) | (simp only [wnA]; omega) | omega | fail) [hjl, rc22_1, wkA, retV, stabOk, dC, ev, fillD, pickCells, putAt, bnd, slD, List.getElem?_cons_zero, List.getElem?_cons_succ, dR.eq_20, Mem.cell, Mem.row, wmA, t57, t58, t59, sidx_at, hL, hLt, hle]
      obtain ⟨M, hM⟩ : ∃ M, (m1.push (.own [.string ⟨#[]⟩, .string ⟨#[]⟩] 49)).set m1.next (.own (putAt [.string ⟨#[]⟩, .string ⟨#[]⟩] 0 [.string ⟨⟨pt⟩⟩, .string ⟨⟨tt⟩⟩]) 49) = M := ⟨_, rfl⟩
      refine SK_stm (i := m1.next) (o := 0) (vs := [.string ⟨⟨pt⟩⟩, .string ⟨⟨tt⟩⟩]) (cs := [.string ⟨#[]⟩, .string ⟨#[]⟩]) (e := 49) (M := M) (by simp [wkA, retV, stabOk, dC, ev, fillD, pickCells, putAt, bnd, slD, List.getElem?_cons_zero, List.getElem?_cons_succ, dR.eq_20]) (by simp -implicitDefEqProofs (disch := first | assumption | (simp only [wnA]; done) | (simp only [wnA]; omega) | omega | fail) [wkA, retV, stabOk, dC, ev, fillD, pickCells, putAt, bnd, slD, List.getElem?_cons_zero, List.getElem?_cons_succ, dR.eq_20, Mem.cell, Mem.row, wmA]) (by simp [wkA, retV, stabOk, dC, ev, fillD, pickCells, putAt, bnd, slD, List.getElem?_cons_zero, List.getElem?_cons_succ, dR.eq_20]) (by simp) rfl rfl hM ?_
      have oM : Old m1 M := by subst hM; exact ((Old.refl m1).push _).set (Nat.le_refl _) _
      have gM : M.get m1.next = .own [.string ⟨⟨pt⟩⟩, .string ⟨⟨tt⟩⟩] 49 := by subst hM; rw [Mem.set_same]; rfl
      have nM : m1.next < M.next := by subst hM; simp
      clear hM
      have lq := qL_len pt
      simp only at hw
      have fin : ∀ (ts' : Fr) (m' : Mem) (R : List UInt8), Old m m' → (∀ k ∈ [5, 13, 14, 15], ts' k = ts k) → ts' 57 = ts 57 → ts' 58 = ts 58 → ts' 59 = .int .i64 ((j + 1 : Nat) : Int) → ts' 3 = .string ⟨⟨R⟩⟩ → R = S ++ (J ++ (if j = 0 then [] else [44, 32]) ++ armL ⟨pt, tt⟩) → K ts' m' := by
        intro ts' m' R o hs h57 h58 h59 h3 hR
        refine hK (k - 1) _ _ (by omega) ⟨j + 1, by omega, o, fun q hq => (hs q hq).trans (sm q hq), by rw [h57, t57, hvv], by rw [h58, t58], h59, by rw [h3, hR, hnx]⟩
      by_cases hj0 : j = 0
      · have hj0' : (j : Int) = 0 := by omega
        have hng : ¬ (0 : Int) < (j : Int) := by omega
        simp -implicitDefEqProofs (disch := first | assumption | (simp only [wnA]; done) | (simp only [wnA]; omega) | omega | fail) [wkA, retV, stabOk, dC, ev, fillD, pickCells, putAt, bnd, slD, List.getElem?_cons_zero, List.getElem?_cons_succ, dR.eq_20, Mem.cell, Mem.row, wmA, hj0, rc22_0, gM]
        refine c_Quote (show pt.length ≤ _ by omega) fun m2 o2 => ?_
        rw [quoteV_eq]
        have g2 := (o2.2 _ nM).trans gM
        simp -implicitDefEqProofs (disch := first | assumption | (simp only [wnA]; done) | (simp only [wnA]; omega) | omega | (simp only [List.length_append, List.length_cons, List.length_nil]; omega) | fail) [wkA, retV, stabOk, dC, ev, fillD, pickCells, putAt, bnd, slD, List.getElem?_cons_zero, List.getElem?_cons_succ, dR.eq_20, Mem.cell, Mem.row, wmA, g2, t3, cat2, t59, hjw]
        exact fin _ m2 (S ++ (J ++ (qL pt ++ [32, 103, 111, 32] ++ tt))) ((o1.trans oM).trans o2) (fun q hq => by
          simp only [List.mem_cons, List.not_mem_nil, or_false] at hq
          rcases hq with rfl | rfl | rfl | rfl <;> simp) (by simp) (by simp) (by simp [hj0]) (by simp) (by simp [hj0, armL, goS])
      · have hng : (0 : Int) < (j : Int) := by omega
        have hng' : 0 < j := by omega
        simp -implicitDefEqProofs (disch := first | assumption | (simp only [wnA]; done) | (simp only [wnA]; omega) | omega | fail) [wkA, retV, stabOk, dC, ev, fillD, pickCells, putAt, bnd, slD, List.getElem?_cons_zero, List.getElem?_cons_succ, dR.eq_20, Mem.cell, Mem.row, wmA, gtT hng, hng', t3]
        have c1 := cat2 (a := S ++ J) (b := [44, 32]) (by simp; omega)
        simp only [List.append_assoc] at c1
        simp -implicitDefEqProofs (disch := first | assumption | (simp only [wnA]; done) | (simp only [wnA]; omega) | omega | (simp only [List.length_append, List.length_cons, List.length_nil]; omega) | fail) [wkA, retV, stabOk, dC, ev, fillD, pickCells, putAt, bnd, slD, List.getElem?_cons_zero, List.getElem?_cons_succ, dR.eq_20, Mem.cell, Mem.row, wmA, c1, rc22_0, gM]
        refine c_Quote (show pt.length ≤ _ by omega) fun m2 o2 => ?_
        rw [quoteV_eq]
        have g2 := (o2.2 _ nM).trans gM
        simp -implicitDefEqProofs (disch := first | assumption | (simp only [wnA]; done) | (simp only [wnA]; omega) | omega | (simp only [List.length_append, List.length_cons, List.length_nil]; omega) | fail) [wkA, retV, stabOk, dC, ev, fillD, pickCells, putAt, bnd, slD, List.getElem?_cons_zero, List.getElem?_cons_succ, dR.eq_20, Mem.cell, Mem.row, wmA, g2, cat2, t59, hjw]
        exact fin _ m2 (S ++ (J ++ ([44, 32] ++ (qL pt ++ [32, 103, 111, 32] ++ tt)))) ((o1.trans oM).trans o2) (fun q hq => by
          simp only [List.mem_cons, List.not_mem_nil, or_false] at hq
          rcases hq with rfl | rfl | rfl | rfl <;> simp) (by simp) (by simp) (by simp) (by simp) (by simp [hj0, armL, goS])
    · have hjj : j = l.length := by omega
      subst hjj
      rw [List.take_length] at t3
      simp -implicitDefEqProofs (disch := first | assumption | (simp only [wnA]; done) | (simp only [wnA]; omega) | omega | fail) [hjl, wkA, retV, stabOk, dC, ev, fillD, pickCells, putAt, bnd, slD, List.getElem?_cons_zero, List.getElem?_cons_succ, dR.eq_20, Mem.cell, Mem.row, wmA]
      exact hq _ m1 o1 (fun q hq => by
        have := sm q hq
        simp only [List.mem_cons, List.not_mem_nil, or_false] at hq
        rcases hq with rfl | rfl | rfl | rfl <;> simp [this]) (by simp [t3])
end Go.Proofs.YtjlicambfepfiaaGreatDoor.Ab

set_option linter.unusedVariables false
set_option linter.unusedSimpArgs false
namespace Go.Proofs.YtjlicambfepfiaaGreatDoor.Ab
open Go Go.RowKit
set_option maxHeartbeats 4000000
set_option maxRecDepth 100000

def frS : List Nat := [13, 14, 15]
theorem w_lbody {w0 : World} {Q : AQ} {fr : Fr} {m : Mem} {b : Nat} {d : DS} {av : Value} {S : List UInt8} (hv : SlR m 2 av (d.arms.flatMap Arm.cells) d.arms.length) (hvb : ∀ b, blk av = some b → b < m.next) (hw : wD d ≤ 1099511627776) (hn : -9223372036854775807 ≤ d.n ∧ d.n ≤ 9223372036854775807)
    (hg : m.get b = .own (dsC d av) 29) (hb : b < m.next) (t5 : fr 5 = .pointer (some ⟨b, 0, none⟩)) (t6 : fr 6 = .int .i64 (kN d.kd : Nat)) (t3 : fr 3 = .string ⟨⟨S⟩⟩) (hS : S.length ≤ 2199023255552)
    (hq : ∀ fr' m', Old m m' → fr' 3 = .string ⟨⟨S ++ wordsL.getD (kN d.kd) [] ++ restL d ++ [59, 10]⟩⟩ → (∀ k ∈ frS, fr' k = fr k) → Q .normal fr' m') : AbW Tryz.prog w0 rc22_3 Q fr m := by
  obtain ⟨lb, kd, tx, arms, n, to, pl⟩ := d
  have hg : m.get b = .own [.string ⟨⟨lb⟩⟩, .int .i64 kd, .string ⟨⟨tx⟩⟩, av, .int .i64 n, .string ⟨⟨to⟩⟩, .int .i64 pl] 29 := hg
  have hle := kN_le kd
  simp only at t6 hn
  simp -implicitDefEqProofs (disch := first | assumption | (simp only [wnA]; done) | (simp only [wnA]; omega) | omega | fail) [rc22_3, wkA, retV, stabOk, dC, ev, fillD, pickCells, putAt, bnd, slD, List.getElem?_cons_zero, List.getElem?_cons_succ, dR.eq_20, Mem.cell, Mem.row, wmA, t3, t6]
  have hn' : -9223372036854775808 ≤ n ∧ n ≤ 9223372036854775807 := by omega
  have fin : ∀ fr' m' R, Old m m' → fr' 3 = .string ⟨⟨R ++ [59, 10]⟩⟩ → R = S ++ wordsL.getD (kN kd) [] ++ restX (kN kd) ⟨lb, kd, tx, arms, n, to, pl⟩ → (∀ k ∈ frS, fr' k = fr k) → Q .normal fr' m' := by
    intro fr' m' R o e hR hf
    subst hR
    exact hq fr' m' o e hf
  clear hq
  rw [SK_bsl (cs := wordsL.map fun w => .string ⟨⟨w⟩⟩) (by simp [wkA, retV, stabOk, dC, ev, fillD, pickCells, putAt, bnd, slD, List.getElem?_cons_zero, List.getElem?_cons_succ, dR.eq_20, wordsL, sendL, expectL, goL, tryL, doneL, failL]) (by simp [wordsL])]
  obtain ⟨m1, hm1⟩ : ∃ m1, m.push (.own (wordsL.map fun w => .string ⟨⟨w⟩⟩) 9) = m1 := ⟨_, rfl⟩
  have o1 : Old m m1 := by subst hm1; exact (Old.refl m).push _
  have gw : m1.get m.next = .own (wordsL.map fun w => .string ⟨⟨w⟩⟩) 9 := by subst hm1; rw [Mem.push_same]
  have g1 := (o1.2 b hb).trans hg
  rw [hm1]
  have hix : sidx 1 (.slice (some ⟨m.next, 0, none⟩) 6 1) (.int .i64 ((kN kd : Nat) : Int)) = some (.pointer (some ⟨m.next, 0 + kN kd * 1, none⟩)) := sidx_at (by omega)
  simp only [Nat.zero_add, Nat.mul_one] at hix
  have hwl : kN kd < wordsL.length := by show kN kd < 6; omega
  have hwj : (wordsL.map fun w => (.string ⟨⟨w⟩⟩ : Value))[kN kd]? = some (.string ⟨⟨wordsL.getD (kN kd) []⟩⟩) := by simp [List.getElem?_map, List.getElem?_eq_getElem hwl, List.getD]
  have hwl6 : (wordsL.getD (kN kd) []).length ≤ 6 := by
    rcases (show kN kd = 0 ∨ kN kd = 1 ∨ kN kd = 2 ∨ kN kd = 3 ∨ kN kd = 4 ∨ kN kd = 5 by omega) with e | e | e | e | e | e <;> rw [e] <;> decide
  generalize wordsL.getD (kN kd) [] = W at *
  generalize (wordsL.map fun w => (.string ⟨⟨w⟩⟩ : Value)) = ws at *
  have c1 := cat2 (a := S) (b := W) (by omega)
  have hSW : (S ++ W).length ≤ 2199023255558 := by simp; omega
  have hv1 : SlR m1 2 av (arms.flatMap Arm.cells) arms.length := hv.keep fun b h => o1.2 b (hvb b h)
  have hvb1 : ∀ b, blk av = some b → b < m1.next := fun b h => Nat.lt_of_lt_of_le (hvb b h) o1.1
  have hb1 : b < m1.next := Nat.lt_of_lt_of_le hb o1.1
  simp only [wD] at hw
  have lj := joinA_len arms
  have ln := num_len10 (i := n) hn'
  have lq := qL_len tx
  have hal := wArms_len arms
  generalize S ++ W = R at *
  generalize kN kd = kk at *
  simp -implicitDefEqProofs (disch := first | assumption | (simp only [wnA]; done) | (simp only [wnA]; omega) | omega | (simp only [List.length_append, List.length_cons, List.length_nil]; omega) | fail) [wkA, retV, stabOk, dC, ev, fillD, pickCells, putAt, bnd, slD, List.getElem?_cons_zero, List.getElem?_cons_succ, dR.eq_20, Mem.cell, Mem.row, wmA, t6, hix, gw, hwj, getL hwj, c1]
  rcases (show kk = 0 ∨ kk = 1 ∨ kk = 2 ∨ kk = 3 ∨ kk = 4 ∨ kk = 5 by omega) with rfl | rfl | rfl | rfl | rfl | rfl
  · simp -implicitDefEqProofs (disch := first | assumption | (simp only [wnA]; done) | (simp only [wnA]; omega) | omega | (simp only [List.length_append, List.length_cons, List.length_nil]; omega) | fail) [wkA, retV, stabOk, dC, ev, fillD, pickCells, putAt, bnd, slD, List.getElem?_cons_zero, List.getElem?_cons_succ, dR.eq_20, Mem.cell, Mem.row, wmA, t5, g1]
    refine c_Quote (show tx.length ≤ 1099511627776 by omega) fun m2 o2 => ?_
    rw [quoteV_eq]
    simp -implicitDefEqProofs (disch := first | assumption | (simp only [wnA]; done) | (simp only [wnA]; omega) | omega | (simp only [List.length_append, List.length_cons, List.length_nil]; omega) | fail) [wkA, retV, stabOk, dC, ev, fillD, pickCells, putAt, bnd, slD, List.getElem?_cons_zero, List.getElem?_cons_succ, dR.eq_20, Mem.cell, Mem.row, wmA, cat2]
    exact fin _ m2 (R ++ restX 0 ⟨lb, kd, tx, arms, n, to, pl⟩) (o1.trans o2) (by simp [restX]) rfl (fun q hq => by
      simp only [frS, List.mem_cons, List.not_mem_nil, or_false] at hq
      rcases hq with rfl | rfl | rfl <;> simp)
  · have c2 := cat2 (a := R) (b := [32]) (by simp; omega)
    simp -implicitDefEqProofs (disch := first | assumption | (simp only [wnA]; done) | (simp only [wnA]; omega) | omega | (simp only [List.length_append, List.length_cons, List.length_nil]; omega) | fail) [wkA, retV, stabOk, dC, ev, fillD, pickCells, putAt, bnd, slD, List.getElem?_cons_zero, List.getElem?_cons_succ, dR.eq_20, Mem.cell, Mem.row, wmA, t5, g1, hv1.slen, c2]
    refine w_larms (av := av) (l := arms) (S := R ++ [32]) hv1 hvb1 (by omega) (by simp; omega) (by simp) (by simp) (by simp) (by simp) fun fr' m2 o2 sm e3 => ?_
    have e5 := sm 5 (by simp)
    have e13 := sm 13 (by simp)
    have e14 := sm 14 (by simp)
    have e15 := sm 15 (by simp)
    simp [t5] at e5 e13 e14 e15
    have g2 := (o2.2 b hb1).trans g1
    simp -implicitDefEqProofs (disch := first | assumption | (simp only [wnA]; done) | (simp only [wnA]; omega) | omega | (simp only [List.length_append, List.length_cons, List.length_nil]; omega) | fail) [wkA, retV, stabOk, dC, ev, fillD, pickCells, putAt, bnd, slD, List.getElem?_cons_zero, List.getElem?_cons_succ, dR.eq_20, Mem.cell, Mem.row, wmA, e3, e5, g2, cat2]
    refine c_digits hn ?_
    simp -implicitDefEqProofs (disch := first | assumption | (simp only [wnA]; done) | (simp only [wnA]; omega) | omega | (simp only [List.length_append, List.length_cons, List.length_nil]; omega) | fail) [wkA, retV, stabOk, dC, ev, fillD, pickCells, putAt, bnd, slD, List.getElem?_cons_zero, List.getElem?_cons_succ, dR.eq_20, Mem.cell, Mem.row, wmA, e3, e5, g2, cat2]
    exact fin _ m2 (R ++ restX 1 ⟨lb, kd, tx, arms, n, to, pl⟩) (o1.trans o2) (by simp [restX, goS, afterL]) rfl (fun q hq => by
      simp only [frS, List.mem_cons, List.not_mem_nil, or_false] at hq
      rcases hq with rfl | rfl | rfl <;> simp [e13, e14, e15])
  · simp -implicitDefEqProofs (disch := first | assumption | (simp only [wnA]; done) | (simp only [wnA]; omega) | omega | (simp only [List.length_append, List.length_cons, List.length_nil]; omega) | fail) [wkA, retV, stabOk, dC, ev, fillD, pickCells, putAt, bnd, slD, List.getElem?_cons_zero, List.getElem?_cons_succ, dR.eq_20, Mem.cell, Mem.row, wmA, t5, g1, cat2]
    exact fin _ m1 (R ++ restX 2 ⟨lb, kd, tx, arms, n, to, pl⟩) o1 (by simp [restX]) rfl (fun q hq => by
      simp only [frS, List.mem_cons, List.not_mem_nil, or_false] at hq
      rcases hq with rfl | rfl | rfl <;> simp)
  · simp -implicitDefEqProofs (disch := first | assumption | (simp only [wnA]; done) | (simp only [wnA]; omega) | omega | (simp only [List.length_append, List.length_cons, List.length_nil]; omega) | fail) [wkA, retV, stabOk, dC, ev, fillD, pickCells, putAt, bnd, slD, List.getElem?_cons_zero, List.getElem?_cons_succ, dR.eq_20, Mem.cell, Mem.row, wmA, t5, g1, cat2]
    refine c_digits hn ?_
    simp -implicitDefEqProofs (disch := first | assumption | (simp only [wnA]; done) | (simp only [wnA]; omega) | omega | (simp only [List.length_append, List.length_cons, List.length_nil]; omega) | fail) [wkA, retV, stabOk, dC, ev, fillD, pickCells, putAt, bnd, slD, List.getElem?_cons_zero, List.getElem?_cons_succ, dR.eq_20, Mem.cell, Mem.row, wmA, t5, g1, cat2]
    exact fin _ m1 (R ++ restX 3 ⟨lb, kd, tx, arms, n, to, pl⟩) o1 (by simp [restX, goS]) rfl (fun q hq => by
      simp only [frS, List.mem_cons, List.not_mem_nil, or_false] at hq
      rcases hq with rfl | rfl | rfl <;> simp)
  · simp -implicitDefEqProofs (disch := first | assumption | (simp only [wnA]; done) | (simp only [wnA]; omega) | omega | (simp only [List.length_append, List.length_cons, List.length_nil]; omega) | fail) [wkA, retV, stabOk, dC, ev, fillD, pickCells, putAt, bnd, slD, List.getElem?_cons_zero, List.getElem?_cons_succ, dR.eq_20, Mem.cell, Mem.row, wmA, t5, g1, cat2]
    exact fin _ m1 R o1 (by simp) (by simp [restX]) (fun q hq => by
      simp only [frS, List.mem_cons, List.not_mem_nil, or_false] at hq
      rcases hq with rfl | rfl | rfl <;> simp)
  · simp -implicitDefEqProofs (disch := first | assumption | (simp only [wnA]; done) | (simp only [wnA]; omega) | omega | (simp only [List.length_append, List.length_cons, List.length_nil]; omega) | fail) [wkA, retV, stabOk, dC, ev, fillD, pickCells, putAt, bnd, slD, List.getElem?_cons_zero, List.getElem?_cons_succ, dR.eq_20, Mem.cell, Mem.row, wmA, t5, g1, cat2]
    exact fin _ m1 R o1 (by simp) (by simp [restX]) (fun q hq => by
      simp only [frS, List.mem_cons, List.not_mem_nil, or_false] at hq
      rcases hq with rfl | rfl | rfl <;> simp)
end Go.Proofs.YtjlicambfepfiaaGreatDoor.Ab

set_option linter.unusedVariables false
set_option linter.unusedSimpArgs false
namespace Go.Proofs.YtjlicambfepfiaaGreatDoor.Ab
open Go Go.RowKit
set_option maxHeartbeats 4000000
set_option maxRecDepth 100000

theorem w_lclamp {w0 : World} {Q : AQ} {fr : Fr} {m : Mem} {b : Nat} {d : DS} {av : Value} {S : List UInt8} (hv : SlR m 2 av (d.arms.flatMap Arm.cells) d.arms.length) (hvb : ∀ b, blk av = some b → b < m.next) (hw : wD d ≤ 1099511627776) (hn : -9223372036854775807 ≤ d.n ∧ d.n ≤ 9223372036854775807)
    (hg : m.get b = .own (dsC d av) 29) (hb : b < m.next) (t5 : fr 5 = .pointer (some ⟨b, 0, none⟩)) (t3 : fr 3 = .string ⟨⟨S⟩⟩) (hS : S.length ≤ 2199023255552)
    (hq : ∀ fr' m', Old m m' → fr' 3 = .string ⟨⟨S ++ wordsL.getD (kN d.kd) [] ++ restL d ++ [59, 10]⟩⟩ → (∀ k ∈ frS, fr' k = fr k) → Q .normal fr' m') : AbW Tryz.prog w0 rc22_5 Q fr m := by
  have hg' := hg
  simp only [dsC] at hg
  have go : ∀ fr' : Fr, fr' 5 = .pointer (some ⟨b, 0, none⟩) → fr' 6 = .int .i64 (kN d.kd : Nat) → fr' 3 = .string ⟨⟨S⟩⟩ → (∀ k ∈ frS, fr' k = fr k) → AbW Tryz.prog w0 rc22_3 Q fr' m := fun fr' e5 e6 e3 ef =>
    w_lbody hv hvb hw hn hg' hb e5 e6 e3 hS fun fr'' m' o h3 hf => hq fr'' m' o h3 fun k hk => (hf k hk).trans (ef k hk)
  clear hq
  by_cases h0 : d.kd < 0
  · have hk : kN d.kd = 0 := by simp [kN, h0]
    rw [hk] at go
    simp -implicitDefEqProofs (disch := first | assumption | (simp only [wnA]; done) | (simp only [wnA]; omega) | omega | fail) [rc22_5, rc22_4, wkA, retV, stabOk, dC, ev, fillD, pickCells, putAt, bnd, slD, List.getElem?_cons_zero, List.getElem?_cons_succ, dR.eq_20, Mem.cell, Mem.row, wmA, t5, hg, h0]
    exact go _ (by simp [t5]) (by simp) (by simp [t3]) (fun q hq => by
      simp only [frS, List.mem_cons, List.not_mem_nil, or_false] at hq
      rcases hq with rfl | rfl | rfl <;> simp)
  · by_cases h5 : 5 < d.kd
    · have hk : kN d.kd = 5 := by simp [kN, h0, h5]
      rw [hk] at go
      simp -implicitDefEqProofs (disch := first | assumption | (simp only [wnA]; done) | (simp only [wnA]; omega) | omega | fail) [rc22_5, rc22_4, wkA, retV, stabOk, dC, ev, fillD, pickCells, putAt, bnd, slD, List.getElem?_cons_zero, List.getElem?_cons_succ, dR.eq_20, Mem.cell, Mem.row, wmA, t5, hg, h0, h5]
      exact go _ (by simp [t5]) (by simp) (by simp [t3]) (fun q hq => by
      simp only [frS, List.mem_cons, List.not_mem_nil, or_false] at hq
      rcases hq with rfl | rfl | rfl <;> simp)
    · have hk : (kN d.kd : Int) = d.kd := by
        unfold kN
        rw [if_neg h0, if_neg (show ¬ d.kd > 5 by omega)]
        omega
      simp -implicitDefEqProofs (disch := first | assumption | (simp only [wnA]; done) | (simp only [wnA]; omega) | omega | fail) [rc22_5, rc22_4, wkA, retV, stabOk, dC, ev, fillD, pickCells, putAt, bnd, slD, List.getElem?_cons_zero, List.getElem?_cons_succ, dR.eq_20, Mem.cell, Mem.row, wmA, t5, hg, h0, h5]
      exact go _ (by simp [t5]) (by simp [hk]) (by simp [t3]) (fun q hq => by
      simp only [frS, List.mem_cons, List.not_mem_nil, or_false] at hq
      rcases hq with rfl | rfl | rfl <;> simp)

theorem c_LDText {w0 : World} {m : Mem} {v : Value} {l : List DV} {Q : Value → Mem → Prop} (hv : DsV m v l) (hl : wT l ≤ 1099511627776) (hn : ∀ x ∈ l, -9223372036854775807 ≤ x.1.n ∧ x.1.n ≤ 9223372036854775807)
    (hq : ∀ m', Old m m' → Q (.string ⟨⟨textL l⟩⟩) m') : AbC Tryz.prog w0 22 [v] m Q := by
  refine AbC_fn ok22 (by simp) ?_
  have hll := wT_len l
  simp -implicitDefEqProofs (disch := first | assumption | (simp only [wnA]; done) | (simp only [wnA]; omega) | omega | fail) [rc22, ro22, wkA, retV, stabOk, dC, ev, fillD, pickCells, putAt, bnd, slD, List.getElem?_cons_zero, List.getElem?_cons_succ, dR.eq_20, Mem.cell, Mem.row, wmA, hv.sl.slen]
  refine LoopW_of (fun k ts m' => ∃ j, j + k = l.length ∧ ts 3 = .string ⟨⟨textL (l.take j)⟩⟩ ∧ ts 13 = v ∧ ts 14 = .int .i64 (l.length : Nat) ∧ ts 15 = .int .i64 (j : Nat) ∧ Old m m') l.length ?_ ?_
  · exact ⟨0, by omega, by simp [textL], by simp [frA_at], by simp, by simp, Old.refl m⟩
  · rintro k ts m1 K ⟨j, hj, t3, t13, t14, t15, hb⟩ hK
    have hlen := textL_len (l := l.take j) fun e h => by have := hn e (List.mem_of_mem_take h); unfold NOk; omega
    have htk := wT_take l j
    simp -implicitDefEqProofs (disch := first | assumption | (simp only [wnA]; done) | (simp only [wnA]; omega) | omega | fail) [rc22_7, wkA, retV, stabOk, dC, ev, fillD, pickCells, putAt, bnd, slD, List.getElem?_cons_zero, List.getElem?_cons_succ, dR.eq_20, Mem.cell, Mem.row, wmA, t14, t15]
    by_cases hjl : j < l.length
    · have hv1 := hv.old hb
      obtain ⟨bi, bo, L, hvv, hL, hLl, hLt, -⟩ := hv1.sl.at hjl
      rw [flat_at vC_len l (List.getElem?_eq_getElem hjl)] at hLt
      have hx1 := wT_succ hjl
      have hx2 := wT_take l (j + 1)
      obtain ⟨x, hx⟩ : ∃ x, l[j] = x := ⟨_, rfl⟩
      have hxm : x ∈ l := by rw [← hx]; exact List.getElem_mem hjl
      have hnx : textL (l.take (j + 1)) = textL (l.take j) ++ lineD x.1 := by
        unfold textL
        rw [List.take_succ_eq_append_getElem hjl, List.flatMap_append, hx]; simp
      have hax := hv1.ar x hxm
      have hxn := hn x hxm
      rw [hx] at hLt hx1
      rw [hvv] at t13
      have hle : bo + j * 7 + 7 ≤ L.length := by omega
      have hjw : IntKind.i64.wrap ((j : Int) + 1) = ((j + 1 : Nat) : Int) := by rw [w64 (by omega)]; omega
      have hone := hax.sl.one
      generalize textL (l.take j) = T at *
      obtain ⟨M, hM⟩ : ∃ M, (m1.push (.own [.string ⟨#[]⟩, .int .i64 0, .string ⟨#[]⟩, .slice none 0 0, .int .i64 0, .string ⟨#[]⟩, .int .i64 0] 29)).set m1.next (.own (putAt [.string ⟨#[]⟩, .int .i64 0, .string ⟨#[]⟩, .slice none 0 0, .int .i64 0, .string ⟨#[]⟩, .int .i64 0] 0 (vC x)) 29) = M := ⟨_, rfl⟩
      have oM : Old m1 M := by subst hM; exact ((Old.refl m1).push _).set (Nat.le_refl _) _
      have gM : M.get m1.next = .own (dsC x.1 x.2) 29 := by subst hM; rw [Mem.set_same]; rfl
      have nM : m1.next < M.next := by subst hM; simp
      have hwx : wD x.1 ≤ 1099511627776 := by omega
      have haM := hax.old oM
      have last : ∀ (fr' : Fr) (m' : Mem), Old M m' → fr' 3 = .string ⟨⟨T ++ lineD x.1⟩⟩ → fr' 13 = ts 13 → fr' 14 = ts 14 → fr' 15 = .int .i64 ((j + 1 : Nat) : Int) → K fr' m' := fun fr' m' o e3 e13 e14 e15 =>
        hK (k - 1) _ _ (by omega) ⟨j + 1, by omega, by rw [e3, hnx], by rw [e13, t13, hvv], by rw [e14, t14], e15, (hb.trans oM).trans o⟩
      have go : ∀ (fr : Fr) (S : List UInt8), fr 5 = .pointer (some ⟨m1.next, 0, none⟩) → fr 3 = .string ⟨⟨S⟩⟩ → S = T ++ labL x.1 → ∀ (Q' : AQ), (∀ fr' m', Old M m' → fr' 3 = .string ⟨⟨T ++ lineD x.1⟩⟩ → (∀ k ∈ frS, fr' k = fr k) → Q' .normal fr' m') → AbW Tryz.prog w0 rc22_5 Q' fr M := by
        intro fr S e5 e3 hS Q' hQ'
        have hSl : S.length ≤ T.length + x.1.lb.length + 2 := by rw [hS, List.length_append]; unfold labL; split <;> simp <;> omega
        have hlb : x.1.lb.length ≤ wD x.1 := by unfold wD; omega
        refine w_lclamp (S := S) haM.sl haM.bl hwx hxn gM nM e5 e3 (by omega) fun fr' m' o h3 hf => hQ' fr' m' o ?_ hf
        rw [h3, hS]
        simp [lineD]
      obtain ⟨⟨lb, kd, tx, arms, n, to, pl⟩, av⟩ := x
      have gx : M.get m1.next = .own [.string ⟨⟨lb⟩⟩, .int .i64 kd, .string ⟨⟨tx⟩⟩, av, .int .i64 n, .string ⟨⟨to⟩⟩, .int .i64 pl] 29 := gM
      have hLt : (L.drop (bo + j * 7)).take 7 = [.string ⟨⟨lb⟩⟩, .int .i64 kd, .string ⟨⟨tx⟩⟩, av, .int .i64 n, .string ⟨⟨to⟩⟩, .int .i64 pl] := hLt
      simp -implicitDefEqProofs (disch := first | assumption | (simp only [wnA]; done) | (simp only [wnA]; omega) | omega | fail) [hjl, rc22_6, wkA, retV, stabOk, dC, ev, fillD, pickCells, putAt, bnd, slD, List.getElem?_cons_zero, List.getElem?_cons_succ, dR.eq_20, Mem.cell, Mem.row, wmA, t3, t13, t14, t15, sidx_at, hL, hLt, hle]
      refine SK_stm (i := m1.next) (o := 0) (vs := vC (⟨lb, kd, tx, arms, n, to, pl⟩, av)) (cs := [.string ⟨#[]⟩, .int .i64 0, .string ⟨#[]⟩, .slice none 0 0, .int .i64 0, .string ⟨#[]⟩, .int .i64 0]) (e := 29) (M := M) (by simp [wkA, retV, stabOk, dC, ev, fillD, pickCells, putAt, bnd, slD, List.getElem?_cons_zero, List.getElem?_cons_succ, dR.eq_20]) (by simp -implicitDefEqProofs (disch := first | assumption | (simp only [wnA]; done) | (simp only [wnA]; omega) | omega | fail) [wkA, retV, stabOk, dC, ev, fillD, pickCells, putAt, bnd, slD, List.getElem?_cons_zero, List.getElem?_cons_succ, dR.eq_20, Mem.cell, Mem.row, wmA]) (by simp [wkA, retV, stabOk, dC, ev, fillD, pickCells, putAt, bnd, slD, List.getElem?_cons_zero, List.getElem?_cons_succ, dR.eq_20, vC, dsC]) (by simp) rfl (by simp only [vC, dsC, List.all_cons, List.all_nil, hone.1]; rfl) hM ?_
      clear hM
      have hTl : T.length ≤ 1099511627776 := by omega
      have hlbw : lb.length ≤ 1099511627776 := by unfold wD at hwx; simp only at hwx; omega
      by_cases hlb : lb = []
      · subst hlb
        simp -implicitDefEqProofs (disch := first | assumption | (simp only [wnA]; done) | (simp only [wnA]; omega) | omega | fail) [wkA, retV, stabOk, dC, ev, fillD, pickCells, putAt, bnd, slD, List.getElem?_cons_zero, List.getElem?_cons_succ, dR.eq_20, Mem.cell, Mem.row, wmA, gx]
        refine go _ T (by simp) (by simp [t3]) (by simp [labL]) _ fun fr' m' o e3 hf => ?_
        have e13 := hf 13 (by decide)
        have e14 := hf 14 (by decide)
        have e15 := hf 15 (by decide)
        simp at e13 e14 e15
        simp -implicitDefEqProofs (disch := first | assumption | (simp only [wnA]; done) | (simp only [wnA]; omega) | omega | fail) [wkA, retV, stabOk, dC, ev, fillD, pickCells, putAt, bnd, slD, List.getElem?_cons_zero, List.getElem?_cons_succ, dR.eq_20, Mem.cell, Mem.row, wmA, e15, t15, hjw]
        exact last _ m' o (by simp [e3]) (by simp [e13]) (by simp [e14]) (by simp)
      · have c1 := cat2 (a := T) (b := lb) (by omega)
        have c2 := cat2 (a := T ++ lb) (b := [58, 32]) (by simp; omega)
        have hb0 : lb.isEmpty = false := by cases lb <;> simp at hlb ⊢
        simp only [List.append_assoc] at c2
        simp -implicitDefEqProofs (disch := first | assumption | (simp only [wnA]; done) | (simp only [wnA]; omega) | omega | (simp only [List.length_append, List.length_cons, List.length_nil]; omega) | fail) [wkA, retV, stabOk, dC, ev, fillD, pickCells, putAt, bnd, slD, List.getElem?_cons_zero, List.getElem?_cons_succ, dR.eq_20, Mem.cell, Mem.row, wmA, gx, hb0, hlb, t3, c1, c2]
        refine go _ (T ++ (lb ++ [58, 32])) (by simp) (by simp) (by simp [labL, hlb]) _ fun fr' m' o e3 hf => ?_
        have e13 := hf 13 (by decide)
        have e14 := hf 14 (by decide)
        have e15 := hf 15 (by decide)
        simp at e13 e14 e15
        simp -implicitDefEqProofs (disch := first | assumption | (simp only [wnA]; done) | (simp only [wnA]; omega) | omega | fail) [wkA, retV, stabOk, dC, ev, fillD, pickCells, putAt, bnd, slD, List.getElem?_cons_zero, List.getElem?_cons_succ, dR.eq_20, Mem.cell, Mem.row, wmA, e15, t15, hjw]
        exact last _ m' o (by simp [e3]) (by simp [e13]) (by simp [e14]) (by simp)
    · have hjj : j = l.length := by omega
      subst hjj
      rw [List.take_length] at t3
      simp -implicitDefEqProofs (disch := first | assumption | (simp only [wnA]; done) | (simp only [wnA]; omega) | omega | fail) [hjl, rc22_8, wkA, retV, stabOk, dC, ev, fillD, pickCells, putAt, bnd, slD, List.getElem?_cons_zero, List.getElem?_cons_succ, dR.eq_20, Mem.cell, Mem.row, wmA, t3]
      exact hq m1 hb
end Go.Proofs.YtjlicambfepfiaaGreatDoor.Ab

set_option linter.unusedVariables false
set_option linter.unusedSimpArgs false
namespace Go.Proofs.YtjlicambfepfiaaGreatDoor.Ab
open Go Go.RowKit
set_option maxHeartbeats 4000000
set_option maxRecDepth 100000

theorem l_DText {w0 : World} {m : Mem} {v : Value} {l : List DV} (hp : Part L0 m) (ht : Ten w0) (hv : DsV m v l) (hl : wT l ≤ 1099511627776) (hn : ∀ x ∈ l, NOk x.1) :
    AbC Tryz.prog w0 6 [v] m fun v _ => v = .bool true := by
  refine AbC_fn ok6 (by simp) ?_
  have hll := wT_len l
  simp -implicitDefEqProofs (disch := first | assumption | (simp only [wnA]; done) | (simp only [wnA]; omega) | omega | fail) [rc6, ro6, wkA, retV, stabOk, dC, ev, fillD, pickCells, putAt, bnd, slD, List.getElem?_cons_zero, List.getElem?_cons_succ, dR.eq_20, Mem.cell, Mem.row, wmA]
  refine c_awake hp ?_
  simp -implicitDefEqProofs (disch := first | assumption | (simp only [wnA]; done) | (simp only [wnA]; omega) | omega | fail) [rc6_3, wkA, retV, stabOk, dC, ev, fillD, pickCells, putAt, bnd, slD, List.getElem?_cons_zero, List.getElem?_cons_succ, dR.eq_20, Mem.cell, Mem.row, wmA, hv.sl.slen]
  refine LoopW_of (fun k ts m' => ∃ j, j + k = l.length ∧ ts 0 = v ∧ ts 7 = v ∧ ts 8 = .int .i64 (l.length : Nat) ∧ ts 9 = .int .i64 (j : Nat) ∧ Old m m' ∧ ∀ i x, i < j → l[i]? = some x → -1099511627776 ≤ x.1.n) l.length ?_ ?_
  · exact ⟨0, by omega, by simp [frA_at], by simp [frA_at], by simp, by simp, Old.refl m, fun i e hi => by omega⟩
  · rintro k ts m1 K ⟨j, hj, t0, t7, t8, t9, ho1, hall⟩ hK
    simp -implicitDefEqProofs (disch := first | assumption | (simp only [wnA]; done) | (simp only [wnA]; omega) | omega | fail) [rc6_1, wkA, retV, stabOk, dC, ev, fillD, pickCells, putAt, bnd, slD, List.getElem?_cons_zero, List.getElem?_cons_succ, dR.eq_20, Mem.cell, Mem.row, wmA, t8, t9]
    have hv1 := hv.old ho1
    by_cases hjl : j < l.length
    · obtain ⟨bi, bo, L, hvv, hL, hLl, hLt, -⟩ := hv1.sl.at hjl
      rw [flat_at vC_len l (List.getElem?_eq_getElem hjl)] at hLt
      obtain ⟨x, hx⟩ : ∃ x, l[j] = x := ⟨_, rfl⟩
      have hxm : x ∈ l := by rw [← hx]; exact List.getElem_mem hjl
      have hone := (hv1.ar x hxm).sl.one
      rw [hx] at hLt
      rw [hvv] at t7
      have hle : bo + j * 7 + 7 ≤ L.length := by omega
      have hjw : IntKind.i64.wrap ((j : Int) + 1) = ((j + 1 : Nat) : Int) := by rw [w64 (by omega)]; omega
      obtain ⟨M, hM⟩ : ∃ M, (m1.push (.own [.string ⟨#[]⟩, .int .i64 0, .string ⟨#[]⟩, .slice none 0 0, .int .i64 0, .string ⟨#[]⟩, .int .i64 0] 29)).set m1.next (.own (putAt [.string ⟨#[]⟩, .int .i64 0, .string ⟨#[]⟩, .slice none 0 0, .int .i64 0, .string ⟨#[]⟩, .int .i64 0] 0 (vC x)) 29) = M := ⟨_, rfl⟩
      have oM : Old m1 M := by subst hM; exact ((Old.refl m1).push _).set (Nat.le_refl _) _
      have gM : M.get m1.next = .own (dsC x.1 x.2) 29 := by subst hM; rw [Mem.set_same]; rfl
      have last : ∀ (fr' : Fr) , -1099511627776 ≤ x.1.n → fr' 0 = ts 0 → fr' 7 = ts 7 → fr' 8 = ts 8 → fr' 9 = .int .i64 ((j + 1 : Nat) : Int) → K fr' M := fun fr' hxn e0 e7 e8 e9 =>
        hK (k - 1) _ _ (by omega) ⟨j + 1, by omega, by rw [e0, t0], by rw [e7, t7, hvv], by rw [e8, t8], e9, ho1.trans oM, fun i y hi hyi => by
          by_cases hij : i = j
          · subst hij
            rw [List.getElem?_eq_getElem hjl, hx] at hyi
            cases hyi
            exact hxn
          · exact hall i y (by omega) hyi⟩
      obtain ⟨⟨lb, kd, tx, arms, n, to, pl⟩, av⟩ := x
      have gx : M.get m1.next = .own [.string ⟨⟨lb⟩⟩, .int .i64 kd, .string ⟨⟨tx⟩⟩, av, .int .i64 n, .string ⟨⟨to⟩⟩, .int .i64 pl] 29 := gM
      have hLt : (L.drop (bo + j * 7)).take 7 = [.string ⟨⟨lb⟩⟩, .int .i64 kd, .string ⟨⟨tx⟩⟩, av, .int .i64 n, .string ⟨⟨to⟩⟩, .int .i64 pl] := hLt
      simp -implicitDefEqProofs (disch := first | assumption | (simp only [wnA]; done) | (simp only [wnA]; omega) | omega | fail) [hjl, rc6_0, wkA, retV, stabOk, dC, ev, fillD, pickCells, putAt, bnd, slD, List.getElem?_cons_zero, List.getElem?_cons_succ, dR.eq_20, Mem.cell, Mem.row, wmA, t0, t7, t8, t9, sidx_at, hL, hLt, hle]
      refine SK_stm (i := m1.next) (o := 0) (vs := vC (⟨lb, kd, tx, arms, n, to, pl⟩, av)) (cs := [.string ⟨#[]⟩, .int .i64 0, .string ⟨#[]⟩, .slice none 0 0, .int .i64 0, .string ⟨#[]⟩, .int .i64 0]) (e := 29) (M := M) (by simp [wkA, retV, stabOk, dC, ev, fillD, pickCells, putAt, bnd, slD, List.getElem?_cons_zero, List.getElem?_cons_succ, dR.eq_20]) (by simp -implicitDefEqProofs (disch := first | assumption | (simp only [wnA]; done) | (simp only [wnA]; omega) | omega | fail) [wkA, retV, stabOk, dC, ev, fillD, pickCells, putAt, bnd, slD, List.getElem?_cons_zero, List.getElem?_cons_succ, dR.eq_20, Mem.cell, Mem.row, wmA]) (by simp [wkA, retV, stabOk, dC, ev, fillD, pickCells, putAt, bnd, slD, List.getElem?_cons_zero, List.getElem?_cons_succ, dR.eq_20, vC, dsC]) (by simp) rfl (by simp only [vC, dsC, List.all_cons, List.all_nil, hone.1]; rfl) hM ?_
      clear hM
      by_cases ha : n < -1099511627776
      · simp -implicitDefEqProofs (disch := first | assumption | (simp only [wnA]; done) | (simp only [wnA]; omega) | omega | fail) [wkA, retV, stabOk, dC, ev, fillD, pickCells, putAt, bnd, slD, List.getElem?_cons_zero, List.getElem?_cons_succ, dR.eq_20, Mem.cell, Mem.row, wmA, gx, ha]
      · simp -implicitDefEqProofs (disch := first | assumption | (simp only [wnA]; done) | (simp only [wnA]; omega) | omega | fail) [wkA, retV, stabOk, dC, ev, fillD, pickCells, putAt, bnd, slD, List.getElem?_cons_zero, List.getElem?_cons_succ, dR.eq_20, Mem.cell, Mem.row, wmA, gx, ha, t9, hjw]
        exact last _ (by simp only; omega) (by simp) (by simp) (by simp) (by simp)
    · have hjj : j = l.length := by omega
      subst hjj
      have hm : ∀ x ∈ l, -9223372036854775807 ≤ x.1.n ∧ x.1.n ≤ 9223372036854775807 := by
        intro x hxm
        obtain ⟨i, hi, hxi⟩ := List.mem_iff_getElem.1 hxm
        have := hall i x hi (by rw [List.getElem?_eq_getElem hi, hxi])
        have := hn x hxm
        unfold NOk at this
        omega
      simp -implicitDefEqProofs (disch := first | assumption | (simp only [wnA]; done) | (simp only [wnA]; omega) | omega | fail) [hjl, rc6_2, wkA, retV, stabOk, dC, ev, fillD, pickCells, putAt, bnd, slD, List.getElem?_cons_zero, List.getElem?_cons_succ, dR.eq_20, Mem.cell, Mem.row, wmA, t0]
      refine c_DText ht hv1 hl hn fun m3 o3 => ?_
      simp -implicitDefEqProofs (disch := first | assumption | (simp only [wnA]; done) | (simp only [wnA]; omega) | omega | fail) [wkA, retV, stabOk, dC, ev, fillD, pickCells, putAt, bnd, slD, List.getElem?_cons_zero, List.getElem?_cons_succ, dR.eq_20, Mem.cell, Mem.row, wmA, t0]
      refine c_LDText (hv1.old o3) hl hm fun m4 o4 => ?_
      simp -implicitDefEqProofs (disch := first | assumption | (simp only [wnA]; done) | (simp only [wnA]; omega) | omega | fail) [wkA, retV, stabOk, dC, ev, fillD, pickCells, putAt, bnd, slD, List.getElem?_cons_zero, List.getElem?_cons_succ, dR.eq_20, Mem.cell, Mem.row, wmA]

/-! The step that a law is given. -/
def armShp : Shp := .recd [.str, .str]
def stepShp : Shp := .recd [.str, .int .i64, .str, .sl armShp, .int .i64, .str, .int .i64]
theorem wf_i64 {n : Int} (h : (Lit.int .i64 n).wf = true) : -9223372036854775808 ≤ n ∧ n ≤ 9223372036854775807 := by
  have : -9223372036854775808 ≤ n ∧ n ≤ 9223372036854775807 := by simpa [Lit.wf, IntKind.min, IntKind.max, IntKind.signed, IntKind.bits] using h
  exact this
def gA (a : Arm) : Nat := a.pat.length + a.to.length + 1
theorem wArms_g (l : List Arm) : wArms l ≤ 64 * (l.map gA).sum := by
  induction l with
  | nil => simp [wArms]
  | cons a l ih => simp only [wArms, List.map_cons, List.sum_cons, gA] at ih ⊢; omega
theorem bytes_len (s : ByteArray) : s = ⟨⟨s.data.toList⟩⟩ ∧ s.data.toList.length = s.size := ⟨rfl, by simp⟩
theorem absT_arm {m : Mem} {td : TD} {cs : List Value} (h : AbsT m td cs) (hf : Fits armShp td) : ∃ a : Arm, cs = a.cells ∧ gA a ≤ td.bulk := by
  obtain ⟨l0, rfl, k, f⟩ := absT_recd h hf
  obtain ⟨d1, r1, c1, e1, rfl, rfl, h1, g1, k, f⟩ := absTs_cons k f
  obtain ⟨d2, r2, c2, e2, rfl, rfl, h2, g2, k, f⟩ := absTs_cons k f
  obtain ⟨rfl, rfl⟩ := absTs_nil k f
  obtain ⟨p, rfl, rfl, w1⟩ := absT_str h1 g1
  obtain ⟨t, rfl, rfl, w2⟩ := absT_str h2 g2
  refine ⟨⟨p.data.toList, t.data.toList⟩, rfl, ?_⟩
  simp [TD.bulk, TD.bulks, gA]; omega
theorem absT_step {m : Mem} {td : TD} {cs : List Value} (h : AbsT m td cs) (hf : Fits stepShp td) : ∃ x : DV, cs = vC x ∧ ArmV m x ∧ NOk x.1 ∧ wD x.1 ≤ 128 * td.bulk := by
  obtain ⟨l0, rfl, k, f⟩ := absT_recd h hf
  obtain ⟨d1, r1, c1, e1, rfl, rfl, h1, g1, k, f⟩ := absTs_cons k f
  obtain ⟨d2, r2, c2, e2, rfl, rfl, h2, g2, k, f⟩ := absTs_cons k f
  obtain ⟨d3, r3, c3, e3, rfl, rfl, h3, g3, k, f⟩ := absTs_cons k f
  obtain ⟨d4, r4, c4, e4, rfl, rfl, h4, g4, k, f⟩ := absTs_cons k f
  obtain ⟨d5, r5, c5, e5, rfl, rfl, h5, g5, k, f⟩ := absTs_cons k f
  obtain ⟨d6, r6, c6, e6, rfl, rfl, h6, g6, k, f⟩ := absTs_cons k f
  obtain ⟨d7, r7, c7, e7, rfl, rfl, h7, g7, k, f⟩ := absTs_cons k f
  obtain ⟨rfl, rfl⟩ := absTs_nil k f
  obtain ⟨lb, rfl, rfl, w1⟩ := absT_str h1 g1
  obtain ⟨kd, rfl, rfl, w2⟩ := absT_int h2 g2
  obtain ⟨tx, rfl, rfl, w3⟩ := absT_str h3 g3
  obtain ⟨n, rfl, rfl, w5⟩ := absT_int h5 g5
  obtain ⟨to, rfl, rfl, w6⟩ := absT_str h6 g6
  obtain ⟨pl, rfl, rfl, w7⟩ := absT_int h7 g7
  obtain ⟨av, rfl⟩ := h4.one g4 (by intro ss; simp)
  obtain ⟨la, as0, rfl, s1, s2, s3⟩ := absT_slice (f := Arm.cells) (z := 2) (R := fun d a => gA a ≤ d.bulk) arl (fun d c hf ha => absT_arm ha hf) h4 g4
  refine ⟨(⟨lb.data.toList, kd, tx.data.toList, as0, n, to.data.toList, pl⟩, av), rfl, ⟨s1, s3⟩, wf_i64 w5, ?_⟩
  have q1 := wArms_g as0
  have q2 := s2.sum (g := gA) fun d b hr => hr
  simp [TD.bulk, TD.bulks, wD]; omega
def gS (x : DV) : Nat := (wD x.1 + 127) / 128
theorem wT_g (l : List DV) : wT l ≤ 128 * (l.map gS).sum := by
  induction l with
  | nil => simp [wT]
  | cons a l ih => simp only [wT, List.map_cons, List.sum_cons, gS] at ih ⊢; omega
theorem absT_steps {m : Mem} {td : TD} {v : Value} (h : AbsT m td [v]) (hs : Fits (.sl stepShp) td) : ∃ l : List DV, DsV m v l ∧ (∀ x ∈ l, NOk x.1) ∧ wT l ≤ 128 * td.bulk := by
  obtain ⟨l, xs, rfl, h1, h2, h3⟩ := absT_slice (f := vC) (z := 7) (R := fun d x => ArmV m x ∧ NOk x.1 ∧ gS x ≤ d.bulk) vC_len (fun d c hf ha => by
    obtain ⟨x, rfl, q1, q2, q3⟩ := absT_step ha hf
    exact ⟨x, rfl, q1, q2, by unfold gS; omega⟩) h hs
  refine ⟨xs, ⟨h1, h3, fun x hx => (h2.right x hx).choose_spec.2.1⟩, fun x hx => (h2.right x hx).choose_spec.2.2.1, ?_⟩
  have q1 := wT_g xs
  have q2 := h2.sum (g := gS) fun d b hr => hr.2.2
  simp [TD.bulk]; omega
theorem l_DTextA {w0 : World} {m : Mem} {v : Value} {td : TD} (hp : Part L0 m) (ht : Ten w0) (hb : AbsT m td [v]) (hf : Fits (.sl stepShp) td) (hk : td.bulk ≤ 1048576) : AbC Tryz.prog w0 6 [v] m fun v _ => v = .bool true := by
  obtain ⟨l, s, q, r⟩ := absT_steps hb hf
  exact l_DText hp ht s (by omega) q
end Go.Proofs.YtjlicambfepfiaaGreatDoor.Ab

namespace Go.Proofs.YtjlicambfepfiaaGreatDoor.dialogText
open Go Go.ChangeShapes Go.WideShapes Go.ChangeAt Go.RowKit Go.Proofs.YtjlicambfepfiaaGreatDoor.Ab
set_option linter.unusedVariables false

theorem own : ownKnob Tryz.prog.godebug = none := by kernel_rfl
theorem laidOut : laidOutB Tryz.prog = true := by kernel_rfl

set_option maxRecDepth 100000 in
theorem contract (H : Type) (enc : TypeId × Value → H) (W : World) (base : Nat) (args : Array Value) (ds gs : List (DataW H)) (before : List MemPlace)
    (hval : ∀ (j : Nat) t v, Tryz.f6.params[j]? = some t → args[j]? = some v → Value.okWide Tryz.prog W .any base t v)
    (hW : DataW.Whole enc Tryz.prog Tryz.f6.params.toList Rows.dialogTextSpec.vars false W args.toList ds gs before) (hL : laidMetH Tryz.prog Rows.dialogTextUptoRow.laid W) (hk : Rows.uptoSmall H (ds ++ gs) = true) :
    Calls Tryz.prog 6 args W fun e W' => ∃ v, e = .returned v ∧ Rows.dialogTextSpec.post enc Tryz.prog Tryz.f6 false true false false W args v W' := by
  have hW' := hW
  obtain ⟨hL', hLh⟩ := (show laidMet Tryz.prog (Rows.dialogTextUptoRow.laid.filter fun x => x.2.handleName?.isNone) W ∧ handlesMet Tryz.prog (Rows.dialogTextUptoRow.laid.filter fun x => x.2.handleName?.isSome) W from hL)
  obtain ⟨p, q, hA0, hV, rfl, hfz, hnd⟩ := hW
  have hA : DataW.TrodAll enc Tryz.prog W 0 (fun _ => true) true Tryz.f6.params.toList args.toList ds p := hA0
  rw [Tryz.params6] at hA hval
  obtain ⟨v0, vs0, d0, ds0, p0, q0, hargs, rfl, rfl, h0, r0⟩ := trodAll_cons hA
  obtain ⟨rfl, rfl, rfl⟩ := trodAll_nil r0
  obtain rfl : args = #[v0] := by cases args; simp_all
  obtain ⟨rfl, rfl⟩ := trodVars_none hV
  obtain ⟨a0, len0, cap0, rfl⟩ := okWide_slice Tryz.underlying24 (hval 0 24 v0 rfl rfl)
  have lt0 : ∀ x ∈ p0, x.block < W.heap.size := by obtain ⟨m, hm⟩ := h0; exact DataW.trod_lt m _ _ _ hm
  have hbk := of_decide_eq_true hk
  simp only [Rows.uptoBulkAll, List.append_nil] at hbk
  have s : St Tryz.prog W (G0 Tryz.prog) (toMem L0) W := St.laid globals_size L0_get laid_ok (laidIn hL' (List.mem_of_getElem? (i := 0) rfl) (List.mem_of_getElem? (i := 1) rfl) (List.mem_of_getElem? (i := 2) rfl))
  have hp : Part L0 (toMem L0) := Part.of L0_part (Nat.le_refl _) fun _ _ => rfl
  obtain ⟨G0, m0, x0, t0, g0, s0, u0, b0, f0, k0⟩ := arg_one (k := 5) (s := (.sl stepShp)) (by kernel_rfl) h0 rfl s
  have hp := g0.part hp
  refine (AbC_true s0 (.cons _ _ _ _ u0 .nil) ((l_DTextA hp (ten_of hL' (List.mem_of_getElem? (i := 2) rfl)) b0 f0 (by omega))) (by kernel_rfl)).mono fun e W' ⟨he, bel⟩ => ?_
  subst he
  exact ⟨_, rfl, _, _, _, [], _, [], hW', trodAll_mk1 (shut_bool Tryz.underlying4 _), (trodAll_cons_mk (Below.trod laidOut (by kernel_rfl) (of_decide_eq_true (by kernel_rfl)) h0 bel lt0) trodAll_mk0), rfl, bel.frame _, fun h => by cases h⟩

noncomputable def laidWorld (os : Os) : World :=
  let N := (World.settled Tryz.prog os).heap.size
  { World.holding Tryz.prog os ⟨#[.cells #[.string ⟨#[118, 97, 108, 117, 101, 32, 111, 117, 116, 32, 111, 102, 32, 114, 97, 110, 103, 101]⟩] 226, .cells #[.string ⟨#[105, 110, 118, 97, 108, 105, 100, 32, 115, 121, 110, 116, 97, 120]⟩] 226], #[], []⟩ with heap := (((((((World.holding Tryz.prog os ⟨#[.cells #[.string ⟨#[118, 97, 108, 117, 101, 32, 111, 117, 116, 32, 111, 102, 32, 114, 97, 110, 103, 101]⟩] 226, .cells #[.string ⟨#[105, 110, 118, 97, 108, 105, 100, 32, 115, 121, 110, 116, 97, 120]⟩] 226], #[], []⟩).heap.modify 5 fun | .cells _ t frozen => .cells ⟨e32⟩ t frozen | o => o).modify 6 fun | .cells _ t frozen => .cells ⟨e64⟩ t frozen | o => o).modify 2 fun | .cells _ t frozen => .cells ⟨e10⟩ t frozen | o => o).modify 4 fun | .cells _ t frozen => .cells #[.iface 224 (.pointer (some ⟨N, 0, none⟩))] t frozen | o => o).modify 3 fun | .cells _ t frozen => .cells #[.iface 224 (.pointer (some ⟨N + 1, 0, none⟩))] t frozen | o => o).modify 0 fun | .cells _ t frozen => .cells #[.iface 158 (.agg #[.pointer (some ⟨7, 36, none⟩)])] t frozen | o => o) }
theorem laid_met (os : Os) : laidMetH Tryz.prog Rows.dialogTextUptoRow.laid ((laidWorld os).forCall (fun _ _ => 0) ⟨#[], #[(.slice none 0 0 : Value)], []⟩).memory :=
  laidMetH_of_parts (laidMet_of_run' 8 (by kernel_rfl) (by kernel_rfl)) (by kernel_rfl)
theorem reads (os : Os) {H : Type} (enc : TypeId × Value → H) : ∃ places, DataW.whole enc Tryz.prog ((laidWorld os).forCall (fun _ _ => 0) ⟨#[], #[(.slice none 0 0 : Value)], []⟩).memory Tryz.f6.params.toList Rows.dialogTextSpec.vars false [(.slice none 0 0 : Value)] 8 = some ([.nil], [], places) :=
  ⟨[], by kernel_rfl⟩

set_option maxRecDepth 100000 in
theorem lifted (os : Os) (started : os.Started) (H : Type) (enc : TypeId × Value → H) (F : Stop.Interp) :
    ReturnsInHanded {} Tryz.checked os 6 .any ((Rows.OpenSpec.upto Rows.dialogTextSpec).preRow enc Tryz.prog Tryz.f6 Rows.dialogTextUptoRow.domain false Rows.dialogTextUptoRow.laid) (((Rows.OpenSpec.upto Rows.dialogTextSpec).at F).post enc Tryz.prog Tryz.f6 false true false false) := by
  obtain ⟨places, hx⟩ := reads os enc
  refine returnsInHanded_of_row (C := Tryz.checked) (s := (Rows.OpenSpec.upto Rows.dialogTextSpec)) own started (by kernel_rfl) Tryz.func6
    (witness_row_atRef (enc := enc) (C := Tryz.checked) false (laidWorld os) #[(.slice none 0 0 : Value)] rfl (by kernel_rfl) (by kernel_rfl) (by kernel_rfl)
      (OpenSpec.preRow_of_cond 8 hx (by kernel_rfl) (fun k hk => by cases hk; kernel_rfl) (by kernel_rfl) (laid_met os))) ?_
  intro W base args ds gs before hval hW _ hcond _ hL _ _
  exact contract H enc W base args ds gs before hval hW hL (hcond _ rfl)

theorem over : Rows.DialogTextUptoSaid :=
  OpenClaim.holds_of_cond 6 Tryz.f6 rfl rfl rfl rfl rfl rfl rfl ⟨rfl, rfl, rfl, rfl, rfl⟩ rfl rfl rfl rfl rfl (by kernel_rfl) Tryz.func6 (by kernel_rfl)
    (of_decide_eq_true (by kernel_rfl)) (by unfold Func.isWrapper; first | (rw [if_pos (by decide +kernel)]; kernel_rfl) | (rw [if_neg (by decide +kernel)]; exact ⟨rfl, rfl⟩))
    (fun os started H enc _ F => by rw [OpenClaim.pre_eq_preRow]; exact lifted os started H enc F)

theorem plain (f : FuncId) (fn : Func) (hf : Tryz.pinned.checked.prog.funcNamed "lifeline/lifelinelaw17.DialogText" = some f) (hfn : Tryz.pinned.checked.prog.funcs[f]? = some fn) :
    true = Tryz.pinned.checked.prog.looks [] ∧ ∀ (j : Nat) t, fn.params[j]? = some t → Tryz.pinned.checked.prog.wantsStandIn t = false := by
  obtain rfl : f = 6 := Option.some.inj ((show Tryz.prog.funcNamed "lifeline/lifelinelaw17.DialogText" = some 6 by kernel_rfl).symm.trans hf) |>.symm
  obtain rfl : fn = Tryz.f6 := (Option.some.inj (Tryz.func6.symm.trans hfn)).symm
  refine ⟨by kernel_rfl, fun j t ht => ?_⟩
  rw [Tryz.params6] at ht
  have hall : ∀ t ∈ [24], Tryz.prog.wantsStandIn t = false := by
    intro t ht
    simp only [List.mem_cons, List.mem_nil_iff, or_false] at ht
    rcases ht with rfl <;> kernel_rfl
  exact hall t (by simpa using Array.mem_of_getElem? ht)

theorem proved : Rows.DialogTextUptoCardSaid :=
  Claim7.holds_tied_plain_at .later [] _ _ _ _ over (fun _ h => by cases h) (by kernel_rfl) (fun _ h => by cases h) dialogTextUpto_row_tie rfl ⟨rfl, rfl⟩ (by kernel_rfl) rfl plain (by kernel_rfl)
#print axioms proved
end Go.Proofs.YtjlicambfepfiaaGreatDoor.dialogText
