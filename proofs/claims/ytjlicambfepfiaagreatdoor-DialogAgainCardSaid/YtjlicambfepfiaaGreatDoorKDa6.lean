/- The law DialogAgain, as its statement says it: for every input; the listed variables hold what the program's text lays. -/
import Derived.Test.YtjlicambfepfiaaGreatDoorKDa5
import Derived.Test.YtjlicambfepfiaaGreatDoorProg
import Derived.WalkKit
import Derived.LaidEql
import Derived.Stop.Asserts
import Derived.RowKitTokens
import Derived.KernelRfl
import Derived.Test.YtjlicambfepfiaaGreatDoorCards
import Derived.Test.YtjlicambfepfiaaGreatDoorTie
import Derived.ProofKit
import Derived.OpenShut
import Derived.JoinedCond
import Derived.ChangeOld
import Derived.Deep.DeepHandedRow
import Derived.Deep.DeepWitnessRowRef
set_option linter.unusedVariables false
set_option linter.unusedSimpArgs false
namespace Go.Proofs.YtjlicambfepfiaaGreatDoor.Ab
open Go Go.RowKit
set_option maxHeartbeats 4000000
set_option maxRecDepth 100000
theorem w_line2 {w0 : World} {Q : AQ} {fr : Fr} {m : Mem} {S : List UInt8} (t3 : fr 3 = .string ⟨⟨S⟩⟩) (hl : S.length ≤ 4398046511104)
    (hq : ∀ fr', fr' 2 = .string ⟨⟨S ++ [59, 10]⟩⟩ → Q .ret fr' m) : AbW Tryz.prog w0 rc39_2 Q fr m := by
  have c1 := cat2 (a := S) (b := [59, 10]) (by simp; omega)
  simp -implicitDefEqProofs (disch := first | assumption | (simp only [wnA]; done) | (simp only [wnA]; omega) | omega | (simp only [List.length_append, List.length_cons, List.length_nil]; omega) | fail) [rc39_2, wkA, retV, stabOk, dC, ev, fillD, pickCells, putAt, bnd, slD, List.getElem?_cons_zero, List.getElem?_cons_succ, dR.eq_20, Mem.cell, Mem.row, wmA, t3, c1]
  exact hq _ (by simp)

theorem w_body {w0 : World} {Q : AQ} {fr : Fr} {m : Mem} {b : Nat} {d : DS} {av : Value} {S : List UInt8} (ht : Ten w0) (hv : SlR m 2 av (d.arms.flatMap Arm.cells) d.arms.length) (hvb : ∀ b, blk av = some b → b < m.next) (hw : wD d ≤ 1099511627776) (hn : -9223372036854775808 ≤ d.n ∧ d.n ≤ 9223372036854775807)
    (hg : m.get b = .own (dsC d av) 29) (hb : b < m.next) (t1 : fr 1 = .pointer (some ⟨b, 0, none⟩)) (t3 : fr 3 = .string ⟨⟨S⟩⟩) (hS : S.length ≤ 1099511627776)
    (hq : ∀ fr' m', Old m m' → fr' 2 = .string ⟨⟨S ++ wordsL.getD (kN d.kd) [] ++ restL d ++ [59, 10]⟩⟩ → Q .ret fr' m') : AbW Tryz.prog w0 rc39_3 Q fr m := by
  have fin : ∀ fr' m' R, Old m m' → fr' 3 = .string ⟨⟨R⟩⟩ → R = S ++ wordsL.getD (kN d.kd) [] ++ restL d → R.length ≤ 4398046511104 → AbW Tryz.prog w0 rc39_2 Q fr' m' := by
    intro fr' m' R o e hR hl
    subst hR
    exact w_line2 e hl fun fr'' e2 => hq fr'' m' o e2
  obtain ⟨lb, kd, tx, arms, n, to, pl⟩ := d
  have hg : m.get b = .own [.string ⟨⟨lb⟩⟩, .int .i64 kd, .string ⟨⟨tx⟩⟩, av, .int .i64 n, .string ⟨⟨to⟩⟩, .int .i64 pl] 29 := hg
  have hkk : (if 0 < if 5 < kd then 5 else kd then if 5 < kd then 5 else kd else 0) = (kN kd : Int) := by
    by_cases h5 : 5 < kd
    · simp only [h5, if_true, kN, if_neg (show ¬ kd < 0 by omega), gt_iff_lt]
      rfl
    · simp only [h5, if_false, kN, gt_iff_lt]
      by_cases h0 : kd < 0
      · rw [if_neg (by omega), if_pos h0]; rfl
      · rw [if_neg h0]
        split <;> omega
  have hle := kN_le kd
  simp -implicitDefEqProofs (disch := first | assumption | (simp only [wnA]; done) | (simp only [wnA]; omega) | omega | fail) [rc39_3, wkA, retV, stabOk, dC, ev, fillD, pickCells, putAt, bnd, slD, List.getElem?_cons_zero, List.getElem?_cons_succ, dR.eq_20, Mem.cell, Mem.row, wmA, t1, hg]
  rw [hkk]
  refine c_words ?_
  obtain ⟨m1, hm1⟩ : ∃ m1, m.push (.own (wordsL.map fun w => .string ⟨⟨w⟩⟩) 9) = m1 := ⟨_, rfl⟩
  have o1 : Old m m1 := by subst hm1; exact (Old.refl m).push _
  have gw : m1.get m.next = .own (wordsL.map fun w => .string ⟨⟨w⟩⟩) 9 := by subst hm1; rw [Mem.push_same]
  have g1 := (o1.2 b hb).trans hg
  have hr : restL ⟨lb, kd, tx, arms, n, to, pl⟩ = restX (kN kd) ⟨lb, kd, tx, arms, n, to, pl⟩ := rfl
  simp only [hr] at fin
  clear hkk hr hq
  rw [hm1]
  have hix : sidx 1 (.slice (some ⟨m.next, 0, none⟩) 6 1) (.int .i64 ((kN kd : Nat) : Int)) = some (.pointer (some ⟨m.next, 0 + kN kd * 1, none⟩)) := sidx_at (by omega)
  simp only [Nat.zero_add, Nat.mul_one] at hix
  have hwl : kN kd < wordsL.length := by show kN kd < 6; omega
  have hwj : (wordsL.map fun w => (.string ⟨⟨w⟩⟩ : Value))[kN kd]? = some (.string ⟨⟨wordsL.getD (kN kd) []⟩⟩) := by simp [List.getElem?_map, List.getElem?_eq_getElem hwl, List.getD]
  have hwl6 : (wordsL.getD (kN kd) []).length ≤ 6 := by
    rcases (show kN kd = 0 ∨ kN kd = 1 ∨ kN kd = 2 ∨ kN kd = 3 ∨ kN kd = 4 ∨ kN kd = 5 by omega) with e | e | e | e | e | e <;> rw [e] <;> decide
  generalize wordsL.getD (kN kd) [] = W at *
  generalize (wordsL.map fun w => (.string ⟨⟨w⟩⟩ : Value)) = ws at *
  have c1 := cat2 (a := S) (b := W) (by omega)
  have hSW : (S ++ W).length ≤ 1099511627782 := by simp; omega
  have hv1 : SlR m1 2 av (arms.flatMap Arm.cells) arms.length := hv.keep fun b h => o1.2 b (hvb b h)
  have hvb1 : ∀ b, blk av = some b → b < m1.next := fun b h => Nat.lt_of_lt_of_le (hvb b h) o1.1
  have hb1 : b < m1.next := Nat.lt_of_lt_of_le hb o1.1
  simp only [wD] at hw
  have lj := joinA_len arms
  have ln := num_len10 (i := n) hn
  have lq := qL_len tx
  have hal := wArms_len arms
  generalize S ++ W = R at *
  generalize kN kd = kk at *
  simp -implicitDefEqProofs (disch := first | assumption | (simp only [wnA]; done) | (simp only [wnA]; omega) | omega | (simp only [List.length_append, List.length_cons, List.length_nil]; omega) | fail) [wkA, retV, stabOk, dC, ev, fillD, pickCells, putAt, bnd, slD, List.getElem?_cons_zero, List.getElem?_cons_succ, dR.eq_20, Mem.cell, Mem.row, wmA, t3, hix, gw, hwj, getL hwj, c1, t1]
  rcases (show kk = 0 ∨ kk = 1 ∨ kk = 2 ∨ kk = 3 ∨ kk = 4 ∨ kk = 5 by omega) with rfl | rfl | rfl | rfl | rfl | rfl
  · simp -implicitDefEqProofs (disch := first | assumption | (simp only [wnA]; done) | (simp only [wnA]; omega) | omega | (simp only [List.length_append, List.length_cons, List.length_nil]; omega) | fail) [wkA, retV, stabOk, dC, ev, fillD, pickCells, putAt, bnd, slD, List.getElem?_cons_zero, List.getElem?_cons_succ, dR.eq_20, Mem.cell, Mem.row, wmA, t1, g1]
    refine c_Quote (by show tx.length ≤ 1099511627776; omega) fun m2 o2 => ?_
    rw [quoteV_eq]
    simp -implicitDefEqProofs (disch := first | assumption | (simp only [wnA]; done) | (simp only [wnA]; omega) | omega | (simp only [List.length_append, List.length_cons, List.length_nil]; omega) | fail) [wkA, retV, stabOk, dC, ev, fillD, pickCells, putAt, bnd, slD, List.getElem?_cons_zero, List.getElem?_cons_succ, dR.eq_20, Mem.cell, Mem.row, wmA, cat2]
    exact fin _ m2 (R ++ ([32] ++ qL tx)) (o1.trans o2) (by simp) (by simp [restX]) (by simp; omega)
  · simp -implicitDefEqProofs (disch := first | assumption | (simp only [wnA]; done) | (simp only [wnA]; omega) | omega | (simp only [List.length_append, List.length_cons, List.length_nil]; omega) | fail) [wkA, retV, stabOk, dC, ev, fillD, pickCells, putAt, bnd, slD, List.getElem?_cons_zero, List.getElem?_cons_succ, dR.eq_20, Mem.cell, Mem.row, wmA, t1, g1, hv1.slen]
    refine w_arms (av := av) (l := arms) hv1 hvb1 (by omega) (by simp) (by simp) (by simp) (by simp) fun fr' m2 ob o2 sm so hob e7 => ?_
    have e1 := sm 1 (by simp)
    have e3 := sm 3 (by simp)
    simp [t1] at e1 e3
    have g2 := (o2.2 b hb1).trans g1
    have hJ := totA_le arms
    simp -implicitDefEqProofs (disch := first | assumption | (simp only [wnA]; done) | (simp only [wnA]; omega) | omega | (simp only [List.length_append, List.length_cons, List.length_nil]; omega) | fail) [wkA, retV, stabOk, dC, ev, fillD, pickCells, putAt, bnd, slD, List.getElem?_cons_zero, List.getElem?_cons_succ, dR.eq_20, Mem.cell, Mem.row, wmA, e1, e3, e7, g2]
    refine c_JoinA (xs := arms.map armB) (sep := ⟨⟨[44, 32]⟩⟩) (by rw [List.length_map]; exact so.read) (fun x h => by rw [blk_slV] at h; subst h; exact so.lt) (by decide) (by show (2 + 1) * _ + _ ≤ _; omega) fun m3 o3 => ?_
    have hjj : joinL (ByteArray.mk ⟨[44, 32]⟩).data.toList (arms.map armB) = joinA arms := rfl
    rw [hjj]
    have g3 := (o3.2 b (Nat.lt_of_lt_of_le hb1 o2.1)).trans g2
    simp -implicitDefEqProofs (disch := first | assumption | (simp only [wnA]; done) | (simp only [wnA]; omega) | omega | (simp only [List.length_append, List.length_cons, List.length_nil]; omega) | fail) [wkA, retV, stabOk, dC, ev, fillD, pickCells, putAt, bnd, slD, List.getElem?_cons_zero, List.getElem?_cons_succ, dR.eq_20, Mem.cell, Mem.row, wmA, e1, e3, g3, cat2]
    refine c_Itoa ht hn ?_
    simp -implicitDefEqProofs (disch := first | assumption | (simp only [wnA]; done) | (simp only [wnA]; omega) | omega | (simp only [List.length_append, List.length_cons, List.length_nil]; omega) | fail) [wkA, retV, stabOk, dC, ev, fillD, pickCells, putAt, bnd, slD, List.getElem?_cons_zero, List.getElem?_cons_succ, dR.eq_20, Mem.cell, Mem.row, wmA, e1, e3, g3, cat2]
    exact fin _ m3 (R ++ restX 1 ⟨lb, kd, tx, arms, n, to, pl⟩) ((o1.trans o2).trans o3) (by simp [restX, goS, afterL]) rfl (by simp [restX, goS, afterL]; omega)
  · simp -implicitDefEqProofs (disch := first | assumption | (simp only [wnA]; done) | (simp only [wnA]; omega) | omega | (simp only [List.length_append, List.length_cons, List.length_nil]; omega) | fail) [wkA, retV, stabOk, dC, ev, fillD, pickCells, putAt, bnd, slD, List.getElem?_cons_zero, List.getElem?_cons_succ, dR.eq_20, Mem.cell, Mem.row, wmA, t1, g1, cat2]
    exact fin _ m1 (R ++ ([32] ++ to)) o1 (by simp) (by simp [restX]) (by simp; omega)
  · simp -implicitDefEqProofs (disch := first | assumption | (simp only [wnA]; done) | (simp only [wnA]; omega) | omega | (simp only [List.length_append, List.length_cons, List.length_nil]; omega) | fail) [wkA, retV, stabOk, dC, ev, fillD, pickCells, putAt, bnd, slD, List.getElem?_cons_zero, List.getElem?_cons_succ, dR.eq_20, Mem.cell, Mem.row, wmA, t1, g1]
    refine c_Itoa ht hn ?_
    simp -implicitDefEqProofs (disch := first | assumption | (simp only [wnA]; done) | (simp only [wnA]; omega) | omega | (simp only [List.length_append, List.length_cons, List.length_nil]; omega) | fail) [wkA, retV, stabOk, dC, ev, fillD, pickCells, putAt, bnd, slD, List.getElem?_cons_zero, List.getElem?_cons_succ, dR.eq_20, Mem.cell, Mem.row, wmA, t1, g1, cat2]
    exact fin _ m1 (R ++ ([32] ++ numS 10 n ++ [32, 103, 111, 32] ++ to)) o1 (by simp) (by simp [restX, goS]) (by simp; omega)
  · simp -implicitDefEqProofs (disch := first | assumption | (simp only [wnA]; done) | (simp only [wnA]; omega) | omega | (simp only [List.length_append, List.length_cons, List.length_nil]; omega) | fail) [wkA, retV, stabOk, dC, ev, fillD, pickCells, putAt, bnd, slD, List.getElem?_cons_zero, List.getElem?_cons_succ, dR.eq_20, Mem.cell, Mem.row, wmA, t1, g1]
    exact fin _ m1 R o1 (by simp) (by simp [restX]) (by omega)
  · simp -implicitDefEqProofs (disch := first | assumption | (simp only [wnA]; done) | (simp only [wnA]; omega) | omega | (simp only [List.length_append, List.length_cons, List.length_nil]; omega) | fail) [wkA, retV, stabOk, dC, ev, fillD, pickCells, putAt, bnd, slD, List.getElem?_cons_zero, List.getElem?_cons_succ, dR.eq_20, Mem.cell, Mem.row, wmA, t1, g1]
    exact fin _ m1 R o1 (by simp) (by simp [restX]) (by omega)
end Go.Proofs.YtjlicambfepfiaaGreatDoor.Ab

set_option linter.unusedVariables false
set_option linter.unusedSimpArgs false
namespace Go.Proofs.YtjlicambfepfiaaGreatDoor.Ab
open Go Go.RowKit
set_option maxHeartbeats 4000000
set_option maxRecDepth 100000

/-- A step, and the value of its patterns. -/
abbrev DV := DS × Value
def vC (x : DV) : List Value := dsC x.1 x.2
theorem vC_len (x : DV) : (vC x).length = 7 := rfl
/-- The patterns of a step lie. -/
structure ArmV (m : Mem) (x : DV) : Prop where
  sl : SlR m 2 x.2 (x.1.arms.flatMap Arm.cells) x.1.arms.length
  bl : ∀ b, blk x.2 = some b → b < m.next
theorem ArmV.old {m m' : Mem} {x : DV} (h : ArmV m x) (o : Old m m') : ArmV m' x := ⟨h.sl.keep fun b hb => o.2 b (h.bl b hb), fun b hb => Nat.lt_of_lt_of_le (h.bl b hb) o.1⟩
theorem SlR.one {m : Mem} {sz n : Nat} {v : Value} {cs : List Value} (h : SlR m sz v cs n) : oneC v = true ∧ cellsV v = [v] := by
  rcases h.2 with ⟨-, h | h⟩ | ⟨i, o, L, h, -⟩ <;> rw [h] <;> exact ⟨rfl, rfl⟩
/-- Steps lie. -/
structure DsV (m : Mem) (v : Value) (l : List DV) : Prop where
  sl : SlR m 7 v (l.flatMap vC) l.length
  bl : ∀ b, blk v = some b → b < m.next
  ar : ∀ x ∈ l, ArmV m x
theorem DsV.old {m m' : Mem} {v : Value} {l : List DV} (h : DsV m v l) (o : Old m m') : DsV m' v l := ⟨h.sl.keep fun b hb => o.2 b (h.bl b hb), fun b hb => Nat.lt_of_lt_of_le (h.bl b hb) o.1, fun x hx => (h.ar x hx).old o⟩
def wT (l : List DV) : Nat := (l.map fun x => wD x.1).sum
theorem wT_take (l : List DV) (j : Nat) : wT (l.take j) ≤ wT l := by
  induction l generalizing j with
  | nil => simp [wT]
  | cons x xs ih =>
    cases j with
    | zero => simp [wT]
    | succ j => have := ih j; simp only [wT, List.take_succ_cons, List.map_cons, List.sum_cons] at this ⊢; omega
theorem wT_succ {l : List DV} {j : Nat} (h : j < l.length) : wT (l.take (j + 1)) = wT (l.take j) + wD l[j].1 := by
  unfold wT
  rw [List.take_succ_eq_append_getElem h, List.map_append, List.sum_append]; simp
theorem wT_len (l : List DV) : 128 * l.length ≤ wT l := by
  induction l with
  | nil => simp [wT]
  | cons x l ih => simp only [wT, List.map_cons, List.sum_cons, List.length_cons, wD] at ih ⊢; omega
def NOk (d : DS) : Prop := -9223372036854775808 ≤ d.n ∧ d.n ≤ 9223372036854775807
theorem lineD_len {d : DS} (hn : NOk d) : (lineD d).length ≤ wD d := by
  have hw : (wordsL.getD (kN d.kd) []).length ≤ 6 := by
    have := kN_le d.kd
    rcases (show kN d.kd = 0 ∨ kN d.kd = 1 ∨ kN d.kd = 2 ∨ kN d.kd = 3 ∨ kN d.kd = 4 ∨ kN d.kd = 5 by omega) with e | e | e | e | e | e <;> rw [e] <;> decide
  have lj := joinA_len d.arms
  have ln := num_len10 hn
  have lq := qL_len d.tx
  have l1 : (labL d).length ≤ d.lb.length + 2 := by unfold labL; split <;> simp
  have l2 : (restL d).length ≤ 2 * d.tx.length + d.to.length + wArms d.arms + 48 := by
    unfold restL restX
    split <;> simp [goS, afterL] <;> omega
  simp only [lineD, List.length_append, List.length_cons, List.length_nil, wD]
  omega
def textL (l : List DV) : List UInt8 := l.flatMap fun x => lineD x.1
theorem textL_len {l : List DV} (h : ∀ x ∈ l, NOk x.1) : (textL l).length ≤ wT l := by
  induction l with
  | nil => simp [textL, wT]
  | cons x xs ih =>
    have h1 := lineD_len (h x (by simp))
    have h2 := ih fun e he => h e (by simp [he])
    simp only [textL, List.flatMap_cons, List.length_append, wT, List.map_cons, List.sum_cons] at h2 ⊢
    omega

theorem c_stepT {w0 : World} {m : Mem} {x : DV} {Q : Value → Mem → Prop} (ht : Ten w0) (ha : ArmV m x) (hw : wD x.1 ≤ 1099511627776) (hn : NOk x.1) (hq : ∀ m', Old m m' → Q (.string ⟨⟨lineD x.1⟩⟩) m') :
    AbC Tryz.prog w0 39 [.agg ⟨vC x⟩] m Q := by
  refine AbC_fn ok39 (by simp) ?_
  obtain ⟨⟨lb, kd, tx, arms, n, to, pl⟩, av⟩ := x
  have e : vC (⟨lb, kd, tx, arms, n, to, pl⟩, av) = [.string ⟨⟨lb⟩⟩, .int .i64 kd, .string ⟨⟨tx⟩⟩, av, .int .i64 n, .string ⟨⟨to⟩⟩, .int .i64 pl] := rfl
  rw [e]
  have hone := ha.sl.one
  obtain ⟨m1, hm1⟩ : ∃ m1, m.push (.own [.string ⟨⟨lb⟩⟩, .int .i64 kd, .string ⟨⟨tx⟩⟩, av, .int .i64 n, .string ⟨⟨to⟩⟩, .int .i64 pl] 29) = m1 := ⟨_, rfl⟩
  have o1 : Old m m1 := by subst hm1; exact (Old.refl m).push _
  have g1 : m1.get m.next = .own [.string ⟨⟨lb⟩⟩, .int .i64 kd, .string ⟨⟨tx⟩⟩, av, .int .i64 n, .string ⟨⟨to⟩⟩, .int .i64 pl] 29 := by subst hm1; rw [Mem.push_same]
  have n1 : m.next < m1.next := by subst hm1; simp
  have hw' := hw
  simp only [wD] at hw
  have go : ∀ (fr : Fr) (S : List UInt8), fr 1 = .pointer (some ⟨m.next, 0, none⟩) → fr 3 = .string ⟨⟨S⟩⟩ → S = labL ⟨lb, kd, tx, arms, n, to, pl⟩ → AbW Tryz.prog w0 rc39_3 (bodyA [.mv (.tmp 2)] Q) fr m1 := by
    intro fr S e1 e3 hS
    have hSl : S.length ≤ lb.length + 2 := by rw [hS]; unfold labL; split <;> simp
    refine w_body (d := ⟨lb, kd, tx, arms, n, to, pl⟩) (av := av) (S := S) (b := m.next) ht (ha.old o1).sl (ha.old o1).bl hw' hn g1 n1 e1 e3 (by omega) fun fr' m' o e2 => ?_
    have := hq m' (o1.trans o)
    simp only [lineD, ← hS] at this
    simp -implicitDefEqProofs (disch := first | assumption | (simp only [wnA]; done) | (simp only [wnA]; omega) | omega | fail) [wkA, retV, stabOk, dC, ev, fillD, pickCells, putAt, bnd, slD, List.getElem?_cons_zero, List.getElem?_cons_succ, dR.eq_20, Mem.cell, Mem.row, wmA, e2]
    simpa using this
  by_cases hlb : lb = []
  · subst hlb
    simp -implicitDefEqProofs (disch := first | assumption | (simp only [wnA]; done) | (simp only [wnA]; omega) | omega | fail) [rc39, ro39, wkA, retV, stabOk, dC, ev, fillD, pickCells, putAt, bnd, slD, List.getElem?_cons_zero, List.getElem?_cons_succ, dR.eq_20, Mem.cell, Mem.row, wmA, hm1, g1]
    exact go _ [] (by simp) (by simp) rfl
  · have c1 := cat2 (a := lb) (b := [58, 32]) (by simp; omega)
    have hb0 : lb.isEmpty = false := by cases lb <;> simp at hlb ⊢
    simp -implicitDefEqProofs (disch := first | assumption | (simp only [wnA]; done) | (simp only [wnA]; omega) | omega | (simp only [List.length_append, List.length_cons, List.length_nil]; omega) | fail) [rc39, ro39, wkA, retV, stabOk, dC, ev, fillD, pickCells, putAt, bnd, slD, List.getElem?_cons_zero, List.getElem?_cons_succ, dR.eq_20, Mem.cell, Mem.row, wmA, hm1, g1, hlb, hb0, c1]
    exact go _ (lb ++ [58, 32]) (by simp) (by simp) (by simp [labL, hlb])

theorem c_DText {w0 : World} {m : Mem} {v : Value} {l : List DV} {Q : Value → Mem → Prop} (ht : Ten w0) (hv : DsV m v l) (hl : wT l ≤ 1099511627776) (hn : ∀ x ∈ l, NOk x.1)
    (hq : ∀ m', Old m m' → Q (.string ⟨⟨textL l⟩⟩) m') : AbC Tryz.prog w0 21 [v] m Q := by
  refine AbC_fn ok21 (by simp) ?_
  have hll := wT_len l
  simp -implicitDefEqProofs (disch := first | assumption | (simp only [wnA]; done) | (simp only [wnA]; omega) | omega | fail) [rc21, ro21, wkA, retV, stabOk, dC, ev, fillD, pickCells, putAt, bnd, slD, List.getElem?_cons_zero, List.getElem?_cons_succ, dR.eq_20, Mem.cell, Mem.row, wmA, hv.sl.slen]
  refine LoopW_of (fun k ts m' => ∃ j, j + k = l.length ∧ ts 3 = .pointer (some ⟨m.next, 0, none⟩) ∧ ts 6 = v ∧ ts 7 = .int .i64 (l.length : Nat) ∧ ts 8 = .int .i64 (j : Nat) ∧ Bld m m' m.next (textL (l.take j))) l.length ?_ ?_
  · exact ⟨0, by omega, by simp, by simp [frA_at], by simp, by simp, Bld.new (Old.refl m)⟩
  · rintro k ts m1 K ⟨j, hj, t3, t6, t7, t8, hb⟩ hK
    have hlen := textL_len (l := l.take j) fun e h => hn e (List.mem_of_mem_take h)
    have htk := wT_take l j
    simp -implicitDefEqProofs (disch := first | assumption | (simp only [wnA]; done) | (simp only [wnA]; omega) | omega | fail) [rc21_1, wkA, retV, stabOk, dC, ev, fillD, pickCells, putAt, bnd, slD, List.getElem?_cons_zero, List.getElem?_cons_succ, dR.eq_20, Mem.cell, Mem.row, wmA, t7, t8]
    by_cases hjl : j < l.length
    · have hv1 := hv.old hb.1
      obtain ⟨bi, bo, L, hvv, hL, hLl, hLt, -⟩ := hv1.sl.at hjl
      rw [flat_at vC_len l (List.getElem?_eq_getElem hjl)] at hLt
      have hx1 := wT_succ hjl
      have hx2 := wT_take l (j + 1)
      obtain ⟨x, hx⟩ : ∃ x, l[j] = x := ⟨_, rfl⟩
      have hxm : x ∈ l := by rw [← hx]; exact List.getElem_mem hjl
      have hnx : textL (l.take (j + 1)) = textL (l.take j) ++ lineD x.1 := by
        unfold textL
        rw [List.take_succ_eq_append_getElem hjl, List.flatMap_append, hx]; simp
      have hax := hv1.ar x hxm
      have hll2 := lineD_len (hn x hxm)
      rw [hx] at hLt hx1
      rw [hvv] at t6
      have hle : bo + j * 7 + 7 ≤ L.length := by omega
      have hjw : IntKind.i64.wrap ((j : Int) + 1) = ((j + 1 : Nat) : Int) := by rw [w64 (by omega)]; omega
      have hone := hax.sl.one
      simp -implicitDefEqProofs (disch := first | assumption | (simp only [wnA]; done) | (simp only [wnA]; omega) | omega | fail) [hjl, rc21_0, wkA, retV, stabOk, dC, ev, fillD, pickCells, putAt, bnd, slD, List.getElem?_cons_zero, List.getElem?_cons_succ, dR.eq_20, Mem.cell, Mem.row, wmA, t3, t6, t7, t8, sidx_at, hL, hLt, hle]
      obtain ⟨M, hM⟩ : ∃ M, (m1.push (.own [.string ⟨#[]⟩, .int .i64 0, .string ⟨#[]⟩, .slice none 0 0, .int .i64 0, .string ⟨#[]⟩, .int .i64 0] 29)).set m1.next (.own (putAt [.string ⟨#[]⟩, .int .i64 0, .string ⟨#[]⟩, .slice none 0 0, .int .i64 0, .string ⟨#[]⟩, .int .i64 0] 0 (vC x)) 29) = M := ⟨_, rfl⟩
      refine SK_stm (i := m1.next) (o := 0) (vs := vC x) (cs := [.string ⟨#[]⟩, .int .i64 0, .string ⟨#[]⟩, .slice none 0 0, .int .i64 0, .string ⟨#[]⟩, .int .i64 0]) (e := 29) (M := M) (by simp [wkA, retV, stabOk, dC, ev, fillD, pickCells, putAt, bnd, slD, List.getElem?_cons_zero, List.getElem?_cons_succ, dR.eq_20]) (by simp -implicitDefEqProofs (disch := first | assumption | (simp only [wnA]; done) | (simp only [wnA]; omega) | omega | fail) [wkA, retV, stabOk, dC, ev, fillD, pickCells, putAt, bnd, slD, List.getElem?_cons_zero, List.getElem?_cons_succ, dR.eq_20, Mem.cell, Mem.row, wmA]) (by simp [wkA, retV, stabOk, dC, ev, fillD, pickCells, putAt, bnd, slD, List.getElem?_cons_zero, List.getElem?_cons_succ, dR.eq_20]) (by simp) rfl (by simp only [vC, dsC, List.all_cons, List.all_nil, hone.1]; rfl) hM ?_
      have oM : Old m1 M := by subst hM; exact ((Old.refl m1).push _).set (Nat.le_refl _) _
      have gM : M.get m1.next = .own (vC x) 29 := by subst hM; rw [Mem.set_same]; rfl
      have hvl : (vC x).length = 7 := rfl
      have htk7 : (vC x).take 7 = vC x := rfl
      clear hM
      simp -implicitDefEqProofs (disch := first | assumption | (simp only [wnA]; done) | (simp only [wnA]; omega) | omega | fail) [wkA, retV, stabOk, dC, ev, fillD, pickCells, putAt, bnd, slD, List.getElem?_cons_zero, List.getElem?_cons_succ, dR.eq_20, Mem.cell, Mem.row, wmA, gM, hvl, htk7]
      refine c_stepT ht (hax.old oM) (by omega) (hn x hxm) fun m2 o2 => ?_
      have hb2 := (hb.keep oM).keep o2
      simp -implicitDefEqProofs (disch := first | assumption | (simp only [wnA]; done) | (simp only [wnA]; omega) | omega | fail) [wkA, retV, stabOk, dC, ev, fillD, pickCells, putAt, bnd, slD, List.getElem?_cons_zero, List.getElem?_cons_succ, dR.eq_20, Mem.cell, Mem.row, wmA, t3]
      refine c_WriteString hb2 ?_ fun m3 hb3 => ?_
      · show _ + (lineD x.1).length ≤ _
        omega
      · simp -implicitDefEqProofs (disch := first | assumption | (simp only [wnA]; done) | (simp only [wnA]; omega) | omega | fail) [wkA, retV, stabOk, dC, ev, fillD, pickCells, putAt, bnd, slD, List.getElem?_cons_zero, List.getElem?_cons_succ, dR.eq_20, Mem.cell, Mem.row, wmA, t8, hjw]
        refine hK (k - 1) _ _ (by omega) ⟨j + 1, by omega, by simp [t3], by simp [t6, hvv], by simp [t7], by simp, ?_⟩
        rw [hnx]
        exact hb3
    · have hjj : j = l.length := by omega
      subst hjj
      rw [List.take_length] at hb hlen
      simp -implicitDefEqProofs (disch := first | assumption | (simp only [wnA]; done) | (simp only [wnA]; omega) | omega | fail) [hjl, rc21_2, wkA, retV, stabOk, dC, ev, fillD, pickCells, putAt, bnd, slD, List.getElem?_cons_zero, List.getElem?_cons_succ, dR.eq_20, Mem.cell, Mem.row, wmA, t3]
      refine c_BString hb (by omega) fun m2 o2 => ?_
      simp -implicitDefEqProofs (disch := first | assumption | (simp only [wnA]; done) | (simp only [wnA]; omega) | omega | fail) [wkA, retV, stabOk, dC, ev, fillD, pickCells, putAt, bnd, slD, List.getElem?_cons_zero, List.getElem?_cons_succ, dR.eq_20, Mem.cell, Mem.row, wmA]
      exact hq m2 o2
end Go.Proofs.YtjlicambfepfiaaGreatDoor.Ab

set_option linter.unusedVariables false
set_option linter.unusedSimpArgs false
namespace Go.Proofs.YtjlicambfepfiaaGreatDoor.Ab
open Go Go.RowKit
set_option maxHeartbeats 1000000
set_option maxRecDepth 100000

def WordOk (t : List UInt8) : Prop := (∃ c w, t = c :: w ∧ isLet c = true) ∧ wordN false t = t.length
theorem cx_wd {t : List UInt8} {x : UInt8} {r : List UInt8} (h : WordOk t) (hx : wq true x = false) : Cx (t ++ x :: r) [⟨1, t, 0⟩] (x :: r) := by
  obtain ⟨⟨c, w, rfl, hc⟩, hw⟩ := h
  exact cx_word hc hw hx
theorem cx_sg {c : UInt8} {r : List UInt8} (h : c = 58 ∨ c = 44 ∨ c = 59) : Cx (c :: r) [⟨4, [c], 0⟩] r := by
  rcases h with rfl | rfl | rfl
  · exact cx_tok (l := []) (r := r) rfl (by decide) rfl
  · exact cx_tok (l := []) (r := r) rfl (by decide) rfl
  · exact cx_tok (l := []) (r := r) rfl (by decide) rfl
theorem cx_to {l l' r : List UInt8} {ts : List Tk} (h : Cx l ts r) (e : l' = l) : Cx l' ts r := e ▸ h
theorem cx_tt {l l' r : List UInt8} {ts ts' : List Tk} (h : Cx l ts r) (e : l' = l) (e2 : ts' = ts) : Cx l' ts' r := by subst e e2; exact h
theorem cx_sp {r r' : List UInt8} {ts : List Tk} (h : Cx r ts r') : Cx (32 :: r) ts r' := (cx_bl (c := 32) (r := r) rfl).trans h

def wdT (t : List UInt8) : Tk := ⟨1, t, 0⟩
def stT (t : List UInt8) : Tk := ⟨3, t, 0⟩
def sgT (c : UInt8) : Tk := ⟨4, [c], 0⟩
def nmT (n : Nat) : Tk := ⟨2, digs 10 n, (n : Nat)⟩
def armT (a : Arm) : List Tk := [stT a.pat, wdT goL, wdT a.to]
def armsT : List Arm → List Tk
  | [] => []
  | a :: r => armT a ++ r.flatMap fun b => sgT 44 :: armT b
def labT (d : DS) : List Tk := if d.lb = [] then [] else [wdT d.lb, sgT 58]
def restT (d : DS) : List Tk := match kN d.kd with
  | 0 => [stT d.tx]
  | 1 => armsT d.arms ++ [wdT afterL, nmT d.n.toNat, wdT goL, wdT d.to]
  | 2 => [wdT d.to]
  | 3 => [nmT d.n.toNat, wdT goL, wdT d.to]
  | _ => []
def tokD (d : DS) : List Tk := labT d ++ wdT (wordsL.getD (kN d.kd) []) :: restT d ++ [sgT 59]
/-- A step that is right. -/
def WFd (d : DS) : Prop := (d.lb = [] ∨ WordOk d.lb) ∧
  ((d.kd = 0 ∧ StrOk d.tx ∧ d.arms = [] ∧ d.n = 0 ∧ d.to = []) ∨
   (d.kd = 1 ∧ d.tx = [] ∧ d.arms ≠ [] ∧ (∀ a ∈ d.arms, StrOk a.pat ∧ WordOk a.to) ∧ (1 ≤ d.n ∧ d.n ≤ 99) ∧ WordOk d.to) ∨
   (d.kd = 2 ∧ d.tx = [] ∧ d.arms = [] ∧ d.n = 0 ∧ WordOk d.to) ∨
   (d.kd = 3 ∧ d.tx = [] ∧ d.arms = [] ∧ (1 ≤ d.n ∧ d.n ≤ 9) ∧ WordOk d.to) ∨
   ((d.kd = 4 ∨ d.kd = 5) ∧ d.tx = [] ∧ d.arms = [] ∧ d.n = 0 ∧ d.to = []))

theorem wd_const {t : List UInt8} (h : t ∈ afterL :: wordsL) : WordOk t := by
  simp only [wordsL, List.mem_cons, List.not_mem_nil, or_false] at h
  rcases h with rfl | rfl | rfl | rfl | rfl | rfl | rfl <;> exact ⟨⟨_, _, rfl, by decide⟩, by decide⟩
theorem wd_go : WordOk goL := wd_const (by simp [wordsL])
theorem cx_arm {a : Arm} {x : UInt8} {r : List UInt8} (h1 : StrOk a.pat) (h2 : WordOk a.to) (hx : wq true x = false) : Cx (armL a ++ x :: r) (armT a) (x :: r) := by
  have q1 := cx_quo (r := goS ++ a.to ++ x :: r) h1
  have q2 : Cx (goS ++ a.to ++ x :: r) [wdT goL] (32 :: (a.to ++ x :: r)) := cx_sp (cx_to (cx_wd (r := a.to ++ x :: r) (x := 32) wd_go rfl) (by simp [goL]))
  have q3 : Cx (32 :: (a.to ++ x :: r)) [wdT a.to] (x :: r) := cx_sp (cx_wd h2 hx)
  exact cx_to ((q1.trans q2).trans q3) (by simp [armL])
theorem cx_armsR : ∀ (l : List Arm) {r : List UInt8}, (∀ a ∈ l, StrOk a.pat ∧ WordOk a.to) → Cx (((l.map armB).flatMap fun y => [44, 32] ++ y.data.toList) ++ 32 :: r) (l.flatMap fun b => sgT 44 :: armT b) (32 :: r)
  | [], r, _ => Cx.refl _
  | a :: l, r, h => by
    have ha := h a (by simp)
    have ih := cx_armsR l (r := r) fun b hb => h b (by simp [hb])
    have q1 : ∀ s, Cx (44 :: 32 :: s) [sgT 44] (32 :: s) := fun s => cx_sg (by simp)
    cases l with
    | nil =>
      have q2 := cx_arm (x := 32) (r := r) ha.1 ha.2 rfl
      exact cx_to ((q1 (armL a ++ 32 :: r)).trans (cx_sp q2)) (by simp [armB])
    | cons b l =>
      have q2 := cx_arm (x := 44) (r := 32 :: (armL b ++ (((l.map armB).flatMap fun y => [44, 32] ++ y.data.toList) ++ 32 :: r))) ha.1 ha.2 rfl
      have e : ((((b :: l).map armB).flatMap fun y => [44, 32] ++ y.data.toList) ++ 32 :: r) = 44 :: 32 :: (armL b ++ (((l.map armB).flatMap fun y => [44, 32] ++ y.data.toList) ++ 32 :: r)) := by simp [armB]
      rw [e] at ih
      exact cx_to (((q1 _).trans (cx_sp q2)).trans ih) (by simp [armB])
theorem cx_arms {l : List Arm} {r : List UInt8} (h : ∀ a ∈ l, StrOk a.pat ∧ WordOk a.to) : Cx (joinA l ++ 32 :: r) (armsT l) (32 :: r) := by
  cases l with
  | nil => exact Cx.refl _
  | cons a l =>
    have ha := h a (by simp)
    have ih := cx_armsR l (r := r) fun b hb => h b (by simp [hb])
    cases l with
    | nil =>
      have q2 := cx_arm (x := 32) (r := r) ha.1 ha.2 rfl
      exact cx_to (q2.trans ih) (by simp [joinA, joinL, armB])
    | cons b l =>
      have e : ((((b :: l).map armB).flatMap fun y => [44, 32] ++ y.data.toList) ++ 32 :: r) = 44 :: (32 :: (armL b ++ (((l.map armB).flatMap fun y => [44, 32] ++ y.data.toList) ++ 32 :: r))) := by simp [armB]
      rw [e] at ih
      have q2 := cx_arm (x := 44) (r := 32 :: (armL b ++ (((l.map armB).flatMap fun y => [44, 32] ++ y.data.toList) ++ 32 :: r))) ha.1 ha.2 rfl
      exact cx_to (q2.trans ih) (by simp [joinA, joinL, armB])
theorem numS_nn {n : Int} (h : 0 ≤ n) : numS 10 n = digs 10 n.toNat := by
  obtain ⟨k, rfl⟩ : ∃ k : Nat, n = k := ⟨n.toNat, by omega⟩
  unfold numS sgn
  rw [if_neg (by simp)]
  simp
theorem cx_line {d : DS} {r : List UInt8} (h : WFd d) : Cx (lineD d ++ r) (tokD d) r := by
  obtain ⟨hl, h⟩ := h
  have hend : Cx (59 :: 10 :: r) [sgT 59] r := (cx_sg (c := 59) (r := 10 :: r) (by simp)).trans (cx_bl rfl)
  have hlab : ∀ s, Cx (labL d ++ s) (labT d) s := by
    intro s
    unfold labL labT
    rcases hl with hl | hl
    · rw [if_pos hl, if_pos hl]; exact Cx.refl _
    · by_cases h0 : d.lb = []
      · rw [if_pos h0, if_pos h0]; exact Cx.refl _
      · rw [if_neg h0, if_neg h0]
        exact cx_to ((cx_wd (x := 58) (r := 32 :: s) hl rfl).trans ((cx_sg (c := 58) (r := 32 :: s) (by simp)).trans (cx_bl rfl))) (by simp)
  have hkw : ∀ (k : Nat) (x : UInt8) (s : List UInt8), k ≤ 5 → wq true x = false → Cx (wordsL.getD k [] ++ x :: s) [wdT (wordsL.getD k [])] (x :: s) := by
    intro k x s hk hx
    refine cx_wd (wd_const ?_) hx
    rcases (show k = 0 ∨ k = 1 ∨ k = 2 ∨ k = 3 ∨ k = 4 ∨ k = 5 by omega) with rfl | rfl | rfl | rfl | rfl | rfl <;> simp [wordsL]
  have hgo : ∀ s, Cx (goS ++ s) [wdT goL] (32 :: s) := fun s => cx_sp (cx_to (cx_wd (r := s) (x := 32) wd_go rfl) (by simp [goL]))
  have hto : WordOk d.to → Cx (d.to ++ 59 :: 10 :: r) [wdT d.to] (59 :: 10 :: r) := fun hw => cx_wd hw rfl
  have hnum : ∀ s, 1 ≤ d.n ∧ d.n ≤ 99 → Cx (numS 10 d.n ++ goS ++ s) [nmT d.n.toNat] (goS ++ s) := by
    intro s hn
    rw [numS_nn (by omega)]
    exact cx_to (cx_dec (n := d.n.toNat) (r := [103, 111, 32] ++ s) (by omega)) (by simp [goS])
  rcases h with ⟨hk, h1, -⟩ | ⟨hk, -, -, h1, hn, ht⟩ | ⟨hk, -, -, -, ht⟩ | ⟨hk, -, -, hn, ht⟩ | ⟨hk, -⟩
  · have e : kN d.kd = 0 := by rw [hk]; rfl
    have q := (hlab _).trans ((hkw 0 32 (qL d.tx ++ 59 :: 10 :: r) (by omega) rfl).trans ((cx_sp (cx_quo (r := 59 :: 10 :: r) h1)).trans hend))
    unfold tokD lineD restT restL restX
    rw [e]
    exact cx_tt q (by simp) (by simp [stT])
  · have e : kN d.kd = 1 := by rw [hk]; rfl
    have qA := cx_arms (r := afterL ++ 32 :: (numS 10 d.n ++ goS ++ (d.to ++ 59 :: 10 :: r))) h1
    have qB : Cx (32 :: (afterL ++ 32 :: (numS 10 d.n ++ goS ++ (d.to ++ 59 :: 10 :: r)))) [wdT afterL] (32 :: (numS 10 d.n ++ goS ++ (d.to ++ 59 :: 10 :: r))) := cx_sp (cx_wd (wd_const (by simp)) rfl)
    have qC := cx_sp ((hnum (d.to ++ 59 :: 10 :: r) hn).trans ((hgo _).trans (cx_sp (hto ht))))
    have q := (hlab _).trans ((hkw 1 32 (joinA d.arms ++ 32 :: (afterL ++ 32 :: (numS 10 d.n ++ goS ++ (d.to ++ 59 :: 10 :: r)))) (by omega) rfl).trans ((cx_sp (qA.trans (qB.trans qC))).trans hend))
    unfold tokD lineD restT restL restX
    rw [e]
    exact cx_tt q (by simp) (by simp)
  · have e : kN d.kd = 2 := by rw [hk]; rfl
    have q := (hlab _).trans ((hkw 2 32 (d.to ++ 59 :: 10 :: r) (by omega) rfl).trans ((cx_sp (hto ht)).trans hend))
    unfold tokD lineD restT restL restX
    rw [e]
    exact cx_tt q (by simp) (by simp [stT])
  · have e : kN d.kd = 3 := by rw [hk]; rfl
    have qC := cx_sp ((hnum (d.to ++ 59 :: 10 :: r) (by omega)).trans ((hgo _).trans (cx_sp (hto ht))))
    have q := (hlab _).trans ((hkw 3 32 (numS 10 d.n ++ goS ++ (d.to ++ 59 :: 10 :: r)) (by omega) rfl).trans (qC.trans hend))
    unfold tokD lineD restT restL restX
    rw [e]
    exact cx_tt q (by simp) (by simp [stT])
  · rcases hk with hk | hk
    · have e : kN d.kd = 4 := by rw [hk]; rfl
      have q := (hlab _).trans ((hkw 4 59 (10 :: r) (by omega) rfl).trans hend)
      unfold tokD lineD restT restL restX
      rw [e]
      exact cx_tt q (by simp) (by simp [stT])
    · have e : kN d.kd = 5 := by rw [hk]; rfl
      have q := (hlab _).trans ((hkw 5 59 (10 :: r) (by omega) rfl).trans hend)
      unfold tokD lineD restT restL restX
      rw [e]
      exact cx_tt q (by simp) (by simp [stT])
theorem cx_text : ∀ {l : List DV}, (∀ x ∈ l, WFd x.1) → Cx (textL l) (l.flatMap fun x => tokD x.1) []
  | [], _ => Cx.refl _
  | x :: l, h => (cx_line (r := textL l) (h x (by simp))).trans (cx_text fun y hy => h y (by simp [hy]))
end Go.Proofs.YtjlicambfepfiaaGreatDoor.Ab

set_option linter.unusedVariables false
set_option linter.unusedSimpArgs false
namespace Go.Proofs.YtjlicambfepfiaaGreatDoor.Ab
open Go Go.RowKit
set_option maxHeartbeats 4000000
set_option maxRecDepth 100000

def SameD (a b : DS) : Prop := b = { a with pl := b.pl }
def SameL (l k : List DV) : Prop := l.length = k.length ∧ ∀ (i : Nat) (a b : DV), l[i]? = some a → k[i]? = some b → SameD a.1 b.1
def frT : List Nat := [0, 1, 14, 15, 16]

theorem w_sameA {w0 : World} {Q : AQ} {fr : Fr} {m : Mem} {i6 i7 : Nat} {a : DS} {p : Int} {av bv : Value} (ha : ArmV m (a, av)) (hb : ArmV m ({ a with pl := p }, bv)) (hw : a.arms.length ≤ 1099511627776)
    (g6 : m.get i6 = .own (dsC a av) 29) (g7 : m.get i7 = .own (dsC { a with pl := p } bv) 29)
    (t6 : fr 6 = .pointer (some ⟨i6, 0, none⟩)) (t7 : fr 7 = .pointer (some ⟨i7, 0, none⟩))
    (hq : ∀ fr', (∀ k ∈ frT, fr' k = fr k) → Q .normal fr' m) : AbW Tryz.prog w0 rc23_5 Q fr m := by
  obtain ⟨lb, kd, tx, arms, n, to, pl⟩ := a
  have g6 : m.get i6 = .own [.string ⟨⟨lb⟩⟩, .int .i64 kd, .string ⟨⟨tx⟩⟩, av, .int .i64 n, .string ⟨⟨to⟩⟩, .int .i64 pl] 29 := g6
  have g7 : m.get i7 = .own [.string ⟨⟨lb⟩⟩, .int .i64 kd, .string ⟨⟨tx⟩⟩, bv, .int .i64 n, .string ⟨⟨to⟩⟩, .int .i64 p] 29 := g7
  have sa : SlR m 2 av (arms.flatMap Arm.cells) arms.length := ha.sl
  have sb : SlR m 2 bv (arms.flatMap Arm.cells) arms.length := hb.sl
  simp only at hw
  simp -implicitDefEqProofs (disch := first | assumption | (simp only [wnA]; done) | (simp only [wnA]; omega) | omega | fail) [rc23_5, rc23_4, wkA, retV, stabOk, dC, ev, fillD, pickCells, putAt, bnd, slD, List.getElem?_cons_zero, List.getElem?_cons_succ, dR.eq_20, Mem.cell, Mem.row, wmA, t6, t7, g6, g7, sa.slen, sb.slen, bne]
  refine LoopW_of (fun k ts m' => ∃ j, j + k = arms.length ∧ m' = m ∧ ts 6 = fr 6 ∧ ts 7 = fr 7 ∧ (∀ q ∈ frT, ts q = fr q) ∧ ts 71 = .int .i64 (arms.length : Nat) ∧ ts 72 = .int .i64 (j : Nat)) arms.length ?_ ?_
  · exact ⟨0, by omega, rfl, by simp, by simp, (fun q hq => by
      simp only [frT, List.mem_cons, List.not_mem_nil, or_false] at hq
      rcases hq with rfl | rfl | rfl | rfl | rfl <;> simp), by simp, by simp⟩
  · rintro k ts m1 K ⟨j, hj, rfl, e6, e7, ef, t71, t72⟩ hK
    simp -implicitDefEqProofs (disch := first | assumption | (simp only [wnA]; done) | (simp only [wnA]; omega) | omega | fail) [rc23_3, wkA, retV, stabOk, dC, ev, fillD, pickCells, putAt, bnd, slD, List.getElem?_cons_zero, List.getElem?_cons_succ, dR.eq_20, Mem.cell, Mem.row, wmA, t71, t72]
    by_cases hjl : j < arms.length
    · obtain ⟨bi, bo, L, hvv, hL, hLl, hLt, -⟩ := sa.at hjl
      obtain ⟨ci, co, L', hvv', hL', hLl', hLt', -⟩ := sb.at hjl
      rw [flat_at arl arms (List.getElem?_eq_getElem hjl)] at hLt hLt'
      obtain ⟨⟨pt, tt⟩, hx⟩ : ∃ a, arms[j] = a := ⟨_, rfl⟩
      rw [hx] at hLt hLt'
      have hLt : (L.drop (bo + j * 2)).take 2 = [.string ⟨⟨pt⟩⟩, .string ⟨⟨tt⟩⟩] := hLt
      have hLt' : (L'.drop (co + j * 2)).take 2 = [.string ⟨⟨pt⟩⟩, .string ⟨⟨tt⟩⟩] := hLt'
      have hle : bo + j * 2 + 2 ≤ L.length := by omega
      have hle' : co + j * 2 + 2 ≤ L'.length := by omega
      have hjw : IntKind.i64.wrap ((j : Int) + 1) = ((j + 1 : Nat) : Int) := by rw [w64 (by omega)]; omega
      rw [hvv] at g6
      rw [hvv'] at g7
      have hde : dEq (.recd [(0, 0, .str), (1, 0, .str)]) (.agg ⟨[.string ⟨⟨pt⟩⟩, .string ⟨⟨tt⟩⟩]⟩) (.agg ⟨[.string ⟨⟨pt⟩⟩, .string ⟨⟨tt⟩⟩]⟩) = some true := by simp [dEq, dEqs, pickCells]
      simp -implicitDefEqProofs (disch := first | assumption | (simp only [wnA]; done) | (simp only [wnA]; omega) | omega | fail) [hde, hjw, hjl, rc23_2, wkA, retV, stabOk, dC, ev, fillD, pickCells, putAt, bnd, slD, List.getElem?_cons_zero, List.getElem?_cons_succ, dR.eq_20, Mem.cell, Mem.row, wmA, e6, e7, t6, t7, g6, g7, t71, t72, sidx_at, hL, hLt, hle, hL', hLt', hle']
      exact hK (k - 1) _ _ (by omega) ⟨j + 1, by omega, rfl, by simp [e6], by simp [e7], (fun q hq => by
        have := ef q hq
        simp only [frT, List.mem_cons, List.not_mem_nil, or_false] at hq
        rcases hq with rfl | rfl | rfl | rfl | rfl <;> simp [this]), by simp [t71], by simp⟩
    · simp -implicitDefEqProofs (disch := first | assumption | (simp only [wnA]; done) | (simp only [wnA]; omega) | omega | fail) [hjl, wkA, retV, stabOk, dC, ev, fillD, pickCells, putAt, bnd, slD, List.getElem?_cons_zero, List.getElem?_cons_succ, dR.eq_20, Mem.cell, Mem.row, wmA]
      exact hq _ (fun q hq => by
        have := ef q hq
        simp only [frT, List.mem_cons, List.not_mem_nil, or_false] at hq
        rcases hq with rfl | rfl | rfl | rfl | rfl <;> simp [this])

theorem putAt_all {cs vs : List Value} (h : vs.length = cs.length) : putAt cs 0 vs = vs := by
  simp [putAt, h]
theorem c_Same {w0 : World} {m : Mem} {u v : Value} {l k : List DV} {Q : Value → Mem → Prop} (hu : DsV m u l) (hv : DsV m v k) (hs : SameL l k) (hl : wT l ≤ 1099511627776) (hq : ∀ m', Old m m' → Q (.bool true) m') :
    AbC Tryz.prog w0 23 [u, v] m Q := by
  refine AbC_fn ok23 (by simp) ?_
  have hll := wT_len l
  have hsl := hs.1
  simp -implicitDefEqProofs (disch := first | assumption | (simp only [wnA]; done) | (simp only [wnA]; omega) | omega | fail) [rc23, ro23, wkA, retV, stabOk, dC, ev, fillD, pickCells, putAt, bnd, slD, List.getElem?_cons_zero, List.getElem?_cons_succ, dR.eq_20, Mem.cell, Mem.row, wmA, hu.sl.slen, hv.sl.slen, hsl, bne, rc23_9]
  rw [← hsl]
  refine LoopW_of (fun n ts m' => ∃ j, j + n = l.length ∧ Old m m' ∧ ts 0 = u ∧ ts 1 = v ∧ ts 15 = .int .i64 (l.length : Nat) ∧ ts 16 = .int .i64 (j : Nat)) l.length ?_ ?_
  · exact ⟨0, by omega, Old.refl m, by simp [frA_at], by simp [frA_at], by simp, by simp⟩
  · rintro n ts m1 K ⟨j, hj, o1, t0, t1, t15, t16⟩ hK
    simp -implicitDefEqProofs (disch := first | assumption | (simp only [wnA]; done) | (simp only [wnA]; omega) | omega | fail) [rc23_7, wkA, retV, stabOk, dC, ev, fillD, pickCells, putAt, bnd, slD, List.getElem?_cons_zero, List.getElem?_cons_succ, dR.eq_20, Mem.cell, Mem.row, wmA, t15, t16]
    by_cases hjl : j < l.length
    · have hu1 := hu.old o1
      have hv1 := hv.old o1
      have hjk : j < k.length := by omega
      obtain ⟨bi, bo, L, hvv, hL, hLl, hLt, -⟩ := hu1.sl.at hjl
      obtain ⟨ci, co, L', hvv', hL', hLl', hLt', -⟩ := hv1.sl.at hjk
      rw [flat_at vC_len l (List.getElem?_eq_getElem hjl)] at hLt
      rw [flat_at vC_len k (List.getElem?_eq_getElem hjk)] at hLt'
      obtain ⟨⟨a, av⟩, hx⟩ : ∃ x, l[j] = x := ⟨_, rfl⟩
      obtain ⟨⟨b, bv⟩, hy⟩ : ∃ x, k[j] = x := ⟨_, rfl⟩
      have hab : SameD a b := hs.2 j (a, av) (b, bv) (by rw [List.getElem?_eq_getElem hjl, hx]) (by rw [List.getElem?_eq_getElem hjk, hy])
      obtain ⟨p, rfl⟩ : ∃ p, b = { a with pl := p } := ⟨_, hab⟩
      have hxa : ArmV m1 (a, av) := hu1.ar _ (by rw [← hx]; exact List.getElem_mem hjl)
      have hya : ArmV m1 ({ a with pl := p }, bv) := hv1.ar _ (by rw [← hy]; exact List.getElem_mem hjk)
      have hw : a.arms.length ≤ 1099511627776 := by
        have h1 := wT_succ hjl
        have h2 := wT_take l (j + 1)
        have h3 := wArms_len a.arms
        rw [hx] at h1
        simp only [wD] at h1
        omega
      rw [hx] at hLt
      rw [hy] at hLt'
      have hle : bo + j * 7 + 7 ≤ L.length := by omega
      have hle' : co + j * 7 + 7 ≤ L'.length := by omega
      have hjw : IntKind.i64.wrap ((j : Int) + 1) = ((j + 1 : Nat) : Int) := by rw [w64 (by omega)]; omega
      have hix : sidx 7 u (.int .i64 (j : Int)) = some (.pointer (some ⟨bi, bo + j * 7, none⟩)) := by rw [hvv]; exact sidx_at hjl
      have hiy : sidx 7 v (.int .i64 (j : Int)) = some (.pointer (some ⟨ci, co + j * 7, none⟩)) := by rw [hvv']; exact sidx_at hjk
      have hbi : bi < m1.next := hu1.bl bi (by rw [hvv]; rfl)
      have hci : ci < m1.next := hv1.bl ci (by rw [hvv']; rfl)
      have oa := hxa.sl.one
      have ob := hya.sl.one
      obtain ⟨C, hC⟩ : ∃ C, dsC a av = C := ⟨_, rfl⟩
      obtain ⟨D, hD⟩ : ∃ D, dsC { a with pl := p } bv = D := ⟨_, rfl⟩
      have hLt : (L.drop (bo + j * 7)).take 7 = C := hLt.trans hC
      have hLt' : (L'.drop (co + j * 7)).take 7 = D := hLt'.trans hD
      have lC : C.length = 7 := by rw [← hC]; rfl
      have lD : D.length = 7 := by rw [← hD]; rfl
      have oC : C.all oneC = true := by rw [← hC]; simp only [dsC, List.all_cons, List.all_nil, oa.1]; rfl
      have oD : D.all oneC = true := by rw [← hD]; simp only [dsC, List.all_cons, List.all_nil, ob.1]; rfl
      simp -implicitDefEqProofs (disch := first | assumption | (simp only [wnA]; done) | (simp only [wnA]; omega) | omega | fail) [hjl, rc23_6, wkA, retV, stabOk, dC, ev, fillD, pickCells, putAt, bnd, slD, List.getElem?_cons_zero, List.getElem?_cons_succ, dR.eq_20, Mem.cell, Mem.row, wmA, t0, t1, t16]
      refine AbW_sem_of ?_
      simp -implicitDefEqProofs (disch := first | assumption | (simp only [wnA]; done) | (simp only [wnA]; omega) | omega | fail) [rc23_0, rc23_1, wkA, retV, stabOk, dC, ev, fillD, pickCells, putAt, bnd, slD, List.getElem?_cons_zero, List.getElem?_cons_succ, dR.eq_20, Mem.cell, Mem.row, wmA, t0, t1, hix, hiy, hL, hLt, hle, hL', hLt', hle']
      constructor
      · obtain ⟨M1, hM1⟩ : ∃ M, ((m1.push (.own [.string ⟨#[]⟩, .int .i64 0, .string ⟨#[]⟩, .slice none 0 0, .int .i64 0, .string ⟨#[]⟩, .int .i64 0] 29)).push (.own [.string ⟨#[]⟩, .int .i64 0, .string ⟨#[]⟩, .slice none 0 0, .int .i64 0, .string ⟨#[]⟩, .int .i64 0] 29)).set (m1.next) (.own (putAt [.string ⟨#[]⟩, .int .i64 0, .string ⟨#[]⟩, .slice none 0 0, .int .i64 0, .string ⟨#[]⟩, .int .i64 0] 0 C) 29) = M := ⟨_, rfl⟩
        refine SK_stm (i := m1.next) (o := 0) (vs := C) (cs := [.string ⟨#[]⟩, .int .i64 0, .string ⟨#[]⟩, .slice none 0 0, .int .i64 0, .string ⟨#[]⟩, .int .i64 0]) (e := 29) (M := M1) (by simp [wkA, retV, stabOk, dC, ev, fillD, pickCells, putAt, bnd, slD, List.getElem?_cons_zero, List.getElem?_cons_succ, dR.eq_20]) (by simp -implicitDefEqProofs (disch := first | assumption | (simp only [wnA]; done) | (simp only [wnA]; omega) | omega | fail) [wkA, retV, stabOk, dC, ev, fillD, pickCells, putAt, bnd, slD, List.getElem?_cons_zero, List.getElem?_cons_succ, dR.eq_20, Mem.cell, Mem.row, wmA]) (by simp [wkA, retV, stabOk, dC, ev, fillD, pickCells, putAt, bnd, slD, List.getElem?_cons_zero, List.getElem?_cons_succ, dR.eq_20]) (by simp) lC oC hM1 ?_
        have oM1 : Old m1 M1 := by subst hM1; exact (((Old.refl m1).push _).push _).set (by omega) _
        have g6 : M1.get (m1.next) = .own C 29 := by subst hM1; rw [Mem.set_same, putAt_all lC]
        have g7 : M1.get (m1.next + 1) = .own [.string ⟨#[]⟩, .int .i64 0, .string ⟨#[]⟩, .slice none 0 0, .int .i64 0, .string ⟨#[]⟩, .int .i64 0] 29 := by subst hM1; rw [Mem.set_other _ _ (by omega)]; simp -implicitDefEqProofs (disch := first | assumption | (simp only [wnA]; done) | (simp only [wnA]; omega) | omega | fail) [wkA, retV, stabOk, dC, ev, fillD, pickCells, putAt, bnd, slD, List.getElem?_cons_zero, List.getElem?_cons_succ, dR.eq_20, Mem.cell, Mem.row, wmA]
        have n1 : M1.next = m1.next + 2 := by subst hM1; rfl
        have hL2 := (congrArg Ent.cells? (oM1.2 bi hbi)).trans hL
        have hL2' := (congrArg Ent.cells? (oM1.2 ci hci)).trans hL'
        clear hM1
        simp -implicitDefEqProofs (disch := first | assumption | (simp only [wnA]; done) | (simp only [wnA]; omega) | omega | fail) [wkA, retV, stabOk, dC, ev, fillD, pickCells, putAt, bnd, slD, List.getElem?_cons_zero, List.getElem?_cons_succ, dR.eq_20, Mem.cell, Mem.row, wmA, hL2', hLt', hle']
        obtain ⟨M2, hM2⟩ : ∃ M, M1.set (m1.next + 1) (.own (putAt [.string ⟨#[]⟩, .int .i64 0, .string ⟨#[]⟩, .slice none 0 0, .int .i64 0, .string ⟨#[]⟩, .int .i64 0] 0 D) 29) = M := ⟨_, rfl⟩
        refine SK_stm (i := m1.next + 1) (o := 0) (vs := D) (cs := [.string ⟨#[]⟩, .int .i64 0, .string ⟨#[]⟩, .slice none 0 0, .int .i64 0, .string ⟨#[]⟩, .int .i64 0]) (e := 29) (M := M2) (by simp [wkA, retV, stabOk, dC, ev, fillD, pickCells, putAt, bnd, slD, List.getElem?_cons_zero, List.getElem?_cons_succ, dR.eq_20]) g7 (by simp [wkA, retV, stabOk, dC, ev, fillD, pickCells, putAt, bnd, slD, List.getElem?_cons_zero, List.getElem?_cons_succ, dR.eq_20]) (by simp) lD oD hM2 ?_
        have oM2 : Old m1 M2 := by subst hM2; exact oM1.set (by omega) _
        have h6 : M2.get (m1.next) = .own (dsC a av) 29 := by subst hM2; rw [Mem.set_other _ _ (by omega), g6, hC]
        have h7 : M2.get (m1.next + 1) = .own (dsC { a with pl := p } bv) 29 := by subst hM2; rw [Mem.set_same, putAt_all lD, hD]
        clear hM2
        simp -implicitDefEqProofs (disch := first | assumption | (simp only [wnA]; done) | (simp only [wnA]; omega) | omega | fail) [wkA, retV, stabOk, dC, ev, fillD, pickCells, putAt, bnd, slD, List.getElem?_cons_zero, List.getElem?_cons_succ, dR.eq_20, Mem.cell, Mem.row, wmA]
        refine w_sameA (p := p) (hxa.old oM2) (hya.old oM2) hw h6 h7 (by simp) (by simp) fun fr' hf => ?_
        have e0 := hf 0 (by decide)
        have e1 := hf 1 (by decide)
        have e15 := hf 15 (by decide)
        have e16 := hf 16 (by decide)
        simp at e0 e1 e15 e16
        simp -implicitDefEqProofs (disch := first | assumption | (simp only [wnA]; done) | (simp only [wnA]; omega) | omega | fail) [wkA, retV, stabOk, dC, ev, fillD, pickCells, putAt, bnd, slD, List.getElem?_cons_zero, List.getElem?_cons_succ, dR.eq_20, Mem.cell, Mem.row, wmA, e16, t16, hjw]
        exact hK (n - 1) _ _ (by omega) ⟨j + 1, by omega, o1.trans oM2, by simp [e0, t0], by simp [e1, t1], by simp [e15, t15], by simp⟩
      · obtain ⟨M1, hM1⟩ : ∃ M, ((m1.push (.own [.string ⟨#[]⟩, .int .i64 0, .string ⟨#[]⟩, .slice none 0 0, .int .i64 0, .string ⟨#[]⟩, .int .i64 0] 29)).push (.own [.string ⟨#[]⟩, .int .i64 0, .string ⟨#[]⟩, .slice none 0 0, .int .i64 0, .string ⟨#[]⟩, .int .i64 0] 29)).set (m1.next + 1) (.own (putAt [.string ⟨#[]⟩, .int .i64 0, .string ⟨#[]⟩, .slice none 0 0, .int .i64 0, .string ⟨#[]⟩, .int .i64 0] 0 C) 29) = M := ⟨_, rfl⟩
        refine SK_stm (i := m1.next + 1) (o := 0) (vs := C) (cs := [.string ⟨#[]⟩, .int .i64 0, .string ⟨#[]⟩, .slice none 0 0, .int .i64 0, .string ⟨#[]⟩, .int .i64 0]) (e := 29) (M := M1) (by simp [wkA, retV, stabOk, dC, ev, fillD, pickCells, putAt, bnd, slD, List.getElem?_cons_zero, List.getElem?_cons_succ, dR.eq_20]) (by simp -implicitDefEqProofs (disch := first | assumption | (simp only [wnA]; done) | (simp only [wnA]; omega) | omega | fail) [wkA, retV, stabOk, dC, ev, fillD, pickCells, putAt, bnd, slD, List.getElem?_cons_zero, List.getElem?_cons_succ, dR.eq_20, Mem.cell, Mem.row, wmA]) (by simp [wkA, retV, stabOk, dC, ev, fillD, pickCells, putAt, bnd, slD, List.getElem?_cons_zero, List.getElem?_cons_succ, dR.eq_20]) (by simp) lC oC hM1 ?_
        have oM1 : Old m1 M1 := by subst hM1; exact (((Old.refl m1).push _).push _).set (by omega) _
        have g6 : M1.get (m1.next + 1) = .own C 29 := by subst hM1; rw [Mem.set_same, putAt_all lC]
        have g7 : M1.get (m1.next) = .own [.string ⟨#[]⟩, .int .i64 0, .string ⟨#[]⟩, .slice none 0 0, .int .i64 0, .string ⟨#[]⟩, .int .i64 0] 29 := by subst hM1; rw [Mem.set_other _ _ (by omega)]; simp -implicitDefEqProofs (disch := first | assumption | (simp only [wnA]; done) | (simp only [wnA]; omega) | omega | fail) [wkA, retV, stabOk, dC, ev, fillD, pickCells, putAt, bnd, slD, List.getElem?_cons_zero, List.getElem?_cons_succ, dR.eq_20, Mem.cell, Mem.row, wmA]
        have n1 : M1.next = m1.next + 2 := by subst hM1; rfl
        have hL2 := (congrArg Ent.cells? (oM1.2 bi hbi)).trans hL
        have hL2' := (congrArg Ent.cells? (oM1.2 ci hci)).trans hL'
        clear hM1
        simp -implicitDefEqProofs (disch := first | assumption | (simp only [wnA]; done) | (simp only [wnA]; omega) | omega | fail) [wkA, retV, stabOk, dC, ev, fillD, pickCells, putAt, bnd, slD, List.getElem?_cons_zero, List.getElem?_cons_succ, dR.eq_20, Mem.cell, Mem.row, wmA, hL2', hLt', hle']
        obtain ⟨M2, hM2⟩ : ∃ M, M1.set (m1.next) (.own (putAt [.string ⟨#[]⟩, .int .i64 0, .string ⟨#[]⟩, .slice none 0 0, .int .i64 0, .string ⟨#[]⟩, .int .i64 0] 0 D) 29) = M := ⟨_, rfl⟩
        refine SK_stm (i := m1.next) (o := 0) (vs := D) (cs := [.string ⟨#[]⟩, .int .i64 0, .string ⟨#[]⟩, .slice none 0 0, .int .i64 0, .string ⟨#[]⟩, .int .i64 0]) (e := 29) (M := M2) (by simp [wkA, retV, stabOk, dC, ev, fillD, pickCells, putAt, bnd, slD, List.getElem?_cons_zero, List.getElem?_cons_succ, dR.eq_20]) g7 (by simp [wkA, retV, stabOk, dC, ev, fillD, pickCells, putAt, bnd, slD, List.getElem?_cons_zero, List.getElem?_cons_succ, dR.eq_20]) (by simp) lD oD hM2 ?_
        have oM2 : Old m1 M2 := by subst hM2; exact oM1.set (by omega) _
        have h6 : M2.get (m1.next + 1) = .own (dsC a av) 29 := by subst hM2; rw [Mem.set_other _ _ (by omega), g6, hC]
        have h7 : M2.get (m1.next) = .own (dsC { a with pl := p } bv) 29 := by subst hM2; rw [Mem.set_same, putAt_all lD, hD]
        clear hM2
        simp -implicitDefEqProofs (disch := first | assumption | (simp only [wnA]; done) | (simp only [wnA]; omega) | omega | fail) [wkA, retV, stabOk, dC, ev, fillD, pickCells, putAt, bnd, slD, List.getElem?_cons_zero, List.getElem?_cons_succ, dR.eq_20, Mem.cell, Mem.row, wmA]
        refine w_sameA (p := p) (hxa.old oM2) (hya.old oM2) hw h6 h7 (by simp) (by simp) fun fr' hf => ?_
        have e0 := hf 0 (by decide)
        have e1 := hf 1 (by decide)
        have e15 := hf 15 (by decide)
        have e16 := hf 16 (by decide)
        simp at e0 e1 e15 e16
        simp -implicitDefEqProofs (disch := first | assumption | (simp only [wnA]; done) | (simp only [wnA]; omega) | omega | fail) [wkA, retV, stabOk, dC, ev, fillD, pickCells, putAt, bnd, slD, List.getElem?_cons_zero, List.getElem?_cons_succ, dR.eq_20, Mem.cell, Mem.row, wmA, e16, t16, hjw]
        exact hK (n - 1) _ _ (by omega) ⟨j + 1, by omega, o1.trans oM2, by simp [e0, t0], by simp [e1, t1], by simp [e15, t15], by simp⟩
    · simp -implicitDefEqProofs (disch := first | assumption | (simp only [wnA]; done) | (simp only [wnA]; omega) | omega | fail) [hjl, wkA, retV, stabOk, dC, ev, fillD, pickCells, putAt, bnd, slD, List.getElem?_cons_zero, List.getElem?_cons_succ, dR.eq_20, Mem.cell, Mem.row, wmA, rc23_8]
      exact hq _ o1
end Go.Proofs.YtjlicambfepfiaaGreatDoor.Ab

set_option linter.unusedVariables false
set_option linter.unusedSimpArgs false
namespace Go.Proofs.YtjlicambfepfiaaGreatDoor.Ab
open Go Go.RowKit
set_option maxHeartbeats 1000000
set_option maxRecDepth 100000

/-- These tokens stand at a place. -/
def At (ts : List (Tk × Nat)) (k : Nat) (T : List Tk) : Prop := ∃ rest, (ts.map (·.1)).drop k = T ++ rest
theorem At.hd {ts : List (Tk × Nat)} {k : Nat} {t : Tk} {T : List Tk} (h : At ts k (t :: T)) : (ts.getD k tok0).1 = t ∧ At ts (k + 1) T ∧ k < ts.length := by
  obtain ⟨rest, hr⟩ := h
  have hk : k < (ts.map (·.1)).length := by
    rcases Nat.lt_or_ge k (ts.map (·.1)).length with h | h
    · exact h
    · rw [List.drop_eq_nil_of_le h] at hr; cases hr
  rw [List.drop_eq_getElem_cons hk] at hr
  have hk' : k < ts.length := by simpa using hk
  refine ⟨?_, ⟨rest, (List.cons.inj hr).2⟩, hk'⟩
  have := (List.cons.inj hr).1
  rw [List.getElem_map] at this
  rw [← this]
  simp [List.getD, List.getElem?_eq_getElem hk']
theorem At.app {ts : List (Tk × Nat)} {k : Nat} {A B : List Tk} (h : At ts k (A ++ B)) : At ts k A ∧ At ts (k + A.length) B := by
  obtain ⟨rest, hr⟩ := h
  refine ⟨⟨B ++ rest, by rw [hr]; simp⟩, ⟨rest, ?_⟩⟩
  rw [← List.drop_drop, hr]
  simp
theorem At.len {ts : List (Tk × Nat)} {k : Nat} {T : List Tk} (h : At ts k T) : T.length ≤ ts.length := by
  obtain ⟨rest, hr⟩ := h
  have := congrArg List.length hr
  simp at this
  omega
/-- A token of this kind is taken. -/
theorem take_at {ts : List (Tk × Nat)} {k : Nat} {t : Tk} {kd : Int} {tx : List UInt8} (h : (ts.getD k tok0).1 = t) (hm : misfit t kd tx = false) : takeF ts kd tx ⟨k, none⟩ = (ts.getD k tok0, ⟨k + 1, none⟩) := takeF_fit (by rw [h]; exact hm)
theorem is_at {ts : List (Tk × Nat)} {k : Nat} {t : Tk} {kd : Int} {tx : List UInt8} (h : (ts.getD k tok0).1 = t) : isF ts kd tx ⟨k, none⟩ = !misfit t kd tx := by
  unfold isF; rw [h]; rfl
theorem mf_wd (t : List UInt8) : misfit (wdT t) 1 [] = false := rfl
theorem mf_eq (t : List UInt8) : misfit (wdT t) 1 t = false := by simp [misfit, wdT]
theorem mf_st (t : List UInt8) : misfit (stT t) 3 [] = false := rfl
theorem mf_nm (n : Nat) : misfit (nmT n) 2 [] = false := rfl
theorem to_at {ts : List (Tk × Nat)} {k : Nat} {t : List UInt8} {T : List Tk} (h : At ts k (wdT goL :: wdT t :: T)) : toF ts ⟨k, none⟩ = (t, ⟨k + 2, none⟩) ∧ At ts (k + 2) T := by
  obtain ⟨h0, h, -⟩ := h.hd
  obtain ⟨h1, h, -⟩ := h.hd
  refine ⟨?_, h⟩
  unfold toF
  rw [take_at h0 (mf_eq goL)]
  simp only
  rw [take_at h1 (mf_wd t), h1]
  rfl
theorem num_at {ts : List (Tk × Nat)} {k n : Nat} {most : Int} {T : List Tk} (h : At ts k (nmT n :: T)) (hn : 1 ≤ (n : Int) ∧ (n : Int) ≤ most) : numF most ts ⟨k, none⟩ = ((n : Int), ⟨k + 1, none⟩) ∧ At ts (k + 1) T := by
  obtain ⟨h0, h, -⟩ := h.hd
  refine ⟨?_, h⟩
  unfold numF
  rw [take_at h0 (mf_nm n)]
  simp only [numR, h0, nmT]
  rw [if_neg (by omega)]
theorem arm_at {ts : List (Tk × Nat)} {k : Nat} {a : Arm} {T : List Tk} (h : At ts k (armT a ++ T)) : armF ts ⟨k, none⟩ = (a, ⟨k + 3, none⟩) ∧ At ts (k + 3) T := by
  obtain ⟨h0, h, -⟩ := At.hd (T := wdT goL :: wdT a.to :: T) (t := stT a.pat) h
  obtain ⟨h1, h⟩ := to_at h
  refine ⟨?_, h⟩
  unfold armF
  rw [take_at h0 (mf_st _)]
  simp only [h1, h0]
  rfl
theorem arms_at {ts : List (Tk × Nat)} {t : Tk} {T : List Tk} (ht : misfit t 4 [44] = true) : ∀ (l : List Arm) (n k : Nat) (out : List Arm), l ≠ [] → l.length ≤ n → At ts k (armsT l ++ t :: T) → armsF n ts ⟨k, none⟩ out = (out ++ l, ⟨k + (armsT l).length, none⟩)
  | [], _, _, _, h, _, _ => absurd rfl h
  | a :: l, n, k, out, _, hn, h => by
    obtain ⟨n, rfl⟩ : ∃ n', n = n' + 1 := ⟨n - 1, by simp at hn; omega⟩
    cases l with
    | nil =>
      have h : At ts k (armT a ++ t :: T) := by simpa [armsT] using h
      obtain ⟨h1, h2⟩ := arm_at h
      obtain ⟨h3, -, -⟩ := h2.hd
      simp only [armsF, h1, is_at h3, ht, armsT]
      simp [armT]
    | cons b l =>
      have h : At ts k (armT a ++ (sgT 44 :: (armsT (b :: l) ++ t :: T))) := by simpa [armsT] using h
      obtain ⟨h1, h2⟩ := arm_at h
      obtain ⟨h3, h4, -⟩ := h2.hd
      have ih := arms_at ht (b :: l) n (k + 3 + 1) (out ++ [a]) (by simp) (by simp at hn ⊢; omega) h4
      simp only [armsF, h1, is_at h3]
      rw [if_pos (by rfl), ih]
      simp only [armsT, armT, List.append_assoc, List.length_append, List.length_cons, List.length_nil, List.flatMap_cons, List.cons_append, List.nil_append]
      congr 2
      omega
theorem head_lab {ts : List (Tk × Nat)} {k : Nat} {lb w : List UInt8} {T : List Tk} (h : At ts k (wdT lb :: sgT 58 :: wdT w :: T)) : headF ts ⟨k, none⟩ = (lb, ts.getD (k + 2) tok0, ⟨k + 3, none⟩) ∧ At ts (k + 3) T ∧ (ts.getD (k + 2) tok0).1 = wdT w := by
  obtain ⟨h0, h, -⟩ := h.hd
  obtain ⟨h1, h, -⟩ := h.hd
  obtain ⟨h2, h, -⟩ := h.hd
  refine ⟨?_, h, h2⟩
  unfold headF
  rw [take_at h0 (mf_wd _)]
  simp only [is_at h1]
  rw [if_pos (by rfl), take_at h2 (mf_wd _), h0]
  rfl
theorem head_no {ts : List (Tk × Nat)} {k : Nat} {w : List UInt8} {t : Tk} {T : List Tk} (h : At ts k (wdT w :: t :: T)) (ht : misfit t 4 [58] = true) : headF ts ⟨k, none⟩ = ([], ts.getD k tok0, ⟨k + 1, none⟩) ∧ At ts (k + 1) (t :: T) ∧ (ts.getD k tok0).1 = wdT w := by
  obtain ⟨h0, h, -⟩ := h.hd
  obtain ⟨h1, -, -⟩ := h.hd
  refine ⟨?_, h, h0⟩
  unfold headF
  rw [take_at h0 (mf_wd _)]
  simp only [is_at h1, ht]
  rfl
theorem kind_at {k : Nat} (h : k ≤ 5) : kindOf (wordsL.getD k []) = k := by
  rcases (show k = 0 ∨ k = 1 ∨ k = 2 ∨ k = 3 ∨ k = 4 ∨ k = 5 by omega) with rfl | rfl | rfl | rfl | rfl | rfl <;> decide
theorem rest_at {ts : List (Tk × Nat)} {k : Nat} {d : DS} {p : Int} {t : Tk × Nat} (hw : WFd d) (ht : t.1 = wdT (wordsL.getD (kN d.kd) [])) (h : At ts k (restT d ++ [sgT 59])) :
    restF ts { ds0 with lb := d.lb, pl := p } t ⟨k, none⟩ = ({ d with pl := p }, ⟨k + (restT d).length, none⟩) ∧ At ts (k + (restT d).length) [sgT 59] := by
  refine ⟨?_, h.app.2⟩
  obtain ⟨lb, kd, tx, arms, n, to, pl⟩ := d
  have hk : kindOf t.1.tx = kN kd := by rw [ht]; exact kind_at (kN_le kd)
  unfold restF
  rw [hk]
  clear hk ht
  obtain ⟨-, hw⟩ := hw
  simp only at hw
  rcases hw with ⟨rfl, h1, rfl, rfl, rfl⟩ | ⟨rfl, rfl, h0, h1, hn, ht⟩ | ⟨rfl, rfl, rfl, rfl, ht⟩ | ⟨rfl, rfl, rfl, hn, ht⟩ | ⟨hk, rfl, rfl, rfl, rfl⟩
  · have h : At ts k [stT tx, sgT 59] := h
    obtain ⟨h0, h, -⟩ := h.hd
    show restK 0 ts _ _ _ = _
    simp only [restK, take_at h0 (mf_st _), h0]
    rfl
  · have h : At ts k (armsT arms ++ (wdT afterL :: nmT n.toNat :: wdT goL :: wdT to :: [sgT 59])) := by simpa [restT, kN] using h
    have hA := arms_at (t := wdT afterL) rfl arms ts.length k [] h0 (by
      have h3 := At.len h.app.1
      have h4 : arms.length ≤ (armsT arms).length := by
        cases arms with
        | nil => simp
        | cons a l =>
          have : ∀ l : List Arm, l.length ≤ (l.flatMap fun b => sgT 44 :: armT b).length := by
            intro l
            induction l with
            | nil => simp
            | cons a l ih => simp at ih ⊢; omega
          have := this l
          simp [armsT, armT] at this ⊢; omega
      omega) h
    have h := h.app.2
    obtain ⟨k1, h, -⟩ := h.hd
    obtain ⟨k2, h⟩ := num_at (most := 99) h (by omega)
    obtain ⟨k3, h⟩ := to_at h
    show restK 1 ts _ _ _ = _
    have hA' : armsL ts ⟨k, none⟩ = (arms, ⟨k + (armsT arms).length, none⟩) := by unfold armsL; rw [hA]; rfl
    simp only [restK, hA', take_at k1 (mf_eq afterL), k2, k3]
    have : ((n.toNat : Nat) : Int) = n := by omega
    simp [restT, kN, this, ds0]
    omega
  · have h : At ts k [wdT to, sgT 59] := h
    obtain ⟨h0, h, -⟩ := h.hd
    show restK 2 ts _ _ _ = _
    simp only [restK, take_at h0 (mf_wd _), h0]
    rfl
  · have h : At ts k [nmT n.toNat, wdT goL, wdT to, sgT 59] := h
    obtain ⟨k2, h⟩ := num_at (most := 9) h (by omega)
    obtain ⟨k3, h⟩ := to_at h
    show restK 3 ts _ _ _ = _
    simp only [restK, k2, k3]
    have : ((n.toNat : Nat) : Int) = n := by omega
    simp [restT, kN, this, ds0]
  · rcases hk with rfl | rfl
    · rfl
    · rfl
def clr (d : DS) : DS := { d with pl := 0 }
theorem step_at {ts : List (Tk × Nat)} {k : Nat} {d : DS} (hw : WFd d) (h : At ts k (tokD d)) : stepF ts ⟨k, none⟩ = ({ d with pl := (ts.getD k tok0).2 }, ⟨k + (tokD d).length, none⟩) := by
  have hl := hw.1
  by_cases h0 : d.lb = []
  · have e : tokD d = wdT (wordsL.getD (kN d.kd) []) :: (restT d ++ [sgT 59]) := by simp [tokD, labT, h0]
    rw [e] at h ⊢
    have hr : ∃ t T, restT d ++ [sgT 59] = t :: T ∧ misfit t 4 [58] = true := by
      obtain ⟨lb, kd, tx, arms, n, to, pl⟩ := d
      obtain ⟨-, hw⟩ := hw
      simp only at hw
      rcases hw with ⟨rfl, h1, rfl, rfl, rfl⟩ | ⟨rfl, rfl, h0, h1, hn, ht⟩ | ⟨rfl, rfl, rfl, rfl, ht⟩ | ⟨rfl, rfl, rfl, hn, ht⟩ | ⟨hk, rfl, rfl, rfl, rfl⟩
      · exact ⟨_, _, rfl, rfl⟩
      · cases arms with
        | nil => exact absurd rfl h0
        | cons a l => exact ⟨stT a.pat, _, rfl, rfl⟩
      · exact ⟨_, _, rfl, rfl⟩
      · exact ⟨_, _, rfl, rfl⟩
      · rcases hk with rfl | rfl
        · exact ⟨_, _, rfl, rfl⟩
        · exact ⟨_, _, rfl, rfl⟩
    obtain ⟨t, T, hr1, hr2⟩ := hr
    rw [hr1] at h
    obtain ⟨k1, h, k2⟩ := head_no h hr2
    rw [← hr1] at h
    obtain ⟨r1, h⟩ := rest_at (p := ((ts.getD k tok0).2 : Int)) hw k2 h
    obtain ⟨k3, -, -⟩ := h.hd
    rw [h0] at r1
    unfold stepF
    simp only [k1, r1, take_at (kd := 4) (tx := [59]) k3 rfl]
    simp only [List.length_cons, List.length_append, List.length_nil]
    rw [h0]
    congr 2
    omega
  · have e : tokD d = wdT d.lb :: sgT 58 :: wdT (wordsL.getD (kN d.kd) []) :: (restT d ++ [sgT 59]) := by simp [tokD, labT, h0]
    rw [e] at h ⊢
    obtain ⟨k1, h, k2⟩ := head_lab h
    obtain ⟨r1, h⟩ := rest_at (p := ((ts.getD k tok0).2 : Int)) hw k2 h
    obtain ⟨k3, -, -⟩ := h.hd
    unfold stepF
    simp only [k1, r1, take_at (kd := 4) (tx := [59]) k3 rfl]
    simp only [List.length_cons, List.length_append, List.length_nil]
    congr 2
    omega
theorem steps_at {ts : List (Tk × Nat)} : ∀ (l : List DS) (n k : Nat) (out : List DS), (∀ d ∈ l, WFd d) → l.length < n → At ts k (l.flatMap tokD ++ [endT]) → ∃ l', stepsF n ts ⟨k, none⟩ out = (out ++ l', none) ∧ l'.map clr = l.map clr
  | [], n, k, out, _, _, h => by
    obtain ⟨h0, -, -⟩ := h.hd
    refine ⟨[], ?_, rfl⟩
    rw [stop_step (fun h => h.2 (by rw [h0]; rfl))]
    simp
  | d :: l, n, k, out, hw, hn, h => by
    obtain ⟨n, rfl⟩ : ∃ n', n = n' + 1 := ⟨n - 1, by simp at hn; omega⟩
    have h : At ts k (tokD d ++ (l.flatMap tokD ++ [endT])) := by simpa using h
    have hs := step_at (hw d (by simp)) h.app.1
    have hkd : (ts.getD k tok0).1.kd ≠ 0 := by
      have : ∃ w T, tokD d = wdT w :: T := by
        unfold tokD labT
        split
        · exact ⟨_, _, rfl⟩
        · exact ⟨_, _, rfl⟩
      obtain ⟨w, T, e⟩ := this
      have h2 := h
      rw [e] at h2
      obtain ⟨h0, -, -⟩ := At.hd (t := wdT w) (T := T ++ (l.flatMap tokD ++ [endT])) h2
      rw [h0]
      show (1 : Int) ≠ 0
      decide
    obtain ⟨l', e1, e2⟩ := steps_at l n (k + (tokD d).length) (out ++ [{ d with pl := (ts.getD k tok0).2 }]) (fun x hx => hw x (by simp [hx])) (by simp at hn; omega) h.app.2
    refine ⟨{ d with pl := (ts.getD k tok0).2 } :: l', ?_, by simp [e2, clr]⟩
    rw [stepsF, if_pos ⟨rfl, hkd⟩, hs, e1]
    simp
/-- What a dialogue's text is read as. -/
theorem parse_text {l : List DV} {us : List (Tk × Nat)} (hw : ∀ x ∈ l, WFd x.1) (hc : cutL 0 (textL l) = .inr us) : ∃ l', parseD us = (l', none) ∧ l'.map clr = l.map fun x => clr x.1 := by
  obtain ⟨a', ws, e1, e2⟩ := cx_text hw 0
  rw [hc] at e2
  have e3 : us = ws ++ [(endT, a')] := by
    have : cutL a' [] = .inr [(endT, a')] := rfl
    rw [this] at e2
    exact Sum.inr.inj e2
  have hat : At us 0 ((l.map fun x => x.1).flatMap tokD ++ [endT]) := ⟨[], by rw [e3]; simp [e1, List.flatMap_map]⟩
  have hlen := hat.len
  have h4 : l.length ≤ ((l.map fun x => x.1).flatMap tokD).length := by
    clear hat e1 hc hlen e2 hw
    induction l with
    | nil => simp
    | cons x l ih => simp [tokD] at ih ⊢; omega
  obtain ⟨l', k1, k2⟩ := steps_at (l.map fun x => x.1) us.length 0 [] (fun d hd => by
    obtain ⟨x, hx, rfl⟩ := List.mem_map.1 hd
    exact hw x hx) (by simp at hlen h4 ⊢; omega) hat
  exact ⟨l', by unfold parseD; rw [k1]; rfl, by rw [k2, List.map_map]; rfl⟩
end Go.Proofs.YtjlicambfepfiaaGreatDoor.Ab

set_option linter.unusedVariables false
set_option linter.unusedSimpArgs false
namespace Go.Proofs.YtjlicambfepfiaaGreatDoor.Ab
open Go Go.RowKit
set_option maxHeartbeats 1000000
set_option maxRecDepth 100000

theorem wordN_take : ∀ (l : List UInt8) (b : Bool), wordN b (l.take (wordN b l)) = (l.take (wordN b l)).length
  | [], b => rfl
  | c :: r, b => by
    by_cases h : wq b c = true
    · have e : wordN b (c :: r) = wordN true r + 1 := by simp [wordN, h]
      rw [e, List.take_succ_cons, List.length_cons, ← wordN_take r true]
      simp [wordN, h]
    · have e : wordN b (c :: r) = 0 := by simp [wordN, h]
      rw [e]; rfl
def TkW (N : Nat) (t : Tk) : Prop := (t.kd = 1 → WordOk t.tx) ∧ (t.kd = 3 → StrOk t.tx) ∧ t.tx.length ≤ N
theorem oneL_wd {l : List UInt8} {t : Tk} {n : Nat} (h : oneL l = some (t, n)) (h1 : t.kd = 1) : WordOk t.tx := by
  cases l with
  | nil => simp [oneL] at h
  | cons c r =>
    simp only [oneL] at h
    split at h
    · rename_i hc
      simp only [Option.some.injEq, Prod.mk.injEq] at h
      obtain ⟨rfl, rfl⟩ := h
      have hw : wq false c = true := by simp [wq, hc]
      have e : wordN false (c :: r) = wordN true r + 1 := by simp [wordN, hw]
      refine ⟨⟨c, r.take (wordN true r), by rw [e, List.take_succ_cons], hc⟩, wordN_take _ _⟩
    · split at h
      · cases hv : numV (c :: r) with
        | none => simp [hv] at h
        | some v =>
          simp only [hv, Option.map_some, Option.some.injEq, Prod.mk.injEq] at h
          obtain ⟨rfl, rfl⟩ := h
          exact absurd (show (2 : Int) = 1 from h1) (by decide)
      · split at h
        · cases hq : qd r with
          | none => simp [hq] at h
          | some p =>
            simp only [hq, Option.map_some, Option.some.injEq, Prod.mk.injEq] at h
            obtain ⟨rfl, rfl⟩ := h
            exact absurd (show (3 : Int) = 1 from h1) (by decide)
        · split at h
          · simp only [Option.some.injEq, Prod.mk.injEq] at h
            obtain ⟨rfl, rfl⟩ := h
            exact absurd (show (4 : Int) = 1 from h1) (by decide)
          · cases h
theorem cutF_wd : ∀ (k a : Nat) (l : List UInt8) (us : List (Tk × Nat)), cutF k a l = .inr us → ∀ p ∈ us, p.1.kd = 1 → WordOk p.1.tx
  | 0, a, l, us, h => by cases h; intro p hp h1; simp at hp; subst hp; exact absurd (show (0 : Int) = 1 from h1) (by decide)
  | k + 1, a, [], us, h => by cases h; intro p hp h1; simp at hp; subst hp; exact absurd (show (0 : Int) = 1 from h1) (by decide)
  | k + 1, a, c :: r, us, h => by
    simp only [cutF] at h
    split at h
    · exact cutF_wd k _ r us h
    · split at h
      · exact cutF_wd k _ _ us h
      · split at h
        · cases h
        · rename_i t n ho
          obtain ⟨vs, hv, rfl⟩ := preC_inr h
          intro p hp h1
          rcases List.mem_append.1 hp with hp | hp
          · simp at hp; subst hp
            exact oneL_wd ho h1
          · exact cutF_wd k _ _ vs hv p hp h1
def AllW (N : Nat) (ts : List (Tk × Nat)) : Prop := ∀ p ∈ ts, TkW N p.1
theorem cut_allW {l : List UInt8} {us : List (Tk × Nat)} (h : cutL 0 l = .inr us) : AllW l.length us := fun p hp =>
  have h1 := cutF_ok l.length _ 0 l us (Nat.le_refl _) h p hp
  ⟨cutF_wd _ 0 l us h p hp, h1.2.1, h1.2.2⟩
theorem take_ok {N : Nat} {ts : List (Tk × Nat)} {kd : Int} {tx : List UInt8} {s : PS} (hA : AllW N ts) (h0 : kd ≠ 0) (h : (takeF ts kd tx s).2.err = none) : s.err = none ∧ TkW N (takeF ts kd tx s).1.1 ∧ (takeF ts kd tx s).1.1.kd = kd ∧ 0 < ts.length := by
  obtain ⟨h1, h2, h3⟩ := takeF_none h
  have hkd := misfit_kd h2
  have hk : s.k < ts.length := by
    rcases Nat.lt_or_ge s.k ts.length with h | h
    · exact h
    · exfalso
      have : ts.getD s.k tok0 = tok0 := by simp [List.getD, List.getElem?_eq_none h]
      rw [this] at hkd
      exact h0 hkd.symm
  have hm : ts.getD s.k tok0 ∈ ts := by
    have : ts.getD s.k tok0 = ts[s.k] := by simp [List.getD, List.getElem?_eq_getElem hk]
    rw [this]; exact List.getElem_mem hk
  rw [h3]
  exact ⟨h1, hA _ hm, hkd, by omega⟩
theorem num_ok {N : Nat} {ts : List (Tk × Nat)} {most : Int} {s : PS} (hA : AllW N ts) (h : (numF most ts s).2.err = none) : s.err = none ∧ 1 ≤ (numF most ts s).1 ∧ (numF most ts s).1 ≤ most := by
  have h : (numR most (takeF ts 2 [] s)).err = none := h
  unfold numR at h
  split at h
  · rename_i e he; rw [he] at h; cases h
  · rename_i he
    obtain ⟨h1, -⟩ := take_ok hA (by decide) he
    refine ⟨h1, ?_⟩
    show 1 ≤ (takeF ts 2 [] s).1.1.vl ∧ (takeF ts 2 [] s).1.1.vl ≤ most
    split at h
    · cases h
    · omega
theorem to_ok {N : Nat} {ts : List (Tk × Nat)} {s : PS} (hA : AllW N ts) (h : (toF ts s).2.err = none) : s.err = none ∧ WordOk (toF ts s).1 ∧ (toF ts s).1.length ≤ N := by
  obtain ⟨h1, h2, h3, -⟩ := take_ok hA (by decide) (show (takeF ts 1 [] (takeF ts 1 goL s).2).2.err = none from h)
  obtain ⟨h4, -⟩ := take_ok hA (by decide) h1
  exact ⟨h4, h2.1 h3, h2.2.2⟩
def ArmW (N : Nat) (a : Arm) : Prop := StrOk a.pat ∧ WordOk a.to ∧ a.pat.length ≤ N ∧ a.to.length ≤ N
theorem arm_ok {N : Nat} {ts : List (Tk × Nat)} {s : PS} (hA : AllW N ts) (h : (armF ts s).2.err = none) : s.err = none ∧ ArmW N (armF ts s).1 := by
  obtain ⟨h1, h2, h3⟩ := to_ok hA (show (toF ts (takeF ts 3 [] s).2).2.err = none from h)
  obtain ⟨h4, h5, h6, -⟩ := take_ok hA (by decide) h1
  exact ⟨h4, h5.2.1 h6, h2, h5.2.2, h3⟩
theorem armsF_ok {N : Nat} {ts : List (Tk × Nat)} (hA : AllW N ts) : ∀ (n : Nat) (s : PS) (out : List Arm), (∀ a ∈ out, ArmW N a) → (armsF n ts s out).2.err = none → s.err = none ∧ (∀ a ∈ (armsF n ts s out).1, ArmW N a) ∧ (0 < n ∨ out ≠ [] → (armsF n ts s out).1 ≠ [])
  | 0, s, out, ho, h => ⟨h, ho, fun h => h.elim (fun h => absurd h (Nat.lt_irrefl 0)) id⟩
  | n + 1, s, out, ho, h => by
    cases he : s.err with
    | some e =>
      have e1 : armsF (n + 1) ts s out = (out, s) := by simp only [armsF, he]
      rw [e1, he] at h
      cases h
    | none =>
      have e1 : armsF (n + 1) ts s out = if isF ts 4 [44] (armF ts s).2 = true then armsF n ts ⟨(armF ts s).2.k + 1, (armF ts s).2.err⟩ (out ++ [(armF ts s).1]) else (out ++ [(armF ts s).1], (armF ts s).2) := by simp only [armsF, he]
      rw [e1] at h ⊢
      have hout : (armF ts s).2.err = none → ∀ a ∈ out ++ [(armF ts s).1], ArmW N a := fun hh a ha => by
        rcases List.mem_append.1 ha with ha | ha
        · exact ho a ha
        · rw [List.mem_singleton] at ha; subst ha; exact (arm_ok hA hh).2
      split at h
      · rename_i hi
        rw [if_pos hi]
        have hh : (armF ts s).2.err = none := by
          unfold isF at hi
          simp only [Bool.and_eq_true, Option.isNone_iff_eq_none] at hi
          exact hi.1
        obtain ⟨-, q2, q3⟩ := armsF_ok hA n _ _ (hout hh) h
        exact ⟨rfl, q2, fun _ => q3 (.inr (by simp))⟩
      · rename_i hi
        rw [if_neg hi]
        exact ⟨rfl, hout h, fun _ => by simp⟩
theorem armsF_len (ts : List (Tk × Nat)) : ∀ (n : Nat) (s : PS) (out : List Arm), (armsF n ts s out).1.length ≤ out.length + n
  | 0, s, out => Nat.le_refl _
  | n + 1, s, out => by
    simp only [armsF]
    split
    · first | (simp; done) | (simp; omega)
    · split
      · have := armsF_len ts n ⟨(armF ts s).2.k + 1, (armF ts s).2.err⟩ (out ++ [(armF ts s).1])
        simp at this; omega
      · first | (simp; done) | (simp; omega)
theorem head_ok {N : Nat} {ts : List (Tk × Nat)} {s : PS} (hA : AllW N ts) (h : (headF ts s).2.2.err = none) : s.err = none ∧ ((headF ts s).1 = [] ∨ WordOk (headF ts s).1) ∧ (headF ts s).1.length ≤ N := by
  unfold headF at h ⊢
  simp only at h ⊢
  split at h
  · rename_i hi
    rw [if_pos hi]
    have he : (takeF ts 1 [] s).2.err = none := by
      unfold isF at hi
      simp only [Bool.and_eq_true, Option.isNone_iff_eq_none] at hi
      exact hi.1
    obtain ⟨h1, h2, h3, -⟩ := take_ok hA (by decide) he
    exact ⟨h1, .inr (h2.1 h3), h2.2.2⟩
  · rename_i hi
    rw [if_neg hi]
    obtain ⟨h1, -⟩ := take_ok hA (by decide) h
    exact ⟨h1, .inl rfl, Nat.zero_le _⟩
/-- A step that is right, and how much it has. -/
def WFS (N : Nat) (d : DS) : Prop := WFd d ∧ d.lb.length ≤ N ∧ d.tx.length ≤ N ∧ d.to.length ≤ N ∧ (∀ a ∈ d.arms, a.pat.length ≤ N ∧ a.to.length ≤ N) ∧ d.arms.length ≤ N
theorem step_ok {N : Nat} {ts : List (Tk × Nat)} {s : PS} (hA : AllW N ts) (hN : ts.length ≤ N + 1) (h : (stepF ts s).2.err = none) (h4 : ts.length ≤ N ∨ EndOk ts) : s.err = none ∧ WFS (N + 1) (stepF ts s).1 := by
  unfold stepF at h ⊢
  simp only at h ⊢
  obtain ⟨hb, -⟩ := take_ok hA (by decide) h
  generalize (headF ts s).2.1 = t at *
  have hlb := head_ok (s := s) hA
  generalize hl : (headF ts s).1 = lb at *
  generalize (headF ts s).2.2 = s1 at *
  generalize ((ts.getD s.k tok0).2 : Int) = pl at *
  have fin : ∀ d : DS, d.lb = lb → s1.err = none → ((d.lb = [] ∨ WordOk d.lb) → WFd d) → d.tx.length ≤ N + 1 → d.to.length ≤ N + 1 → (∀ a ∈ d.arms, a.pat.length ≤ N + 1 ∧ a.to.length ≤ N + 1) → d.arms.length ≤ N + 1 → s.err = none ∧ WFS (N + 1) d := by
    intro d e0 e1 e2 e3 e4 e5 e6
    obtain ⟨q1, q2, q3⟩ := hlb e1
    exact ⟨q1, e2 (by rw [e0]; exact q2), by rw [e0]; omega, e3, e4, e5, e6⟩
  unfold restF at hb ⊢
  have hk := kindOf_le t.1.tx
  generalize kindOf t.1.tx = kk at *
  rcases (show kk = 0 ∨ kk = 1 ∨ kk = 2 ∨ kk = 3 ∨ kk = 4 ∨ kk = 5 ∨ kk = 6 by omega) with rfl | rfl | rfl | rfl | rfl | rfl | rfl
  · obtain ⟨h1, h2, h3, -⟩ := take_ok hA (by decide) (show (takeF ts 3 [] s1).2.err = none from hb)
    refine fin _ rfl h1 (fun q => ⟨q, .inl ⟨rfl, h2.2.1 h3, rfl, rfl, rfl⟩⟩) ?_ (Nat.zero_le _) (fun a ha => by cases ha) (Nat.zero_le _)
    show (takeF ts 3 [] s1).1.1.tx.length ≤ N + 1
    have := h2.2.2; omega
  · obtain ⟨h1, h2, h3⟩ := to_ok hA (show (toF ts (numF 99 ts (takeF ts 1 afterL (armsL ts s1).2).2).2).2.err = none from hb)
    obtain ⟨h4', h5⟩ := num_ok hA h1
    obtain ⟨h6, -, -, hpos⟩ := take_ok hA (by decide) h4'
    obtain ⟨h7, h8, h9⟩ := armsF_ok hA ts.length s1 [] (fun a ha => by cases ha) h6
    have h10 := armsF_len ts ts.length s1 []
    refine fin _ rfl h7 (fun q => ⟨q, .inr (.inl ⟨rfl, rfl, h9 (.inl hpos), fun a ha => ⟨(h8 a ha).1, (h8 a ha).2.1⟩, h5, h2⟩)⟩) (Nat.zero_le _) ?_ (fun a ha => ?_) ?_
    · show (toF ts _).1.length ≤ N + 1
      exact Nat.le_trans h3 (by omega)
    · have := (h8 a ha).2.2; omega
    · show (armsF ts.length ts s1 []).1.length ≤ N + 1
      simp only [List.length_nil] at h10; omega
  · obtain ⟨h1, h2, h3, -⟩ := take_ok hA (by decide) (show (takeF ts 1 [] s1).2.err = none from hb)
    refine fin _ rfl h1 (fun q => ⟨q, .inr (.inr (.inl ⟨rfl, rfl, rfl, rfl, h2.1 h3⟩))⟩) (Nat.zero_le _) ?_ (fun a ha => by cases ha) (Nat.zero_le _)
    show (takeF ts 1 [] s1).1.1.tx.length ≤ N + 1
    have := h2.2.2; omega
  · obtain ⟨h1, h2, h3⟩ := to_ok hA (show (toF ts (numF 9 ts s1).2).2.err = none from hb)
    obtain ⟨h4', h5⟩ := num_ok hA h1
    refine fin _ rfl h4' (fun q => ⟨q, .inr (.inr (.inr (.inl ⟨rfl, rfl, rfl, h5, h2⟩)))⟩) (Nat.zero_le _) ?_ (fun a ha => by cases ha) (Nat.zero_le _)
    show (toF ts _).1.length ≤ N + 1
    exact Nat.le_trans h3 (by omega)
  · exact fin _ rfl hb (fun q => ⟨q, .inr (.inr (.inr (.inr ⟨.inl rfl, rfl, rfl, rfl, rfl⟩)))⟩) (Nat.zero_le _) (Nat.zero_le _) (fun a ha => by cases ha) (Nat.zero_le _)
  · exact fin _ rfl hb (fun q => ⟨q, .inr (.inr (.inr (.inr ⟨.inr rfl, rfl, rfl, rfl, rfl⟩)))⟩) (Nat.zero_le _) (Nat.zero_le _) (fun a ha => by cases ha) (Nat.zero_le _)
  · exfalso
    simp only [restK] at hb
    split at hb
    · rename_i e he; rw [he] at hb; cases hb
    · cases hb
theorem stepsF_ok {N : Nat} {ts : List (Tk × Nat)} (hA : AllW N ts) (hN : ts.length ≤ N + 1) (hE : EndOk ts) : ∀ (n : Nat) (s : PS) (out : List DS), (∀ d ∈ out, WFS (N + 1) d) → (stepsF n ts s out).2 = none → s.err = none ∧ ∀ d ∈ (stepsF n ts s out).1, WFS (N + 1) d
  | 0, s, out, ho, h => ⟨h, ho⟩
  | n + 1, s, out, ho, h => by
    rw [stepsF] at h ⊢
    split at h
    · rename_i hc
      rw [if_pos hc]
      refine ⟨hc.1, ?_⟩
      have hsub : (stepF ts s).2.err = none ∧ True := by
        cases he : (stepF ts s).2.err with
        | none => exact ⟨rfl, trivial⟩
        | some e =>
          exfalso
          rw [stop_step (fun h => by rw [he] at h; cases h.1)] at h
          rw [he] at h
          cases h
      refine (stepsF_ok hA hN hE n _ _ (fun d hd => ?_) h).2
      rcases List.mem_append.1 hd with hd | hd
      · exact ho d hd
      · rw [List.mem_singleton] at hd
        subst hd
        exact (step_ok hA hN hsub.1 (.inr hE)).2
    · rename_i hc
      rw [if_neg hc]
      exact ⟨h, ho⟩

/-! Where a text is wrong. -/
def ErrK (N : Nat) (s : PS) : Prop := ∀ e, s.err = some e → (e.1 = 2 ∨ e.1 = 3 ∨ e.1 = 5) ∧ e.2 ≤ N
def AllP (N : Nat) (ts : List (Tk × Nat)) : Prop := ∀ p ∈ ts, p.2 ≤ N
theorem getD_le {N : Nat} {ts : List (Tk × Nat)} (hP : AllP N ts) (k : Nat) : (ts.getD k tok0).2 ≤ N := by
  rcases Nat.lt_or_ge k ts.length with h | h
  · have : ts.getD k tok0 = ts[k] := by simp [List.getD, List.getElem?_eq_getElem h]
    rw [this]; exact hP _ (List.getElem_mem h)
  · have : ts.getD k tok0 = tok0 := by simp [List.getD, List.getElem?_eq_none h]
    rw [this]; exact Nat.zero_le _
theorem take_err {N : Nat} {ts : List (Tk × Nat)} (hP : AllP N ts) (kd : Int) (tx : List UInt8) {s : PS} (h : ErrK N s) : ErrK N (takeF ts kd tx s).2 ∧ (takeF ts kd tx s).1.2 ≤ N := by
  have key : ∀ s' : PS, ErrK N s' → ErrK N (takeR (ts.getD s.k tok0) s').2 ∧ (takeR (ts.getD s.k tok0) s').1.2 ≤ N := by
    intro s' h'
    unfold takeR
    split
    · exact ⟨h', Nat.zero_le _⟩
    · exact ⟨(fun e he => by cases he), getD_le hP _⟩
  rw [takeF_eq]
  refine key _ ?_
  split
  · unfold failF
    split
    · exact h
    · intro e he; cases he; exact ⟨.inl rfl, getD_le hP _⟩
  · exact h
theorem num_err {N : Nat} {ts : List (Tk × Nat)} (hP : AllP N ts) (most : Int) {s : PS} (h : ErrK N s) : ErrK N (numF most ts s).2 := by
  obtain ⟨h1, h2⟩ := take_err hP 2 [] h
  show ErrK N (numR most (takeF ts 2 [] s))
  unfold numR
  split
  · exact h1
  · split
    · intro e he; cases he; exact ⟨.inr (.inr rfl), h2⟩
    · exact h1
theorem to_err {N : Nat} {ts : List (Tk × Nat)} (hP : AllP N ts) {s : PS} (h : ErrK N s) : ErrK N (toF ts s).2 := (take_err hP 1 [] (take_err hP 1 goL h).1).1
theorem arm_err {N : Nat} {ts : List (Tk × Nat)} (hP : AllP N ts) {s : PS} (h : ErrK N s) : ErrK N (armF ts s).2 := to_err hP (take_err hP 3 [] h).1
theorem arms_err {N : Nat} {ts : List (Tk × Nat)} (hP : AllP N ts) : ∀ (n : Nat) (s : PS) (out : List Arm), ErrK N s → ErrK N (armsF n ts s out).2
  | 0, s, out, h => h
  | n + 1, s, out, h => by
    simp only [armsF]
    split
    · exact h
    · split
      · exact arms_err hP n _ _ fun e he => arm_err hP h e he
      · exact arm_err hP h
theorem head_err {N : Nat} {ts : List (Tk × Nat)} (hP : AllP N ts) {s : PS} (h : ErrK N s) : ErrK N (headF ts s).2.2 ∧ (headF ts s).2.1.2 ≤ N := by
  have h1 := take_err hP 1 [] h
  unfold headF
  simp only
  split
  · exact take_err hP 1 [] (s := ⟨(takeF ts 1 [] s).2.k + 1, (takeF ts 1 [] s).2.err⟩) fun e he => h1.1 e he
  · exact h1
theorem rest_err {N : Nat} {ts : List (Tk × Nat)} (hP : AllP N ts) (x : Nat) (d : DS) {t : Tk × Nat} {s : PS} (h : ErrK N s) (ht : t.2 ≤ N) : ErrK N (restK x ts d t s).2 := by
  unfold restK
  split
  · exact (take_err hP _ _ h).1
  · exact to_err hP (num_err hP _ (take_err hP 1 afterL (arms_err hP _ _ _ h)).1)
  · exact (take_err hP _ _ h).1
  · exact to_err hP (num_err hP _ h)
  · exact h
  · exact h
  · simp only
    split
    · exact h
    · intro e he; cases he; exact ⟨.inr (.inl rfl), ht⟩
theorem step_err {N : Nat} {ts : List (Tk × Nat)} (hP : AllP N ts) {s : PS} (h : ErrK N s) : ErrK N (stepF ts s).2 := by
  have h1 := head_err hP h
  unfold stepF
  exact (take_err hP 4 [59] (rest_err hP _ _ h1.1 h1.2)).1
theorem steps_err {N : Nat} {ts : List (Tk × Nat)} (hP : AllP N ts) : ∀ (n : Nat) (s : PS) (out : List DS), ErrK N s → ∀ e, (stepsF n ts s out).2 = some e → (e.1 = 2 ∨ e.1 = 3 ∨ e.1 = 5) ∧ e.2 ≤ N
  | 0, s, out, h => h
  | n + 1, s, out, h => by
    rw [stepsF]
    split
    · exact steps_err hP n _ _ (step_err hP h)
    · exact h
end Go.Proofs.YtjlicambfepfiaaGreatDoor.Ab

set_option linter.unusedVariables false
set_option linter.unusedSimpArgs false
namespace Go.Proofs.YtjlicambfepfiaaGreatDoor.As
open Go Go.RowKit Go.Extern.Stop Go.Stop Go.Extern
set_option maxRecDepth 100000

abbrev hd (T : TypeId) : Value := .pointer (some ⟨7, T, none⟩)
abbrev rt (T : TypeId) : Value := .iface 158 (.agg #[hd T])
theorem valueOfP (t : Addr) (w : World) : (ReflectliteValue.unpack (.iface 93 (.pointer (some t)))).run Tryz.prog w
    = .ok (.agg #[hd 93, .pointer (some ⟨w.heap.size, 0, none⟩), .int .u64 150]) (w.alloc (.cells #[.pointer (some t)] 93)) := by kernel_rfl
theorem typeP (a : Addr) (w : World) : (ReflectliteValue.methodAny (ReflectliteValue.valueError "reflectlite.Value.Type" 0) (fun t _ _ _ => ReflectliteType.toType t) #[.agg #[hd 93, .pointer (some a), .int .u64 150]]).run Tryz.prog w = .ok (rt 93) w := by kernel_rfl
theorem methodKind (h : Value) (w : World) : (Go.method 355 158 (.agg #[h]) "Kind").run Tryz.prog w = .ok (143, h) w := by kernel_rfl
theorem methodElem (h : Value) (w : World) : (Go.method 355 158 (.agg #[h]) "Elem").run Tryz.prog w = .ok (157, .agg #[h]) w := by kernel_rfl
theorem methodImplements (h : Value) (w : World) : (Go.method 355 158 (.agg #[h]) "Implements").run Tryz.prog w = .ok (158, .agg #[h]) w := by kernel_rfl
theorem methodAssignableTo (h : Value) (w : World) : (Go.method 355 158 (.agg #[h]) "AssignableTo").run Tryz.prog w = .ok (155, .agg #[h]) w := by kernel_rfl
theorem kindP (w : World) : ((ReflectliteType.abiMethod fun t => (fun a : Nat => Value.int IntKind.u8 (a : Int)) <$> Rtype.kind t) #[hd 93]).run Tryz.prog w = .ok (.int .u8 22) w := by kernel_rfl
theorem kindF (w : World) : ((ReflectliteType.abiMethod fun t => (fun a : Nat => Value.int IntKind.u8 (a : Int)) <$> Rtype.kind t) #[hd 92]).run Tryz.prog w = .ok (.int .u8 25) w := by kernel_rfl
theorem elemP (w : World) : (ReflectliteType.method ReflectliteType.elem #[.agg #[hd 93]]).run Tryz.prog w = .ok (rt 92) w := by kernel_rfl
theorem implF (w : World) : (ReflectliteType.relation "Implements" ReflectliteType.implements_ #[.agg #[hd 92], rt 36]).run Tryz.prog w = .ok (.bool true) w := by kernel_rfl
theorem typeOfF (v : Value) (w : World) : (ReflectliteType.typeOf #[.iface 92 v]).run Tryz.prog w = .ok (rt 92) w := by kernel_rfl
theorem assignF (w : World) : (ReflectliteType.relation "AssignableTo" ReflectliteType.assignableTo #[.agg #[hd 92], rt 92]).run Tryz.prog w = .ok (.bool true) w := by kernel_rfl
theorem valueOfF (n a : Int) (w : World) : (ReflectliteValue.unpack (.iface 92 (.agg #[.int .i64 n, .int .i64 a]))).run Tryz.prog w
    = .ok (.agg #[hd 92, .pointer (some ⟨w.heap.size, 0, none⟩), .int .u64 153]) (w.alloc (.cells #[.int .i64 n, .int .i64 a] 92)) := by kernel_rfl
theorem rlm (z : Sem Value) (f : TypeId → Addr → Nat → Nat → Sem Value) (v : Value) :
    ReflectliteValue.method z f #[v] = (do match ← ReflectliteValue.parts v with | none => z | some (t, a, fl) => f t a fl (fl % 32)) := rfl
theorem partsP (a : Addr) (w : World) : (ReflectliteValue.parts (.agg #[hd 93, .pointer (some a), .int .u64 150])).run Tryz.prog w = .ok (some (93, a, 150)) w := by kernel_rfl
theorem isNilP (a p : Addr) (W : World) (ha : W.cell? a = some (.pointer (some p))) :
    (ReflectliteValue.method (ReflectliteValue.valueError "reflectlite.Value.IsNil" 0) ReflectliteValue.isNil #[.agg #[hd 93, .pointer (some a), .int .u64 150]]).run Tryz.prog W = .ok (.bool false) W := by
  rw [rlm]
  simp only [Sem.run_bind, partsP, Result.andThen]
  simp [ReflectliteValue.isNil, loadVar, isAgg, underlying, Tryz.underlying93, ha, Result.andThen]
theorem elemOfP (w : World) : (Rtype.elem? 93).run Tryz.prog w = .ok (some 92) w := by kernel_rfl
theorem mkF (p : Addr) (w : World) : (ReflectliteValue.mk 92 p ReflectliteValue.flagAddr).run Tryz.prog w = .ok (.agg #[hd 92, .pointer (some p), .int .u64 409]) w := by kernel_rfl
theorem elemVP (a p : Addr) (W : World) (ha : W.cell? a = some (.pointer (some p))) :
    (ReflectliteValue.method (ReflectliteValue.valueError "reflectlite.Value.Elem" 0) ReflectliteValue.elem #[.agg #[hd 93, .pointer (some a), .int .u64 150]]).run Tryz.prog W
      = .ok (.agg #[hd 92, .pointer (some p), .int .u64 409]) W := by
  rw [rlm]
  simp only [Sem.run_bind, partsP, Result.andThen]
  simp [ReflectliteValue.elem, loadVar, isAgg, underlying, Tryz.underlying93, ha, Result.andThen, elemOfP, mkF]
theorem rls (v x : Value) : ReflectliteValue.set #[v, x] = (do
    let (some (dst, a, fl), some (src, b, _)) := (← ReflectliteValue.parts v, ← ReflectliteValue.parts x)
      | unsupported (.noEntry "extern/(internal/reflectlite.Value).Set.zeroValue")
    if fl / ReflectliteValue.flagAddr % 2 == 0 then unsupported (.noEntry "extern/(internal/reflectlite.Value).Set.unaddressable")
    let val ← loadVar src b
    if ← Rtype.directlyAssignable dst src then storeVar dst a val
    else if ← Rtype.implements dst src then
      if (← Rtype.kind src) == 20 then
        match val with
        | .nilIface => unsupported (.noEntry "extern/reflectlite: a nil value of one interface type handed on as a value of another")
        | _ => storeVar dst a val
      else storeVar dst a (.iface src val)
    else panicString ("reflectlite.Set: value of type " ++ (← Rtype.spelt src) ++ " is not assignable to type " ++ (← Rtype.spelt dst))
    pure (.tuple #[])) := rfl
theorem partsFa (a : Addr) (w : World) : (ReflectliteValue.parts (.agg #[hd 92, .pointer (some a), .int .u64 409])).run Tryz.prog w = .ok (some (92, a, 409)) w := by kernel_rfl
theorem partsF (a : Addr) (w : World) : (ReflectliteValue.parts (.agg #[hd 92, .pointer (some a), .int .u64 153])).run Tryz.prog w = .ok (some (92, a, 153)) w := by kernel_rfl
theorem directF (w : World) : (Rtype.directlyAssignable 92 92).run Tryz.prog w = .ok true w := by kernel_rfl
theorem sizeF (w : World) : (sizeOf 92).run Tryz.prog w = .ok 2 w := by kernel_rfl
theorem setF (t : Addr) (bb : Nat) (n a : Int) (W W' : World) (hb0 : W.cell? ⟨bb, 0, none⟩ = some (.int .i64 n)) (hb1 : W.cell? ⟨bb, 1, none⟩ = some (.int .i64 a))
    (hst : (storeCells t [.int .i64 n, .int .i64 a]).run Tryz.prog W = .ok () W') :
    (ReflectliteValue.set #[.agg #[hd 92, .pointer (some t), .int .u64 409], .agg #[hd 92, .pointer (some ⟨bb, 0, none⟩), .int .u64 153]]).run Tryz.prog W = .ok (.tuple #[]) W' := by
  rw [rls]
  simp only [Sem.run_bind, partsFa, partsF, Result.andThen]
  simp [ReflectliteValue.flagAddr, loadVar, isAgg, underlying, Tryz.underlying92, Result.andThen, directF, storeVar, Value.cells, sizeF]
  have hl : (loadCells ⟨bb, 0, none⟩ 2).run Tryz.prog W = .ok #[.int .i64 n, .int .i64 a] W := by
    simp [loadCells, loadCellsFrom, run_load, hb0, hb1, Addr.add, Result.andThen]
  rw [hl]
  simp [hst]

/-- What errors.As lays, before it writes. -/
def laidP (w : World) (t : Addr) : World := ((w.alloc (.cells #[.pointer (some t)] 93)).alloc (.cells #[hd 93, .pointer (some ⟨w.heap.size, 0, none⟩), .int .u64 150] 124)).alloc (.cells #[hd 93, .pointer (some ⟨w.heap.size, 0, none⟩), .int .u64 150] 124)

set_option maxHeartbeats 4000000 in
theorem as_place (n a : Int) (t : Addr) (w W' : World) (hg : w.cell? ⟨0, 0, none⟩ = some (rt 36)) (ht : t.block < w.heap.size)
    (hst : (storeCells t [.int .i64 n, .int .i64 a]).run Tryz.prog ((laidP w t).alloc (.cells #[.int .i64 n, .int .i64 a] 92)) = .ok () W') :
    Calls Tryz.prog 37 #[.iface 92 (.agg #[.int .i64 n, .int .i64 a]), .iface 93 (.pointer (some t))] w fun ev w' => ev = .returned (.bool true) ∧ w' = W' := by
  have h6 := @run_callFunc_extern Tryz.prog 55 _ (fun args => ReflectliteValue.unpack (args.getD 0 (.tuple #[]))) Tryz.func55 (by kernel_rfl) (by kernel_rfl) (by kernel_rfl) (by kernel_rfl)
  have h7 := @run_callFunc_extern Tryz.prog 56 _ (ReflectliteValue.methodAny (ReflectliteValue.valueError "reflectlite.Value.Type" 0) (fun t _ _ _ => ReflectliteType.toType t)) Tryz.func56 (by kernel_rfl) (by kernel_rfl) (by kernel_rfl) (by kernel_rfl)
  have h8 := @run_callFunc_extern Tryz.prog 57 _ (ReflectliteValue.method (ReflectliteValue.valueError "reflectlite.Value.IsNil" 0) ReflectliteValue.isNil) Tryz.func57 (by kernel_rfl) (by kernel_rfl) (by kernel_rfl) (by kernel_rfl)
  have h27 := @run_callFunc_extern Tryz.prog 143 _ (ReflectliteType.abiMethod fun t => do pure (.int .u8 (← Rtype.kind t))) Tryz.func143 (by kernel_rfl) (by kernel_rfl) (by kernel_rfl) (by kernel_rfl)
  have h37 := @run_callFunc_extern Tryz.prog 157 _ (ReflectliteType.method ReflectliteType.elem) Tryz.func157 (by kernel_rfl) (by kernel_rfl) (by kernel_rfl) (by kernel_rfl)
  have h38 := @run_callFunc_extern Tryz.prog 158 _ (ReflectliteType.relation "Implements" ReflectliteType.implements_) Tryz.func158 (by kernel_rfl) (by kernel_rfl) (by kernel_rfl) (by kernel_rfl)
  have h10 := @run_callFunc_extern Tryz.prog 78 _ ReflectliteType.typeOf Tryz.func78 (by kernel_rfl) (by kernel_rfl) (by kernel_rfl) (by kernel_rfl)
  have h35 := @run_callFunc_extern Tryz.prog 155 _ (ReflectliteType.relation "AssignableTo" ReflectliteType.assignableTo) Tryz.func155 (by kernel_rfl) (by kernel_rfl) (by kernel_rfl) (by kernel_rfl)
  have h11 := @run_callFunc_extern Tryz.prog 79 _ (ReflectliteValue.method (ReflectliteValue.valueError "reflectlite.Value.Elem" 0) ReflectliteValue.elem) Tryz.func79 (by kernel_rfl) (by kernel_rfl) (by kernel_rfl) (by kernel_rfl)
  have h12 := @run_callFunc_extern Tryz.prog 80 _ ReflectliteValue.set Tryz.func80 (by kernel_rfl) (by kernel_rfl) (by kernel_rfl) (by kernel_rfl)
  have tO := typeOfF
  have mA := methodAssignableTo
  have a25 := assignF
  have v25 := valueOfF
  have f6 := valueOfP
  have f7 := typeP
  have mK := methodKind
  have mE := methodElem
  have mI := methodImplements
  have k27 := kindP
  have k25 := kindF
  have e27 := elemP
  have i25 := implF
  have hlt : 0 < w.heap.size := by
    rcases Nat.lt_or_ge 0 w.heap.size with h | h
    · exact h
    · simp [World.cell?, Array.getElem?_eq_none h] at hg
  have n8 := isNilP ⟨w.heap.size, 0, none⟩ t ((w.alloc (.cells #[.pointer (some t)] 93)).alloc (.cells #[hd 93, .pointer (some ⟨w.heap.size, 0, none⟩), .int .u64 150] 124)) (by simp)
  have hg2 : ((w.alloc (.cells #[.pointer (some t)] 93)).alloc (.cells #[hd 93, .pointer (some ⟨w.heap.size, 0, none⟩), .int .u64 150] 124)).cell? ⟨0, 0, none⟩ = some (rt 36) := by
    rw [World.cell?_alloc_lt _ _ ⟨0, 0, none⟩ (by first | (simp; done) | (simp; omega)), World.cell?_alloc_lt _ _ ⟨0, 0, none⟩ hlt]; exact hg
  have el := elemVP ⟨w.heap.size, 0, none⟩ t (laidP w t) (by unfold laidP; rw [World.cell?_alloc_lt _ _ ⟨w.heap.size, 0, none⟩ (by simp; omega)]; simp)
  have st := setF t (w.heap.size + 1 + 1 + 1) n a ((laidP w t).alloc (.cells #[.int .i64 n, .int .i64 a] 92)) W'
    (by rw [World.cell?_alloc_at _ _ _ _ (by simp [laidP])]; rfl)
    (by rw [World.cell?_alloc_at _ _ _ _ (by simp [laidP])]; rfl) hst
  unfold laidP at el st
  clear hst
  go_enter Tryz.func37, Tryz.ntmps37
  go_wp2
  refine wp_loop_rounds 1 ?_
  rw [rounds_succ]
  go_wp2
  go_ret
  exact ⟨rfl, rfl⟩
end Go.Proofs.YtjlicambfepfiaaGreatDoor.As
/- errors.As at the target *Errno: a Fault's number, behind its Unwrap. -/
set_option linter.unusedVariables false
set_option linter.unusedSimpArgs false
namespace Go.Proofs.YtjlicambfepfiaaGreatDoor.As
open Go Go.RowKit Go.Extern.Stop Go.Stop Go.Extern
set_option maxRecDepth 100000

theorem valueOfQ (t : Addr) (w : World) : (ReflectliteValue.unpack (.iface 90 (.pointer (some t)))).run Tryz.prog w
    = .ok (.agg #[hd 90, .pointer (some ⟨w.heap.size, 0, none⟩), .int .u64 150]) (w.alloc (.cells #[.pointer (some t)] 90)) := by kernel_rfl
theorem typeQ (a : Addr) (w : World) : (ReflectliteValue.methodAny (ReflectliteValue.valueError "reflectlite.Value.Type" 0) (fun t _ _ _ => ReflectliteType.toType t) #[.agg #[hd 90, .pointer (some a), .int .u64 150]]).run Tryz.prog w = .ok (rt 90) w := by kernel_rfl
theorem kindQ (w : World) : ((ReflectliteType.abiMethod fun t => (fun a : Nat => Value.int IntKind.u8 (a : Int)) <$> Rtype.kind t) #[hd 90]).run Tryz.prog w = .ok (.int .u8 22) w := by kernel_rfl
theorem kindE (w : World) : ((ReflectliteType.abiMethod fun t => (fun a : Nat => Value.int IntKind.u8 (a : Int)) <$> Rtype.kind t) #[hd 39]).run Tryz.prog w = .ok (.int .u8 2) w := by kernel_rfl
theorem elemQ (w : World) : (ReflectliteType.method ReflectliteType.elem #[.agg #[hd 90]]).run Tryz.prog w = .ok (rt 39) w := by kernel_rfl
theorem implE (w : World) : (ReflectliteType.relation "Implements" ReflectliteType.implements_ #[.agg #[hd 39], rt 36]).run Tryz.prog w = .ok (.bool true) w := by kernel_rfl
theorem typeOfE (v : Value) (w : World) : (ReflectliteType.typeOf #[.iface 39 v]).run Tryz.prog w = .ok (rt 39) w := by kernel_rfl
theorem assignFE (w : World) : (ReflectliteType.relation "AssignableTo" ReflectliteType.assignableTo #[.agg #[hd 92], rt 39]).run Tryz.prog w = .ok (.bool false) w := by kernel_rfl
theorem assignE (w : World) : (ReflectliteType.relation "AssignableTo" ReflectliteType.assignableTo #[.agg #[hd 39], rt 39]).run Tryz.prog w = .ok (.bool true) w := by kernel_rfl
theorem valueOfE (n : Int) (w : World) : (ReflectliteValue.unpack (.iface 39 (.int .i64 n))).run Tryz.prog w
    = .ok (.agg #[hd 39, .pointer (some ⟨w.heap.size, 0, none⟩), .int .u64 130]) (w.alloc (.cells #[.int .i64 n] 39)) := by kernel_rfl
theorem partsQ (a : Addr) (w : World) : (ReflectliteValue.parts (.agg #[hd 90, .pointer (some a), .int .u64 150])).run Tryz.prog w = .ok (some (90, a, 150)) w := by kernel_rfl
theorem isNilQ (a p : Addr) (W : World) (ha : W.cell? a = some (.pointer (some p))) :
    (ReflectliteValue.method (ReflectliteValue.valueError "reflectlite.Value.IsNil" 0) ReflectliteValue.isNil #[.agg #[hd 90, .pointer (some a), .int .u64 150]]).run Tryz.prog W = .ok (.bool false) W := by
  rw [rlm]
  simp only [Sem.run_bind, partsQ, Result.andThen]
  simp [ReflectliteValue.isNil, loadVar, isAgg, underlying, Tryz.underlying90, ha, Result.andThen]
theorem elemOfQ (w : World) : (Rtype.elem? 90).run Tryz.prog w = .ok (some 39) w := by kernel_rfl
theorem mkE (p : Addr) (w : World) : (ReflectliteValue.mk 39 p ReflectliteValue.flagAddr).run Tryz.prog w = .ok (.agg #[hd 39, .pointer (some p), .int .u64 386]) w := by kernel_rfl
theorem elemVQ (a p : Addr) (W : World) (ha : W.cell? a = some (.pointer (some p))) :
    (ReflectliteValue.method (ReflectliteValue.valueError "reflectlite.Value.Elem" 0) ReflectliteValue.elem #[.agg #[hd 90, .pointer (some a), .int .u64 150]]).run Tryz.prog W
      = .ok (.agg #[hd 39, .pointer (some p), .int .u64 386]) W := by
  rw [rlm]
  simp only [Sem.run_bind, partsQ, Result.andThen]
  simp [ReflectliteValue.elem, loadVar, isAgg, underlying, Tryz.underlying90, ha, Result.andThen, elemOfQ, mkE]
theorem partsEa (a : Addr) (w : World) : (ReflectliteValue.parts (.agg #[hd 39, .pointer (some a), .int .u64 386])).run Tryz.prog w = .ok (some (39, a, 386)) w := by kernel_rfl
theorem partsE (a : Addr) (w : World) : (ReflectliteValue.parts (.agg #[hd 39, .pointer (some a), .int .u64 130])).run Tryz.prog w = .ok (some (39, a, 130)) w := by kernel_rfl
theorem directE (w : World) : (Rtype.directlyAssignable 39 39).run Tryz.prog w = .ok true w := by kernel_rfl
theorem sizeE (w : World) : (sizeOf 39).run Tryz.prog w = .ok 1 w := by kernel_rfl
theorem setE (t : Addr) (bb : Nat) (n : Int) (W W' : World) (hb0 : W.cell? ⟨bb, 0, none⟩ = some (.int .i64 n))
    (hst : (storeCells t [.int .i64 n]).run Tryz.prog W = .ok () W') :
    (ReflectliteValue.set #[.agg #[hd 39, .pointer (some t), .int .u64 386], .agg #[hd 39, .pointer (some ⟨bb, 0, none⟩), .int .u64 130]]).run Tryz.prog W = .ok (.tuple #[]) W' := by
  rw [rls]
  simp only [Sem.run_bind, partsEa, partsE, Result.andThen]
  simp [ReflectliteValue.flagAddr, loadVar, isAgg, underlying, Tryz.underlying39, Result.andThen, directE, storeVar, Value.cells, sizeE, hb0, hst]
theorem methodUnwrap (v : Value) (w : World) : (Go.method 355 92 v "Unwrap").run Tryz.prog w = .ok (148, v) w := by kernel_rfl
theorem unwrap (n a : Int) (w : World) : Calls Tryz.prog 148 #[.agg #[.int .i64 n, .int .i64 a]] w fun ev w' => ev = .returned (.iface 39 (.int .i64 n)) ∧ w' = w.alloc (.cells #[.int .i64 n, .int .i64 a] 92) := by
  go_enter Tryz.func148, Tryz.ntmps148
  go_wp2
  go_ret
  exact ⟨rfl, rfl⟩
def laidQ (w : World) (t : Addr) : World := ((w.alloc (.cells #[.pointer (some t)] 90)).alloc (.cells #[hd 90, .pointer (some ⟨w.heap.size, 0, none⟩), .int .u64 150] 124)).alloc (.cells #[hd 90, .pointer (some ⟨w.heap.size, 0, none⟩), .int .u64 150] 124)

set_option maxHeartbeats 4000000 in
theorem as_number (n a : Int) (t : Addr) (w W' : World) (hg : w.cell? ⟨0, 0, none⟩ = some (rt 36)) (ht : t.block < w.heap.size)
    (hst : (storeCells t [.int .i64 n]).run Tryz.prog (((laidQ w t).alloc (.cells #[.int .i64 n, .int .i64 a] 92)).alloc (.cells #[.int .i64 n] 39)) = .ok () W') :
    Calls Tryz.prog 37 #[.iface 92 (.agg #[.int .i64 n, .int .i64 a]), .iface 90 (.pointer (some t))] w fun ev w' => ev = .returned (.bool true) ∧ w' = W' := by
  have h6 := @run_callFunc_extern Tryz.prog 55 _ (fun args => ReflectliteValue.unpack (args.getD 0 (.tuple #[]))) Tryz.func55 (by kernel_rfl) (by kernel_rfl) (by kernel_rfl) (by kernel_rfl)
  have h7 := @run_callFunc_extern Tryz.prog 56 _ (ReflectliteValue.methodAny (ReflectliteValue.valueError "reflectlite.Value.Type" 0) (fun t _ _ _ => ReflectliteType.toType t)) Tryz.func56 (by kernel_rfl) (by kernel_rfl) (by kernel_rfl) (by kernel_rfl)
  have h8 := @run_callFunc_extern Tryz.prog 57 _ (ReflectliteValue.method (ReflectliteValue.valueError "reflectlite.Value.IsNil" 0) ReflectliteValue.isNil) Tryz.func57 (by kernel_rfl) (by kernel_rfl) (by kernel_rfl) (by kernel_rfl)
  have h27 := @run_callFunc_extern Tryz.prog 143 _ (ReflectliteType.abiMethod fun t => do pure (.int .u8 (← Rtype.kind t))) Tryz.func143 (by kernel_rfl) (by kernel_rfl) (by kernel_rfl) (by kernel_rfl)
  have h37 := @run_callFunc_extern Tryz.prog 157 _ (ReflectliteType.method ReflectliteType.elem) Tryz.func157 (by kernel_rfl) (by kernel_rfl) (by kernel_rfl) (by kernel_rfl)
  have h38 := @run_callFunc_extern Tryz.prog 158 _ (ReflectliteType.relation "Implements" ReflectliteType.implements_) Tryz.func158 (by kernel_rfl) (by kernel_rfl) (by kernel_rfl) (by kernel_rfl)
  have h10 := @run_callFunc_extern Tryz.prog 78 _ ReflectliteType.typeOf Tryz.func78 (by kernel_rfl) (by kernel_rfl) (by kernel_rfl) (by kernel_rfl)
  have h35 := @run_callFunc_extern Tryz.prog 155 _ (ReflectliteType.relation "AssignableTo" ReflectliteType.assignableTo) Tryz.func155 (by kernel_rfl) (by kernel_rfl) (by kernel_rfl) (by kernel_rfl)
  have h11 := @run_callFunc_extern Tryz.prog 79 _ (ReflectliteValue.method (ReflectliteValue.valueError "reflectlite.Value.Elem" 0) ReflectliteValue.elem) Tryz.func79 (by kernel_rfl) (by kernel_rfl) (by kernel_rfl) (by kernel_rfl)
  have h12 := @run_callFunc_extern Tryz.prog 80 _ ReflectliteValue.set Tryz.func80 (by kernel_rfl) (by kernel_rfl) (by kernel_rfl) (by kernel_rfl)
  have tO := typeOfF
  have tO2 := typeOfE
  have mA := methodAssignableTo
  have a25 := assignFE
  have a26 := assignE
  have v25 := valueOfE
  have f6 := valueOfQ
  have f7 := typeQ
  have mK := methodKind
  have mE := methodElem
  have mI := methodImplements
  have k27 := kindQ
  have k25 := kindE
  have e27 := elemQ
  have i25 := implE
  have hlt : 0 < w.heap.size := by
    rcases Nat.lt_or_ge 0 w.heap.size with h | h
    · exact h
    · simp [World.cell?, Array.getElem?_eq_none h] at hg
  have n8 := isNilQ ⟨w.heap.size, 0, none⟩ t ((w.alloc (.cells #[.pointer (some t)] 90)).alloc (.cells #[hd 90, .pointer (some ⟨w.heap.size, 0, none⟩), .int .u64 150] 124)) (by simp)
  have hg2 : ((w.alloc (.cells #[.pointer (some t)] 90)).alloc (.cells #[hd 90, .pointer (some ⟨w.heap.size, 0, none⟩), .int .u64 150] 124)).cell? ⟨0, 0, none⟩ = some (rt 36) := by
    rw [World.cell?_alloc_lt _ _ ⟨0, 0, none⟩ (by first | (simp; done) | (simp; omega)), World.cell?_alloc_lt _ _ ⟨0, 0, none⟩ hlt]; exact hg
  have el := elemVQ ⟨w.heap.size, 0, none⟩ t ((laidQ w t).alloc (.cells #[.int .i64 n, .int .i64 a] 92)) (by unfold laidQ; rw [World.cell?_alloc_lt _ _ ⟨w.heap.size, 0, none⟩ (by simp; omega)]; rw [World.cell?_alloc_lt _ _ ⟨w.heap.size, 0, none⟩ (by simp; omega)]; simp)
  have st := setE t (w.heap.size + 1 + 1 + 1 + 1) n (((laidQ w t).alloc (.cells #[.int .i64 n, .int .i64 a] 92)).alloc (.cells #[.int .i64 n] 39)) W'
    (by rw [World.cell?_alloc_at _ _ _ _ (by simp [laidQ])]; rfl) hst
  have mU := methodUnwrap
  have tA := fun (v : Value) (xT : TypeId) (w : World) => run_typeAssert_lacksB (P := Tryz.prog) (t := 92) (asserted := 163) Tryz.underlying163 (by kernel_rfl) (z := .nilIface) (by kernel_rfl) v xT w
  have tU := fun (v : Value) (xT : TypeId) (w : World) => run_typeAssert_hasB (P := Tryz.prog) (t := 92) (asserted := 166) Tryz.underlying166 (by kernel_rfl) v xT w
  unfold laidQ at el st
  clear hst
  go_enter Tryz.func37, Tryz.ntmps37
  go_wp2
  refine wp_loop_rounds 2 ?_
  rw [rounds_succ]
  go_wp2_with (go_at_call 148; refine (unwrap n a _).mono ?_; rintro e w' ⟨rfl, rfl⟩)
  rw [rounds_succ]
  go_wp2
  go_ret
  exact ⟨rfl, rfl⟩
end Go.Proofs.YtjlicambfepfiaaGreatDoor.As

set_option linter.unusedVariables false
set_option linter.unusedSimpArgs false
namespace Go.Proofs.YtjlicambfepfiaaGreatDoor.Ab
open Go Go.RowKit
set_option maxHeartbeats 1000000
set_option maxRecDepth 100000

/-- The library's type of an error lies in the world. -/
abbrev ErrT (w : World) : Prop := w.cell? ⟨0, 0, none⟩ = some (As.rt 36)
theorem errT_at {w0 w : World} {G : Loc} {m : Mem} (h : ErrT w0) (hs : St Tryz.prog w0 G m w) : ErrT w := by
  have hlt : 0 < w0.heap.size := by
    rcases Nat.lt_or_ge 0 w0.heap.size with h' | h'
    · exact h'
    · simp [ErrT, World.cell?, Array.getElem?_eq_none h'] at h
  unfold ErrT World.cell? at h ⊢
  rw [hs.below.block 0 hlt]; exact h
theorem c_asPlace {w0 : World} {m : Mem} {i : Nat} {n a : Int} {c0 c1 : Value} {Q : Value → Mem → Prop} (hT : ErrT w0) (hg : m.get i = .own [c0, c1] 92) (hq : Q (.bool true) (m.set i (.own [.int .i64 n, .int .i64 a] 92))) :
    AbC Tryz.prog w0 37 [.iface 92 (.agg ⟨[.int .i64 n, .int .i64 a]⟩), .iface 93 (.pointer (some ⟨i, 0, none⟩))] m Q := by
  intro G w args' hs hargs
  cases hargs with
  | cons _ v1 _ l1 h1 hargs =>
  cases hargs with
  | cons _ v2 _ l2 h2 hargs =>
  cases hargs
  have e1 : v1 = .iface 92 (.agg ⟨[.int .i64 n, .int .i64 a]⟩) := VR.plain_eq 6 _ _ rfl h1
  subst e1
  cases h2 with
  | iface _ _ v2 h2 =>
  cases h2 with
  | ptr _ _ B b S hG =>
  rw [run_callFunc_enter (by kernel_rfl)]
  show Calls _ _ _ _ _
  have hlt : B < w.heap.size := hs.lim i B b S (by rw [hg]; simp) hG
  have hbel : Below w.heap.size w ((As.laidP w ⟨B, b + 0, none⟩).alloc (.cells #[.int .i64 n, .int .i64 a] 92)) :=
    ((((Below.refl _ w).alloc (by simp) _).alloc (by simp) _).alloc (by simp; omega) _).alloc (by simp [As.laidP]; omega) _
  have hs4 := hs.grown hbel
  obtain ⟨w', h3, h4⟩ := snd_put (o := 0) (vs := [.int .i64 n, .int .i64 a]) (vs' := [.int .i64 n, .int .i64 a]) hs4 hG hg (by simp) (.cons _ _ _ _ (.int _ _) (.cons _ _ _ _ (.int _ _) .nil)) rfl
  refine (As.as_place n a ⟨B, b + 0, none⟩ w w' (errT_at hT hs) hlt h3).mono ?_
  rintro e w2 ⟨rfl, rfl⟩
  exact ⟨_, rfl, G, .bool true, _, Loc.le_refl G, .bool true, h4, hq⟩
theorem c_asNumber {w0 : World} {m : Mem} {i : Nat} {n a : Int} {c0 : Value} {Q : Value → Mem → Prop} (hT : ErrT w0) (hg : m.get i = .own [c0] 39) (hq : Q (.bool true) (m.set i (.own [.int .i64 n] 39))) :
    AbC Tryz.prog w0 37 [.iface 92 (.agg ⟨[.int .i64 n, .int .i64 a]⟩), .iface 90 (.pointer (some ⟨i, 0, none⟩))] m Q := by
  intro G w args' hs hargs
  cases hargs with
  | cons _ v1 _ l1 h1 hargs =>
  cases hargs with
  | cons _ v2 _ l2 h2 hargs =>
  cases hargs
  have e1 : v1 = .iface 92 (.agg ⟨[.int .i64 n, .int .i64 a]⟩) := VR.plain_eq 6 _ _ rfl h1
  subst e1
  cases h2 with
  | iface _ _ v2 h2 =>
  cases h2 with
  | ptr _ _ B b S hG =>
  rw [run_callFunc_enter (by kernel_rfl)]
  show Calls _ _ _ _ _
  have hlt : B < w.heap.size := hs.lim i B b S (by rw [hg]; simp) hG
  have hbel : Below w.heap.size w (((As.laidQ w ⟨B, b + 0, none⟩).alloc (.cells #[.int .i64 n, .int .i64 a] 92)).alloc (.cells #[.int .i64 n] 39)) :=
    (((((Below.refl _ w).alloc (by simp) _).alloc (by simp) _).alloc (by simp; omega) _).alloc (by simp [As.laidQ]; omega) _).alloc (by simp [As.laidQ]; omega) _
  have hs4 := hs.grown hbel
  obtain ⟨w', h3, h4⟩ := snd_put (o := 0) (vs := [.int .i64 n]) (vs' := [.int .i64 n]) hs4 hG hg (by simp) (.cons _ _ _ _ (.int _ _) .nil) rfl
  refine (As.as_number n a ⟨B, b + 0, none⟩ w w' (errT_at hT hs) hlt h3).mono ?_
  rintro e w2 ⟨rfl, rfl⟩
  exact ⟨_, rfl, G, .bool true, _, Loc.le_refl G, .bool true, h4, hq⟩

theorem c_Place {w0 : World} {m : Mem} {n a : Nat} {Q : Value → Mem → Prop} (hT : ErrT w0) (hq : ∀ m', Old m m' → Q (.int .i64 (a : Int)) m') : AbC Tryz.prog w0 20 [faultV n a] m Q := by
  refine AbC_fn ok20 (by simp) ?_
  simp -implicitDefEqProofs (disch := first | assumption | (simp only [wnA]; done) | (simp only [wnA]; omega) | omega | fail) [rc20, ro20, wkA, retV, stabOk, dC, ev, fillD, pickCells, putAt, bnd, slD, List.getElem?_cons_zero, List.getElem?_cons_succ, dR.eq_20, Mem.cell, Mem.row, wmA, faultV]
  refine c_asPlace hT (c0 := .int .i64 0) (c1 := .int .i64 0) (by simp) ?_
  simp -implicitDefEqProofs (disch := first | assumption | (simp only [wnA]; done) | (simp only [wnA]; omega) | omega | fail) [wkA, retV, stabOk, dC, ev, fillD, pickCells, putAt, bnd, slD, List.getElem?_cons_zero, List.getElem?_cons_succ, dR.eq_20, Mem.cell, Mem.row, wmA]
  exact hq _ (((Old.refl m).push _).set (Nat.le_refl _) _)
theorem c_Number {w0 : World} {m : Mem} {n a : Nat} {Q : Value → Mem → Prop} (hT : ErrT w0) (hq : ∀ m', Old m m' → Q (.int .i64 (n : Int)) m') : AbC Tryz.prog w0 19 [faultV n a] m Q := by
  refine AbC_fn ok19 (by simp) ?_
  simp -implicitDefEqProofs (disch := first | assumption | (simp only [wnA]; done) | (simp only [wnA]; omega) | omega | fail) [rc19, ro19, wkA, retV, stabOk, dC, ev, fillD, pickCells, putAt, bnd, slD, List.getElem?_cons_zero, List.getElem?_cons_succ, dR.eq_20, Mem.cell, Mem.row, wmA, faultV]
  refine c_asNumber hT (c0 := .int .i64 0) (by simp) ?_
  simp -implicitDefEqProofs (disch := first | assumption | (simp only [wnA]; done) | (simp only [wnA]; omega) | omega | fail) [wkA, retV, stabOk, dC, ev, fillD, pickCells, putAt, bnd, slD, List.getElem?_cons_zero, List.getElem?_cons_succ, dR.eq_20, Mem.cell, Mem.row, wmA]
  exact hq _ (((Old.refl m).push _).set (Nat.le_refl _) _)
theorem et : Tryz.prog.globalNamed "errors.errorType" = some 0 := by kernel_rfl
theorem rtN : (Tryz.prog.cutTypes.find? (·.1 == "internal/reflectlite.rtype")).map (·.2) = some 158 := by kernel_rfl
theorem oneRow : ((List.range 255).filter fun t => Tryz.prog.rowNamed t [101, 114, 114, 111, 114]) = [36] := by kernel_rfl
theorem tsize : Tryz.prog.types.size = 255 := by kernel_rfl
/-- What the rows lay of errors.errorType. -/
theorem errT_of {l : List (String × DataW Unit)} {W : World} (h : handlesMet Tryz.prog l W) (hm : ("errors.errorType", DataW.iface "internal/reflectlite.rtype" (.agg [.ptr (.lit (.string [101, 114, 114, 111, 114]))])) ∈ l) : ErrT W := by
  obtain ⟨name, u, ty, e1, e2, e3, e4, e5⟩ := h _ hm
  have en : name = [101, 114, 114, 111, 114] := (Option.some.inj e1).symm
  subst en
  obtain rfl := Option.some.inj (rtN.symm.trans e2)
  have hm : ty ∈ (List.range 255).filter fun t => Tryz.prog.rowNamed t [101, 114, 114, 111, 114] := List.mem_filter.2 ⟨List.mem_range.2 (by rw [← tsize]; exact e3), e4⟩
  rw [oneRow] at hm
  obtain rfl := List.mem_singleton.1 hm
  have hh : typeHandle Tryz.prog 36 = .pointer (some ⟨7, 36, none⟩) := by kernel_rfl
  rw [hh] at e5
  have := World.var?_cell et e5 0
  show W.cell? ⟨0, 0, none⟩ = _
  rw [this]; rfl
end Go.Proofs.YtjlicambfepfiaaGreatDoor.Ab

set_option linter.unusedVariables false
set_option linter.unusedSimpArgs false
namespace Go.Proofs.YtjlicambfepfiaaGreatDoor.Ab
open Go Go.RowKit
set_option maxHeartbeats 4000000
set_option maxRecDepth 100000

def vOf (x : DB) : DV := (x.1, slV x.2 x.1.arms.length 2)
theorem dsV_of {m : Mem} {base : Nat} {ob : Option Nat} {l : List DB} (h : SlO m 29 7 ob (l.flatMap dbC) l.length) (ha : ArmsAt m base l) : DsV m (slV ob l.length 7) (l.map vOf) := by
  refine ⟨?_, fun b hb => ?_, fun x hx => ?_⟩
  · have e : (l.map vOf).flatMap vC = l.flatMap dbC := by rw [List.flatMap_map]; rfl
    rw [e, List.length_map]
    exact h.read
  · rw [blk_slV] at hb; subst hb; exact h.lt
  · obtain ⟨y, hy, rfl⟩ := List.mem_map.1 hx
    have := (ha y hy).1
    refine ⟨this.read, fun b hb => ?_⟩
    have hb : blk (slV y.2 y.1.arms.length 2) = some b := hb
    rw [blk_slV] at hb
    rw [hb] at this
    exact this.lt
theorem wd_of {N : Nat} {d : DS} (h : WFS N d) : NOk d ∧ wD d ≤ 4 * N + N * (3 * N + 64) + 128 := by
  obtain ⟨h, h1, h2, h3, h4, h5⟩ := h
  have hn : NOk d := by
    unfold NOk
    rcases h.2 with h | h | h | h | h
    · rw [h.2.2.2.1]; omega
    · have := h.2.2.2.2.1; omega
    · rw [h.2.2.2.1]; omega
    · have := h.2.2.2.1; omega
    · rw [h.2.2.2.1]; omega
  refine ⟨hn, ?_⟩
  have ha : wArms d.arms ≤ d.arms.length * (3 * N + 64) := by
    revert h4
    generalize d.arms = l
    intro h4
    induction l with
    | nil => simp [wArms]
    | cons a l ih =>
      have h6 := h4 a (by simp)
      have h7 := ih fun b hb => h4 b (by simp [hb])
      simp only [wArms, List.map_cons, List.sum_cons, List.length_cons, Nat.add_mul] at h7 ⊢
      omega
  have hb : d.arms.length * (3 * N + 64) ≤ N * (3 * N + 64) := Nat.mul_le_mul_right _ h5
  unfold wD
  omega
theorem wT_of {N B : Nat} {l : List DV} (h : ∀ x ∈ l, wD x.1 ≤ B) : wT l ≤ l.length * B := by
  induction l with
  | nil => simp [wT]
  | cons x l ih =>
    have h1 := h x (by simp)
    have h2 := ih fun y hy => h y (by simp [hy])
    simp only [wT, List.map_cons, List.sum_cons, List.length_cons, Nat.add_mul] at h2 ⊢
    omega
theorem same_of {l k : List DV} (h : l.map (fun x => clr x.1) = k.map fun x => clr x.1) : SameL l k := by
  have hl : l.length = k.length := by have := congrArg List.length h; simpa using this
  refine ⟨hl, fun i a b ha hb => ?_⟩
  have := congrArg (fun z => z[i]?) h
  simp only [List.getElem?_map, ha, hb, Option.map_some, Option.some.injEq] at this
  obtain ⟨⟨a1, a2, a3, a4, a5, a6, a7⟩, av⟩ := a
  obtain ⟨⟨b1, b2, b3, b4, b5, b6, b7⟩, bv⟩ := b
  simp only [clr, DS.mk.injEq] at this
  obtain ⟨rfl, rfl, rfl, rfl, rfl, rfl, -⟩ := this
  rfl

theorem wT_clr (l : List DV) : wT l = ((l.map fun x => clr x.1).map wD).sum := by
  unfold wT
  rw [List.map_map]
  rfl

theorem l_DAgain {w0 : World} {m : Mem} {S : ByteArray} (hp : Part L0 m) (ht : Ten w0) (hE : ErrV w0) (hT : ErrT w0) :
    AbC Tryz.prog w0 7 [.string S] m fun v _ => v = .bool true := by
  refine AbC_fn ok7 (by simp) ?_
  have hl : S.data.toList.length = S.size := by simp
  simp -implicitDefEqProofs (disch := first | assumption | (simp only [wnA]; done) | (simp only [wnA]; omega) | omega | fail) [rc7, ro7, wkA, retV, stabOk, dC, ev, fillD, pickCells, putAt, bnd, slD, List.getElem?_cons_zero, List.getElem?_cons_succ, dR.eq_20, Mem.cell, Mem.row, wmA]
  refine c_awake hp ?_
  by_cases hs : 3000 < S.size
  · have is : (3000 : Int) < (S.size : Int) := by omega
    simp -implicitDefEqProofs (disch := first | assumption | (simp only [wnA]; done) | (simp only [wnA]; omega) | omega | fail) [rc7_2, wkA, retV, stabOk, dC, ev, fillD, pickCells, putAt, bnd, slD, List.getElem?_cons_zero, List.getElem?_cons_succ, dR.eq_20, Mem.cell, Mem.row, wmA, gtT is]
  · have is : (S.size : Int) ≤ 3000 := by omega
    simp -implicitDefEqProofs (disch := first | assumption | (simp only [wnA]; done) | (simp only [wnA]; omega) | omega | fail) [rc7_2, wkA, retV, stabOk, dC, ev, fillD, pickCells, putAt, bnd, slD, List.getElem?_cons_zero, List.getElem?_cons_succ, dR.eq_20, Mem.cell, Mem.row, wmA, gtF is, rc7_1]
    refine c_Parse hp ht hE (fun h => by omega) (fun _ m1 a o1 hc => ?_) (fun _ m1 us e o1 hc hpe => ?_) fun _ m1 us ob l o1 hc hul hpe s1 hob hAA hlu => ?_
    · have ha := (cut_places S.data.toList S.data.toList.length 0 (by omega) (by omega)).1 a hc
      rw [hl] at ha
      have hf : faultV 1 a = .iface 92 (.agg ⟨[.int .i64 ((1 : Nat) : Int), .int .i64 (a : Int)]⟩) := rfl
      simp -implicitDefEqProofs (disch := first | assumption | (simp only [wnA]; done) | (simp only [wnA]; omega) | omega | fail) [wkA, retV, stabOk, dC, ev, fillD, pickCells, putAt, bnd, slD, List.getElem?_cons_zero, List.getElem?_cons_succ, dR.eq_20, Mem.cell, Mem.row, wmA, hf]
      refine c_Number (n := 1) (a := a) hT fun m2 o2 => ?_
      simp -implicitDefEqProofs (disch := first | assumption | (simp only [wnA]; done) | (simp only [wnA]; omega) | omega | fail) [wkA, retV, stabOk, dC, ev, fillD, pickCells, putAt, bnd, slD, List.getElem?_cons_zero, List.getElem?_cons_succ, dR.eq_20, Mem.cell, Mem.row, wmA]
      refine c_Place (n := 1) (a := a) hT fun m3 o3 => ?_
      simp -implicitDefEqProofs (disch := first | assumption | (simp only [wnA]; done) | (simp only [wnA]; omega) | omega | fail) [wkA, retV, stabOk, dC, ev, fillD, pickCells, putAt, bnd, slD, List.getElem?_cons_zero, List.getElem?_cons_succ, dR.eq_20, Mem.cell, Mem.row, wmA]
      refine c_Place (n := 1) (a := a) hT fun m4 o4 => ?_
      simp -implicitDefEqProofs (disch := first | assumption | (simp only [wnA]; done) | (simp only [wnA]; omega) | omega | fail) [wkA, retV, stabOk, dC, ev, fillD, pickCells, putAt, bnd, slD, List.getElem?_cons_zero, List.getElem?_cons_succ, dR.eq_20, Mem.cell, Mem.row, wmA, ha]
    · have hpl := ((cut_places S.data.toList S.data.toList.length 0 (by omega) (by omega)).2 us hc).1 (-1) (by omega)
      have hPP : AllP S.size us := fun p hp => by rw [← hl]; exact PlL_at hpl p hp
      have hno := steps_err hPP us.length ⟨0, none⟩ [] (fun x hx => by cases hx) e hpe
      obtain ⟨no, a⟩ := e
      obtain ⟨hno, ha⟩ := hno
      have ha : a ≤ S.size := ha
      have hno : no = 2 ∨ no = 3 ∨ no = 5 := hno
      rcases hno with rfl | rfl | rfl
      · have hf : faultV 2 a = .iface 92 (.agg ⟨[.int .i64 ((2 : Nat) : Int), .int .i64 (a : Int)]⟩) := rfl
        simp -implicitDefEqProofs (disch := first | assumption | (simp only [wnA]; done) | (simp only [wnA]; omega) | omega | fail) [wkA, retV, stabOk, dC, ev, fillD, pickCells, putAt, bnd, slD, List.getElem?_cons_zero, List.getElem?_cons_succ, dR.eq_20, Mem.cell, Mem.row, wmA, hf]
        refine c_Number (n := 2) (a := a) hT fun m2 o2 => ?_
        simp -implicitDefEqProofs (disch := first | assumption | (simp only [wnA]; done) | (simp only [wnA]; omega) | omega | fail) [wkA, retV, stabOk, dC, ev, fillD, pickCells, putAt, bnd, slD, List.getElem?_cons_zero, List.getElem?_cons_succ, dR.eq_20, Mem.cell, Mem.row, wmA]
        refine c_Place (n := 2) (a := a) hT fun m3 o3 => ?_
        simp -implicitDefEqProofs (disch := first | assumption | (simp only [wnA]; done) | (simp only [wnA]; omega) | omega | fail) [wkA, retV, stabOk, dC, ev, fillD, pickCells, putAt, bnd, slD, List.getElem?_cons_zero, List.getElem?_cons_succ, dR.eq_20, Mem.cell, Mem.row, wmA]
        refine c_Place (n := 2) (a := a) hT fun m4 o4 => ?_
        simp -implicitDefEqProofs (disch := first | assumption | (simp only [wnA]; done) | (simp only [wnA]; omega) | omega | fail) [wkA, retV, stabOk, dC, ev, fillD, pickCells, putAt, bnd, slD, List.getElem?_cons_zero, List.getElem?_cons_succ, dR.eq_20, Mem.cell, Mem.row, wmA, ha]
      · have hf : faultV 3 a = .iface 92 (.agg ⟨[.int .i64 ((3 : Nat) : Int), .int .i64 (a : Int)]⟩) := rfl
        simp -implicitDefEqProofs (disch := first | assumption | (simp only [wnA]; done) | (simp only [wnA]; omega) | omega | fail) [wkA, retV, stabOk, dC, ev, fillD, pickCells, putAt, bnd, slD, List.getElem?_cons_zero, List.getElem?_cons_succ, dR.eq_20, Mem.cell, Mem.row, wmA, hf]
        refine c_Number (n := 3) (a := a) hT fun m2 o2 => ?_
        simp -implicitDefEqProofs (disch := first | assumption | (simp only [wnA]; done) | (simp only [wnA]; omega) | omega | fail) [wkA, retV, stabOk, dC, ev, fillD, pickCells, putAt, bnd, slD, List.getElem?_cons_zero, List.getElem?_cons_succ, dR.eq_20, Mem.cell, Mem.row, wmA]
        refine c_Place (n := 3) (a := a) hT fun m3 o3 => ?_
        simp -implicitDefEqProofs (disch := first | assumption | (simp only [wnA]; done) | (simp only [wnA]; omega) | omega | fail) [wkA, retV, stabOk, dC, ev, fillD, pickCells, putAt, bnd, slD, List.getElem?_cons_zero, List.getElem?_cons_succ, dR.eq_20, Mem.cell, Mem.row, wmA]
        refine c_Place (n := 3) (a := a) hT fun m4 o4 => ?_
        simp -implicitDefEqProofs (disch := first | assumption | (simp only [wnA]; done) | (simp only [wnA]; omega) | omega | fail) [wkA, retV, stabOk, dC, ev, fillD, pickCells, putAt, bnd, slD, List.getElem?_cons_zero, List.getElem?_cons_succ, dR.eq_20, Mem.cell, Mem.row, wmA, ha]
      · have hf : faultV 5 a = .iface 92 (.agg ⟨[.int .i64 ((5 : Nat) : Int), .int .i64 (a : Int)]⟩) := rfl
        simp -implicitDefEqProofs (disch := first | assumption | (simp only [wnA]; done) | (simp only [wnA]; omega) | omega | fail) [wkA, retV, stabOk, dC, ev, fillD, pickCells, putAt, bnd, slD, List.getElem?_cons_zero, List.getElem?_cons_succ, dR.eq_20, Mem.cell, Mem.row, wmA, hf]
        refine c_Number (n := 5) (a := a) hT fun m2 o2 => ?_
        simp -implicitDefEqProofs (disch := first | assumption | (simp only [wnA]; done) | (simp only [wnA]; omega) | omega | fail) [wkA, retV, stabOk, dC, ev, fillD, pickCells, putAt, bnd, slD, List.getElem?_cons_zero, List.getElem?_cons_succ, dR.eq_20, Mem.cell, Mem.row, wmA]
        refine c_Place (n := 5) (a := a) hT fun m3 o3 => ?_
        simp -implicitDefEqProofs (disch := first | assumption | (simp only [wnA]; done) | (simp only [wnA]; omega) | omega | fail) [wkA, retV, stabOk, dC, ev, fillD, pickCells, putAt, bnd, slD, List.getElem?_cons_zero, List.getElem?_cons_succ, dR.eq_20, Mem.cell, Mem.row, wmA]
        refine c_Place (n := 5) (a := a) hT fun m4 o4 => ?_
        simp -implicitDefEqProofs (disch := first | assumption | (simp only [wnA]; done) | (simp only [wnA]; omega) | omega | fail) [wkA, retV, stabOk, dC, ev, fillD, pickCells, putAt, bnd, slD, List.getElem?_cons_zero, List.getElem?_cons_succ, dR.eq_20, Mem.cell, Mem.row, wmA, ha]
    · have hE : EndOk us := by
        obtain ⟨-, ini, hini⟩ := (cut_places S.data.toList S.data.toList.length 0 (by omega) (by omega)).2 us hc
        unfold EndOk
        rw [hini]
        simp [endT]
      have hW := cut_allW hc
      rw [hl] at hW
      have hgood := (stepsF_ok hW hul hE us.length ⟨0, none⟩ [] (fun d hd => by cases hd) (by rw [show stepsF us.length us ⟨0, none⟩ [] = parseD us from rfl, hpe])).2
      rw [show stepsF us.length us ⟨0, none⟩ [] = parseD us from rfl, hpe] at hgood
      have hgood : ∀ x ∈ l.map vOf, WFS (S.size + 1) x.1 := fun x hx => by
        obtain ⟨y, hy, rfl⟩ := List.mem_map.1 hx
        exact hgood y.1 (List.mem_map.2 ⟨y, hy, rfl⟩)
      have hlw : (l.map vOf).length ≤ 3001 := by rw [List.length_map]; omega
      have htot : wT (l.map vOf) ≤ 1099511627776 := by
        have h1 := wT_of (N := 0) (B := 27300000) fun x hx => by
          have h2 := (wd_of (hgood x hx)).2
          have h3 : (S.size + 1) * (3 * (S.size + 1) + 64) ≤ 3001 * (3 * 3001 + 64) := Nat.mul_le_mul (by omega) (by omega)
          omega
        have h2 : (l.map vOf).length * 27300000 ≤ 3001 * 27300000 := Nat.mul_le_mul_right _ hlw
        omega
      have hD := dsV_of s1 hAA
      have hsl : slV ob (l.map vOf).length 7 = slV ob l.length 7 := by rw [List.length_map]
      generalize hls : l.map vOf = ls at *
      simp -implicitDefEqProofs (disch := first | assumption | (simp only [wnA]; done) | (simp only [wnA]; omega) | omega | fail) [wkA, retV, stabOk, dC, ev, fillD, pickCells, putAt, bnd, slD, List.getElem?_cons_zero, List.getElem?_cons_succ, dR.eq_20, Mem.cell, Mem.row, wmA, rc7_0]
      refine c_DText ht hD htot (fun x hx => (wd_of (hgood x hx)).1) fun m2 o2 => ?_
      obtain ⟨T, hT2⟩ : ∃ T : ByteArray, (⟨⟨textL ls⟩⟩ : ByteArray) = T := ⟨_, rfl⟩
      have hT3 : T.data.toList = textL ls := by subst hT2; rfl
      have hcx : ∃ us2, cutL 0 (textL ls) = .inr us2 := by
        obtain ⟨a', ws, e1, e2⟩ := cx_text (fun x hx => (hgood x hx).1) 0
        have : cutL a' [] = .inr [(endT, a')] := rfl
        rw [this] at e2
        exact ⟨_, e2⟩
      obtain ⟨us2, hc2⟩ := hcx
      obtain ⟨l2, hp2, hcl⟩ := parse_text (fun x hx => (hgood x hx).1) hc2
      simp -implicitDefEqProofs (disch := first | assumption | (simp only [wnA]; done) | (simp only [wnA]; omega) | omega | fail) [wkA, retV, stabOk, dC, ev, fillD, pickCells, putAt, bnd, slD, List.getElem?_cons_zero, List.getElem?_cons_succ, dR.eq_20, Mem.cell, Mem.row, wmA, hT2]
      rw [← hT3] at hc2
      refine c_Parse ((o1.trans o2).part hp) ht ‹ErrV w0› (fun h m3 o3 => ?_) (fun _ m3 a o3 hc3 => by rw [hc2] at hc3; cases hc3) (fun _ m3 us3 e o3 hc3 hpe3 => by rw [hc2] at hc3; cases hc3; rw [hp2] at hpe3; cases hpe3) fun h m3 us3 ob3 l3 o3 hc3 _ hpe3 s3 hob3 hAA3 hlu3 => ?_
      · have i4 : (4096 : Int) < (T.size : Int) := by omega
        simp -implicitDefEqProofs (disch := first | assumption | (simp only [wnA]; done) | (simp only [wnA]; omega) | omega | fail) [wkA, retV, stabOk, dC, ev, fillD, pickCells, putAt, bnd, slD, List.getElem?_cons_zero, List.getElem?_cons_succ, dR.eq_20, Mem.cell, Mem.row, wmA, gtT i4]
      · have i4 : (T.size : Int) ≤ 4096 := by omega
        rw [hc2] at hc3
        cases hc3
        have hD3 := dsV_of s3 hAA3
        have hl3 : l3.map Prod.fst = l2 := by rw [hp2] at hpe3; exact (Prod.mk.inj hpe3).1.symm
        have hcc : (l3.map vOf).map (fun x => clr x.1) = ls.map fun x => clr x.1 := by
          rw [← hcl, ← hl3, List.map_map, List.map_map]
          rfl
        have hsame : SameL (l3.map vOf) ls := same_of hcc
        have hsl3 : (slV ob3 l3.length 7) = slV ob3 l3.length 7 := rfl
        simp -implicitDefEqProofs (disch := first | assumption | (simp only [wnA]; done) | (simp only [wnA]; omega) | omega | fail) [wkA, retV, stabOk, dC, ev, fillD, pickCells, putAt, bnd, slD, List.getElem?_cons_zero, List.getElem?_cons_succ, dR.eq_20, Mem.cell, Mem.row, wmA, gtF i4]
        refine c_Same hD3 (hD.old (o2.trans o3)) hsame ?_ fun m4 o4 => ?_
        · rw [wT_clr, hcc, ← wT_clr]; exact htot
        simp -implicitDefEqProofs (disch := first | assumption | (simp only [wnA]; done) | (simp only [wnA]; omega) | omega | fail) [wkA, retV, stabOk, dC, ev, fillD, pickCells, putAt, bnd, slD, List.getElem?_cons_zero, List.getElem?_cons_succ, dR.eq_20, Mem.cell, Mem.row, wmA]
end Go.Proofs.YtjlicambfepfiaaGreatDoor.Ab

namespace Go.Proofs.YtjlicambfepfiaaGreatDoor.dialogAgain
open Go Go.ChangeShapes Go.WideShapes Go.ChangeAt Go.RowKit Go.Proofs.YtjlicambfepfiaaGreatDoor.Ab
set_option linter.unusedVariables false

theorem own : ownKnob Tryz.prog.godebug = none := by kernel_rfl
theorem laidOut : laidOutB Tryz.prog = true := by kernel_rfl

set_option maxRecDepth 100000 in
theorem contract (H : Type) (enc : TypeId × Value → H) (W : World) (base : Nat) (args : Array Value) (ds gs : List (DataW H)) (before : List MemPlace)
    (hval : ∀ (j : Nat) t v, Tryz.f7.params[j]? = some t → args[j]? = some v → Value.okWide Tryz.prog W .any base t v)
    (hW : DataW.Whole enc Tryz.prog Tryz.f7.params.toList Rows.dialogAgainSpec.vars false W args.toList ds gs before) (hL : laidMetH Tryz.prog Rows.dialogAgainRow.laid W) :
    Calls Tryz.prog 7 args W fun e W' => ∃ v, e = .returned v ∧ Rows.dialogAgainSpec.post enc Tryz.prog Tryz.f7 false true false false W args v W' := by
  have hW' := hW
  obtain ⟨hL', hLh⟩ := (show laidMet Tryz.prog (Rows.dialogAgainRow.laid.filter fun x => x.2.handleName?.isNone) W ∧ handlesMet Tryz.prog (Rows.dialogAgainRow.laid.filter fun x => x.2.handleName?.isSome) W from hL)
  obtain ⟨p, q, hA0, hV, rfl, hfz, hnd⟩ := hW
  have hA : DataW.TrodAll enc Tryz.prog W 0 (fun _ => true) true Tryz.f7.params.toList args.toList ds p := hA0
  rw [Tryz.params7] at hA hval
  obtain ⟨v0, vs0, d0, ds0, p0, q0, hargs, rfl, rfl, h0, r0⟩ := trodAll_cons hA
  obtain ⟨rfl, rfl, rfl⟩ := trodAll_nil r0
  obtain rfl : args = #[v0] := by cases args; simp_all
  obtain ⟨rfl, rfl⟩ := trodVars_none hV
  obtain ⟨a0, rfl⟩ := okWide_string Tryz.underlying9 (hval 0 9 v0 rfl rfl)
  have lt0 : ∀ x ∈ p0, x.block < W.heap.size := by obtain ⟨m, hm⟩ := h0; exact DataW.trod_lt m _ _ _ hm
  have s : St Tryz.prog W (G0 Tryz.prog) (toMem L0) W := St.laid globals_size L0_get laid_ok (laidIn hL' (List.mem_of_getElem? (i := 0) rfl) (List.mem_of_getElem? (i := 1) rfl) (List.mem_of_getElem? (i := 2) rfl))
  have hp : Part L0 (toMem L0) := Part.of L0_part (Nat.le_refl _) fun _ _ => rfl
  obtain ⟨G0, m0, x0, t0, g0, s0, u0, b0, f0, k0⟩ := arg_one (k := 5) (s := .str) (by kernel_rfl) h0 rfl s
  have hp := g0.part hp
  refine (AbC_true s0 (.cons _ _ _ _ u0 .nil) ((by obtain ⟨s, hx, -, w⟩ := absT_str b0 f0; cases hx; exact l_DAgain hp (ten_of hL' (List.mem_of_getElem? (i := 2) rfl)) (errV_of hL' (List.mem_of_getElem? (i := 4) rfl) (List.mem_of_getElem? (i := 3) rfl)) (errT_of hLh (List.mem_of_getElem? (i := 0) rfl)))) (by kernel_rfl)).mono fun e W' ⟨he, bel⟩ => ?_
  subst he
  exact ⟨_, rfl, _, _, _, [], _, [], hW', trodAll_mk1 (shut_bool Tryz.underlying4 _), (trodAll_cons_mk (Below.trod laidOut (by kernel_rfl) (of_decide_eq_true (by kernel_rfl)) h0 bel lt0) trodAll_mk0), rfl, bel.frame _, fun h => by cases h⟩

noncomputable def laidWorld (os : Os) : World :=
  let N := (World.settled Tryz.prog os).heap.size
  { World.holding Tryz.prog os ⟨#[.cells #[.string ⟨#[118, 97, 108, 117, 101, 32, 111, 117, 116, 32, 111, 102, 32, 114, 97, 110, 103, 101]⟩] 226, .cells #[.string ⟨#[105, 110, 118, 97, 108, 105, 100, 32, 115, 121, 110, 116, 97, 120]⟩] 226], #[], []⟩ with heap := (((((((World.holding Tryz.prog os ⟨#[.cells #[.string ⟨#[118, 97, 108, 117, 101, 32, 111, 117, 116, 32, 111, 102, 32, 114, 97, 110, 103, 101]⟩] 226, .cells #[.string ⟨#[105, 110, 118, 97, 108, 105, 100, 32, 115, 121, 110, 116, 97, 120]⟩] 226], #[], []⟩).heap.modify 5 fun | .cells _ t frozen => .cells ⟨e32⟩ t frozen | o => o).modify 6 fun | .cells _ t frozen => .cells ⟨e64⟩ t frozen | o => o).modify 2 fun | .cells _ t frozen => .cells ⟨e10⟩ t frozen | o => o).modify 4 fun | .cells _ t frozen => .cells #[.iface 224 (.pointer (some ⟨N, 0, none⟩))] t frozen | o => o).modify 3 fun | .cells _ t frozen => .cells #[.iface 224 (.pointer (some ⟨N + 1, 0, none⟩))] t frozen | o => o).modify 0 fun | .cells _ t frozen => .cells #[.iface 158 (.agg #[.pointer (some ⟨7, 36, none⟩)])] t frozen | o => o) }
theorem laid_met (os : Os) : laidMetH Tryz.prog Rows.dialogAgainRow.laid ((laidWorld os).forCall (fun _ _ => 0) ⟨#[], #[(.string .empty : Value)], []⟩).memory :=
  laidMetH_of_parts (laidMet_of_run' 8 (by kernel_rfl) (by kernel_rfl)) (by kernel_rfl)
theorem reads (os : Os) {H : Type} (enc : TypeId × Value → H) : ∃ places, DataW.whole enc Tryz.prog ((laidWorld os).forCall (fun _ _ => 0) ⟨#[], #[(.string .empty : Value)], []⟩).memory Tryz.f7.params.toList Rows.dialogAgainSpec.vars false [(.string .empty : Value)] 8 = some ([.lit (.string [])], [], places) :=
  ⟨[], by kernel_rfl⟩

set_option maxRecDepth 100000 in
theorem lifted (os : Os) (started : os.Started) (H : Type) (enc : TypeId × Value → H) (F : Stop.Interp) :
    ReturnsInHanded {} Tryz.checked os 7 .any ((OpenSpec.ofChange Rows.dialogAgainSpec).preRow enc Tryz.prog Tryz.f7 Rows.dialogAgainRow.domain false Rows.dialogAgainRow.laid) (((OpenSpec.ofChange Rows.dialogAgainSpec).at F).post enc Tryz.prog Tryz.f7 false true false false) := by
  obtain ⟨places, hx⟩ := reads os enc
  refine returnsInHanded_of_row (C := Tryz.checked) (s := (OpenSpec.ofChange Rows.dialogAgainSpec)) own started (by kernel_rfl) Tryz.func7
    (witness_row_atRef (enc := enc) (C := Tryz.checked) false (laidWorld os) #[(.string .empty : Value)] rfl (by kernel_rfl) (by kernel_rfl) (by kernel_rfl)
      (OpenSpec.preRow_of_cond 8 hx (by kernel_rfl) (fun k hk => by cases hk) (by kernel_rfl) (laid_met os))) ?_
  intro W base args ds gs before hval hW _ _ _ hL _ _
  exact contract H enc W base args ds gs before hval hW hL

theorem over : Rows.DialogAgainSaid :=
  OpenClaim.holds_of_cond 7 Tryz.f7 rfl rfl rfl rfl rfl rfl rfl ⟨rfl, rfl, rfl, rfl, rfl⟩ rfl rfl rfl rfl rfl (by kernel_rfl) Tryz.func7 (by kernel_rfl)
    (of_decide_eq_true (by kernel_rfl)) (by unfold Func.isWrapper; first | (rw [if_pos (by decide +kernel)]; kernel_rfl) | (rw [if_neg (by decide +kernel)]; exact ⟨rfl, rfl⟩))
    (fun os started H enc _ F => by rw [OpenClaim.pre_eq_preRow]; exact lifted os started H enc F)

theorem plain (f : FuncId) (fn : Func) (hf : Tryz.pinned.checked.prog.funcNamed "lifeline/lifelinelaw17.DialogAgain" = some f) (hfn : Tryz.pinned.checked.prog.funcs[f]? = some fn) :
    true = Tryz.pinned.checked.prog.looks [] ∧ ∀ (j : Nat) t, fn.params[j]? = some t → Tryz.pinned.checked.prog.wantsStandIn t = false := by
  obtain rfl : f = 7 := Option.some.inj ((show Tryz.prog.funcNamed "lifeline/lifelinelaw17.DialogAgain" = some 7 by kernel_rfl).symm.trans hf) |>.symm
  obtain rfl : fn = Tryz.f7 := (Option.some.inj (Tryz.func7.symm.trans hfn)).symm
  refine ⟨by kernel_rfl, fun j t ht => ?_⟩
  rw [Tryz.params7] at ht
  have hall : ∀ t ∈ [9], Tryz.prog.wantsStandIn t = false := by
    intro t ht
    simp only [List.mem_cons, List.mem_nil_iff, or_false] at ht
    rcases ht with rfl <;> kernel_rfl
  exact hall t (by simpa using Array.mem_of_getElem? ht)

theorem proved : Rows.DialogAgainCardSaid :=
  Claim7.holds_tied_plain_at .later [] _ _ _ _ over (fun _ h => by cases h) (by kernel_rfl) (fun _ h => by cases h) dialogAgain_row_tie rfl ⟨rfl, rfl⟩ (by kernel_rfl) rfl plain (by kernel_rfl)
#print axioms proved
end Go.Proofs.YtjlicambfepfiaaGreatDoor.dialogAgain
