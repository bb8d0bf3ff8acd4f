/- The law TargetSums, as its statement says it: for every input; the listed variables hold what the program's text lays. -/
import Derived.Test.YtiapjjgmmiifmaaGreatDoorKTs4
import Derived.KernelRfl
import Derived.Test.YtiapjjgmmiifmaaGreatDoorCards
import Derived.Test.YtiapjjgmmiifmaaGreatDoorTie
import Derived.WalkKit
import Derived.ProofKit
import Derived.OpenShut
import Derived.JoinedCond
import Derived.ChangeOld
import Derived.Deep.DeepHandedRow
import Derived.Deep.DeepWitnessRowRef
set_option linter.unusedVariables false
set_option linter.unusedSimpArgs false
namespace Go.Proofs.YtiapjjgmmiifmaaGreatDoor.Ab
open Go Go.RowKit
set_option maxHeartbeats 4000000
set_option maxRecDepth 100000
def hexN (l : List UInt8) : Option Nat := match puL 16 4294967295 0 l with
  | some v => if digs 16 v = l then some v else none
  | none => none
theorem puL_le {B M : Nat} : ∀ (l : List UInt8) (n v : Nat), n ≤ M → puL B M n l = some v → v ≤ M
  | [], n, v, h, e => by cases e; exact h
  | c :: l, n, v, h, e => by
    simp only [puL] at e
    split at e
    · rename_i n' hn
      refine puL_le l n' v ?_ e
      unfold puStep at hn
      split at hn
      · split at hn
        · rename_i hh; cases hn; exact hh.2
        · cases hn
      · cases hn
    · cases e
theorem hexN_lt {l : List UInt8} {n : Nat} (h : hexN l = some n) : n < 4294967296 := by
  unfold hexN at h
  split at h
  · rename_i v hv
    have := puL_le l 0 v (by omega) hv
    split at h
    · cases h; omega
    · cases h
  · cases h
theorem hexN_digs {n : Nat} (h : n < 4294967296) : hexN (digs 16 n) = some n := by
  unfold hexN
  rw [puL_digs (by omega) n (by omega)]
  simp
theorem c_hex {w0 : World} {m : Mem} {s : List UInt8} {Q : Value → Mem → Prop} (hp : Part L0 m) (ht : Ten w0) (hE : ErrV w0) (hs : s.length ≤ 1000000)
    (h1 : ∀ M (n : Nat), Old m M → hexN s = some n → Q (.tuple ⟨[.int .i64 (n : Int), .bool true]⟩) M) (h0 : ∀ M (z : Int), Old m M → hexN s = none → Q (.tuple ⟨[.int .i64 z, .bool false]⟩) M) :
    AbC Tryz.prog w0 63 [.string ⟨⟨s⟩⟩] m Q := by
  refine AbC_fn ok63 (by simp) ?_
  simp -implicitDefEqProofs (disch := first | assumption | omega | fail) [rc63, ro63, wkB, retV, stabOk, dC, ev, fillD, pickCells, putAt, bnd, slD, List.getElem?_cons_zero, List.getElem?_cons_succ, Mem.cell, Mem.row, cells_own, cells_ro]
  refine c_ParseUint (B := 16) (M := 4294967295) (bits := 32) hE (by omega) (.inl ⟨rfl, rfl⟩) (by show s.length ≤ _; omega) (fun M v p o he => ?_) fun M v o hs0 hv => ?_
  · simp -implicitDefEqProofs (disch := first | assumption | omega | fail) [wkB, retV, stabOk, dC, ev, fillD, pickCells, putAt, bnd, slD, List.getElem?_cons_zero, List.getElem?_cons_succ, Mem.cell, Mem.row, cells_own, cells_ro]
    refine h0 M _ o ?_
    unfold hexN
    rcases he with he | he
    · have : s = [] := List.length_eq_zero_iff.1 he
      subst this
      simp only [puL]
      rw [digs_lt (by omega)]
      simp
    · have he : puL 16 4294967295 0 s = none := he
      rw [he]
  · have hv : puL 16 4294967295 0 s = some v := hv
    have hle := puL_le s 0 v (by omega) hv
    have w1 : IntKind.i64.wrap (v : Int) = (v : Int) := w64 (by omega)
    simp -implicitDefEqProofs (disch := first | assumption | omega | fail) [wkB, retV, stabOk, dC, ev, fillD, pickCells, putAt, bnd, slD, List.getElem?_cons_zero, List.getElem?_cons_succ, Mem.cell, Mem.row, cells_own, cells_ro, w1]
    refine c_FormatUint (B := 16) (Old.part hp o) ht (by omega) (by omega) fun M2 o2 => ?_
    by_cases he : digs 16 v = s
    · have e2 : (digs 16 v == s) = true := by simp [he]
      simp -implicitDefEqProofs (disch := first | assumption | omega | fail) [wkB, retV, stabOk, dC, ev, fillD, pickCells, putAt, bnd, slD, List.getElem?_cons_zero, List.getElem?_cons_succ, Mem.cell, Mem.row, cells_own, cells_ro, e2]
      exact h1 M2 v (o.trans o2) (by unfold hexN; rw [hv]; simp [he])
    · have e2 : (digs 16 v == s) = false := by simp [he]
      simp -implicitDefEqProofs (disch := first | assumption | omega | fail) [wkB, retV, stabOk, dC, ev, fillD, pickCells, putAt, bnd, slD, List.getElem?_cons_zero, List.getElem?_cons_succ, Mem.cell, Mem.row, cells_own, cells_ro, e2]
      exact h0 M2 _ (o.trans o2) (by unfold hexN; rw [hv]; simp [he])
def wayIx (l : List UInt8) : Option Nat := if l = wayL 0 then some 0 else if l = wayL 1 then some 1 else if l = wayL 2 then some 2 else if l = wayL 3 then some 3 else none
def begF (s : TgS) (k : Nat) (a : Int) : TgS := { s with addr := a, tak := if k = 3 then .files (bTake s.tr s.wt) else .plain (rOf s.tr s.wt 1 (decide (k ≠ 0)) true 1) }
def wayCs : List Value := [.string ⟨⟨wayL 0⟩⟩, .string ⟨⟨wayL 1⟩⟩, .string ⟨⟨wayL 2⟩⟩, .string ⟨⟨wayL 3⟩⟩]
theorem wayCs_at {j : Nat} (h : j < 4) : wayCs[j]? = some (.string ⟨⟨wayL j⟩⟩) := by
  rcases (show j = 0 ∨ j = 1 ∨ j = 2 ∨ j = 3 by omega) with rfl | rfl | rfl | rfl <;> rfl
theorem c_begin {w0 : World} {V : Nat → Prop} {m0 m : Mem} {it sp : Nat} {ol orr : Option Nat} {s : TgS} {way : List UInt8} {a : Int} {Q : Value → Mem → Prop} (h : Sep m0 V m (tgH it sp ol orr .nilIface s))
    (h1 : ∀ M k tv HT, wayIx way = some k → Sep m0 V M (tgH it sp ol orr tv (begF s k a) ++ HT) → TakR HT tv (begF s k a).tak → Q (.bool true) M)
    (h0 : ∀ M, wayIx way = none → Sep m0 V M (tgH it sp ol orr .nilIface s) → Q (.bool false) M) :
    AbC Tryz.prog w0 64 [.pointer (some ⟨it, 0, none⟩), .string ⟨⟨way⟩⟩, .int .i64 a] m Q := by
  refine AbC_fn ok64 (by simp) ?_
  simp -implicitDefEqProofs (disch := first | assumption | omega | fail) [rc64, ro64, wkB, retV, stabOk, dC, ev, fillD, pickCells, putAt, bnd, slD, List.getElem?_cons_zero, List.getElem?_cons_succ, Mem.cell, Mem.row, cells_own, cells_ro]
  refine AbC_fn ok35 (by simp) ?_
  simp -implicitDefEqProofs (disch := first | assumption | omega | fail) [rc35, ro35, wkB, retV, stabOk, dC, ev, fillD, pickCells, putAt, bnd, slD, List.getElem?_cons_zero, List.getElem?_cons_succ, Mem.cell, Mem.row, cells_own, cells_ro]
  refine SK_bslS h (cs := wayCs) (by simp [fillD, pickCells, wkB, retV, stabOk, dC, ev, fillD, pickCells, putAt, bnd, slD, List.getElem?_cons_zero, List.getElem?_cons_succ, Mem.cell, Mem.row, cells_own, cells_ro, wayCs, wayL]) rfl fun bw m1 hh1 _ _ => ?_
  simp -implicitDefEqProofs (disch := first | assumption | omega | fail) [wkB, retV, stabOk, dC, ev, fillD, pickCells, putAt, bnd, slD, List.getElem?_cons_zero, List.getElem?_cons_succ, Mem.cell, Mem.row, cells_own, cells_ro]
  refine LoopW_of (fun k ts m' => ∃ j, j + k = 4 ∧ m' = m1 ∧ (∀ i, i < j → way ≠ wayL i) ∧ ts 0 = .pointer (some ⟨it, 0, none⟩) ∧ ts 1 = .string ⟨⟨way⟩⟩ ∧ ts 2 = .int .i64 a ∧ ts 9 = .slice (some ⟨bw, 0, none⟩) 4 1 ∧ ts 10 = .int .i64 4 ∧ ts 11 = .int .i64 (j : Nat)) 4 ?_ ?_
  · exact ⟨0, by omega, rfl, fun i hi => by omega, by simp [frA_at], by simp [frA_at], by simp [frA_at], by simp, by simp, by simp⟩
  · rintro k ts m' K ⟨j, hj, rfl, hne, t0, t1, t2, t9, t10, t11⟩ hK
    by_cases hj4 : j < 4
    · have hj8 : (j : Int) < 4 := by omega
      have hidx : sidx 1 (.slice (some ⟨bw, 0, none⟩) 4 1) (.int .i64 (j : Int)) = some (.pointer (some ⟨bw, j, none⟩)) := by simpa using sidx_at (b := bw) (o := 0) (n := 4) (c := 1) (j := j) (sz := 1) (k := .i64) hj4
      have gw := hh1.get 0 rfl
      have hc := wayCs_at hj4
      have w1 : IntKind.i64.wrap ((j : Int) + 1) = (j : Int) + 1 := w64 (by omega)
      obtain ⟨C, hC⟩ : ∃ C, wayCs = C := ⟨_, rfl⟩
      rw [hC] at gw hc
      by_cases hw : way = wayL j
      · have hw2 : (!(wayL j == way)) = false := by simp [hw]
        have hix : wayIx way = some j := by
          subst hw
          rcases (show j = 0 ∨ j = 1 ∨ j = 2 ∨ j = 3 by omega) with rfl | rfl | rfl | rfl <;> decide
        have hh2 := hh1.tl
        simp -implicitDefEqProofs (disch := first | assumption | omega | fail) [rc64_3, rc64_2, wkB, retV, stabOk, dC, ev, fillD, pickCells, putAt, bnd, slD, List.getElem?_cons_zero, List.getElem?_cons_succ, Mem.cell, Mem.row, cells_own, cells_ro, t0, t1, t2, t9, t10, t11, hj8, hidx, gw, hc, getL1 hc, hw2, rc64_1]
        refine SK_stS hh2 0 rfl (o := 6) (vs := [.int .i64 a]) (cs' := tgC { s with addr := a } sp (slV ol s.line.length 1) .nilIface (slV orr s.reps.length 3)) (by simp [wkB, retV, stabOk, dC, ev, fillD, pickCells, putAt, bnd, slD, List.getElem?_cons_zero, List.getElem?_cons_succ, Mem.cell, Mem.row, cells_own, cells_ro]) (by simp [wkB, retV, stabOk, dC, ev, fillD, pickCells, putAt, bnd, slD, List.getElem?_cons_zero, List.getElem?_cons_succ, Mem.cell, Mem.row, cells_own, cells_ro]) (by simp [tgC]) rfl rfl (by simp [tgC, putAt]) fun m2 h2 _ => ?_
        have g2 := h2.get 0 rfl
        simp only [tgC] at g2
        by_cases h3 : j = 3
        · subst h3
          simp -implicitDefEqProofs (disch := first | assumption | omega | fail) [wkB, retV, stabOk, dC, ev, fillD, pickCells, putAt, bnd, slD, List.getElem?_cons_zero, List.getElem?_cons_succ, Mem.cell, Mem.row, cells_own, cells_ro, t0, t11, g2]
          refine c_bTake h2 fun ib H M hM hR => ?_
          simp -implicitDefEqProofs (disch := first | assumption | omega | fail) [wkB, retV, stabOk, dC, ev, fillD, pickCells, putAt, bnd, slD, List.getElem?_cons_zero, List.getElem?_cons_succ, Mem.cell, Mem.row, cells_own, cells_ro]
          have hM := hM.perm List.perm_append_comm
          refine SK_stS hM 0 rfl (o := 5) (vs := [.iface 92 (.pointer (some ⟨ib, 0, none⟩))]) (cs' := tgC (begF s 3 a) sp (slV ol s.line.length 1) (.iface 92 (.pointer (some ⟨ib, 0, none⟩))) (slV orr s.reps.length 3)) (by simp [wkB, retV, stabOk, dC, ev, fillD, pickCells, putAt, bnd, slD, List.getElem?_cons_zero, List.getElem?_cons_succ, Mem.cell, Mem.row, cells_own, cells_ro]) (by simp [wkB, retV, stabOk, dC, ev, fillD, pickCells, putAt, bnd, slD, List.getElem?_cons_zero, List.getElem?_cons_succ, Mem.cell, Mem.row, cells_own, cells_ro]) (by simp [tgC]) rfl rfl (by simp [tgC, putAt, begF]) fun m4 h4 _ => ?_
          simp -implicitDefEqProofs (disch := first | assumption | omega | fail) [wkB, retV, stabOk, dC, ev, fillD, pickCells, putAt, bnd, slD, List.getElem?_cons_zero, List.getElem?_cons_succ, Mem.cell, Mem.row, cells_own, cells_ro, rc64_0]
          exact h1 m4 3 _ H hix h4 ⟨ib, rfl, hR⟩
        · have h3' : ((j : Int) == 3) = false := beq_eq_false_iff_ne.2 (by omega)
          have e0 : ((j : Int) != 0) = decide (j ≠ 0) := by by_cases hh : j = 0 <;> simp [hh]
          simp -implicitDefEqProofs (disch := first | assumption | omega | fail) [wkB, retV, stabOk, dC, ev, fillD, pickCells, putAt, bnd, slD, List.getElem?_cons_zero, List.getElem?_cons_succ, Mem.cell, Mem.row, cells_own, cells_ro, t0, t11, g2, h3', e0]
          refine c_rOf (n := 1) h2 fun ir H M hM hR => ?_
          simp -implicitDefEqProofs (disch := first | assumption | omega | fail) [wkB, retV, stabOk, dC, ev, fillD, pickCells, putAt, bnd, slD, List.getElem?_cons_zero, List.getElem?_cons_succ, Mem.cell, Mem.row, cells_own, cells_ro]
          have hM := hM.perm List.perm_append_comm
          refine SK_stS hM 0 rfl (o := 5) (vs := [.iface 91 (.pointer (some ⟨ir, 0, none⟩))]) (cs' := tgC (begF s j a) sp (slV ol s.line.length 1) (.iface 91 (.pointer (some ⟨ir, 0, none⟩))) (slV orr s.reps.length 3)) (by simp [wkB, retV, stabOk, dC, ev, fillD, pickCells, putAt, bnd, slD, List.getElem?_cons_zero, List.getElem?_cons_succ, Mem.cell, Mem.row, cells_own, cells_ro]) (by simp [wkB, retV, stabOk, dC, ev, fillD, pickCells, putAt, bnd, slD, List.getElem?_cons_zero, List.getElem?_cons_succ, Mem.cell, Mem.row, cells_own, cells_ro]) (by simp [tgC]) rfl rfl (by simp [tgC, putAt, begF]) fun m4 h4 _ => ?_
          simp -implicitDefEqProofs (disch := first | assumption | omega | fail) [wkB, retV, stabOk, dC, ev, fillD, pickCells, putAt, bnd, slD, List.getElem?_cons_zero, List.getElem?_cons_succ, Mem.cell, Mem.row, cells_own, cells_ro, rc64_0]
          refine h1 m4 j _ H hix h4 ?_
          simp only [begF, if_neg h3]
          exact ⟨ir, rfl, by simpa using hR⟩
      · have hw2 : (!(wayL j == way)) = true := by simp; exact fun e => hw e.symm
        simp -implicitDefEqProofs (disch := first | assumption | omega | fail) [rc64_3, rc64_2, wkB, retV, stabOk, dC, ev, fillD, pickCells, putAt, bnd, slD, List.getElem?_cons_zero, List.getElem?_cons_succ, Mem.cell, Mem.row, cells_own, cells_ro, t0, t1, t2, t9, t10, t11, hj8, hidx, gw, hc, getL1 hc, hw2, w1]
        exact hK (k - 1) _ _ (by omega) ⟨j + 1, by omega, rfl, fun i hi => by
          by_cases e : i = j
          · subst e; exact hw
          · exact hne i (by omega), by simp [t0], by simp [t1], by simp [t2], by simp [t9], by simp [t10], by simp⟩
    · have hjj : j = 4 := by omega
      subst hjj
      have hix : wayIx way = none := by
        unfold wayIx
        rw [if_neg (hne 0 (by omega)), if_neg (hne 1 (by omega)), if_neg (hne 2 (by omega)), if_neg (hne 3 (by omega))]
      simp -implicitDefEqProofs (disch := first | assumption | omega | fail) [rc64_3, rc64_4, wkB, retV, stabOk, dC, ev, fillD, pickCells, putAt, bnd, slD, List.getElem?_cons_zero, List.getElem?_cons_succ, Mem.cell, Mem.row, cells_own, cells_ro, t10, t11]
      exact h0 m' hix hh1.tl
end Go.Proofs.YtiapjjgmmiifmaaGreatDoor.Ab

set_option linter.unusedVariables false
set_option linter.unusedSimpArgs false
namespace Go.Proofs.YtiapjjgmmiifmaaGreatDoor.Ab
open Go Go.RowKit
set_option maxHeartbeats 4000000
set_option maxRecDepth 100000
def proL : List UInt8 := [13, 10, 61, 62, 32]
def qryL : List UInt8 := 63 :: proL
def load4 : List UInt8 := [108, 111, 97, 100]
def sum3 : List UInt8 := [115, 117, 109]
def loadR (s : TgS) (w b c : List UInt8) : Option TgS := if w = load4 then (match hexN c, wayIx b with | some a, some k => some (begF s k a) | _, _ => none) else none
def sumR (s : TgS) (w b c : List UInt8) : Option (Int × Int × Nat) := if w = sum3 then (match hexN b, hexN c with | some x, some y => if fitsF x y = true then some ((x : Int), (y : Int), prN ((s.mem.drop x).take y)) else none | _, _ => none) else none
def elseF (line : List UInt8) : List UInt8 := if line = [] then proL else qryL
def doesF (s : TgS) (line : List UInt8) : TgS × List UInt8 := match words 32 line with
  | [w, b, c] => match loadR s w b c with
    | some s' => (s', [])
    | none => match sumR s w b c with
      | some r => ({ s with reps := s.reps ++ [r] }, lineL r.1 r.2.1 r.2.2 ++ [61, 62, 32])
      | none => (s, elseF line)
  | _ => (s, elseF line)
theorem words3 {line w b c : List UInt8} (h : words 32 line = [w, b, c]) : w.length ≤ line.length ∧ b.length ≤ line.length ∧ c.length ≤ line.length := by
  have hj := splitK_join (c := 32) (line.count 32) line
  rw [show Lib.splitK [32] 0 (line.count 32) line = words 32 line from rfl, h] at hj
  simp only [joinC] at hj
  have := congrArg List.length hj
  simp at this
  omega
theorem c_hexQ {w0 : World} {m : Mem} {s : List UInt8} {Q : Value → Mem → Prop} (hp : Part L0 m) (ht : Ten w0) (hE : ErrV w0) (hs : s.length ≤ 1000000)
    (hq : ∀ M (z : Int) (b : Bool), Old m M → (b = true → ∃ n : Nat, hexN s = some n ∧ z = n) → (b = false → hexN s = none) → Q (.tuple ⟨[.int .i64 z, .bool b]⟩) M) :
    AbC Tryz.prog w0 63 [.string ⟨⟨s⟩⟩] m Q :=
  c_hex hp ht hE hs (fun M n o h => hq M n true o (fun _ => ⟨n, h, rfl⟩) fun e => by cases e) fun M z o h => hq M z false o (fun e => by cases e) fun _ => h
theorem c_tdoes {w0 : World} {V : Nat → Prop} {m : Mem} {H : HL} {it : Nat} {s : TgS} {line : List UInt8} {Q : Value → Mem → Prop} (ht : Ten w0) (hE : ErrV w0) (h : Sep m V m H) (hR : TgR H it s) (hno : s.tak = .no) (hl : line.length ≤ 80) (hrl : s.reps.length ≤ 1000000000)
    (hq : ∀ M H', Sep m V M H' → TgR H' it (doesF s line).1 → Q (.string ⟨⟨(doesF s line).2⟩⟩) M) :
    AbC Tryz.prog w0 45 [.pointer (some ⟨it, 0, none⟩), .string ⟨⟨line⟩⟩] m Q := by
  refine AbC_fn ok45 (by simp) ?_
  obtain ⟨⟨sp, ol, orr, tv, HT, rfl, hT, hol, hor⟩, hml, hll⟩ := hR
  rw [hno] at hT
  obtain ⟨rfl, rfl⟩ := hT
  have hR0 : TgR (tgH it sp ol orr .nilIface s ++ []) it s := ⟨⟨sp, ol, orr, .nilIface, [], rfl, by rw [hno]; exact ⟨rfl, rfl⟩, hol, hor⟩, hml, hll⟩
  have fin : ∀ fr M, Sep m V M (tgH it sp ol orr .nilIface s) → fr 1 = .string ⟨⟨line⟩⟩ → doesF s line = (s, elseF line) → AbW Tryz.prog w0 rc45_1 (bodyA [.mv (.tmp 4)] Q) fr M := by
    intro fr M hM t1 hd
    rw [hd] at hq
    by_cases hn : line = []
    · subst hn
      simp -implicitDefEqProofs (disch := first | assumption | omega | fail) [rc45_1, wkB, retV, stabOk, dC, ev, fillD, pickCells, putAt, bnd, slD, List.getElem?_cons_zero, List.getElem?_cons_succ, Mem.cell, Mem.row, cells_own, cells_ro, t1]
      exact hq M _ (by simpa using hM) hR0
    · have hn2 : (line == []) = false := by simpa using hn
      have e1 : elseF line = qryL := by unfold elseF; rw [if_neg hn]
      rw [e1] at hq
      simp -implicitDefEqProofs (disch := first | assumption | omega | fail) [rc45_1, rc45_0, wkB, retV, stabOk, dC, ev, fillD, pickCells, putAt, bnd, slD, List.getElem?_cons_zero, List.getElem?_cons_succ, Mem.cell, Mem.row, cells_own, cells_ro, t1, hn2]
      exact hq M _ (by simpa using hM) hR0
  simp -implicitDefEqProofs (disch := first | assumption | omega | fail) [rc45, ro45, wkB, retV, stabOk, dC, ev, fillD, pickCells, putAt, bnd, slD, List.getElem?_cons_zero, List.getElem?_cons_succ, Mem.cell, Mem.row, cells_own, cells_ro]
  refine c_Split (c := 32) (by show line.length < _; omega) ?_
  have h1 := h.push (.own ((words 32 line).map fun l => .string ⟨⟨l⟩⟩) 9)
  rw [show (ByteArray.mk ⟨line⟩).data.toList = line from rfl]
  obtain ⟨m1, hm1⟩ : ∃ m1, m.push (.own ((words 32 line).map fun l => .string ⟨⟨l⟩⟩) 9) = m1 := ⟨_, rfl⟩
  obtain ⟨bw, hbw⟩ : ∃ bw, m.next = bw := ⟨_, rfl⟩
  rw [hm1, hbw] at h1
  rw [hm1, hbw]
  clear hm1
  unfold doesF at hq fin
  generalize hwd : words 32 line = ws at *
  by_cases h3 : ws.length = 3
  · obtain ⟨w, b, c, rfl⟩ : ∃ w b c, ws = [w, b, c] := by
      match ws, h3 with
      | [w, b, c], _ => exact ⟨w, b, c, rfl⟩
    have g1 := h1.get 0 rfl
    have i0 : sidx 1 (.slice (some ⟨bw, 0, none⟩) 3 1) (.int .i64 0) = some (.pointer (some ⟨bw, 0, none⟩)) := rfl
    have i1 : sidx 1 (.slice (some ⟨bw, 0, none⟩) 3 1) (.int .i64 1) = some (.pointer (some ⟨bw, 1, none⟩)) := rfl
    have i2 : sidx 1 (.slice (some ⟨bw, 0, none⟩) 3 1) (.int .i64 2) = some (.pointer (some ⟨bw, 2, none⟩)) := rfl
    have hcl : c.length ≤ 1000000 ∧ b.length ≤ 1000000 := by have := words3 hwd; omega
    have sums : ∀ fr M, Sep m V M ((some bw, .own [.string ⟨⟨w⟩⟩, .string ⟨⟨b⟩⟩, .string ⟨⟨c⟩⟩] 9) :: tgH it sp ol orr .nilIface s) → fr 0 = .pointer (some ⟨it, 0, none⟩) → fr 1 = .string ⟨⟨line⟩⟩ → fr 5 = .slice (some ⟨bw, 0, none⟩) 3 1 → loadR s w b c = none → AbW Tryz.prog w0 rc45_2 (bodyA [.mv (.tmp 4)] Q) fr M := by
      intro fr M hM t0 t1 t5 hlr
      have gM := hM.get 0 rfl
      simp only [hlr] at hq fin
      by_cases hw : w = sum3
      · have hw2 : (w == ([115, 117, 109] : List UInt8)) = true := by simp [hw, sum3]
        simp -implicitDefEqProofs (disch := first | assumption | omega | fail) [rc45_2, wkB, retV, stabOk, dC, ev, fillD, pickCells, putAt, bnd, slD, List.getElem?_cons_zero, List.getElem?_cons_succ, Mem.cell, Mem.row, cells_own, cells_ro, t0, t1, t5, i0, i1, i2, gM, hw2]
        refine c_hexQ hM.pt ht hE hcl.2 fun M1 z1 b1 o1 et1 ef1 => ?_
        have hM1 := hM.old o1
        have gM1 := hM1.get 0 rfl
        simp -implicitDefEqProofs (disch := first | assumption | omega | fail) [wkB, retV, stabOk, dC, ev, fillD, pickCells, putAt, bnd, slD, List.getElem?_cons_zero, List.getElem?_cons_succ, Mem.cell, Mem.row, cells_own, cells_ro, t0, t1, t5, i2, gM1]
        refine c_hexQ hM1.pt ht hE hcl.1 fun M2 z2 b2 o2 et2 ef2 => ?_
        have hM2 := hM1.old o2
        have gM2 := hM2.get 1 rfl
        simp only [tgC] at gM2
        simp -implicitDefEqProofs (disch := first | assumption | omega | fail) [wkB, retV, stabOk, dC, ev, fillD, pickCells, putAt, bnd, slD, List.getElem?_cons_zero, List.getElem?_cons_succ, Mem.cell, Mem.row, cells_own, cells_ro, t0, t1, t5, gM2]
        have hsn : (b1 = false ∨ b2 = false ∨ fitsF z1 z2 = false) → sumR s w b c = none := fun hh => by
          unfold sumR
          rw [if_pos hw]
          cases b1 with
          | false => rw [ef1 rfl]
          | true =>
            obtain ⟨n1, e1, rfl⟩ := et1 rfl
            rw [e1]
            cases b2 with
            | false => rw [ef2 rfl]
            | true =>
              obtain ⟨n2, e2, rfl⟩ := et2 rfl
              rw [e2]
              simp only
              rw [if_neg]
              rcases hh with hh | hh | hh
              · cases hh
              · cases hh
              · rw [hh]; simp
        refine c_sPrint (s := s.mem) hM2 2 rfl hml (fun hf M3 h3 => ?_) fun hf => ?_
        · cases b1 with
          | false =>
            simp -implicitDefEqProofs (disch := first | assumption | omega | fail) [wkB, retV, stabOk, dC, ev, fillD, pickCells, putAt, bnd, slD, List.getElem?_cons_zero, List.getElem?_cons_succ, Mem.cell, Mem.row, cells_own, cells_ro, t0, t1, t5]
            exact fin _ M3 h3.tl (by simp [t1]) (by rw [hsn (.inl rfl)])
          | true =>
            cases b2 with
            | false =>
              simp -implicitDefEqProofs (disch := first | assumption | omega | fail) [wkB, retV, stabOk, dC, ev, fillD, pickCells, putAt, bnd, slD, List.getElem?_cons_zero, List.getElem?_cons_succ, Mem.cell, Mem.row, cells_own, cells_ro, t0, t1, t5]
              exact fin _ M3 h3.tl (by simp [t1]) (by rw [hsn (.inr (.inl rfl))])
            | true =>
              obtain ⟨n1, e1, rfl⟩ := et1 rfl
              obtain ⟨n2, e2, rfl⟩ := et2 rfl
              have hsr : sumR s w b c = some ((n1 : Int), (n2 : Int), prN ((s.mem.drop n1).take n2)) := by
                unfold sumR
                rw [if_pos hw, e1, e2]
                simp only
                rw [if_pos hf]
              simp only [hsr] at hq
              simp only [Int.toNat_natCast]
              have hpl := prN_lt ((s.mem.drop n1).take n2)
              generalize prN ((s.mem.drop n1).take n2) = pr at *
              have hl1 := hexN_lt e1
              have hl2 := hexN_lt e2
              simp -implicitDefEqProofs (disch := first | assumption | omega | fail) [wkB, retV, stabOk, dC, ev, fillD, pickCells, putAt, bnd, slD, List.getElem?_cons_zero, List.getElem?_cons_succ, Mem.cell, Mem.row, cells_own, cells_ro, t0, t1, t5]
              refine SK_alS h3 fun br m4 h4 _ _ => ?_
              simp -implicitDefEqProofs (disch := first | assumption | omega | fail) [wkB, retV, stabOk, dC, ev, fillD, pickCells, putAt, bnd, slD, List.getElem?_cons_zero, List.getElem?_cons_succ, Mem.cell, Mem.row, cells_own, cells_ro]
              refine SK_stS h4 0 rfl (o := 0) (vs := repC ((n1 : Int), (n2 : Int), pr)) (cs' := repC ((n1 : Int), (n2 : Int), pr)) (by simp [wkB, retV, stabOk, dC, ev, fillD, pickCells, putAt, bnd, slD, List.getElem?_cons_zero, List.getElem?_cons_succ, Mem.cell, Mem.row, cells_own, cells_ro]) (by simp [wkB, retV, stabOk, dC, ev, fillD, pickCells, putAt, bnd, slD, List.getElem?_cons_zero, List.getElem?_cons_succ, Mem.cell, Mem.row, cells_own, cells_ro, repC]) (by simp) rfl rfl rfl fun m5 h5 _ => ?_
              have g50 := h5.get 0 rfl
              have g52 := h5.get 2 rfl
              simp only [tgC] at g52
              simp only [repC] at g50
              simp -implicitDefEqProofs (disch := first | assumption | omega | fail) [wkB, retV, stabOk, dC, ev, fillD, pickCells, putAt, bnd, slD, List.getElem?_cons_zero, List.getElem?_cons_succ, Mem.cell, Mem.row, cells_own, cells_ro, t0, g50, g52]
              refine SK_bslS h5 (cs := repC ((n1 : Int), (n2 : Int), pr)) (by simp [fillD, pickCells, wkB, retV, stabOk, dC, ev, fillD, pickCells, putAt, bnd, slD, List.getElem?_cons_zero, List.getElem?_cons_succ, Mem.cell, Mem.row, cells_own, cells_ro, repC, g50]) rfl fun bs m6 h6 _ _ => ?_
              have g60 := h6.get 1 rfl
              have g62 := h6.get 3 rfl
              simp only [tgC] at g62
              simp only [repC] at g60
              have hO6 := (h6.slO 0 (k := 1) (sz := 3) rfl rfl (fun e => by cases e)).read
              simp -implicitDefEqProofs (disch := first | assumption | omega | fail) [wkB, retV, stabOk, dC, ev, fillD, pickCells, putAt, bnd, slD, List.getElem?_cons_zero, List.getElem?_cons_succ, Mem.cell, Mem.row, cells_own, cells_ro, t0, g60, g62]
              refine SK_apS h6 6 (n := s.reps.length) (k := 1) (ys := repC ((n1 : Int), (n2 : Int), pr)) rfl (by simp [wkB, retV, stabOk, dC, ev, fillD, pickCells, putAt, bnd, slD, List.getElem?_cons_zero, List.getElem?_cons_succ, Mem.cell, Mem.row, cells_own, cells_ro]) (flat_len repC_len s.reps) hor (by simp [wkB, retV, stabOk, dC, ev, fillD, pickCells, putAt, bnd, slD, List.getElem?_cons_zero, List.getElem?_cons_succ, Mem.cell, Mem.row, cells_own, cells_ro]; exact hO6.elems) (by simp [wkB, retV, stabOk, dC, ev, fillD, pickCells, putAt, bnd, slD, List.getElem?_cons_zero, List.getElem?_cons_succ, Mem.cell, Mem.row, cells_own, cells_ro]) rfl (by omega) (by unfold maxLen; omega) rfl fun or7 m7 h7 hn7 _ => ?_
              simp -implicitDefEqProofs (disch := first | assumption | omega | fail) [wkB, retV, stabOk, dC, ev, fillD, pickCells, putAt, bnd, slD, List.getElem?_cons_zero, List.getElem?_cons_succ, Mem.cell, Mem.row, cells_own, cells_ro, t0]
              refine SK_stS h7 3 rfl (o := 7) (vs := [slV or7 (s.reps.length + 1) 3]) (cs' := tgC { s with reps := s.reps ++ [((n1 : Int), (n2 : Int), pr)] } sp (slV ol s.line.length 1) .nilIface (slV or7 (s.reps.length + 1) 3)) (by simp [wkB, retV, stabOk, dC, ev, fillD, pickCells, putAt, bnd, slD, List.getElem?_cons_zero, List.getElem?_cons_succ, Mem.cell, Mem.row, cells_own, cells_ro]) (by simp [wkB, retV, stabOk, dC, ev, fillD, pickCells, putAt, bnd, slD, List.getElem?_cons_zero, List.getElem?_cons_succ, Mem.cell, Mem.row, cells_own, cells_ro]) (by simp [tgC]) rfl (by simp [oneC_slV]) (by simp [tgC, putAt]) fun m8 h8 _ => ?_
              have g8 := h8.get 1 rfl
              simp only [repC] at g8
              simp -implicitDefEqProofs (disch := first | assumption | omega | fail) [wkB, retV, stabOk, dC, ev, fillD, pickCells, putAt, bnd, slD, List.getElem?_cons_zero, List.getElem?_cons_succ, Mem.cell, Mem.row, cells_own, cells_ro, g8]
              refine c_Line h8.pt ht (by omega) (by omega) hpl fun m9 o9 => ?_
              have h9 := h8.old o9
              have e10 : s.reps.flatMap repC ++ repC ((n1 : Int), (n2 : Int), pr) = (s.reps ++ [((n1 : Int), (n2 : Int), pr)]).flatMap repC := by simp
              rw [e10] at h9
              have hlen := catB (lineL n1 n2 pr) [61, 62, 32] (by
                have la := num16 (i := n1) (by omega)
                have ln := num16 (i := n2) (by omega)
                have lp := digs_64 (b := 16) (by omega) (show pr < 18446744073709551616 by omega)
                simp [lineL, sumW]; omega)
              have hlen : dBin .add (.string ⟨⟨lineL n1 n2 pr⟩⟩) (.string ⟨#[61, 62, 32]⟩) = some (.string ⟨⟨lineL n1 n2 pr ++ [61, 62, 32]⟩⟩) := hlen
              simp -implicitDefEqProofs (disch := first | assumption | omega | fail) [wkB, retV, stabOk, dC, ev, fillD, pickCells, putAt, bnd, slD, List.getElem?_cons_zero, List.getElem?_cons_succ, Mem.cell, Mem.row, cells_own, cells_ro, hlen]
              refine hq m9 (tgH it sp ol or7 .nilIface { s with reps := s.reps ++ [((n1 : Int), (n2 : Int), pr)] } ++ []) ?_ ⟨⟨sp, ol, or7, .nilIface, [], rfl, by rw [hno]; exact ⟨rfl, rfl⟩, hol, fun e => by have := hn7 e; omega⟩, hml, hll⟩
              have h11 := h9.sel [3, 4, 5, 6] (by decide)
              have e12 : (s.reps ++ [((n1 : Int), (n2 : Int), pr)]).length = s.reps.length + 1 := by simp
              simp only [tgH, reH, List.append_nil]
              rw [e12]
              exact h11
        · have hn := hsn (.inr (.inr hf))
          cases b1 <;> cases b2
          all_goals
            simp -implicitDefEqProofs (disch := first | assumption | omega | fail) [wkB, retV, stabOk, dC, ev, fillD, pickCells, putAt, bnd, slD, List.getElem?_cons_zero, List.getElem?_cons_succ, Mem.cell, Mem.row, cells_own, cells_ro, t0, t1, t5]
            exact fin _ M2 hM2.tl (by simp [t1]) (by rw [hn])
      · have hw2 : (w == ([115, 117, 109] : List UInt8)) = false := by simpa [sum3] using hw
        simp -implicitDefEqProofs (disch := first | assumption | omega | fail) [rc45_2, wkB, retV, stabOk, dC, ev, fillD, pickCells, putAt, bnd, slD, List.getElem?_cons_zero, List.getElem?_cons_succ, Mem.cell, Mem.row, cells_own, cells_ro, t0, t1, t5, i0, i1, i2, gM, hw2]
        exact fin _ M hM.tl (by simp [t1]) (by unfold sumR; rw [if_neg hw])
    by_cases hw : w = load4
    · have hw2 : (w == ([108, 111, 97, 100] : List UInt8)) = true := by simp [hw, load4]
      simp -implicitDefEqProofs (disch := first | assumption | omega | fail) [wkB, retV, stabOk, dC, ev, fillD, pickCells, putAt, bnd, slD, List.getElem?_cons_zero, List.getElem?_cons_succ, Mem.cell, Mem.row, cells_own, cells_ro, i0, i1, i2, g1, hw2]
      refine c_hex h1.pt ht hE hcl.1 (fun M n o hn => ?_) fun M z o hn => ?_
      · have h2 := h1.old o
        have g2 := h2.get 0 rfl
        simp -implicitDefEqProofs (disch := first | assumption | omega | fail) [wkB, retV, stabOk, dC, ev, fillD, pickCells, putAt, bnd, slD, List.getElem?_cons_zero, List.getElem?_cons_succ, Mem.cell, Mem.row, cells_own, cells_ro, i1, g2]
        have h2' := h2.rot1
        refine c_begin h2'.fr (fun M2 k tv HT hk hM hT => ?_) fun M2 hk hM => ?_
        · have hlr : loadR s w b c = some (begF s k n) := by unfold loadR; rw [if_pos hw, hn, hk]
          simp only [hlr] at hq
          simp -implicitDefEqProofs (disch := first | assumption | omega | fail) [wkB, retV, stabOk, dC, ev, fillD, pickCells, putAt, bnd, slD, List.getElem?_cons_zero, List.getElem?_cons_succ, Mem.cell, Mem.row, cells_own, cells_ro]
          exact hq M2 _ ((h2'.un hM).sub (List.sublist_append_left _ _)) ⟨⟨sp, ol, orr, tv, HT, rfl, hT, hol, hor⟩, hml, hll⟩
        · have hM := (h2'.un hM).perm List.perm_append_comm
          simp -implicitDefEqProofs (disch := first | assumption | omega | fail) [wkB, retV, stabOk, dC, ev, fillD, pickCells, putAt, bnd, slD, List.getElem?_cons_zero, List.getElem?_cons_succ, Mem.cell, Mem.row, cells_own, cells_ro]
          exact sums _ M2 hM (by simp [frA_at]) (by simp [frA_at]) (by simp) (by unfold loadR; rw [if_pos hw, hn, hk])
      · have h2 := h1.old o
        simp -implicitDefEqProofs (disch := first | assumption | omega | fail) [wkB, retV, stabOk, dC, ev, fillD, pickCells, putAt, bnd, slD, List.getElem?_cons_zero, List.getElem?_cons_succ, Mem.cell, Mem.row, cells_own, cells_ro]
        exact sums _ M h2 (by simp [frA_at]) (by simp [frA_at]) (by simp) (by unfold loadR; rw [if_pos hw, hn])
    · have hw2 : (w == ([108, 111, 97, 100] : List UInt8)) = false := by simpa [load4] using hw
      simp -implicitDefEqProofs (disch := first | assumption | omega | fail) [wkB, retV, stabOk, dC, ev, fillD, pickCells, putAt, bnd, slD, List.getElem?_cons_zero, List.getElem?_cons_succ, Mem.cell, Mem.row, cells_own, cells_ro, i0, i1, i2, g1, hw2]
      exact sums _ m1 h1 (by simp [frA_at]) (by simp [frA_at]) (by simp) (by unfold loadR; rw [if_neg hw])
  · have h3' : ((ws.length : Int) == 3) = false := beq_eq_false_iff_ne.2 (by omega)
    simp -implicitDefEqProofs (disch := first | assumption | omega | fail) [wkB, retV, stabOk, dC, ev, fillD, pickCells, putAt, bnd, slD, List.getElem?_cons_zero, List.getElem?_cons_succ, Mem.cell, Mem.row, cells_own, cells_ro, h3', rc45_2]
    refine fin _ m1 h1.tl (by simp [frA_at]) ?_
    split
    · simp at h3
    · rfl
end Go.Proofs.YtiapjjgmmiifmaaGreatDoor.Ab

set_option linter.unusedVariables false
set_option linter.unusedSimpArgs false
namespace Go.Proofs.YtiapjjgmmiifmaaGreatDoor.Ab
open Go Go.RowKit
set_option maxHeartbeats 4000000
set_option maxRecDepth 100000
def pushL (l : List UInt8) (c : UInt8) : List UInt8 := if l.length < 80 then l ++ [c] else l
def putCF (s : TgS) (c : UInt8) : TgS × List UInt8 :=
  if s.asleep = true then ({ s with asleep := false }, proL)
  else if c = 13 then doesF { s with line := [] } s.line
  else ({ s with line := pushL s.line c }, [])
/-- Told: what is told of a board by a byte, or by bytes. -/
def TgQ (V : Nat → Prop) (m : Mem) (it : Nat) (r : TgS × List UInt8) (Q : Value → Mem → Prop) : Prop :=
  ∀ oo H' M, Sep m V M (byH oo r.2 :: H') → TgR H' it r.1 → (oo = none → r.2.length = 0) → Q (slV oo r.2.length 1) M
theorem line_len {a n : Nat} {p : Nat} (ha : a < 4294967296) (hn : n < 4294967296) (hp : p < 4294967296) : (lineL a n p).length ≤ 100 := by
  have la := num16 (i := a) (by omega)
  have ln := num16 (i := n) (by omega)
  have lp := digs_64 (b := 16) (by omega) (show p < 18446744073709551616 by omega)
  simp [lineL, sumW]; omega
theorem sumR_lt {s : TgS} {w b c : List UInt8} {r : Int × Int × Nat} (h : sumR s w b c = some r) : ∃ x y : Nat, r = ((x : Int), (y : Int), prN ((s.mem.drop x).take y)) ∧ x < 4294967296 ∧ y < 4294967296 ∧ fitsF x y = true ∧ hexN b = some x ∧ hexN c = some y ∧ w = sum3 := by
  unfold sumR at h
  split at h
  · rename_i hw
    split at h
    · rename_i x y hx hy
      split at h
      · rename_i hf
        cases h
        exact ⟨x, y, rfl, hexN_lt hx, hexN_lt hy, hf, hx, hy, hw⟩
      · cases h
    · cases h
  · cases h
theorem doesF_len (s : TgS) (line : List UInt8) : (doesF s line).2.length ≤ 200 := by
  unfold doesF
  have he : (elseF line).length ≤ 6 := by unfold elseF; split <;> simp [proL, qryL]
  split
  · split
    · simp
    · split
      · rename_i r hr
        obtain ⟨x, y, rfl, hx, hy, -⟩ := sumR_lt hr
        have := line_len hx hy (prN_lt ((s.mem.drop x).take y))
        simp only [List.length_append, List.length_cons, List.length_nil]
        omega
      · simp only; omega
  · simp only; omega
theorem c_tput {w0 : World} {V : Nat → Prop} {m : Mem} {H : HL} {it : Nat} {s : TgS} {c : UInt8} {Q : Value → Mem → Prop} (ht : Ten w0) (hE : ErrV w0) (h : Sep m V m H) (hR : TgR H it s) (hno : s.tak = .no) (hrl : s.reps.length ≤ 1000000000)
    (hq : TgQ V m it (putCF s c) Q) : AbC Tryz.prog w0 30 [.pointer (some ⟨it, 0, none⟩), .int .u8 (c.toNat : Int)] m Q := by
  refine AbC_fn ok30 (by simp) ?_
  obtain ⟨⟨sp, ol, orr, tv, HT, rfl, hT, hol, hor⟩, hml, hll⟩ := hR
  rw [hno] at hT
  obtain ⟨rfl, rfl⟩ := hT
  have g0 := h.get 0 rfl
  simp only [tgC] at g0
  unfold putCF at hq
  cases has : s.asleep with
  | true =>
    rw [if_pos has] at hq
    rw [has] at g0
    simp -implicitDefEqProofs (disch := first | assumption | omega | fail) [rc30, ro30, wkB, retV, stabOk, dC, ev, fillD, pickCells, putAt, bnd, slD, List.getElem?_cons_zero, List.getElem?_cons_succ, Mem.cell, Mem.row, cells_own, cells_ro, g0]
    refine SK_stS h 0 rfl (o := 3) (vs := [.bool false]) (cs' := tgC { s with asleep := false } sp (slV ol s.line.length 1) .nilIface (slV orr s.reps.length 3)) (by simp [wkB, retV, stabOk, dC, ev, fillD, pickCells, putAt, bnd, slD, List.getElem?_cons_zero, List.getElem?_cons_succ, Mem.cell, Mem.row, cells_own, cells_ro]) (by simp [wkB, retV, stabOk, dC, ev, fillD, pickCells, putAt, bnd, slD, List.getElem?_cons_zero, List.getElem?_cons_succ, Mem.cell, Mem.row, cells_own, cells_ro]) (by simp [tgC]) rfl rfl (by simp [tgC, putAt]) fun m1 h1 _ => ?_
    simp -implicitDefEqProofs (disch := first | assumption | omega | fail) [wkB, retV, stabOk, dC, ev, fillD, pickCells, putAt, bnd, slD, List.getElem?_cons_zero, List.getElem?_cons_succ, Mem.cell, Mem.row, cells_own, cells_ro]
    refine SK_bslS h1 (cs := proL.map byteV) (by simp [fillD, pickCells, wkB, retV, stabOk, dC, ev, fillD, pickCells, putAt, bnd, slD, List.getElem?_cons_zero, List.getElem?_cons_succ, Mem.cell, Mem.row, cells_own, cells_ro, byteV, proL]) rfl fun b m2 h2 _ _ => ?_
    have g2 := h2.get 0 rfl
    simp -implicitDefEqProofs (disch := first | assumption | omega | fail) [wkB, retV, stabOk, dC, ev, fillD, pickCells, putAt, bnd, slD, List.getElem?_cons_zero, List.getElem?_cons_succ, Mem.cell, Mem.row, cells_own, cells_ro]
    refine SK_cvm (i := b) (o := 0) (n := 5) (z := 1) (cs := proL.map byteV) (by simp [wkB, retV, stabOk, dC, ev, fillD, pickCells, putAt, bnd, slD, List.getElem?_cons_zero, List.getElem?_cons_succ, Mem.cell, Mem.row, cells_own, cells_ro]) g2 ?_
    simp -implicitDefEqProofs (disch := first | assumption | omega | fail) [wkB, retV, stabOk, dC, ev, fillD, pickCells, putAt, bnd, slD, List.getElem?_cons_zero, List.getElem?_cons_succ, Mem.cell, Mem.row, cells_own, cells_ro]
    exact hq (some b) _ m2 h2 ⟨⟨sp, ol, orr, .nilIface, [], rfl, by rw [hno]; exact ⟨rfl, rfl⟩, hol, hor⟩, hml, hll⟩ (fun e => by cases e)
  | false =>
    rw [if_neg (by rw [has]; simp)] at hq
    rw [has] at g0
    by_cases hc : c = 13
    · subst hc
      rw [if_pos rfl] at hq
      have hO := (h.slO 2 (k := s.line.length) (sz := 1) rfl (by simp) hol).read
      have hbs : bstr m (slV ol s.line.length 1) = some (.string ⟨⟨s.line⟩⟩) := SlR.txt hO
      have e13 : (((13 : UInt8).toNat : Int) == 13) = true := rfl
      simp -implicitDefEqProofs (disch := first | assumption | omega | fail) [rc30, ro30, wkB, retV, stabOk, dC, ev, fillD, pickCells, putAt, bnd, slD, List.getElem?_cons_zero, List.getElem?_cons_succ, Mem.cell, Mem.row, cells_own, cells_ro, g0, rc30_2, e13, hbs]
      refine SK_stS h 0 rfl (o := 4) (vs := [.slice none 0 0]) (cs' := tgC { s with line := [] } sp (.slice none 0 0) .nilIface (slV orr s.reps.length 3)) (by simp [wkB, retV, stabOk, dC, ev, fillD, pickCells, putAt, bnd, slD, List.getElem?_cons_zero, List.getElem?_cons_succ, Mem.cell, Mem.row, cells_own, cells_ro]) (by simp [wkB, retV, stabOk, dC, ev, fillD, pickCells, putAt, bnd, slD, List.getElem?_cons_zero, List.getElem?_cons_succ, Mem.cell, Mem.row, cells_own, cells_ro]) (by simp [tgC]) rfl rfl (by simp [tgC, putAt]) fun m1 h1 _ => ?_
      have h1 : Sep m V m1 (tgH it sp none orr .nilIface { s with line := [] } ++ []) := h1.nul 2 (.own [] 5)
      simp -implicitDefEqProofs (disch := first | assumption | omega | fail) [wkB, retV, stabOk, dC, ev, fillD, pickCells, putAt, bnd, slD, List.getElem?_cons_zero, List.getElem?_cons_succ, Mem.cell, Mem.row, cells_own, cells_ro]
      have hdl := doesF_len { s with line := [] } s.line
      refine c_tdoes ht hE h1.self ⟨⟨sp, none, orr, .nilIface, [], rfl, by simp only [hno]; exact ⟨rfl, rfl⟩, fun _ => rfl, hor⟩, hml, by simp⟩ hno hll hrl fun M H2 h2 hR2 => ?_
      generalize doesF { s with line := [] } s.line = r at *
      have h3 := h1.tr h2
      simp -implicitDefEqProofs (disch := first | assumption | omega | fail) [wkB, retV, stabOk, dC, ev, fillD, pickCells, putAt, bnd, slD, List.getElem?_cons_zero, List.getElem?_cons_succ, Mem.cell, Mem.row, cells_own, cells_ro]
      refine SK_s2bS h3 (s := r.2) (by simp [wkB, retV, stabOk, dC, ev, fillD, pickCells, putAt, bnd, slD, List.getElem?_cons_zero, List.getElem?_cons_succ, Mem.cell, Mem.row, cells_own, cells_ro]) (by omega) fun b m4 h4 _ _ => ?_
      simp -implicitDefEqProofs (disch := first | assumption | omega | fail) [wkB, retV, stabOk, dC, ev, fillD, pickCells, putAt, bnd, slD, List.getElem?_cons_zero, List.getElem?_cons_succ, Mem.cell, Mem.row, cells_own, cells_ro]
      exact hq (some b) _ m4 h4 hR2 (fun e => by cases e)
    · rw [if_neg hc] at hq
      have e13 : ((c.toNat : Int) == 13) = false := by have := b8 c 13 (by omega); rw [show ((13 : Int)) = ((13 : Nat) : Int) from rfl, this]; simp; exact hc
      have hsl := (h.slO 2 (k := s.line.length) (sz := 1) rfl (by simp) hol).slen
      unfold pushL at hq
      by_cases hlt : s.line.length < 80
      · have hlt' : (s.line.length : Int) < 80 := by omega
        rw [if_pos hlt] at hq
        simp -implicitDefEqProofs (disch := first | assumption | omega | fail) [rc30, ro30, wkB, retV, stabOk, dC, ev, fillD, pickCells, putAt, bnd, slD, List.getElem?_cons_zero, List.getElem?_cons_succ, Mem.cell, Mem.row, cells_own, cells_ro, g0, rc30_2, e13, rc30_1, hsl, hlt']
        refine SK_bslS h (cs := ([c] : List UInt8).map byteV) (by simp [fillD, pickCells, wkB, retV, stabOk, dC, ev, fillD, pickCells, putAt, bnd, slD, List.getElem?_cons_zero, List.getElem?_cons_succ, Mem.cell, Mem.row, cells_own, cells_ro, byteV]) rfl fun b m2 h2 _ _ => ?_
        have hO2 := (h2.slO 0 (k := 1) (sz := 1) rfl rfl (fun e => by cases e)).read
        simp -implicitDefEqProofs (disch := first | assumption | omega | fail) [wkB, retV, stabOk, dC, ev, fillD, pickCells, putAt, bnd, slD, List.getElem?_cons_zero, List.getElem?_cons_succ, Mem.cell, Mem.row, cells_own, cells_ro]
        refine SK_apS h2 3 (n := s.line.length) (k := 1) (ys := ([c] : List UInt8).map byteV) rfl (by simp [wkB, retV, stabOk, dC, ev, fillD, pickCells, putAt, bnd, slD, List.getElem?_cons_zero, List.getElem?_cons_succ, Mem.cell, Mem.row, cells_own, cells_ro]) (by simp) hol (by simp [wkB, retV, stabOk, dC, ev, fillD, pickCells, putAt, bnd, slD, List.getElem?_cons_zero, List.getElem?_cons_succ, Mem.cell, Mem.row, cells_own, cells_ro]; exact hO2.elems) (by simp [wkB, retV, stabOk, dC, ev, fillD, pickCells, putAt, bnd, slD, List.getElem?_cons_zero, List.getElem?_cons_succ, Mem.cell, Mem.row, cells_own, cells_ro]) (byteV_oneC _) (by omega) (by unfold maxLen; omega) rfl fun ol3 m3 h3 hn3 _ => ?_
        simp -implicitDefEqProofs (disch := first | assumption | omega | fail) [wkB, retV, stabOk, dC, ev, fillD, pickCells, putAt, bnd, slD, List.getElem?_cons_zero, List.getElem?_cons_succ, Mem.cell, Mem.row, cells_own, cells_ro]
        refine SK_stS h3 1 rfl (o := 4) (vs := [slV ol3 (s.line.length + 1) 1]) (cs' := tgC { s with line := s.line ++ [c] } sp (slV ol3 (s.line.length + 1) 1) .nilIface (slV orr s.reps.length 3)) (by simp [wkB, retV, stabOk, dC, ev, fillD, pickCells, putAt, bnd, slD, List.getElem?_cons_zero, List.getElem?_cons_succ, Mem.cell, Mem.row, cells_own, cells_ro]) (by simp [wkB, retV, stabOk, dC, ev, fillD, pickCells, putAt, bnd, slD, List.getElem?_cons_zero, List.getElem?_cons_succ, Mem.cell, Mem.row, cells_own, cells_ro]) (by simp [tgC]) rfl (by simp [oneC_slV]) (by simp [tgC, putAt]) fun m4 h4 _ => ?_
        simp -implicitDefEqProofs (disch := first | assumption | omega | fail) [wkB, retV, stabOk, dC, ev, fillD, pickCells, putAt, bnd, slD, List.getElem?_cons_zero, List.getElem?_cons_succ, Mem.cell, Mem.row, cells_own, cells_ro, rc30_0]
        have e6 : s.line.map byteV ++ ([c] : List UInt8).map byteV = (s.line ++ [c]).map byteV := by simp
        rw [e6] at h4
        have h5 := (h4.tl).non (.own [] 5)
        refine hq none (tgH it sp ol3 orr .nilIface { s with line := s.line ++ [c] } ++ []) m4 ?_ ⟨⟨sp, ol3, orr, .nilIface, [], rfl, by simp only [hno]; exact ⟨rfl, rfl⟩, fun e => by have := hn3 e; omega, hor⟩, hml, by simp; omega⟩ (fun _ => rfl)
        have e7 : (s.line ++ [c]).length = s.line.length + 1 := by simp
        simp only [tgH, List.append_nil]
        rw [e7]
        exact h5
      · have hlt' : ¬ (s.line.length : Int) < 80 := by omega
        rw [if_neg hlt] at hq
        simp -implicitDefEqProofs (disch := first | assumption | omega | fail) [rc30, ro30, wkB, retV, stabOk, dC, ev, fillD, pickCells, putAt, bnd, slD, List.getElem?_cons_zero, List.getElem?_cons_succ, Mem.cell, Mem.row, cells_own, cells_ro, g0, rc30_2, e13, rc30_1, hsl, hlt', rc30_0]
        exact hq none _ m (h.non _) ⟨⟨sp, ol, orr, .nilIface, [], rfl, by rw [hno]; exact ⟨rfl, rfl⟩, hol, hor⟩, hml, hll⟩ (fun _ => rfl)
end Go.Proofs.YtiapjjgmmiifmaaGreatDoor.Ab

set_option linter.unusedVariables false
set_option linter.unusedSimpArgs false
namespace Go.Proofs.YtiapjjgmmiifmaaGreatDoor.Ab
open Go Go.RowKit
set_option maxHeartbeats 4000000
set_option maxRecDepth 100000
def ldF (s : TgS) (o : List UInt8) : TgS × List UInt8 :=
  if s.tak.over = false then (s, o)
  else if s.tak.err = 0 ∧ fitsF s.addr s.tak.data.length = true then ({ s with tak := .no, mem := wrF s.mem s.addr.toNat s.tak.data }, o ++ proL)
  else ({ s with tak := .no }, o ++ 33 :: proL)
theorem elems_str {m : Mem} {l : List UInt8} : elemsV m 1 (.string ⟨⟨l⟩⟩) = some (l.map byteV) := rfl
theorem c_tloaded {w0 : World} {V : Nat → Prop} {m0 m : Mem} {H : HL} {it : Nat} {s : TgS} {oo : Option Nat} {o : List UInt8} {Q : Value → Mem → Prop} (h : Sep m0 V m (byH oo o :: H)) (hoo : oo = none → o.length = 0) (hR : TgR H it s) (hne : s.tak ≠ .no)
    (hbig : s.tak.sz ≤ 140737488355328) (hol9 : o.length ≤ 1000000000) (hq : TgQ V m0 it (ldF s o) Q) : AbC Tryz.prog w0 29 [.pointer (some ⟨it, 0, none⟩), slV oo o.length 1] m Q := by
  refine AbC_fn ok29 (by simp) ?_
  have hR0 := hR
  obtain ⟨⟨sp, ol, orr, tv, HT, rfl, hT, hol, hor⟩, hml, hll⟩ := hR
  have g0 := h.get 1 rfl
  simp only [tgC] at g0
  unfold ldF at hq
  have cat1 : dBin .add (.string ⟨#[13, 10]⟩) (.string ⟨#[61, 62, 32]⟩) = some (.string ⟨⟨proL⟩⟩) := catB [13, 10] [61, 62, 32] (by simp)
  have cat2 : dBin .add (.string ⟨#[33, 13, 10]⟩) (.string ⟨#[61, 62, 32]⟩) = some (.string ⟨⟨33 :: proL⟩⟩) := catB [33, 13, 10] [61, 62, 32] (by simp)
  /- the end: the taker is let go, and it is told -/
  have fin : ∀ (fr : Fr) (M : Mem) (mem' : List UInt8) (B : HL) (say tl : List UInt8), Sep m0 V M ((byH oo o :: tgH it sp ol orr tv { s with mem := mem' }) ++ B) → mem'.length = 16384 → fr 0 = .pointer (some ⟨it, 0, none⟩) → fr 1 = slV oo o.length 1 → fr 7 = .string ⟨⟨say⟩⟩ → dBin .add (.string ⟨⟨say⟩⟩) (.string ⟨#[61, 62, 32]⟩) = some (.string ⟨⟨tl⟩⟩) → tl.length ≤ 6 →
      TgQ V m0 it ({ s with tak := .no, mem := mem' }, o ++ tl) Q → AbW Tryz.prog w0 rc29_0 (bodyA [.mv (.tmp 4)] Q) fr M := by
    intro fr M mem' B say tl hM hm' t0 t1 t7 hcat htl hq
    have gM := hM.get 1 rfl
    simp only [tgC] at gM
    simp -implicitDefEqProofs (disch := first | assumption | omega | fail) [rc29_0, wkB, retV, stabOk, dC, ev, fillD, pickCells, putAt, bnd, slD, List.getElem?_cons_zero, List.getElem?_cons_succ, Mem.cell, Mem.row, cells_own, cells_ro, t0, t1, t7, gM]
    refine SK_stS hM 1 rfl (o := 5) (vs := [.nilIface]) (cs' := tgC { s with tak := .no, mem := mem' } sp (slV ol s.line.length 1) .nilIface (slV orr s.reps.length 3)) (by simp [wkB, retV, stabOk, dC, ev, fillD, pickCells, putAt, bnd, slD, List.getElem?_cons_zero, List.getElem?_cons_succ, Mem.cell, Mem.row, cells_own, cells_ro]) (by simp [wkB, retV, stabOk, dC, ev, fillD, pickCells, putAt, bnd, slD, List.getElem?_cons_zero, List.getElem?_cons_succ, Mem.cell, Mem.row, cells_own, cells_ro]) (by simp [tgC]) rfl rfl (by simp [tgC, putAt]) fun m1 h1 _ => ?_
    simp -implicitDefEqProofs (disch := first | assumption | omega | fail) [wkB, retV, stabOk, dC, ev, fillD, pickCells, putAt, bnd, slD, List.getElem?_cons_zero, List.getElem?_cons_succ, Mem.cell, Mem.row, cells_own, cells_ro, t0, t1, t7, hcat]
    refine SK_apS h1 0 (n := o.length) (k := tl.length) (ys := tl.map byteV) rfl (by simp [wkB, retV, stabOk, dC, ev, fillD, pickCells, putAt, bnd, slD, List.getElem?_cons_zero, List.getElem?_cons_succ, Mem.cell, Mem.row, cells_own, cells_ro, t1]) (by simp) hoo (by simp [wkB, retV, stabOk, dC, ev, fillD, pickCells, putAt, bnd, slD, List.getElem?_cons_zero, List.getElem?_cons_succ, Mem.cell, Mem.row, cells_own, cells_ro, elems_str]) (by simp [wkB, retV, stabOk, dC, ev, fillD, pickCells, putAt, bnd, slD, List.getElem?_cons_zero, List.getElem?_cons_succ, Mem.cell, Mem.row, cells_own, cells_ro]; rfl) (byteV_oneC _) (by omega) (by unfold maxLen; omega) (by simp) fun oo2 m2 h2 hn2 _ => ?_
    simp -implicitDefEqProofs (disch := first | assumption | omega | fail) [wkB, retV, stabOk, dC, ev, fillD, pickCells, putAt, bnd, slD, List.getElem?_cons_zero, List.getElem?_cons_succ, Mem.cell, Mem.row, cells_own, cells_ro]
    have e6 : o.map byteV ++ tl.map byteV = (o ++ tl).map byteV := by simp
    rw [e6] at h2
    have e7 : (o ++ tl).length = o.length + tl.length := by simp
    have := hq oo2 (tgH it sp ol orr .nilIface { s with tak := .no, mem := mem' } ++ []) m2 (by
      rw [List.append_nil]
      exact h2.sub (List.sublist_append_left (byH oo2 (o ++ tl) :: tgH it sp ol orr .nilIface { s with tak := .no, mem := mem' }) B)) ⟨⟨sp, ol, orr, .nilIface, [], rfl, ⟨rfl, rfl⟩, hol, hor⟩, hm', hll⟩ (fun e => by rw [e7]; exact hn2 e)
    rw [e7] at this
    exact this
  simp -implicitDefEqProofs (disch := first | assumption | omega | fail) [rc29, ro29, wkB, retV, stabOk, dC, ev, fillD, pickCells, putAt, bnd, slD, List.getElem?_cons_zero, List.getElem?_cons_succ, Mem.cell, Mem.row, cells_own, cells_ro, g0]
  refine call_takDone h hT (fun p hp => List.mem_cons_of_mem _ (List.mem_append_right _ hp)) hne (by simp [wkB, retV, stabOk, dC, ev, fillD, pickCells, putAt, bnd, slD, List.getElem?_cons_zero, List.getElem?_cons_succ, Mem.cell, Mem.row, cells_own, cells_ro]) ?_
  cases hov : s.tak.over with
  | false =>
    rw [if_pos hov] at hq
    simp -implicitDefEqProofs (disch := first | assumption | omega | fail) [wkB, retV, stabOk, dC, ev, fillD, pickCells, putAt, bnd, slD, List.getElem?_cons_zero, List.getElem?_cons_succ, Mem.cell, Mem.row, cells_own, cells_ro]
    exact hq oo _ m h hR0 hoo
  | true =>
    rw [if_neg (by rw [hov]; simp)] at hq
    have h0 : Sep m0 V m ((byH oo o :: tgH it sp ol orr tv s) ++ HT) := h
    cases her : s.tak.err with
    | succ k =>
      rw [if_neg (fun hh => by rw [her] at hh; cases hh.1)] at hq
      simp -implicitDefEqProofs (disch := first | assumption | omega | fail) [wkB, retV, stabOk, dC, ev, fillD, pickCells, putAt, bnd, slD, List.getElem?_cons_zero, List.getElem?_cons_succ, Mem.cell, Mem.row, cells_own, cells_ro, errV, rc29_1]
      exact fin _ m s.mem HT [33, 13, 10] (33 :: proL) h0 hml (by simp [frA_at]) (by simp [frA_at]) (by simp) cat2 (by simp [proL]) hq
    | zero =>
      simp -implicitDefEqProofs (disch := first | assumption | omega | fail) [wkB, retV, stabOk, dC, ev, fillD, pickCells, putAt, bnd, slD, List.getElem?_cons_zero, List.getElem?_cons_succ, Mem.cell, Mem.row, cells_own, cells_ro, errV, rc29_1, g0]
      have h1 := h0.perm List.perm_append_comm
      refine call_takData h1.fr hT hne hbig (by simp [wkB, retV, stabOk, dC, ev, fillD, pickCells, putAt, bnd, slD, List.getElem?_cons_zero, List.getElem?_cons_succ, Mem.cell, Mem.row, cells_own, cells_ro]) fun od m2 hM hod => ?_
      have h2 := (h1.un hM).perm List.perm_append_comm
      have g2 := h2.get 1 rfl
      simp only [tgC] at g2
      have hrd : RdV (fun i => i < m2.next) m2 1 (slV od s.tak.data.length 1) (s.tak.data.map byteV) s.tak.data.length := h2.rd 5 rfl (by simp) hod (fun i hi => by subst hi; exact h2.lt 5 rfl)
      simp -implicitDefEqProofs (disch := first | assumption | omega | fail) [wkB, retV, stabOk, dC, ev, fillD, pickCells, putAt, bnd, slD, List.getElem?_cons_zero, List.getElem?_cons_succ, Mem.cell, Mem.row, cells_own, cells_ro, g2]
      refine c_sWrite h2 2 rfl hml hrd (fun hf m3 h3 => ?_) fun hf => ?_
      · rw [if_pos ⟨her, hf⟩] at hq
        have hf2 := hf
        simp only [fitsF, decide_eq_true_eq] at hf2
        simp -implicitDefEqProofs (disch := first | assumption | omega | fail) [wkB, retV, stabOk, dC, ev, fillD, pickCells, putAt, bnd, slD, List.getElem?_cons_zero, List.getElem?_cons_succ, Mem.cell, Mem.row, cells_own, cells_ro]
        exact fin _ m3 (wrF s.mem s.addr.toNat s.tak.data) (byH od s.tak.data :: HT) [13, 10] proL h3 (by rw [wrF_len (by rw [hml]; omega)]; exact hml) (by simp [frA_at]) (by simp [frA_at]) (by simp) cat1 (by simp [proL]) hq
      · rw [if_neg (fun hh => by rw [hf] at hh; cases hh.2)] at hq
        simp -implicitDefEqProofs (disch := first | assumption | omega | fail) [wkB, retV, stabOk, dC, ev, fillD, pickCells, putAt, bnd, slD, List.getElem?_cons_zero, List.getElem?_cons_succ, Mem.cell, Mem.row, cells_own, cells_ro]
        exact fin _ m2 s.mem (byH od s.tak.data :: HT) [33, 13, 10] (33 :: proL) h2 hml (by simp [frA_at]) (by simp [frA_at]) (by simp) cat2 (by simp [proL]) hq
end Go.Proofs.YtiapjjgmmiifmaaGreatDoor.Ab

set_option linter.unusedVariables false
set_option linter.unusedSimpArgs false
namespace Go.Proofs.YtiapjjgmmiifmaaGreatDoor.Ab
open Go Go.RowKit
set_option maxHeartbeats 4000000
set_option maxRecDepth 100000
def Tak.isNo : Tak → Bool
  | .no => true
  | _ => false
theorem Tak.isNo_iff {k : Tak} : k.isNo = true ↔ k = .no := by cases k <;> simp [Tak.isNo]
noncomputable def tPutL : TgS → List UInt8 → List UInt8 → TgS × List UInt8
  | s, out, [] => (s, out)
  | s, out, c :: r => if s.tak.isNo = true then tPutL (putCF s c).1 (out ++ (putCF s c).2) r
    else ((ldF { s with tak := (s.tak.put (c :: r)).1 } (s.tak.put (c :: r)).2).1, out ++ (ldF { s with tak := (s.tak.put (c :: r)).1 } (s.tak.put (c :: r)).2).2)
noncomputable def tPutF (s : TgS) (b : List UInt8) : TgS × List UInt8 :=
  if s.tak.isNo = true then tPutL s [] b else ldF { s with tak := (s.tak.put b).1 } (s.tak.put b).2
theorem begF_sz (s : TgS) (k : Nat) (a : Int) : (begF s k a).tak.sz = 0 ∧ (begF s k a).reps = s.reps := by
  refine ⟨?_, rfl⟩
  unfold begF
  simp only
  split <;> rfl
theorem doesF_keep (s : TgS) (line : List UInt8) (hno : s.tak = .no) : (doesF s line).1.tak.sz = 0 ∧ (doesF s line).1.reps.length ≤ s.reps.length + 1 := by
  have h0 : s.tak.sz = 0 ∧ s.reps.length ≤ s.reps.length + 1 := ⟨by rw [hno]; rfl, by omega⟩
  unfold doesF
  split
  · rename_i w b c _
    split
    · rename_i s' hs
      unfold loadR at hs
      split at hs
      · split at hs
        · cases hs
          have := begF_sz s
          exact ⟨(this _ _).1, by rw [(this _ _).2]; omega⟩
        · cases hs
      · cases hs
    · split
      · exact ⟨h0.1, by simp⟩
      · exact h0
  · exact h0
theorem putCF_keep (s : TgS) (c : UInt8) (hno : s.tak = .no) : (putCF s c).1.tak.sz = 0 ∧ (putCF s c).1.reps.length ≤ s.reps.length + 1 ∧ (putCF s c).2.length ≤ 200 := by
  unfold putCF
  split
  · exact ⟨by simp [hno, Tak.sz], by simp, by simp [proL]⟩
  · split
    · have := doesF_keep { s with line := [] } s.line hno
      exact ⟨this.1, this.2, doesF_len _ _⟩
    · exact ⟨by simp [hno, Tak.sz], by simp, by simp⟩
theorem takPut_no {k : Tak} {b : List UInt8} (h : k ≠ .no) : (k.put b).1 ≠ .no := by
  cases k
  · exact absurd rfl h
  · simp [Tak.put]
  · simp [Tak.put]
theorem rOut (s : Rc) (b : List UInt8) : (rPutF s b).2.length ≤ 2 := by
  have hf : ∀ s, (finF s).2.length ≤ 2 := fun s => by unfold finF; split <;> simp
  have ht : ∀ s n d, (takeF s n d).2.length ≤ 2 := fun s n d => by
    unfold takeF
    split
    · exact hf _
    · split
      · simp
      · exact hf _
  unfold rPutF
  split
  · simp
  · unfold rPut1
    split
    · simp
    · split
      · simp
      · split
        · simp
        · unfold scaF
          split
          · simp
          · split
            · simp
            · exact ht _ _ _
theorem takPut_out (k : Tak) (b : List UInt8) : (k.put b).2.length ≤ 2 := by
  cases k with
  | no => simp [Tak.put]
  | plain r => exact rOut r b
  | files r =>
    simp only [Tak.put]
    unfold bPutF
    split
    · simp
    · exact rOut _ _
theorem aft_sz (s : Br) : (aftF s).part.data.length + (aftF s).part.buffer.length ≤ s.part.data.length + s.part.buffer.length := by
  unfold aftF
  split
  · exact Nat.le_refl _
  · split
    · exact Nat.le_refl _
    · split
      · split
        · exact Nat.le_refl _
        · simp [rOf]
      · split
        · split
          · exact Nat.le_refl _
          · simp [rOf]
        · split
          · exact Nat.le_refl _
          · exact Nat.le_refl _
theorem takPut_sz (k : Tak) (b : List UInt8) : (k.put b).1.sz ≤ k.sz + 1024 + b.length := by
  cases k with
  | no => simp [Tak.put, Tak.sz]
  | plain r =>
    have := rPutF_data r b
    simp only [Tak.put, Tak.sz]
    omega
  | files r =>
    simp only [Tak.put, Tak.sz]
    unfold bPutF
    split
    · simp only; omega
    · have h1 := aft_sz { r with part := (rPutF r.part b).1 }
      have h2 := rPutF_data r.part b
      simp only at h1 ⊢
      omega
theorem c_tgo {w0 : World} {V : Nat → Prop} {m0 M : Mem} {HT : HL} {it sp : Nat} {ol orr oo : Option Nat} {tv : Value} {s : TgS} {k : Tak} {o : List UInt8} {Q : Value → Mem → Prop} (h : Sep m0 V M ((byH oo o :: HT) ++ tgH it sp ol orr tv s)) (hT : TakR HT tv k) (hoo : oo = none → o.length = 0) (hne : k ≠ .no)
    (hol : ol = none → s.line.length = 0) (hor : orr = none → s.reps.length = 0) (hml : s.mem.length = 16384) (hll : s.line.length ≤ 80) (hbig : k.sz ≤ 140737488355328) (hol9 : o.length ≤ 1000000000) (hq : TgQ V m0 it (ldF { s with tak := k } o) Q) :
    AbC Tryz.prog w0 29 [.pointer (some ⟨it, 0, none⟩), slV oo o.length 1] M Q :=
  c_tloaded (s := { s with tak := k }) (h.perm (List.Perm.cons _ List.perm_append_comm)) hoo ⟨⟨sp, ol, orr, tv, HT, rfl, hT, hol, hor⟩, hml, hll⟩ hne hbig hol9 hq
theorem c_tReplies {w0 : World} {V : Nat → Prop} {m : Mem} {H : HL} {it : Nat} {s : TgS} {Q : Value → Mem → Prop} (h : Sep m V m H) (hR : TgR H it s) (hrl : s.reps.length ≤ 1000000000)
    (hq : ∀ oo M, Sep m V M (reH oo s.reps :: H) → (oo = none → s.reps.length = 0) → Q (slV oo s.reps.length 3) M) : AbC Tryz.prog w0 15 [.pointer (some ⟨it, 0, none⟩)] m Q := by
  refine AbC_fn ok15 (by simp) ?_
  obtain ⟨⟨sp, ol, orr, tv, HT, rfl, hT, hol, hor⟩, hml, hll⟩ := hR
  have g0 := h.get 0 rfl
  simp only [tgC] at g0
  have hO := (h.slO 3 (k := s.reps.length) (sz := 3) rfl (flat_len repC_len s.reps) hor).read
  simp -implicitDefEqProofs (disch := first | assumption | omega | fail) [rc15, ro15, wkB, retV, stabOk, dC, ev, fillD, pickCells, putAt, bnd, slD, List.getElem?_cons_zero, List.getElem?_cons_succ, Mem.cell, Mem.row, cells_own, cells_ro, g0]
  refine SK_nwS h (k := s.reps.length) (ys := s.reps.flatMap repC) (by simp [wkB, retV, stabOk, dC, ev, fillD, pickCells, putAt, bnd, slD, List.getElem?_cons_zero, List.getElem?_cons_succ, Mem.cell, Mem.row, cells_own, cells_ro]) (by simp [wkB, retV, stabOk, dC, ev, fillD, pickCells, putAt, bnd, slD, List.getElem?_cons_zero, List.getElem?_cons_succ, Mem.cell, Mem.row, cells_own, cells_ro]; exact hO.elems) (by simp [wkB, retV, stabOk, dC, ev, fillD, pickCells, putAt, bnd, slD, List.getElem?_cons_zero, List.getElem?_cons_succ, Mem.cell, Mem.row, cells_own, cells_ro]; exact hO.lenV) (rep_one s.reps) (by omega) (by unfold maxLen; omega) (flat_len repC_len s.reps) fun oo m1 h1 hn1 _ => ?_
  simp -implicitDefEqProofs (disch := first | assumption | omega | fail) [wkB, retV, stabOk, dC, ev, fillD, pickCells, putAt, bnd, slD, List.getElem?_cons_zero, List.getElem?_cons_succ, Mem.cell, Mem.row, cells_own, cells_ro]
  exact hq oo m1 h1 hn1
end Go.Proofs.YtiapjjgmmiifmaaGreatDoor.Ab

set_option linter.unusedVariables false
set_option maxRecDepth 100000
namespace Go.Proofs.YtiapjjgmmiifmaaGreatDoor.Ab
open Go Go.RowKit
theorem zst_eq : zst = List.replicate 16384 (.int .u8 0) := by kernel_rfl
end Go.Proofs.YtiapjjgmmiifmaaGreatDoor.Ab

set_option linter.unusedVariables false
set_option linter.unusedSimpArgs false
namespace Go.Proofs.YtiapjjgmmiifmaaGreatDoor.Ab
open Go Go.RowKit
set_option maxHeartbeats 4000000
set_option maxRecDepth 100000
def zmem : List UInt8 := List.replicate 16384 0
theorem zst_map : zst = zmem.map byteV := by
  rw [zst_eq, zmem, List.map_replicate]; rfl
theorem zmem_len : zmem.length = 16384 := by simp [zmem]
def tg0S (tr wt : Int) : TgS := ⟨zmem, tr, wt, true, [], .no, 0, []⟩
theorem c_tOf {w0 : World} {V : Nat → Prop} {m0 m : Mem} {l : HL} {tr wt : Int} {Q : Value → Mem → Prop} (h : Sep m0 V m l)
    (hq : ∀ it H M, Sep m0 V M (H ++ l) → TgR H it (tg0S tr wt) → Q (.pointer (some ⟨it, 0, none⟩)) M) : AbC Tryz.prog w0 10 [.agg ⟨[.int .i64 tr, .int .i64 wt]⟩] m Q := by
  refine AbC_fn ok10 (by simp) ?_
  have hz : ∀ ts : Fr, ∀ m' : Mem, dR ts m' (.bld zst []) = some (.agg ⟨zst⟩) := fun ts m' => by simp [dR, fillD]
  simp -implicitDefEqProofs (disch := first | assumption | omega | fail) [rc10, ro10, wkB, retV, stabOk, dC, ev, fillD, pickCells, putAt, bnd, slD, List.getElem?_cons_zero, List.getElem?_cons_succ, Mem.cell, Mem.row, cells_own, cells_ro, hz]
  refine SK_bxS h (cs := [.int .i64 tr, .int .i64 wt]) (by simp [wkB, retV, stabOk, dC, ev, fillD, pickCells, putAt, bnd, slD, List.getElem?_cons_zero, List.getElem?_cons_succ, Mem.cell, Mem.row, cells_own, cells_ro]) fun B m1 h1 _ _ => ?_
  have g1 := h1.get 0 rfl
  simp -implicitDefEqProofs (disch := first | assumption | omega | fail) [wkB, retV, stabOk, dC, ev, fillD, pickCells, putAt, bnd, slD, List.getElem?_cons_zero, List.getElem?_cons_succ, Mem.cell, Mem.row, cells_own, cells_ro, hz]
  refine SK_bxS h1 (cs := zmem.map byteV) (by simp [wkB, retV, stabOk, dC, ev, fillD, pickCells, putAt, bnd, slD, List.getElem?_cons_zero, List.getElem?_cons_succ, Mem.cell, Mem.row, cells_own, cells_ro]; exact zst_map) fun sp m2 h2 _ _ => ?_
  have g2 := h2.get 1 rfl
  simp -implicitDefEqProofs (disch := first | assumption | omega | fail) [wkB, retV, stabOk, dC, ev, fillD, pickCells, putAt, bnd, slD, List.getElem?_cons_zero, List.getElem?_cons_succ, Mem.cell, Mem.row, cells_own, cells_ro, g2]
  refine SK_bxS h2 (cs := tgC (tg0S tr wt) sp (.slice none 0 0) .nilIface (.slice none 0 0)) (by simp [wkB, retV, stabOk, dC, ev, fillD, pickCells, putAt, bnd, slD, List.getElem?_cons_zero, List.getElem?_cons_succ, Mem.cell, Mem.row, cells_own, cells_ro, tgC, tg0S]) fun it m3 h3 _ _ => ?_
  simp -implicitDefEqProofs (disch := first | assumption | omega | fail) [wkB, retV, stabOk, dC, ev, fillD, pickCells, putAt, bnd, slD, List.getElem?_cons_zero, List.getElem?_cons_succ, Mem.cell, Mem.row, cells_own, cells_ro]
  have h4 := ((h3.del 2).non (.own [] 44)).non (.own [] 5)
  refine hq it (tgH it sp none none .nilIface (tg0S tr wt) ++ []) m3 ?_ ⟨⟨sp, none, none, .nilIface, [], rfl, ⟨rfl, rfl⟩, fun _ => rfl, fun _ => rfl⟩, zmem_len, by simp [tg0S]⟩
  rw [List.append_nil]
  refine h4.perm ?_
  exact (List.perm_append_comm (l₁ := [(none, Ent.own [] 5), (none, Ent.own [] 44)]) (l₂ := [(some it, Ent.own (tgC (tg0S tr wt) sp (.slice none 0 0) .nilIface (.slice none 0 0)) 34), stH sp zmem])).append_right l
theorem c_tPutIn {w0 : World} {V : Nat → Prop} {m : Mem} {it : Nat} {v : Value} {b : List UInt8} {s0 : TgS} {fr : Fr} {Q : Value → Mem → Prop} (ht : Ten w0) (hE : ErrV w0) {H : HL} (h : Sep m V m H) (hR : TgR H it s0) (hno : s0.tak = .no) (hr : RdV V m 1 v (b.map byteV) b.length)
    (hb : b.length ≤ 4000000) (hrl : s0.reps.length + b.length ≤ 1000000000) (hq : TgQ V m it (tPutL s0 [] b) Q) (t0 : fr 0 = .pointer (some ⟨it, 0, none⟩)) (t1 : fr 1 = v) :
    AbW Tryz.prog w0 rc12_3 (bodyA [.mv (.tmp 4)] Q) fr m := by
  have hsl := hr.sl.slen
  simp -implicitDefEqProofs (disch := first | assumption | omega | fail) [rc12_3, wkB, retV, stabOk, dC, ev, fillD, pickCells, putAt, bnd, slD, List.getElem?_cons_zero, List.getElem?_cons_succ, Mem.cell, Mem.row, cells_own, cells_ro, t0, t1, hsl]
  refine LoopW_of (fun k ts m' => ∃ j sj oj obj Hj, j + k = b.length ∧ Sep m V m' (byH obj oj :: Hj) ∧ TgR Hj it sj ∧ (obj = none → oj.length = 0) ∧ oj.length ≤ 200 * j ∧ sj.reps.length ≤ s0.reps.length + j ∧ sj.tak.sz = 0 ∧ tPutL s0 [] b = tPutL sj oj (b.drop j) ∧
    ts 0 = .pointer (some ⟨it, 0, none⟩) ∧ ts 1 = v ∧ ts 5 = slV obj oj.length 1 ∧ ts 21 = v ∧ ts 22 = .int .i64 (b.length : Nat) ∧ ts 23 = .int .i64 (j : Nat)) b.length ?_ ?_
  · exact ⟨0, s0, [], none, H, by omega, h.non _, hR, fun _ => rfl, by simp, by omega, by rw [hno]; rfl, by simp, by simp [t0], by simp [t1], by simp [slV], by simp, by simp, by simp⟩
  · rintro k ts m1 K ⟨j, sj, oj, obj, Hj, hj, h1, hRj, hobj, holj, hrlj, hszj, heq, t0, t1, t5, t21, t22, t23⟩ hK
    by_cases hjl : j < b.length
    · have hj8 : (j : Int) < (b.length : Nat) := by omega
      have hrv := hr.sep h1
      obtain ⟨i, o, L, e1, e2, e3, e4, e5, e6⟩ := hrv.ex (by omega)
      have hc : L[o + j]? = some (byteV (b.getD j 0)) := (e4 j hjl).trans (byte_at hjl)
      simp only [byteV] at hc
      have hidx : sidx 1 v (.int .i64 (j : Int)) = some (.pointer (some ⟨i, o + j, none⟩)) := by rw [e1]; simpa using sidx_at (b := i) (o := o) (n := b.length) (c := 1) (j := j) (sz := 1) (k := .i64) hjl
      have w1 : IntKind.i64.wrap ((j : Int) + 1) = (j : Int) + 1 := w64 (by omega)
      have hdrop : b.drop j = b.getD j 0 :: b.drop (j + 1) := by
        rw [List.drop_eq_getElem_cons hjl, List.getD_eq_getElem?_getD, List.getElem?_eq_getElem hjl]; rfl
      have hRj0 := hRj
      obtain ⟨⟨sp, ol, orr, tv, HT, rfl, hT, hol, hor⟩, hml, hll⟩ := hRj
      have g1 := h1.get 1 rfl
      simp only [tgC] at g1
      cases hnk : sj.tak.isNo with
      | true =>
        have hkn := Tak.isNo_iff.1 hnk
        rw [hdrop, tPutL, if_pos hnk] at heq
        rw [hkn] at hT
        obtain ⟨rfl, rfl⟩ := hT
        generalize b.getD j 0 = c at *
        simp -implicitDefEqProofs (disch := first | assumption | omega | fail) [rc12_1, rc12_0, wkB, retV, stabOk, dC, ev, fillD, pickCells, putAt, bnd, slD, List.getElem?_cons_zero, List.getElem?_cons_succ, Mem.cell, Mem.row, cells_own, cells_ro, t0, t1, t5, t21, t22, t23, hj8, hidx, e2, hc, getL1 hc, g1]
        have hkeep := putCF_keep sj c hkn
        have h1' := h1.rot1
        refine c_tput ht hE h1'.fr hRj0 hkn (by omega) fun oo H2 M2 hM hR2 hoo => ?_
        have h2 := h1'.un hM
        generalize putCF sj c = r at *
        have hO := (h2.slO 0 (k := r.2.length) (sz := 1) rfl (by simp) hoo).read
        simp -implicitDefEqProofs (disch := first | assumption | omega | fail) [wkB, retV, stabOk, dC, ev, fillD, pickCells, putAt, bnd, slD, List.getElem?_cons_zero, List.getElem?_cons_succ, Mem.cell, Mem.row, cells_own, cells_ro, t5, t23]
        have h3 : Sep m V M2 (byH obj oj :: (byH oo r.2 :: H2)) := h2.perm (List.perm_append_comm (l₁ := byH oo r.2 :: H2) (l₂ := [byH obj oj]))
        refine SK_apS h3 0 (n := oj.length) (k := r.2.length) (ys := r.2.map byteV) rfl (by simp [wkB, retV, stabOk, dC, ev, fillD, pickCells, putAt, bnd, slD, List.getElem?_cons_zero, List.getElem?_cons_succ, Mem.cell, Mem.row, cells_own, cells_ro, t5]) (by simp) hobj (by simp [wkB, retV, stabOk, dC, ev, fillD, pickCells, putAt, bnd, slD, List.getElem?_cons_zero, List.getElem?_cons_succ, Mem.cell, Mem.row, cells_own, cells_ro]; exact hO.elems) (by simp [wkB, retV, stabOk, dC, ev, fillD, pickCells, putAt, bnd, slD, List.getElem?_cons_zero, List.getElem?_cons_succ, Mem.cell, Mem.row, cells_own, cells_ro]; exact hO.lenV) (byteV_oneC _) (by omega) (by unfold maxLen; omega) (by simp) fun ob4 m4 h4 hn4 _ => ?_
        simp -implicitDefEqProofs (disch := first | assumption | omega | fail) [wkB, retV, stabOk, dC, ev, fillD, pickCells, putAt, bnd, slD, List.getElem?_cons_zero, List.getElem?_cons_succ, Mem.cell, Mem.row, cells_own, cells_ro, t23, w1]
        have e7 : oj.map byteV ++ r.2.map byteV = (oj ++ r.2).map byteV := by simp
        rw [e7] at h4
        refine hK (k - 1) _ _ (by omega) ⟨j + 1, r.1, oj ++ r.2, ob4, H2, by omega, h4.del 1, hR2, fun e => by have := hn4 e; simp only [List.length_append]; omega, by simp only [List.length_append]; omega, by omega, hkeep.1, heq, by simp [t0], by simp [t1], by simp, by simp [t21], by simp [t22], by simp⟩
      | false =>
        have hkn : sj.tak ≠ .no := fun e => by rw [e] at hnk; cases hnk
        rw [hdrop, tPutL, if_neg (by rw [hnk]; simp), ← hdrop] at heq
        rw [heq] at hq
        have htv : ∃ t x, tv = .iface t x := by
          cases hs : sj.tak with
          | no => exact absurd hs hkn
          | plain r => rw [hs] at hT; obtain ⟨ir, rfl, -⟩ := hT; exact ⟨_, _, rfl⟩
          | files r => rw [hs] at hT; obtain ⟨ir, rfl, -⟩ := hT; exact ⟨_, _, rfl⟩
        obtain ⟨tt, tx, rfl⟩ := htv
        obtain ⟨v2, hv2, hr2, hb2⟩ := hrv.sl.behind (k := j) (by omega)
        rw [Nat.mul_one, ← List.map_drop] at hr2
        have hdl : (b.drop j).length = b.length - j := by simp
        rw [← hdl] at hr2
        have hrv2 : RdV V m1 1 v2 ((b.drop j).map byteV) (b.drop j).length := ⟨hr2, fun x hx => hrv.bl x (hb2 x hx)⟩
        generalize b.getD j 0 = c at *
        generalize b.drop j = bj at *
        simp -implicitDefEqProofs (disch := first | assumption | omega | fail) [rc12_1, rc12_0, wkB, retV, stabOk, dC, ev, fillD, pickCells, putAt, bnd, slD, List.getElem?_cons_zero, List.getElem?_cons_succ, Mem.cell, Mem.row, cells_own, cells_ro, t0, t1, t5, t21, t22, t23, hj8, hidx, e2, hc, getL1 hc, g1, hv2]
        have h1' : Sep m V m1 (HT ++ (byH obj oj :: tgH it sp ol orr (.iface tt tx) sj)) := h1.perm (List.perm_append_comm (l₁ := byH obj oj :: tgH it sp ol orr (.iface tt tx) sj) (l₂ := HT))
        have hsz := takPut_sz sj.tak bj
        have hso := takPut_out sj.tak bj
        refine call_takPut ht hE h1'.fr hT hkn (hrv2.mono fun _ _ hx => .inl hx) (by omega) (by simp [wkB, retV, stabOk, dC, ev, fillD, pickCells, putAt, bnd, slD, List.getElem?_cons_zero, List.getElem?_cons_succ, Mem.cell, Mem.row, cells_own, cells_ro]) (by simp [wkB, retV, stabOk, dC, ev, fillD, pickCells, putAt, bnd, slD, List.getElem?_cons_zero, List.getElem?_cons_succ, Mem.cell, Mem.row, cells_own, cells_ro]) fun oo HT2 M hM hT2 hoo => ?_
        have h2 := h1'.un hM
        have h3 : Sep m V M (((byH oo (sj.tak.put bj).2 :: HT2) ++ tgH it sp ol orr (.iface tt tx) sj) ++ [byH obj oj]) := h2.perm (by
          rw [List.append_assoc]
          exact List.Perm.append_left _ (List.perm_append_comm (l₁ := [byH obj oj]) (l₂ := tgH it sp ol orr (.iface tt tx) sj)))
        simp -implicitDefEqProofs (disch := first | assumption | omega | fail) [wkB, retV, stabOk, dC, ev, fillD, pickCells, putAt, bnd, slD, List.getElem?_cons_zero, List.getElem?_cons_succ, Mem.cell, Mem.row, cells_own, cells_ro]
        refine c_tgo h3.fr hT2 hoo (takPut_no hkn) hol hor hml hll (by omega) (by omega) fun oo3 H3 M3 hM3 hR3 hoo3 => ?_
        have h4 : Sep m V M3 (byH obj oj :: (byH oo3 _ :: H3)) := (h3.un hM3).perm (List.perm_append_comm (l₂ := [byH obj oj]))
        have hldl : ∀ s o, (ldF s o).2.length ≤ o.length + 6 := fun s o => by
          unfold ldF
          split
          · simp
          · split
            · simp [proL]
            · simp [proL]
        have hld := hldl { sj with tak := (sj.tak.put bj).1 } (sj.tak.put bj).2
        generalize ldF { sj with tak := (sj.tak.put bj).1 } (sj.tak.put bj).2 = r at *
        have hO := (h4.slO 1 (k := r.2.length) (sz := 1) rfl (by simp) hoo3).read
        simp -implicitDefEqProofs (disch := first | assumption | omega | fail) [wkB, retV, stabOk, dC, ev, fillD, pickCells, putAt, bnd, slD, List.getElem?_cons_zero, List.getElem?_cons_succ, Mem.cell, Mem.row, cells_own, cells_ro]
        refine SK_apS h4 0 (n := oj.length) (k := r.2.length) (ys := r.2.map byteV) rfl (by simp [wkB, retV, stabOk, dC, ev, fillD, pickCells, putAt, bnd, slD, List.getElem?_cons_zero, List.getElem?_cons_succ, Mem.cell, Mem.row, cells_own, cells_ro]) (by simp) hobj (by simp [wkB, retV, stabOk, dC, ev, fillD, pickCells, putAt, bnd, slD, List.getElem?_cons_zero, List.getElem?_cons_succ, Mem.cell, Mem.row, cells_own, cells_ro]; exact hO.elems) (by simp [wkB, retV, stabOk, dC, ev, fillD, pickCells, putAt, bnd, slD, List.getElem?_cons_zero, List.getElem?_cons_succ, Mem.cell, Mem.row, cells_own, cells_ro]; exact hO.lenV) (byteV_oneC _) (by omega) (by unfold maxLen; omega) (by simp) fun ob5 m5 h5 hn5 _ => ?_
        simp -implicitDefEqProofs (disch := first | assumption | omega | fail) [wkB, retV, stabOk, dC, ev, fillD, pickCells, putAt, bnd, slD, List.getElem?_cons_zero, List.getElem?_cons_succ, Mem.cell, Mem.row, cells_own, cells_ro]
        have e7 : oj.map byteV ++ r.2.map byteV = (oj ++ r.2).map byteV := by simp
        rw [e7] at h5
        have := hq ob5 H3 m5 (h5.del 1) hR3 (fun e => by simp only [List.length_append]; exact hn5 e)
        simp only [List.length_append] at this
        exact this
    · have hjj : j = b.length := by omega
      subst hjj
      have hj8 : ¬ ((b.length : Nat) : Int) < (b.length : Nat) := by omega
      rw [List.drop_length, tPutL] at heq
      rw [heq] at hq
      simp -implicitDefEqProofs (disch := first | assumption | omega | fail) [rc12_1, rc12_2, wkB, retV, stabOk, dC, ev, fillD, pickCells, putAt, bnd, slD, List.getElem?_cons_zero, List.getElem?_cons_succ, Mem.cell, Mem.row, cells_own, cells_ro, t5, t22, t23, hj8]
      exact hq obj Hj m1 h1 hRj hobj
theorem c_tPut {w0 : World} {V : Nat → Prop} {m : Mem} {H : HL} {it : Nat} {v : Value} {b : List UInt8} {s : TgS} {Q : Value → Mem → Prop} (ht : Ten w0) (hE : ErrV w0) (h : Sep m V m H) (hR : TgR H it s) (hr : RdV V m 1 v (b.map byteV) b.length)
    (hb : b.length ≤ 4000000) (hrl : s.reps.length + b.length ≤ 1000000000) (hbig : s.tak.sz ≤ 1000000000000) (hq : TgQ V m it (tPutF s b) Q) :
    AbC Tryz.prog w0 12 [.pointer (some ⟨it, 0, none⟩), v] m Q := by
  refine AbC_fn ok12 (by simp) ?_
  have hR0 := hR
  obtain ⟨⟨sp, ol, orr, tv, HT, rfl, hT, hol, hor⟩, hml, hll⟩ := hR
  have g0 := h.get 0 rfl
  simp only [tgC] at g0
  unfold tPutF at hq
  cases hnk : s.tak.isNo with
  | true =>
    rw [if_pos hnk] at hq
    have hkn := Tak.isNo_iff.1 hnk
    rw [hkn] at hT
    obtain ⟨rfl, rfl⟩ := hT
    simp -implicitDefEqProofs (disch := first | assumption | omega | fail) [rc12, ro12, wkB, retV, stabOk, dC, ev, fillD, pickCells, putAt, bnd, slD, List.getElem?_cons_zero, List.getElem?_cons_succ, Mem.cell, Mem.row, cells_own, cells_ro, g0]
    exact c_tPutIn ht hE h hR0 hkn hr hb hrl hq (by simp [frA_at]) (by simp [frA_at])
  | false =>
    rw [if_neg (by rw [hnk]; simp)] at hq
    have hkn : s.tak ≠ .no := fun e => by rw [e] at hnk; cases hnk
    have htv : ∃ t x, tv = .iface t x := by
      cases hs : s.tak with
      | no => exact absurd hs hkn
      | plain r => rw [hs] at hT; obtain ⟨ir, rfl, -⟩ := hT; exact ⟨_, _, rfl⟩
      | files r => rw [hs] at hT; obtain ⟨ir, rfl, -⟩ := hT; exact ⟨_, _, rfl⟩
    obtain ⟨tt, tx, rfl⟩ := htv
    have h1' : Sep m V m (HT ++ tgH it sp ol orr (.iface tt tx) s) := h.perm List.perm_append_comm
    have hsz := takPut_sz s.tak b
    have hso := takPut_out s.tak b
    simp -implicitDefEqProofs (disch := first | assumption | omega | fail) [rc12, ro12, wkB, retV, stabOk, dC, ev, fillD, pickCells, putAt, bnd, slD, List.getElem?_cons_zero, List.getElem?_cons_succ, Mem.cell, Mem.row, cells_own, cells_ro, g0]
    refine call_takPut ht hE h1'.fr hT hkn (hr.mono fun _ _ hx => .inl hx) (by omega) (by simp [wkB, retV, stabOk, dC, ev, fillD, pickCells, putAt, bnd, slD, List.getElem?_cons_zero, List.getElem?_cons_succ, Mem.cell, Mem.row, cells_own, cells_ro]) (by simp [wkB, retV, stabOk, dC, ev, fillD, pickCells, putAt, bnd, slD, List.getElem?_cons_zero, List.getElem?_cons_succ, Mem.cell, Mem.row, cells_own, cells_ro, frA_at]) fun oo HT2 M hM hT2 hoo => ?_
    simp -implicitDefEqProofs (disch := first | assumption | omega | fail) [wkB, retV, stabOk, dC, ev, fillD, pickCells, putAt, bnd, slD, List.getElem?_cons_zero, List.getElem?_cons_succ, Mem.cell, Mem.row, cells_own, cells_ro]
    refine c_tgo (h1'.un hM) hT2 hoo (takPut_no hkn) hol hor hml hll (by omega) (by omega) fun oo2 H2 M2 h2 hR2 hoo2 => ?_
    simp -implicitDefEqProofs (disch := first | assumption | omega | fail) [wkB, retV, stabOk, dC, ev, fillD, pickCells, putAt, bnd, slD, List.getElem?_cons_zero, List.getElem?_cons_succ, Mem.cell, Mem.row, cells_own, cells_ro]
    exact hq oo2 H2 M2 h2 hR2 hoo2
end Go.Proofs.YtiapjjgmmiifmaaGreatDoor.Ab

set_option linter.unusedVariables false
set_option linter.unusedSimpArgs false
namespace Go.Proofs.YtiapjjgmmiifmaaGreatDoor.Ab
open Go Go.RowKit
set_option maxHeartbeats 4000000
set_option maxRecDepth 100000
theorem fold_push : ∀ (l a : List UInt8), a.length ≤ 80 → l.foldl pushL a = (a ++ l).take 80
  | [], a, h => by simp [List.take_of_length_le h]
  | c :: l, a, h => by
    rw [List.foldl_cons]
    by_cases h2 : a.length < 80
    · have e : pushL a c = a ++ [c] := by unfold pushL; rw [if_pos h2]
      rw [e, fold_push l (a ++ [c]) (by simp; omega)]
      simp
    · have e : pushL a c = a := by unfold pushL; rw [if_neg h2]
      rw [e, fold_push l a h, List.take_append_of_le_length (by omega), List.take_append_of_le_length (by omega)]
theorem tPutL_chars : ∀ (l : List UInt8) (s : TgS) (out r : List UInt8), s.tak = .no → s.asleep = false → (∀ c ∈ l, c ≠ 13) → tPutL s out (l ++ r) = tPutL { s with line := l.foldl pushL s.line } out r
  | [], s, out, r, _, _, _ => rfl
  | c :: l, s, out, r, hno, ha, hl => by
    have hc : putCF s c = ({ s with line := pushL s.line c }, []) := by
      unfold putCF
      rw [if_neg (by rw [ha]; simp), if_neg (hl c (by simp))]
    rw [List.cons_append, tPutL, if_pos (by rw [hno]; rfl), hc, List.append_nil]
    exact tPutL_chars l { s with line := pushL s.line c } out r hno ha fun x hx => hl x (by simp [hx])
theorem tPutL_line {l : List UInt8} {s : TgS} {out : List UInt8} (hno : s.tak = .no) (ha : s.asleep = false) (hl : ∀ c ∈ l, c ≠ 13) (hs : s.line = []) (h80 : l.length ≤ 80) :
    tPutL s out (l ++ [13]) = ((doesF s l).1, out ++ (doesF s l).2) := by
  rw [tPutL_chars l s out [13] hno ha hl, tPutL, if_pos (by simp [hno, Tak.isNo]), tPutL]
  have e1 : l.foldl pushL s.line = l := by
    rw [hs, fold_push l [] (by simp), List.nil_append, List.take_of_length_le h80]
  have e2 : ({ s with line := [] } : TgS) = s := by
    obtain ⟨a, b, c, d, e, f, g, i⟩ := s
    simp only at hs
    subst hs
    rfl
  rw [e1]
  unfold putCF
  rw [if_neg (by simp [ha]), if_pos rfl]
  simp only
  rw [e2]
theorem words_three {a b c : List UInt8} (ha : (32 : UInt8) ∉ a) (hb : (32 : UInt8) ∉ b) (hc : (32 : UInt8) ∉ c) : words 32 (a ++ 32 :: (b ++ 32 :: c)) = [a, b, c] := by
  unfold words
  have e : (a ++ 32 :: (b ++ 32 :: c)).count 32 = 2 := by
    rw [List.count_append, List.count_cons_self, List.count_append, List.count_cons_self, List.count_eq_zero.2 ha, List.count_eq_zero.2 hb, List.count_eq_zero.2 hc]
  rw [e, splitK_hit ha, splitK_hit hb, splitK_zero]
theorem hex_mem (n : Nat) : ∀ c ∈ digs 16 n, c ≠ 32 ∧ c ≠ 13 ∧ c ≠ 115 := by
  have hd : ∀ d : Fin 36, digC d.val ≠ 32 ∧ digC d.val ≠ 13 := by decide +kernel
  have hd2 : ∀ d : Fin 16, digC d.val ≠ 115 := by decide +kernel
  induction n using Nat.strongRecOn with
  | _ n ih =>
    intro c hc
    by_cases h : n < 16
    · rw [digs_lt h] at hc
      simp only [List.mem_cons, List.not_mem_nil, or_false] at hc
      subst hc
      exact ⟨(hd ⟨n, by omega⟩).1, (hd ⟨n, by omega⟩).2, hd2 ⟨n, h⟩⟩
    · rw [digs_ge (by omega) (by omega)] at hc
      rcases List.mem_append.1 hc with hc | hc
      · exact ih (n / 16) (Nat.div_lt_self (by omega) (by omega)) c hc
      · simp only [List.mem_cons, List.not_mem_nil, or_false] at hc
        subst hc
        have : n % 16 < 16 := Nat.mod_lt _ (by omega)
        exact ⟨(hd ⟨n % 16, by omega⟩).1, (hd ⟨n % 16, by omega⟩).2, hd2 ⟨n % 16, this⟩⟩
theorem hex_len {n : Nat} (h : n < 4294967296) : (digs 16 n).length ≤ 17 := by
  have := num16 (i := n) (by omega)
  rwa [numS_nat] at this
def askT (a n : Nat) : List UInt8 := sum3 ++ 32 :: (digs 16 a ++ 32 :: digs 16 n)
theorem ask_eq (a n : Nat) : askL a n = askT a n ++ [13] := by
  simp [askL, askT, numS_nat, sumW, sum3]
theorem does_ask {s : TgS} {a n : Nat} (ha : a < 4294967296) (hn : n < 4294967296) :
    doesF s (askT a n) = if fitsF a n = true then ({ s with reps := s.reps ++ [((a : Int), (n : Int), prN ((s.mem.drop a).take n))] }, lineL a n (prN ((s.mem.drop a).take n)) ++ [61, 62, 32]) else (s, qryL) := by
  unfold doesF askT
  rw [words_three (by decide) (fun h => (hex_mem a 32 h).1 rfl) (fun h => (hex_mem n 32 h).1 rfl)]
  have hl : loadR s sum3 (digs 16 a) (digs 16 n) = none := by unfold loadR; rw [if_neg (by decide)]
  simp only [hl]
  unfold sumR
  rw [if_pos rfl, hexN_digs ha, hexN_digs hn]
  simp only
  by_cases hf : fitsF a n = true
  · rw [if_pos hf, if_pos hf]
  · rw [if_neg hf, if_neg hf]
    simp only
    unfold elseF
    rw [if_neg (by simp [sum3])]
theorem tPut_ask {s : TgS} {a n : Nat} (ha : a < 4294967296) (hn : n < 4294967296) (hno : s.tak = .no) (has : s.asleep = false) (hs : s.line = []) : tPutF s (askL a n) = doesF s (askT a n) := by
  unfold tPutF
  have la := hex_len ha
  have ln := hex_len hn
  rw [if_pos (by rw [hno]; rfl), ask_eq, tPutL_line hno has ?_ hs (by simp [askT, sum3]; omega)]
  · rfl
  · intro c hc
    simp only [askT, List.mem_append, List.mem_cons] at hc
    rcases hc with hc | hc | hc | hc | hc
    · revert c; decide
    · subst hc; decide
    · exact (hex_mem a c hc).2.1
    · subst hc; decide
    · exact (hex_mem n c hc).2.1
end Go.Proofs.YtiapjjgmmiifmaaGreatDoor.Ab

set_option linter.unusedVariables false
set_option linter.unusedSimpArgs false
namespace Go.Proofs.YtiapjjgmmiifmaaGreatDoor.Ab
open Go Go.RowKit
set_option maxHeartbeats 4000000
set_option maxRecDepth 100000
theorem rem64 {a b : Nat} (hb : 0 < b) : dBin .rem (.int .i64 (a : Int)) (.int .i64 (b : Int)) = some (.int .i64 ((a % b : Nat) : Int)) := by
  rw [dBin_rem (by omega), Int.tmod_eq_emod_of_nonneg (by omega)]; rfl
theorem dEq_rep {a n : Int} {p : Int} : dEq (.recd [(0, 0, .int), (1, 0, .int), (2, 0, .int)]) (.agg ⟨[.int .i64 a, .int .i64 n, .int .u32 p]⟩) (.agg ⟨[.int .i64 a, .int .i64 n, .int .u32 p]⟩) = some true := by
  unfold dEq dEqs; simp [dEqs, dEq, pickCells]
theorem l_Sums {w0 : World} {m : Mem} {v : Value} {b : List UInt8} {x z : Nat} (hp : Part L0 m) (ht : Ten w0) (hE : ErrV w0) (hv : SlR m 1 v (b.map byteV) b.length) (hvb : ∀ i, blk v = some i → i < m.next) (hx : x < 65536) (hz : z < 65536) :
    AbC Tryz.prog w0 3 [.int .u16 (x : Int), v, .int .u16 (z : Int)] m fun u _ => u = .bool true := by
  refine AbC_fn ok3 (by simp) ?_
  simp -implicitDefEqProofs (disch := first | assumption | omega | fail) [rc3, ro3, wkB, retV, stabOk, dC, ev, fillD, pickCells, putAt, bnd, slD, List.getElem?_cons_zero, List.getElem?_cons_succ, Mem.cell, Mem.row, cells_own, cells_ro]
  refine c_awake hp ?_
  have hr : RdV (fun i => i < m.next) m 1 v (b.map byteV) b.length := ⟨hv, fun i hi => ⟨hvb i hi, hvb i hi⟩⟩
  simp -implicitDefEqProofs (disch := first | assumption | omega | fail) [wkB, retV, stabOk, dC, ev, fillD, pickCells, putAt, bnd, slD, List.getElem?_cons_zero, List.getElem?_cons_succ, Mem.cell, Mem.row, cells_own, cells_ro, rc3_2]
  refine c_tOf (Sep.ofOld hp) fun it H m1 h1 hR1 => ?_
  rw [List.append_nil] at h1
  obtain ⟨⟨sp, ol, orr, tv, HT, rfl, hT, hol, hor⟩, hml, hll⟩ := hR1
  obtain ⟨rfl, rfl⟩ : HT = [] ∧ tv = .nilIface := hT
  rw [List.append_nil] at h1
  have g1 := h1.get 0 rfl
  simp only [tgC, tg0S] at g1
  have wx : IntKind.i64.wrap (x : Int) = (x : Int) := w64 (by omega)
  have wz : IntKind.i64.wrap (z : Int) = (z : Int) := w64 (by omega)
  have r1 : dBin .rem (.int .i64 (x : Int)) (.int .i64 17000) = some (.int .i64 ((x % 17000 : Nat) : Int)) := rem64 (b := 17000) (by omega)
  have r2 : dBin .rem (.int .i64 (z : Int)) (.int .i64 1000) = some (.int .i64 ((z % 1000 : Nat) : Int)) := rem64 (b := 1000) (by omega)
  have r3 : dBin .rem (.int .i64 (x : Int)) (.int .i64 16000) = some (.int .i64 ((x % 16000 : Nat) : Int)) := rem64 (b := 16000) (by omega)
  have la : x % 17000 < 17000 := Nat.mod_lt _ (by omega)
  have ln : z % 1000 < 1000 := Nat.mod_lt _ (by omega)
  have lc : x % 16000 < 16000 := Nat.mod_lt _ (by omega)
  generalize x % 17000 = a at *
  generalize z % 1000 = n at *
  generalize x % 16000 = c at *
  have hr1 := hr.sep h1
  have hsl := hr1.sl.slen
  obtain ⟨k, hk⟩ : ∃ k, min b.length 300 = k := ⟨_, rfl⟩
  have hmn : (if (300 : Int) < (b.length : Int) then (300 : Int) else (b.length : Int)) = (k : Int) := by split <;> omega
  obtain ⟨v2, hv2, hrv2, hbv2⟩ := hr1.sl.upto (k := k) (by omega)
  rw [Nat.mul_one, ← List.map_take] at hrv2
  have hkl : (b.take k).length = k := by simp; omega
  simp -implicitDefEqProofs (disch := first | assumption | omega | fail) [wkB, retV, stabOk, dC, ev, fillD, pickCells, putAt, bnd, slD, List.getElem?_cons_zero, List.getElem?_cons_succ, Mem.cell, Mem.row, cells_own, cells_ro, wx, wz, r1, r2, r3, g1, hsl, hmn, hv2]
  refine c_sWrite (b := b.take k) (X := fun i => i < m.next) h1 1 rfl zmem_len (by rw [hkl]; exact ⟨hrv2, fun i hi => hr1.bl i (hbv2 i hi)⟩) (fun hf m2 h2 => ?_) fun hf => ?_
  case refine_2 =>
    rw [hkl] at hf
    exfalso
    have : fitsF (c : Int) (k : Int) = true := by simp only [fitsF, decide_eq_true_eq]; omega
    rw [this] at hf; cases hf
  simp only [Int.toNat_natCast] at h2
  obtain ⟨mm, hmm⟩ : ∃ mm, wrF zmem c (b.take k) = mm := ⟨_, rfl⟩
  have hmml : mm.length = 16384 := by rw [← hmm, wrF_len (by rw [zmem_len, hkl]; omega), zmem_len]
  simp only [tg0S] at h2
  rw [hmm] at h2
  obtain ⟨s2, hs2⟩ : ∃ s2 : TgS, s2 = ⟨mm, 0, 0, true, [], .no, 0, []⟩ := ⟨_, rfl⟩
  have hR2 : TgR (tgH it sp ol orr .nilIface s2 ++ []) it s2 := ⟨⟨sp, ol, orr, .nilIface, [], rfl, by rw [hs2]; exact ⟨rfl, rfl⟩, by rw [hs2]; exact hol, by rw [hs2]; exact hor⟩, by rw [hs2]; exact hmml, by rw [hs2]; simp⟩
  have h2 : Sep m (fun i => i < m.next) m2 (tgH it sp ol orr .nilIface s2 ++ []) := by rw [hs2]; exact h2
  generalize tgH it sp ol orr .nilIface s2 ++ [] = H2 at *
  clear hmm
  simp -implicitDefEqProofs (disch := first | assumption | omega | fail) [wkB, retV, stabOk, dC, ev, fillD, pickCells, putAt, bnd, slD, List.getElem?_cons_zero, List.getElem?_cons_succ, Mem.cell, Mem.row, cells_own, cells_ro, rc3_1]
  refine SK_bslS h2 (cs := ([0] : List UInt8).map byteV) (by simp [fillD, pickCells, wkB, retV, stabOk, dC, ev, fillD, pickCells, putAt, bnd, slD, List.getElem?_cons_zero, List.getElem?_cons_succ, Mem.cell, Mem.row, cells_own, cells_ro, byteV]) rfl fun x0 m3 h3 _ _ => ?_
  have h3' := h3.rot1
  simp -implicitDefEqProofs (disch := first | assumption | omega | fail) [wkB, retV, stabOk, dC, ev, fillD, pickCells, putAt, bnd, slD, List.getElem?_cons_zero, List.getElem?_cons_succ, Mem.cell, Mem.row, cells_own, cells_ro]
  refine c_tPut (b := [0]) ht hE h3'.fr hR2 (h3'.rdm (ob := some x0) (List.mem_append_right _ (List.mem_singleton.2 rfl)) rfl (fun e => by cases e) (fun i hi => .inr ⟨_, List.mem_singleton.2 rfl, hi⟩)) (by simp) (by rw [hs2]; simp) (by rw [hs2]; simp [Tak.sz]) fun o4 H4 m4 h4 hR4 _ => ?_
  have h4 := ((h3'.un h4).sub (List.sublist_append_left _ _)).tl
  obtain ⟨s4, hs4⟩ : ∃ s4 : TgS, s4 = ⟨mm, 0, 0, false, [], .no, 0, []⟩ := ⟨_, rfl⟩
  have e4 : (tPutF s2 [0]).1 = s4 := by rw [hs2, hs4]; rfl
  rw [e4] at hR4
  simp -implicitDefEqProofs (disch := first | assumption | omega | fail) [wkB, retV, stabOk, dC, ev, fillD, pickCells, putAt, bnd, slD, List.getElem?_cons_zero, List.getElem?_cons_succ, Mem.cell, Mem.row, cells_own, cells_ro]
  refine c_Ask h4.pt ht (by omega) (by omega) fun m5 o5 => ?_
  have h5 := h4.old o5
  have hal : (askL a n).length ≤ 60 := by
    have l1 := num16 (i := (a : Int)) (by omega)
    have l2 := num16 (i := (n : Int)) (by omega)
    simp [askL, sumW]; omega
  simp -implicitDefEqProofs (disch := first | assumption | omega | fail) [wkB, retV, stabOk, dC, ev, fillD, pickCells, putAt, bnd, slD, List.getElem?_cons_zero, List.getElem?_cons_succ, Mem.cell, Mem.row, cells_own, cells_ro]
  refine SK_s2bS h5 (s := askL a n) (by simp [wkB, retV, stabOk, dC, ev, fillD, pickCells, putAt, bnd, slD, List.getElem?_cons_zero, List.getElem?_cons_succ, Mem.cell, Mem.row, cells_own, cells_ro]) (by omega) fun x5 m6 h6 _ _ => ?_
  have h6' := h6.rot1
  have hAB := tPut_ask (s := s4) (a := a) (n := n) (by omega) (by omega) (by rw [hs4]) (by rw [hs4]) (by rw [hs4])
  rw [does_ask (by omega) (by omega)] at hAB
  simp -implicitDefEqProofs (disch := first | assumption | omega | fail) [wkB, retV, stabOk, dC, ev, fillD, pickCells, putAt, bnd, slD, List.getElem?_cons_zero, List.getElem?_cons_succ, Mem.cell, Mem.row, cells_own, cells_ro]
  refine c_tPut (b := askL a n) ht hE h6'.fr hR4 (h6'.rdm (ob := some x5) (List.mem_append_right _ (List.mem_singleton.2 rfl)) (by simp) (fun e => by cases e) (fun i hi => .inr ⟨_, List.mem_singleton.2 rfl, hi⟩)) (by omega) (by rw [hs4]; simp; omega) (by rw [hs4]; simp [Tak.sz]) fun o7 H7 m7 h7 hR7 ho7 => ?_
  have h7 := (h6'.un h7).sub (List.sublist_append_left _ _)
  rw [hAB] at h7 hR7 ho7 ⊢
  have hfz : s4.reps = [] ∧ s4.mem = mm := by rw [hs4]; exact ⟨rfl, rfl⟩
  rw [hfz.1, hfz.2] at h7 hR7 ho7 ⊢
  clear hAB
  cases hf2 : fitsF (a : Int) (n : Int) with
  | false =>
    rw [hf2] at h7 hR7 ho7
    simp only [Bool.false_eq_true, if_false] at h7 hR7 ho7 ⊢
    have hb7 : bstr m7 (slV o7 qryL.length 1) = some (.string ⟨⟨qryL⟩⟩) := SlR.txt (h7.slm (List.mem_cons_self ..) (by simp) ho7).read
    have hR7' := hR7
    obtain ⟨⟨sp7, ol7, or7, tv7, HT7, rfl, hT7, hol7, hor7⟩, hml7, hll7⟩ := hR7'
    have g7 := h7.get 1 rfl
    simp only [tgC] at g7
    have e9 : (qryL == ([63, 13, 10, 61, 62, 32] : List UInt8)) = true := rfl
    simp -implicitDefEqProofs (disch := first | assumption | omega | fail) [wkB, retV, stabOk, dC, ev, fillD, pickCells, putAt, bnd, slD, List.getElem?_cons_zero, List.getElem?_cons_succ, Mem.cell, Mem.row, cells_own, cells_ro, hb7, g7]
    refine c_sRead h7 2 rfl hml7 (fun hh => by rw [hf2] at hh; cases hh) fun _ => ?_
    simp -implicitDefEqProofs (disch := first | assumption | omega | fail) [wkB, retV, stabOk, dC, ev, fillD, pickCells, putAt, bnd, slD, List.getElem?_cons_zero, List.getElem?_cons_succ, Mem.cell, Mem.row, cells_own, cells_ro, e9]
    refine c_tReplies h7.tl.self hR7 (by rw [hfz.1]; simp) fun o8 m8 h8 hn8 => ?_
    rw [hfz.1] at h8 hn8 ⊢
    have hs8 : slen (slV o8 0 3) = some (.int .i64 ((0 : Nat) : Int)) := (h8.slO 0 (k := 0) (sz := 3) rfl rfl (fun _ => rfl)).slen
    simp -implicitDefEqProofs (disch := first | assumption | omega | fail) [wkB, retV, stabOk, dC, ev, fillD, pickCells, putAt, bnd, slD, List.getElem?_cons_zero, List.getElem?_cons_succ, Mem.cell, Mem.row, cells_own, cells_ro, hs8]
  | true =>
    rw [hf2] at h7 hR7 ho7
    simp only [if_true, List.nil_append] at h7 hR7 ho7 ⊢
    have hpl := prN_lt ((mm.drop a).take n)
    obtain ⟨s7, hs7⟩ : ∃ s7 : TgS, { s4 with mem := mm, reps := [((a : Int), (n : Int), prN ((mm.drop a).take n))] } = s7 := ⟨_, rfl⟩
    have hs7m : s7.mem = mm ∧ s7.reps = [((a : Int), (n : Int), prN ((mm.drop a).take n))] := by rw [← hs7, hs4]; exact ⟨rfl, rfl⟩
    rw [hs7] at hR7
    clear hs7
    obtain ⟨T, hTl⟩ : ∃ T, lineL a n (prN ((mm.drop a).take n)) ++ [61, 62, 32] = T := ⟨_, rfl⟩
    rw [hTl] at h7 ho7 ⊢
    have hb7 : bstr m7 (slV o7 T.length 1) = some (.string ⟨⟨T⟩⟩) := SlR.txt (h7.slm (List.mem_cons_self ..) (by simp) ho7).read
    have hR7' := hR7
    obtain ⟨⟨sp7, ol7, or7, tv7, HT7, rfl, hT7, hol7, hor7⟩, hml7, hll7⟩ := hR7'
    have g7 := h7.get 1 rfl
    simp only [tgC] at g7
    simp -implicitDefEqProofs (disch := first | assumption | omega | fail) [wkB, retV, stabOk, dC, ev, fillD, pickCells, putAt, bnd, slD, List.getElem?_cons_zero, List.getElem?_cons_succ, Mem.cell, Mem.row, cells_own, cells_ro, hb7, g7]
    refine c_sRead h7 2 rfl hml7 (fun _ o8 m8 h8 hn8 => ?_) fun hh => by rw [hf2] at hh; cases hh
    rw [hs7m.1] at h8
    have h8len : ((mm.drop a).take n).length = n := by
      simp only [fitsF, decide_eq_true_eq] at hf2
      rw [List.length_take, List.length_drop, hmml]; omega
    simp only [Int.toNat_natCast] at h8 hn8 ⊢
    simp -implicitDefEqProofs (disch := first | assumption | omega | fail) [wkB, retV, stabOk, dC, ev, fillD, pickCells, putAt, bnd, slD, List.getElem?_cons_zero, List.getElem?_cons_succ, Mem.cell, Mem.row, cells_own, cells_ro, rc3_0]
    refine c_Print h8.pt (b := (mm.drop a).take n) (X := fun i => i < m8.next) (by rw [h8len]; exact h8.rd 0 rfl (by rw [List.length_map, h8len, Nat.mul_one]) hn8 fun i hi => by subst hi; exact h8.lt 0 rfl) (by omega) fun m9 o9 => ?_
    have h9 := h8.old o9
    generalize prN ((mm.drop a).take n) = pr at *
    simp -implicitDefEqProofs (disch := first | assumption | omega | fail) [wkB, retV, stabOk, dC, ev, fillD, pickCells, putAt, bnd, slD, List.getElem?_cons_zero, List.getElem?_cons_succ, Mem.cell, Mem.row, cells_own, cells_ro]
    refine SK_alS h9 fun x10 m10 h10 _ _ => ?_
    simp -implicitDefEqProofs (disch := first | assumption | omega | fail) [wkB, retV, stabOk, dC, ev, fillD, pickCells, putAt, bnd, slD, List.getElem?_cons_zero, List.getElem?_cons_succ, Mem.cell, Mem.row, cells_own, cells_ro]
    refine SK_stS h10 0 rfl (o := 0) (vs := repC ((a : Int), (n : Int), pr)) (cs' := repC ((a : Int), (n : Int), pr)) (by simp [wkB, retV, stabOk, dC, ev, fillD, pickCells, putAt, bnd, slD, List.getElem?_cons_zero, List.getElem?_cons_succ, Mem.cell, Mem.row, cells_own, cells_ro]) (by simp [wkB, retV, stabOk, dC, ev, fillD, pickCells, putAt, bnd, slD, List.getElem?_cons_zero, List.getElem?_cons_succ, Mem.cell, Mem.row, cells_own, cells_ro, repC]) (by simp) rfl rfl rfl fun m11 h11 _ => ?_
    have g11 := h11.get 0 rfl
    simp only [repC] at g11
    simp -implicitDefEqProofs (disch := first | assumption | omega | fail) [wkB, retV, stabOk, dC, ev, fillD, pickCells, putAt, bnd, slD, List.getElem?_cons_zero, List.getElem?_cons_succ, Mem.cell, Mem.row, cells_own, cells_ro, g11]
    refine c_Line h11.pt ht (by omega) (by omega) hpl fun m12 o12 => ?_
    have h12 := h11.old o12
    have hcat := catB (lineL a n pr) [61, 62, 32] (by
      have := line_len (a := a) (n := n) (p := pr) (by omega) (by omega) hpl
      simp; omega)
    rw [hTl] at hcat
    have hcat : dBin .add (.string ⟨⟨lineL a n pr⟩⟩) (.string ⟨#[61, 62, 32]⟩) = some (.string ⟨⟨T⟩⟩) := hcat
    have eTT : (T == T) = true := by simp
    simp -implicitDefEqProofs (disch := first | assumption | omega | fail) [wkB, retV, stabOk, dC, ev, fillD, pickCells, putAt, bnd, slD, List.getElem?_cons_zero, List.getElem?_cons_succ, Mem.cell, Mem.row, cells_own, cells_ro, hcat]
    have h13 := h12.perm (List.perm_append_comm (l₁ := [_, _, _]))
    have hl7 : s7.reps.length = 1 := by rw [hs7m.2]; rfl
    refine c_tReplies (h13.fr) hR7 (by omega) fun o14 m14 h14 hn14 => ?_
    have hs14 : slen (slV o14 s7.reps.length 3) = some (.int .i64 ((s7.reps.length : Nat) : Int)) := (h14.slO 0 (k := s7.reps.length) (sz := 3) rfl (flat_len repC_len _) hn14).slen
    rw [hl7] at hs14
    rw [hl7]
    have h15 := (h13.un h14).tl
    have g15 := h15.mem (i := x10) (E := .own (repC ((a : Int), (n : Int), pr)) 44) (List.mem_append_right _ (List.mem_cons_self ..))
    simp only [repC] at g15
    simp -implicitDefEqProofs (disch := first | assumption | omega | fail) [wkB, retV, stabOk, dC, ev, fillD, pickCells, putAt, bnd, slD, List.getElem?_cons_zero, List.getElem?_cons_succ, Mem.cell, Mem.row, cells_own, cells_ro, hs14, g15]
    refine c_tReplies (h15.fr) hR7 (by omega) fun o16 m16 h16 hn16 => ?_
    rw [hl7] at hn16
    rw [hl7]
    have h17 := h15.un h16
    have g17 := h17.mem (i := x10) (E := .own (repC ((a : Int), (n : Int), pr)) 44) (List.mem_append_right _ (List.mem_cons_self ..))
    simp only [repC] at g17
    cases o16 with
    | none => exact absurd (hn16 rfl) (by simp)
    | some q =>
      have g18 := h16.get 0 rfl
      have hfl : s7.reps.flatMap repC = [.int .i64 (a : Int), .int .i64 (n : Int), .int .u32 (pr : Int)] := by rw [hs7m.2]; rfl
      rw [hfl] at g18
      have i18 : sidx 3 (slV (some q) 1 3) (.int .i64 0) = some (.pointer (some ⟨q, 0, none⟩)) := rfl
      simp -implicitDefEqProofs (disch := first | assumption | omega | fail) [wkB, retV, stabOk, dC, ev, fillD, pickCells, putAt, bnd, slD, List.getElem?_cons_zero, List.getElem?_cons_succ, Mem.cell, Mem.row, cells_own, cells_ro, g17, i18, g18, dEq_rep]
theorem l_SumsI {w0 : World} {m : Mem} {v : Value} {b : List UInt8} {x z : Int} (h1 : (Lit.int .u16 x).wf = true) (h2 : (Lit.int .u16 z).wf = true) (hp : Part L0 m) (ht : Ten w0) (hE : ErrV w0) (hv : SlR m 1 v (b.map byteV) b.length) (hvb : ∀ i, blk v = some i → i < m.next) :
    AbC Tryz.prog w0 3 [.int .u16 x, v, .int .u16 z] m fun u _ => u = .bool true := by
  have a1 := wf_u16 h1
  have a2 := wf_u16 h2
  obtain ⟨x, rfl⟩ : ∃ n : Nat, x = (n : Int) := ⟨x.toNat, by omega⟩
  obtain ⟨z, rfl⟩ : ∃ n : Nat, z = (n : Int) := ⟨z.toNat, by omega⟩
  exact l_Sums hp ht hE hv hvb (by omega) (by omega)
end Go.Proofs.YtiapjjgmmiifmaaGreatDoor.Ab

namespace Go.Proofs.YtiapjjgmmiifmaaGreatDoor.targetSums
open Go Go.ChangeShapes Go.WideShapes Go.ChangeAt Go.RowKit Go.Proofs.YtiapjjgmmiifmaaGreatDoor.Ab
set_option linter.unusedVariables false
theorem own : ownKnob Tryz.prog.godebug = none := by kernel_rfl
theorem laidOut : laidOutB Tryz.prog = true := by kernel_rfl
set_option maxRecDepth 100000 in
theorem contract (H : Type) (enc : TypeId × Value → H) (W : World) (base : Nat) (args : Array Value) (ds gs : List (DataW H)) (before : List MemPlace)
    (hval : ∀ (j : Nat) t v, Tryz.f3.params[j]? = some t → args[j]? = some v → Value.okWide Tryz.prog W .any base t v)
    (hW : DataW.Whole enc Tryz.prog Tryz.f3.params.toList Rows.targetSumsSpec.vars false W args.toList ds gs before) (hL : laidMetH Tryz.prog Rows.targetSumsRow.laid W) :
    Calls Tryz.prog 3 args W fun e W' => ∃ v, e = .returned v ∧ Rows.targetSumsSpec.post enc Tryz.prog Tryz.f3 false true false false W args v W' := by
  have hW' := hW
  have hL' : laidMet Tryz.prog Rows.targetSumsRow.laid W := hL
  obtain ⟨p, q, hA0, hV, rfl, hfz, hnd⟩ := hW
  have hA : DataW.TrodAll enc Tryz.prog W 0 (fun _ => true) true Tryz.f3.params.toList args.toList ds p := hA0
  rw [Tryz.params3] at hA hval
  obtain ⟨v0, vs0, d0, ds0, p0, q0, hargs, rfl, rfl, h0, r0⟩ := trodAll_cons hA
  obtain ⟨v1, vs1, d1, ds1, p1, q1, rfl, rfl, rfl, h1, r1⟩ := trodAll_cons r0
  obtain ⟨v2, vs2, d2, ds2, p2, q2, rfl, rfl, rfl, h2, r2⟩ := trodAll_cons r1
  obtain ⟨rfl, rfl, rfl⟩ := trodAll_nil r2
  obtain rfl : args = #[v0, v1, v2] := by cases args; simp_all
  obtain ⟨rfl, rfl⟩ := trodVars_none hV
  obtain ⟨a0, rfl⟩ := okWide_int Tryz.underlying22 (hval 0 22 v0 rfl rfl)
  have lt0 : ∀ x ∈ p0, x.block < W.heap.size := by obtain ⟨m, hm⟩ := h0; exact DataW.trod_lt m _ _ _ hm
  obtain ⟨a1, len1, cap1, rfl⟩ := okWide_slice Tryz.underlying23 (hval 1 23 v1 rfl rfl)
  have lt1 : ∀ x ∈ p1, x.block < W.heap.size := by obtain ⟨m, hm⟩ := h1; exact DataW.trod_lt m _ _ _ hm
  obtain ⟨a2, rfl⟩ := okWide_int Tryz.underlying22 (hval 2 22 v2 rfl rfl)
  have lt2 : ∀ x ∈ p2, x.block < W.heap.size := by obtain ⟨m, hm⟩ := h2; exact DataW.trod_lt m _ _ _ hm
  have s : St Tryz.prog W (G0 Tryz.prog) (toMem L0) W := St.laid globals_size L0_get laid_ok (laidIn hL' (List.mem_of_getElem? (i := 0) rfl) (List.mem_of_getElem? (i := 1) rfl) (List.mem_of_getElem? (i := 2) rfl))
  have hp : Part L0 (toMem L0) := Part.of L0_part (Nat.le_refl _) fun _ _ => rfl
  obtain ⟨G0, m0, x0, t0, g0, s0, u0, b0, f0, k0⟩ := arg_one (k := 5) (s := .int .u16) (by kernel_rfl) h0 rfl s
  have hp := g0.part hp
  obtain ⟨G1, m1, x1, t1, g1, s1, u1, b1, f1, k1⟩ := arg_one (k := 5) (s := (.sl (.int .u8))) (by kernel_rfl) h1 rfl s0
  have hp := g1.part hp
  have b0 := b0.mono g1.2.1 g1.2.2
  have u0 := u0.mono g1.1
  obtain ⟨G2, m2, x2, t2, g2, s2, u2, b2, f2, k2⟩ := arg_one (k := 5) (s := .int .u16) (by kernel_rfl) h2 rfl s1
  have hp := g2.part hp
  have b0 := b0.mono g2.2.1 g2.2.2
  have u0 := u0.mono g2.1
  have b1 := b1.mono g2.2.1 g2.2.2
  have u1 := u1.mono g2.1
  refine (AbC_true s2 (.cons _ _ _ _ u0 (.cons _ _ _ _ u1 (.cons _ _ _ _ u2 .nil))) ((by obtain ⟨n1, hx1, -, w1⟩ := absT_int b0 f0; cases hx1; obtain ⟨bs, c1, d1, l1⟩ := absT_bys b1 f1; obtain ⟨n2, hx2, -, w2⟩ := absT_int b2 f2; cases hx2; exact l_SumsI w1 w2 hp (ten_of hL' (List.mem_of_getElem? (i := 2) rfl)) (errV_of hL' (List.mem_of_getElem? (i := 5) rfl) (List.mem_of_getElem? (i := 4) rfl)) c1 d1)) (by kernel_rfl)).mono fun e W' ⟨he, bel⟩ => ?_
  subst he
  exact ⟨_, rfl, _, _, _, [], _, [], hW', trodAll_mk1 (shut_bool Tryz.underlying4 _), (trodAll_cons_mk (Below.trod laidOut (by kernel_rfl) (of_decide_eq_true (by kernel_rfl)) h0 bel lt0) (trodAll_cons_mk (Below.trod laidOut (by kernel_rfl) (of_decide_eq_true (by kernel_rfl)) h1 bel lt1) (trodAll_cons_mk (Below.trod laidOut (by kernel_rfl) (of_decide_eq_true (by kernel_rfl)) h2 bel lt2) trodAll_mk0))), rfl, bel.frame _, fun h => by cases h⟩
noncomputable def laidWorld (os : Os) : World :=
  let N := (World.settled Tryz.prog os).heap.size
  { World.holding Tryz.prog os ⟨#[.cells #[.string ⟨#[118, 97, 108, 117, 101, 32, 111, 117, 116, 32, 111, 102, 32, 114, 97, 110, 103, 101]⟩] 190, .cells #[.string ⟨#[105, 110, 118, 97, 108, 105, 100, 32, 115, 121, 110, 116, 97, 120]⟩] 190], #[], []⟩ with heap := ((((((((World.holding Tryz.prog os ⟨#[.cells #[.string ⟨#[118, 97, 108, 117, 101, 32, 111, 117, 116, 32, 111, 102, 32, 114, 97, 110, 103, 101]⟩] 190, .cells #[.string ⟨#[105, 110, 118, 97, 108, 105, 100, 32, 115, 121, 110, 116, 97, 120]⟩] 190], #[], []⟩).heap.modify 1 fun | .cells _ t frozen => .cells ⟨e32⟩ t frozen | o => o).modify 2 fun | .cells _ t frozen => .cells ⟨e64⟩ t frozen | o => o).modify 0 fun | .cells _ t frozen => .cells ⟨e10⟩ t frozen | o => o).modify 5 fun | .cells _ t frozen => .cells #[.iface 188 (.pointer (some ⟨N, 0, none⟩))] t frozen | o => o).modify 4 fun | .cells _ t frozen => .cells #[.iface 188 (.pointer (some ⟨N + 1, 0, none⟩))] t frozen | o => o).modify 6 fun | .cells _ t frozen => .cells ⟨Go.Pinned.utf8FirstZ.map fun (n : Nat) => Value.int .u8 (n : Int)⟩ t frozen | o => o).modify 7 fun | .cells _ t frozen => .cells ⟨([128, 191, 160, 191, 128, 159, 144, 191, 128, 143] ++ List.replicate 22 0 : List Int).map fun (n : Int) => Value.int .u8 n⟩ t frozen | o => o) }
theorem laid_met (os : Os) : laidMet Tryz.prog Rows.targetSumsRow.laid ((laidWorld os).forCall (fun _ _ => 0) ⟨#[], #[(.int .u16 0 : Value), (.slice none 0 0 : Value), (.int .u16 0 : Value)], []⟩).memory :=
  laidMet_of_run' 8 (by kernel_rfl) (by kernel_rfl)
theorem reads (os : Os) {H : Type} (enc : TypeId × Value → H) : ∃ places, DataW.whole enc Tryz.prog ((laidWorld os).forCall (fun _ _ => 0) ⟨#[], #[(.int .u16 0 : Value), (.slice none 0 0 : Value), (.int .u16 0 : Value)], []⟩).memory Tryz.f3.params.toList Rows.targetSumsSpec.vars false [(.int .u16 0 : Value), (.slice none 0 0 : Value), (.int .u16 0 : Value)] 8 = some ([.lit (.int .u16 0), .nil, .lit (.int .u16 0)], [], places) :=
  ⟨[], by kernel_rfl⟩
set_option maxRecDepth 100000 in
theorem lifted (os : Os) (started : os.Started) (H : Type) (enc : TypeId × Value → H) (F : Stop.Interp) :
    ReturnsInHanded {} Tryz.checked os 3 .any ((OpenSpec.ofChange Rows.targetSumsSpec).preRow enc Tryz.prog Tryz.f3 Rows.targetSumsRow.domain false Rows.targetSumsRow.laid) (((OpenSpec.ofChange Rows.targetSumsSpec).at F).post enc Tryz.prog Tryz.f3 false true false false) := by
  obtain ⟨places, hx⟩ := reads os enc
  refine returnsInHanded_of_row (C := Tryz.checked) (s := (OpenSpec.ofChange Rows.targetSumsSpec)) own started (by kernel_rfl) Tryz.func3
    (witness_row_atRef (enc := enc) (C := Tryz.checked) false (laidWorld os) #[(.int .u16 0 : Value), (.slice none 0 0 : Value), (.int .u16 0 : Value)] rfl (by kernel_rfl) (by kernel_rfl) (by kernel_rfl)
      (OpenSpec.preRow_of_cond 8 hx (by kernel_rfl) (fun k hk => by cases hk) (by kernel_rfl) (laid_met os))) ?_
  intro W base args ds gs before hval hW _ _ _ hL _ _
  exact contract H enc W base args ds gs before hval hW hL
theorem over : Rows.TargetSumsSaid :=
  OpenClaim.holds_of_cond 3 Tryz.f3 rfl rfl rfl rfl rfl rfl rfl ⟨rfl, rfl, rfl, rfl, rfl⟩ rfl rfl rfl rfl rfl (by kernel_rfl) Tryz.func3 (by kernel_rfl)
    (of_decide_eq_true (by kernel_rfl)) (by unfold Func.isWrapper; first | (rw [if_pos (by decide +kernel)]; kernel_rfl) | (rw [if_neg (by decide +kernel)]; exact ⟨rfl, rfl⟩))
    (fun os started H enc _ F => by rw [OpenClaim.pre_eq_preRow]; exact lifted os started H enc F)
theorem plain (f : FuncId) (fn : Func) (hf : Tryz.pinned.checked.prog.funcNamed "lifeline/lifelinelaw20.TargetSums" = some f) (hfn : Tryz.pinned.checked.prog.funcs[f]? = some fn) :
    true = Tryz.pinned.checked.prog.looks [] ∧ ∀ (j : Nat) t, fn.params[j]? = some t → Tryz.pinned.checked.prog.wantsStandIn t = false := by
  obtain rfl : f = 3 := Option.some.inj ((show Tryz.prog.funcNamed "lifeline/lifelinelaw20.TargetSums" = some 3 by kernel_rfl).symm.trans hf) |>.symm
  obtain rfl : fn = Tryz.f3 := (Option.some.inj (Tryz.func3.symm.trans hfn)).symm
  refine ⟨by kernel_rfl, fun j t ht => ?_⟩
  rw [Tryz.params3] at ht
  have hall : ∀ t ∈ [22, 23, 22], Tryz.prog.wantsStandIn t = false := by
    intro t ht
    simp only [List.mem_cons, List.mem_nil_iff, or_false] at ht
    rcases ht with rfl | rfl | rfl <;> kernel_rfl
  exact hall t (by simpa using Array.mem_of_getElem? ht)
theorem proved : Rows.TargetSumsCardSaid :=
  Claim7.holds_tied_plain_at .later [] _ _ _ _ over (fun _ h => by cases h) (by kernel_rfl) (fun _ h => by cases h) targetSums_row_tie rfl ⟨rfl, rfl⟩ (by kernel_rfl) rfl plain (by kernel_rfl)
#print axioms proved
end Go.Proofs.YtiapjjgmmiifmaaGreatDoor.targetSums
