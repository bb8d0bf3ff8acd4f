/- The law DialogBack, as its statement says it: for every input; the listed variables hold what the program's text lays. -/
import Derived.Test.YtjlicambfepfiaaGreatDoorKDb5
import Derived.Test.YtjlicambfepfiaaGreatDoorProg
import Derived.WalkKit
import Derived.LaidEql
import Derived.Stop.Asserts
import Derived.RowKitTokens
import Derived.KernelRfl
import Derived.Test.YtjlicambfepfiaaGreatDoorCards
import Derived.Test.YtjlicambfepfiaaGreatDoorTie
import Derived.ProofKit
import Derived.OpenShut
import Derived.JoinedCond
import Derived.ChangeOld
import Derived.Deep.DeepHandedRow
import Derived.Deep.DeepWitnessRowRef
set_option linter.unusedVariables false
set_option linter.unusedSimpArgs false
namespace Go.Proofs.YtjlicambfepfiaaGreatDoor.Ab
open Go Go.RowKit
set_option maxHeartbeats 4000000
set_option maxRecDepth 100000
def SameD (a b : DS) : Prop := b = { a with pl := b.pl }
def SameL (l k : List DV) : Prop := l.length = k.length ∧ ∀ (i : Nat) (a b : DV), l[i]? = some a → k[i]? = some b → SameD a.1 b.1
def frT : List Nat := [0, 1, 14, 15, 16]
theorem w_sameA {w0 : World} {Q : AQ} {fr : Fr} {m : Mem} {i6 i7 : Nat} {a : DS} {p : Int} {av bv : Value} (ha : ArmV m (a, av)) (hb : ArmV m ({ a with pl := p }, bv)) (hw : a.arms.length ≤ 1099511627776)
    (g6 : m.get i6 = .own (dsC a av) 29) (g7 : m.get i7 = .own (dsC { a with pl := p } bv) 29)
    (t6 : fr 6 = .pointer (some ⟨i6, 0, none⟩)) (t7 : fr 7 = .pointer (some ⟨i7, 0, none⟩))
    (hq : ∀ fr', (∀ k ∈ frT, fr' k = fr k) → Q .normal fr' m) : AbW Tryz.prog w0 rc23_5 Q fr m := by
  obtain ⟨lb, kd, tx, arms, n, to, pl⟩ := a
  have g6 : m.get i6 = .own [.string ⟨⟨lb⟩⟩, .int .i64 kd, .string ⟨⟨tx⟩⟩, av, .int .i64 n, .string ⟨⟨to⟩⟩, .int .i64 pl] 29 := g6
  have g7 : m.get i7 = .own [.string ⟨⟨lb⟩⟩, .int .i64 kd, .string ⟨⟨tx⟩⟩, bv, .int .i64 n, .string ⟨⟨to⟩⟩, .int .i64 p] 29 := g7
  have sa : SlR m 2 av (arms.flatMap Arm.cells) arms.length := ha.sl
  have sb : SlR m 2 bv (arms.flatMap Arm.cells) arms.length := hb.sl
  simp only at hw
  simp -implicitDefEqProofs (disch := first | assumption | (simp only [wnA]; done) | (simp only [wnA]; omega) | omega | fail) [rc23_5, rc23_4, wkA, retV, stabOk, dC, ev, fillD, pickCells, putAt, bnd, slD, List.getElem?_cons_zero, List.getElem?_cons_succ, dR.eq_20, Mem.cell, Mem.row, wmA, t6, t7, g6, g7, sa.slen, sb.slen, bne]
  refine LoopW_of (fun k ts m' => ∃ j, j + k = arms.length ∧ m' = m ∧ ts 6 = fr 6 ∧ ts 7 = fr 7 ∧ (∀ q ∈ frT, ts q = fr q) ∧ ts 71 = .int .i64 (arms.length : Nat) ∧ ts 72 = .int .i64 (j : Nat)) arms.length ?_ ?_
  · exact ⟨0, by omega, rfl, by simp, by simp, (fun q hq => by
      simp only [frT, List.mem_cons, List.not_mem_nil, or_false] at hq
      rcases hq with rfl | rfl | rfl | rfl | rfl <;> simp), by simp, by simp⟩
  · rintro k ts m1 K ⟨j, hj, rfl, e6, e7, ef, t71, t72⟩ hK
    simp -implicitDefEqProofs (disch := first | assumption | (simp only [wnA]; done) | (simp only [wnA]; omega) | omega | fail) [rc23_3, wkA, retV, stabOk, dC, ev, fillD, pickCells, putAt, bnd, slD, List.getElem?_cons_zero, List.getElem?_cons_succ, dR.eq_20, Mem.cell, Mem.row, wmA, t71, t72]
    by_cases hjl : j < arms.length
    · obtain ⟨bi, bo, L, hvv, hL, hLl, hLt, -⟩ := sa.at hjl
      obtain ⟨ci, co, L', hvv', hL', hLl', hLt', -⟩ := sb.at hjl
      rw [flat_at arl arms (List.getElem?_eq_getElem hjl)] at hLt hLt'
      obtain ⟨⟨pt, tt⟩, hx⟩ : ∃ a, arms[j] = a := ⟨_, rfl⟩
      rw [hx] at hLt hLt'
      have hLt : (L.drop (bo + j * 2)).take 2 = [.string ⟨⟨pt⟩⟩, .string ⟨⟨tt⟩⟩] := hLt
      have hLt' : (L'.drop (co + j * 2)).take 2 = [.string ⟨⟨pt⟩⟩, .string ⟨⟨tt⟩⟩] := hLt'
      have hle : bo + j * 2 + 2 ≤ L.length := by omega
      have hle' : co + j * 2 + 2 ≤ L'.length := by omega
      have hjw : IntKind.i64.wrap ((j : Int) + 1) = ((j + 1 : Nat) : Int) := by rw [w64 (by omega)]; omega
      rw [hvv] at g6
      rw [hvv'] at g7
      have hde : dEq (.recd [(0, 0, .str), (1, 0, .str)]) (.agg ⟨[.string ⟨⟨pt⟩⟩, .string ⟨⟨tt⟩⟩]⟩) (.agg ⟨[.string ⟨⟨pt⟩⟩, .string ⟨⟨tt⟩⟩]⟩) = some true := by simp [dEq, dEqs, pickCells]
      simp -implicitDefEqProofs (disch := first | assumption | (simp only [wnA]; done) | (simp only [wnA]; omega) | omega | fail) [hde, hjw, hjl, rc23_2, wkA, retV, stabOk, dC, ev, fillD, pickCells, putAt, bnd, slD, List.getElem?_cons_zero, List.getElem?_cons_succ, dR.eq_20, Mem.cell, Mem.row, wmA, e6, e7, t6, t7, g6, g7, t71, t72, sidx_at, hL, hLt, hle, hL', hLt', hle']
      exact hK (k - 1) _ _ (by omega) ⟨j + 1, by omega, rfl, by simp [e6], by simp [e7], (fun q hq => by
        have := ef q hq
        simp only [frT, List.mem_cons, List.not_mem_nil, or_false] at hq
        rcases hq with rfl | rfl | rfl | rfl | rfl <;> simp [this]), by simp [t71], by simp⟩
    · simp -implicitDefEqProofs (disch := first | assumption | (simp only [wnA]; done) | (simp only [wnA]; omega) | omega | fail) [hjl, wkA, retV, stabOk, dC, ev, fillD, pickCells, putAt, bnd, slD, List.getElem?_cons_zero, List.getElem?_cons_succ, dR.eq_20, Mem.cell, Mem.row, wmA]
      exact hq _ (fun q hq => by
        have := ef q hq
        simp only [frT, List.mem_cons, List.not_mem_nil, or_false] at hq
        rcases hq with rfl | rfl | rfl | rfl | rfl <;> simp [this])
theorem putAt_all {cs vs : List Value} (h : vs.length = cs.length) : putAt cs 0 vs = vs := by
  simp [putAt, h]
theorem c_Same {w0 : World} {m : Mem} {u v : Value} {l k : List DV} {Q : Value → Mem → Prop} (hu : DsV m u l) (hv : DsV m v k) (hs : SameL l k) (hl : wT l ≤ 1099511627776) (hq : ∀ m', Old m m' → Q (.bool true) m') :
    AbC Tryz.prog w0 23 [u, v] m Q := by
  refine AbC_fn ok23 (by simp) ?_
  have hll := wT_len l
  have hsl := hs.1
  simp -implicitDefEqProofs (disch := first | assumption | (simp only [wnA]; done) | (simp only [wnA]; omega) | omega | fail) [rc23, ro23, wkA, retV, stabOk, dC, ev, fillD, pickCells, putAt, bnd, slD, List.getElem?_cons_zero, List.getElem?_cons_succ, dR.eq_20, Mem.cell, Mem.row, wmA, hu.sl.slen, hv.sl.slen, hsl, bne, rc23_9]
  rw [← hsl]
  refine LoopW_of (fun n ts m' => ∃ j, j + n = l.length ∧ Old m m' ∧ ts 0 = u ∧ ts 1 = v ∧ ts 15 = .int .i64 (l.length : Nat) ∧ ts 16 = .int .i64 (j : Nat)) l.length ?_ ?_
  · exact ⟨0, by omega, Old.refl m, by simp [frA_at], by simp [frA_at], by simp, by simp⟩
  · rintro n ts m1 K ⟨j, hj, o1, t0, t1, t15, t16⟩ hK
    simp -implicitDefEqProofs (disch := first | assumption | (simp only [wnA]; done) | (simp only [wnA]; omega) | omega | fail) [rc23_7, wkA, retV, stabOk, dC, ev, fillD, pickCells, putAt, bnd, slD, List.getElem?_cons_zero, List.getElem?_cons_succ, dR.eq_20, Mem.cell, Mem.row, wmA, t15, t16]
    by_cases hjl : j < l.length
    · have hu1 := hu.old o1
      have hv1 := hv.old o1
      have hjk : j < k.length := by omega
      obtain ⟨bi, bo, L, hvv, hL, hLl, hLt, -⟩ := hu1.sl.at hjl
      obtain ⟨ci, co, L', hvv', hL', hLl', hLt', -⟩ := hv1.sl.at hjk
      rw [flat_at vC_len l (List.getElem?_eq_getElem hjl)] at hLt
      rw [flat_at vC_len k (List.getElem?_eq_getElem hjk)] at hLt'
      obtain ⟨⟨a, av⟩, hx⟩ : ∃ x, l[j] = x := ⟨_, rfl⟩
      obtain ⟨⟨b, bv⟩, hy⟩ : ∃ x, k[j] = x := ⟨_, rfl⟩
      have hab : SameD a b := hs.2 j (a, av) (b, bv) (by rw [List.getElem?_eq_getElem hjl, hx]) (by rw [List.getElem?_eq_getElem hjk, hy])
      obtain ⟨p, rfl⟩ : ∃ p, b = { a with pl := p } := ⟨_, hab⟩
      have hxa : ArmV m1 (a, av) := hu1.ar _ (by rw [← hx]; exact List.getElem_mem hjl)
      have hya : ArmV m1 ({ a with pl := p }, bv) := hv1.ar _ (by rw [← hy]; exact List.getElem_mem hjk)
      have hw : a.arms.length ≤ 1099511627776 := by
        have h1 := wT_succ hjl
        have h2 := wT_take l (j + 1)
        have h3 := wArms_len a.arms
        rw [hx] at h1
        simp only [wD] at h1
        omega
      rw [hx] at hLt
      rw [hy] at hLt'
      have hle : bo + j * 7 + 7 ≤ L.length := by omega
      have hle' : co + j * 7 + 7 ≤ L'.length := by omega
      have hjw : IntKind.i64.wrap ((j : Int) + 1) = ((j + 1 : Nat) : Int) := by rw [w64 (by omega)]; omega
      have hix : sidx 7 u (.int .i64 (j : Int)) = some (.pointer (some ⟨bi, bo + j * 7, none⟩)) := by rw [hvv]; exact sidx_at hjl
      have hiy : sidx 7 v (.int .i64 (j : Int)) = some (.pointer (some ⟨ci, co + j * 7, none⟩)) := by rw [hvv']; exact sidx_at hjk
      have hbi : bi < m1.next := hu1.bl bi (by rw [hvv]; rfl)
      have hci : ci < m1.next := hv1.bl ci (by rw [hvv']; rfl)
      have oa := hxa.sl.one
      have ob := hya.sl.one
      obtain ⟨C, hC⟩ : ∃ C, dsC a av = C := ⟨_, rfl⟩
      obtain ⟨D, hD⟩ : ∃ D, dsC { a with pl := p } bv = D := ⟨_, rfl⟩
      have hLt : (L.drop (bo + j * 7)).take 7 = C := hLt.trans hC
      have hLt' : (L'.drop (co + j * 7)).take 7 = D := hLt'.trans hD
      have lC : C.length = 7 := by rw [← hC]; rfl
      have lD : D.length = 7 := by rw [← hD]; rfl
      have oC : C.all oneC = true := by rw [← hC]; simp only [dsC, List.all_cons, List.all_nil, oa.1]; rfl
      have oD : D.all oneC = true := by rw [← hD]; simp only [dsC, List.all_cons, List.all_nil, ob.1]; rfl
      simp -implicitDefEqProofs (disch := first | assumption | (simp only [wnA]; done) | (simp only [wnA]; omega) | omega | fail) [hjl, rc23_6, wkA, retV, stabOk, dC, ev, fillD, pickCells, putAt, bnd, slD, List.getElem?_cons_zero, List.getElem?_cons_succ, dR.eq_20, Mem.cell, Mem.row, wmA, t0, t1, t16]
      refine AbW_sem_of ?_
      simp -implicitDefEqProofs (disch := first | assumption | (simp only [wnA]; done) | (simp only [wnA]; omega) | omega | fail) [rc23_0, rc23_1, wkA, retV, stabOk, dC, ev, fillD, pickCells, putAt, bnd, slD, List.getElem?_cons_zero, List.getElem?_cons_succ, dR.eq_20, Mem.cell, Mem.row, wmA, t0, t1, hix, hiy, hL, hLt, hle, hL', hLt', hle']
      constructor
      · obtain ⟨M1, hM1⟩ : ∃ M, ((m1.push (.own [.string ⟨#[]⟩, .int .i64 0, .string ⟨#[]⟩, .slice none 0 0, .int .i64 0, .string ⟨#[]⟩, .int .i64 0] 29)).push (.own [.string ⟨#[]⟩, .int .i64 0, .string ⟨#[]⟩, .slice none 0 0, .int .i64 0, .string ⟨#[]⟩, .int .i64 0] 29)).set (m1.next) (.own (putAt [.string ⟨#[]⟩, .int .i64 0, .string ⟨#[]⟩, .slice none 0 0, .int .i64 0, .string ⟨#[]⟩, .int .i64 0] 0 C) 29) = M := ⟨_, rfl⟩
        refine SK_stm (i := m1.next) (o := 0) (vs := C) (cs := [.string ⟨#[]⟩, .int .i64 0, .string ⟨#[]⟩, .slice none 0 0, .int .i64 0, .string ⟨#[]⟩, .int .i64 0]) (e := 29) (M := M1) (by simp [wkA, retV, stabOk, dC, ev, fillD, pickCells, putAt, bnd, slD, List.getElem?_cons_zero, List.getElem?_cons_succ, dR.eq_20]) (by simp -implicitDefEqProofs (disch := first | assumption | (simp only [wnA]; done) | (simp only [wnA]; omega) | omega | fail) [wkA, retV, stabOk, dC, ev, fillD, pickCells, putAt, bnd, slD, List.getElem?_cons_zero, List.getElem?_cons_succ, dR.eq_20, Mem.cell, Mem.row, wmA]) (by simp [wkA, retV, stabOk, dC, ev, fillD, pickCells, putAt, bnd, slD, List.getElem?_cons_zero, List.getElem?_cons_succ, dR.eq_20]) (by simp) lC oC hM1 ?_
        have oM1 : Old m1 M1 := by subst hM1; exact (((Old.refl m1).push _).push _).set (by omega) _
        have g6 : M1.get (m1.next) = .own C 29 := by subst hM1; rw [Mem.set_same, putAt_all lC]
        have g7 : M1.get (m1.next + 1) = .own [.string ⟨#[]⟩, .int .i64 0, .string ⟨#[]⟩, .slice none 0 0, .int .i64 0, .string ⟨#[]⟩, .int .i64 0] 29 := by subst hM1; rw [Mem.set_other _ _ (by omega)]; simp -implicitDefEqProofs (disch := first | assumption | (simp only [wnA]; done) | (simp only [wnA]; omega) | omega | fail) [wkA, retV, stabOk, dC, ev, fillD, pickCells, putAt, bnd, slD, List.getElem?_cons_zero, List.getElem?_cons_succ, dR.eq_20, Mem.cell, Mem.row, wmA]
        have n1 : M1.next = m1.next + 2 := by subst hM1; rfl
        have hL2 := (congrArg Ent.cells? (oM1.2 bi hbi)).trans hL
        have hL2' := (congrArg Ent.cells? (oM1.2 ci hci)).trans hL'
        clear hM1
        simp -implicitDefEqProofs (disch := first | assumption | (simp only [wnA]; done) | (simp only [wnA]; omega) | omega | fail) [wkA, retV, stabOk, dC, ev, fillD, pickCells, putAt, bnd, slD, List.getElem?_cons_zero, List.getElem?_cons_succ, dR.eq_20, Mem.cell, Mem.row, wmA, hL2', hLt', hle']
        obtain ⟨M2, hM2⟩ : ∃ M, M1.set (m1.next + 1) (.own (putAt [.string ⟨#[]⟩, .int .i64 0, .string ⟨#[]⟩, .slice none 0 0, .int .i64 0, .string ⟨#[]⟩, .int .i64 0] 0 D) 29) = M := ⟨_, rfl⟩
        refine SK_stm (i := m1.next + 1) (o := 0) (vs := D) (cs := [.string ⟨#[]⟩, .int .i64 0, .string ⟨#[]⟩, .slice none 0 0, .int .i64 0, .string ⟨#[]⟩, .int .i64 0]) (e := 29) (M := M2) (by simp [wkA, retV, stabOk, dC, ev, fillD, pickCells, putAt, bnd, slD, List.getElem?_cons_zero, List.getElem?_cons_succ, dR.eq_20]) g7 (by simp [wkA, retV, stabOk, dC, ev, fillD, pickCells, putAt, bnd, slD, List.getElem?_cons_zero, List.getElem?_cons_succ, dR.eq_20]) (by simp) lD oD hM2 ?_
        have oM2 : Old m1 M2 := by subst hM2; exact oM1.set (by omega) _
        have h6 : M2.get (m1.next) = .own (dsC a av) 29 := by subst hM2; rw [Mem.set_other _ _ (by omega), g6, hC]
        have h7 : M2.get (m1.next + 1) = .own (dsC { a with pl := p } bv) 29 := by subst hM2; rw [Mem.set_same, putAt_all lD, hD]
        clear hM2
        simp -implicitDefEqProofs (disch := first | assumption | (simp only [wnA]; done) | (simp only [wnA]; omega) | omega | fail) [wkA, retV, stabOk, dC, ev, fillD, pickCells, putAt, bnd, slD, List.getElem?_cons_zero, List.getElem?_cons_succ, dR.eq_20, Mem.cell, Mem.row, wmA]
        refine w_sameA (p := p) (hxa.old oM2) (hya.old oM2) hw h6 h7 (by simp) (by simp) fun fr' hf => ?_
        have e0 := hf 0 (by decide)
        have e1 := hf 1 (by decide)
        have e15 := hf 15 (by decide)
        have e16 := hf 16 (by decide)
        simp at e0 e1 e15 e16
        simp -implicitDefEqProofs (disch := first | assumption | (simp only [wnA]; done) | (simp only [wnA]; omega) | omega | fail) [wkA, retV, stabOk, dC, ev, fillD, pickCells, putAt, bnd, slD, List.getElem?_cons_zero, List.getElem?_cons_succ, dR.eq_20, Mem.cell, Mem.row, wmA, e16, t16, hjw]
        exact hK (n - 1) _ _ (by omega) ⟨j + 1, by omega, o1.trans oM2, by simp [e0, t0], by simp [e1, t1], by simp [e15, t15], by simp⟩
      · obtain ⟨M1, hM1⟩ : ∃ M, ((m1.push (.own [.string ⟨#[]⟩, .int .i64 0, .string ⟨#[]⟩, .slice none 0 0, .int .i64 0, .string ⟨#[]⟩, .int .i64 0] 29)).push (.own [.string ⟨#[]⟩, .int .i64 0, .string ⟨#[]⟩, .slice none 0 0, .int .i64 0, .string ⟨#[]⟩, .int .i64 0] 29)).set (m1.next + 1) (.own (putAt [.string ⟨#[]⟩, .int .i64 0, .string ⟨#[]⟩, .slice none 0 0, .int .i64 0, .string ⟨#[]⟩, .int .i64 0] 0 C) 29) = M := ⟨_, rfl⟩
        refine SK_stm (i := m1.next + 1) (o := 0) (vs := C) (cs := [.string ⟨#[]⟩, .int .i64 0, .string ⟨#[]⟩, .slice none 0 0, .int .i64 0, .string ⟨#[]⟩, .int .i64 0]) (e := 29) (M := M1) (by simp [wkA, retV, stabOk, dC, ev, fillD, pickCells, putAt, bnd, slD, List.getElem?_cons_zero, List.getElem?_cons_succ, dR.eq_20]) (by simp -implicitDefEqProofs (disch := first | assumption | (simp only [wnA]; done) | (simp only [wnA]; omega) | omega | fail) [wkA, retV, stabOk, dC, ev, fillD, pickCells, putAt, bnd, slD, List.getElem?_cons_zero, List.getElem?_cons_succ, dR.eq_20, Mem.cell, Mem.row, wmA]) (by simp [wkA, retV, stabOk, dC, ev, fillD, pickCells, putAt, bnd, slD, List.getElem?_cons_zero, List.getElem?_cons_succ, dR.eq_20]) (by simp) lC oC hM1 ?_
        have oM1 : Old m1 M1 := by subst hM1; exact (((Old.refl m1).push _).push _).set (by omega) _
        have g6 : M1.get (m1.next + 1) = .own C 29 := by subst hM1; rw [Mem.set_same, putAt_all lC]
        have g7 : M1.get (m1.next) = .own [.string ⟨#[]⟩, .int .i64 0, .string ⟨#[]⟩, .slice none 0 0, .int .i64 0, .string ⟨#[]⟩, .int .i64 0] 29 := by subst hM1; rw [Mem.set_other _ _ (by omega)]; simp -implicitDefEqProofs (disch := first | assumption | (simp only [wnA]; done) | (simp only [wnA]; omega) | omega | fail) [wkA, retV, stabOk, dC, ev, fillD, pickCells, putAt, bnd, slD, List.getElem?_cons_zero, List.getElem?_cons_succ, dR.eq_20, Mem.cell, Mem.row, wmA]
        have n1 : M1.next = m1.next + 2 := by subst hM1; rfl
        have hL2 := (congrArg Ent.cells? (oM1.2 bi hbi)).trans hL
        have hL2' := (congrArg Ent.cells? (oM1.2 ci hci)).trans hL'
        clear hM1
        simp -implicitDefEqProofs (disch := first | assumption | (simp only [wnA]; done) | (simp only [wnA]; omega) | omega | fail) [wkA, retV, stabOk, dC, ev, fillD, pickCells, putAt, bnd, slD, List.getElem?_cons_zero, List.getElem?_cons_succ, dR.eq_20, Mem.cell, Mem.row, wmA, hL2', hLt', hle']
        obtain ⟨M2, hM2⟩ : ∃ M, M1.set (m1.next) (.own (putAt [.string ⟨#[]⟩, .int .i64 0, .string ⟨#[]⟩, .slice none 0 0, .int .i64 0, .string ⟨#[]⟩, .int .i64 0] 0 D) 29) = M := ⟨_, rfl⟩
        refine SK_stm (i := m1.next) (o := 0) (vs := D) (cs := [.string ⟨#[]⟩, .int .i64 0, .string ⟨#[]⟩, .slice none 0 0, .int .i64 0, .string ⟨#[]⟩, .int .i64 0]) (e := 29) (M := M2) (by simp [wkA, retV, stabOk, dC, ev, fillD, pickCells, putAt, bnd, slD, List.getElem?_cons_zero, List.getElem?_cons_succ, dR.eq_20]) g7 (by simp [wkA, retV, stabOk, dC, ev, fillD, pickCells, putAt, bnd, slD, List.getElem?_cons_zero, List.getElem?_cons_succ, dR.eq_20]) (by simp) lD oD hM2 ?_
        have oM2 : Old m1 M2 := by subst hM2; exact oM1.set (by omega) _
        have h6 : M2.get (m1.next + 1) = .own (dsC a av) 29 := by subst hM2; rw [Mem.set_other _ _ (by omega), g6, hC]
        have h7 : M2.get (m1.next) = .own (dsC { a with pl := p } bv) 29 := by subst hM2; rw [Mem.set_same, putAt_all lD, hD]
        clear hM2
        simp -implicitDefEqProofs (disch := first | assumption | (simp only [wnA]; done) | (simp only [wnA]; omega) | omega | fail) [wkA, retV, stabOk, dC, ev, fillD, pickCells, putAt, bnd, slD, List.getElem?_cons_zero, List.getElem?_cons_succ, dR.eq_20, Mem.cell, Mem.row, wmA]
        refine w_sameA (p := p) (hxa.old oM2) (hya.old oM2) hw h6 h7 (by simp) (by simp) fun fr' hf => ?_
        have e0 := hf 0 (by decide)
        have e1 := hf 1 (by decide)
        have e15 := hf 15 (by decide)
        have e16 := hf 16 (by decide)
        simp at e0 e1 e15 e16
        simp -implicitDefEqProofs (disch := first | assumption | (simp only [wnA]; done) | (simp only [wnA]; omega) | omega | fail) [wkA, retV, stabOk, dC, ev, fillD, pickCells, putAt, bnd, slD, List.getElem?_cons_zero, List.getElem?_cons_succ, dR.eq_20, Mem.cell, Mem.row, wmA, e16, t16, hjw]
        exact hK (n - 1) _ _ (by omega) ⟨j + 1, by omega, o1.trans oM2, by simp [e0, t0], by simp [e1, t1], by simp [e15, t15], by simp⟩
    · simp -implicitDefEqProofs (disch := first | assumption | (simp only [wnA]; done) | (simp only [wnA]; omega) | omega | fail) [hjl, wkA, retV, stabOk, dC, ev, fillD, pickCells, putAt, bnd, slD, List.getElem?_cons_zero, List.getElem?_cons_succ, dR.eq_20, Mem.cell, Mem.row, wmA, rc23_8]
      exact hq _ o1
end Go.Proofs.YtjlicambfepfiaaGreatDoor.Ab

set_option linter.unusedVariables false
set_option linter.unusedSimpArgs false
namespace Go.Proofs.YtjlicambfepfiaaGreatDoor.As
open Go Go.RowKit Go.Extern.Stop Go.Stop Go.Extern
set_option maxRecDepth 100000
abbrev hd (T : TypeId) : Value := .pointer (some ⟨7, T, none⟩)
end Go.Proofs.YtjlicambfepfiaaGreatDoor.As
set_option linter.unusedVariables false
set_option linter.unusedSimpArgs false
namespace Go.Proofs.YtjlicambfepfiaaGreatDoor.As
open Go Go.RowKit Go.Extern.Stop Go.Stop Go.Extern
set_option maxRecDepth 100000
end Go.Proofs.YtjlicambfepfiaaGreatDoor.As

set_option linter.unusedVariables false
set_option linter.unusedSimpArgs false
namespace Go.Proofs.YtjlicambfepfiaaGreatDoor.Ab
open Go Go.RowKit
set_option maxHeartbeats 4000000
set_option maxRecDepth 100000
def vOf (x : DB) : DV := (x.1, slV x.2 x.1.arms.length 2)
theorem dsV_of {m : Mem} {base : Nat} {ob : Option Nat} {l : List DB} (h : SlO m 29 7 ob (l.flatMap dbC) l.length) (ha : ArmsAt m base l) : DsV m (slV ob l.length 7) (l.map vOf) := by
  refine ⟨?_, fun b hb => ?_, fun x hx => ?_⟩
  · have e : (l.map vOf).flatMap vC = l.flatMap dbC := by rw [List.flatMap_map]; rfl
    rw [e, List.length_map]
    exact h.read
  · rw [blk_slV] at hb; subst hb; exact h.lt
  · obtain ⟨y, hy, rfl⟩ := List.mem_map.1 hx
    have := (ha y hy).1
    refine ⟨this.read, fun b hb => ?_⟩
    have hb : blk (slV y.2 y.1.arms.length 2) = some b := hb
    rw [blk_slV] at hb
    rw [hb] at this
    exact this.lt
theorem wd_of {N : Nat} {d : DS} (h : WFS N d) : NOk d ∧ wD d ≤ 4 * N + N * (3 * N + 64) + 128 := by
  obtain ⟨h, h1, h2, h3, h4, h5⟩ := h
  have hn : NOk d := by
    unfold NOk
    rcases h.2 with h | h | h | h | h
    · rw [h.2.2.2.1]; omega
    · have := h.2.2.2.2.1; omega
    · rw [h.2.2.2.1]; omega
    · have := h.2.2.2.1; omega
    · rw [h.2.2.2.1]; omega
  refine ⟨hn, ?_⟩
  have ha : wArms d.arms ≤ d.arms.length * (3 * N + 64) := by
    revert h4
    generalize d.arms = l
    intro h4
    induction l with
    | nil => simp [wArms]
    | cons a l ih =>
      have h6 := h4 a (by simp)
      have h7 := ih fun b hb => h4 b (by simp [hb])
      simp only [wArms, List.map_cons, List.sum_cons, List.length_cons, Nat.add_mul] at h7 ⊢
      omega
  have hb : d.arms.length * (3 * N + 64) ≤ N * (3 * N + 64) := Nat.mul_le_mul_right _ h5
  unfold wD
  omega
theorem wT_of {N B : Nat} {l : List DV} (h : ∀ x ∈ l, wD x.1 ≤ B) : wT l ≤ l.length * B := by
  induction l with
  | nil => simp [wT]
  | cons x l ih =>
    have h1 := h x (by simp)
    have h2 := ih fun y hy => h y (by simp [hy])
    simp only [wT, List.map_cons, List.sum_cons, List.length_cons, Nat.add_mul] at h2 ⊢
    omega
theorem same_of {l k : List DV} (h : l.map (fun x => clr x.1) = k.map fun x => clr x.1) : SameL l k := by
  have hl : l.length = k.length := by have := congrArg List.length h; simpa using this
  refine ⟨hl, fun i a b ha hb => ?_⟩
  have := congrArg (fun z => z[i]?) h
  simp only [List.getElem?_map, ha, hb, Option.map_some, Option.some.injEq] at this
  obtain ⟨⟨a1, a2, a3, a4, a5, a6, a7⟩, av⟩ := a
  obtain ⟨⟨b1, b2, b3, b4, b5, b6, b7⟩, bv⟩ := b
  simp only [clr, DS.mk.injEq] at this
  obtain ⟨rfl, rfl, rfl, rfl, rfl, rfl, -⟩ := this
  rfl
theorem wT_clr (l : List DV) : wT l = ((l.map fun x => clr x.1).map wD).sum := by
  unfold wT
  rw [List.map_map]
  rfl
end Go.Proofs.YtjlicambfepfiaaGreatDoor.Ab

set_option linter.unusedVariables false
set_option linter.unusedSimpArgs false
namespace Go.Proofs.YtjlicambfepfiaaGreatDoor.Ab
open Go Go.RowKit
set_option maxHeartbeats 4000000
set_option maxRecDepth 100000
theorem dec_sub : ∀ k : Fin 10, (ByteArray.mk #[48, 49, 50, 51, 52, 53, 54, 55, 56, 57]).extract k.val (k.val + 1) = ⟨⟨[digC k.val]⟩⟩ := by decide +kernel
theorem numS_nat (B n : Nat) : numS B (n : Int) = digs B n := by
  unfold numS sgn
  rw [if_neg (by simp)]
  simp
theorem c_digN {w0 : World} {m : Mem} : ∀ (n : Nat), n ≤ 9223372036854775807 → ∀ {Q : Value → Mem → Prop}, Q (.string ⟨⟨digs 10 n⟩⟩) m → AbC Tryz.prog w0 17 [.int .i64 (n : Int)] m Q := by
  intro n
  induction n using Nat.strongRecOn with
  | _ n ih =>
    intro hn Q hq
    refine AbC_fn ok17 (by simp) ?_
    have f0 : (0 : Int) ≤ (n : Int) := by omega
    simp -implicitDefEqProofs (disch := first | assumption | (simp only [wnA]; done) | (simp only [wnA]; omega) | omega | fail) [rc17, ro17, wkA, retV, stabOk, dC, ev, fillD, pickCells, putAt, bnd, slD, List.getElem?_cons_zero, List.getElem?_cons_succ, dR.eq_20, Mem.cell, Mem.row, wmA, ltF f0, rc17_1]
    by_cases hb : n < 10
    · have hb' : (n : Int) < (10 : Int) := by omega
      have h16 : n < 10 := by omega
      have hs := dec_sub ⟨n, h16⟩
      simp only at hs
      have hw : IntKind.i64.wrap ((n : Int) + 1) = ((n + 1 : Nat) : Int) := by rw [w64 (by omega)]; omega
      have hsz : (ByteArray.mk #[48, 49, 50, 51, 52, 53, 54, 55, 56, 57]).size = 10 := rfl
      have p1 : (0 : Int) ≤ (n : Int) + 1 ∧ (n : Int) + 1 ≤ 10 := by omega
      have p3 : (n : Int) ≤ (n : Int) + 1 := by omega
      rw [digs_lt hb] at hq
      generalize digC n = c at *
      simp -implicitDefEqProofs (disch := first | assumption | (simp only [wnA]; done) | (simp only [wnA]; omega) | omega | fail) [wkA, retV, stabOk, dC, ev, fillD, pickCells, putAt, bnd, slD, List.getElem?_cons_zero, List.getElem?_cons_succ, dR.eq_20, Mem.cell, Mem.row, wmA, ltT hb', hb, hw, hsz, p1, p3, hs]
      exact hq
    · have hb' : ¬ (n : Int) < (10 : Int) := by omega
      have hB0 : (10 : Int) ≠ 0 := by omega
      have hd : (n : Int).tdiv (10 : Int) = ((n / 10 : Nat) : Int) := by rw [Int.tdiv_eq_ediv_of_nonneg (by omega)]; rfl
      have hm : (n : Int).tmod (10 : Int) = ((n % 10 : Nat) : Int) := by rw [Int.tmod_eq_emod_of_nonneg (by omega)]; rfl
      have h1 : n / 10 < n := Nat.div_lt_self (by omega) (by omega)
      have h2 : n % 10 < 10 := Nat.mod_lt _ (by omega)
      have hDle : n / 10 ≤ n := Nat.div_le_self _ _
      have hwd : IntKind.i64.wrap ((n / 10 : Nat) : Int) = ((n / 10 : Nat) : Int) := by
        generalize n / 10 = D at hDle ⊢
        exact w64 (by omega)
      have l1 := digs_64 (b := 10) (by omega) (show n / 10 < 18446744073709551616 by omega)
      have hdl : (digs 10 (n % 10)).length = 1 := by rw [digs_lt h2]; rfl
      have hcat := cat2 (a := digs 10 (n / 10)) (b := digs 10 (n % 10)) (by omega)
      have q1 : dBin .quo (.int .i64 (n : Int)) (.int .i64 (10 : Int)) = some (.int .i64 ((n / 10 : Nat) : Int)) := by rw [dBin_quo hB0, hd, hwd]
      have q2 : dBin .rem (.int .i64 (n : Int)) (.int .i64 (10 : Int)) = some (.int .i64 ((n % 10 : Nat) : Int)) := by rw [dBin_rem hB0, hm]
      have hge : digs 10 n = digs 10 (n / 10) ++ digs 10 (n % 10) := by rw [digs_ge (by omega) (by omega), digs_lt h2]
      rw [hge] at hq
      generalize hD : n / 10 = D at *
      generalize hM : n % 10 = M at *
      simp -implicitDefEqProofs (disch := first | assumption | (simp only [wnA]; done) | (simp only [wnA]; omega) | omega | fail) [wkA, retV, stabOk, dC, ev, fillD, pickCells, putAt, bnd, slD, List.getElem?_cons_zero, List.getElem?_cons_succ, dR.eq_20, Mem.cell, Mem.row, wmA, hb, hb', q1, q2, rc17_0]
      refine ih D h1 (by omega) ?_
      simp -implicitDefEqProofs (disch := first | assumption | (simp only [wnA]; done) | (simp only [wnA]; omega) | omega | fail) [wkA, retV, stabOk, dC, ev, fillD, pickCells, putAt, bnd, slD, List.getElem?_cons_zero, List.getElem?_cons_succ, dR.eq_20, Mem.cell, Mem.row, wmA, q2]
      refine ih M (by omega) (by omega) ?_
      simp -implicitDefEqProofs (disch := first | assumption | (simp only [wnA]; done) | (simp only [wnA]; omega) | omega | fail) [wkA, retV, stabOk, dC, ev, fillD, pickCells, putAt, bnd, slD, List.getElem?_cons_zero, List.getElem?_cons_succ, dR.eq_20, Mem.cell, Mem.row, wmA, hcat]
      exact hq
theorem c_digits {w0 : World} {m : Mem} {n : Int} (hn : -9223372036854775807 ≤ n ∧ n ≤ 9223372036854775807) {Q : Value → Mem → Prop} (hq : Q (.string ⟨⟨numS 10 n⟩⟩) m) : AbC Tryz.prog w0 17 [.int .i64 n] m Q := by
  by_cases h : 0 ≤ n
  · obtain ⟨k, rfl⟩ : ∃ k : Nat, n = k := ⟨n.toNat, by omega⟩
    rw [numS_nat] at hq
    exact c_digN k (by omega) hq
  · obtain ⟨k, rfl⟩ : ∃ k : Nat, n = -(k : Int) := ⟨n.natAbs, by omega⟩
    refine AbC_fn ok17 (by simp) ?_
    have f0 : -(k : Int) < 0 := by omega
    have hw : IntKind.i64.wrap (0 - -(k : Int)) = (k : Int) := by rw [w64 (by omega)]; omega
    have hw' : IntKind.i64.wrap (k : Int) = (k : Int) := w64 (by omega)
    have hN : numS 10 (-(k : Int)) = 45 :: digs 10 k := by
      unfold numS sgn
      rw [if_pos (by simpa using f0)]
      simp
    rw [hN] at hq
    have l1 := digs_64 (b := 10) (by omega) (show k < 18446744073709551616 by omega)
    have hcat := cat2 (a := [45]) (b := digs 10 k) (by simp; omega)
    have hk0 : 0 < k := by omega
    simp -implicitDefEqProofs (disch := first | assumption | (simp only [wnA]; done) | (simp only [wnA]; omega) | omega | fail) [rc17, ro17, wkA, retV, stabOk, dC, ev, fillD, pickCells, putAt, bnd, slD, List.getElem?_cons_zero, List.getElem?_cons_succ, dR.eq_20, Mem.cell, Mem.row, wmA, ltT f0, hk0, hw, hw']
    refine c_digN k (by omega) ?_
    simp -implicitDefEqProofs (disch := first | assumption | (simp only [wnA]; done) | (simp only [wnA]; omega) | omega | fail) [wkA, retV, stabOk, dC, ev, fillD, pickCells, putAt, bnd, slD, List.getElem?_cons_zero, List.getElem?_cons_succ, dR.eq_20, Mem.cell, Mem.row, wmA, hcat]
    exact hq
end Go.Proofs.YtjlicambfepfiaaGreatDoor.Ab

set_option linter.unusedVariables false
set_option linter.unusedSimpArgs false
namespace Go.Proofs.YtjlicambfepfiaaGreatDoor.Ab
open Go Go.RowKit
set_option maxHeartbeats 4000000
set_option maxRecDepth 100000
theorem joinL_snoc (sep : List UInt8) (xs : List ByteArray) (x : ByteArray) : joinL sep (xs ++ [x]) = joinL sep xs ++ (if xs = [] then [] else sep) ++ x.data.toList := by
  cases xs with
  | nil => simp [joinL]
  | cons y r => simp [joinL]
theorem joinA_snoc (l : List Arm) (a : Arm) : joinA (l ++ [a]) = joinA l ++ (if l = [] then [] else [44, 32]) ++ armL a := by
  unfold joinA
  rw [List.map_append, List.map_singleton, joinL_snoc]
  cases l <;> simp [armB]
theorem wArms_take (l : List Arm) (j : Nat) : wArms (l.take j) ≤ wArms l := by
  induction l generalizing j with
  | nil => simp [wArms]
  | cons x xs ih =>
    cases j with
    | zero => simp [wArms]
    | succ j => have := ih j; simp only [wArms, List.take_succ_cons, List.map_cons, List.sum_cons] at this ⊢; omega
theorem w_larms {w0 : World} {Q : AQ} {fr : Fr} {m : Mem} {av : Value} {l : List Arm} {S : List UInt8} (hv : SlR m 2 av (l.flatMap Arm.cells) l.length) (hvb : ∀ b, blk av = some b → b < m.next) (hl : wArms l ≤ 1099511627776) (hS : S.length ≤ 4398046511104)
    (e3 : fr 3 = .string ⟨⟨S⟩⟩) (e57 : fr 57 = av) (e58 : fr 58 = .int .i64 (l.length : Nat)) (e59 : fr 59 = .int .i64 0)
    (hq : ∀ fr' m', Old m m' → (∀ k ∈ [5, 13, 14, 15], fr' k = fr k) → fr' 3 = .string ⟨⟨S ++ joinA l⟩⟩ → Q .normal fr' m') : LoopW (AbW Tryz.prog w0 rc22_2) (inBlockA 3 Q) fr m := by
  have hll := wArms_len l
  refine LoopW_of (fun k ts m' => ∃ j, j + k = l.length ∧ Old m m' ∧ (∀ k ∈ [5, 13, 14, 15], ts k = fr k) ∧ ts 57 = av ∧ ts 58 = .int .i64 (l.length : Nat) ∧ ts 59 = .int .i64 (j : Nat) ∧ ts 3 = .string ⟨⟨S ++ joinA (l.take j)⟩⟩) l.length ?_ ?_
  · exact ⟨0, by omega, Old.refl m, fun k _ => rfl, e57, e58, e59, by rw [e3]; simp [joinA, joinL]⟩
  · rintro k ts m1 K ⟨j, hj, o1, sm, t57, t58, t59, t3⟩ hK
    simp -implicitDefEqProofs (disch := first | assumption | (simp only [wnA]; done) | (simp only [wnA]; omega) | omega | fail) [rc22_2, wkA, retV, stabOk, dC, ev, fillD, pickCells, putAt, bnd, slD, List.getElem?_cons_zero, List.getElem?_cons_succ, dR.eq_20, Mem.cell, Mem.row, wmA, t58, t59]
    by_cases hjl : j < l.length
    · have hv1 : SlR m1 2 av (l.flatMap Arm.cells) l.length := hv.keep fun b h => o1.2 b (hvb b h)
      obtain ⟨bi, bo, L, hvv, hL, hLl, hLt, -⟩ := hv1.at hjl
      rw [flat_at arl l (List.getElem?_eq_getElem hjl)] at hLt
      obtain ⟨a, hx⟩ : ∃ a, l[j] = a := ⟨_, rfl⟩
      have ham : a ∈ l := by rw [← hx]; exact List.getElem_mem hjl
      have hw := wArms_mem ham
      have hjl0 : (l.take j = []) ↔ j = 0 := by
        rw [List.take_eq_nil_iff]
        constructor
        · rintro (h | h)
          · exact h
          · subst h; simp at hjl
        · exact fun h => .inl h
      have hjt := joinA_len (l.take j)
      have hwt := wArms_take l j
      have hnx : joinA (l.take (j + 1)) = joinA (l.take j) ++ (if j = 0 then [] else [44, 32]) ++ armL a := by
        rw [List.take_succ_eq_append_getElem hjl, joinA_snoc, hx]
        simp only [hjl0]
      rw [hx] at hLt
      have hnx' := hnx
      generalize joinA (l.take j) = J at *
      obtain ⟨pt, tt⟩ := a
      have hLt : (L.drop (bo + j * 2)).take 2 = [.string ⟨⟨pt⟩⟩, .string ⟨⟨tt⟩⟩] := hLt
      rw [hvv] at t57
      have hle : bo + j * 2 + 2 ≤ L.length := by omega
      have hjw : IntKind.i64.wrap ((j : Int) + 1) = ((j + 1 : Nat) : Int) := by rw [w64 (by omega)]; omega
      simp -implicitDefEqProofs (disch := first | assumption | (simp only [wnA]; done) | (simp only [wnA]; omega) | omega | fail) [hjl, rc22_1, wkA, retV, stabOk, dC, ev, fillD, pickCells, putAt, bnd, slD, List.getElem?_cons_zero, List.getElem?_cons_succ, dR.eq_20, Mem.cell, Mem.row, wmA, t57, t58, t59, sidx_at, hL, hLt, hle]
      obtain ⟨M, hM⟩ : ∃ M, (m1.push (.own [.string ⟨#[]⟩, .string ⟨#[]⟩] 49)).set m1.next (.own (putAt [.string ⟨#[]⟩, .string ⟨#[]⟩] 0 [.string ⟨⟨pt⟩⟩, .string ⟨⟨tt⟩⟩]) 49) = M := ⟨_, rfl⟩
      refine SK_stm (i := m1.next) (o := 0) (vs := [.string ⟨⟨pt⟩⟩, .string ⟨⟨tt⟩⟩]) (cs := [.string ⟨#[]⟩, .string ⟨#[]⟩]) (e := 49) (M := M) (by simp [wkA, retV, stabOk, dC, ev, fillD, pickCells, putAt, bnd, slD, List.getElem?_cons_zero, List.getElem?_cons_succ, dR.eq_20]) (by simp -implicitDefEqProofs (disch := first | assumption | (simp only [wnA]; done) | (simp only [wnA]; omega) | omega | fail) [wkA, retV, stabOk, dC, ev, fillD, pickCells, putAt, bnd, slD, List.getElem?_cons_zero, List.getElem?_cons_succ, dR.eq_20, Mem.cell, Mem.row, wmA]) (by simp [wkA, retV, stabOk, dC, ev, fillD, pickCells, putAt, bnd, slD, List.getElem?_cons_zero, List.getElem?_cons_succ, dR.eq_20]) (by simp) rfl rfl hM ?_
      have oM : Old m1 M := by subst hM; exact ((Old.refl m1).push _).set (Nat.le_refl _) _
      have gM : M.get m1.next = .own [.string ⟨⟨pt⟩⟩, .string ⟨⟨tt⟩⟩] 49 := by subst hM; rw [Mem.set_same]; rfl
      have nM : m1.next < M.next := by subst hM; simp
      clear hM
      have lq := qL_len pt
      simp only at hw
      have fin : ∀ (ts' : Fr) (m' : Mem) (R : List UInt8), Old m m' → (∀ k ∈ [5, 13, 14, 15], ts' k = ts k) → ts' 57 = ts 57 → ts' 58 = ts 58 → ts' 59 = .int .i64 ((j + 1 : Nat) : Int) → ts' 3 = .string ⟨⟨R⟩⟩ → R = S ++ (J ++ (if j = 0 then [] else [44, 32]) ++ armL ⟨pt, tt⟩) → K ts' m' := by
        intro ts' m' R o hs h57 h58 h59 h3 hR
        refine hK (k - 1) _ _ (by omega) ⟨j + 1, by omega, o, fun q hq => (hs q hq).trans (sm q hq), by rw [h57, t57, hvv], by rw [h58, t58], h59, by rw [h3, hR, hnx]⟩
      by_cases hj0 : j = 0
      · have hj0' : (j : Int) = 0 := by omega
        have hng : ¬ (0 : Int) < (j : Int) := by omega
        simp -implicitDefEqProofs (disch := first | assumption | (simp only [wnA]; done) | (simp only [wnA]; omega) | omega | fail) [wkA, retV, stabOk, dC, ev, fillD, pickCells, putAt, bnd, slD, List.getElem?_cons_zero, List.getElem?_cons_succ, dR.eq_20, Mem.cell, Mem.row, wmA, hj0, rc22_0, gM]
        refine c_Quote (show pt.length ≤ _ by omega) fun m2 o2 => ?_
        rw [quoteV_eq]
        have g2 := (o2.2 _ nM).trans gM
        simp -implicitDefEqProofs (disch := first | assumption | (simp only [wnA]; done) | (simp only [wnA]; omega) | omega | (simp only [List.length_append, List.length_cons, List.length_nil]; omega) | fail) [wkA, retV, stabOk, dC, ev, fillD, pickCells, putAt, bnd, slD, List.getElem?_cons_zero, List.getElem?_cons_succ, dR.eq_20, Mem.cell, Mem.row, wmA, g2, t3, cat2, t59, hjw]
        exact fin _ m2 (S ++ (J ++ (qL pt ++ [32, 103, 111, 32] ++ tt))) ((o1.trans oM).trans o2) (fun q hq => by
          simp only [List.mem_cons, List.not_mem_nil, or_false] at hq
          rcases hq with rfl | rfl | rfl | rfl <;> simp) (by simp) (by simp) (by simp [hj0]) (by simp) (by simp [hj0, armL, goS])
      · have hng : (0 : Int) < (j : Int) := by omega
        have hng' : 0 < j := by omega
        simp -implicitDefEqProofs (disch := first | assumption | (simp only [wnA]; done) | (simp only [wnA]; omega) | omega | fail) [wkA, retV, stabOk, dC, ev, fillD, pickCells, putAt, bnd, slD, List.getElem?_cons_zero, List.getElem?_cons_succ, dR.eq_20, Mem.cell, Mem.row, wmA, gtT hng, hng', t3]
        have c1 := cat2 (a := S ++ J) (b := [44, 32]) (by simp; omega)
        simp only [List.append_assoc] at c1
        simp -implicitDefEqProofs (disch := first | assumption | (simp only [wnA]; done) | (simp only [wnA]; omega) | omega | (simp only [List.length_append, List.length_cons, List.length_nil]; omega) | fail) [wkA, retV, stabOk, dC, ev, fillD, pickCells, putAt, bnd, slD, List.getElem?_cons_zero, List.getElem?_cons_succ, dR.eq_20, Mem.cell, Mem.row, wmA, c1, rc22_0, gM]
        refine c_Quote (show pt.length ≤ _ by omega) fun m2 o2 => ?_
        rw [quoteV_eq]
        have g2 := (o2.2 _ nM).trans gM
        simp -implicitDefEqProofs (disch := first | assumption | (simp only [wnA]; done) | (simp only [wnA]; omega) | omega | (simp only [List.length_append, List.length_cons, List.length_nil]; omega) | fail) [wkA, retV, stabOk, dC, ev, fillD, pickCells, putAt, bnd, slD, List.getElem?_cons_zero, List.getElem?_cons_succ, dR.eq_20, Mem.cell, Mem.row, wmA, g2, cat2, t59, hjw]
        exact fin _ m2 (S ++ (J ++ ([44, 32] ++ (qL pt ++ [32, 103, 111, 32] ++ tt)))) ((o1.trans oM).trans o2) (fun q hq => by
          simp only [List.mem_cons, List.not_mem_nil, or_false] at hq
          rcases hq with rfl | rfl | rfl | rfl <;> simp) (by simp) (by simp) (by simp) (by simp) (by simp [hj0, armL, goS])
    · have hjj : j = l.length := by omega
      subst hjj
      rw [List.take_length] at t3
      simp -implicitDefEqProofs (disch := first | assumption | (simp only [wnA]; done) | (simp only [wnA]; omega) | omega | fail) [hjl, wkA, retV, stabOk, dC, ev, fillD, pickCells, putAt, bnd, slD, List.getElem?_cons_zero, List.getElem?_cons_succ, dR.eq_20, Mem.cell, Mem.row, wmA]
      exact hq _ m1 o1 (fun q hq => by
        have := sm q hq
        simp only [List.mem_cons, List.not_mem_nil, or_false] at hq
        rcases hq with rfl | rfl | rfl | rfl <;> simp [this]) (by simp [t3])
end Go.Proofs.YtjlicambfepfiaaGreatDoor.Ab

set_option linter.unusedVariables false
set_option linter.unusedSimpArgs false
namespace Go.Proofs.YtjlicambfepfiaaGreatDoor.Ab
open Go Go.RowKit
set_option maxHeartbeats 4000000
set_option maxRecDepth 100000
def frS : List Nat := [13, 14, 15]
theorem w_lbody {w0 : World} {Q : AQ} {fr : Fr} {m : Mem} {b : Nat} {d : DS} {av : Value} {S : List UInt8} (hv : SlR m 2 av (d.arms.flatMap Arm.cells) d.arms.length) (hvb : ∀ b, blk av = some b → b < m.next) (hw : wD d ≤ 1099511627776) (hn : -9223372036854775807 ≤ d.n ∧ d.n ≤ 9223372036854775807)
    (hg : m.get b = .own (dsC d av) 29) (hb : b < m.next) (t5 : fr 5 = .pointer (some ⟨b, 0, none⟩)) (t6 : fr 6 = .int .i64 (kN d.kd : Nat)) (t3 : fr 3 = .string ⟨⟨S⟩⟩) (hS : S.length ≤ 2199023255552)
    (hq : ∀ fr' m', Old m m' → fr' 3 = .string ⟨⟨S ++ wordsL.getD (kN d.kd) [] ++ restL d ++ [59, 10]⟩⟩ → (∀ k ∈ frS, fr' k = fr k) → Q .normal fr' m') : AbW Tryz.prog w0 rc22_3 Q fr m := by
  obtain ⟨lb, kd, tx, arms, n, to, pl⟩ := d
  have hg : m.get b = .own [.string ⟨⟨lb⟩⟩, .int .i64 kd, .string ⟨⟨tx⟩⟩, av, .int .i64 n, .string ⟨⟨to⟩⟩, .int .i64 pl] 29 := hg
  have hle := kN_le kd
  simp only at t6 hn
  simp -implicitDefEqProofs (disch := first | assumption | (simp only [wnA]; done) | (simp only [wnA]; omega) | omega | fail) [rc22_3, wkA, retV, stabOk, dC, ev, fillD, pickCells, putAt, bnd, slD, List.getElem?_cons_zero, List.getElem?_cons_succ, dR.eq_20, Mem.cell, Mem.row, wmA, t3, t6]
  have hn' : -9223372036854775808 ≤ n ∧ n ≤ 9223372036854775807 := by omega
  have fin : ∀ fr' m' R, Old m m' → fr' 3 = .string ⟨⟨R ++ [59, 10]⟩⟩ → R = S ++ wordsL.getD (kN kd) [] ++ restX (kN kd) ⟨lb, kd, tx, arms, n, to, pl⟩ → (∀ k ∈ frS, fr' k = fr k) → Q .normal fr' m' := by
    intro fr' m' R o e hR hf
    subst hR
    exact hq fr' m' o e hf
  clear hq
  rw [SK_bsl (cs := wordsL.map fun w => .string ⟨⟨w⟩⟩) (by simp [wkA, retV, stabOk, dC, ev, fillD, pickCells, putAt, bnd, slD, List.getElem?_cons_zero, List.getElem?_cons_succ, dR.eq_20, wordsL, sendL, expectL, goL, tryL, doneL, failL]) (by simp [wordsL])]
  obtain ⟨m1, hm1⟩ : ∃ m1, m.push (.own (wordsL.map fun w => .string ⟨⟨w⟩⟩) 9) = m1 := ⟨_, rfl⟩
  have o1 : Old m m1 := by subst hm1; exact (Old.refl m).push _
  have gw : m1.get m.next = .own (wordsL.map fun w => .string ⟨⟨w⟩⟩) 9 := by subst hm1; rw [Mem.push_same]
  have g1 := (o1.2 b hb).trans hg
  rw [hm1]
  have hix : sidx 1 (.slice (some ⟨m.next, 0, none⟩) 6 1) (.int .i64 ((kN kd : Nat) : Int)) = some (.pointer (some ⟨m.next, 0 + kN kd * 1, none⟩)) := sidx_at (by omega)
  simp only [Nat.zero_add, Nat.mul_one] at hix
  have hwl : kN kd < wordsL.length := by show kN kd < 6; omega
  have hwj : (wordsL.map fun w => (.string ⟨⟨w⟩⟩ : Value))[kN kd]? = some (.string ⟨⟨wordsL.getD (kN kd) []⟩⟩) := by simp [List.getElem?_map, List.getElem?_eq_getElem hwl, List.getD]
  have hwl6 : (wordsL.getD (kN kd) []).length ≤ 6 := by
    rcases (show kN kd = 0 ∨ kN kd = 1 ∨ kN kd = 2 ∨ kN kd = 3 ∨ kN kd = 4 ∨ kN kd = 5 by omega) with e | e | e | e | e | e <;> rw [e] <;> decide
  generalize wordsL.getD (kN kd) [] = W at *
  generalize (wordsL.map fun w => (.string ⟨⟨w⟩⟩ : Value)) = ws at *
  have c1 := cat2 (a := S) (b := W) (by omega)
  have hSW : (S ++ W).length ≤ 2199023255558 := by simp; omega
  have hv1 : SlR m1 2 av (arms.flatMap Arm.cells) arms.length := hv.keep fun b h => o1.2 b (hvb b h)
  have hvb1 : ∀ b, blk av = some b → b < m1.next := fun b h => Nat.lt_of_lt_of_le (hvb b h) o1.1
  have hb1 : b < m1.next := Nat.lt_of_lt_of_le hb o1.1
  simp only [wD] at hw
  have lj := joinA_len arms
  have ln := num_len10 (i := n) hn'
  have lq := qL_len tx
  have hal := wArms_len arms
  generalize S ++ W = R at *
  generalize kN kd = kk at *
  simp -implicitDefEqProofs (disch := first | assumption | (simp only [wnA]; done) | (simp only [wnA]; omega) | omega | (simp only [List.length_append, List.length_cons, List.length_nil]; omega) | fail) [wkA, retV, stabOk, dC, ev, fillD, pickCells, putAt, bnd, slD, List.getElem?_cons_zero, List.getElem?_cons_succ, dR.eq_20, Mem.cell, Mem.row, wmA, t6, hix, gw, hwj, getL hwj, c1]
  rcases (show kk = 0 ∨ kk = 1 ∨ kk = 2 ∨ kk = 3 ∨ kk = 4 ∨ kk = 5 by omega) with rfl | rfl | rfl | rfl | rfl | rfl
  · simp -implicitDefEqProofs (disch := first | assumption | (simp only [wnA]; done) | (simp only [wnA]; omega) | omega | (simp only [List.length_append, List.length_cons, List.length_nil]; omega) | fail) [wkA, retV, stabOk, dC, ev, fillD, pickCells, putAt, bnd, slD, List.getElem?_cons_zero, List.getElem?_cons_succ, dR.eq_20, Mem.cell, Mem.row, wmA, t5, g1]
    refine c_Quote (show tx.length ≤ 1099511627776 by omega) fun m2 o2 => ?_
    rw [quoteV_eq]
    simp -implicitDefEqProofs (disch := first | assumption | (simp only [wnA]; done) | (simp only [wnA]; omega) | omega | (simp only [List.length_append, List.length_cons, List.length_nil]; omega) | fail) [wkA, retV, stabOk, dC, ev, fillD, pickCells, putAt, bnd, slD, List.getElem?_cons_zero, List.getElem?_cons_succ, dR.eq_20, Mem.cell, Mem.row, wmA, cat2]
    exact fin _ m2 (R ++ restX 0 ⟨lb, kd, tx, arms, n, to, pl⟩) (o1.trans o2) (by simp [restX]) rfl (fun q hq => by
      simp only [frS, List.mem_cons, List.not_mem_nil, or_false] at hq
      rcases hq with rfl | rfl | rfl <;> simp)
  · have c2 := cat2 (a := R) (b := [32]) (by simp; omega)
    simp -implicitDefEqProofs (disch := first | assumption | (simp only [wnA]; done) | (simp only [wnA]; omega) | omega | (simp only [List.length_append, List.length_cons, List.length_nil]; omega) | fail) [wkA, retV, stabOk, dC, ev, fillD, pickCells, putAt, bnd, slD, List.getElem?_cons_zero, List.getElem?_cons_succ, dR.eq_20, Mem.cell, Mem.row, wmA, t5, g1, hv1.slen, c2]
    refine w_larms (av := av) (l := arms) (S := R ++ [32]) hv1 hvb1 (by omega) (by simp; omega) (by simp) (by simp) (by simp) (by simp) fun fr' m2 o2 sm e3 => ?_
    have e5 := sm 5 (by simp)
    have e13 := sm 13 (by simp)
    have e14 := sm 14 (by simp)
    have e15 := sm 15 (by simp)
    simp [t5] at e5 e13 e14 e15
    have g2 := (o2.2 b hb1).trans g1
    simp -implicitDefEqProofs (disch := first | assumption | (simp only [wnA]; done) | (simp only [wnA]; omega) | omega | (simp only [List.length_append, List.length_cons, List.length_nil]; omega) | fail) [wkA, retV, stabOk, dC, ev, fillD, pickCells, putAt, bnd, slD, List.getElem?_cons_zero, List.getElem?_cons_succ, dR.eq_20, Mem.cell, Mem.row, wmA, e3, e5, g2, cat2]
    refine c_digits hn ?_
    simp -implicitDefEqProofs (disch := first | assumption | (simp only [wnA]; done) | (simp only [wnA]; omega) | omega | (simp only [List.length_append, List.length_cons, List.length_nil]; omega) | fail) [wkA, retV, stabOk, dC, ev, fillD, pickCells, putAt, bnd, slD, List.getElem?_cons_zero, List.getElem?_cons_succ, dR.eq_20, Mem.cell, Mem.row, wmA, e3, e5, g2, cat2]
    exact fin _ m2 (R ++ restX 1 ⟨lb, kd, tx, arms, n, to, pl⟩) (o1.trans o2) (by simp [restX, goS, afterL]) rfl (fun q hq => by
      simp only [frS, List.mem_cons, List.not_mem_nil, or_false] at hq
      rcases hq with rfl | rfl | rfl <;> simp [e13, e14, e15])
  · simp -implicitDefEqProofs (disch := first | assumption | (simp only [wnA]; done) | (simp only [wnA]; omega) | omega | (simp only [List.length_append, List.length_cons, List.length_nil]; omega) | fail) [wkA, retV, stabOk, dC, ev, fillD, pickCells, putAt, bnd, slD, List.getElem?_cons_zero, List.getElem?_cons_succ, dR.eq_20, Mem.cell, Mem.row, wmA, t5, g1, cat2]
    exact fin _ m1 (R ++ restX 2 ⟨lb, kd, tx, arms, n, to, pl⟩) o1 (by simp [restX]) rfl (fun q hq => by
      simp only [frS, List.mem_cons, List.not_mem_nil, or_false] at hq
      rcases hq with rfl | rfl | rfl <;> simp)
  · simp -implicitDefEqProofs (disch := first | assumption | (simp only [wnA]; done) | (simp only [wnA]; omega) | omega | (simp only [List.length_append, List.length_cons, List.length_nil]; omega) | fail) [wkA, retV, stabOk, dC, ev, fillD, pickCells, putAt, bnd, slD, List.getElem?_cons_zero, List.getElem?_cons_succ, dR.eq_20, Mem.cell, Mem.row, wmA, t5, g1, cat2]
    refine c_digits hn ?_
    simp -implicitDefEqProofs (disch := first | assumption | (simp only [wnA]; done) | (simp only [wnA]; omega) | omega | (simp only [List.length_append, List.length_cons, List.length_nil]; omega) | fail) [wkA, retV, stabOk, dC, ev, fillD, pickCells, putAt, bnd, slD, List.getElem?_cons_zero, List.getElem?_cons_succ, dR.eq_20, Mem.cell, Mem.row, wmA, t5, g1, cat2]
    exact fin _ m1 (R ++ restX 3 ⟨lb, kd, tx, arms, n, to, pl⟩) o1 (by simp [restX, goS]) rfl (fun q hq => by
      simp only [frS, List.mem_cons, List.not_mem_nil, or_false] at hq
      rcases hq with rfl | rfl | rfl <;> simp)
  · simp -implicitDefEqProofs (disch := first | assumption | (simp only [wnA]; done) | (simp only [wnA]; omega) | omega | (simp only [List.length_append, List.length_cons, List.length_nil]; omega) | fail) [wkA, retV, stabOk, dC, ev, fillD, pickCells, putAt, bnd, slD, List.getElem?_cons_zero, List.getElem?_cons_succ, dR.eq_20, Mem.cell, Mem.row, wmA, t5, g1, cat2]
    exact fin _ m1 R o1 (by simp) (by simp [restX]) (fun q hq => by
      simp only [frS, List.mem_cons, List.not_mem_nil, or_false] at hq
      rcases hq with rfl | rfl | rfl <;> simp)
  · simp -implicitDefEqProofs (disch := first | assumption | (simp only [wnA]; done) | (simp only [wnA]; omega) | omega | (simp only [List.length_append, List.length_cons, List.length_nil]; omega) | fail) [wkA, retV, stabOk, dC, ev, fillD, pickCells, putAt, bnd, slD, List.getElem?_cons_zero, List.getElem?_cons_succ, dR.eq_20, Mem.cell, Mem.row, wmA, t5, g1, cat2]
    exact fin _ m1 R o1 (by simp) (by simp [restX]) (fun q hq => by
      simp only [frS, List.mem_cons, List.not_mem_nil, or_false] at hq
      rcases hq with rfl | rfl | rfl <;> simp)
end Go.Proofs.YtjlicambfepfiaaGreatDoor.Ab

set_option linter.unusedVariables false
set_option linter.unusedSimpArgs false
namespace Go.Proofs.YtjlicambfepfiaaGreatDoor.Ab
open Go Go.RowKit
set_option maxHeartbeats 4000000
set_option maxRecDepth 100000
theorem w_lclamp {w0 : World} {Q : AQ} {fr : Fr} {m : Mem} {b : Nat} {d : DS} {av : Value} {S : List UInt8} (hv : SlR m 2 av (d.arms.flatMap Arm.cells) d.arms.length) (hvb : ∀ b, blk av = some b → b < m.next) (hw : wD d ≤ 1099511627776) (hn : -9223372036854775807 ≤ d.n ∧ d.n ≤ 9223372036854775807)
    (hg : m.get b = .own (dsC d av) 29) (hb : b < m.next) (t5 : fr 5 = .pointer (some ⟨b, 0, none⟩)) (t3 : fr 3 = .string ⟨⟨S⟩⟩) (hS : S.length ≤ 2199023255552)
    (hq : ∀ fr' m', Old m m' → fr' 3 = .string ⟨⟨S ++ wordsL.getD (kN d.kd) [] ++ restL d ++ [59, 10]⟩⟩ → (∀ k ∈ frS, fr' k = fr k) → Q .normal fr' m') : AbW Tryz.prog w0 rc22_5 Q fr m := by
  have hg' := hg
  simp only [dsC] at hg
  have go : ∀ fr' : Fr, fr' 5 = .pointer (some ⟨b, 0, none⟩) → fr' 6 = .int .i64 (kN d.kd : Nat) → fr' 3 = .string ⟨⟨S⟩⟩ → (∀ k ∈ frS, fr' k = fr k) → AbW Tryz.prog w0 rc22_3 Q fr' m := fun fr' e5 e6 e3 ef =>
    w_lbody hv hvb hw hn hg' hb e5 e6 e3 hS fun fr'' m' o h3 hf => hq fr'' m' o h3 fun k hk => (hf k hk).trans (ef k hk)
  clear hq
  by_cases h0 : d.kd < 0
  · have hk : kN d.kd = 0 := by simp [kN, h0]
    rw [hk] at go
    simp -implicitDefEqProofs (disch := first | assumption | (simp only [wnA]; done) | (simp only [wnA]; omega) | omega | fail) [rc22_5, rc22_4, wkA, retV, stabOk, dC, ev, fillD, pickCells, putAt, bnd, slD, List.getElem?_cons_zero, List.getElem?_cons_succ, dR.eq_20, Mem.cell, Mem.row, wmA, t5, hg, h0]
    exact go _ (by simp [t5]) (by simp) (by simp [t3]) (fun q hq => by
      simp only [frS, List.mem_cons, List.not_mem_nil, or_false] at hq
      rcases hq with rfl | rfl | rfl <;> simp)
  · by_cases h5 : 5 < d.kd
    · have hk : kN d.kd = 5 := by simp [kN, h0, h5]
      rw [hk] at go
      simp -implicitDefEqProofs (disch := first | assumption | (simp only [wnA]; done) | (simp only [wnA]; omega) | omega | fail) [rc22_5, rc22_4, wkA, retV, stabOk, dC, ev, fillD, pickCells, putAt, bnd, slD, List.getElem?_cons_zero, List.getElem?_cons_succ, dR.eq_20, Mem.cell, Mem.row, wmA, t5, hg, h0, h5]
      exact go _ (by simp [t5]) (by simp) (by simp [t3]) (fun q hq => by
      simp only [frS, List.mem_cons, List.not_mem_nil, or_false] at hq
      rcases hq with rfl | rfl | rfl <;> simp)
    · have hk : (kN d.kd : Int) = d.kd := by
        unfold kN
        rw [if_neg h0, if_neg (show ¬ d.kd > 5 by omega)]
        omega
      simp -implicitDefEqProofs (disch := first | assumption | (simp only [wnA]; done) | (simp only [wnA]; omega) | omega | fail) [rc22_5, rc22_4, wkA, retV, stabOk, dC, ev, fillD, pickCells, putAt, bnd, slD, List.getElem?_cons_zero, List.getElem?_cons_succ, dR.eq_20, Mem.cell, Mem.row, wmA, t5, hg, h0, h5]
      exact go _ (by simp [t5]) (by simp [hk]) (by simp [t3]) (fun q hq => by
      simp only [frS, List.mem_cons, List.not_mem_nil, or_false] at hq
      rcases hq with rfl | rfl | rfl <;> simp)
theorem c_LDText {w0 : World} {m : Mem} {v : Value} {l : List DV} {Q : Value → Mem → Prop} (hv : DsV m v l) (hl : wT l ≤ 1099511627776) (hn : ∀ x ∈ l, -9223372036854775807 ≤ x.1.n ∧ x.1.n ≤ 9223372036854775807)
    (hq : ∀ m', Old m m' → Q (.string ⟨⟨textL l⟩⟩) m') : AbC Tryz.prog w0 22 [v] m Q := by
  refine AbC_fn ok22 (by simp) ?_
  have hll := wT_len l
  simp -implicitDefEqProofs (disch := first | assumption | (simp only [wnA]; done) | (simp only [wnA]; omega) | omega | fail) [rc22, ro22, wkA, retV, stabOk, dC, ev, fillD, pickCells, putAt, bnd, slD, List.getElem?_cons_zero, List.getElem?_cons_succ, dR.eq_20, Mem.cell, Mem.row, wmA, hv.sl.slen]
  refine LoopW_of (fun k ts m' => ∃ j, j + k = l.length ∧ ts 3 = .string ⟨⟨textL (l.take j)⟩⟩ ∧ ts 13 = v ∧ ts 14 = .int .i64 (l.length : Nat) ∧ ts 15 = .int .i64 (j : Nat) ∧ Old m m') l.length ?_ ?_
  · exact ⟨0, by omega, by simp [textL], by simp [frA_at], by simp, by simp, Old.refl m⟩
  · rintro k ts m1 K ⟨j, hj, t3, t13, t14, t15, hb⟩ hK
    have hlen := textL_len (l := l.take j) fun e h => by have := hn e (List.mem_of_mem_take h); unfold NOk; omega
    have htk := wT_take l j
    simp -implicitDefEqProofs (disch := first | assumption | (simp only [wnA]; done) | (simp only [wnA]; omega) | omega | fail) [rc22_7, wkA, retV, stabOk, dC, ev, fillD, pickCells, putAt, bnd, slD, List.getElem?_cons_zero, List.getElem?_cons_succ, dR.eq_20, Mem.cell, Mem.row, wmA, t14, t15]
    by_cases hjl : j < l.length
    · have hv1 := hv.old hb
      obtain ⟨bi, bo, L, hvv, hL, hLl, hLt, -⟩ := hv1.sl.at hjl
      rw [flat_at vC_len l (List.getElem?_eq_getElem hjl)] at hLt
      have hx1 := wT_succ hjl
      have hx2 := wT_take l (j + 1)
      obtain ⟨x, hx⟩ : ∃ x, l[j] = x := ⟨_, rfl⟩
      have hxm : x ∈ l := by rw [← hx]; exact List.getElem_mem hjl
      have hnx : textL (l.take (j + 1)) = textL (l.take j) ++ lineD x.1 := by
        unfold textL
        rw [List.take_succ_eq_append_getElem hjl, List.flatMap_append, hx]; simp
      have hax := hv1.ar x hxm
      have hxn := hn x hxm
      rw [hx] at hLt hx1
      rw [hvv] at t13
      have hle : bo + j * 7 + 7 ≤ L.length := by omega
      have hjw : IntKind.i64.wrap ((j : Int) + 1) = ((j + 1 : Nat) : Int) := by rw [w64 (by omega)]; omega
      have hone := hax.sl.one
      generalize textL (l.take j) = T at *
      obtain ⟨M, hM⟩ : ∃ M, (m1.push (.own [.string ⟨#[]⟩, .int .i64 0, .string ⟨#[]⟩, .slice none 0 0, .int .i64 0, .string ⟨#[]⟩, .int .i64 0] 29)).set m1.next (.own (putAt [.string ⟨#[]⟩, .int .i64 0, .string ⟨#[]⟩, .slice none 0 0, .int .i64 0, .string ⟨#[]⟩, .int .i64 0] 0 (vC x)) 29) = M := ⟨_, rfl⟩
      have oM : Old m1 M := by subst hM; exact ((Old.refl m1).push _).set (Nat.le_refl _) _
      have gM : M.get m1.next = .own (dsC x.1 x.2) 29 := by subst hM; rw [Mem.set_same]; rfl
      have nM : m1.next < M.next := by subst hM; simp
      have hwx : wD x.1 ≤ 1099511627776 := by omega
      have haM := hax.old oM
      have last : ∀ (fr' : Fr) (m' : Mem), Old M m' → fr' 3 = .string ⟨⟨T ++ lineD x.1⟩⟩ → fr' 13 = ts 13 → fr' 14 = ts 14 → fr' 15 = .int .i64 ((j + 1 : Nat) : Int) → K fr' m' := fun fr' m' o e3 e13 e14 e15 =>
        hK (k - 1) _ _ (by omega) ⟨j + 1, by omega, by rw [e3, hnx], by rw [e13, t13, hvv], by rw [e14, t14], e15, (hb.trans oM).trans o⟩
      have go : ∀ (fr : Fr) (S : List UInt8), fr 5 = .pointer (some ⟨m1.next, 0, none⟩) → fr 3 = .string ⟨⟨S⟩⟩ → S = T ++ labL x.1 → ∀ (Q' : AQ), (∀ fr' m', Old M m' → fr' 3 = .string ⟨⟨T ++ lineD x.1⟩⟩ → (∀ k ∈ frS, fr' k = fr k) → Q' .normal fr' m') → AbW Tryz.prog w0 rc22_5 Q' fr M := by
        intro fr S e5 e3 hS Q' hQ'
        have hSl : S.length ≤ T.length + x.1.lb.length + 2 := by rw [hS, List.length_append]; unfold labL; split <;> simp <;> omega
        have hlb : x.1.lb.length ≤ wD x.1 := by unfold wD; omega
        refine w_lclamp (S := S) haM.sl haM.bl hwx hxn gM nM e5 e3 (by omega) fun fr' m' o h3 hf => hQ' fr' m' o ?_ hf
        rw [h3, hS]
        simp [lineD]
      obtain ⟨⟨lb, kd, tx, arms, n, to, pl⟩, av⟩ := x
      have gx : M.get m1.next = .own [.string ⟨⟨lb⟩⟩, .int .i64 kd, .string ⟨⟨tx⟩⟩, av, .int .i64 n, .string ⟨⟨to⟩⟩, .int .i64 pl] 29 := gM
      have hLt : (L.drop (bo + j * 7)).take 7 = [.string ⟨⟨lb⟩⟩, .int .i64 kd, .string ⟨⟨tx⟩⟩, av, .int .i64 n, .string ⟨⟨to⟩⟩, .int .i64 pl] := hLt
      simp -implicitDefEqProofs (disch := first | assumption | (simp only [wnA]; done) | (simp only [wnA]; omega) | omega | fail) [hjl, rc22_6, wkA, retV, stabOk, dC, ev, fillD, pickCells, putAt, bnd, slD, List.getElem?_cons_zero, List.getElem?_cons_succ, dR.eq_20, Mem.cell, Mem.row, wmA, t3, t13, t14, t15, sidx_at, hL, hLt, hle]
      refine SK_stm (i := m1.next) (o := 0) (vs := vC (⟨lb, kd, tx, arms, n, to, pl⟩, av)) (cs := [.string ⟨#[]⟩, .int .i64 0, .string ⟨#[]⟩, .slice none 0 0, .int .i64 0, .string ⟨#[]⟩, .int .i64 0]) (e := 29) (M := M) (by simp [wkA, retV, stabOk, dC, ev, fillD, pickCells, putAt, bnd, slD, List.getElem?_cons_zero, List.getElem?_cons_succ, dR.eq_20]) (by simp -implicitDefEqProofs (disch := first | assumption | (simp only [wnA]; done) | (simp only [wnA]; omega) | omega | fail) [wkA, retV, stabOk, dC, ev, fillD, pickCells, putAt, bnd, slD, List.getElem?_cons_zero, List.getElem?_cons_succ, dR.eq_20, Mem.cell, Mem.row, wmA]) (by simp [wkA, retV, stabOk, dC, ev, fillD, pickCells, putAt, bnd, slD, List.getElem?_cons_zero, List.getElem?_cons_succ, dR.eq_20, vC, dsC]) (by simp) rfl (by simp only [vC, dsC, List.all_cons, List.all_nil, hone.1]; rfl) hM ?_
      clear hM
      have hTl : T.length ≤ 1099511627776 := by omega
      have hlbw : lb.length ≤ 1099511627776 := by unfold wD at hwx; simp only at hwx; omega
      by_cases hlb : lb = []
      · subst hlb
        simp -implicitDefEqProofs (disch := first | assumption | (simp only [wnA]; done) | (simp only [wnA]; omega) | omega | fail) [wkA, retV, stabOk, dC, ev, fillD, pickCells, putAt, bnd, slD, List.getElem?_cons_zero, List.getElem?_cons_succ, dR.eq_20, Mem.cell, Mem.row, wmA, gx]
        refine go _ T (by simp) (by simp [t3]) (by simp [labL]) _ fun fr' m' o e3 hf => ?_
        have e13 := hf 13 (by decide)
        have e14 := hf 14 (by decide)
        have e15 := hf 15 (by decide)
        simp at e13 e14 e15
        simp -implicitDefEqProofs (disch := first | assumption | (simp only [wnA]; done) | (simp only [wnA]; omega) | omega | fail) [wkA, retV, stabOk, dC, ev, fillD, pickCells, putAt, bnd, slD, List.getElem?_cons_zero, List.getElem?_cons_succ, dR.eq_20, Mem.cell, Mem.row, wmA, e15, t15, hjw]
        exact last _ m' o (by simp [e3]) (by simp [e13]) (by simp [e14]) (by simp)
      · have c1 := cat2 (a := T) (b := lb) (by omega)
        have c2 := cat2 (a := T ++ lb) (b := [58, 32]) (by simp; omega)
        have hb0 : lb.isEmpty = false := by cases lb <;> simp at hlb ⊢
        simp only [List.append_assoc] at c2
        simp -implicitDefEqProofs (disch := first | assumption | (simp only [wnA]; done) | (simp only [wnA]; omega) | omega | (simp only [List.length_append, List.length_cons, List.length_nil]; omega) | fail) [wkA, retV, stabOk, dC, ev, fillD, pickCells, putAt, bnd, slD, List.getElem?_cons_zero, List.getElem?_cons_succ, dR.eq_20, Mem.cell, Mem.row, wmA, gx, hb0, hlb, t3, c1, c2]
        refine go _ (T ++ (lb ++ [58, 32])) (by simp) (by simp) (by simp [labL, hlb]) _ fun fr' m' o e3 hf => ?_
        have e13 := hf 13 (by decide)
        have e14 := hf 14 (by decide)
        have e15 := hf 15 (by decide)
        simp at e13 e14 e15
        simp -implicitDefEqProofs (disch := first | assumption | (simp only [wnA]; done) | (simp only [wnA]; omega) | omega | fail) [wkA, retV, stabOk, dC, ev, fillD, pickCells, putAt, bnd, slD, List.getElem?_cons_zero, List.getElem?_cons_succ, dR.eq_20, Mem.cell, Mem.row, wmA, e15, t15, hjw]
        exact last _ m' o (by simp [e3]) (by simp [e13]) (by simp [e14]) (by simp)
    · have hjj : j = l.length := by omega
      subst hjj
      rw [List.take_length] at t3
      simp -implicitDefEqProofs (disch := first | assumption | (simp only [wnA]; done) | (simp only [wnA]; omega) | omega | fail) [hjl, rc22_8, wkA, retV, stabOk, dC, ev, fillD, pickCells, putAt, bnd, slD, List.getElem?_cons_zero, List.getElem?_cons_succ, dR.eq_20, Mem.cell, Mem.row, wmA, t3]
      exact hq m1 hb
end Go.Proofs.YtjlicambfepfiaaGreatDoor.Ab

set_option linter.unusedVariables false
set_option linter.unusedSimpArgs false
namespace Go.Proofs.YtjlicambfepfiaaGreatDoor.Ab
open Go Go.RowKit
set_option maxHeartbeats 4000000
set_option maxRecDepth 100000
theorem nOk_of {N : Nat} {d : DS} (h : WFS N d) : -9223372036854775807 ≤ d.n ∧ d.n ≤ 9223372036854775807 := by
  obtain ⟨h, -⟩ := h
  rcases h.2 with h | h | h | h | h
  · rw [h.2.2.2.1]; omega
  · have := h.2.2.2.2.1; omega
  · rw [h.2.2.2.1]; omega
  · have := h.2.2.2.1; omega
  · rw [h.2.2.2.1]; omega
theorem l_DBack {w0 : World} {m : Mem} {v : Value} {l : List Ac7} (hp : Part L0 m) (ht : Ten w0) (hE : ErrV w0) (hv : AsV m v l) (hl : l.length ≤ maxLen) :
    AbC Tryz.prog w0 5 [v] m fun v _ => v = .bool true := by
  refine AbC_fn ok5 (by simp) ?_
  simp -implicitDefEqProofs (disch := first | assumption | (simp only [wnA]; done) | (simp only [wnA]; omega) | omega | fail) [rc5, ro5, wkA, retV, stabOk, dC, ev, fillD, pickCells, putAt, bnd, slD, List.getElem?_cons_zero, List.getElem?_cons_succ, dR.eq_20, Mem.cell, Mem.row, wmA]
  refine c_awake hp ?_
  simp -implicitDefEqProofs (disch := first | assumption | (simp only [wnA]; done) | (simp only [wnA]; omega) | omega | fail) [rc5_1, wkA, retV, stabOk, dC, ev, fillD, pickCells, putAt, bnd, slD, List.getElem?_cons_zero, List.getElem?_cons_succ, dR.eq_20, Mem.cell, Mem.row, wmA]
  refine c_Steps hv hl fun m1 ob ls hO hll hW => ?_
  have o1 := hO.o
  have hD := dsV_of hO.so hO.aa
  have hgood : ∀ x ∈ ls.map vOf, WFS 60 x.1 := fun x hx => by
    obtain ⟨y, hy, rfl⟩ := List.mem_map.1 hx
    exact hW y hy
  have htot : wT (ls.map vOf) ≤ 1099511627776 := by
    have h1 := wT_of (N := 0) (B := 20000) fun x hx => by
      have h2 := (wd_of (hgood x hx)).2
      omega
    have h2 : (ls.map vOf).length * 20000 ≤ 12 * 20000 := Nat.mul_le_mul_right _ (by rw [List.length_map]; omega)
    omega
  generalize slV ob ls.length 7 = sv at *
  generalize hls : ls.map vOf = lv at *
  obtain ⟨T, hT2⟩ : ∃ T : ByteArray, (⟨⟨textL lv⟩⟩ : ByteArray) = T := ⟨_, rfl⟩
  have hT3 : T.data.toList = textL lv := by subst hT2; rfl
  have hcx : ∃ us2, cutL 0 (textL lv) = .inr us2 := by
    obtain ⟨a', ws, e1, e2⟩ := cx_text (fun x hx => (hgood x hx).1) 0
    have : cutL a' [] = .inr [(endT, a')] := rfl
    rw [this] at e2
    exact ⟨_, e2⟩
  obtain ⟨us2, hc2⟩ := hcx
  obtain ⟨l2, hp2, hcl⟩ := parse_text (fun x hx => (hgood x hx).1) hc2
  simp -implicitDefEqProofs (disch := first | assumption | (simp only [wnA]; done) | (simp only [wnA]; omega) | omega | fail) [wkA, retV, stabOk, dC, ev, fillD, pickCells, putAt, bnd, slD, List.getElem?_cons_zero, List.getElem?_cons_succ, dR.eq_20, Mem.cell, Mem.row, wmA]
  refine c_DText ht hD htot (fun x hx => (wd_of (hgood x hx)).1) fun m2 o2 => ?_
  simp -implicitDefEqProofs (disch := first | assumption | (simp only [wnA]; done) | (simp only [wnA]; omega) | omega | fail) [wkA, retV, stabOk, dC, ev, fillD, pickCells, putAt, bnd, slD, List.getElem?_cons_zero, List.getElem?_cons_succ, dR.eq_20, Mem.cell, Mem.row, wmA, hT2]
  refine c_LDText (hD.old o2) htot (fun x hx => nOk_of (hgood x hx)) fun m3 o3 => ?_
  simp -implicitDefEqProofs (disch := first | assumption | (simp only [wnA]; done) | (simp only [wnA]; omega) | omega | fail) [wkA, retV, stabOk, dC, ev, fillD, pickCells, putAt, bnd, slD, List.getElem?_cons_zero, List.getElem?_cons_succ, dR.eq_20, Mem.cell, Mem.row, wmA, hT2]
  rw [← hT3] at hc2
  by_cases hs : 4096 < T.size
  · have i4 : (4096 : Int) < (T.size : Int) := by omega
    simp -implicitDefEqProofs (disch := first | assumption | (simp only [wnA]; done) | (simp only [wnA]; omega) | omega | fail) [wkA, retV, stabOk, dC, ev, fillD, pickCells, putAt, bnd, slD, List.getElem?_cons_zero, List.getElem?_cons_succ, dR.eq_20, Mem.cell, Mem.row, wmA, gtT i4]
    refine c_LDText (hD.old (o2.trans o3)) htot (fun x hx => nOk_of (hgood x hx)) fun m4 o4 => ?_
    simp -implicitDefEqProofs (disch := first | assumption | (simp only [wnA]; done) | (simp only [wnA]; omega) | omega | fail) [wkA, retV, stabOk, dC, ev, fillD, pickCells, putAt, bnd, slD, List.getElem?_cons_zero, List.getElem?_cons_succ, dR.eq_20, Mem.cell, Mem.row, wmA, hT2]
  · have i4 : (T.size : Int) ≤ 4096 := by omega
    simp -implicitDefEqProofs (disch := first | assumption | (simp only [wnA]; done) | (simp only [wnA]; omega) | omega | fail) [wkA, retV, stabOk, dC, ev, fillD, pickCells, putAt, bnd, slD, List.getElem?_cons_zero, List.getElem?_cons_succ, dR.eq_20, Mem.cell, Mem.row, wmA, gtF i4, rc5_0]
    refine c_Parse (((o1.trans o2).trans o3).part hp) ht hE (fun h m4 o4 => absurd h hs) (fun _ m4 a o4 hc3 => by rw [hc2] at hc3; cases hc3) (fun _ m4 us3 e o4 hc3 hpe3 => by rw [hc2] at hc3; cases hc3; rw [hp2] at hpe3; cases hpe3) fun h m4 us3 ob3 l3 o4 hc3 _ hpe3 s3 hob3 hAA3 hlu3 => ?_
    rw [hc2] at hc3
    cases hc3
    have hD3 := dsV_of s3 hAA3
    have hl3 : l3.map Prod.fst = l2 := by rw [hp2] at hpe3; exact (Prod.mk.inj hpe3).1.symm
    have hcc : (l3.map vOf).map (fun x => clr x.1) = lv.map fun x => clr x.1 := by
      rw [← hcl, ← hl3, List.map_map, List.map_map]
      rfl
    have hsame : SameL (l3.map vOf) lv := same_of hcc
    simp -implicitDefEqProofs (disch := first | assumption | (simp only [wnA]; done) | (simp only [wnA]; omega) | omega | fail) [wkA, retV, stabOk, dC, ev, fillD, pickCells, putAt, bnd, slD, List.getElem?_cons_zero, List.getElem?_cons_succ, dR.eq_20, Mem.cell, Mem.row, wmA]
    refine c_Same hD3 (hD.old ((o2.trans o3).trans o4)) hsame ?_ fun m5 o5 => ?_
    · rw [wT_clr, hcc, ← wT_clr]; exact htot
    simp -implicitDefEqProofs (disch := first | assumption | (simp only [wnA]; done) | (simp only [wnA]; omega) | omega | fail) [wkA, retV, stabOk, dC, ev, fillD, pickCells, putAt, bnd, slD, List.getElem?_cons_zero, List.getElem?_cons_succ, dR.eq_20, Mem.cell, Mem.row, wmA]
end Go.Proofs.YtjlicambfepfiaaGreatDoor.Ab

namespace Go.Proofs.YtjlicambfepfiaaGreatDoor.dialogBack
open Go Go.ChangeShapes Go.WideShapes Go.ChangeAt Go.RowKit Go.Proofs.YtjlicambfepfiaaGreatDoor.Ab
set_option linter.unusedVariables false
theorem own : ownKnob Tryz.prog.godebug = none := by kernel_rfl
theorem laidOut : laidOutB Tryz.prog = true := by kernel_rfl
set_option maxRecDepth 100000 in
theorem contract (H : Type) (enc : TypeId × Value → H) (W : World) (base : Nat) (args : Array Value) (ds gs : List (DataW H)) (before : List MemPlace)
    (hval : ∀ (j : Nat) t v, Tryz.f5.params[j]? = some t → args[j]? = some v → Value.okWide Tryz.prog W .any base t v)
    (hW : DataW.Whole enc Tryz.prog Tryz.f5.params.toList Rows.dialogBackSpec.vars false W args.toList ds gs before) (hL : laidMetH Tryz.prog Rows.dialogBackRow.laid W) :
    Calls Tryz.prog 5 args W fun e W' => ∃ v, e = .returned v ∧ Rows.dialogBackSpec.post enc Tryz.prog Tryz.f5 false true false false W args v W' := by
  have hW' := hW
  obtain ⟨hL', hLh⟩ := (show laidMet Tryz.prog (Rows.dialogBackRow.laid.filter fun x => x.2.handleName?.isNone) W ∧ handlesMet Tryz.prog (Rows.dialogBackRow.laid.filter fun x => x.2.handleName?.isSome) W from hL)
  obtain ⟨p, q, hA0, hV, rfl, hfz, hnd⟩ := hW
  have hA : DataW.TrodAll enc Tryz.prog W 0 (fun _ => true) true Tryz.f5.params.toList args.toList ds p := hA0
  rw [Tryz.params5] at hA hval
  obtain ⟨v0, vs0, d0, ds0, p0, q0, hargs, rfl, rfl, h0, r0⟩ := trodAll_cons hA
  obtain ⟨rfl, rfl, rfl⟩ := trodAll_nil r0
  obtain rfl : args = #[v0] := by cases args; simp_all
  obtain ⟨rfl, rfl⟩ := trodVars_none hV
  obtain ⟨a0, len0, cap0, rfl⟩ := okWide_slice Tryz.underlying22 (hval 0 22 v0 rfl rfl)
  have lt0 : ∀ x ∈ p0, x.block < W.heap.size := by obtain ⟨m, hm⟩ := h0; exact DataW.trod_lt m _ _ _ hm
  have s : St Tryz.prog W (G0 Tryz.prog) (toMem L0) W := St.laid globals_size L0_get laid_ok (laidIn hL' (List.mem_of_getElem? (i := 0) rfl) (List.mem_of_getElem? (i := 1) rfl) (List.mem_of_getElem? (i := 2) rfl))
  have hp : Part L0 (toMem L0) := Part.of L0_part (Nat.le_refl _) fun _ _ => rfl
  obtain ⟨G0, m0, x0, t0, g0, s0, u0, b0, f0, k0⟩ := arg_one (k := 5) (s := (.sl actShp)) (by kernel_rfl) h0 rfl s
  have hp := g0.part hp
  refine (AbC_true s0 (.cons _ _ _ _ u0 .nil) ((by obtain ⟨xs, c0, z0⟩ := absT_acts b0 f0; exact l_DBack hp (ten_of hL' (List.mem_of_getElem? (i := 2) rfl)) (errV_of hL' (List.mem_of_getElem? (i := 4) rfl) (List.mem_of_getElem? (i := 3) rfl)) c0 z0)) (by kernel_rfl)).mono fun e W' ⟨he, bel⟩ => ?_
  subst he
  exact ⟨_, rfl, _, _, _, [], _, [], hW', trodAll_mk1 (shut_bool Tryz.underlying4 _), (trodAll_cons_mk (Below.trod laidOut (by kernel_rfl) (of_decide_eq_true (by kernel_rfl)) h0 bel lt0) trodAll_mk0), rfl, bel.frame _, fun h => by cases h⟩
noncomputable def laidWorld (os : Os) : World :=
  let N := (World.settled Tryz.prog os).heap.size
  { World.holding Tryz.prog os ⟨#[.cells #[.string ⟨#[118, 97, 108, 117, 101, 32, 111, 117, 116, 32, 111, 102, 32, 114, 97, 110, 103, 101]⟩] 226, .cells #[.string ⟨#[105, 110, 118, 97, 108, 105, 100, 32, 115, 121, 110, 116, 97, 120]⟩] 226], #[], []⟩ with heap := (((((((World.holding Tryz.prog os ⟨#[.cells #[.string ⟨#[118, 97, 108, 117, 101, 32, 111, 117, 116, 32, 111, 102, 32, 114, 97, 110, 103, 101]⟩] 226, .cells #[.string ⟨#[105, 110, 118, 97, 108, 105, 100, 32, 115, 121, 110, 116, 97, 120]⟩] 226], #[], []⟩).heap.modify 5 fun | .cells _ t frozen => .cells ⟨e32⟩ t frozen | o => o).modify 6 fun | .cells _ t frozen => .cells ⟨e64⟩ t frozen | o => o).modify 2 fun | .cells _ t frozen => .cells ⟨e10⟩ t frozen | o => o).modify 4 fun | .cells _ t frozen => .cells #[.iface 224 (.pointer (some ⟨N, 0, none⟩))] t frozen | o => o).modify 3 fun | .cells _ t frozen => .cells #[.iface 224 (.pointer (some ⟨N + 1, 0, none⟩))] t frozen | o => o).modify 0 fun | .cells _ t frozen => .cells #[.iface 158 (.agg #[.pointer (some ⟨7, 36, none⟩)])] t frozen | o => o) }
theorem laid_met (os : Os) : laidMetH Tryz.prog Rows.dialogBackRow.laid ((laidWorld os).forCall (fun _ _ => 0) ⟨#[], #[(.slice none 0 0 : Value)], []⟩).memory :=
  laidMetH_of_parts (laidMet_of_run' 8 (by kernel_rfl) (by kernel_rfl)) (by kernel_rfl)
theorem reads (os : Os) {H : Type} (enc : TypeId × Value → H) : ∃ places, DataW.whole enc Tryz.prog ((laidWorld os).forCall (fun _ _ => 0) ⟨#[], #[(.slice none 0 0 : Value)], []⟩).memory Tryz.f5.params.toList Rows.dialogBackSpec.vars false [(.slice none 0 0 : Value)] 8 = some ([.nil], [], places) :=
  ⟨[], by kernel_rfl⟩
set_option maxRecDepth 100000 in
theorem lifted (os : Os) (started : os.Started) (H : Type) (enc : TypeId × Value → H) (F : Stop.Interp) :
    ReturnsInHanded {} Tryz.checked os 5 .any ((OpenSpec.ofChange Rows.dialogBackSpec).preRow enc Tryz.prog Tryz.f5 Rows.dialogBackRow.domain false Rows.dialogBackRow.laid) (((OpenSpec.ofChange Rows.dialogBackSpec).at F).post enc Tryz.prog Tryz.f5 false true false false) := by
  obtain ⟨places, hx⟩ := reads os enc
  refine returnsInHanded_of_row (C := Tryz.checked) (s := (OpenSpec.ofChange Rows.dialogBackSpec)) own started (by kernel_rfl) Tryz.func5
    (witness_row_atRef (enc := enc) (C := Tryz.checked) false (laidWorld os) #[(.slice none 0 0 : Value)] rfl (by kernel_rfl) (by kernel_rfl) (by kernel_rfl)
      (OpenSpec.preRow_of_cond 8 hx (by kernel_rfl) (fun k hk => by cases hk) (by kernel_rfl) (laid_met os))) ?_
  intro W base args ds gs before hval hW _ _ _ hL _ _
  exact contract H enc W base args ds gs before hval hW hL
theorem over : Rows.DialogBackSaid :=
  OpenClaim.holds_of_cond 5 Tryz.f5 rfl rfl rfl rfl rfl rfl rfl ⟨rfl, rfl, rfl, rfl, rfl⟩ rfl rfl rfl rfl rfl (by kernel_rfl) Tryz.func5 (by kernel_rfl)
    (of_decide_eq_true (by kernel_rfl)) (by unfold Func.isWrapper; first | (rw [if_pos (by decide +kernel)]; kernel_rfl) | (rw [if_neg (by decide +kernel)]; exact ⟨rfl, rfl⟩))
    (fun os started H enc _ F => by rw [OpenClaim.pre_eq_preRow]; exact lifted os started H enc F)
theorem plain (f : FuncId) (fn : Func) (hf : Tryz.pinned.checked.prog.funcNamed "lifeline/lifelinelaw17.DialogBack" = some f) (hfn : Tryz.pinned.checked.prog.funcs[f]? = some fn) :
    true = Tryz.pinned.checked.prog.looks [] ∧ ∀ (j : Nat) t, fn.params[j]? = some t → Tryz.pinned.checked.prog.wantsStandIn t = false := by
  obtain rfl : f = 5 := Option.some.inj ((show Tryz.prog.funcNamed "lifeline/lifelinelaw17.DialogBack" = some 5 by kernel_rfl).symm.trans hf) |>.symm
  obtain rfl : fn = Tryz.f5 := (Option.some.inj (Tryz.func5.symm.trans hfn)).symm
  refine ⟨by kernel_rfl, fun j t ht => ?_⟩
  rw [Tryz.params5] at ht
  have hall : ∀ t ∈ [22], Tryz.prog.wantsStandIn t = false := by
    intro t ht
    simp only [List.mem_cons, List.mem_nil_iff, or_false] at ht
    rcases ht with rfl <;> kernel_rfl
  exact hall t (by simpa using Array.mem_of_getElem? ht)
theorem proved : Rows.DialogBackCardSaid :=
  Claim7.holds_tied_plain_at .later [] _ _ _ _ over (fun _ h => by cases h) (by kernel_rfl) (fun _ h => by cases h) dialogBack_row_tie rfl ⟨rfl, rfl⟩ (by kernel_rfl) rfl plain (by kernel_rfl)
#print axioms proved
end Go.Proofs.YtjlicambfepfiaaGreatDoor.dialogBack
