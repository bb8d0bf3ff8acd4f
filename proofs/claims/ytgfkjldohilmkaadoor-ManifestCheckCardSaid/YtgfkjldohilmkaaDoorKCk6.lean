/- The law ManifestCheck, as its statement says it: for every input; the listed variables hold what the program's text lays. -/
import Derived.Test.YtgfkjldohilmkaaDoorKCk5
import Derived.Test.YtgfkjldohilmkaaDoorCards
import Derived.Test.YtgfkjldohilmkaaDoorTie
import Derived.WalkKit
import Derived.ProofKit
import Derived.OpenShut
import Derived.JoinedCond
import Derived.ChangeOld
import Derived.Deep.DeepHandedRow
import Derived.Deep.DeepWitnessRowRef
set_option linter.unusedVariables false
set_option linter.unusedSimpArgs false
namespace Go.Proofs.YtgfkjldohilmkaaDoor.Ab
open Go Go.RowKit
set_option maxHeartbeats 4000000
set_option maxRecDepth 100000

def mxI (a b : Int) : Int := if b > a then b else a
def mnI (a b : Int) : Int := if b < a then b else a
def lapW (e x : En) : Bool := decide (mxI x.a e.a < mnI (IntKind.i64.wrap (x.a + roomOf x.s x.w)) (IntKind.i64.wrap (e.a + roomOf e.s e.w)))
theorem lapW_eq {e x : En} (he : rngP e) (hx : rngP x) : lapW e x = lapB e x := by
  obtain ⟨x1, x2, x3, x4, -, -⟩ := hx
  obtain ⟨y1, y2, y3, y4, -, -⟩ := he
  have r1 := room_rng (w := x.w) ⟨x2, x3⟩
  have r2 := room_rng (w := e.w) ⟨y2, y3⟩
  unfold lapW lapB mxI mnI
  rw [w64 (by omega), w64 (by omega), Bool.eq_iff_iff]
  simp only [Bool.and_eq_true, decide_eq_true_eq]
  split <;> split <;> omega

theorem w_inner {w0 : World} {Q : AQ} {fr : Fr} {m : Mem} {i5 : Nat} {vs : Value} {pre : List En} {e : En} (hv : SlR m 5 vs (pre.flatMap En.cells) pre.length) (vb : ∀ b, blk vs = some b → b < m.next) (hl : pre.length ≤ 1000000) (hi5 : i5 < m.next)
    (g5 : m.get i5 = .own e.cells 36) (e5 : fr 5 = .pointer (some ⟨i5, 0, none⟩)) (e27 : fr 27 = vs) (e28 : fr 28 = .int .i64 (pre.length : Nat)) (e29 : fr 29 = .int .i64 0) (e6 : fr 6 = .bool false) (e7 : fr 7 = .bool false)
    (hq0 : ∀ fr' m', Old m m' → sameAt [0, 4, 5, 18, 19, 20] fr fr' → fr' 6 = .bool (dupB pre e) → fr' 7 = .bool (pre.any (lapW e)) → Q .normal fr' m') : LoopW (AbW Tryd.prog w0 rc21_1) (inBlockA 2 Q) fr m := by
  obtain ⟨nm, ea, es, ep, ew⟩ := e
  have g5 : m.get i5 = .own [.string nm, .int .i64 ea, .int .i64 es, .int .u32 ep, .int .i64 ew] 36 := g5
  refine LoopW_of (fun k ts m' => ∃ i, i + k = pre.length ∧ Old m m' ∧ sameAt [0, 4, 5, 18, 19, 20, 27, 28] fr ts ∧ ts 29 = .int .i64 (i : Nat) ∧ ts 6 = .bool (dupB (pre.take i) ⟨nm, ea, es, ep, ew⟩) ∧ ts 7 = .bool ((pre.take i).any (lapW ⟨nm, ea, es, ep, ew⟩))) pre.length ?_ ?_
  · exact ⟨0, by omega, Old.refl m, fun k _ => rfl, e29, e6, e7⟩
  · rintro k ts m1 K ⟨i, hi, o1, sm, t29, t6, t7⟩ hK
    have t4 := sm 4 (by simp)
    have t5 := (sm 5 (by simp)).trans e5
    have t27 := (sm 27 (by simp)).trans e27
    have t28 := (sm 28 (by simp)).trans e28
    simp -implicitDefEqProofs (disch := first | assumption | (simp only [wnA]; done) | (simp only [wnA]; omega) | omega | fail) [rc21_1, wkA, retV, stabOk, dC, ev, fillD, pickCells, putAt, bnd, slD, List.getElem?_cons_zero, List.getElem?_cons_succ, dR_sl, Mem.cell, Mem.row, wmA, t28, t29]
    by_cases hil : i < pre.length
    · have iil : (i : Int) < (pre.length : Int) := by omega
      have hiw : IntKind.i64.wrap ((i : Int) + 1) = ((i + 1 : Nat) : Int) := by rw [w64 (by omega)]; omega
      obtain ⟨bi, bo, L, hvv, hL, hLl, hLt, -⟩ := (hv.keep fun b h => o1.2 b (vb b h)).at hil
      rw [flat_at enl pre (List.getElem?_eq_getElem hil)] at hLt
      have htk : dupB (pre.take (i + 1)) ⟨nm, ea, es, ep, ew⟩ = (dupB (pre.take i) ⟨nm, ea, es, ep, ew⟩ || (pre[i].nm.data == nm.data)) := by
        rw [List.take_succ_eq_append_getElem hil, dupB, List.any_append]; simp [dupB]
      have htl : (pre.take (i + 1)).any (lapW ⟨nm, ea, es, ep, ew⟩) = ((pre.take i).any (lapW ⟨nm, ea, es, ep, ew⟩) || lapW ⟨nm, ea, es, ep, ew⟩ pre[i]) := by
        rw [List.take_succ_eq_append_getElem hil, List.any_append]; simp
      generalize pre[i] = x at *
      obtain ⟨xnm, xa, xs, xp, xw⟩ := x
      have hLt' : (L.drop (bo + i * 5)).take 5 = [.string xnm, .int .i64 xa, .int .i64 xs, .int .u32 xp, .int .i64 xw] := hLt
      have hle : bo + i * 5 + 5 ≤ L.length := by omega
      rw [hvv] at t27
      have g5' : m1.get i5 = .own [.string nm, .int .i64 ea, .int .i64 es, .int .u32 ep, .int .i64 ew] 36 := (o1.2 i5 hi5).trans g5
      simp -implicitDefEqProofs (disch := first | assumption | (simp only [wnA]; done) | (simp only [wnA]; omega) | omega | fail) [hil, iil, rc21_0, wkA, retV, stabOk, dC, ev, fillD, pickCells, putAt, bnd, slD, List.getElem?_cons_zero, List.getElem?_cons_succ, dR_sl, Mem.cell, Mem.row, wmA, t27, t29, sidx_at, hL, hLt', hle]
      refine SK_st (i := m1.next) (o := 0) (by simp [wkA, retV, stabOk, dC, ev, fillD, pickCells, putAt, bnd, slD, List.getElem?_cons_zero, List.getElem?_cons_succ, dR_sl]) (e := 36) (by simp -implicitDefEqProofs (disch := first | assumption | (simp only [wnA]; done) | (simp only [wnA]; omega) | omega | fail) [Mem.cell, Mem.row, wmA]; rfl) (by simp) (by simp [wkA, retV, stabOk, dC, ev, fillD, pickCells, putAt, bnd, slD, List.getElem?_cons_zero, List.getElem?_cons_succ, dR_sl]) (by simp [wkA, retV, stabOk, dC, ev, fillD, pickCells, putAt, bnd, slD, List.getElem?_cons_zero, List.getElem?_cons_succ, dR_sl, oneC]) ?_
      have ni5 : i5 ≠ m1.next := by have := o1.1; omega
      obtain ⟨M, hM⟩ : ∃ M, (m1.push (.own [.string ⟨#[]⟩, .int .i64 0, .int .i64 0, .int .u32 0, .int .i64 0] 36)).set m1.next (.own [.string xnm, .int .i64 xa, .int .i64 xs, .int .u32 xp, .int .i64 xw] 36) = M := ⟨_, rfl⟩
      have oM : Old m1 M := by subst hM; exact ((Old.refl m1).push _).set (Nat.le_refl _) _
      have gM : M.get m1.next = .own [.string xnm, .int .i64 xa, .int .i64 xs, .int .u32 xp, .int .i64 xw] 36 := by subst hM; rw [Mem.set_same]
      have nM : m1.next < M.next := by subst hM; simp
      have g5M := (oM.2 i5 (by have := o1.1; omega)).trans g5'
      have oMm := o1.trans oM
      obtain ⟨D, hD⟩ : ∃ D, dupB (pre.take i) ⟨nm, ea, es, ep, ew⟩ = D := ⟨_, rfl⟩
      obtain ⟨W, hW⟩ : ∃ W, (pre.take i).any (lapW ⟨nm, ea, es, ep, ew⟩) = W := ⟨_, rfl⟩
      rw [hD] at t6 htk
      rw [hW] at t7 htl
      have fin : ∀ (ts' : Fr) (m' : Mem), Old m m' → (∀ q ∈ [0, 4, 5, 18, 19, 20, 27, 28], ts' q = ts q) → ts' 29 = .int .i64 ((i + 1 : Nat) : Int) → ts' 6 = .bool (D || (xnm.data == nm.data)) → ts' 7 = .bool (W || lapW ⟨nm, ea, es, ep, ew⟩ ⟨xnm, xa, xs, xp, xw⟩) → K ts' m' := fun ts' m' o' hs h29 h6 h7 =>
        hK (k - 1) _ _ (by omega) ⟨i + 1, by omega, o', fun q hq => (hs q hq).trans (sm q hq), h29, by rw [htk, h6], by rw [htl, h7]⟩
      have last : ∀ (ts' : Fr), (∀ q ∈ [0, 4, 5, 18, 19, 20, 27, 28], ts' q = ts q) → ts' 9 = .pointer (some ⟨m1.next, 0, none⟩) → ts' 29 = .int .i64 (i : Int) → ts' 6 = .bool (D || (xnm.data == nm.data)) → ts' 7 = .bool W → True := fun _ _ _ _ _ _ => trivial
      simp -implicitDefEqProofs (disch := first | assumption | (simp only [wnA]; done) | (simp only [wnA]; omega) | omega | fail) [wkA, retV, stabOk, dC, ev, fillD, pickCells, putAt, bnd, slD, List.getElem?_cons_zero, List.getElem?_cons_succ, dR_sl, Mem.cell, Mem.row, wmA, hM, t6]
      cases D with
      | true =>
        simp -implicitDefEqProofs (disch := first | assumption | (simp only [wnA]; done) | (simp only [wnA]; omega) | omega | fail) [wkA, retV, stabOk, dC, ev, fillD, pickCells, putAt, bnd, slD, List.getElem?_cons_zero, List.getElem?_cons_succ, dR_sl, Mem.cell, Mem.row, wmA, t7]
        cases W with
        | true =>
          simp -implicitDefEqProofs (disch := first | assumption | (simp only [wnA]; done) | (simp only [wnA]; omega) | omega | fail) [wkA, retV, stabOk, dC, ev, fillD, pickCells, putAt, bnd, slD, List.getElem?_cons_zero, List.getElem?_cons_succ, dR_sl, Mem.cell, Mem.row, wmA, t29]
          refine fin _ _ oMm (fun q hq => ?_) (by simp [hiw]) (by simp) (by simp)
          simp only [List.mem_cons, List.not_mem_nil, or_false] at hq
          rcases hq with rfl | rfl | rfl | rfl | rfl | rfl | rfl | rfl <;> simp
        | false =>
          simp -implicitDefEqProofs (disch := first | assumption | (simp only [wnA]; done) | (simp only [wnA]; omega) | omega | fail) [wkA, retV, stabOk, dC, ev, fillD, pickCells, putAt, bnd, slD, List.getElem?_cons_zero, List.getElem?_cons_succ, dR_sl, Mem.cell, Mem.row, wmA, t5, g5M, gM]
          refine c_room fun m3 o3 => ?_
          have g53 := (o3.2 i5 (by have := oMm.1; omega)).trans g5M
          have gM3 := (o3.2 m1.next nM).trans gM
          simp -implicitDefEqProofs (disch := first | assumption | (simp only [wnA]; done) | (simp only [wnA]; omega) | omega | fail) [wkA, retV, stabOk, dC, ev, fillD, pickCells, putAt, bnd, slD, List.getElem?_cons_zero, List.getElem?_cons_succ, dR_sl, Mem.cell, Mem.row, wmA, t5, g53, gM3]
          refine c_room fun m4 o4 => ?_
          have g54 := (o4.2 i5 (by have := oMm.1; have := o3.1; omega)).trans g53
          have gM4 := (o4.2 m1.next (by have := o3.1; omega)).trans gM3
          simp -implicitDefEqProofs (disch := first | assumption | (simp only [wnA]; done) | (simp only [wnA]; omega) | omega | fail) [wkA, retV, stabOk, dC, ev, fillD, pickCells, putAt, bnd, slD, List.getElem?_cons_zero, List.getElem?_cons_succ, dR_sl, Mem.cell, Mem.row, wmA, t5, t29, g54, gM4]
          refine fin _ _ ((oMm.trans o3).trans o4) (fun q hq => ?_) (by simp [hiw]) (by simp) (by simp [lapW, mxI, mnI])
          simp only [List.mem_cons, List.not_mem_nil, or_false] at hq
          rcases hq with rfl | rfl | rfl | rfl | rfl | rfl | rfl | rfl <;> simp
      | false =>
        simp -implicitDefEqProofs (disch := first | assumption | (simp only [wnA]; done) | (simp only [wnA]; omega) | omega | fail) [wkA, retV, stabOk, dC, ev, fillD, pickCells, putAt, bnd, slD, List.getElem?_cons_zero, List.getElem?_cons_succ, dR_sl, Mem.cell, Mem.row, wmA, t5, t7, g5M, gM]
        cases W with
        | true =>
          simp -implicitDefEqProofs (disch := first | assumption | (simp only [wnA]; done) | (simp only [wnA]; omega) | omega | fail) [wkA, retV, stabOk, dC, ev, fillD, pickCells, putAt, bnd, slD, List.getElem?_cons_zero, List.getElem?_cons_succ, dR_sl, Mem.cell, Mem.row, wmA, t29]
          refine fin _ _ oMm (fun q hq => ?_) (by simp [hiw]) (by simp) (by simp)
          simp only [List.mem_cons, List.not_mem_nil, or_false] at hq
          rcases hq with rfl | rfl | rfl | rfl | rfl | rfl | rfl | rfl <;> simp
        | false =>
          simp -implicitDefEqProofs (disch := first | assumption | (simp only [wnA]; done) | (simp only [wnA]; omega) | omega | fail) [wkA, retV, stabOk, dC, ev, fillD, pickCells, putAt, bnd, slD, List.getElem?_cons_zero, List.getElem?_cons_succ, dR_sl, Mem.cell, Mem.row, wmA, t5, g5M, gM]
          refine c_room fun m3 o3 => ?_
          have g53 := (o3.2 i5 (by have := oMm.1; omega)).trans g5M
          have gM3 := (o3.2 m1.next nM).trans gM
          simp -implicitDefEqProofs (disch := first | assumption | (simp only [wnA]; done) | (simp only [wnA]; omega) | omega | fail) [wkA, retV, stabOk, dC, ev, fillD, pickCells, putAt, bnd, slD, List.getElem?_cons_zero, List.getElem?_cons_succ, dR_sl, Mem.cell, Mem.row, wmA, t5, g53, gM3]
          refine c_room fun m4 o4 => ?_
          have g54 := (o4.2 i5 (by have := oMm.1; have := o3.1; omega)).trans g53
          have gM4 := (o4.2 m1.next (by have := o3.1; omega)).trans gM3
          simp -implicitDefEqProofs (disch := first | assumption | (simp only [wnA]; done) | (simp only [wnA]; omega) | omega | fail) [wkA, retV, stabOk, dC, ev, fillD, pickCells, putAt, bnd, slD, List.getElem?_cons_zero, List.getElem?_cons_succ, dR_sl, Mem.cell, Mem.row, wmA, t5, t29, g54, gM4]
          refine fin _ _ ((oMm.trans o3).trans o4) (fun q hq => ?_) (by simp [hiw]) (by simp) (by simp [lapW, mxI, mnI])
          simp only [List.mem_cons, List.not_mem_nil, or_false] at hq
          rcases hq with rfl | rfl | rfl | rfl | rfl | rfl | rfl | rfl <;> simp
    · have hii : i = pre.length := by omega
      subst hii
      have iil : ¬ (pre.length : Int) < (pre.length : Int) := by omega
      rw [List.take_length] at t6 t7
      simp -implicitDefEqProofs (disch := first | assumption | (simp only [wnA]; done) | (simp only [wnA]; omega) | omega | fail) [wkA, retV, stabOk, dC, ev, fillD, pickCells, putAt, bnd, slD, List.getElem?_cons_zero, List.getElem?_cons_succ, dR_sl, Mem.cell, Mem.row, wmA, iil]
      refine hq0 _ _ o1 (fun q hq => ?_) (by simp [t6]) (by simp [t7])
      have := sm q (by simp only [List.mem_cons, List.not_mem_nil, or_false] at hq ⊢; omega)
      simp only [List.mem_cons, List.not_mem_nil, or_false] at hq
      rcases hq with rfl | rfl | rfl | rfl | rfl | rfl <;> simp [this]

theorem rng_cases2 (e : En) : e.a < 0 ∨ (0 ≤ e.a ∧ 16384 < e.a) ∨ (0 ≤ e.a ∧ e.a ≤ 16384 ∧ e.s < 1) ∨ (0 ≤ e.a ∧ e.a ≤ 16384 ∧ 1 ≤ e.s ∧ 8192 < e.s) ∨ (0 ≤ e.a ∧ e.a ≤ 16384 ∧ 1 ≤ e.s ∧ e.s ≤ 8192 ∧ 16384 < e.a + roomOf e.s e.w) ∨ (0 ≤ e.a ∧ e.a ≤ 16384 ∧ 1 ≤ e.s ∧ e.s ≤ 8192 ∧ e.a + roomOf e.s e.w ≤ 16384 ∧ e.w < 0) ∨ (0 ≤ e.a ∧ e.a ≤ 16384 ∧ 1 ≤ e.s ∧ e.s ≤ 8192 ∧ e.a + roomOf e.s e.w ≤ 16384 ∧ 0 ≤ e.w ∧ 3 < e.w) ∨ (0 ≤ e.a ∧ e.a ≤ 16384 ∧ 1 ≤ e.s ∧ e.s ≤ 8192 ∧ e.a + roomOf e.s e.w ≤ 16384 ∧ 0 ≤ e.w ∧ e.w ≤ 3) := by omega

theorem c_wrong {w0 : World} {m : Mem} {v : Value} {es : List En} {Q : Value → Mem → Prop} (hv : SlR m 5 v (es.flatMap En.cells) es.length) (vb : ∀ b, blk v = some b → b < m.next) (he : ∀ e ∈ es, EnI e) (hn : es.length ≤ 9223372036854775807)
    (hq : ∀ m', Old m m' → Q (.tuple ⟨[.int .i64 (chkV es).1, .int .i64 ((chkV es).2 : Nat)]⟩) m') : AbC Tryd.prog w0 21 [v] m Q := by
  refine AbC_fn ok21 (by simp) ?_
  simp -implicitDefEqProofs (disch := first | assumption | (simp only [wnA]; done) | (simp only [wnA]; omega) | omega | fail) [rc21, ro21, wkA, retV, stabOk, dC, ev, fillD, pickCells, putAt, bnd, slD, List.getElem?_cons_zero, List.getElem?_cons_succ, dR_sl, Mem.cell, Mem.row, wmA, hv.slen]
  by_cases h0 : es.length = 0
  · have hc : chkV es = (-1, 7) := by unfold chkV; rw [if_pos (.inl h0)]
    rw [hc] at hq
    have i0 : (es.length : Int) < 1 := by omega
    simp -implicitDefEqProofs (disch := first | assumption | (simp only [wnA]; done) | (simp only [wnA]; omega) | omega | fail) [wkA, retV, stabOk, dC, ev, fillD, pickCells, putAt, bnd, slD, List.getElem?_cons_zero, List.getElem?_cons_succ, dR_sl, Mem.cell, Mem.row, wmA, ltT i0, hv.slen]
    exact hq m (Old.refl m)
  · have i0 : (1 : Int) ≤ (es.length : Int) := by omega
    by_cases h8 : 8 < es.length
    · have hc : chkV es = (-1, 7) := by unfold chkV; rw [if_pos (.inr h8)]
      rw [hc] at hq
      have i8 : (8 : Int) < (es.length : Int) := by omega
      simp -implicitDefEqProofs (disch := first | assumption | (simp only [wnA]; done) | (simp only [wnA]; omega) | omega | fail) [wkA, retV, stabOk, dC, ev, fillD, pickCells, putAt, bnd, slD, List.getElem?_cons_zero, List.getElem?_cons_succ, dR_sl, Mem.cell, Mem.row, wmA, ltF i0, gtT i8, hv.slen]
      exact hq m (Old.refl m)
    · have hc : chkV es = chkF es.length es 0 := by unfold chkV; rw [if_neg (by omega)]
      rw [hc] at hq
      have i8 : (es.length : Int) ≤ 8 := by omega
      simp -implicitDefEqProofs (disch := first | assumption | (simp only [wnA]; done) | (simp only [wnA]; omega) | omega | fail) [wkA, retV, stabOk, dC, ev, fillD, pickCells, putAt, bnd, slD, List.getElem?_cons_zero, List.getElem?_cons_succ, dR_sl, Mem.cell, Mem.row, wmA, ltF i0, gtF i8, hv.slen, rc21_6]
      refine LoopW_of (fun k ts m' => ∃ j, j + k = es.length ∧ Old m m' ∧ ts 0 = v ∧ ts 18 = v ∧ ts 19 = .int .i64 (es.length : Nat) ∧ ts 20 = .int .i64 (j : Nat) ∧ chkF k es j = chkF es.length es 0 ∧ (∀ x ∈ es.take j, rngP x)) es.length ?_ ?_
      · exact ⟨0, by omega, Old.refl m, by simp [frA_at], by simp [frA_at], by simp, by simp, rfl, fun x hx => by simp at hx⟩
      · rintro k ts m1 K ⟨j, hj, o1, t0, t18, t19, t20, hck, hpre⟩ hK
        simp -implicitDefEqProofs (disch := first | assumption | (simp only [wnA]; done) | (simp only [wnA]; omega) | omega | fail) [rc21_4, wkA, retV, stabOk, dC, ev, fillD, pickCells, putAt, bnd, slD, List.getElem?_cons_zero, List.getElem?_cons_succ, dR_sl, Mem.cell, Mem.row, wmA, t19, t20]
        by_cases hjl : j < es.length
        · have ijl : (j : Int) < (es.length : Int) := by omega
          have hjw : IntKind.i64.wrap ((j : Int) + 1) = ((j + 1 : Nat) : Int) := by rw [w64 (by omega)]; omega
          have hv1 := hv.keep fun b h => o1.2 b (vb b h)
          obtain ⟨bi, bo, L, hvv, hL, hLl, hLt, -⟩ := hv1.at hjl
          rw [flat_at enl es (List.getElem?_eq_getElem hjl)] at hLt
          obtain ⟨k, rfl⟩ : ∃ k', k = k' + 1 := ⟨k - 1, by omega⟩
          rw [chkF_step hjl] at hck
          have hei := he es[j] (List.getElem_mem hjl)
          have hpre' : rngB es[j] = true → ∀ x ∈ es.take (j + 1), rngP x := fun hb x hx => by
            rw [List.take_succ_eq_append_getElem hjl] at hx
            rcases List.mem_append.1 hx with hx | hx
            · exact hpre x hx
            · simp at hx; subst hx; exact rngB_iff.1 hb
          obtain ⟨pre, hpr⟩ : ∃ pre, es.take j = pre := ⟨_, rfl⟩
          have hpl : pre.length = j := by rw [← hpr, List.length_take]; omega
          have hsl := hv.upto (k := j) (by omega)
          rw [show (es.flatMap En.cells).take (j * 5) = pre.flatMap En.cells from by rw [← hpr]; exact flat_take enl es j] at hsl
          obtain ⟨vs, hvs, hvr, hvb⟩ := hsl
          rw [hpr] at hck hpre
          have vd := vdt_cases pre es[j]
          generalize es[j] = e at *
          obtain ⟨nm, ea, es', ep, ew⟩ := e
          have hLt' : (L.drop (bo + j * 5)).take 5 = [.string nm, .int .i64 ea, .int .i64 es', .int .u32 ep, .int .i64 ew] := hLt
          have hle : bo + j * 5 + 5 ≤ L.length := by omega
          have t18' := t18
          rw [hvv] at t18'
          simp -implicitDefEqProofs (disch := first | assumption | (simp only [wnA]; done) | (simp only [wnA]; omega) | omega | fail) [hjl, ijl, rc21_3, wkA, retV, stabOk, dC, ev, fillD, pickCells, putAt, bnd, slD, List.getElem?_cons_zero, List.getElem?_cons_succ, dR_sl, Mem.cell, Mem.row, wmA, t18', t20, sidx_at, hL, hLt', hle]
          refine SK_st (i := m1.next) (o := 0) (by simp [wkA, retV, stabOk, dC, ev, fillD, pickCells, putAt, bnd, slD, List.getElem?_cons_zero, List.getElem?_cons_succ, dR_sl]) (e := 36) (by simp -implicitDefEqProofs (disch := first | assumption | (simp only [wnA]; done) | (simp only [wnA]; omega) | omega | fail) [Mem.cell, Mem.row, wmA]; rfl) (by simp) (by simp [wkA, retV, stabOk, dC, ev, fillD, pickCells, putAt, bnd, slD, List.getElem?_cons_zero, List.getElem?_cons_succ, dR_sl]) (by simp [wkA, retV, stabOk, dC, ev, fillD, pickCells, putAt, bnd, slD, List.getElem?_cons_zero, List.getElem?_cons_succ, dR_sl, oneC]) ?_
          obtain ⟨M, hM⟩ : ∃ M, (m1.push (.own [.string ⟨#[]⟩, .int .i64 0, .int .i64 0, .int .u32 0, .int .i64 0] 36)).set m1.next (.own [.string nm, .int .i64 ea, .int .i64 es', .int .u32 ep, .int .i64 ew] 36) = M := ⟨_, rfl⟩
          have oM : Old m1 M := by subst hM; exact ((Old.refl m1).push _).set (Nat.le_refl _) _
          have gM : M.get m1.next = .own [.string nm, .int .i64 ea, .int .i64 es', .int .u32 ep, .int .i64 ew] 36 := by subst hM; rw [Mem.set_same]
          have nM : m1.next < M.next := by subst hM; simp
          have oMm := o1.trans oM
          simp -implicitDefEqProofs (disch := first | assumption | (simp only [wnA]; done) | (simp only [wnA]; omega) | omega | fail) [wkA, retV, stabOk, dC, ev, fillD, pickCells, putAt, bnd, slD, List.getElem?_cons_zero, List.getElem?_cons_succ, dR_sl, Mem.cell, Mem.row, wmA, hM, gM, t0, hvs, hvr.slen]
          have hvM : SlR M 5 vs (pre.flatMap En.cells) pre.length := by rw [hpl]; exact hvr.keep fun b h => oMm.2 b (vb b (hvb b h))
          have vbM : ∀ b, blk vs = some b → b < M.next := fun b h => Nat.lt_of_lt_of_le (vb b (hvb b h)) oMm.1
          refine w_inner (i5 := m1.next) (vs := vs) (pre := pre) (e := ⟨nm, ea, es', ep, ew⟩) hvM vbM (by omega) nM gM (by simp) (by simp) (by simp [hpl]) (by simp) (by simp) (by simp) fun fr' m' o' hs f6 f7 => ?_
          have f0 := (hs 0 (by simp)).trans (by simp [t0] : _ = v)
          have f4 := (hs 4 (by simp)).trans (by simp : _ = .int .i64 (j : Int))
          have f5 := (hs 5 (by simp)).trans (by simp : _ = .pointer (some ⟨m1.next, 0, none⟩))
          have f18 := (hs 18 (by simp)).trans (by simp [t18] : _ = v)
          have f19 := (hs 19 (by simp)).trans (by simp [t19] : _ = .int .i64 (es.length : Nat))
          have f20 := (hs 20 (by simp)).trans (by simp [t20] : _ = .int .i64 (j : Nat))
          have g5 := (o'.2 m1.next nM).trans gM
          have o2 := oMm.trans o'
          have nM' : m1.next < m'.next := Nat.lt_of_lt_of_le nM o'.1
          simp -implicitDefEqProofs (disch := first | assumption | (simp only [wnA]; done) | (simp only [wnA]; omega) | omega | fail) [wkA, retV, stabOk, dC, ev, fillD, pickCells, putAt, bnd, slD, List.getElem?_cons_zero, List.getElem?_cons_succ, dR_sl, Mem.cell, Mem.row, wmA, rc21_2, f5, g5]
          refine c_Name hei.1 ?_
          have hq1 : ∀ (n : Nat), vdt pre ⟨nm, ea, es', ep, ew⟩ = n + 1 → ∀ m', Old m m' → Q (.tuple ⟨[.int .i64 (j : Int), .int .i64 ((n + 1 : Nat) : Int)]⟩) m' := fun n hn m' o' => by
            rw [hn] at hck
            have hck : ((j : Int), n + 1) = chkF es.length es 0 := hck
            rw [← hck] at hq
            exact hq m' o'
          rcases vd with ⟨n1, hvd⟩ | ⟨n1, vd⟩
          · have n1 : nameB nm = false := n1
            simp -implicitDefEqProofs (disch := first | assumption | (simp only [wnA]; done) | (simp only [wnA]; omega) | omega | fail) [wkA, retV, stabOk, dC, ev, fillD, pickCells, putAt, bnd, slD, List.getElem?_cons_zero, List.getElem?_cons_succ, dR_sl, Mem.cell, Mem.row, wmA, n1, f4]
            exact hq1 2 hvd _ o2
          · have n1 : nameB nm = true := n1
            rcases vd with ⟨hd, hvd⟩ | ⟨hd, vd⟩
            · rw [hd] at f6
              simp -implicitDefEqProofs (disch := first | assumption | (simp only [wnA]; done) | (simp only [wnA]; omega) | omega | fail) [wkA, retV, stabOk, dC, ev, fillD, pickCells, putAt, bnd, slD, List.getElem?_cons_zero, List.getElem?_cons_succ, dR_sl, Mem.cell, Mem.row, wmA, n1, f4, f6]
              exact hq1 3 hvd _ o2
            · rw [hd] at f6
              have rr := room_le es' ew
              have bad : ¬ rngP ⟨nm, ea, es', ep, ew⟩ → vdt pre ⟨nm, ea, es', ep, ew⟩ = 4 + 1 := fun h => by
                rcases vd with ⟨-, h1⟩ | ⟨h1, -⟩
                · exact h1
                · exact absurd (rngB_iff.1 h1) h
              have rc := rng_cases2 ⟨nm, ea, es', ep, ew⟩
              simp only at rc
              rcases rc with h | ⟨h, h'⟩ | ⟨h, h', h1⟩ | ⟨h, h', h1, h2⟩ | ⟨h, h', h1, h2, h3⟩ | ⟨h, h', h1, h2, h3, h4⟩ | ⟨h, h', h1, h2, h3, h4, h9⟩ | ⟨h, h', h1, h2, h3, h4, h9⟩
              · have hb := bad fun hp => by have := hp.1; simp only at this; omega
                simp -implicitDefEqProofs (disch := first | assumption | (simp only [wnA]; done) | (simp only [wnA]; omega) | omega | fail) [wkA, retV, stabOk, dC, ev, fillD, pickCells, putAt, bnd, slD, List.getElem?_cons_zero, List.getElem?_cons_succ, dR_sl, Mem.cell, Mem.row, wmA, n1, f4, f5, f6, g5, ltT h]
                exact hq1 4 hb _ o2
              · have hb := bad fun hp => by have := hp.2.2.2.1; simp only at this; omega
                simp -implicitDefEqProofs (disch := first | assumption | (simp only [wnA]; done) | (simp only [wnA]; omega) | omega | fail) [wkA, retV, stabOk, dC, ev, fillD, pickCells, putAt, bnd, slD, List.getElem?_cons_zero, List.getElem?_cons_succ, dR_sl, Mem.cell, Mem.row, wmA, n1, f4, f5, f6, g5, ltF h, gtT h']
                exact hq1 4 hb _ o2
              · have hb := bad fun hp => by have := hp.2.1; simp only at this; omega
                simp -implicitDefEqProofs (disch := first | assumption | (simp only [wnA]; done) | (simp only [wnA]; omega) | omega | fail) [wkA, retV, stabOk, dC, ev, fillD, pickCells, putAt, bnd, slD, List.getElem?_cons_zero, List.getElem?_cons_succ, dR_sl, Mem.cell, Mem.row, wmA, n1, f4, f5, f6, g5, ltF h, gtF h', ltT h1]
                exact hq1 4 hb _ o2
              · have hb := bad fun hp => by have := hp.2.2.1; simp only at this; omega
                simp -implicitDefEqProofs (disch := first | assumption | (simp only [wnA]; done) | (simp only [wnA]; omega) | omega | fail) [wkA, retV, stabOk, dC, ev, fillD, pickCells, putAt, bnd, slD, List.getElem?_cons_zero, List.getElem?_cons_succ, dR_sl, Mem.cell, Mem.row, wmA, n1, f4, f5, f6, g5, ltF h, gtF h', ltF h1, gtT h2]
                exact hq1 4 hb _ o2
              all_goals have wr : IntKind.i64.wrap (ea + roomOf es' ew) = ea + roomOf es' ew := w64 (by omega)
              all_goals simp -implicitDefEqProofs (disch := first | assumption | (simp only [wnA]; done) | (simp only [wnA]; omega) | omega | fail) [wkA, retV, stabOk, dC, ev, fillD, pickCells, putAt, bnd, slD, List.getElem?_cons_zero, List.getElem?_cons_succ, dR_sl, Mem.cell, Mem.row, wmA, n1, f4, f5, f6, g5, ltF h, gtF h', ltF h1, gtF h2]
              all_goals refine c_room fun m3 o3 => ?_
              all_goals have g53 := (o3.2 m1.next nM').trans g5
              all_goals have o3m := o2.trans o3
              · have hb := bad fun hp => by have := hp.2.2.2.1; simp only at this; omega
                simp -implicitDefEqProofs (disch := first | assumption | (simp only [wnA]; done) | (simp only [wnA]; omega) | omega | fail) [wkA, retV, stabOk, dC, ev, fillD, pickCells, putAt, bnd, slD, List.getElem?_cons_zero, List.getElem?_cons_succ, dR_sl, Mem.cell, Mem.row, wmA, f5, g53, f4, wr, gtT h3]
                exact hq1 4 hb _ o3m
              · have hb := bad fun hp => by have := hp.2.2.2.2.1; simp only at this; omega
                simp -implicitDefEqProofs (disch := first | assumption | (simp only [wnA]; done) | (simp only [wnA]; omega) | omega | fail) [wkA, retV, stabOk, dC, ev, fillD, pickCells, putAt, bnd, slD, List.getElem?_cons_zero, List.getElem?_cons_succ, dR_sl, Mem.cell, Mem.row, wmA, f5, g53, f4, wr, gtF h3, ltT h4]
                exact hq1 4 hb _ o3m
              · have hb := bad fun hp => by have := hp.2.2.2.2.2; simp only at this; omega
                simp -implicitDefEqProofs (disch := first | assumption | (simp only [wnA]; done) | (simp only [wnA]; omega) | omega | fail) [wkA, retV, stabOk, dC, ev, fillD, pickCells, putAt, bnd, slD, List.getElem?_cons_zero, List.getElem?_cons_succ, dR_sl, Mem.cell, Mem.row, wmA, f5, g53, f4, wr, gtF h3, ltF h4, gtT h9]
                exact hq1 4 hb _ o3m
              · have hrp : rngP ⟨nm, ea, es', ep, ew⟩ := ⟨h, h1, h2, h3, h4, h9⟩
                have hrb := rngB_iff.2 hrp
                have hlw : pre.any (lapW ⟨nm, ea, es', ep, ew⟩) = pre.any (lapB ⟨nm, ea, es', ep, ew⟩) := by
                  have key : ∀ l : List En, (∀ x ∈ l, rngP x) → l.any (lapW ⟨nm, ea, es', ep, ew⟩) = l.any (lapB ⟨nm, ea, es', ep, ew⟩) := by
                    intro l
                    induction l with
                    | nil => intro _; rfl
                    | cons x l ih =>
                      intro h
                      rw [List.any_cons, List.any_cons, lapW_eq hrp (h x (by simp)), ih fun y hy => h y (by simp [hy])]
                  exact key pre hpre
                rw [hlw] at f7
                have vd : (pre.any (lapB ⟨nm, ea, es', ep, ew⟩) = true ∧ vdt pre ⟨nm, ea, es', ep, ew⟩ = 5 + 1) ∨ (pre.any (lapB ⟨nm, ea, es', ep, ew⟩) = false ∧ vdt pre ⟨nm, ea, es', ep, ew⟩ = 0) := by
                  rcases vd with ⟨h, -⟩ | ⟨-, h⟩
                  · rw [hrb] at h; cases h
                  · exact h
                rcases vd with ⟨hl, hv6⟩ | ⟨hl, hv0⟩
                · rw [hl] at f7
                  simp -implicitDefEqProofs (disch := first | assumption | (simp only [wnA]; done) | (simp only [wnA]; omega) | omega | fail) [wkA, retV, stabOk, dC, ev, fillD, pickCells, putAt, bnd, slD, List.getElem?_cons_zero, List.getElem?_cons_succ, dR_sl, Mem.cell, Mem.row, wmA, f5, g53, f4, f7, wr, gtF h3, ltF h4, gtF h9]
                  exact hq1 5 hv6 _ o3m
                · rw [hl] at f7
                  rw [if_pos hv0] at hck
                  simp -implicitDefEqProofs (disch := first | assumption | (simp only [wnA]; done) | (simp only [wnA]; omega) | omega | fail) [wkA, retV, stabOk, dC, ev, fillD, pickCells, putAt, bnd, slD, List.getElem?_cons_zero, List.getElem?_cons_succ, dR_sl, Mem.cell, Mem.row, wmA, f5, g53, f4, f7, f20, wr, gtF h3, ltF h4, gtF h9]
                  exact hK k _ m3 (by omega) ⟨j + 1, by omega, o3m, by simp [f0], by simp [f18], by simp [f19], by simp [hjw], hck, hpre' hrb⟩
        · have hjj : j = es.length := by omega
          subst hjj
          have ijl : ¬ (es.length : Int) < (es.length : Int) := by omega
          have hz : chkF k es es.length = (0, 0) := by
            cases k with
            | zero => rfl
            | succ k => simp only [chkF, List.getElem?_eq_none (Nat.le_refl _)]
          rw [hz] at hck
          rw [← hck] at hq
          simp -implicitDefEqProofs (disch := first | assumption | (simp only [wnA]; done) | (simp only [wnA]; omega) | omega | fail) [wkA, retV, stabOk, dC, ev, fillD, pickCells, putAt, bnd, slD, List.getElem?_cons_zero, List.getElem?_cons_succ, dR_sl, Mem.cell, Mem.row, wmA, ijl, rc21_5]
          exact hq m1 o1
end Go.Proofs.YtgfkjldohilmkaaDoor.Ab

set_option linter.unusedVariables false
set_option linter.unusedSimpArgs false
namespace Go.Proofs.YtgfkjldohilmkaaDoor.Ab
open Go Go.RowKit
set_option maxHeartbeats 4000000
set_option maxRecDepth 100000

theorem w_lline {w0 : World} {Q : AQ} {ts : Fr} {base m : Mem} {b : Nat} {bs : List UInt8} {e : En} (ho : Old base m) (he : e.ok) (hm : -9223372036854775807 ≤ e.a ∧ -9223372036854775807 ≤ e.s) (hbl : bs.length ≤ 1099511627776) (hg : m.get b = .own e.cells 36) (hbn : b < m.next)
    (t3 : ts 3 = .string ⟨⟨bs⟩⟩) (t5 : ts 5 = .pointer (some ⟨b, 0, none⟩)) (t6 : ts 6 = .string ⟨⟨wayL e.w⟩⟩)
    (hq : ∀ ts' m', ts' 3 = .string ⟨⟨bs ++ lineL e⟩⟩ → ts' 9 = ts 9 → ts' 10 = ts 10 → ts' 11 = ts 11 → Old base m' → Q .normal ts' m') : AbW Tryd.prog w0 rc13_0 Q ts m := by
  have hll := lineL_len he
  obtain ⟨h1, h2, h3, h4, h5⟩ := he
  have l1 := qL_len e.nm.data.toList
  have l2 := num_len (B := 16) (.inr rfl) h2
  have l3 := num_len (B := 10) (.inl rfl) h3
  have l4 := digs_64 (b := 16) (n := e.p.toNat) (by omega) (by omega)
  have l5 := wayL_len e.w
  have l6 : e.nm.data.toList.length = e.nm.size := by simp
  simp only [En.cells] at hg
  simp -implicitDefEqProofs (disch := first | assumption | (simp only [wnA]; done) | (simp only [wnA]; omega) | omega | fail) [rc13_0, wkA, retV, stabOk, dC, ev, fillD, pickCells, putAt, bnd, slD, List.getElem?_cons_zero, List.getElem?_cons_succ, dR_sl, Mem.cell, Mem.row, wmA, t5, hg]
  refine c_Quote (by omega) fun m1 o1 => ?_
  rw [quoteV_eq]
  have g1 := o1.2 b hbn ▸ hg
  obtain ⟨u, hu, hu2⟩ : ∃ u : Nat, e.p = u ∧ u ≤ 4294967295 := ⟨e.p.toNat, by omega, by omega⟩
  have wu : IntKind.i64.wrap e.p = (u : Int) := by rw [hu]; exact w64 (by omega)
  have hut : e.p.toNat = u := by omega
  rw [hut] at l4
  have hnu : numS 16 (u : Int) = digs 16 u := numS_nat 16 u
  simp -implicitDefEqProofs (disch := first | assumption | (simp only [wnA]; done) | (simp only [wnA]; omega) | omega | (simp only [List.length_append, List.length_cons, List.length_nil]; omega) | fail) [wkA, retV, stabOk, dC, ev, fillD, pickCells, putAt, bnd, slD, List.getElem?_cons_zero, List.getElem?_cons_succ, dR_sl, Mem.cell, Mem.row, wmA, t3, t5, t6, g1, cat2, wu]
  refine c_digits (B := 16) (.inr rfl) (by omega) ?_
  simp -implicitDefEqProofs (disch := first | assumption | (simp only [wnA]; done) | (simp only [wnA]; omega) | omega | (simp only [List.length_append, List.length_cons, List.length_nil]; omega) | fail) [wkA, retV, stabOk, dC, ev, fillD, pickCells, putAt, bnd, slD, List.getElem?_cons_zero, List.getElem?_cons_succ, dR_sl, Mem.cell, Mem.row, wmA, t3, t5, t6, g1, cat2, wu]
  refine c_digits (B := 10) (.inl rfl) (by omega) ?_
  simp -implicitDefEqProofs (disch := first | assumption | (simp only [wnA]; done) | (simp only [wnA]; omega) | omega | (simp only [List.length_append, List.length_cons, List.length_nil]; omega) | fail) [wkA, retV, stabOk, dC, ev, fillD, pickCells, putAt, bnd, slD, List.getElem?_cons_zero, List.getElem?_cons_succ, dR_sl, Mem.cell, Mem.row, wmA, t3, t5, t6, g1, cat2, wu]
  refine c_digits (B := 16) (.inr rfl) (by omega) ?_
  rw [hnu]
  simp -implicitDefEqProofs (disch := first | assumption | (simp only [wnA]; done) | (simp only [wnA]; omega) | omega | (simp only [List.length_append, List.length_cons, List.length_nil]; omega) | fail) [wkA, retV, stabOk, dC, ev, fillD, pickCells, putAt, bnd, slD, List.getElem?_cons_zero, List.getElem?_cons_succ, dR_sl, Mem.cell, Mem.row, wmA, t3, t5, t6, g1, cat2, wu]
  refine hq _ m1 ?_ (by simp) (by simp) (by simp) (ho.trans o1)
  simp [lineL, hut]

theorem c_LText {w0 : World} {m : Mem} {v : Value} {es : List En} {Q : Value → Mem → Prop} (hv : SlR m 5 v (es.flatMap En.cells) es.length) (hvb : ∀ b, blk v = some b → b < m.next) (he : ∀ e ∈ es, e.ok) (hm : ∀ e ∈ es, -9223372036854775807 ≤ e.a ∧ -9223372036854775807 ≤ e.s) (hl : totE es ≤ 1099511627776) (hn : es.length ≤ 1048576)
    (hq : ∀ m', Old m m' → Q (.string ⟨⟨es.flatMap lineL⟩⟩) m') : AbC Tryd.prog w0 13 [v] m Q := by
  refine AbC_fn ok13 (by simp) ?_
  simp -implicitDefEqProofs (disch := first | assumption | (simp only [wnA]; done) | (simp only [wnA]; omega) | omega | fail) [rc13, ro13, wkA, retV, stabOk, dC, ev, fillD, pickCells, putAt, bnd, slD, List.getElem?_cons_zero, List.getElem?_cons_succ, dR_sl, Mem.cell, Mem.row, wmA, hv.slen]
  refine LoopW_of (fun k ts m' => ∃ j, j + k = es.length ∧ ts 3 = .string ⟨⟨(es.take j).flatMap lineL⟩⟩ ∧ ts 9 = v ∧ ts 10 = .int .i64 (es.length : Nat) ∧ ts 11 = .int .i64 (j : Nat) ∧ Old m m') es.length ?_ ?_
  · exact ⟨0, by omega, by simp, by simp [frA_at], by simp, by simp, Old.refl m⟩
  · rintro k ts m1 K ⟨j, hj, t3, t9, t10, t11, hb⟩ hK
    have hlen := lines_len (es := es.take j) fun e h => he e (List.mem_of_mem_take h)
    have htk := totE_take es j
    simp -implicitDefEqProofs (disch := first | assumption | (simp only [wnA]; done) | (simp only [wnA]; omega) | omega | fail) [rc13_2, wkA, retV, stabOk, dC, ev, fillD, pickCells, putAt, bnd, slD, List.getElem?_cons_zero, List.getElem?_cons_succ, dR_sl, Mem.cell, Mem.row, wmA, t10, t11]
    by_cases hjl : j < es.length
    · have hv1 : SlR m1 5 v (es.flatMap En.cells) es.length := hv.keep fun b h => hb.2 b (hvb b h)
      obtain ⟨bi, bo, L, hvv, hL, hLl, hLt, -⟩ := hv1.at hjl
      rw [flat_at enl es (List.getElem?_eq_getElem hjl)] at hLt
      obtain ⟨e, hx⟩ : ∃ e, es[j] = e := ⟨_, rfl⟩
      have heo : e.ok := he e (by rw [← hx]; exact List.getElem_mem hjl)
      have hem := hm e (by rw [← hx]; exact List.getElem_mem hjl)
      have hnx : (es.take (j + 1)).flatMap lineL = (es.take j).flatMap lineL ++ lineL e := by
        rw [List.take_succ_eq_append_getElem hjl, List.flatMap_append, hx]; simp
      rw [hx] at hLt
      rw [hvv] at t9
      have hle : bo + j * 5 + 5 ≤ L.length := by omega
      have hjw : IntKind.i64.wrap ((j : Int) + 1) = ((j + 1 : Nat) : Int) := by rw [w64 (by omega)]; omega
      generalize (es.take j).flatMap lineL = S at *
      simp -implicitDefEqProofs (disch := first | assumption | (simp only [wnA]; done) | (simp only [wnA]; omega) | omega | fail) [hjl, rc13_1, wkA, retV, stabOk, dC, ev, fillD, pickCells, putAt, bnd, slD, List.getElem?_cons_zero, List.getElem?_cons_succ, dR_sl, Mem.cell, Mem.row, wmA, t3, t9, t10, t11, sidx_at, hL, hLt, hle]
      refine SK_st (i := m1.next) (o := 0) (by simp [wkA, retV, stabOk, dC, ev, fillD, pickCells, putAt, bnd, slD, List.getElem?_cons_zero, List.getElem?_cons_succ, dR_sl]) (e := 36) (by simp -implicitDefEqProofs (disch := first | assumption | (simp only [wnA]; done) | (simp only [wnA]; omega) | omega | fail) [Mem.cell, Mem.row, wmA]; rfl) (by simp) (by simp [wkA, retV, stabOk, dC, ev, fillD, pickCells, putAt, bnd, slD, List.getElem?_cons_zero, List.getElem?_cons_succ, dR_sl, En.cells]) (by simp [wkA, retV, stabOk, dC, ev, fillD, pickCells, putAt, bnd, slD, List.getElem?_cons_zero, List.getElem?_cons_succ, dR_sl, En.cells, oneC]) ?_
      simp -implicitDefEqProofs (disch := first | assumption | (simp only [wnA]; done) | (simp only [wnA]; omega) | omega | fail) [wkA, retV, stabOk, dC, ev, fillD, pickCells, putAt, bnd, slD, List.getElem?_cons_zero, List.getElem?_cons_succ, dR_sl, Mem.cell, Mem.row, wmA, En.cells]
      have ho : Old m1 ((m1.push (.own [.string ⟨#[]⟩, .int .i64 0, .int .i64 0, .int .u32 0, .int .i64 0] 36)).set m1.next (.own [.string e.nm, .int .i64 e.a, .int .i64 e.s, .int .u32 e.p, .int .i64 e.w] 36)) := ((Old.refl m1).push _).set (Nat.le_refl _) _
      have hg : ((m1.push (.own [.string ⟨#[]⟩, .int .i64 0, .int .i64 0, .int .u32 0, .int .i64 0] 36)).set m1.next (.own [.string e.nm, .int .i64 e.a, .int .i64 e.s, .int .u32 e.p, .int .i64 e.w] 36)).get m1.next = .own e.cells 36 := by simp [En.cells]
      have hbn : m1.next < ((m1.push (.own [.string ⟨#[]⟩, .int .i64 0, .int .i64 0, .int .u32 0, .int .i64 0] 36)).set m1.next (.own [.string e.nm, .int .i64 e.a, .int .i64 e.s, .int .u32 e.p, .int .i64 e.w] 36)).next := by simp
      generalize (m1.push (.own [.string ⟨#[]⟩, .int .i64 0, .int .i64 0, .int .u32 0, .int .i64 0] 36)).set m1.next (.own [.string e.nm, .int .i64 e.a, .int .i64 e.s, .int .u32 e.p, .int .i64 e.w] 36) = M at *
      have hbM := hb.trans ho
      have hgM := hg
      simp only [En.cells] at hgM
      have wy : ∀ k, e.w = k → (k = 1 ∨ k = 2 ∨ k = 3) → sidx 1 (.slice (some ⟨M.next, 0, none⟩) 4 1) (.int .i64 e.w) = some (.pointer (some ⟨M.next, k.toNat, none⟩)) := by
        rintro k rfl (h | h | h) <;> rw [h] <;> rfl
      by_cases hw : 0 < e.w ∧ e.w < 4
      · simp -implicitDefEqProofs (disch := first | assumption | (simp only [wnA]; done) | (simp only [wnA]; omega) | omega | fail) [wkA, retV, stabOk, dC, ev, fillD, pickCells, putAt, bnd, slD, List.getElem?_cons_zero, List.getElem?_cons_succ, dR_sl, Mem.cell, Mem.row, wmA, hgM, hw]
        rw [SK_bsl (cs := [.string ⟨⟨[]⟩⟩, .string ⟨⟨wayL 1⟩⟩, .string ⟨⟨wayL 2⟩⟩, .string ⟨⟨wayL 3⟩⟩]) (by simp [wkA, retV, stabOk, dC, ev, fillD, pickCells, putAt, bnd, slD, List.getElem?_cons_zero, List.getElem?_cons_succ, dR_sl, wayL]) (by simp)]
        have hk : e.w = 1 ∨ e.w = 2 ∨ e.w = 3 := by omega
        have hne : m1.next ≠ M.next := by omega
        rcases hk with h | h | h
        all_goals
          have wy1 := wy _ h (by omega)
          simp -implicitDefEqProofs (disch := first | assumption | (simp only [wnA]; done) | (simp only [wnA]; omega) | omega | fail) [wkA, retV, stabOk, dC, ev, fillD, pickCells, putAt, bnd, slD, List.getElem?_cons_zero, List.getElem?_cons_succ, dR_sl, Mem.cell, Mem.row, wmA, hgM, wy1]
          refine w_lline (b := m1.next) (bs := S) (e := e) (hbM.push _) heo hem (by omega) (by rw [Mem.push_old _ _ hbn]; exact hg) (by simp; omega) (by simp [t3]) (by simp) (by simp [h]) fun ts' m' r3 r9 r10 r11 hb' => ?_
          simp at r9 r10 r11
          simp -implicitDefEqProofs (disch := first | assumption | (simp only [wnA]; done) | (simp only [wnA]; omega) | omega | fail) [wkA, retV, stabOk, dC, ev, fillD, pickCells, putAt, bnd, slD, List.getElem?_cons_zero, List.getElem?_cons_succ, dR_sl, Mem.cell, Mem.row, wmA, r11, t11, hjw]
          exact hK (k - 1) _ _ (by omega) ⟨j + 1, by omega, by rw [hnx]; simp [r3], by simp [r9, t9, hvv], by simp [r10, t10], by simp, hb'⟩
      · have hwl : wayL e.w = wayL 0 := by
          unfold wayL
          rw [if_neg (by omega), if_neg (by omega), if_neg (by omega)]
          rfl
        by_cases h0 : 0 < e.w
        · have h3 : ¬ e.w < 4 := by omega
          simp -implicitDefEqProofs (disch := first | assumption | (simp only [wnA]; done) | (simp only [wnA]; omega) | omega | fail) [wkA, retV, stabOk, dC, ev, fillD, pickCells, putAt, bnd, slD, List.getElem?_cons_zero, List.getElem?_cons_succ, dR_sl, Mem.cell, Mem.row, wmA, hgM, h0, h3]
          refine w_lline (b := m1.next) (bs := S) (e := e) hbM heo hem (by omega) hg hbn (by simp [t3]) (by simp) (by simp [hwl]; rfl) fun ts' m' r3 r9 r10 r11 hb' => ?_
          simp at r9 r10 r11
          simp -implicitDefEqProofs (disch := first | assumption | (simp only [wnA]; done) | (simp only [wnA]; omega) | omega | fail) [wkA, retV, stabOk, dC, ev, fillD, pickCells, putAt, bnd, slD, List.getElem?_cons_zero, List.getElem?_cons_succ, dR_sl, Mem.cell, Mem.row, wmA, r11, t11, hjw]
          exact hK (k - 1) _ _ (by omega) ⟨j + 1, by omega, by rw [hnx]; simp [r3], by simp [r9, t9, hvv], by simp [r10, t10], by simp, hb'⟩
        · simp -implicitDefEqProofs (disch := first | assumption | (simp only [wnA]; done) | (simp only [wnA]; omega) | omega | fail) [wkA, retV, stabOk, dC, ev, fillD, pickCells, putAt, bnd, slD, List.getElem?_cons_zero, List.getElem?_cons_succ, dR_sl, Mem.cell, Mem.row, wmA, hgM, h0]
          refine w_lline (b := m1.next) (bs := S) (e := e) hbM heo hem (by omega) hg hbn (by simp [t3]) (by simp) (by simp [hwl]; rfl) fun ts' m' r3 r9 r10 r11 hb' => ?_
          simp at r9 r10 r11
          simp -implicitDefEqProofs (disch := first | assumption | (simp only [wnA]; done) | (simp only [wnA]; omega) | omega | fail) [wkA, retV, stabOk, dC, ev, fillD, pickCells, putAt, bnd, slD, List.getElem?_cons_zero, List.getElem?_cons_succ, dR_sl, Mem.cell, Mem.row, wmA, r11, t11, hjw]
          exact hK (k - 1) _ _ (by omega) ⟨j + 1, by omega, by rw [hnx]; simp [r3], by simp [r9, t9, hvv], by simp [r10, t10], by simp, hb'⟩
    · have hjj : j = es.length := by omega
      subst hjj
      rw [List.take_length] at t3
      simp -implicitDefEqProofs (disch := first | assumption | (simp only [wnA]; done) | (simp only [wnA]; omega) | omega | fail) [hjl, rc13_3, wkA, retV, stabOk, dC, ev, fillD, pickCells, putAt, bnd, slD, List.getElem?_cons_zero, List.getElem?_cons_succ, dR_sl, Mem.cell, Mem.row, wmA, t3]
      exact hq m1 hb

theorem l_Text {w0 : World} {m : Mem} {v : Value} {es : List En} (hp : Part L0 m) (ht : Ten w0) (hv : SlR m 5 v (es.flatMap En.cells) es.length) (hvb : ∀ b, blk v = some b → b < m.next) (he : ∀ e ∈ es, e.ok) (hl : totE es ≤ 1099511627776) (hn : es.length ≤ 1048576) :
    AbC Tryd.prog w0 4 [v] m fun v _ => v = .bool true := by
  refine AbC_fn ok4 (by simp) ?_
  simp -implicitDefEqProofs (disch := first | assumption | (simp only [wnA]; done) | (simp only [wnA]; omega) | omega | fail) [rc4, ro4, wkA, retV, stabOk, dC, ev, fillD, pickCells, putAt, bnd, slD, List.getElem?_cons_zero, List.getElem?_cons_succ, dR_sl, Mem.cell, Mem.row, wmA]
  refine c_awake hp ?_
  simp -implicitDefEqProofs (disch := first | assumption | (simp only [wnA]; done) | (simp only [wnA]; omega) | omega | fail) [rc4_3, wkA, retV, stabOk, dC, ev, fillD, pickCells, putAt, bnd, slD, List.getElem?_cons_zero, List.getElem?_cons_succ, dR_sl, Mem.cell, Mem.row, wmA, hv.slen]
  refine LoopW_of (fun k ts m' => ∃ j, j + k = es.length ∧ ts 0 = v ∧ ts 8 = v ∧ ts 9 = .int .i64 (es.length : Nat) ∧ ts 10 = .int .i64 (j : Nat) ∧ Old m m' ∧ ∀ i e, i < j → es[i]? = some e → -1099511627776 ≤ e.a ∧ -1099511627776 ≤ e.s) es.length ?_ ?_
  · exact ⟨0, by omega, by simp [frA_at], by simp [frA_at], by simp, by simp, Old.refl m, fun i e hi => by omega⟩
  · rintro k ts m1 K ⟨j, hj, t0, t8, t9, t10, ho1, hall⟩ hK
    simp -implicitDefEqProofs (disch := first | assumption | (simp only [wnA]; done) | (simp only [wnA]; omega) | omega | fail) [rc4_1, wkA, retV, stabOk, dC, ev, fillD, pickCells, putAt, bnd, slD, List.getElem?_cons_zero, List.getElem?_cons_succ, dR_sl, Mem.cell, Mem.row, wmA, t9, t10]
    have hv1 : SlR m1 5 v (es.flatMap En.cells) es.length := hv.keep fun b h => ho1.2 b (hvb b h)
    by_cases hjl : j < es.length
    · obtain ⟨bi, bo, L, hvv, hL, hLl, hLt, -⟩ := hv1.at hjl
      rw [flat_at enl es (List.getElem?_eq_getElem hjl)] at hLt
      obtain ⟨e, hx⟩ : ∃ e, es[j] = e := ⟨_, rfl⟩
      rw [hx] at hLt
      rw [hvv] at t8
      have hle : bo + j * 5 + 5 ≤ L.length := by omega
      have hjw : IntKind.i64.wrap ((j : Int) + 1) = ((j + 1 : Nat) : Int) := by rw [w64 (by omega)]; omega
      simp -implicitDefEqProofs (disch := first | assumption | (simp only [wnA]; done) | (simp only [wnA]; omega) | omega | fail) [hjl, rc4_0, wkA, retV, stabOk, dC, ev, fillD, pickCells, putAt, bnd, slD, List.getElem?_cons_zero, List.getElem?_cons_succ, dR_sl, Mem.cell, Mem.row, wmA, t8, t9, t10, sidx_at, hL, hLt, hle]
      refine SK_st (i := m1.next) (o := 0) (by simp [wkA, retV, stabOk, dC, ev, fillD, pickCells, putAt, bnd, slD, List.getElem?_cons_zero, List.getElem?_cons_succ, dR_sl]) (e := 36) (by simp -implicitDefEqProofs (disch := first | assumption | (simp only [wnA]; done) | (simp only [wnA]; omega) | omega | fail) [Mem.cell, Mem.row, wmA]; rfl) (by simp) (by simp [wkA, retV, stabOk, dC, ev, fillD, pickCells, putAt, bnd, slD, List.getElem?_cons_zero, List.getElem?_cons_succ, dR_sl, En.cells]) (by simp [wkA, retV, stabOk, dC, ev, fillD, pickCells, putAt, bnd, slD, List.getElem?_cons_zero, List.getElem?_cons_succ, dR_sl, En.cells, oneC]) ?_
      simp -implicitDefEqProofs (disch := first | assumption | (simp only [wnA]; done) | (simp only [wnA]; omega) | omega | fail) [wkA, retV, stabOk, dC, ev, fillD, pickCells, putAt, bnd, slD, List.getElem?_cons_zero, List.getElem?_cons_succ, dR_sl, Mem.cell, Mem.row, wmA, En.cells]
      by_cases ha : e.a < -1099511627776
      · simp -implicitDefEqProofs (disch := first | assumption | (simp only [wnA]; done) | (simp only [wnA]; omega) | omega | fail) [wkA, retV, stabOk, dC, ev, fillD, pickCells, putAt, bnd, slD, List.getElem?_cons_zero, List.getElem?_cons_succ, dR_sl, Mem.cell, Mem.row, wmA, ha]
      · by_cases hs : e.s < -1099511627776
        · simp -implicitDefEqProofs (disch := first | assumption | (simp only [wnA]; done) | (simp only [wnA]; omega) | omega | fail) [wkA, retV, stabOk, dC, ev, fillD, pickCells, putAt, bnd, slD, List.getElem?_cons_zero, List.getElem?_cons_succ, dR_sl, Mem.cell, Mem.row, wmA, ha, hs]
        · simp -implicitDefEqProofs (disch := first | assumption | (simp only [wnA]; done) | (simp only [wnA]; omega) | omega | fail) [wkA, retV, stabOk, dC, ev, fillD, pickCells, putAt, bnd, slD, List.getElem?_cons_zero, List.getElem?_cons_succ, dR_sl, Mem.cell, Mem.row, wmA, ha, hs, t10, hjw]
          refine hK (k - 1) _ _ (by omega) ⟨j + 1, by omega, by simp [t0], by simp [t8, hvv], by simp [t9], by simp, (ho1.push _).set ho1.1 _, fun i x hi hxi => ?_⟩
          by_cases hij : i = j
          · subst hij
            rw [List.getElem?_eq_getElem hjl, hx] at hxi
            cases hxi
            omega
          · exact hall i x (by omega) hxi
    · have hjj : j = es.length := by omega
      subst hjj
      have hm : ∀ e ∈ es, -9223372036854775807 ≤ e.a ∧ -9223372036854775807 ≤ e.s := by
        intro e hem
        obtain ⟨i, hi, hxi⟩ := List.mem_iff_getElem.1 hem
        have := hall i e hi (by rw [List.getElem?_eq_getElem hi, hxi])
        omega
      simp -implicitDefEqProofs (disch := first | assumption | (simp only [wnA]; done) | (simp only [wnA]; omega) | omega | fail) [hjl, rc4_2, wkA, retV, stabOk, dC, ev, fillD, pickCells, putAt, bnd, slD, List.getElem?_cons_zero, List.getElem?_cons_succ, dR_sl, Mem.cell, Mem.row, wmA, t0]
      refine c_Ways ?_
      have o2 : Old m (m1.push (.own [.string ⟨⟨wayL 0⟩⟩, .string ⟨⟨wayL 1⟩⟩, .string ⟨⟨wayL 2⟩⟩, .string ⟨⟨wayL 3⟩⟩] 9)) := ho1.push _
      have g2 : (m1.push (.own [.string ⟨⟨wayL 0⟩⟩, .string ⟨⟨wayL 1⟩⟩, .string ⟨⟨wayL 2⟩⟩, .string ⟨⟨wayL 3⟩⟩] 9)).get m1.next = .own [.string ⟨⟨wayL 0⟩⟩, .string ⟨⟨wayL 1⟩⟩, .string ⟨⟨wayL 2⟩⟩, .string ⟨⟨wayL 3⟩⟩] 9 := by simp
      have n2 : m1.next < (m1.push (.own [.string ⟨⟨wayL 0⟩⟩, .string ⟨⟨wayL 1⟩⟩, .string ⟨⟨wayL 2⟩⟩, .string ⟨⟨wayL 3⟩⟩] 9)).next := by simp
      generalize m1.push (.own [.string ⟨⟨wayL 0⟩⟩, .string ⟨⟨wayL 1⟩⟩, .string ⟨⟨wayL 2⟩⟩, .string ⟨⟨wayL 3⟩⟩] 9) = M at *
      simp -implicitDefEqProofs (disch := first | assumption | (simp only [wnA]; done) | (simp only [wnA]; omega) | omega | fail) [wkA, retV, stabOk, dC, ev, fillD, pickCells, putAt, bnd, slD, List.getElem?_cons_zero, List.getElem?_cons_succ, dR_sl, Mem.cell, Mem.row, wmA, t0]
      refine c_MText (o2.part hp) ht (hv.keep fun b h => o2.2 b (hvb b h)) (fun b h => Nat.lt_of_lt_of_le (hvb b h) o2.1) he hl hn fun m3 o3 => ?_
      have o3' := o2.trans o3
      simp -implicitDefEqProofs (disch := first | assumption | (simp only [wnA]; done) | (simp only [wnA]; omega) | omega | fail) [wkA, retV, stabOk, dC, ev, fillD, pickCells, putAt, bnd, slD, List.getElem?_cons_zero, List.getElem?_cons_succ, dR_sl, Mem.cell, Mem.row, wmA, t0]
      refine c_LText (hv.keep fun b h => o3'.2 b (hvb b h)) (fun b h => Nat.lt_of_lt_of_le (hvb b h) o3'.1) he hm hl hn fun m4 o4 => ?_
      have g4 : m4.get m1.next = .own [.string ⟨⟨wayL 0⟩⟩, .string ⟨⟨wayL 1⟩⟩, .string ⟨⟨wayL 2⟩⟩, .string ⟨⟨wayL 3⟩⟩] 9 := by rw [o4.2 _ (Nat.lt_of_lt_of_le n2 o3.1), o3.2 _ n2]; exact g2
      have s0 : sidx 1 (.slice (some ⟨m1.next, 0, none⟩) 4 1) (.int .i64 0) = some (.pointer (some ⟨m1.next, 0, none⟩)) := rfl
      have s3 : sidx 1 (.slice (some ⟨m1.next, 0, none⟩) 4 1) (.int .i64 3) = some (.pointer (some ⟨m1.next, 3, none⟩)) := rfl
      simp -implicitDefEqProofs (disch := first | assumption | (simp only [wnA]; done) | (simp only [wnA]; omega) | omega | fail) [wkA, retV, stabOk, dC, ev, fillD, pickCells, putAt, bnd, slD, List.getElem?_cons_zero, List.getElem?_cons_succ, dR_sl, Mem.cell, Mem.row, wmA, g4, s0, s3, wayL]

theorem wf_u32' {n : Int} (h : (Lit.int .u32 n).wf = true) : 0 ≤ n ∧ n ≤ 4294967295 := by
  have : 0 ≤ n ∧ n ≤ 4294967295 := by simpa [Lit.wf, IntKind.min, IntKind.max, IntKind.signed, IntKind.bits] using h
  exact this
theorem wf_i64' {n : Int} (h : (Lit.int .i64 n).wf = true) : -9223372036854775808 ≤ n ∧ n ≤ 9223372036854775807 := by
  have : -9223372036854775808 ≤ n ∧ n ≤ 9223372036854775807 := by simpa [Lit.wf, IntKind.min, IntKind.max, IntKind.signed, IntKind.bits] using h
  exact this
def En.rng (e : En) : Prop := (-9223372036854775808 ≤ e.a ∧ e.a ≤ 9223372036854775807) ∧ (-9223372036854775808 ≤ e.s ∧ e.s ≤ 9223372036854775807) ∧ (0 ≤ e.p ∧ e.p ≤ 4294967295) ∧ (-9223372036854775808 ≤ e.w ∧ e.w ≤ 9223372036854775807)
theorem absT_ents {m : Mem} {td : TD} {v : Value} (h : AbsT m td [v]) (hs : Fits (.sl entryShp) td) :
    ∃ es : List En, SlR m 5 v (es.flatMap En.cells) es.length ∧ (∀ b, blk v = some b → b < m.next) ∧ (∀ e ∈ es, e.rng) ∧ es.length + 1 ≤ td.bulk ∧ (es.map fun e => e.nm.size).sum + 1 ≤ td.bulk := by
  obtain ⟨l, xs, rfl, h1, h2, h3⟩ := absT_slice (f := En.cells) (z := 5) (R := fun d e => e.rng ∧ e.nm.size ≤ d.bulk) enl (fun d c hf ha => by
    obtain ⟨nm, a, s, p, w, rfl, w1, w2, w3, w4, w5, rfl⟩ := absT_entry ha hf
    refine ⟨⟨nm, a, s, p, w⟩, rfl, ⟨wf_i64' w2, wf_i64' w3, wf_u32' w4, wf_i64' w5⟩, ?_⟩
    simp [TD.bulk, TD.bulks]; omega) h hs
  refine ⟨xs, h1, h3, fun e he => (h2.right e he).choose_spec.2.1, ?_, ?_⟩
  · have := TD.bulks_len l
    rw [h2.length]
    simp [TD.bulk]; omega
  · have := h2.sum (g := fun e => e.nm.size) fun d b hr => hr.2
    simp [TD.bulk]; omega
theorem totE_eq (es : List En) : totE es = 2 * (es.map fun e => e.nm.size).sum + 130 * es.length := by
  induction es with
  | nil => rfl
  | cons x xs ih => simp only [totE, List.map_cons, List.sum_cons, List.length_cons] at ih ⊢; omega
theorem size_le_sum {es : List En} {e : En} (h : e ∈ es) : e.nm.size ≤ (es.map fun e => e.nm.size).sum := by
  induction es with
  | nil => cases h
  | cons x xs ih =>
    simp only [List.map_cons, List.sum_cons]
    rcases List.mem_cons.1 h with rfl | h
    · omega
    · have := ih h; omega
theorem l_TextA {w0 : World} {m : Mem} {v : Value} {td : TD} (hp : Part L0 m) (ht : Ten w0) (hb : AbsT m td [v]) (hf : Fits (.sl entryShp) td) (hk : td.bulk ≤ 1048576) : AbC Tryd.prog w0 4 [v] m fun v _ => v = .bool true := by
  obtain ⟨es, s, q, r, k1, k2⟩ := absT_ents hb hf
  refine l_Text hp ht s q (fun e he => ?_) (by rw [totE_eq]; omega) (by omega)
  have := size_le_sum he
  exact ⟨by omega, r e he⟩
end Go.Proofs.YtgfkjldohilmkaaDoor.Ab

set_option linter.unusedVariables false
set_option linter.unusedSimpArgs false
namespace Go.Proofs.YtgfkjldohilmkaaDoor.Ab
open Go Go.RowKit
set_option maxHeartbeats 4000000
set_option maxRecDepth 100000

theorem lines_short {es : List En} (h : ∀ e ∈ es, EnP e ∧ e.nm.size ≤ 10) : totE es ≤ es.length * 150 := by
  have := nm_sum es 10 fun e he => (h e he).2
  omega
theorem entsA_facts {xs : List Ac} (h : ∀ x ∈ xs, x.rng) : (∀ e ∈ entsA xs, EnP e ∧ e.nm.size ≤ 10) ∧ (entsA xs).length ≤ 8 ∧ totE (entsA xs) ≤ 1200 := by
  have h1 := entsJ_good (Nat.le_refl _) h
  have h2 := entsJ_len xs xs.length
  have h3 := lines_short h1
  refine ⟨h1, ?_, ?_⟩
  · unfold entsA; omega
  · have : (entsJ xs xs.length).length * 150 ≤ 8 * 150 := Nat.mul_le_mul_right _ (by omega)
    unfold entsA; omega

theorem l_Back {w0 : World} {m : Mem} {v : Value} {xs : List Ac} (hp : Part L0 m) (ht : Ten w0) (hE : ErrV w0) (hv : SlR m 5 v (xs.flatMap Ac.cells) xs.length) (hb : ∀ b, blk v = some b → b < m.next) (hx : ∀ x ∈ xs, AcOk m x) (hn : xs.length ≤ maxLen) :
    AbC Tryd.prog w0 3 [v] m fun v _ => v = .bool true := by
  refine AbC_fn ok3 (by simp) ?_
  simp -implicitDefEqProofs (disch := first | assumption | (simp only [wnA]; done) | (simp only [wnA]; omega) | omega | fail) [rc3, ro3, wkA, retV, stabOk, dC, ev, fillD, pickCells, putAt, bnd, slD, List.getElem?_cons_zero, List.getElem?_cons_succ, dR.eq_20, Mem.cell, Mem.row, wmA]
  refine c_awake hp ?_
  simp -implicitDefEqProofs (disch := first | assumption | (simp only [wnA]; done) | (simp only [wnA]; omega) | omega | fail) [rc3_0, wkA, retV, stabOk, dC, ev, fillD, pickCells, putAt, bnd, slD, List.getElem?_cons_zero, List.getElem?_cons_succ, dR.eq_20, Mem.cell, Mem.row, wmA]
  obtain ⟨hg, hl8, htot⟩ := entsA_facts fun x h => (hx x h).1
  refine c_Entries hv hb hx (Nat.le_trans hn (by decide)) fun m1 ob o1 s1 hob => ?_
  generalize entsA xs = es at *
  have hok : ∀ e ∈ es, e.ok := fun e he => (hg e he).1.1.ok (by have := (hg e he).2; omega)
  simp -implicitDefEqProofs (disch := first | assumption | (simp only [wnA]; done) | (simp only [wnA]; omega) | omega | fail) [wkA, retV, stabOk, dC, ev, fillD, pickCells, putAt, bnd, slD, List.getElem?_cons_zero, List.getElem?_cons_succ, dR.eq_20, Mem.cell, Mem.row, wmA]
  refine c_MText (o1.part hp) ht s1.read (fun b hb => ?_) hok (by omega) (by omega) fun m2 o2 => ?_
  · rw [blk_slV] at hb
    subst hb
    exact s1.lt
  obtain ⟨us2, hc2, hu2⟩ := cut_text es fun e he => (hg e he).1.1
  have hp2 := parseL_back (fun e he => (hg e he).1.1) hu2
  have hlen := lines_len hok
  obtain ⟨T, hT2⟩ : ∃ T : ByteArray, (⟨⟨es.flatMap lineL⟩⟩ : ByteArray) = T := ⟨_, rfl⟩
  have hT3 : T.data.toList = es.flatMap lineL := by subst hT2; rfl
  have hT4 : T.size ≤ 1200 := by
    have : T.size = (es.flatMap lineL).length := by rw [← hT3]; simp
    omega
  simp -implicitDefEqProofs (disch := first | assumption | (simp only [wnA]; done) | (simp only [wnA]; omega) | omega | fail) [wkA, retV, stabOk, dC, ev, fillD, pickCells, putAt, bnd, slD, List.getElem?_cons_zero, List.getElem?_cons_succ, dR.eq_20, Mem.cell, Mem.row, wmA, hT2]
  rw [← hT3] at hc2
  refine c_Parse ((o1.trans o2).part hp) ht hE (fun h m3 o3 => by omega) (fun _ m3 a o3 hc3 => by rw [hc2] at hc3; cases hc3) (fun _ m3 us3 e o3 hc3 hpe3 => by rw [hc2] at hc3; cases hc3; rw [hp2] at hpe3; cases hpe3) fun h m3 us3 ob3 o3 hc3 _ hpe3 s3 hob3 => ?_
  rw [hc2] at hc3
  cases hc3
  rw [hp2] at s3
  simp only [hp2]
  have s13 : SlO m3 36 5 ob (es.flatMap En.cells) es.length := s1.keep (by have := o2.1; have := o3.1; omega) fun b hb => by
    subst hb
    rw [o3.2 _ (by have := s1.lt; have := o2.1; omega), o2.2 _ s1.lt]
  simp -implicitDefEqProofs (disch := first | assumption | (simp only [wnA]; done) | (simp only [wnA]; omega) | omega | fail) [wkA, retV, stabOk, dC, ev, fillD, pickCells, putAt, bnd, slD, List.getElem?_cons_zero, List.getElem?_cons_succ, dR.eq_20, Mem.cell, Mem.row, wmA]
  refine c_LText s13.read (fun b hb => ?_) hok (fun e he => ?_) (by omega) (by omega) fun m4 o4 => ?_
  · rw [blk_slV] at hb
    subst hb
    exact s13.lt
  · obtain ⟨⟨-, h1, h2, -⟩, -⟩ := (hg e he).1
    omega
  simp -implicitDefEqProofs (disch := first | assumption | (simp only [wnA]; done) | (simp only [wnA]; omega) | omega | fail) [wkA, retV, stabOk, dC, ev, fillD, pickCells, putAt, bnd, slD, List.getElem?_cons_zero, List.getElem?_cons_succ, dR.eq_20, Mem.cell, Mem.row, wmA, hT2]
  refine c_SameE (xs := es) (s3.keep o4.1 fun b hb => by subst hb; exact o4.2 b s3.lt).read (s13.keep o4.1 fun b hb => by subst hb; exact o4.2 b s13.lt).read (by omega) ?_
  simp -implicitDefEqProofs (disch := first | assumption | (simp only [wnA]; done) | (simp only [wnA]; omega) | omega | fail) [wkA, retV, stabOk, dC, ev, fillD, pickCells, putAt, bnd, slD, List.getElem?_cons_zero, List.getElem?_cons_succ, dR.eq_20, Mem.cell, Mem.row, wmA]

/-- A text of lines that is cut, read. -/
theorem c_ParseCut {w0 : World} {m : Mem} {S : ByteArray} {es : List En} {k : Nat} {Q : Value → Mem → Prop} (hp : Part L0 m) (ht : Ten w0) (hE : ErrV w0) (hg : ∀ e ∈ es, EnP e) (hk : k ≤ (es.flatMap lineL).length) (hS : S.data.toList = (es.flatMap lineL).take k) (hs : S.size ≤ 4096)
    (hq : ∀ m' v1 v2, Old m m' → (v2 = .nilIface ∧ wholeL S.data.toList = true) ∨ ((∃ no a : Nat, v2 = faultV no a) ∧ wholeL S.data.toList = false) → Q (.tuple ⟨[v1, v2]⟩) m') : AbC Tryd.prog w0 12 [.string S] m Q := by
  have key := cut_prefix hg k hk
  rw [← hS] at key
  refine c_Parse hp ht hE (fun h m3 o3 => by omega) (fun _ m3 a o3 hc3 => ?_) (fun _ m3 us3 e o3 hc3 hpe3 => ?_) fun h m3 us3 ob3 o3 hc3 _ hpe3 s3 hob3 => ?_
  · refine hq m3 _ _ o3 (.inr ⟨⟨_, _, rfl⟩, ?_⟩)
    rcases key with ⟨-, us, h1, -⟩ | ⟨h, -⟩
    · rw [hc3] at h1; cases h1
    · exact h
  · refine hq m3 _ _ o3 (.inr ⟨⟨_, _, rfl⟩, ?_⟩)
    rcases key with ⟨-, us, h1, h2⟩ | ⟨h, -⟩
    · rw [hc3] at h1; cases h1
      rw [hpe3] at h2; cases h2
    · exact h
  · refine hq m3 _ _ o3 (.inl ⟨rfl, ?_⟩)
    rcases key with ⟨h, -⟩ | ⟨-, h⟩
    · exact h
    · exact (h _ hc3 hpe3).elim
theorem wholeL_take {l : List UInt8} {k : Nat} (hk : k < l.length) : wholeL (l.take (k + 1)) = (l[k].toNat == 59 || l[k].toNat == 10) := by
  rw [List.take_succ_eq_append_getElem hk]
  unfold wholeL
  rw [List.getLast?_append]
  rfl

theorem l_Cut {w0 : World} {m : Mem} {v : Value} {xs : List Ac} {a : Int} (hp : Part L0 m) (ht : Ten w0) (hE : ErrV w0) (hv : SlR m 5 v (xs.flatMap Ac.cells) xs.length) (hb : ∀ b, blk v = some b → b < m.next) (hx : ∀ x ∈ xs, AcOk m x) (hn : xs.length ≤ maxLen) (ha : 0 ≤ a ∧ a ≤ 65535) :
    AbC Tryd.prog w0 5 [v, .int .u16 a] m fun v _ => v = .bool true := by
  refine AbC_fn ok5 (by simp) ?_
  simp -implicitDefEqProofs (disch := first | assumption | (simp only [wnA]; done) | (simp only [wnA]; omega) | omega | fail) [rc5, ro5, wkA, retV, stabOk, dC, ev, fillD, pickCells, putAt, bnd, slD, List.getElem?_cons_zero, List.getElem?_cons_succ, dR.eq_20, Mem.cell, Mem.row, wmA]
  refine c_awake hp ?_
  simp -implicitDefEqProofs (disch := first | assumption | (simp only [wnA]; done) | (simp only [wnA]; omega) | omega | fail) [rc5_0, wkA, retV, stabOk, dC, ev, fillD, pickCells, putAt, bnd, slD, List.getElem?_cons_zero, List.getElem?_cons_succ, dR.eq_20, Mem.cell, Mem.row, wmA]
  obtain ⟨hg, hl8, htot⟩ := entsA_facts fun x h => (hx x h).1
  refine c_Entries hv hb hx (Nat.le_trans hn (by decide)) fun m1 ob o1 s1 hob => ?_
  generalize entsA xs = es at *
  have hok : ∀ e ∈ es, e.ok := fun e he => (hg e he).1.1.ok (by have := (hg e he).2; omega)
  simp -implicitDefEqProofs (disch := first | assumption | (simp only [wnA]; done) | (simp only [wnA]; omega) | omega | fail) [wkA, retV, stabOk, dC, ev, fillD, pickCells, putAt, bnd, slD, List.getElem?_cons_zero, List.getElem?_cons_succ, dR.eq_20, Mem.cell, Mem.row, wmA]
  refine c_MText (o1.part hp) ht s1.read (fun b hb => ?_) hok (by omega) (by omega) fun m2 o2 => ?_
  · rw [blk_slV] at hb
    subst hb
    exact s1.lt
  have hlen := lines_len hok
  obtain ⟨T, hT2⟩ : ∃ T : ByteArray, (⟨⟨es.flatMap lineL⟩⟩ : ByteArray) = T := ⟨_, rfl⟩
  have hT3 : T.data.toList = es.flatMap lineL := by subst hT2; rfl
  have hT5 : T.size = (es.flatMap lineL).length := by rw [← hT3]; simp
  have hT4 : T.size ≤ 1200 := by omega
  obtain ⟨A, rfl⟩ := Int.eq_ofNat_of_zero_le ha.1
  have w1 : IntKind.i64.wrap (A : Int) = (A : Int) := w64 (by omega)
  have w2 : IntKind.i64.wrap ((T.size : Int) + 1) = (T.size : Int) + 1 := w64 (by omega)
  have hr : dBin .rem (.int .i64 (A : Int)) (.int .i64 ((T.size : Int) + 1)) = some (.int .i64 ((A % (T.size + 1) : Nat) : Int)) := by
    have e : ((A % (T.size + 1) : Nat) : Int) = (A : Int) % ((T.size : Int) + 1) := by push_cast; rfl
    rw [dBin_rem (by omega), Int.tmod_eq_emod_of_nonneg (by omega), e]
  have hk : A % (T.size + 1) ≤ T.size := by have := Nat.mod_lt A (show 0 < T.size + 1 by omega); omega
  generalize A % (T.size + 1) = k at *
  have i1 : (0 : Int) ≤ (k : Int) ∧ (k : Int) ≤ (T.size : Int) := by omega
  simp -implicitDefEqProofs (disch := first | assumption | (simp only [wnA]; done) | (simp only [wnA]; omega) | omega | fail) [wkA, retV, stabOk, dC, ev, fillD, pickCells, putAt, bnd, slD, List.getElem?_cons_zero, List.getElem?_cons_succ, dR.eq_20, Mem.cell, Mem.row, wmA, hT2, w1, w2, hr, i1, ext0]
  have hS : (⟨⟨T.data.toList.take k⟩⟩ : ByteArray).data.toList = (es.flatMap lineL).take k := by rw [← hT3]
  refine c_ParseCut ((o1.trans o2).part hp) ht hE (fun e he => (hg e he).1) (by omega) hS (by show (T.data.toList.take k).length ≤ 4096; rw [List.length_take]; omega) fun m3 v1 v2 o3 hc => ?_
  have hc : (v2 = .nilIface ∧ wholeL (T.data.toList.take k) = true) ∨ ((∃ no a : Nat, v2 = faultV no a) ∧ wholeL (T.data.toList.take k) = false) := hc
  have hTl : T.data.toList.length = T.size := by simp
  rcases Nat.eq_zero_or_pos k with rfl | hpos
  · have hw : wholeL (T.data.toList.take 0) = true := rfl
    rw [hw] at hc
    obtain ⟨rfl, -⟩ : v2 = .nilIface ∧ True := by
      rcases hc with ⟨h, -⟩ | ⟨-, h⟩
      · exact ⟨h, trivial⟩
      · cases h
    simp -implicitDefEqProofs (disch := first | assumption | (simp only [wnA]; done) | (simp only [wnA]; omega) | omega | fail) [wkA, retV, stabOk, dC, ev, fillD, pickCells, putAt, bnd, slD, List.getElem?_cons_zero, List.getElem?_cons_succ, dR.eq_20, Mem.cell, Mem.row, wmA]
  · obtain ⟨j, hj⟩ : ∃ j, j + 1 = k := ⟨k - 1, by omega⟩
    have hkl : j < T.data.toList.length := by omega
    have hwt := wholeL_take hkl
    rw [hj] at hwt
    rw [hwt] at hc
    have w3 : IntKind.i64.wrap ((k : Int) - 1) = (j : Int) := by rw [w64 (by omega)]; omega
    have n0 : ¬ (k : Int) = 0 := by omega
    have ix : T[j]? = some T.data.toList[j] := by
      have := (at_S (S := T) (j := j) (List.drop_eq_getElem_cons hkl)).2.1
      exact this
    generalize T.data.toList[j] = c at *
    have i0 : (0 : Int) ≤ (j : Int) := by omega
    have ixe : ∀ h : j < T.size, T[j]'h = c := fun h => by rw [getElem?_pos T j h] at ix; exact Option.some.inj ix
    by_cases h59 : c.toNat = 59
    · have g59 : ((c.toNat : Int) = 59) := by omega
      have hc : v2 = .nilIface := by simpa [h59] using hc
      subst hc
      simp -implicitDefEqProofs (disch := first | assumption | (simp only [wnA]; done) | (simp only [wnA]; omega) | omega | fail) [wkA, retV, stabOk, dC, ev, fillD, pickCells, putAt, bnd, slD, List.getElem?_cons_zero, List.getElem?_cons_succ, dR.eq_20, Mem.cell, Mem.row, wmA, beqF n0, w3, ix, ixe, i0, h59]
    · have g59 : ¬ ((c.toNat : Int) = 59) := by omega
      by_cases h10 : c.toNat = 10
      · have hc : v2 = .nilIface := by simpa [h10] using hc
        subst hc
        simp -implicitDefEqProofs (disch := first | assumption | (simp only [wnA]; done) | (simp only [wnA]; omega) | omega | fail) [wkA, retV, stabOk, dC, ev, fillD, pickCells, putAt, bnd, slD, List.getElem?_cons_zero, List.getElem?_cons_succ, dR.eq_20, Mem.cell, Mem.row, wmA, beqF n0, w3, ix, ixe, i0, beqF g59, h10]
      · have g10 : ¬ ((c.toNat : Int) = 10) := by omega
        have hc : ∃ no a : Nat, v2 = faultV no a := by simpa [h59, h10] using hc
        obtain ⟨no, a, rfl⟩ := hc
        simp -implicitDefEqProofs (disch := first | assumption | (simp only [wnA]; done) | (simp only [wnA]; omega) | omega | fail) [wkA, retV, stabOk, dC, ev, fillD, pickCells, putAt, bnd, slD, List.getElem?_cons_zero, List.getElem?_cons_succ, dR.eq_20, Mem.cell, Mem.row, wmA, faultV, beqF n0, w3, ix, ixe, i0, beqF g59, beqF g10]
end Go.Proofs.YtgfkjldohilmkaaDoor.Ab

set_option linter.unusedVariables false
set_option linter.unusedSimpArgs false
namespace Go.Proofs.YtgfkjldohilmkaaDoor.Ab
open Go Go.RowKit
set_option maxHeartbeats 4000000
set_option maxRecDepth 100000

theorem eq_errno (n : Nat) : dEq (.iface []) (errnoV n) .nilIface = some (n == 0) := by
  unfold errnoV
  by_cases h : n = 0
  · subst h; rfl
  · rw [if_neg h]
    simp [dEq, h]
theorem w_chkTail {w0 : World} {fr : Fr} {m : Mem} {va vb : Value} {xa bs : List En} (hT : ErrT w0) (h1 : SlR m 5 va (xa.flatMap En.cells) xa.length) (b1 : ∀ b, blk va = some b → b < m.next) (e1 : ∀ e ∈ xa, EnI e) (n1 : xa.length ≤ 9223372036854775807)
    (h2 : SlR m 5 vb (bs.flatMap En.cells) bs.length) (b2 : ∀ b, blk vb = some b → b < m.next) (e2 : ∀ e ∈ bs, EnI e) (n2 : bs.length ≤ 9223372036854775807) (f9 : fr 9 = va) (f3 : fr 3 = vb) :
    AbW Tryd.prog w0 rc8_3 (bodyA ro8 fun v _ => v = .bool true) fr m := by
  have o1 := h1.one
  have o2 := h2.one
  simp -implicitDefEqProofs (disch := first | assumption | (simp only [wnA]; done) | (simp only [wnA]; omega) | omega | fail) [rc8_3, ro8, wkA, retV, stabOk, dC, ev, fillD, pickCells, putAt, bnd, slD, List.getElem?_cons_zero, List.getElem?_cons_succ, dR_sl, Mem.cell, Mem.row, wmA, f9, f3]
  have cv : ∀ v : Value, oneC v = true → cellsV v = [v] := fun v h => by cases v <;> first | rfl | (cases h; done)
  rw [SK_bsl (cs := [va, vb]) (by simp [wkA, retV, stabOk, dC, ev, fillD, pickCells, putAt, bnd, slD, List.getElem?_cons_zero, List.getElem?_cons_succ, dR_sl, cv va o1, cv vb o2]) (by simp)]
  simp -implicitDefEqProofs (disch := first | assumption | (simp only [wnA]; done) | (simp only [wnA]; omega) | omega | fail) [wkA, retV, stabOk, dC, ev, fillD, pickCells, putAt, bnd, slD, List.getElem?_cons_zero, List.getElem?_cons_succ, dR_sl, Mem.cell, Mem.row, wmA]
  refine LoopW_of (fun k ts m' => ∃ j, j + k = 2 ∧ Old m m' ∧ m'.get m.next = .own [va, vb] 24 ∧ m.next < m'.next ∧ ts 74 = .slice (some ⟨m.next, 0, none⟩) 2 1 ∧ ts 75 = .int .i64 2 ∧ ts 76 = .int .i64 (j : Nat)) 2 ?_ ?_
  · exact ⟨0, by omega, (Old.refl m).push _, by simp, by simp, by simp, by simp, by simp⟩
  · rintro k ts m1 K ⟨j, hj, o1', g1, gn, t74, t75, t76⟩ hK
    simp -implicitDefEqProofs (disch := first | assumption | (simp only [wnA]; done) | (simp only [wnA]; omega) | omega | fail) [rc8_1, wkA, retV, stabOk, dC, ev, fillD, pickCells, putAt, bnd, slD, List.getElem?_cons_zero, List.getElem?_cons_succ, dR_sl, Mem.cell, Mem.row, wmA, t75, t76]
    by_cases hj2 : j < 2
    · have ij : (j : Int) < 2 := by omega
      have hjw : IntKind.i64.wrap ((j : Int) + 1) = ((j + 1 : Nat) : Int) := by rw [w64 (by omega)]; omega
      obtain ⟨vl, ls, hvl, h3, b3, e3, n3⟩ : ∃ (vl : Value) (ls : List En), ([va, vb] : List Value)[j]? = some vl ∧ SlR m 5 vl (ls.flatMap En.cells) ls.length ∧ (∀ b, blk vl = some b → b < m.next) ∧ (∀ e ∈ ls, EnI e) ∧ ls.length ≤ 9223372036854775807 := by
        have : j = 0 ∨ j = 1 := by omega
        rcases this with rfl | rfl
        · exact ⟨va, xa, rfl, h1, b1, e1, n1⟩
        · exact ⟨vb, bs, rfl, h2, b2, e2, n2⟩
      have hix : sidx 1 (.slice (some ⟨m.next, 0, none⟩) 2 1) (.int .i64 (j : Int)) = some (.pointer (some ⟨m.next, 0 + j * 1, none⟩)) := sidx_at hj2
      simp only [Nat.zero_add, Nat.mul_one] at hix
      simp -implicitDefEqProofs (disch := first | assumption | (simp only [wnA]; done) | (simp only [wnA]; omega) | omega | fail) [wkA, retV, stabOk, dC, ev, fillD, pickCells, putAt, bnd, slD, List.getElem?_cons_zero, List.getElem?_cons_succ, dR_sl, Mem.cell, Mem.row, wmA, ij, rc8_0, t74, t76, hix, g1, hvl, getL hvl]
      refine c_Check (h3.keep fun b h => o1'.2 b (b3 b h)) (fun b h => Nat.lt_of_lt_of_le (b3 b h) o1'.1) e3 n3 fun m3 o3 => ?_
      simp -implicitDefEqProofs (disch := first | assumption | (simp only [wnA]; done) | (simp only [wnA]; omega) | omega | fail) [wkA, retV, stabOk, dC, ev, fillD, pickCells, putAt, bnd, slD, List.getElem?_cons_zero, List.getElem?_cons_succ, dR_sl, Mem.cell, Mem.row, wmA]
      have o13 := o1'.trans o3
      refine c_wrong (h3.keep fun b h => o13.2 b (b3 b h)) (fun b h => Nat.lt_of_lt_of_le (b3 b h) o13.1) e3 n3 fun m4 o4 => ?_
      have o14 := o13.trans o4
      obtain ⟨c, hc⟩ : ∃ c, chkV ls = c := ⟨_, rfl⟩
      obtain ⟨ci, cn⟩ := c
      rw [hc]
      simp -implicitDefEqProofs (disch := first | assumption | (simp only [wnA]; done) | (simp only [wnA]; omega) | omega | fail) [wkA, retV, stabOk, dC, ev, fillD, pickCells, putAt, bnd, slD, List.getElem?_cons_zero, List.getElem?_cons_succ, dR_sl, Mem.cell, Mem.row, wmA]
      refine c_NumberE hT fun m5 o5 => ?_
      have o15 := o14.trans o5
      have he := eq_errno cn
      have hz : ((cn : Int) == 0) = (cn == 0) := by rw [Bool.eq_iff_iff]; simp
      simp -implicitDefEqProofs (disch := first | assumption | (simp only [wnA]; done) | (simp only [wnA]; omega) | omega | fail) [wkA, retV, stabOk, dC, ev, fillD, pickCells, putAt, bnd, slD, List.getElem?_cons_zero, List.getElem?_cons_succ, dR_sl, Mem.cell, Mem.row, wmA, he, hz, t76]
      refine hK (k - 1) _ m5 (by omega) ⟨j + 1, by omega, o15, ?_, ?_, by simp [t74], by simp [t75], by simp [hjw]⟩
      · rw [o5.2 _ (by have := o3.1; have := o4.1; omega), o4.2 _ (by have := o3.1; omega), o3.2 _ gn]; exact g1
      · have := o3.1; have := o4.1; have := o5.1; omega
    · have hj2' : j = 2 := by omega
      subst hj2'
      simp -implicitDefEqProofs (disch := first | assumption | (simp only [wnA]; done) | (simp only [wnA]; omega) | omega | fail) [wkA, retV, stabOk, dC, ev, fillD, pickCells, putAt, bnd, slD, List.getElem?_cons_zero, List.getElem?_cons_succ, dR_sl, Mem.cell, Mem.row, wmA, rc8_2]

theorem put_field {es : List En} {idx f : Nat} (h : idx < es.length) (hf : f < 5) {v : Value} {e' : En} (he : putAt es[idx].cells f [v] = e'.cells) : putAt (es.flatMap En.cells) (idx * 5 + f) [v] = (es.set idx e').flatMap En.cells := by
  have hl : ((es.take idx).flatMap En.cells).length = idx * 5 := by rw [flat_len enl, List.length_take]; congr 1; omega
  have hsp : es.flatMap En.cells = (es.take idx).flatMap En.cells ++ (es[idx].cells ++ (es.drop (idx + 1)).flatMap En.cells) := by
    conv => lhs; rw [← List.take_append_drop idx es, List.drop_eq_getElem_cons h]
    rw [List.flatMap_append, List.flatMap_cons]
  have hst : (es.set idx e').flatMap En.cells = (es.take idx).flatMap En.cells ++ (e'.cells ++ (es.drop (idx + 1)).flatMap En.cells) := by
    rw [List.set_eq_take_append_cons_drop, if_pos h, List.flatMap_append, List.flatMap_cons]
  rw [hsp, hst, ← he]
  have hc := enl es[idx]
  generalize es[idx].cells = c at *
  generalize (es.take idx).flatMap En.cells = A at *
  generalize (es.drop (idx + 1)).flatMap En.cells = B at *
  unfold putAt
  have e1 : (A ++ (c ++ B)).take (idx * 5 + f) = A ++ c.take f := by
    rw [List.take_append, List.take_of_length_le (by omega), hl, show idx * 5 + f - idx * 5 = f from by omega, List.take_append_of_le_length (by omega)]
  have e2 : (A ++ (c ++ B)).drop (idx * 5 + f + [v].length) = c.drop (f + [v].length) ++ B := by
    rw [List.drop_append, hl, List.drop_eq_nil_of_le (by simp; omega), List.nil_append, show idx * 5 + f + [v].length - idx * 5 = f + [v].length from by omega, List.drop_append_of_le_length (by simp; omega)]
  rw [e1, e2]
  simp

theorem SK_stv {P : Program} {w0 : World} {ts : Fr} {m : Mem} {R : Value → Mem → Prop} {n i o : Nat} {p x : Operand} {cs vs : List Value} {e : TypeId} (hp : ev ts p = .pointer (some ⟨i, o, none⟩)) (hm : m.get i = .own cs e) (hv : cellsV (ev ts x) = vs) (h1 : o + n ≤ cs.length) (h2 : vs.length = n) (h3 : vs.all oneC = true)
    (hR : R undef (m.set i (.own (putAt cs o vs) e))) : SK P w0 (.e (.st n p x)) ts m R := by
  subst hv
  exact SK_st hp hm h1 h2 h3 hR

theorem l_Check {w0 : World} {m : Mem} {v vr : Value} {xs : List Ac} {bs : List En} {hw wh : Int} (hp : Part L0 m) (hT : ErrT w0) (hv : SlR m 5 v (xs.flatMap Ac.cells) xs.length) (hb : ∀ b, blk v = some b → b < m.next) (hx : ∀ x ∈ xs, AcOk m x) (hn : xs.length ≤ maxLen)
    (h2 : SlR m 5 vr (bs.flatMap En.cells) bs.length) (b2 : ∀ b, blk vr = some b → b < m.next) (e2 : ∀ e ∈ bs, EnI e) (n2 : bs.length ≤ maxLen) (hh : 0 ≤ hw ∧ hw ≤ 255) (hhw : 0 ≤ wh ∧ wh ≤ 255) :
    AbC Tryd.prog w0 8 [v, .int .u8 hw, .int .u8 wh, vr] m fun v _ => v = .bool true := by
  refine AbC_fn ok8 (by simp) ?_
  simp -implicitDefEqProofs (disch := first | assumption | (simp only [wnA]; done) | (simp only [wnA]; omega) | omega | fail) [rc8, wkA, retV, stabOk, dC, ev, fillD, pickCells, putAt, bnd, slD, List.getElem?_cons_zero, List.getElem?_cons_succ, dR_sl, Mem.cell, Mem.row, wmA]
  refine c_awake hp ?_
  simp -implicitDefEqProofs (disch := first | assumption | (simp only [wnA]; done) | (simp only [wnA]; omega) | omega | fail) [rc8_4, wkA, retV, stabOk, dC, ev, fillD, pickCells, putAt, bnd, slD, List.getElem?_cons_zero, List.getElem?_cons_succ, dR_sl, Mem.cell, Mem.row, wmA]
  obtain ⟨hg, hl8, htot⟩ := entsA_facts fun x h => (hx x h).1
  refine c_Entries hv hb hx (Nat.le_trans hn (by decide)) fun m1 ob o1 s1 hob => ?_
  generalize entsA xs = es at *
  have hI : ∀ e ∈ es, EnI e := fun e he => by
    obtain ⟨⟨⟨-, h1, h2, -⟩, -⟩, h3⟩ := hg e he
    exact ⟨by omega, by omega⟩
  have h2' := h2.keep fun b h => o1.2 b (b2 b h)
  have b2' : ∀ b, blk vr = some b → b < m1.next := fun b h => Nat.lt_of_lt_of_le (b2 b h) o1.1
  have fin : ∀ (fr : Fr) (m' : Mem) (es' : List En), Old m m' → SlO m' 36 5 ob (es'.flatMap En.cells) es'.length → es'.length = es.length → (∀ e ∈ es', EnI e) → fr 9 = slV ob es.length 5 → fr 3 = vr →
      AbW Tryd.prog w0 rc8_3 (bodyA ro8 fun v _ => v = .bool true) fr m' := by
    intro fr m' es' o' s' hl' hI' f9 f3
    refine w_chkTail hT s'.read (fun b h => ?_) hI' (by omega) (h2.keep fun b h => o'.2 b (b2 b h)) (fun b h => Nat.lt_of_lt_of_le (b2 b h) o'.1) e2 (Nat.le_trans n2 (by decide)) (by rw [hl']; exact f9) f3
    rw [blk_slV] at h
    subst h
    exact s'.lt
  simp -implicitDefEqProofs (disch := first | assumption | (simp only [wnA]; done) | (simp only [wnA]; omega) | omega | fail) [wkA, retV, stabOk, dC, ev, fillD, pickCells, putAt, bnd, slD, List.getElem?_cons_zero, List.getElem?_cons_succ, dR_sl, Mem.cell, Mem.row, wmA, s1.slen]
  by_cases h0 : es.length = 0
  · have i0 : ¬ 0 < es.length := by omega
    simp -implicitDefEqProofs (disch := first | assumption | (simp only [wnA]; done) | (simp only [wnA]; omega) | omega | fail) [wkA, retV, stabOk, dC, ev, fillD, pickCells, putAt, bnd, slD, List.getElem?_cons_zero, List.getElem?_cons_succ, dR_sl, Mem.cell, Mem.row, wmA, i0]
    exact fin _ _ es o1 s1 rfl hI (by simp) (by simp [frA_at])
  · have i0 : 0 < es.length := by omega
    obtain ⟨b, rfl⟩ : ∃ b, ob = some b := by
      cases ob with
      | none => exact (h0 s1.2).elim
      | some b => exact ⟨b, rfl⟩
    obtain ⟨W, rfl⟩ := Int.eq_ofNat_of_zero_le hhw.1
    have w1 : IntKind.i64.wrap (W : Int) = (W : Int) := w64 (by omega)
    have hr : dBin .rem (.int .i64 (W : Int)) (.int .i64 (es.length : Int)) = some (.int .i64 ((W % es.length : Nat) : Int)) := by
      have e : ((W % es.length : Nat) : Int) = (W : Int) % (es.length : Int) := by push_cast; rfl
      rw [dBin_rem (by omega), Int.tmod_eq_emod_of_nonneg (by omega), e]
    have hk : W % es.length < es.length := Nat.mod_lt _ (by omega)
    have hr8 : dBin .rem (.int .u8 hw) (.int .u8 8) = some (.int .u8 (hw % 8)) := by rw [dBin_rem (by omega), Int.tmod_eq_emod_of_nonneg (by omega)]
    have hr6 : dBin .rem (.int .u8 (W : Int)) (.int .u8 6) = some (.int .u8 ((W : Int) % 6)) := by rw [dBin_rem (by omega), Int.tmod_eq_emod_of_nonneg (by omega)]
    have hH : hw % 8 = 0 ∨ hw % 8 = 1 ∨ hw % 8 = 2 ∨ hw % 8 = 3 ∨ hw % 8 = 4 ∨ 4 < hw % 8 := by omega
    generalize W % es.length = idx at *
    generalize hw % 8 = H at *
    have hix : sidx 5 (slV (some b) es.length 5) (.int .i64 (idx : Int)) = some (.pointer (some ⟨b, 0 + idx * 5, none⟩)) := sidx_at hk
    have hix0 : sidx 5 (slV (some b) es.length 5) (.int .i64 0) = some (.pointer (some ⟨b, 0 + 0 * 5, none⟩)) := sidx_at (j := 0) (by omega)
    simp only [Nat.zero_add, Nat.zero_mul] at hix hix0
    have gb := s1.2.1
    have hbl := s1.2.2
    have hbn : m.next ≤ b := hob b rfl
    have hlen := flat_len enl es
    have updE : ∀ (fr : Fr) (f : Nat) (x : Value) (e' : En), f < 5 → putAt es[idx].cells f [x] = e'.cells → EnI e' → fr 9 = slV (some b) es.length 5 → fr 3 = vr →
        AbW Tryd.prog w0 rc8_3 (bodyA ro8 fun v _ => v = .bool true) fr (m1.set b (.own (putAt (es.flatMap En.cells) (idx * 5 + f) [x]) 36)) := by
      intro fr f x e' hf he' hI' f9 f3
      rw [put_field hk hf he']
      refine fin fr _ (es.set idx e') ⟨by simp; exact o1.1, fun i hi => ?_⟩ ⟨?_, by simp, by simpa using hbl⟩ (by simp) (fun y hy => ?_) f9 f3
      · rw [Mem.set_other _ _ (by omega)]; exact o1.2 i hi
      · rw [flat_len enl]
      · rcases List.mem_or_eq_of_mem_set hy with h | rfl
        · exact hI y h
        · exact hI'
    have hIe := hI es[idx] (List.getElem_mem hk)
    have h00 : (es.flatMap En.cells)[0]? = some (.string es[0].nm) := by
      have := flat_at' enl es (List.getElem?_eq_getElem (show 0 < es.length by omega)) (show 0 < 5 by omega)
      rw [Nat.zero_mul, Nat.zero_add] at this
      exact this
    have hI0 := hI es[0] (List.getElem_mem (by omega))
    have hbnd : idx * 5 + 5 ≤ (es.flatMap En.cells).length := by rw [hlen]; have : (idx + 1) * 5 ≤ es.length * 5 := Nat.mul_le_mul_right _ hk; omega
    generalize es[idx] = e at *
    generalize es[0] = e0 at *
    obtain ⟨nm, ea, es', ep, ew⟩ := e
    simp -implicitDefEqProofs (disch := first | assumption | (simp only [wnA]; done) | (simp only [wnA]; omega) | omega | fail) [wkA, retV, stabOk, dC, ev, fillD, pickCells, putAt, bnd, slD, List.getElem?_cons_zero, List.getElem?_cons_succ, dR_sl, Mem.cell, Mem.row, wmA, i0, s1.slen, w1, hr, hix, hr8]
    have w2 : IntKind.i64.wrap ((W : Int) * 40) = (W : Int) * 40 := w64 (by omega)
    have w3 : IntKind.i64.wrap ((W : Int) * 3) = (W : Int) * 3 := w64 (by omega)
    have w4 : IntKind.i64.wrap (16384 - (W : Int) * 3) = 16384 - (W : Int) * 3 := w64 (by omega)
    have w5 : IntKind.i64.wrap ((W : Int) % 6) = (W : Int) % 6 := w64 (by omega)
    rcases hH with rfl | rfl | rfl | rfl | rfl | h5
    · simp -implicitDefEqProofs (disch := first | assumption | (simp only [wnA]; done) | (simp only [wnA]; omega) | omega | fail) [wkA, retV, stabOk, dC, ev, fillD, pickCells, putAt, bnd, slD, List.getElem?_cons_zero, List.getElem?_cons_succ, dR_sl, Mem.cell, Mem.row, wmA, s1.slen, hix0, gb, h00, getL h00]
      obtain ⟨M, hM⟩ : ∃ M, m1.set b (.own (putAt (es.flatMap En.cells) (idx * 5 + 0) [.string e0.nm]) 36) = M := ⟨_, rfl⟩
      refine SK_stv (i := b) (o := idx * 5 + 0) (vs := [.string e0.nm]) (e := 36) (by simp [wkA, retV, stabOk, dC, ev, fillD, pickCells, putAt, bnd, slD, List.getElem?_cons_zero, List.getElem?_cons_succ, dR_sl]) gb (by simp [wkA, retV, stabOk, dC, ev, fillD, pickCells, putAt, bnd, slD, List.getElem?_cons_zero, List.getElem?_cons_succ, dR_sl]) (by omega) rfl rfl ?_
      rw [hM]
      simp -implicitDefEqProofs (disch := first | assumption | (simp only [wnA]; done) | (simp only [wnA]; omega) | omega | fail) [wkA, retV, stabOk, dC, ev, fillD, pickCells, putAt, bnd, slD, List.getElem?_cons_zero, List.getElem?_cons_succ, dR_sl]
      subst hM
      exact updE _ 0 (.string e0.nm) ⟨e0.nm, ea, es', ep, ew⟩ (by omega) rfl ⟨hI0.1, hIe.2⟩ (by simp) (by simp [frA_at])
    · simp -implicitDefEqProofs (disch := first | assumption | (simp only [wnA]; done) | (simp only [wnA]; omega) | omega | fail) [wkA, retV, stabOk, dC, ev, fillD, pickCells, putAt, bnd, slD, List.getElem?_cons_zero, List.getElem?_cons_succ, dR_sl, Mem.cell, Mem.row, wmA, w1, w2]
      obtain ⟨M, hM⟩ : ∃ M, m1.set b (.own (putAt (es.flatMap En.cells) (idx * 5 + 2) [.int .i64 ((W : Int) * 40)]) 36) = M := ⟨_, rfl⟩
      refine SK_stv (i := b) (o := idx * 5 + 2) (vs := [.int .i64 ((W : Int) * 40)]) (e := 36) (by simp [wkA, retV, stabOk, dC, ev, fillD, pickCells, putAt, bnd, slD, List.getElem?_cons_zero, List.getElem?_cons_succ, dR_sl]) gb (by simp [wkA, retV, stabOk, dC, ev, fillD, pickCells, putAt, bnd, slD, List.getElem?_cons_zero, List.getElem?_cons_succ, dR_sl]) (by omega) rfl rfl ?_
      rw [hM]
      simp -implicitDefEqProofs (disch := first | assumption | (simp only [wnA]; done) | (simp only [wnA]; omega) | omega | fail) [wkA, retV, stabOk, dC, ev, fillD, pickCells, putAt, bnd, slD, List.getElem?_cons_zero, List.getElem?_cons_succ, dR_sl]
      subst hM
      exact updE _ 2 (.int .i64 ((W : Int) * 40)) ⟨nm, ea, (W : Int) * 40, ep, ew⟩ (by omega) rfl hIe (by simp) (by simp [frA_at])
    · simp -implicitDefEqProofs (disch := first | assumption | (simp only [wnA]; done) | (simp only [wnA]; omega) | omega | fail) [wkA, retV, stabOk, dC, ev, fillD, pickCells, putAt, bnd, slD, List.getElem?_cons_zero, List.getElem?_cons_succ, dR_sl, Mem.cell, Mem.row, wmA, w1, w3, w4]
      obtain ⟨M, hM⟩ : ∃ M, m1.set b (.own (putAt (es.flatMap En.cells) (idx * 5 + 1) [.int .i64 (16384 - (W : Int) * 3)]) 36) = M := ⟨_, rfl⟩
      refine SK_stv (i := b) (o := idx * 5 + 1) (vs := [.int .i64 (16384 - (W : Int) * 3)]) (e := 36) (by simp [wkA, retV, stabOk, dC, ev, fillD, pickCells, putAt, bnd, slD, List.getElem?_cons_zero, List.getElem?_cons_succ, dR_sl]) gb (by simp [wkA, retV, stabOk, dC, ev, fillD, pickCells, putAt, bnd, slD, List.getElem?_cons_zero, List.getElem?_cons_succ, dR_sl]) (by omega) rfl rfl ?_
      rw [hM]
      simp -implicitDefEqProofs (disch := first | assumption | (simp only [wnA]; done) | (simp only [wnA]; omega) | omega | fail) [wkA, retV, stabOk, dC, ev, fillD, pickCells, putAt, bnd, slD, List.getElem?_cons_zero, List.getElem?_cons_succ, dR_sl]
      subst hM
      exact updE _ 1 (.int .i64 (16384 - (W : Int) * 3)) ⟨nm, 16384 - (W : Int) * 3, es', ep, ew⟩ (by omega) rfl ⟨hIe.1, by show _ ≤ 16384 - (W : Int) * 3 ∧ 16384 - (W : Int) * 3 ≤ _; omega⟩ (by simp) (by simp [frA_at])
    · simp -implicitDefEqProofs (disch := first | assumption | (simp only [wnA]; done) | (simp only [wnA]; omega) | omega | fail) [wkA, retV, stabOk, dC, ev, fillD, pickCells, putAt, bnd, slD, List.getElem?_cons_zero, List.getElem?_cons_succ, dR_sl, Mem.cell, Mem.row, wmA, hr6, w5]
      obtain ⟨M, hM⟩ : ∃ M, m1.set b (.own (putAt (es.flatMap En.cells) (idx * 5 + 4) [.int .i64 ((W : Int) % 6)]) 36) = M := ⟨_, rfl⟩
      refine SK_stv (i := b) (o := idx * 5 + 4) (vs := [.int .i64 ((W : Int) % 6)]) (e := 36) (by simp [wkA, retV, stabOk, dC, ev, fillD, pickCells, putAt, bnd, slD, List.getElem?_cons_zero, List.getElem?_cons_succ, dR_sl]) gb (by simp [wkA, retV, stabOk, dC, ev, fillD, pickCells, putAt, bnd, slD, List.getElem?_cons_zero, List.getElem?_cons_succ, dR_sl]) (by omega) rfl rfl ?_
      rw [hM]
      simp -implicitDefEqProofs (disch := first | assumption | (simp only [wnA]; done) | (simp only [wnA]; omega) | omega | fail) [wkA, retV, stabOk, dC, ev, fillD, pickCells, putAt, bnd, slD, List.getElem?_cons_zero, List.getElem?_cons_succ, dR_sl]
      subst hM
      exact updE _ 4 (.int .i64 ((W : Int) % 6)) ⟨nm, ea, es', ep, (W : Int) % 6⟩ (by omega) rfl hIe (by simp) (by simp [frA_at])
    · simp -implicitDefEqProofs (disch := first | assumption | (simp only [wnA]; done) | (simp only [wnA]; omega) | omega | fail) [wkA, retV, stabOk, dC, ev, fillD, pickCells, putAt, bnd, slD, List.getElem?_cons_zero, List.getElem?_cons_succ, dR_sl, Mem.cell, Mem.row, wmA]
      obtain ⟨M, hM⟩ : ∃ M, m1.set b (.own (putAt (es.flatMap En.cells) (idx * 5 + 0) [.string ⟨#[49]⟩]) 36) = M := ⟨_, rfl⟩
      refine SK_stv (i := b) (o := idx * 5 + 0) (vs := [.string ⟨#[49]⟩]) (e := 36) (by simp [wkA, retV, stabOk, dC, ev, fillD, pickCells, putAt, bnd, slD, List.getElem?_cons_zero, List.getElem?_cons_succ, dR_sl]) gb (by simp [wkA, retV, stabOk, dC, ev, fillD, pickCells, putAt, bnd, slD, List.getElem?_cons_zero, List.getElem?_cons_succ, dR_sl]) (by omega) rfl rfl ?_
      rw [hM]
      simp -implicitDefEqProofs (disch := first | assumption | (simp only [wnA]; done) | (simp only [wnA]; omega) | omega | fail) [wkA, retV, stabOk, dC, ev, fillD, pickCells, putAt, bnd, slD, List.getElem?_cons_zero, List.getElem?_cons_succ, dR_sl]
      subst hM
      exact updE _ 0 (.string ⟨#[49]⟩) ⟨⟨#[49]⟩, ea, es', ep, ew⟩ (by omega) rfl ⟨by show 1 ≤ _; omega, hIe.2⟩ (by simp) (by simp [frA_at])
    · have q0 : H ≠ 0 := by omega
      have q1 : H ≠ 1 := by omega
      have q2 : H ≠ 2 := by omega
      have q3 : H ≠ 3 := by omega
      have q4 : H ≠ 4 := by omega
      simp -implicitDefEqProofs (disch := first | assumption | (simp only [wnA]; done) | (simp only [wnA]; omega) | omega | fail) [wkA, retV, stabOk, dC, ev, fillD, pickCells, putAt, bnd, slD, List.getElem?_cons_zero, List.getElem?_cons_succ, dR_sl, Mem.cell, Mem.row, wmA, beqF q0, beqF q1, beqF q2, beqF q3, beqF q4]
      exact fin _ _ es o1 s1 rfl hI (by simp) (by simp [frA_at])
theorem absT_entsI {m : Mem} {td : TD} {v : Value} (h : AbsT m td [v]) (hs : Fits (.sl entryShp) td) :
    ∃ es : List En, SlR m 5 v (es.flatMap En.cells) es.length ∧ (∀ b, blk v = some b → b < m.next) ∧ (∀ e ∈ es, EnI e) := by
  obtain ⟨l, xs, rfl, h1, h2, h3⟩ := absT_slice (f := En.cells) (z := 5) (R := fun d e => EnI e) enl (fun d c hf ha => by
    obtain ⟨nm, a, s, p, w, rfl, w1, w2, w3, w4, w5, rfl⟩ := absT_entry ha hf
    exact ⟨⟨nm, a, s, p, w⟩, rfl, Nat.le_trans w1 (by decide), wf_i64' w2⟩) h hs
  exact ⟨xs, h1, h3, fun e he => (h2.right e he).choose_spec.2⟩
end Go.Proofs.YtgfkjldohilmkaaDoor.Ab

namespace Go.Proofs.YtgfkjldohilmkaaDoor.manifestCheck
open Go Go.ChangeShapes Go.WideShapes Go.ChangeAt Go.RowKit Go.Proofs.YtgfkjldohilmkaaDoor.Ab
set_option linter.unusedVariables false

theorem own : ownKnob Tryd.prog.godebug = none := by kernel_rfl
theorem laidOut : laidOutB Tryd.prog = true := by kernel_rfl

set_option maxRecDepth 100000 in
theorem contract (H : Type) (enc : TypeId × Value → H) (W : World) (base : Nat) (args : Array Value) (ds gs : List (DataW H)) (before : List MemPlace)
    (hval : ∀ (j : Nat) t v, Tryd.f8.params[j]? = some t → args[j]? = some v → Value.okWide Tryd.prog W .any base t v)
    (hW : DataW.Whole enc Tryd.prog Tryd.f8.params.toList Rows.manifestCheckSpec.vars false W args.toList ds gs before) (hL : laidMetH Tryd.prog Rows.manifestCheckRow.laid W) :
    Calls Tryd.prog 8 args W fun e W' => ∃ v, e = .returned v ∧ Rows.manifestCheckSpec.post enc Tryd.prog Tryd.f8 false true false false W args v W' := by
  have hW' := hW
  obtain ⟨hL', hLh⟩ := (show laidMet Tryd.prog (Rows.manifestCheckRow.laid.filter fun x => x.2.handleName?.isNone) W ∧ handlesMet Tryd.prog (Rows.manifestCheckRow.laid.filter fun x => x.2.handleName?.isSome) W from hL)
  obtain ⟨p, q, hA0, hV, rfl, hfz, hnd⟩ := hW
  have hA : DataW.TrodAll enc Tryd.prog W 0 (fun _ => true) true Tryd.f8.params.toList args.toList ds p := hA0
  rw [Tryd.params8] at hA hval
  obtain ⟨v0, vs0, d0, ds0, p0, q0, hargs, rfl, rfl, h0, r0⟩ := trodAll_cons hA
  obtain ⟨v1, vs1, d1, ds1, p1, q1, rfl, rfl, rfl, h1, r1⟩ := trodAll_cons r0
  obtain ⟨v2, vs2, d2, ds2, p2, q2, rfl, rfl, rfl, h2, r2⟩ := trodAll_cons r1
  obtain ⟨v3, vs3, d3, ds3, p3, q3, rfl, rfl, rfl, h3, r3⟩ := trodAll_cons r2
  obtain ⟨rfl, rfl, rfl⟩ := trodAll_nil r3
  obtain rfl : args = #[v0, v1, v2, v3] := by cases args; simp_all
  obtain ⟨rfl, rfl⟩ := trodVars_none hV
  obtain ⟨a0, len0, cap0, rfl⟩ := okWide_slice Tryd.underlying22 (hval 0 22 v0 rfl rfl)
  have lt0 : ∀ x ∈ p0, x.block < W.heap.size := by obtain ⟨m, hm⟩ := h0; exact DataW.trod_lt m _ _ _ hm
  obtain ⟨a1, rfl⟩ := okWide_int Tryd.underlying5 (hval 1 5 v1 rfl rfl)
  have lt1 : ∀ x ∈ p1, x.block < W.heap.size := by obtain ⟨m, hm⟩ := h1; exact DataW.trod_lt m _ _ _ hm
  obtain ⟨a2, rfl⟩ := okWide_int Tryd.underlying5 (hval 2 5 v2 rfl rfl)
  have lt2 : ∀ x ∈ p2, x.block < W.heap.size := by obtain ⟨m, hm⟩ := h2; exact DataW.trod_lt m _ _ _ hm
  obtain ⟨a3, len3, cap3, rfl⟩ := okWide_slice Tryd.underlying24 (hval 3 24 v3 rfl rfl)
  have lt3 : ∀ x ∈ p3, x.block < W.heap.size := by obtain ⟨m, hm⟩ := h3; exact DataW.trod_lt m _ _ _ hm
  have s : St Tryd.prog W (G0 Tryd.prog) (toMem L0) W := St.laid globals_size L0_get laid_ok (laidIn hL' (List.mem_of_getElem? (i := 0) rfl) (List.mem_of_getElem? (i := 1) rfl) (List.mem_of_getElem? (i := 2) rfl))
  have hp : Part L0 (toMem L0) := Part.of L0_part (Nat.le_refl _) fun _ _ => rfl
  obtain ⟨G0, m0, x0, t0, g0, s0, u0, b0, f0, k0⟩ := arg_one (k := 5) (s := (.sl (.recd [.sl (.int .u8), .int .u16, .int .u16, .int .u32, .int .u8]))) (by kernel_rfl) h0 rfl s
  have hp := g0.part hp
  obtain ⟨G1, m1, x1, t1, g1, s1, u1, b1, f1, k1⟩ := arg_one (k := 5) (s := .int .u8) (by kernel_rfl) h1 rfl s0
  have hp := g1.part hp
  have b0 := b0.mono g1.2.1 g1.2.2
  have u0 := u0.mono g1.1
  obtain ⟨G2, m2, x2, t2, g2, s2, u2, b2, f2, k2⟩ := arg_one (k := 5) (s := .int .u8) (by kernel_rfl) h2 rfl s1
  have hp := g2.part hp
  have b0 := b0.mono g2.2.1 g2.2.2
  have u0 := u0.mono g2.1
  have b1 := b1.mono g2.2.1 g2.2.2
  have u1 := u1.mono g2.1
  obtain ⟨G3, m3, x3, t3, g3, s3, u3, b3, f3, k3⟩ := arg_one (k := 5) (s := (.sl entryShp)) (by kernel_rfl) h3 rfl s2
  have hp := g3.part hp
  have b0 := b0.mono g3.2.1 g3.2.2
  have u0 := u0.mono g3.1
  have b1 := b1.mono g3.2.1 g3.2.2
  have u1 := u1.mono g3.1
  have b2 := b2.mono g3.2.1 g3.2.2
  have u2 := u2.mono g3.1
  refine (AbC_true s3 (.cons _ _ _ _ u0 (.cons _ _ _ _ u1 (.cons _ _ _ _ u2 (.cons _ _ _ _ u3 .nil)))) ((by obtain ⟨xs, c0, e0, z0⟩ := absT_acts b0 f0; obtain ⟨n1, hx1, -, w1⟩ := absT_int b1 f1; cases hx1; obtain ⟨n2, hx2, -, w2⟩ := absT_int b2 f2; cases hx2; obtain ⟨bs, c3, z3, e3⟩ := absT_entsI b3 f3; exact l_Check hp (errT_of hLh (List.mem_of_getElem? (i := 0) rfl)) c0 z0 e0 (sl_max c0 u0) c3 z3 e3 (sl_max c3 u3) (wf_u8 w1) (wf_u8 w2))) (by kernel_rfl)).mono fun e W' ⟨he, bel⟩ => ?_
  subst he
  exact ⟨_, rfl, _, _, _, [], _, [], hW', trodAll_mk1 (shut_bool Tryd.underlying4 _), (trodAll_cons_mk (Below.trod laidOut (by kernel_rfl) (of_decide_eq_true (by kernel_rfl)) h0 bel lt0) (trodAll_cons_mk (Below.trod laidOut (by kernel_rfl) (of_decide_eq_true (by kernel_rfl)) h1 bel lt1) (trodAll_cons_mk (Below.trod laidOut (by kernel_rfl) (of_decide_eq_true (by kernel_rfl)) h2 bel lt2) (trodAll_cons_mk (Below.trod laidOut (by kernel_rfl) (of_decide_eq_true (by kernel_rfl)) h3 bel lt3) trodAll_mk0)))), rfl, bel.frame _, fun h => by cases h⟩

noncomputable def laidWorld (os : Os) : World :=
  let N := (World.settled Tryd.prog os).heap.size
  { World.holding Tryd.prog os ⟨#[.cells #[.string ⟨#[118, 97, 108, 117, 101, 32, 111, 117, 116, 32, 111, 102, 32, 114, 97, 110, 103, 101]⟩] 158, .cells #[.string ⟨#[105, 110, 118, 97, 108, 105, 100, 32, 115, 121, 110, 116, 97, 120]⟩] 158], #[], []⟩ with heap := (((((((World.holding Tryd.prog os ⟨#[.cells #[.string ⟨#[118, 97, 108, 117, 101, 32, 111, 117, 116, 32, 111, 102, 32, 114, 97, 110, 103, 101]⟩] 158, .cells #[.string ⟨#[105, 110, 118, 97, 108, 105, 100, 32, 115, 121, 110, 116, 97, 120]⟩] 158], #[], []⟩).heap.modify 2 fun | .cells _ t frozen => .cells ⟨e32⟩ t frozen | o => o).modify 3 fun | .cells _ t frozen => .cells ⟨e64⟩ t frozen | o => o).modify 1 fun | .cells _ t frozen => .cells ⟨e10⟩ t frozen | o => o).modify 6 fun | .cells _ t frozen => .cells #[.iface 156 (.pointer (some ⟨N, 0, none⟩))] t frozen | o => o).modify 5 fun | .cells _ t frozen => .cells #[.iface 156 (.pointer (some ⟨N + 1, 0, none⟩))] t frozen | o => o).modify 0 fun | .cells _ t frozen => .cells #[.iface 120 (.agg #[.pointer (some ⟨7, 28, none⟩)])] t frozen | o => o) }
theorem laid_met (os : Os) : laidMetH Tryd.prog Rows.manifestCheckRow.laid ((laidWorld os).forCall (fun _ _ => 0) ⟨#[], #[(.slice none 0 0 : Value), (.int .u8 0 : Value), (.int .u8 0 : Value), (.slice none 0 0 : Value)], []⟩).memory :=
  laidMetH_of_parts (laidMet_of_run' 8 (by kernel_rfl) (by kernel_rfl)) (by kernel_rfl)
theorem reads (os : Os) {H : Type} (enc : TypeId × Value → H) : ∃ places, DataW.whole enc Tryd.prog ((laidWorld os).forCall (fun _ _ => 0) ⟨#[], #[(.slice none 0 0 : Value), (.int .u8 0 : Value), (.int .u8 0 : Value), (.slice none 0 0 : Value)], []⟩).memory Tryd.f8.params.toList Rows.manifestCheckSpec.vars false [(.slice none 0 0 : Value), (.int .u8 0 : Value), (.int .u8 0 : Value), (.slice none 0 0 : Value)] 8 = some ([.nil, .lit (.int .u8 0), .lit (.int .u8 0), .nil], [], places) :=
  ⟨[], by kernel_rfl⟩

set_option maxRecDepth 100000 in
theorem lifted (os : Os) (started : os.Started) (H : Type) (enc : TypeId × Value → H) (F : Stop.Interp) :
    ReturnsInHanded {} Tryd.checked os 8 .any ((OpenSpec.ofChange Rows.manifestCheckSpec).preRow enc Tryd.prog Tryd.f8 Rows.manifestCheckRow.domain false Rows.manifestCheckRow.laid) (((OpenSpec.ofChange Rows.manifestCheckSpec).at F).post enc Tryd.prog Tryd.f8 false true false false) := by
  obtain ⟨places, hx⟩ := reads os enc
  refine returnsInHanded_of_row (C := Tryd.checked) (s := (OpenSpec.ofChange Rows.manifestCheckSpec)) own started (by kernel_rfl) Tryd.func8
    (witness_row_atRef (enc := enc) (C := Tryd.checked) false (laidWorld os) #[(.slice none 0 0 : Value), (.int .u8 0 : Value), (.int .u8 0 : Value), (.slice none 0 0 : Value)] rfl (by kernel_rfl) (by kernel_rfl) (by kernel_rfl)
      (OpenSpec.preRow_of_cond 8 hx (by kernel_rfl) (fun k hk => by cases hk) (by kernel_rfl) (laid_met os))) ?_
  intro W base args ds gs before hval hW _ _ _ hL _ _
  exact contract H enc W base args ds gs before hval hW hL

theorem over : Rows.ManifestCheckSaid :=
  OpenClaim.holds_of_cond 8 Tryd.f8 rfl rfl rfl rfl rfl rfl rfl ⟨rfl, rfl, rfl, rfl, rfl⟩ rfl rfl rfl rfl rfl (by kernel_rfl) Tryd.func8 (by kernel_rfl)
    (of_decide_eq_true (by kernel_rfl)) (by unfold Func.isWrapper; first | (rw [if_pos (by decide +kernel)]; kernel_rfl) | (rw [if_neg (by decide +kernel)]; exact ⟨rfl, rfl⟩))
    (fun os started H enc _ F => by rw [OpenClaim.pre_eq_preRow]; exact lifted os started H enc F)

theorem plain (f : FuncId) (fn : Func) (hf : Tryd.pinned.checked.prog.funcNamed "lifeline/lifelinelaw16.ManifestCheck" = some f) (hfn : Tryd.pinned.checked.prog.funcs[f]? = some fn) :
    true = Tryd.pinned.checked.prog.looks [] ∧ ∀ (j : Nat) t, fn.params[j]? = some t → Tryd.pinned.checked.prog.wantsStandIn t = false := by
  obtain rfl : f = 8 := Option.some.inj ((show Tryd.prog.funcNamed "lifeline/lifelinelaw16.ManifestCheck" = some 8 by kernel_rfl).symm.trans hf) |>.symm
  obtain rfl : fn = Tryd.f8 := (Option.some.inj (Tryd.func8.symm.trans hfn)).symm
  refine ⟨by kernel_rfl, fun j t ht => ?_⟩
  rw [Tryd.params8] at ht
  have hall : ∀ t ∈ [22, 5, 5, 24], Tryd.prog.wantsStandIn t = false := by
    intro t ht
    simp only [List.mem_cons, List.mem_nil_iff, or_false] at ht
    rcases ht with rfl | rfl | rfl | rfl <;> kernel_rfl
  exact hall t (by simpa using Array.mem_of_getElem? ht)

theorem proved : Rows.ManifestCheckCardSaid :=
  Claim7.holds_tied_plain_at .later [] _ _ _ _ over (fun _ h => by cases h) (by kernel_rfl) (fun _ h => by cases h) manifestCheck_row_tie rfl ⟨rfl, rfl⟩ (by kernel_rfl) rfl plain (by kernel_rfl)
#print axioms proved
end Go.Proofs.YtgfkjldohilmkaaDoor.manifestCheck
