/- Parts of a proof, put together: A watch takes a byte. -/
import Derived.Test.YtjlicambfepfiaaGreatDoorKPt3
set_option linter.unusedVariables false
set_option linter.unusedSimpArgs false
namespace Go.Proofs.YtjlicambfepfiaaGreatDoor.Ab
open Go Go.RowKit
set_option maxHeartbeats 4000000
set_option maxRecDepth 100000
structure WaE where
  it : Nat
  T : Tab
  av : Value
  at_ : List Bool
def WaE.core (w : WaE) : Tab × List Bool := (w.T, w.at_)
def WaE.ptr (w : WaE) : Value := .pointer (some ⟨w.it, 0, none⟩)
/-- A watch lies: its own blocks are iw and ia. -/
structure WatV (X : Nat → Prop) (m : Mem) (iw ia : Nat) (ws : List WaE) (seen : Int) (over : Bool) : Prop where
  g : ∃ tv, m.get iw = .own [tv, .slice (some ⟨ia, 0, none⟩) ws.length 1, .int .i64 seen, .bool over] 140 ∧ RdV X m 1 tv (ws.map WaE.ptr) ws.length
  ga : m.get ia = .own (ws.map WaE.av) 142
  es : ∀ w ∈ ws, TabV X m w.it w.T ∧ RdV X m 1 w.av (w.at_.map .bool) w.at_.length ∧ w.at_.length ≤ 1000
  own : ¬ X iw ∧ ¬ X ia ∧ iw ≠ ia ∧ iw < m.next ∧ ia < m.next
  l : ws.length ≤ 8
  wl : ∀ i, m.next ≤ i → X i
theorem WatV.keep {X : Nat → Prop} {m m' : Mem} {iw ia : Nat} {ws : List WaE} {seen : Int} {over : Bool} (h : WatV X m iw ia ws seen over) (k : Keeps X m m') (k1 : m'.get iw = m.get iw) (k2 : m'.get ia = m.get ia) : WatV X m' iw ia ws seen over := by
  obtain ⟨tv, g, r⟩ := h.g
  exact ⟨⟨tv, k1.trans g, r.keep k⟩, k2.trans h.ga, fun w hw => ⟨(h.es w hw).1.keep k, (h.es w hw).2.1.keep k, (h.es w hw).2.2⟩, ⟨h.own.1, h.own.2.1, h.own.2.2.1, Nat.lt_of_lt_of_le h.own.2.2.2.1 k.1, Nat.lt_of_lt_of_le h.own.2.2.2.2 k.1⟩, h.l, fun i hi => h.wl i (Nat.le_trans k.1 hi)⟩
theorem WatV.old {X : Nat → Prop} {m m' : Mem} {iw ia : Nat} {ws : List WaE} {seen : Int} {over : Bool} (h : WatV X m iw ia ws seen over) (o : Old m m') : WatV X m' iw ia ws seen over :=
  h.keep o.keeps (o.2 _ h.own.2.2.2.1) (o.2 _ h.own.2.2.2.2)
def endsB (T : Tab) (l : List Bool) : Bool := (List.range l.length).any fun k => l.getD k false && (decide (k < T.n) && T.last.getD k false)
def coreS (c : UInt8) (x : Tab × List Bool) : Tab × List Bool := (x.1, stepB x.1 x.2 c true)
def bestJ (l : List (Tab × List Bool)) : Nat → Int
  | 0 => -1
  | j + 1 => if bestJ l j < 0 ∧ (match l[j]? with | some x => endsB x.1 x.2 | none => false) = true then (j : Int) else bestJ l j
theorem bestJ_rng (l : List (Tab × List Bool)) : ∀ j, -1 ≤ bestJ l j ∧ bestJ l j < j
  | 0 => by simp [bestJ]
  | j + 1 => by
    have := bestJ_rng l j
    simp only [bestJ]
    split <;> omega
theorem stepB_len (T : Tab) (l : List Bool) (c : UInt8) (b : Bool) : (stepB T l c b).length = T.n := by simp [stepB]
theorem mix_succ {α : Type} {A B : List α} {j : Nat} {x : α} (hl : A.length = B.length) (hj : j < B.length) (hx : A[j]? = some x) : (A.take j ++ B.drop j).set j x = A.take (j + 1) ++ B.drop (j + 1) := by
  have h1 : (A.take j).length = j := by rw [List.length_take]; omega
  have h2 : A.take (j + 1) = A.take j ++ [x] := by
    rw [List.take_add_one, hx]; rfl
  rw [List.set_append, h1, if_neg (by omega), Nat.sub_self, h2, List.drop_eq_getElem_cons hj, List.set_cons_zero, List.append_assoc]
  rfl
theorem c_WPut {w0 : World} {X : Nat → Prop} {m : Mem} {iw ia : Nat} {ws : List WaE} {seen : Int} {over : Bool} {c : UInt8} {Q : Value → Mem → Prop} (h : WatV X m iw ia ws seen over) 
    (hq : ∀ m' ws' seen', over = false → Keeps (fun i => i ≠ iw ∧ i ≠ ia) m m' → ws'.map WaE.core = (ws.map WaE.core).map (coreS c) → ws'.map WaE.it = ws.map WaE.it →
      WatV X m' iw ia ws' seen' (decide (0 ≤ bestJ ((ws.map WaE.core).map (coreS c)) ws.length)) → Q (.tuple ⟨[.int .i64 (max 0 (bestJ ((ws.map WaE.core).map (coreS c)) ws.length)), .bool (decide (0 ≤ bestJ ((ws.map WaE.core).map (coreS c)) ws.length))]⟩) m')
    (hz : over = true → Q (.tuple ⟨[.int .i64 0, .bool false]⟩) m) : AbC Tryz.prog w0 44 [.pointer (some ⟨iw, 0, none⟩), .int .u8 (c.toNat : Int)] m Q := by
  refine AbC_fn ok44 (by simp) ?_
  obtain ⟨tv, g, hr⟩ := h.g
  have hl := h.l
  cases over with
  | true =>
    simp -implicitDefEqProofs (disch := first | assumption | (simp only [wnA]; done) | (simp only [wnA]; omega) | omega | fail) [rc44, ro44, wkA, retV, stabOk, dC, ev, fillD, pickCells, putAt, bnd, slD, List.getElem?_cons_zero, List.getElem?_cons_succ, dR.eq_20, Mem.cell, Mem.row, wmA, g]
    exact hz rfl
  | false =>
    simp -implicitDefEqProofs (disch := first | assumption | (simp only [wnA]; done) | (simp only [wnA]; omega) | omega | fail) [rc44, ro44, rc44_4, wkA, retV, stabOk, dC, ev, fillD, pickCells, putAt, bnd, slD, List.getElem?_cons_zero, List.getElem?_cons_succ, dR.eq_20, Mem.cell, Mem.row, wmA, g]
    obtain ⟨s1, hs1⟩ : ∃ s1, IntKind.i64.wrap (seen + 1) = s1 := ⟨_, rfl⟩
    obtain ⟨M1, hM1⟩ : ∃ M, m.set iw (.own [tv, .slice (some ⟨ia, 0, none⟩) ws.length 1, .int .i64 s1, .bool false] 140) = M := ⟨_, rfl⟩
    have g1 : M1.get iw = .own [tv, .slice (some ⟨ia, 0, none⟩) ws.length 1, .int .i64 s1, .bool false] 140 := by subst hM1; rw [Mem.set_same]
    have k1 : Keeps (fun i => i ≠ iw ∧ i ≠ ia) m M1 := by subst hM1; exact (Keeps.refl _ _).set (fun _ h => h.1 rfl) _
    have kW1 : Keeps X m M1 := by subst hM1; exact (Keeps.refl _ _).set (fun _ hx => h.own.1 hx) _
    have ga1 : M1.get ia = .own (ws.map WaE.av) 142 := by subst hM1; rw [Mem.set_other _ _ h.own.2.2.1.symm]; exact h.ga
    have n1 : M1.next = m.next := by subst hM1; rfl
    have hone := hr.sl
    refine SK_stm (i := iw) (o := 2) (vs := [.int .i64 s1]) (cs := [tv, .slice (some ⟨ia, 0, none⟩) ws.length 1, .int .i64 seen, .bool false]) (e := 140) (M := M1) (by simp [wkA, retV, stabOk, dC, ev, fillD, pickCells, putAt, bnd, slD, List.getElem?_cons_zero, List.getElem?_cons_succ, dR.eq_20]) g (by simp [wkA, retV, stabOk, dC, ev, fillD, pickCells, putAt, bnd, slD, List.getElem?_cons_zero, List.getElem?_cons_succ, dR.eq_20, hs1]) (by simp) rfl rfl hM1 ?_
    clear hM1
    have hsl := hr.sl.slen
    simp -implicitDefEqProofs (disch := first | assumption | (simp only [wnA]; done) | (simp only [wnA]; omega) | omega | fail) [wkA, retV, stabOk, dC, ev, fillD, pickCells, putAt, bnd, slD, List.getElem?_cons_zero, List.getElem?_cons_succ, dR.eq_20, Mem.cell, Mem.row, wmA, g1, hsl]
    have hA : ((ws.map WaE.core).map (coreS c)).length = (ws.map WaE.core).length := by simp
    have hB : (ws.map WaE.core).length = ws.length := by simp
    obtain ⟨B, hBe⟩ : ∃ B, ws.map WaE.core = B := ⟨_, rfl⟩
    rw [hBe] at hq hA hB
    refine LoopW_of (fun q ts m' => ∃ (j : Nat) (ws' : List WaE), j + q = ws.length ∧ Keeps (fun i => i ≠ iw ∧ i ≠ ia) m m' ∧ Keeps X m m' ∧ ws'.map WaE.core = (B.map (coreS c)).take j ++ B.drop j ∧ ws'.map WaE.it = ws.map WaE.it ∧
      m'.get iw = .own [tv, .slice (some ⟨ia, 0, none⟩) ws.length 1, .int .i64 s1, .bool false] 140 ∧ m'.get ia = .own (ws'.map WaE.av) 142 ∧ (∀ w ∈ ws', TabV X m' w.it w.T ∧ RdV X m' 1 w.av (w.at_.map .bool) w.at_.length ∧ w.at_.length ≤ 1000) ∧
      ts 0 = .pointer (some ⟨iw, 0, none⟩) ∧ ts 1 = .int .u8 (c.toNat : Int) ∧ ts 6 = .int .i64 (bestJ (B.map (coreS c)) j) ∧ ts 23 = tv ∧ ts 24 = .int .i64 (ws.length : Nat) ∧ ts 25 = .int .i64 (j : Nat)) ws.length ?_ ?_
    · exact ⟨0, ws, by omega, k1, kW1, by simp [hBe], rfl, g1, ga1, fun w hw => ⟨(h.es w hw).1.keep kW1, (h.es w hw).2.1.keep kW1, (h.es w hw).2.2⟩, by simp [frA_at], by simp [frA_at], by simp [bestJ], by simp, by simp, by simp⟩
    · rintro q ts m1 K ⟨j, ws', hj, kk, kW, hcore, hit, gw, ga, hes, t0, t1, t6, t23, t24, t25⟩ hK
      have hwl : ws'.length = ws.length := by have := congrArg List.length hit; simpa using this
      simp -implicitDefEqProofs (disch := first | assumption | (simp only [wnA]; done) | (simp only [wnA]; omega) | omega | fail) [rc44_1, wkA, retV, stabOk, dC, ev, fillD, pickCells, putAt, bnd, slD, List.getElem?_cons_zero, List.getElem?_cons_succ, dR.eq_20, Mem.cell, Mem.row, wmA, t24, t25]
      by_cases hjn : j < ws.length
      · have hjn' : j < ws'.length := by omega
        obtain ⟨w, hw⟩ : ∃ w, ws'[j] = w := ⟨_, rfl⟩
        have hwm : w ∈ ws' := by rw [← hw]; exact List.getElem_mem hjn'
        obtain ⟨hT, hav, hal⟩ := hes w hwm
        have hptr : (ws.map WaE.ptr)[j]? = some (.pointer (some ⟨w.it, 0, none⟩)) := by
          have h1 : (ws'.map WaE.it)[j]? = some w.it := by rw [List.getElem?_map, List.getElem?_eq_getElem hjn', hw]; rfl
          rw [hit, List.getElem?_map] at h1
          rw [List.getElem?_map]
          cases hx : ws[j]? with
          | none => rw [hx] at h1; cases h1
          | some y => rw [hx] at h1; simp only [Option.map_some, Option.some.injEq] at h1 ⊢; rw [← h1]; rfl
        obtain ⟨bi, bo, L, hvv, hL, hLl, -, hLc⟩ := (hr.keep kW).sl.at hjn
        have hc := hLc 0 (by omega)
        simp only [Nat.mul_one, Nat.add_zero, hptr] at hc
        have hst : sidx 1 tv (.int .i64 (j : Int)) = some (.pointer (some ⟨bi, bo + j, none⟩)) := by rw [hvv]; simpa using sidx_at (b := bi) (o := bo) (n := ws.length) (c := 1) (j := j) (sz := 1) (k := .i64) hjn
        have hsa : sidx 1 (.slice (some ⟨ia, 0, none⟩) ws.length 1) (.int .i64 (j : Int)) = some (.pointer (some ⟨ia, j, none⟩)) := by simpa using sidx_at (b := ia) (o := 0) (n := ws.length) (c := 1) (j := j) (sz := 1) (k := .i64) hjn
        have hca : (ws'.map WaE.av)[j]? = some w.av := by rw [List.getElem?_map, List.getElem?_eq_getElem hjn', hw]; rfl
        obtain ⟨LA, hLA⟩ : ∃ LA, ws'.map WaE.av = LA := ⟨_, rfl⟩
        rw [hLA] at ga hca
        simp -implicitDefEqProofs (disch := first | assumption | (simp only [wnA]; done) | (simp only [wnA]; omega) | omega | fail) [hjn, rc44_0, wkA, retV, stabOk, dC, ev, fillD, pickCells, putAt, bnd, slD, List.getElem?_cons_zero, List.getElem?_cons_succ, dR.eq_20, Mem.cell, Mem.row, wmA, t0, t1, t23, t25, hst, hL, hc, getL hc, gw, hsa, ga, hca, getL hca]
        refine c_Step hT hav hal fun m2 o2 n2 g2 => ?_
        have gw2 := (o2.2 iw (Nat.lt_of_lt_of_le h.own.2.2.2.1 kk.1)).trans gw
        have ga2 := (o2.2 ia (Nat.lt_of_lt_of_le h.own.2.2.2.2 kk.1)).trans ga
        simp -implicitDefEqProofs (disch := first | assumption | (simp only [wnA]; done) | (simp only [wnA]; omega) | omega | fail) [wkA, retV, stabOk, dC, ev, fillD, pickCells, putAt, bnd, slD, List.getElem?_cons_zero, List.getElem?_cons_succ, dR.eq_20, Mem.cell, Mem.row, wmA, gw2, hsa]
        obtain ⟨nv, hnv⟩ : ∃ nv : Value, .slice (some ⟨m1.next, 0, none⟩) w.T.n 1 = nv := ⟨_, rfl⟩
        have hnr : RdV X m2 1 nv ((stepB w.T w.at_ c true).map .bool) (stepB w.T w.at_ c true).length := by
          subst hnv
          refine ⟨⟨by simp, .inr ⟨m1.next, 0, (stepB w.T w.at_ c true).map .bool, by rw [stepB_len], by rw [g2]; rfl, by simp, by rw [List.drop_zero, List.take_of_length_le (by simp)]⟩⟩, fun b hb => ?_⟩
          cases hb
          exact ⟨n2, h.wl _ kk.1⟩
        have hno : oneC nv = true ∧ cellsV nv = [nv] := by subst hnv; exact ⟨rfl, rfl⟩
        obtain ⟨M3, hM3⟩ : ∃ M, m2.set ia (.own (putAt LA j [nv]) 142) = M := ⟨_, rfl⟩
        have hlA : j < LA.length := by rw [← hLA, List.length_map]; exact hjn'
        have k3 : Keeps (fun i => i ≠ iw ∧ i ≠ ia) m2 M3 := by subst hM3; exact (Keeps.refl _ _).set (fun _ h => h.2 rfl) _
        have kW3 : Keeps X m2 M3 := by subst hM3; exact (Keeps.refl _ _).set (fun _ hx => h.own.2.1 hx) _
        have gw3 : M3.get iw = .own [tv, .slice (some ⟨ia, 0, none⟩) ws.length 1, .int .i64 s1, .bool false] 140 := by subst hM3; rw [Mem.set_other _ _ h.own.2.2.1]; exact gw2
        have hset : putAt LA j [nv] = (ws'.set j { w with av := nv, at_ := stepB w.T w.at_ c true }).map WaE.av := by
          rw [List.map_set, hLA, putAt, List.set_eq_take_append_cons_drop, if_pos hlA]
          simp
        have ga3 : M3.get ia = .own ((ws'.set j { w with av := nv, at_ := stepB w.T w.at_ c true }).map WaE.av) 142 := by rw [← hset]; subst hM3; rw [Mem.set_same]
        have kkF := (kk.trans (o2.keeps (X := fun i => i ≠ iw ∧ i ≠ ia))).trans k3
        have kWF := (kW.trans (o2.keeps (X := X))).trans kW3
        have kW13 := (o2.keeps (X := X)).trans kW3
        have hn1000 := hT.wf.2.2.2.2
        have hes3 : ∀ x ∈ ws'.set j { w with av := nv, at_ := stepB w.T w.at_ c true }, TabV X M3 x.it x.T ∧ RdV X M3 1 x.av (x.at_.map .bool) x.at_.length ∧ x.at_.length ≤ 1000 := fun x hx => by
          rcases List.mem_or_eq_of_mem_set hx with hx | rfl
          · exact ⟨(hes x hx).1.keep kW13, (hes x hx).2.1.keep kW13, (hes x hx).2.2⟩
          · exact ⟨hT.keep kW13, hnr.keep kW3, by show (stepB w.T w.at_ c true).length ≤ 1000; rw [stepB_len]; exact hn1000⟩
        have hwc : B[j]? = some (w.T, w.at_) := by
          have h1 : (ws'.map WaE.core)[j]? = some (w.T, w.at_) := by rw [List.getElem?_map, List.getElem?_eq_getElem hjn', hw]; rfl
          rw [hcore, List.getElem?_append_right (by simp; omega)] at h1
          have e : ((B.map (coreS c)).take j).length = j := by simp; omega
          rw [e, Nat.sub_self, List.getElem?_drop, Nat.add_zero] at h1
          exact h1
        have hAc : (B.map (coreS c))[j]? = some (w.T, stepB w.T w.at_ c true) := by rw [List.getElem?_map, hwc]; rfl
        have hcore3 : (ws'.set j { w with av := nv, at_ := stepB w.T w.at_ c true }).map WaE.core = (B.map (coreS c)).take (j + 1) ++ B.drop (j + 1) := by
          rw [List.map_set, hcore]
          exact mix_succ hA (by omega) hAc
        have hit3 : (ws'.set j { w with av := nv, at_ := stepB w.T w.at_ c true }).map WaE.it = ws.map WaE.it := by
          rw [List.map_set, ← hit]
          have : (ws'.map WaE.it)[j]'(by simpa using hjn') = w.it := by simp [hw]
          rw [← this]
          exact List.set_getElem_self _
        have hjw : IntKind.i64.wrap ((j : Int) + 1) = ((j + 1 : Nat) : Int) := by rw [w64 (by omega)]; omega
        have hb1 : bestJ (B.map (coreS c)) (j + 1) = if bestJ (B.map (coreS c)) j < 0 ∧ endsB w.T (stepB w.T w.at_ c true) = true then (j : Int) else bestJ (B.map (coreS c)) j := by
          simp only [bestJ, hAc]
        have last : ∀ fr' : Fr, fr' 0 = ts 0 → fr' 1 = ts 1 → fr' 6 = .int .i64 (bestJ (B.map (coreS c)) (j + 1)) → fr' 23 = ts 23 → fr' 24 = ts 24 → fr' 25 = .int .i64 ((j + 1 : Nat) : Int) → K fr' M3 := fun fr' e0 e1 e6 e23 e24 e25 =>
          hK (q - 1) _ _ (by omega) ⟨j + 1, _, by omega, kkF, kWF, hcore3, hit3, gw3, ga3, hes3, by rw [e0, t0], by rw [e1, t1], e6, by rw [e23, t23], by rw [e24, t24], e25⟩
        refine SK_stm (i := ia) (o := j) (vs := [nv]) (cs := LA) (e := 142) (M := M3) (by simp [wkA, retV, stabOk, dC, ev, fillD, pickCells, putAt, bnd, slD, List.getElem?_cons_zero, List.getElem?_cons_succ, dR.eq_20]) ga2 (by simp [wkA, retV, stabOk, dC, ev, fillD, pickCells, putAt, bnd, slD, List.getElem?_cons_zero, List.getElem?_cons_succ, dR.eq_20, hnv, hno.2]) (by omega) rfl (by simp [hno.1]) hM3 ?_
        have g3c : (putAt LA j [nv])[j]? = some nv := by
          have e0 : putAt LA j [nv] = LA.set j nv := by rw [putAt, List.set_eq_take_append_cons_drop, if_pos hlA]; simp
          rw [e0, List.getElem?_set_self hlA]
        have ga3' : M3.get ia = .own (putAt LA j [nv]) 142 := by rw [hset]; exact ga3
        clear hM3
        generalize bestJ (B.map (coreS c)) j = bj at *
        by_cases hb : bj < 0
        · have hE : endsB w.T (stepB w.T w.at_ c true) = ((List.range (stepB w.T w.at_ c true).length).any fun k => (stepB w.T w.at_ c true).getD k false && (decide (k < w.T.n) && w.T.last.getD k false)) := rfl
          obtain ⟨LB, hLB⟩ : ∃ LB, putAt LA j [nv] = LB := ⟨_, rfl⟩
          rw [hLB] at ga3' g3c
          simp -implicitDefEqProofs (disch := first | assumption | (simp only [wnA]; done) | (simp only [wnA]; omega) | omega | fail) [wkA, retV, stabOk, dC, ev, fillD, pickCells, putAt, bnd, slD, List.getElem?_cons_zero, List.getElem?_cons_succ, dR.eq_20, Mem.cell, Mem.row, wmA, t0, t6, ltT hb, gw3, hsa, ga3', g3c, getL g3c]
          refine c_Ends (hT.keep kW13) (hnr.keep kW3) (by rw [stepB_len]; exact hn1000) ?_
          rw [← hE]
          cases he : endsB w.T (stepB w.T w.at_ c true) with
          | true =>
            rw [if_pos ⟨hb, he⟩] at hb1
            simp -implicitDefEqProofs (disch := first | assumption | (simp only [wnA]; done) | (simp only [wnA]; omega) | omega | fail) [wkA, retV, stabOk, dC, ev, fillD, pickCells, putAt, bnd, slD, List.getElem?_cons_zero, List.getElem?_cons_succ, dR.eq_20, Mem.cell, Mem.row, wmA, t25, hjw]
            exact last _ (by simp) (by simp) (by simp [hb1]) (by simp) (by simp) (by simp)
          | false =>
            rw [if_neg (fun h => by rw [he] at h; cases h.2)] at hb1
            simp -implicitDefEqProofs (disch := first | assumption | (simp only [wnA]; done) | (simp only [wnA]; omega) | omega | fail) [wkA, retV, stabOk, dC, ev, fillD, pickCells, putAt, bnd, slD, List.getElem?_cons_zero, List.getElem?_cons_succ, dR.eq_20, Mem.cell, Mem.row, wmA, t25, hjw]
            exact last _ (by simp) (by simp) (by simp [hb1, t6]) (by simp) (by simp) (by simp)
        · rw [if_neg (fun h => hb h.1)] at hb1
          simp -implicitDefEqProofs (disch := first | assumption | (simp only [wnA]; done) | (simp only [wnA]; omega) | omega | fail) [wkA, retV, stabOk, dC, ev, fillD, pickCells, putAt, bnd, slD, List.getElem?_cons_zero, List.getElem?_cons_succ, dR.eq_20, Mem.cell, Mem.row, wmA, t0, t6, ltF (show (0 : Int) ≤ bj by omega), t25, hjw]
          exact last _ (by simp) (by simp) (by simp [hb1, t6]) (by simp) (by simp) (by simp)
      · have hjj : j = ws.length := by omega
        subst hjj
        have hcF : ws'.map WaE.core = B.map (coreS c) := by
          rw [hcore, List.take_of_length_le (by omega), List.drop_of_length_le (by omega), List.append_nil]
        have hrng := bestJ_rng (B.map (coreS c)) ws.length
        generalize bestJ (B.map (coreS c)) ws.length = bj at *
        have hWV : ∀ (M : Mem) (o : Bool), M.get iw = .own [tv, .slice (some ⟨ia, 0, none⟩) ws.length 1, .int .i64 s1, .bool o] 140 → M.next = m1.next → (∀ i, i ≠ iw → M.get i = m1.get i) → WatV X M iw ia ws' s1 o := fun M o hg hn ho => by
          have kM : Keeps X m1 M := ⟨by omega, fun i _ hi => ho i (fun e => h.own.1 (by rw [← e]; exact hi))⟩
          refine ⟨⟨tv, by rw [hwl]; exact hg, ?_⟩, by rw [ho _ h.own.2.2.1.symm]; exact ga, fun w hw => ⟨(hes w hw).1.keep kM, (hes w hw).2.1.keep kM, (hes w hw).2.2⟩, ⟨h.own.1, h.own.2.1, h.own.2.2.1, by have := h.own.2.2.2.1; have := kk.1; omega, by have := h.own.2.2.2.2; have := kk.1; omega⟩, by omega, fun i hi => h.wl i (by have := kk.1; omega)⟩
          have e : ws'.map WaE.ptr = ws.map WaE.ptr := by
            have := congrArg (List.map fun i => Value.pointer (some ⟨i, 0, none⟩)) hit
            rw [List.map_map, List.map_map] at this
            exact this
          rw [e, hwl]
          exact (hr.keep kW).keep kM
        by_cases hb : bj < 0
        · have e1 : max 0 bj = 0 := by omega
          have e2 : decide (0 ≤ bj) = false := by simp; omega
          rw [e1, e2] at hq
          simp -implicitDefEqProofs (disch := first | assumption | (simp only [wnA]; done) | (simp only [wnA]; omega) | omega | fail) [hjn, rc44_3, wkA, retV, stabOk, dC, ev, fillD, pickCells, putAt, bnd, slD, List.getElem?_cons_zero, List.getElem?_cons_succ, dR.eq_20, Mem.cell, Mem.row, wmA, t6, ltT hb]
          exact hq m1 ws' s1 rfl kk hcF hit (hWV m1 false gw rfl fun _ _ => rfl)
        · have e1 : max 0 bj = bj := by omega
          have e2 : decide (0 ≤ bj) = true := by simp; omega
          rw [e1, e2] at hq
          simp -implicitDefEqProofs (disch := first | assumption | (simp only [wnA]; done) | (simp only [wnA]; omega) | omega | fail) [hjn, rc44_3, rc44_2, wkA, retV, stabOk, dC, ev, fillD, pickCells, putAt, bnd, slD, List.getElem?_cons_zero, List.getElem?_cons_succ, dR.eq_20, Mem.cell, Mem.row, wmA, t0, t6, ltF (show (0 : Int) ≤ bj by omega)]
          obtain ⟨M3, hM3⟩ : ∃ M, m1.set iw (.own [tv, .slice (some ⟨ia, 0, none⟩) ws.length 1, .int .i64 s1, .bool true] 140) = M := ⟨_, rfl⟩
          have hV := hWV M3 true (by subst hM3; rw [Mem.set_same]) (by subst hM3; rfl) (fun i hi => by subst hM3; exact Mem.set_other _ _ hi)
          have k3 : Keeps (fun i => i ≠ iw ∧ i ≠ ia) m1 M3 := by subst hM3; exact (Keeps.refl _ _).set (fun _ h => h.1 rfl) _
          refine SK_stm (i := iw) (o := 3) (vs := [.bool true]) (cs := [tv, .slice (some ⟨ia, 0, none⟩) ws.length 1, .int .i64 s1, .bool false]) (e := 140) (M := M3) (by simp [wkA, retV, stabOk, dC, ev, fillD, pickCells, putAt, bnd, slD, List.getElem?_cons_zero, List.getElem?_cons_succ, dR.eq_20]) gw (by simp [wkA, retV, stabOk, dC, ev, fillD, pickCells, putAt, bnd, slD, List.getElem?_cons_zero, List.getElem?_cons_succ, dR.eq_20]) (by simp) rfl rfl hM3 ?_
          clear hM3
          simp -implicitDefEqProofs (disch := first | assumption | (simp only [wnA]; done) | (simp only [wnA]; omega) | omega | fail) [wkA, retV, stabOk, dC, ev, fillD, pickCells, putAt, bnd, slD, List.getElem?_cons_zero, List.getElem?_cons_succ, dR.eq_20, Mem.cell, Mem.row, wmA, t6]
          exact hq M3 ws' s1 rfl (kk.trans k3) hcF hit hV
end Go.Proofs.YtjlicambfepfiaaGreatDoor.Ab

set_option linter.unusedVariables false
set_option linter.unusedSimpArgs false
namespace Go.Proofs.YtjlicambfepfiaaGreatDoor.Ab
open Go Go.RowKit
set_option maxHeartbeats 4000000
set_option maxRecDepth 100000
def findN (s : List UInt8) : List DV → Nat → Int
  | [], _ => -1
  | x :: l, k => if x.1.lb = s ∧ s ≠ [] then (k : Int) else findN s l (k + 1)
theorem findN_at {s : List UInt8} {l : List DV} {j : Nat} (h : j < l.length) : findN s (l.drop j) j = if l[j].1.lb = s ∧ s ≠ [] then (j : Int) else findN s (l.drop (j + 1)) (j + 1) := by
  rw [List.drop_eq_getElem_cons h]
  rfl
theorem c_Find {w0 : World} {m : Mem} {v : Value} {l : List DV} {s : List UInt8} {Q : Value → Mem → Prop} (hv : DsV m v l) (hl : l.length ≤ 1000000) (hq : ∀ m', Old m m' → Q (.int .i64 (findN s l 0)) m') : AbC Tryz.prog w0 14 [v, .string ⟨⟨s⟩⟩] m Q := by
  refine AbC_fn ok14 (by simp) ?_
  simp -implicitDefEqProofs (disch := first | assumption | (simp only [wnA]; done) | (simp only [wnA]; omega) | omega | fail) [rc14, ro14, wkA, retV, stabOk, dC, ev, fillD, pickCells, putAt, bnd, slD, List.getElem?_cons_zero, List.getElem?_cons_succ, dR.eq_20, Mem.cell, Mem.row, wmA, hv.sl.slen]
  refine LoopW_of (fun k ts m' => ∃ j, j + k = l.length ∧ Old m m' ∧ ts 1 = .string ⟨⟨s⟩⟩ ∧ ts 7 = v ∧ ts 8 = .int .i64 (l.length : Nat) ∧ ts 9 = .int .i64 (j : Nat) ∧ findN s (l.drop j) j = findN s l 0) l.length ?_ ?_
  · exact ⟨0, by omega, Old.refl m, by simp [frA_at], by simp [frA_at], by simp, by simp, rfl⟩
  · rintro k ts m1 K ⟨j, hj, o1, t1, t7, t8, t9, hf⟩ hK
    simp -implicitDefEqProofs (disch := first | assumption | (simp only [wnA]; done) | (simp only [wnA]; omega) | omega | fail) [rc14_1, wkA, retV, stabOk, dC, ev, fillD, pickCells, putAt, bnd, slD, List.getElem?_cons_zero, List.getElem?_cons_succ, dR.eq_20, Mem.cell, Mem.row, wmA, t8, t9]
    by_cases hjl : j < l.length
    · have hv1 := hv.old o1
      obtain ⟨bi, bo, L, hvv, hL, hLl, hLt, -⟩ := hv1.sl.at hjl
      rw [flat_at vC_len l (List.getElem?_eq_getElem hjl)] at hLt
      rw [findN_at hjl] at hf
      obtain ⟨x, hx⟩ : ∃ x, l[j] = x := ⟨_, rfl⟩
      have hone := (hv1.ar x (by rw [← hx]; exact List.getElem_mem hjl)).sl.one
      rw [hx] at hLt hf
      rw [hvv] at t7
      have hle : bo + j * 7 + 7 ≤ L.length := by omega
      have hjw : IntKind.i64.wrap ((j : Int) + 1) = ((j + 1 : Nat) : Int) := by rw [w64 (by omega)]; omega
      obtain ⟨M, hM⟩ : ∃ M, (m1.push (.own [.string ⟨#[]⟩, .int .i64 0, .string ⟨#[]⟩, .slice none 0 0, .int .i64 0, .string ⟨#[]⟩, .int .i64 0] 29)).set m1.next (.own (putAt [.string ⟨#[]⟩, .int .i64 0, .string ⟨#[]⟩, .slice none 0 0, .int .i64 0, .string ⟨#[]⟩, .int .i64 0] 0 (vC x)) 29) = M := ⟨_, rfl⟩
      have oM : Old m1 M := by subst hM; exact ((Old.refl m1).push _).set (Nat.le_refl _) _
      have gM : M.get m1.next = .own (dsC x.1 x.2) 29 := by subst hM; rw [Mem.set_same]; rfl
      obtain ⟨⟨lb, kd, tx, arms, n, to, pl⟩, av⟩ := x
      have gx : M.get m1.next = .own [.string ⟨⟨lb⟩⟩, .int .i64 kd, .string ⟨⟨tx⟩⟩, av, .int .i64 n, .string ⟨⟨to⟩⟩, .int .i64 pl] 29 := gM
      have hLt : (L.drop (bo + j * 7)).take 7 = [.string ⟨⟨lb⟩⟩, .int .i64 kd, .string ⟨⟨tx⟩⟩, av, .int .i64 n, .string ⟨⟨to⟩⟩, .int .i64 pl] := hLt
      simp only at hf
      simp -implicitDefEqProofs (disch := first | assumption | (simp only [wnA]; done) | (simp only [wnA]; omega) | omega | fail) [hjl, rc14_0, wkA, retV, stabOk, dC, ev, fillD, pickCells, putAt, bnd, slD, List.getElem?_cons_zero, List.getElem?_cons_succ, dR.eq_20, Mem.cell, Mem.row, wmA, t1, t7, t8, t9, sidx_at, hL, hLt, hle]
      refine SK_stm (i := m1.next) (o := 0) (vs := vC (⟨lb, kd, tx, arms, n, to, pl⟩, av)) (cs := [.string ⟨#[]⟩, .int .i64 0, .string ⟨#[]⟩, .slice none 0 0, .int .i64 0, .string ⟨#[]⟩, .int .i64 0]) (e := 29) (M := M) (by simp [wkA, retV, stabOk, dC, ev, fillD, pickCells, putAt, bnd, slD, List.getElem?_cons_zero, List.getElem?_cons_succ, dR.eq_20]) (by simp -implicitDefEqProofs (disch := first | assumption | (simp only [wnA]; done) | (simp only [wnA]; omega) | omega | fail) [wkA, retV, stabOk, dC, ev, fillD, pickCells, putAt, bnd, slD, List.getElem?_cons_zero, List.getElem?_cons_succ, dR.eq_20, Mem.cell, Mem.row, wmA]) (by simp [wkA, retV, stabOk, dC, ev, fillD, pickCells, putAt, bnd, slD, List.getElem?_cons_zero, List.getElem?_cons_succ, dR.eq_20, vC, dsC]) (by simp) rfl (by simp only [vC, dsC, List.all_cons, List.all_nil, hone.1]; rfl) hM ?_
      clear hM
      by_cases h1 : lb = s
      · by_cases h2 : s = []
        · subst h1 h2
          rw [if_neg (by simp)] at hf
          simp -implicitDefEqProofs (disch := first | assumption | (simp only [wnA]; done) | (simp only [wnA]; omega) | omega | fail) [wkA, retV, stabOk, dC, ev, fillD, pickCells, putAt, bnd, slD, List.getElem?_cons_zero, List.getElem?_cons_succ, dR.eq_20, Mem.cell, Mem.row, wmA, gx, t1, t9, hjw]
          exact hK (k - 1) _ _ (by omega) ⟨j + 1, by omega, o1.trans oM, by simp [t1], by simp [t7, hvv], by simp [t8], by simp, hf⟩
        · rw [if_pos ⟨h1, h2⟩] at hf
          have hb0 : s.isEmpty = false := by cases s <;> simp at h2 ⊢
          simp -implicitDefEqProofs (disch := first | assumption | (simp only [wnA]; done) | (simp only [wnA]; omega) | omega | fail) [wkA, retV, stabOk, dC, ev, fillD, pickCells, putAt, bnd, slD, List.getElem?_cons_zero, List.getElem?_cons_succ, dR.eq_20, Mem.cell, Mem.row, wmA, gx, t1, t9, hjw, h1, hb0, h2]
          rw [hf]
          exact hq M (o1.trans oM)
      · rw [if_neg (fun h => h1 h.1)] at hf
        have hb1 : (lb == s) = false := by simpa using h1
        simp -implicitDefEqProofs (disch := first | assumption | (simp only [wnA]; done) | (simp only [wnA]; omega) | omega | fail) [wkA, retV, stabOk, dC, ev, fillD, pickCells, putAt, bnd, slD, List.getElem?_cons_zero, List.getElem?_cons_succ, dR.eq_20, Mem.cell, Mem.row, wmA, gx, t1, t9, hjw, hb1]
        exact hK (k - 1) _ _ (by omega) ⟨j + 1, by omega, o1.trans oM, by simp [t1], by simp [t7, hvv], by simp [t8], by simp, hf⟩
    · have hjj : j = l.length := by omega
      subst hjj
      rw [List.drop_length] at hf
      simp -implicitDefEqProofs (disch := first | assumption | (simp only [wnA]; done) | (simp only [wnA]; omega) | omega | fail) [hjl, wkA, retV, stabOk, dC, ev, fillD, pickCells, putAt, bnd, slD, List.getElem?_cons_zero, List.getElem?_cons_succ, dR.eq_20, Mem.cell, Mem.row, wmA, rc14_2]
      have := hq m1 o1
      rw [← hf] at this
      exact this
end Go.Proofs.YtjlicambfepfiaaGreatDoor.Ab

set_option linter.unusedVariables false
set_option linter.unusedSimpArgs false
namespace Go.Proofs.YtjlicambfepfiaaGreatDoor.Ab
open Go Go.RowKit
set_option maxHeartbeats 4000000
set_option maxRecDepth 100000
def valOf : List MapEntry → Int → Int
  | [], _ => 0
  | e :: es, k => match e.key, e.val with
    | .int .i64 a, .int .i64 b => if k = a then b else valOf es k
    | _, _ => 0
def okMI (es : List MapEntry) : Prop := ∀ e ∈ es, ∃ a b, e.key = .int .i64 a ∧ e.val = .int .i64 b
theorem find_MI {k : Int} : ∀ (es : List MapEntry), okMI es → ∀ i, (∃ j, mapFind 0 (.int .i64 k) es i = some (some (i + j, .int .i64 (valOf es k))) ∧ ∀ v, okMI (mapPut es j (.int .i64 k) (.int .i64 v)) ∧ ∀ k', valOf (mapPut es j (.int .i64 k) (.int .i64 v)) k' = if k' = k then v else valOf es k') ∨
    (mapFind 0 (.int .i64 k) es i = some none ∧ valOf es k = 0 ∧ ∀ v c, okMI (es ++ [⟨.int .i64 k, .int .i64 v, c⟩]) ∧ ∀ k', valOf (es ++ [⟨.int .i64 k, .int .i64 v, c⟩]) k' = if k' = k then v else valOf es k')
  | [], _, i => .inr ⟨rfl, rfl, fun v c => ⟨fun e he => by rw [List.nil_append, List.mem_singleton] at he; subst he; exact ⟨k, v, rfl, rfl⟩, fun k' => by simp [valOf]⟩⟩
  | e :: es, ho, i => by
    obtain ⟨a, b, ha, hb⟩ := ho e (by simp)
    have ho2 : okMI es := fun x hx => ho x (by simp [hx])
    have hk : keyIs 0 (.int .i64 k) (.int .i64 a) = some (k == a) := by simp [keyIs]
    by_cases h : k = a
    · left
      have hbe : (k == a) = true := by simp [h]
      refine ⟨0, ?_, fun v => ⟨?_, fun k' => ?_⟩⟩
      · simp only [mapFind, ha, hk, hbe, valOf, hb, if_pos h, Nat.add_zero]
      · intro x hx
        simp only [mapPut, List.mem_cons] at hx
        rcases hx with rfl | hx
        · exact ⟨k, v, rfl, rfl⟩
        · exact ho2 x hx
      · simp only [mapPut, valOf, ha, hb]
        subst h
        split <;> rfl
    · have hbe : (k == a) = false := by simp [h]
      rcases find_MI (k := k) es ho2 (i + 1) with ⟨j, h1, h2⟩ | ⟨h1, h2, h3⟩
      · left
        refine ⟨j + 1, ?_, fun v => ⟨?_, fun k' => ?_⟩⟩
        · simp only [mapFind, ha, hk, hbe, h1, valOf, hb, if_neg h]
          rw [show i + 1 + j = i + (j + 1) by omega]
        · intro x hx
          simp only [mapPut, List.mem_cons] at hx
          rcases hx with rfl | hx
          · exact ⟨a, b, ha, hb⟩
          · exact (h2 v).1 x hx
        · simp only [mapPut, valOf, ha, hb, (h2 v).2 k']
          split
          · rename_i h5; rw [if_neg (by rw [h5]; exact Ne.symm h)]
          · rfl
      · right
        refine ⟨by simp only [mapFind, ha, hk, hbe, h1], by simp only [valOf, ha, hb, if_neg h, h2], fun v c => ⟨?_, fun k' => ?_⟩⟩
        · intro x hx
          simp only [List.cons_append, List.mem_cons] at hx
          rcases hx with rfl | hx
          · exact ⟨a, b, ha, hb⟩
          · exact (h3 v c).1 x hx
        · simp only [List.cons_append, valOf, ha, hb, (h3 v c).2 k']
          split
          · rename_i h5; rw [if_neg (by rw [h5]; exact Ne.symm h)]
          · rfl
/-- A map of numbers lies. -/
def MapI (m : Mem) (im : Nat) (f : Int → Int) : Prop := ∃ es c, m.get im = .map es c ∧ okMI es ∧ ∀ k, valOf es k = f k
theorem MapI.lku {m : Mem} {im : Nat} {f : Int → Int} (h : MapI m im f) {ts : Fr} {x i : Operand} {k : Int} (hx : ev ts x = .map (some im)) (hi : ev ts i = .int .i64 k) : dR ts m (.lku 0 false (.int .i64 0) x i) = some (.int .i64 (f k)) := by
  obtain ⟨es, c, g, ho, hv⟩ := h
  simp only [dR, hx, hi, g]
  rcases find_MI (k := k) es ho 0 with ⟨j, h1, -⟩ | ⟨h1, h2, -⟩
  · simp [h1, hv]
  · simp [h1, ← hv, h2]
theorem MapI.mup {P : Program} {w0 : World} {m : Mem} {im : Nat} {f : Int → Int} (h : MapI m im f) {ts : Fr} {x i y : Operand} {k v : Int} {R : Value → Mem → Prop} (hx : ev ts x = .map (some im)) (hi : ev ts i = .int .i64 k) (hy : ev ts y = .int .i64 v)
    (hR : ∀ M, MapI M im (fun j => if j = k then v else f j) → M.next = m.next → (∀ i, i ≠ im → M.get i = m.get i) → R undef M) : SK P w0 (.e (.mup 0 x i y)) ts m R := by
  obtain ⟨es, c, g, ho, hv⟩ := h
  unfold SK
  rcases find_MI (k := k) es ho 0 with ⟨j, h1, h2⟩ | ⟨h1, -, h2⟩
  · simp only [dE, hx, hi, hy, g, h1, Nat.zero_add]
    rw [if_pos (.inl (by decide))]
    exact hR _ ⟨_, _, by rw [Mem.set_same], (h2 v).1, fun q => by rw [(h2 v).2 q, hv]⟩ rfl fun i hi => Mem.set_other _ _ hi
  · simp only [dE, hx, hi, hy, g, h1]
    rw [if_pos (.inl (by decide))]
    exact hR _ ⟨_, _, by rw [Mem.set_same], (h2 v c).1, fun q => by rw [(h2 v c).2 q, hv]⟩ rfl fun i hi => Mem.set_other _ _ hi
end Go.Proofs.YtjlicambfepfiaaGreatDoor.Ab

set_option linter.unusedVariables false
set_option linter.unusedSimpArgs false
namespace Go.Proofs.YtjlicambfepfiaaGreatDoor.Ab
open Go Go.RowKit
set_option maxHeartbeats 4000000
set_option maxRecDepth 100000
/-- Steps that are only read. -/
structure DsX (X : Nat → Prop) (m : Mem) (v : Value) (l : List DV) : Prop where
  sl : RdV X m 7 v (l.flatMap vC) l.length
  ar : ∀ x ∈ l, RdV X m 2 x.2 (x.1.arms.flatMap Arm.cells) x.1.arms.length
theorem DsX.dsV {X : Nat → Prop} {m : Mem} {v : Value} {l : List DV} (h : DsX X m v l) : DsV m v l := ⟨h.sl.sl, fun b hb => (h.sl.bl b hb).1, fun x hx => ⟨(h.ar x hx).sl, fun b hb => ((h.ar x hx).bl b hb).1⟩⟩
theorem DsX.keep {X : Nat → Prop} {m m' : Mem} {v : Value} {l : List DV} (h : DsX X m v l) (k : Keeps X m m') : DsX X m' v l := ⟨h.sl.keep k, fun x hx => (h.ar x hx).keep k⟩
theorem DsX.mono {X Y : Nat → Prop} {m : Mem} {v : Value} {l : List DV} (h : DsX X m v l) (hy : ∀ i, i < m.next → X i → Y i) : DsX Y m v l := ⟨h.sl.mono hy, fun x hx => (h.ar x hx).mono hy⟩
structure WatS where
  iw : Nat
  ia : Nat
  ws : List WaE
  seen : Int
  over : Bool
structure PlS where
  at_ : Int
  im : Nat
  wat : Option WatS
  left : Int
  st : Int
  ot : Option Nat
  tr : List Int
  f : Int → Int
def ownP (ip : Nat) (s : PlS) : List Nat := ip :: s.im :: (s.ot.toList ++ (match s.wat with
  | none => []
  | some w => [w.iw, w.ia]))
def watP : Option WatS → Value
  | none => .pointer none
  | some w => .pointer (some ⟨w.iw, 0, none⟩)
def plC (sv : Value) (s : PlS) : List Value := [sv, .int .i64 s.at_, .map (some s.im), watP s.wat, .int .i64 s.left, .int .i64 0, .int .i64 s.st, slV s.ot s.tr.length 1]
/-- A dialogue that goes on lies. -/
structure PlayV (V : List Nat) (m : Mem) (ip : Nat) (sv : Value) (l : List DV) (s : PlS) : Prop where
  g : m.get ip = .own (plC sv s) 105
  ds : DsX (fun i => i ∉ ownP ip s ++ V) m sv l
  mp : MapI m s.im s.f
  ot : SlO m 3 1 s.ot (s.tr.map (.int .i64)) s.tr.length
  wt : ∀ w, s.wat = some w → WatV (fun i => i ∉ ownP ip s ++ V) m w.iw w.ia w.ws w.seen w.over
  nd : (ownP ip s).Nodup
  lt : ∀ i ∈ ownP ip s ++ V, i < m.next
  pt : Part L0 m
  lo : ∀ i ∈ ownP ip s, L0.n ≤ i
  dj : ∀ i ∈ ownP ip s, i ∉ V
theorem Part.keeps {m m' : Mem} {X : Nat → Prop} (h : Part L0 m) (k : Keeps X m m') (hX : ∀ i, i < L0.n → X i) : Part L0 m' := by
  refine ⟨Nat.le_trans h.1 k.1, fun i => ?_⟩
  by_cases hi : i < L0.n
  · rcases h.2 i with h1 | ⟨cs, h1, h2, h3⟩
    · exact .inl h1
    · exact .inr ⟨cs, h1, by rw [k.2 i (Nat.lt_of_lt_of_le hi h.1) (hX i hi)]; exact h2, h3⟩
  · exact .inl (LM.get_ge hi)
theorem PlayV.ipo {V : List Nat} {m : Mem} {ip : Nat} {sv : Value} {l : List DV} {s : PlS} (h : PlayV V m ip sv l s) : ip ∈ ownP ip s ++ V := by simp [ownP]
/-- Only the play's own numbers have changed. -/
theorem PlayV.upd {V : List Nat} {m M : Mem} {ip : Nat} {sv : Value} {l : List DV} {s : PlS} (h : PlayV V m ip sv l s) (k : Keeps (fun i => i ≠ ip) m M) (a lf st : Int)
    (g : M.get ip = .own (plC sv { s with at_ := a, left := lf, st := st }) 105) : PlayV V M ip sv l { s with at_ := a, left := lf, st := st } := by
  have hip := h.ipo
  have kX : Keeps (fun i => i ∉ ownP ip s ++ V) m M := k.mono fun i _ hi e => hi (by rw [e]; exact hip)
  have hnd := h.nd
  simp only [ownP, List.nodup_cons, List.mem_cons, not_or] at hnd
  have him : s.im ≠ ip := fun e => hnd.1.1 e.symm
  have hm2 := h.lt s.im (by simp [ownP])
  refine ⟨g, h.ds.keep kX, ?_, ?_, ?_, h.nd, fun i hi => Nat.lt_of_lt_of_le (h.lt i hi) k.1, h.pt.keeps k (fun i hi e => by have := h.lo ip (by simp [ownP]); omega), h.lo, h.dj⟩
  · obtain ⟨es, c, g1, h2⟩ := h.mp
    exact ⟨es, c, (k.2 _ hm2 him).trans g1, h2⟩
  · refine h.ot.keep k.1 fun b hb => k.2 b (h.lt b ?_) ?_
    · simp [ownP, hb]
    · intro e; subst e; exact hnd.1.2 (by simp [hb])
  · intro w hw
    have hw' : s.wat = some w := hw
    rw [hw'] at hnd
    refine (h.wt w hw).keep kX (k.2 _ (h.wt w hw).own.2.2.2.1 fun e => ?_) (k.2 _ (h.wt w hw).own.2.2.2.2 fun e => ?_)
    · exact hnd.1.2 (by rw [← e]; simp)
    · exact hnd.1.2 (by rw [← e]; simp)
/-- Others have changed, or there are others. -/
theorem PlayV.other {V V' : List Nat} {m M : Mem} {ip : Nat} {sv : Value} {l : List DV} {s : PlS} (h : PlayV V m ip sv l s) (k : Keeps (fun i => i ∉ V) m M) (hV : ∀ i ∈ V', i ∈ V ∨ m.next ≤ i) (hV2 : ∀ i ∈ V', i < M.next) (hV3 : ∀ i ∈ V, i < L0.n → False) : PlayV V' M ip sv l s := by
  have hown : ∀ i ∈ ownP ip s, i < m.next ∧ i ∉ V := fun i hi => ⟨h.lt i (List.mem_append_left _ hi), h.dj i hi⟩
  have hX : ∀ i, i < m.next → i ∉ ownP ip s ++ V → i ∉ ownP ip s ++ V' := fun i hi hn hm => by
    rcases List.mem_append.1 hm with hm | hm
    · exact hn (List.mem_append_left _ hm)
    · rcases hV i hm with h1 | h1
      · exact hn (List.mem_append_right _ h1)
      · omega
  have hk : ∀ i, i < m.next → i ∉ V → M.get i = m.get i := k.2
  have go : ∀ i ∈ ownP ip s, M.get i = m.get i := fun i hi => hk i (hown i hi).1 (hown i hi).2
  have kb : Keeps (fun i => i ∉ ownP ip s ++ V) m M := k.mono fun i _ hi hm => hi (List.mem_append_right _ hm)
  have hXM : ∀ i, i < M.next → (i < m.next ∧ i ∉ ownP ip s ++ V) → i ∉ ownP ip s ++ V' := fun i _ hi => hX i hi.1 hi.2
  have kb2 : Keeps (fun i => i < m.next ∧ i ∉ ownP ip s ++ V) m M := kb.mono fun i _ hi => hi.2
  refine ⟨(go ip (by simp [ownP])).trans h.g, ((h.ds.mono fun i hi hx => (⟨hi, hx⟩ : i < m.next ∧ i ∉ ownP ip s ++ V)).keep kb2).mono hXM, ?_, ?_, ?_, h.nd, ?_, h.pt.keeps k (fun i hi hm => hV3 i hm hi), h.lo, ?_⟩
  · obtain ⟨es, c, g, h2⟩ := h.mp
    exact ⟨es, c, (go _ (by simp [ownP])).trans g, h2⟩
  · refine h.ot.keep k.1 fun b hb => go b (by simp [ownP, hb])
  · intro w hw
    have hwv := h.wt w hw
    have i1 : w.iw ∈ ownP ip s := by simp [ownP, hw]
    have i2 : w.ia ∈ ownP ip s := by simp [ownP, hw]
    obtain ⟨tv, g, r⟩ := hwv.g
    refine ⟨⟨tv, (go _ i1).trans g, ((r.mono fun i hi hx => (⟨hi, hx⟩ : i < m.next ∧ i ∉ ownP ip s ++ V)).keep kb2).mono hXM⟩, (go _ i2).trans hwv.ga, fun e he => ⟨(((hwv.es e he).1.mono fun i hi hx => (⟨hi, hx⟩ : i < m.next ∧ i ∉ ownP ip s ++ V)).keep kb2).mono hXM, (((hwv.es e he).2.1.mono fun i hi hx => (⟨hi, hx⟩ : i < m.next ∧ i ∉ ownP ip s ++ V)).keep kb2).mono hXM, (hwv.es e he).2.2⟩, ⟨fun hn => hn (List.mem_append_left _ i1), fun hn => hn (List.mem_append_left _ i2), hwv.own.2.2.1, Nat.lt_of_lt_of_le hwv.own.2.2.2.1 k.1, Nat.lt_of_lt_of_le hwv.own.2.2.2.2 k.1⟩, hwv.l, fun i hi hm => ?_⟩
    rcases List.mem_append.1 hm with hm | hm
    · have := (hown i hm).1; have := k.1; omega
    · have := hV2 i hm; omega
  · intro i hi
    rcases List.mem_append.1 hi with hi | hi
    · exact Nat.lt_of_lt_of_le (hown i hi).1 k.1
    · exact hV2 i hi
  · intro i hi hm
    rcases hV i hm with h1 | h1
    · exact h.dj i hi h1
    · have := (hown i hi).1; omega
theorem c_jump {w0 : World} {V : List Nat} {m : Mem} {ip : Nat} {sv : Value} {l : List DV} {s : PlS} {to : List UInt8} {Q : Value → Mem → Prop} (h : PlayV V m ip sv l s) (hl : l.length ≤ 1000000)
    (hq : ∀ M, Keeps (fun i => i ≠ ip) m M → PlayV V M ip sv l { s with at_ := findN to l 0 } → ∀ u, Q u M) : AbC Tryz.prog w0 43 [.pointer (some ⟨ip, 0, none⟩), .string ⟨⟨to⟩⟩] m Q := by
  refine AbC_fn ok43 (by simp) ?_
  have g : m.get ip = .own [sv, .int .i64 s.at_, .map (some s.im), watP s.wat, .int .i64 s.left, .int .i64 0, .int .i64 s.st, slV s.ot s.tr.length 1] 105 := h.g
  simp -implicitDefEqProofs (disch := first | assumption | (simp only [wnA]; done) | (simp only [wnA]; omega) | omega | fail) [rc43, ro43, wkA, retV, stabOk, dC, ev, fillD, pickCells, putAt, bnd, slD, List.getElem?_cons_zero, List.getElem?_cons_succ, dR.eq_20, Mem.cell, Mem.row, wmA, g]
  refine c_Find h.ds.dsV hl fun m1 o1 => ?_
  have hip := h.lt ip h.ipo
  have g1 := (o1.2 _ hip).trans h.g
  obtain ⟨M, hM⟩ : ∃ M, m1.set ip (.own (plC sv { s with at_ := findN to l 0 }) 105) = M := ⟨_, rfl⟩
  simp -implicitDefEqProofs (disch := first | assumption | (simp only [wnA]; done) | (simp only [wnA]; omega) | omega | fail) [wkA, retV, stabOk, dC, ev, fillD, pickCells, putAt, bnd, slD, List.getElem?_cons_zero, List.getElem?_cons_succ, dR.eq_20, Mem.cell, Mem.row, wmA]
  refine SK_stm (i := ip) (o := 1) (vs := [.int .i64 (findN to l 0)]) (cs := plC sv s) (e := 105) (M := M) (by simp [wkA, retV, stabOk, dC, ev, fillD, pickCells, putAt, bnd, slD, List.getElem?_cons_zero, List.getElem?_cons_succ, dR.eq_20]) g1 (by simp [wkA, retV, stabOk, dC, ev, fillD, pickCells, putAt, bnd, slD, List.getElem?_cons_zero, List.getElem?_cons_succ, dR.eq_20]) (by simp [plC]) rfl rfl hM ?_
  have k1 : Keeps (fun i => i ≠ ip) m M := by subst hM; exact (o1.keeps).set (fun _ hn => hn rfl) _
  have hP := h.upd k1 (findN to l 0) s.left s.st (by subst hM; rw [Mem.set_same])
  simp -implicitDefEqProofs (disch := first | assumption | (simp only [wnA]; done) | (simp only [wnA]; omega) | omega | fail) [wkA, retV, stabOk, dC, ev, fillD, pickCells, putAt, bnd, slD, List.getElem?_cons_zero, List.getElem?_cons_succ, dR.eq_20, Mem.cell, Mem.row, wmA]
  exact hq M k1 hP _
end Go.Proofs.YtjlicambfepfiaaGreatDoor.Ab

set_option linter.unusedVariables false
set_option linter.unusedSimpArgs false
namespace Go.Proofs.YtjlicambfepfiaaGreatDoor.Ab
open Go Go.RowKit
set_option maxHeartbeats 4000000
set_option maxRecDepth 100000
def patV (a : Arm) : Value := .string ⟨⟨a.pat⟩⟩
theorem arm_len2 (a : Arm) : a.cells.length = 2 := rfl
/-- The patterns are put together. -/
theorem w_pso {w0 : World} {Q : AQ} {fr : Fr} {m : Mem} {av : Value} {arms : List Arm} (ha : SlR m 2 av (arms.flatMap Arm.cells) arms.length) (hb : ∀ b, blk av = some b → b < m.next) (hl : arms.length ≤ 1000000) (f5 : fr 5 = .slice none 0 0) (f28 : fr 28 = av) (f29 : fr 29 = .int .i64 (arms.length : Nat)) (f30 : fr 30 = .int .i64 0)
    (hq : ∀ fr' m' ob, Old m m' → SlO m' 9 1 ob (arms.map patV) arms.length → fr' 5 = slV ob arms.length 1 → (∀ i ∈ [0, 1, 2, 3, 4], fr' i = fr i) → Q .normal fr' m') : LoopW (AbW Tryz.prog w0 rc63_1) (inBlockA 1 Q) fr m := by
  refine LoopW_of (fun k ts m' => ∃ j ob, j + k = arms.length ∧ Old m m' ∧ SlO m' 9 1 ob ((arms.take j).map patV) j ∧ (∀ i, ob = some i → m.next ≤ i) ∧ (∀ i ∈ [0, 1, 2, 3, 4], ts i = fr i) ∧ ts 5 = slV ob j 1 ∧ ts 28 = av ∧ ts 29 = .int .i64 (arms.length : Nat) ∧ ts 30 = .int .i64 (j : Nat)) arms.length ?_ ?_
  · exact ⟨0, none, by omega, Old.refl m, ⟨rfl, rfl⟩, (fun i hi => by cases hi), fun _ _ => rfl, f5, f28, f29, f30⟩
  · rintro k ts m1 K ⟨j, ob, hj, o1, so, hob, sm, t5, t28, t29, t30⟩ hK
    simp -implicitDefEqProofs (disch := first | assumption | (simp only [wnA]; done) | (simp only [wnA]; omega) | omega | fail) [rc63_1, wkA, retV, stabOk, dC, ev, fillD, pickCells, putAt, bnd, slD, List.getElem?_cons_zero, List.getElem?_cons_succ, dR.eq_20, Mem.cell, Mem.row, wmA, t29, t30]
    by_cases hjl : j < arms.length
    · obtain ⟨bi, bo, L, hvv, hL, hLl, hLt, -⟩ := (ha.keep fun b hbb => o1.2 b (hb b hbb) : SlR m1 2 av _ arms.length).at hjl
      rw [flat_at arm_len2 arms (List.getElem?_eq_getElem hjl)] at hLt
      obtain ⟨a, hx⟩ : ∃ a, arms[j] = a := ⟨_, rfl⟩
      rw [hx] at hLt
      have hLt : (L.drop (bo + j * 2)).take 2 = [.string ⟨⟨a.pat⟩⟩, .string ⟨⟨a.to⟩⟩] := hLt
      rw [hvv] at t28
      have hle : bo + j * 2 + 2 ≤ L.length := by omega
      have hjw : IntKind.i64.wrap ((j : Int) + 1) = ((j + 1 : Nat) : Int) := by rw [w64 (by omega)]; omega
      obtain ⟨M, hM⟩ : ∃ M, (m1.push (.own [.string ⟨#[]⟩, .string ⟨#[]⟩] 49)).set m1.next (.own (putAt [.string ⟨#[]⟩, .string ⟨#[]⟩] 0 [.string ⟨⟨a.pat⟩⟩, .string ⟨⟨a.to⟩⟩]) 49) = M := ⟨_, rfl⟩
      have oM : Old m1 M := by subst hM; exact ((Old.refl m1).push _).set (Nat.le_refl _) _
      have gM : M.get m1.next = .own [.string ⟨⟨a.pat⟩⟩, .string ⟨⟨a.to⟩⟩] 49 := by subst hM; rw [Mem.set_same]; rfl
      simp -implicitDefEqProofs (disch := first | assumption | (simp only [wnA]; done) | (simp only [wnA]; omega) | omega | fail) [hjl, rc63_0, wkA, retV, stabOk, dC, ev, fillD, pickCells, putAt, bnd, slD, List.getElem?_cons_zero, List.getElem?_cons_succ, dR.eq_20, Mem.cell, Mem.row, wmA, t28, t30, sidx_at, hL, hLt, hle]
      refine SK_stm (i := m1.next) (o := 0) (vs := [.string ⟨⟨a.pat⟩⟩, .string ⟨⟨a.to⟩⟩]) (cs := [.string ⟨#[]⟩, .string ⟨#[]⟩]) (e := 49) (M := M) (by simp [wkA, retV, stabOk, dC, ev, fillD, pickCells, putAt, bnd, slD, List.getElem?_cons_zero, List.getElem?_cons_succ, dR.eq_20]) (by simp -implicitDefEqProofs (disch := first | assumption | (simp only [wnA]; done) | (simp only [wnA]; omega) | omega | fail) [wkA, retV, stabOk, dC, ev, fillD, pickCells, putAt, bnd, slD, List.getElem?_cons_zero, List.getElem?_cons_succ, dR.eq_20, Mem.cell, Mem.row, wmA]) (by simp [wkA, retV, stabOk, dC, ev, fillD, pickCells, putAt, bnd, slD, List.getElem?_cons_zero, List.getElem?_cons_succ, dR.eq_20]) (by simp) rfl rfl hM ?_
      clear hM
      simp -implicitDefEqProofs (disch := first | assumption | (simp only [wnA]; done) | (simp only [wnA]; omega) | omega | fail) [wkA, retV, stabOk, dC, ev, fillD, pickCells, putAt, bnd, slD, List.getElem?_cons_zero, List.getElem?_cons_succ, dR.eq_20, Mem.cell, Mem.row, wmA, gM]
      rw [SK_bsl (cs := [.string ⟨⟨a.pat⟩⟩]) (by simp [wkA, retV, stabOk, dC, ev, fillD, pickCells, putAt, bnd, slD, List.getElem?_cons_zero, List.getElem?_cons_succ, dR.eq_20]) (by simp)]
      obtain ⟨M2, hM2⟩ : ∃ M2, M.push (.own [.string ⟨⟨a.pat⟩⟩] 9) = M2 := ⟨_, rfl⟩
      have o2 : Old M M2 := by subst hM2; exact (Old.refl M).push _
      have g2 : M2.get M.next = .own [.string ⟨⟨a.pat⟩⟩] 9 := by subst hM2; rw [Mem.push_same]
      have so2 : SlO M2 9 1 ob ((arms.take j).map patV) j := so.keep (Nat.le_trans oM.1 o2.1) fun b hbb => (oM.trans o2).2 b (by subst hbb; exact so.lt)
      simp -implicitDefEqProofs (disch := first | assumption | (simp only [wnA]; done) | (simp only [wnA]; omega) | omega | fail) [wkA, retV, stabOk, dC, ev, fillD, pickCells, putAt, bnd, slD, List.getElem?_cons_zero, List.getElem?_cons_succ, dR.eq_20, Mem.cell, Mem.row, wmA, hM2, t5]
      clear hM2
      refine SK_ap (ob := ob) (n := j) (k := 1) (cs := (arms.take j).map patV) (ys := [.string ⟨⟨a.pat⟩⟩]) so2 (by simp [wkA, retV, stabOk, dC, ev, fillD, pickCells, putAt, bnd, slD, List.getElem?_cons_zero, List.getElem?_cons_succ, dR.eq_20, t5]) (by simp -implicitDefEqProofs (disch := first | assumption | (simp only [wnA]; done) | (simp only [wnA]; omega) | omega | fail) [wkA, retV, stabOk, dC, ev, fillD, pickCells, putAt, bnd, slD, List.getElem?_cons_zero, List.getElem?_cons_succ, dR.eq_20, elemsV, Mem.cell, Mem.row, wmA, g2]) (by simp [wkA, retV, stabOk, dC, ev, fillD, pickCells, putAt, bnd, slD, List.getElem?_cons_zero, List.getElem?_cons_succ, dR.eq_20]) (by omega) rfl (by omega) (by simp only [maxLen]; omega) rfl ?_
      obtain ⟨M3, hM3⟩ : ∃ M3, (M2.kill ob).push (.own ((arms.take j).map patV ++ [.string ⟨⟨a.pat⟩⟩]) 9) = M3 := ⟨_, rfl⟩
      have o3 : Old m M3 := by subst hM3; exact (((o1.trans oM).trans o2).kill hob).push _
      have s3 : SlO M3 9 1 (some M2.next) ((arms.take (j + 1)).map patV) (j + 1) := by
        have e : (arms.take (j + 1)).map patV = (arms.take j).map patV ++ [.string ⟨⟨a.pat⟩⟩] := by
          rw [List.take_succ_eq_append_getElem hjl, List.map_append, hx]; rfl
        rw [e]; subst hM3
        exact SlO.new (by rw [List.length_append, List.length_map, List.length_take]; simp; omega)
      have hn2 : m.next ≤ M2.next := ((o1.trans oM).trans o2).1
      rw [hM3]
      simp -implicitDefEqProofs (disch := first | assumption | (simp only [wnA]; done) | (simp only [wnA]; omega) | omega | fail) [wkA, retV, stabOk, dC, ev, fillD, pickCells, putAt, bnd, slD, List.getElem?_cons_zero, List.getElem?_cons_succ, dR.eq_20, Mem.cell, Mem.row, wmA, t30, hjw]
      exact hK (k - 1) _ _ (by omega) ⟨j + 1, some M2.next, by omega, o3, s3, fun i hi => by cases hi; exact hn2, fun i hi => by
        have := sm i hi
        simp only [List.mem_cons, List.not_mem_nil, or_false] at hi
        rcases hi with rfl | rfl | rfl | rfl | rfl <;> simp [this], by simp, by simp [t28, hvv], by simp [t29], by simp⟩
    · have hjj : j = arms.length := by omega
      subst hjj
      rw [List.take_length] at so
      simp -implicitDefEqProofs (disch := first | assumption | (simp only [wnA]; done) | (simp only [wnA]; omega) | omega | fail) [hjl, wkA, retV, stabOk, dC, ev, fillD, pickCells, putAt, bnd, slD, List.getElem?_cons_zero, List.getElem?_cons_succ, dR.eq_20, Mem.cell, Mem.row, wmA]
      exact hq _ m1 ob o1 so (by simp [t5]) fun i hi => by
        have := sm i hi
        simp only [List.mem_cons, List.not_mem_nil, or_false] at hi
        rcases hi with rfl | rfl | rfl | rfl | rfl <;> simp [this]
end Go.Proofs.YtjlicambfepfiaaGreatDoor.Ab

set_option linter.unusedVariables false
set_option linter.unusedSimpArgs false
namespace Go.Proofs.YtjlicambfepfiaaGreatDoor.Ab
open Go Go.RowKit
set_option maxHeartbeats 4000000
set_option maxRecDepth 100000
theorem WatV.mono {X Y : Nat → Prop} {m : Mem} {iw ia : Nat} {ws : List WaE} {seen : Int} {over : Bool} (h : WatV X m iw ia ws seen over) (hy : ∀ i, i < m.next → X i → Y i) (h1 : ¬ Y iw) (h2 : ¬ Y ia) (h3 : ∀ i, m.next ≤ i → Y i) : WatV Y m iw ia ws seen over := by
  obtain ⟨tv, g, r⟩ := h.g
  exact ⟨⟨tv, g, r.mono hy⟩, h.ga, fun w hw => ⟨(h.es w hw).1.mono hy, (h.es w hw).2.1.mono hy, (h.es w hw).2.2⟩, ⟨h1, h2, h.own.2.2⟩, h.l, h3⟩
theorem PlayV.old {V : List Nat} {m M : Mem} {ip : Nat} {sv : Value} {l : List DV} {s : PlS} (h : PlayV V m ip sv l s) (o : Old m M) : PlayV V M ip sv l s :=
  h.upd o.keeps s.at_ s.left s.st ((o.2 _ (h.lt _ h.ipo)).trans h.g)
/-- A new watch. -/
theorem PlayV.setW {V : List Nat} {m m1 M : Mem} {ip : Nat} {sv : Value} {l : List DV} {s : PlS} {w : WatS} (h : PlayV V m ip sv l s) (hw : s.wat = none) (o : Old m m1) (hW : WatV (fun i => m.next ≤ i ∧ i ≠ w.iw ∧ i ≠ w.ia) m1 w.iw w.ia w.ws w.seen w.over) (n1 : m.next ≤ w.iw) (n2 : m.next ≤ w.ia)
    (hM : M = m1.set ip (.own (plC sv { s with wat := some w }) 105)) : PlayV V M ip sv l { s with wat := some w } := by
  subst hM
  have hip := h.ipo
  have hlt := h.lt ip hip
  have ho1 : ownP ip s = ip :: s.im :: s.ot.toList := by simp [ownP, hw]
  have ho2 : ownP ip { s with wat := some w } = (ip :: s.im :: s.ot.toList) ++ [w.iw, w.ia] := by simp [ownP]
  have hX : ∀ i, i < m.next → i ∉ ownP ip s ++ V → i ∉ ownP ip { s with wat := some w } ++ V := fun i hi hn => by
    rw [ho1] at hn
    rw [ho2]
    simp only [List.mem_append, List.mem_cons, List.not_mem_nil, or_false, not_or] at hn ⊢
    exact ⟨⟨hn.1, by omega, by omega⟩, hn.2⟩
  have hnip : ¬ (ip ∉ ownP ip { s with wat := some w } ++ V) := by simp [ownP]
  have k1 : Keeps (fun i => i ∉ ownP ip { s with wat := some w } ++ V) m1 (m1.set ip (.own (plC sv { s with wat := some w }) 105)) := (Keeps.refl _ _).set (fun _ hn => hnip hn) _
  have k0 : Keeps (fun i => i ∉ ownP ip { s with wat := some w } ++ V) m (m1.set ip (.own (plC sv { s with wat := some w }) 105)) := (o.keeps).trans k1
  have hnd := h.nd
  rw [ho1] at hnd
  have hnd2 := hnd
  simp only [List.nodup_cons, List.mem_cons, not_or] at hnd2
  have hall : ∀ i ∈ ip :: s.im :: s.ot.toList, i < m.next := fun i hi => h.lt i (by rw [ho1]; exact List.mem_append_left _ hi)
  have hbig : ∀ i, m1.next ≤ i → i ∉ ownP ip { s with wat := some w } ++ V := fun i hi hm => by
    rw [ho2] at hm
    have := o.1
    simp only [List.mem_append, List.mem_cons, List.not_mem_nil, or_false] at hm
    rcases hm with (hm | hm | hm) | hm
    · have := hall i (by simpa only [List.mem_cons] using hm); omega
    · have := hW.own.2.2.2.1; omega
    · have := hW.own.2.2.2.2; omega
    · have := h.lt i (List.mem_append_right _ hm); omega
  have w1 : w.iw ≠ ip := by omega
  have w2 : w.ia ≠ ip := by omega
  refine ⟨by rw [Mem.set_same], (h.ds.mono hX).keep k0, ?_, ?_, ?_, ?_, ?_, ?_, ?_, ?_⟩
  · obtain ⟨es, c, g1, h2⟩ := h.mp
    exact ⟨es, c, by rw [Mem.set_other _ _ (fun e => hnd2.1.1 e.symm), o.2 _ (hall _ (by simp))]; exact g1, h2⟩
  · refine h.ot.keep o.1 fun b hb => ?_
    have hb1 : b ∈ s.ot.toList := by simp [hb]
    rw [Mem.set_other _ _ (fun e => hnd2.1.2 (by rw [← e]; exact hb1)), o.2 _ (hall _ (by simp [hb]))]
  · intro w' hw'
    cases hw'
    refine (hW.mono (fun i hi hx => ?_) ?_ ?_ hbig).keep k1 (Mem.set_other _ _ w1) (Mem.set_other _ _ w2)
    · intro hm
      rw [ho2] at hm
      simp only [List.mem_append, List.mem_cons, List.not_mem_nil, or_false] at hm
      rcases hm with (hm | hm | hm) | hm
      · have := hall i (by simpa only [List.mem_cons] using hm); omega
      · exact hx.2.1 hm
      · exact hx.2.2 hm
      · have := h.lt i (List.mem_append_right _ hm); omega
    · simp [ho2]
    · simp [ho2]
  · rw [ho2]
    refine List.nodup_append.2 ⟨hnd, by simp [hW.own.2.2.1], fun a ha b hb e => ?_⟩
    have := hall a ha
    simp only [List.mem_cons, List.not_mem_nil, or_false] at hb
    rcases hb with rfl | rfl <;> omega
  · intro i hi
    show i < m1.next
    have := o.1
    rcases Nat.lt_or_ge i m1.next with h' | h'
    · exact h'
    · exact (hbig i h' hi).elim
  · exact (h.pt.keeps (o.keeps (X := fun i => True)) (fun _ _ => trivial)).keeps ((Keeps.refl (fun i => i ≠ ip) m1).set (fun _ hn => hn rfl) _) (fun i hi e => by have := h.lo ip (by simp [ownP]); omega)
  · intro i hi
    rw [ho2] at hi
    have hp := h.pt.1
    simp only [List.mem_append, List.mem_cons, List.not_mem_nil, or_false] at hi
    rcases hi with hi | hi | hi
    · exact h.lo i (by rw [ho1]; simpa only [List.mem_cons] using hi)
    · omega
    · omega
  · intro i hi hV
    rw [ho2] at hi
    have hlV := h.lt i (List.mem_append_right _ hV)
    simp only [List.mem_append, List.mem_cons, List.not_mem_nil, or_false] at hi
    rcases hi with hi | hi | hi
    · exact h.dj i (by rw [ho1]; simpa only [List.mem_cons] using hi) hV
    · omega
    · omega
end Go.Proofs.YtjlicambfepfiaaGreatDoor.Ab

set_option linter.unusedVariables false
set_option linter.unusedSimpArgs false
namespace Go.Proofs.YtjlicambfepfiaaGreatDoor.Ab
open Go Go.RowKit
set_option maxHeartbeats 4000000
set_option maxRecDepth 100000
/-- An error that has a number. -/
def ErrI (w0 : World) (e : Value) : Prop := ∃ t u, e = .iface t u ∧ ∀ (m : Mem) (Q : Value → Mem → Prop), Part L0 m → (∀ m' n, Old m m' → Q (.int .i64 n) m') → AbC Tryz.prog w0 19 [e] m Q
/-- What expect.Of does of patterns: it makes a watch of which P holds; an error only where G does not. -/
def OfC (w0 : World) (ps : List (List UInt8)) (G : Prop) (P : List (Tab × List Bool) → Prop) : Prop := ∀ (m : Mem) (ob : Option Nat) (Q : Value → Mem → Prop), Part L0 m → SlO m 9 1 ob (ps.map fun p => .string ⟨⟨p⟩⟩) ps.length →
  (∀ m' (w : WatS), Old m m' → w.ws.length = ps.length → P (w.ws.map WaE.core) → w.over = false → WatV (fun i => m.next ≤ i ∧ i ≠ w.iw ∧ i ≠ w.ia) m' w.iw w.ia w.ws w.seen w.over → m.next ≤ w.iw → m.next ≤ w.ia → Q (.tuple ⟨[.pointer (some ⟨w.iw, 0, none⟩), .nilIface]⟩) m') →
  (¬ G → ∀ m' e, Old m m' → ErrI w0 e → Q (.tuple ⟨[.pointer none, e]⟩) m') → AbC Tryz.prog w0 45 [slV ob ps.length 1] m Q
def pats (x : DS) : List (List UInt8) := x.arms.map Arm.pat
section
variable (G : List (List UInt8) → Prop) (P : List (List UInt8) → List (Tab × List Bool) → Prop)
/-- A step is done. -/
inductive OneR (l : List DV) (x : DS) (s : PlS) : PlS → List UInt8 → Prop
  | send : x.kd = 0 → OneR l x s { s with at_ := IntKind.i64.wrap (s.at_ + 1) } x.tx
  | exp (w : WatS) : x.kd = 1 → w.ws.length = x.arms.length → P (pats x) (w.ws.map WaE.core) → w.over = false → OneR l x s { s with wat := some w, left := max 1 x.n } []
  | expN : x.kd = 1 → ¬ G (pats x) → OneR l x s { s with left := max 1 x.n } []
  | goto : x.kd = 2 → OneR l x s { s with at_ := findN x.to l 0 } []
  | tryA : x.kd = 3 → IntKind.i64.wrap (s.f s.at_ + 1) ≤ x.n → OneR l x s { s with f := fun j => if j = s.at_ then IntKind.i64.wrap (s.f s.at_ + 1) else s.f j, at_ := findN x.to l 0 } []
  | tryB : x.kd = 3 → ¬ IntKind.i64.wrap (s.f s.at_ + 1) ≤ x.n → OneR l x s { s with f := fun j => if j = s.at_ then 0 else s.f j, at_ := IntKind.i64.wrap (s.at_ + 1) } []
  | done : x.kd = 4 → OneR l x s { s with st := 1 } []
  | fail : x.kd ≠ 0 → x.kd ≠ 1 → x.kd ≠ 2 → x.kd ≠ 3 → x.kd ≠ 4 → OneR l x s { s with st := 2 } []
end
/-- Bytes that are new. -/
structure NewB (m m' : Mem) (v : Value) (o : List UInt8) : Prop where
  sl : SlR m' 1 v (o.map byteV) o.length
  bl : ∀ b, blk v = some b → m.next ≤ b ∧ b < m'.next
theorem NewB.nil (m m' : Mem) : NewB m m' (.slice none 0 0) [] := ⟨⟨rfl, .inl ⟨rfl, .inl rfl⟩⟩, fun b hb => by cases hb⟩
theorem PlayV.store {w0 : World} {fr : Fr} {R : Value → Mem → Prop} {V : List Nat} {m : Mem} {ip : Nat} {sv : Value} {l : List DV} {s : PlS} (h : PlayV V m ip sv l s) (a lf st : Int) (j : Nat) (v : Value) {p x : Operand}
    (hp : ev fr p = .pointer (some ⟨ip, j, none⟩)) (hv : cellsV (ev fr x) = [v]) (hc : putAt (plC sv s) j [v] = plC sv { s with at_ := a, left := lf, st := st }) (hj : j + 1 ≤ 8) (ho : oneC v = true)
    (hR : ∀ M, PlayV V M ip sv l { s with at_ := a, left := lf, st := st } → Keeps (fun i => i ≠ ip) m M → R undef M) : SK Tryz.prog w0 (.e (.st 1 p x)) fr m R := by
  have k : Keeps (fun i => i ≠ ip) m (m.set ip (.own (plC sv { s with at_ := a, left := lf, st := st }) 105)) := (Keeps.refl _ _).set (fun _ hn => hn rfl) _
  refine SK_stm (i := ip) (o := j) (vs := [v]) (cs := plC sv s) (e := 105) (M := m.set ip (.own (plC sv { s with at_ := a, left := lf, st := st }) 105)) hp h.g hv (by simp [plC]; omega) rfl (by simp [ho]) (by rw [hc]) (hR _ (h.upd k a lf st (by rw [Mem.set_same])) k)
theorem PlayV.setF {V : List Nat} {m M : Mem} {ip : Nat} {sv : Value} {l : List DV} {s : PlS} {f : Int → Int} (h : PlayV V m ip sv l s) (hf : MapI M s.im f) (hn : M.next = m.next) (ho : ∀ i, i ≠ s.im → M.get i = m.get i) : PlayV V M ip sv l { s with f := f } := by
  have hnd := h.nd
  simp only [ownP, List.nodup_cons, List.mem_cons, List.mem_append, not_or] at hnd
  have kX : Keeps (fun i => i ∉ ownP ip s ++ V) m M := ⟨by omega, fun i _ hi => ho i (fun e => hi (by rw [e]; simp [ownP]))⟩
  refine ⟨(ho ip hnd.1.1).trans h.g, h.ds.keep kX, hf, ?_, ?_, h.nd, fun i hi => by rw [hn]; exact h.lt i hi, h.pt.keeps (X := fun i => i ≠ s.im) ⟨by omega, fun i _ hi => ho i hi⟩ (fun i hi e => by have := h.lo s.im (by simp [ownP]); omega), h.lo, h.dj⟩
  · refine h.ot.keep (by omega) fun b hb => ho b fun e => ?_
    subst e
    exact hnd.2.1.1 (by simp [hb])
  · intro w hw
    have hw' : s.wat = some w := hw
    rw [hw'] at hnd
    refine (h.wt w hw).keep kX (ho _ fun e => ?_) (ho _ fun e => ?_)
    · exact hnd.2.1.2 (by rw [← e]; simp)
    · exact hnd.2.1.2 (by rw [← e]; simp)
theorem c_one {w0 : World} {V : List Nat} {m : Mem} {ip : Nat} {sv : Value} {l : List DV} {s : PlS} {x : DV} {G : List (List UInt8) → Prop} {P : List (List UInt8) → List (Tab × List Bool) → Prop} {Q : Value → Mem → Prop} (h : PlayV V m ip sv l s) (hl : l.length ≤ 1000000) (hw : s.wat = none) (hx : x ∈ l) (hal : x.1.arms.length ≤ 1000000) (htl : x.1.tx.length ≤ 1000000)
    (hOf : x.1.kd = 1 → OfC w0 (pats x.1) (G (pats x.1)) (P (pats x.1)))
    (hq : ∀ m' s' o v, OneR G P l x.1 s s' o → PlayV V m' ip sv l s' → Keeps (fun i => i ∉ ownP ip s) m m' → NewB m m' v o → (∀ i ∈ ownP ip s', i ∈ ownP ip s ∨ m.next ≤ i) → Q v m') : AbC Tryz.prog w0 63 [.pointer (some ⟨ip, 0, none⟩), .agg ⟨vC x⟩] m Q := by
  refine AbC_fn ok63 (by simp) ?_
  have hA := h.ds.ar x hx
  have hone := hA.sl.one
  obtain ⟨⟨lb, kd, tx, arms, n, to, pl⟩, av⟩ := x
  have e : vC (⟨lb, kd, tx, arms, n, to, pl⟩, av) = [.string ⟨⟨lb⟩⟩, .int .i64 kd, .string ⟨⟨tx⟩⟩, av, .int .i64 n, .string ⟨⟨to⟩⟩, .int .i64 pl] := rfl
  rw [e]
  simp only at hal htl hOf hq hA hone
  have hipo := h.ipo
  obtain ⟨M, hM⟩ : ∃ M, m.push (.own [.string ⟨⟨lb⟩⟩, .int .i64 kd, .string ⟨⟨tx⟩⟩, av, .int .i64 n, .string ⟨⟨to⟩⟩, .int .i64 pl] 29) = M := ⟨_, rfl⟩
  have oM : Old m M := by subst hM; exact (Old.refl m).push _
  have gM : M.get m.next = .own [.string ⟨⟨lb⟩⟩, .int .i64 kd, .string ⟨⟨tx⟩⟩, av, .int .i64 n, .string ⟨⟨to⟩⟩, .int .i64 pl] 29 := by subst hM; rw [Mem.push_same]
  have nM : m.next < M.next := by subst hM; simp
  have hP := h.old oM
  have gp : M.get ip = .own [sv, .int .i64 s.at_, .map (some s.im), watP s.wat, .int .i64 s.left, .int .i64 0, .int .i64 s.st, slV s.ot s.tr.length 1] 105 := hP.g
  simp -implicitDefEqProofs (disch := first | assumption | (simp only [wnA]; done) | (simp only [wnA]; omega) | omega | fail) [rc63, ro63, wkA, retV, stabOk, dC, ev, fillD, pickCells, putAt, bnd, slD, List.getElem?_cons_zero, List.getElem?_cons_succ, dR.eq_20, Mem.cell, Mem.row, wmA, hone.2, hM, gM]
  have kM0 : ∀ M', Keeps (fun i => i ≠ ip) M M' → Keeps (fun i => i ∉ ownP ip s) m M' := fun M' k => (oM.keeps).trans (k.mono fun i _ hi e => hi (by rw [e]; simp [ownP]))
  by_cases h0 : kd = 0
  · subst h0
    simp -implicitDefEqProofs (disch := first | assumption | (simp only [wnA]; done) | (simp only [wnA]; omega) | omega | fail) [wkA, retV, stabOk, dC, ev, fillD, pickCells, putAt, bnd, slD, List.getElem?_cons_zero, List.getElem?_cons_succ, dR.eq_20, Mem.cell, Mem.row, wmA, gp]
    refine hP.store (IntKind.i64.wrap (s.at_ + 1)) s.left s.st 1 (.int .i64 (IntKind.i64.wrap (s.at_ + 1))) (by simp [wkA, retV, stabOk, dC, ev, fillD, pickCells, putAt, bnd, slD, List.getElem?_cons_zero, List.getElem?_cons_succ, dR.eq_20]) (by simp [wkA, retV, stabOk, dC, ev, fillD, pickCells, putAt, bnd, slD, List.getElem?_cons_zero, List.getElem?_cons_succ, dR.eq_20]) rfl (by omega) rfl fun M2 hP2 k2 => ?_
    have g2 := (k2.2 m.next nM (fun e => by have := h.lt ip hipo; omega)).trans gM
    simp -implicitDefEqProofs (disch := first | assumption | (simp only [wnA]; done) | (simp only [wnA]; omega) | omega | fail) [wkA, retV, stabOk, dC, ev, fillD, pickCells, putAt, bnd, slD, List.getElem?_cons_zero, List.getElem?_cons_succ, dR.eq_20, Mem.cell, Mem.row, wmA, g2]
    rw [SK_s2b (s := ⟨⟨tx⟩⟩) (by simp [wkA, retV, stabOk, dC, ev, fillD, pickCells, putAt, bnd, slD, List.getElem?_cons_zero, List.getElem?_cons_succ, dR.eq_20]) (by simp [ByteArray.size]; omega)]
    simp -implicitDefEqProofs (disch := first | assumption | (simp only [wnA]; done) | (simp only [wnA]; omega) | omega | fail) [wkA, retV, stabOk, dC, ev, fillD, pickCells, putAt, bnd, slD, List.getElem?_cons_zero, List.getElem?_cons_succ, dR.eq_20, Mem.cell, Mem.row, wmA]
    have o3 : Old M2 (M2.push (.own (tx.map byteV) 5)) := (Old.refl M2).push _
    have := hq (M2.push (.own (tx.map byteV) 5)) _ tx (.slice (some ⟨M2.next, 0, none⟩) tx.length 1) (.send rfl) (hP2.old o3) ((kM0 _ k2).trans o3.keeps) ⟨⟨by simp, .inr ⟨M2.next, 0, tx.map byteV, rfl, by rw [Mem.push_same]; rfl, by simp, by rw [List.drop_zero, List.take_of_length_le (by simp)]⟩⟩, fun b hb => by cases hb; exact ⟨Nat.le_trans oM.1 k2.1, by simp⟩⟩ (fun i hi => .inl hi)
    simpa [ByteArray.size] using this
  · simp -implicitDefEqProofs (disch := first | assumption | (simp only [wnA]; done) | (simp only [wnA]; omega) | omega | fail) [wkA, retV, stabOk, dC, ev, fillD, pickCells, putAt, bnd, slD, List.getElem?_cons_zero, List.getElem?_cons_succ, dR.eq_20, Mem.cell, Mem.row, wmA, beqF h0]
    by_cases h1 : kd = 1
    · subst h1
      have hAM := hA.keep (oM.keeps)
      have hsl := hAM.sl.slen
      simp -implicitDefEqProofs (disch := first | assumption | (simp only [wnA]; done) | (simp only [wnA]; omega) | omega | fail) [wkA, retV, stabOk, dC, ev, fillD, pickCells, putAt, bnd, slD, List.getElem?_cons_zero, List.getElem?_cons_succ, dR.eq_20, Mem.cell, Mem.row, wmA, gM, hsl]
      refine w_pso hAM.sl (fun b hb => (hAM.bl b hb).1) hal (by simp) (by simp) (by simp) (by simp) fun fr' m1 ob o1 so e5 hf => ?_
      have e0 := (hf 0 (by simp)).trans (by simp [frA_at] : _ = Value.pointer (some ⟨ip, 0, none⟩))
      have e3 := (hf 3 (by simp)).trans (by simp : _ = Value.pointer (some ⟨m.next, 0, none⟩))
      have e4 := (hf 4 (by simp)).trans (by simp : _ = Value.slice none 0 0)
      have hP1 := hP.old o1
      simp -implicitDefEqProofs (disch := first | assumption | (simp only [wnA]; done) | (simp only [wnA]; omega) | omega | fail) [rc63_2, wkA, retV, stabOk, dC, ev, fillD, pickCells, putAt, bnd, slD, List.getElem?_cons_zero, List.getElem?_cons_succ, dR.eq_20, Mem.cell, Mem.row, wmA, e0, e5]
      have em : (arms.map Arm.pat).map (fun p => Value.string ⟨⟨p⟩⟩) = arms.map patV := by rw [List.map_map]; rfl
      have so' : SlO m1 9 1 ob ((arms.map Arm.pat).map fun p => Value.string ⟨⟨p⟩⟩) (arms.map Arm.pat).length := by rw [em, List.length_map]; exact so
      have hlp : arms.length = (arms.map Arm.pat).length := by rw [List.length_map]
      rw [hlp]
      have hmx : (if n > 1 then n else 1) = max 1 n := by split <;> omega
      refine hOf rfl m1 ob _ hP1.pt so' (fun m2 w o2 hwl hPw hov hWV n1 n2 => ?_) (fun hG m2 e o2 hE => ?_)
      · have g2 : m2.get ip = .own (plC sv s) 105 := (hP1.old o2).g
        have ho12 := oM.trans (o1.trans o2)
        have gs2 := ((o1.trans o2).2 _ nM).trans gM
        obtain ⟨M3, hM3⟩ : ∃ M3, m2.set ip (.own (plC sv { s with wat := some w }) 105) = M3 := ⟨_, rfl⟩
        have hP3 := hP1.setW hw o2 hWV n1 n2 hM3.symm
        have k3 : Keeps (fun i => i ≠ ip) m2 M3 := by subst hM3; exact (Keeps.refl _ _).set (fun _ hn => hn rfl) _
        have hip := h.lt ip hipo
        have gs3 := (k3.2 m.next (Nat.lt_of_lt_of_le nM (o1.trans o2).1) (by omega)).trans gs2
        simp -implicitDefEqProofs (disch := first | assumption | (simp only [wnA]; done) | (simp only [wnA]; omega) | omega | fail) [wkA, retV, stabOk, dC, ev, fillD, pickCells, putAt, bnd, slD, List.getElem?_cons_zero, List.getElem?_cons_succ, dR.eq_20, Mem.cell, Mem.row, wmA, e0]
        refine SK_stm (i := ip) (o := 3) (vs := [.pointer (some ⟨w.iw, 0, none⟩)]) (cs := plC sv s) (e := 105) (M := M3) (by simp [wkA, retV, stabOk, dC, ev, fillD, pickCells, putAt, bnd, slD, List.getElem?_cons_zero, List.getElem?_cons_succ, dR.eq_20, e0]) g2 (by simp [wkA, retV, stabOk, dC, ev, fillD, pickCells, putAt, bnd, slD, List.getElem?_cons_zero, List.getElem?_cons_succ, dR.eq_20]) (by simp [plC]) rfl rfl hM3 ?_
        clear hM3
        simp -implicitDefEqProofs (disch := first | assumption | (simp only [wnA]; done) | (simp only [wnA]; omega) | omega | fail) [wkA, retV, stabOk, dC, ev, fillD, pickCells, putAt, bnd, slD, List.getElem?_cons_zero, List.getElem?_cons_succ, dR.eq_20, Mem.cell, Mem.row, wmA, e0, e3, gs3]
        refine hP3.store s.at_ (max 1 n) s.st 4 (.int .i64 (max 1 n)) (by simp [wkA, retV, stabOk, dC, ev, fillD, pickCells, putAt, bnd, slD, List.getElem?_cons_zero, List.getElem?_cons_succ, dR.eq_20, e0]) (by simp [wkA, retV, stabOk, dC, ev, fillD, pickCells, putAt, bnd, slD, List.getElem?_cons_zero, List.getElem?_cons_succ, dR.eq_20, hmx]) rfl (by omega) rfl fun M4 hP4 k4 => ?_
        simp -implicitDefEqProofs (disch := first | assumption | (simp only [wnA]; done) | (simp only [wnA]; omega) | omega | fail) [rc63_3, wkA, retV, stabOk, dC, ev, fillD, pickCells, putAt, bnd, slD, List.getElem?_cons_zero, List.getElem?_cons_succ, dR.eq_20, Mem.cell, Mem.row, wmA]
        refine hq M4 _ [] _ (.exp w rfl (by rw [hwl]; simp [pats]) hPw hov) hP4 ?_ (NewB.nil _ _) fun i hi => ?_
        · exact (ho12.keeps).trans ((k3.trans k4).mono fun i _ hi e => hi (by rw [e]; simp [ownP]))
        · simp only [ownP, hw, List.mem_cons, List.mem_append, List.not_mem_nil, or_false] at hi ⊢
          have := (oM.trans o1).1
          rcases hi with hi | hi | hi | hi | hi
          · exact .inl (.inl hi)
          · exact .inl (.inr (.inl hi))
          · exact .inl (.inr (.inr hi))
          · right; omega
          · right; omega
      · obtain ⟨t, u, rfl, -⟩ := hE
        have hP2 := hP1.old o2
        have gs2 := ((o1.trans o2).2 _ nM).trans gM
        have hip := h.lt ip hipo
        simp -implicitDefEqProofs (disch := first | assumption | (simp only [wnA]; done) | (simp only [wnA]; omega) | omega | fail) [wkA, retV, stabOk, dC, ev, fillD, pickCells, putAt, bnd, slD, List.getElem?_cons_zero, List.getElem?_cons_succ, dR.eq_20, Mem.cell, Mem.row, wmA, e0]
        refine hP2.store s.at_ s.left s.st 3 (.pointer none) (by simp [wkA, retV, stabOk, dC, ev, fillD, pickCells, putAt, bnd, slD, List.getElem?_cons_zero, List.getElem?_cons_succ, dR.eq_20, e0]) (by simp [wkA, retV, stabOk, dC, ev, fillD, pickCells, putAt, bnd, slD, List.getElem?_cons_zero, List.getElem?_cons_succ, dR.eq_20]) (by simp [plC, putAt, hw, watP]) (by omega) rfl fun M3 hP3 k3 => ?_
        have gs3 := (k3.2 m.next (Nat.lt_of_lt_of_le nM (o1.trans o2).1) (by omega)).trans gs2
        simp -implicitDefEqProofs (disch := first | assumption | (simp only [wnA]; done) | (simp only [wnA]; omega) | omega | fail) [wkA, retV, stabOk, dC, ev, fillD, pickCells, putAt, bnd, slD, List.getElem?_cons_zero, List.getElem?_cons_succ, dR.eq_20, Mem.cell, Mem.row, wmA, e0, e3, gs3]
        refine hP3.store s.at_ (max 1 n) s.st 4 (.int .i64 (max 1 n)) (by simp [wkA, retV, stabOk, dC, ev, fillD, pickCells, putAt, bnd, slD, List.getElem?_cons_zero, List.getElem?_cons_succ, dR.eq_20, e0]) (by simp [wkA, retV, stabOk, dC, ev, fillD, pickCells, putAt, bnd, slD, List.getElem?_cons_zero, List.getElem?_cons_succ, dR.eq_20, hmx]) rfl (by omega) rfl fun M4 hP4 k4 => ?_
        simp -implicitDefEqProofs (disch := first | assumption | (simp only [wnA]; done) | (simp only [wnA]; omega) | omega | fail) [rc63_3, wkA, retV, stabOk, dC, ev, fillD, pickCells, putAt, bnd, slD, List.getElem?_cons_zero, List.getElem?_cons_succ, dR.eq_20, Mem.cell, Mem.row, wmA]
        refine hq M4 _ [] _ (.expN rfl hG) hP4 ?_ (NewB.nil _ _) fun i hi => .inl hi
        exact ((oM.trans (o1.trans o2)).keeps).trans ((k3.trans k4).mono fun i _ hi e => hi (by rw [e]; simp [ownP]))
    · simp -implicitDefEqProofs (disch := first | assumption | (simp only [wnA]; done) | (simp only [wnA]; omega) | omega | fail) [wkA, retV, stabOk, dC, ev, fillD, pickCells, putAt, bnd, slD, List.getElem?_cons_zero, List.getElem?_cons_succ, dR.eq_20, Mem.cell, Mem.row, wmA, beqF h1]
      by_cases h2 : kd = 2
      · subst h2
        simp -implicitDefEqProofs (disch := first | assumption | (simp only [wnA]; done) | (simp only [wnA]; omega) | omega | fail) [wkA, retV, stabOk, dC, ev, fillD, pickCells, putAt, bnd, slD, List.getElem?_cons_zero, List.getElem?_cons_succ, dR.eq_20, Mem.cell, Mem.row, wmA, gM]
        refine c_jump hP hl fun M2 k2 hP2 u => ?_
        simp -implicitDefEqProofs (disch := first | assumption | (simp only [wnA]; done) | (simp only [wnA]; omega) | omega | fail) [rc63_3, wkA, retV, stabOk, dC, ev, fillD, pickCells, putAt, bnd, slD, List.getElem?_cons_zero, List.getElem?_cons_succ, dR.eq_20, Mem.cell, Mem.row, wmA]
        exact hq M2 _ [] _ (.goto rfl) hP2 (kM0 _ k2) (NewB.nil _ _) fun i hi => .inl hi
      · simp -implicitDefEqProofs (disch := first | assumption | (simp only [wnA]; done) | (simp only [wnA]; omega) | omega | fail) [wkA, retV, stabOk, dC, ev, fillD, pickCells, putAt, bnd, slD, List.getElem?_cons_zero, List.getElem?_cons_succ, dR.eq_20, Mem.cell, Mem.row, wmA, beqF h2]
        by_cases h3 : kd = 3
        · subst h3
          simp -implicitDefEqProofs (disch := first | assumption | (simp only [wnA]; done) | (simp only [wnA]; omega) | omega | fail) [wkA, retV, stabOk, dC, ev, fillD, pickCells, putAt, bnd, slD, List.getElem?_cons_zero, List.getElem?_cons_succ, dR.eq_20, Mem.cell, Mem.row, wmA, gp]
          rw [hP.mp.lku (k := s.at_) (by simp [wkA, retV, stabOk, dC, ev, fillD, pickCells, putAt, bnd, slD, List.getElem?_cons_zero, List.getElem?_cons_succ, dR.eq_20]) (by simp [wkA, retV, stabOk, dC, ev, fillD, pickCells, putAt, bnd, slD, List.getElem?_cons_zero, List.getElem?_cons_succ, dR.eq_20])]
          simp -implicitDefEqProofs (disch := first | assumption | (simp only [wnA]; done) | (simp only [wnA]; omega) | omega | fail) [wkA, retV, stabOk, dC, ev, fillD, pickCells, putAt, bnd, slD, List.getElem?_cons_zero, List.getElem?_cons_succ, dR.eq_20, Mem.cell, Mem.row, wmA]
          refine hP.mp.mup (k := s.at_) (v := IntKind.i64.wrap (s.f s.at_ + 1)) (by simp [wkA, retV, stabOk, dC, ev, fillD, pickCells, putAt, bnd, slD, List.getElem?_cons_zero, List.getElem?_cons_succ, dR.eq_20]) (by simp [wkA, retV, stabOk, dC, ev, fillD, pickCells, putAt, bnd, slD, List.getElem?_cons_zero, List.getElem?_cons_succ, dR.eq_20]) (by simp [wkA, retV, stabOk, dC, ev, fillD, pickCells, putAt, bnd, slD, List.getElem?_cons_zero, List.getElem?_cons_succ, dR.eq_20]) fun M2 hf2 n2 o2 => ?_
          have hP2 := hP.setF hf2 n2 o2
          have k2 : Keeps (fun i => i ≠ s.im) M M2 := ⟨by omega, fun i _ hi => o2 i hi⟩
          have hip := h.lt ip hipo
          have him := h.lt s.im (by simp [ownP])
          have gs2 := (k2.2 m.next nM (by omega)).trans gM
          have gp2 : M2.get ip = .own [sv, .int .i64 s.at_, .map (some s.im), watP s.wat, .int .i64 s.left, .int .i64 0, .int .i64 s.st, slV s.ot s.tr.length 1] 105 := hP2.g
          have hlk : ∀ {ts : Fr} {x i : Operand}, ev ts x = .map (some s.im) → ev ts i = .int .i64 s.at_ → dR ts M2 (.lku 0 false (.int .i64 0) x i) = some (.int .i64 (IntKind.i64.wrap (s.f s.at_ + 1))) := fun hx hi => by have := hP2.mp.lku (k := s.at_) hx hi; simpa using this
          have kF : Keeps (fun i => i ∉ ownP ip s) M M2 := k2.mono fun i _ hi e => hi (by rw [e]; simp [ownP])
          have kM2 : Keeps (fun i => i ∉ ownP ip s) m M2 := (oM.keeps).trans kF
          simp -implicitDefEqProofs (disch := first | assumption | (simp only [wnA]; done) | (simp only [wnA]; omega) | omega | fail) [wkA, retV, stabOk, dC, ev, fillD, pickCells, putAt, bnd, slD, List.getElem?_cons_zero, List.getElem?_cons_succ, dR.eq_20, Mem.cell, Mem.row, wmA, gp2]
          rw [hlk (by simp [wkA, retV, stabOk, dC, ev, fillD, pickCells, putAt, bnd, slD, List.getElem?_cons_zero, List.getElem?_cons_succ, dR.eq_20]) (by simp [wkA, retV, stabOk, dC, ev, fillD, pickCells, putAt, bnd, slD, List.getElem?_cons_zero, List.getElem?_cons_succ, dR.eq_20])]
          simp -implicitDefEqProofs (disch := first | assumption | (simp only [wnA]; done) | (simp only [wnA]; omega) | omega | fail) [wkA, retV, stabOk, dC, ev, fillD, pickCells, putAt, bnd, slD, List.getElem?_cons_zero, List.getElem?_cons_succ, dR.eq_20, Mem.cell, Mem.row, wmA, gs2]
          by_cases hle : IntKind.i64.wrap (s.f s.at_ + 1) ≤ n
          · simp -implicitDefEqProofs (disch := first | assumption | (simp only [wnA]; done) | (simp only [wnA]; omega) | omega | fail) [wkA, retV, stabOk, dC, ev, fillD, pickCells, putAt, bnd, slD, List.getElem?_cons_zero, List.getElem?_cons_succ, dR.eq_20, Mem.cell, Mem.row, wmA, hle, gs2]
            refine c_jump hP2 hl fun M3 k3 hP3 u => ?_
            simp -implicitDefEqProofs (disch := first | assumption | (simp only [wnA]; done) | (simp only [wnA]; omega) | omega | fail) [rc63_3, wkA, retV, stabOk, dC, ev, fillD, pickCells, putAt, bnd, slD, List.getElem?_cons_zero, List.getElem?_cons_succ, dR.eq_20, Mem.cell, Mem.row, wmA]
            refine hq M3 _ [] _ (.tryA rfl hle) hP3 (kM2.trans (k3.mono fun i _ hi e => hi (by rw [e]; simp [ownP]))) (NewB.nil _ _) fun i hi => .inl hi
          · simp -implicitDefEqProofs (disch := first | assumption | (simp only [wnA]; done) | (simp only [wnA]; omega) | omega | fail) [wkA, retV, stabOk, dC, ev, fillD, pickCells, putAt, bnd, slD, List.getElem?_cons_zero, List.getElem?_cons_succ, dR.eq_20, Mem.cell, Mem.row, wmA, hle, gp2]
            refine hP2.mp.mup (k := s.at_) (v := 0) (by simp [wkA, retV, stabOk, dC, ev, fillD, pickCells, putAt, bnd, slD, List.getElem?_cons_zero, List.getElem?_cons_succ, dR.eq_20]) (by simp [wkA, retV, stabOk, dC, ev, fillD, pickCells, putAt, bnd, slD, List.getElem?_cons_zero, List.getElem?_cons_succ, dR.eq_20]) (by simp [wkA, retV, stabOk, dC, ev, fillD, pickCells, putAt, bnd, slD, List.getElem?_cons_zero, List.getElem?_cons_succ, dR.eq_20]) fun M3 hf3 n3 o3 => ?_
            have ef : (fun j => if j = s.at_ then 0 else if j = s.at_ then IntKind.i64.wrap (s.f s.at_ + 1) else s.f j) = fun j => if j = s.at_ then 0 else s.f j := by
              funext j; by_cases hj : j = s.at_ <;> simp [hj]
            rw [ef] at hf3
            have hP3 := hP2.setF hf3 n3 o3
            have k3 : Keeps (fun i => i ∉ ownP ip s) M2 M3 := ⟨by omega, fun i _ hi => o3 i (fun e => hi (by rw [e]; simp [ownP]))⟩
            have gp3 : M3.get ip = .own [sv, .int .i64 s.at_, .map (some s.im), watP s.wat, .int .i64 s.left, .int .i64 0, .int .i64 s.st, slV s.ot s.tr.length 1] 105 := hP3.g
            simp -implicitDefEqProofs (disch := first | assumption | (simp only [wnA]; done) | (simp only [wnA]; omega) | omega | fail) [wkA, retV, stabOk, dC, ev, fillD, pickCells, putAt, bnd, slD, List.getElem?_cons_zero, List.getElem?_cons_succ, dR.eq_20, Mem.cell, Mem.row, wmA, gp3]
            refine hP3.store (IntKind.i64.wrap (s.at_ + 1)) s.left s.st 1 (.int .i64 (IntKind.i64.wrap (s.at_ + 1))) (by simp [wkA, retV, stabOk, dC, ev, fillD, pickCells, putAt, bnd, slD, List.getElem?_cons_zero, List.getElem?_cons_succ, dR.eq_20]) (by simp [wkA, retV, stabOk, dC, ev, fillD, pickCells, putAt, bnd, slD, List.getElem?_cons_zero, List.getElem?_cons_succ, dR.eq_20]) rfl (by omega) rfl fun M4 hP4 k4 => ?_
            simp -implicitDefEqProofs (disch := first | assumption | (simp only [wnA]; done) | (simp only [wnA]; omega) | omega | fail) [rc63_3, wkA, retV, stabOk, dC, ev, fillD, pickCells, putAt, bnd, slD, List.getElem?_cons_zero, List.getElem?_cons_succ, dR.eq_20, Mem.cell, Mem.row, wmA]
            refine hq M4 _ [] _ (.tryB rfl hle) hP4 ((kM2.trans k3).trans (k4.mono fun i _ hi e => hi (by rw [e]; simp [ownP]))) (NewB.nil _ _) fun i hi => .inl hi
        · simp -implicitDefEqProofs (disch := first | assumption | (simp only [wnA]; done) | (simp only [wnA]; omega) | omega | fail) [wkA, retV, stabOk, dC, ev, fillD, pickCells, putAt, bnd, slD, List.getElem?_cons_zero, List.getElem?_cons_succ, dR.eq_20, Mem.cell, Mem.row, wmA, beqF h3]
          by_cases h4 : kd = 4
          · subst h4
            simp -implicitDefEqProofs (disch := first | assumption | (simp only [wnA]; done) | (simp only [wnA]; omega) | omega | fail) [wkA, retV, stabOk, dC, ev, fillD, pickCells, putAt, bnd, slD, List.getElem?_cons_zero, List.getElem?_cons_succ, dR.eq_20, Mem.cell, Mem.row, wmA]
            refine hP.store s.at_ s.left 1 6 (.int .i64 1) (by simp [wkA, retV, stabOk, dC, ev, fillD, pickCells, putAt, bnd, slD, List.getElem?_cons_zero, List.getElem?_cons_succ, dR.eq_20]) (by simp [wkA, retV, stabOk, dC, ev, fillD, pickCells, putAt, bnd, slD, List.getElem?_cons_zero, List.getElem?_cons_succ, dR.eq_20]) rfl (by omega) rfl fun M2 hP2 k2 => ?_
            simp -implicitDefEqProofs (disch := first | assumption | (simp only [wnA]; done) | (simp only [wnA]; omega) | omega | fail) [rc63_3, wkA, retV, stabOk, dC, ev, fillD, pickCells, putAt, bnd, slD, List.getElem?_cons_zero, List.getElem?_cons_succ, dR.eq_20, Mem.cell, Mem.row, wmA]
            exact hq M2 _ [] _ (.done rfl) hP2 (kM0 _ k2) (NewB.nil _ _) fun i hi => .inl hi
          · simp -implicitDefEqProofs (disch := first | assumption | (simp only [wnA]; done) | (simp only [wnA]; omega) | omega | fail) [wkA, retV, stabOk, dC, ev, fillD, pickCells, putAt, bnd, slD, List.getElem?_cons_zero, List.getElem?_cons_succ, dR.eq_20, Mem.cell, Mem.row, wmA, beqF h4]
            refine hP.store s.at_ s.left 2 6 (.int .i64 2) (by simp [wkA, retV, stabOk, dC, ev, fillD, pickCells, putAt, bnd, slD, List.getElem?_cons_zero, List.getElem?_cons_succ, dR.eq_20]) (by simp [wkA, retV, stabOk, dC, ev, fillD, pickCells, putAt, bnd, slD, List.getElem?_cons_zero, List.getElem?_cons_succ, dR.eq_20]) rfl (by omega) rfl fun M2 hP2 k2 => ?_
            simp -implicitDefEqProofs (disch := first | assumption | (simp only [wnA]; done) | (simp only [wnA]; omega) | omega | fail) [rc63_3, wkA, retV, stabOk, dC, ev, fillD, pickCells, putAt, bnd, slD, List.getElem?_cons_zero, List.getElem?_cons_succ, dR.eq_20, Mem.cell, Mem.row, wmA]
            exact hq M2 _ [] _ (.fail h0 h1 h2 h3 h4) hP2 (kM0 _ k2) (NewB.nil _ _) fun i hi => .inl hi
end Go.Proofs.YtjlicambfepfiaaGreatDoor.Ab

set_option linter.unusedVariables false
set_option linter.unusedSimpArgs false
namespace Go.Proofs.YtjlicambfepfiaaGreatDoor.Ab
open Go Go.RowKit
set_option maxHeartbeats 4000000
set_option maxRecDepth 100000
section
variable (G : List (List UInt8) → Prop) (P : List (List UInt8) → List (Tab × List Bool) → Prop)
/-- Steps are done, from the n-th on. -/
inductive RunR (l : List DV) : Nat → PlS → List UInt8 → PlS → List UInt8 → Prop
  | stop (n : Nat) (s : PlS) (out : List UInt8) : (s.st ≠ 0 ∨ s.wat ≠ none) → RunR l n s out s out
  | ill (n : Nat) (s : PlS) (out : List UInt8) : s.st = 0 → s.wat = none → (n = 256 ∨ (l.length : Int) ≤ s.at_) → RunR l n s out { s with st := 2 } out
  | step (n : Nat) (s s1 s2 : PlS) (x : DV) (o out out2 : List UInt8) : s.st = 0 → s.wat = none → n < 256 → 0 ≤ s.at_ → l[s.at_.toNat]? = some x → OneR G P l x.1 s s1 o → RunR l (n + 1) s1 (out ++ o) s2 out2 → RunR l n s out s2 out2
end
/-- What a dialogue's steps are: not too large, and what is expected can be made. -/
structure StepsOk (w0 : World) (G : List (List UInt8) → Prop) (P : List (List UInt8) → List (Tab × List Bool) → Prop) (l : List DV) : Prop where
  len : l.length ≤ 1000
  sz : ∀ x ∈ l, x.1.arms.length ≤ 1000 ∧ x.1.tx.length ≤ 1000
  of : ∀ x ∈ l, x.1.kd = 1 → OfC w0 (pats x.1) (G (pats x.1)) (P (pats x.1))
/-- What holds of a state as long as steps are done. -/
structure SafeJ (G : List (List UInt8) → Prop) (P : List (List UInt8) → List (Tab × List Bool) → Prop) (l : List DV) (J : PlS → Prop) : Prop where
  pos : ∀ s, J s → 0 ≤ s.at_
  one : ∀ s x s' o, J s → s.st = 0 → s.wat = none → l[s.at_.toNat]? = some x → OneR G P l x.1 s s' o → J s'
theorem OneR.len {G : List (List UInt8) → Prop} {P : List (List UInt8) → List (Tab × List Bool) → Prop} {l : List DV} {x : DS} {s s' : PlS} {o : List UInt8} (h : OneR G P l x s s' o) : o = [] ∨ o = x.tx := by
  cases h <;> first | exact .inl rfl | exact .inr rfl
theorem c_run {w0 : World} {V : List Nat} {m : Mem} {ip : Nat} {sv : Value} {l : List DV} {s : PlS} {G : List (List UInt8) → Prop} {P : List (List UInt8) → List (Tab × List Bool) → Prop} {J : PlS → Prop} {Q : Value → Mem → Prop} (h : PlayV V m ip sv l s) (hS : StepsOk w0 G P l) (hJ : SafeJ G P l J) (hs : J s) (hV : ∀ i ∈ V, i < L0.n → False)
    (hq : ∀ m' s' out ob, RunR G P l 0 s [] s' out → PlayV V m' ip sv l s' → Keeps (fun i => i ∉ ownP ip s) m m' → SlO m' 5 1 ob (out.map byteV) out.length → (∀ i, ob = some i → m.next ≤ i) → (∀ i ∈ ownP ip s', i ∈ ownP ip s ∨ m.next ≤ i) → Q (slV ob out.length 1) m') :
    AbC Tryz.prog w0 42 [.pointer (some ⟨ip, 0, none⟩)] m Q := by
  refine AbC_fn ok42 (by simp) ?_
  simp -implicitDefEqProofs (disch := first | assumption | (simp only [wnA]; done) | (simp only [wnA]; omega) | omega | fail) [rc42, ro42, wkA, retV, stabOk, dC, ev, fillD, pickCells, putAt, bnd, slD, List.getElem?_cons_zero, List.getElem?_cons_succ, dR.eq_20, Mem.cell, Mem.row, wmA]
  have hll := hS.len
  refine LoopW_of (fun k ts m' => ∃ (n : Nat) (s1 : PlS) (out : List UInt8) (ob : Option Nat), n + k = 257 ∧ n ≤ 256 ∧ (∀ s2 out2, RunR G P l n s1 out s2 out2 → RunR G P l 0 s [] s2 out2) ∧ J s1 ∧ PlayV (ob.toList ++ V) m' ip sv l s1 ∧ Keeps (fun i => i ∉ ownP ip s) m m' ∧ SlO m' 5 1 ob (out.map byteV) out.length ∧ (∀ i, ob = some i → m.next ≤ i) ∧ (∀ i ∈ ownP ip s1, i ∈ ownP ip s ∨ m.next ≤ i) ∧ out.length ≤ n * 1000 ∧
    ts 0 = .pointer (some ⟨ip, 0, none⟩) ∧ ts 3 = slV ob out.length 1 ∧ ts 4 = .int .i64 (n : Nat)) 257 ?_ ?_
  · exact ⟨0, s, [], none, rfl, by omega, fun _ _ h => h, hs, h, Keeps.refl _ _, ⟨rfl, rfl⟩, (fun i hi => by cases hi), (fun i hi => .inl hi), by simp, by simp [frA_at], by simp; rfl, by simp⟩
  · rintro k ts m1 K ⟨n, s1, out, ob, hk, hn, hR, hJs, hP, kk, so, hob, how, hol, t0, t3, t4⟩ hK
    have g1 : m1.get ip = .own [sv, .int .i64 s1.at_, .map (some s1.im), watP s1.wat, .int .i64 s1.left, .int .i64 0, .int .i64 s1.st, slV s1.ot s1.tr.length 1] 105 := hP.g
    have back : ∀ (s2 : PlS) (M : Mem), PlayV (ob.toList ++ V) M ip sv l s2 → PlayV V M ip sv l s2 := fun s2 M hM => hM.other (Keeps.refl _ _) (fun i hi => .inl (List.mem_append_right _ hi)) (fun i hi => hM.lt i (List.mem_append_right _ (List.mem_append_right _ hi))) fun i hi hlo => by
      rcases List.mem_append.1 hi with hi | hi
      · have : ob = some i := by simpa using hi
        have h1 := hob i this; have h2 := h.pt.1; omega
      · exact hV i hi hlo
    simp -implicitDefEqProofs (disch := first | assumption | (simp only [wnA]; done) | (simp only [wnA]; omega) | omega | fail) [rc42_1, wkA, retV, stabOk, dC, ev, fillD, pickCells, putAt, bnd, slD, List.getElem?_cons_zero, List.getElem?_cons_succ, dR.eq_20, Mem.cell, Mem.row, wmA, t0, g1]
    by_cases h0 : s1.st = 0
    · cases hw : s1.wat with
      | some w =>
        rw [hw] at g1
        simp -implicitDefEqProofs (disch := first | assumption | (simp only [wnA]; done) | (simp only [wnA]; omega) | omega | fail) [rc42_2, wkA, retV, stabOk, dC, ev, fillD, pickCells, putAt, bnd, slD, List.getElem?_cons_zero, List.getElem?_cons_succ, dR.eq_20, Mem.cell, Mem.row, wmA, h0, t0, g1, watP, t3]
        exact hq m1 s1 out ob (hR _ _ (.stop _ _ _ (.inr (by rw [hw]; simp)))) (back _ _ hP) kk so hob how
      | none =>
        rw [hw] at g1
        have hsl := hP.ds.sl.sl.slen
        have ill : (n = 256 ∨ (l.length : Int) ≤ s1.at_) → ∀ (M : Mem), PlayV (ob.toList ++ V) M ip sv l { s1 with st := 2 } → Keeps (fun i => i ≠ ip) m1 M → Q (slV ob out.length 1) M := fun hi M hM kM =>
          hq M _ out ob (hR _ _ (.ill _ _ _ h0 hw hi)) (back _ _ hM) (kk.trans (kM.mono fun i hi2 hni e => by
            have hip := h.lt ip h.ipo
            exact hni (by rw [e]; simp [ownP]))) (so.keep kM.1 fun b hb => kM.2 b (by subst hb; exact so.lt) (fun e => by have := hob b hb; have := h.lt ip h.ipo; omega)) hob how
        by_cases h256 : n = 256
        · subst h256
          simp -implicitDefEqProofs (disch := first | assumption | (simp only [wnA]; done) | (simp only [wnA]; omega) | omega | fail) [rc42_0, wkA, retV, stabOk, dC, ev, fillD, pickCells, putAt, bnd, slD, List.getElem?_cons_zero, List.getElem?_cons_succ, dR.eq_20, Mem.cell, Mem.row, wmA, h0, t0, g1, watP, t4]
          refine hP.store s1.at_ s1.left 2 6 (.int .i64 2) (by simp [wkA, retV, stabOk, dC, ev, fillD, pickCells, putAt, bnd, slD, List.getElem?_cons_zero, List.getElem?_cons_succ, dR.eq_20, t0]) (by simp [wkA, retV, stabOk, dC, ev, fillD, pickCells, putAt, bnd, slD, List.getElem?_cons_zero, List.getElem?_cons_succ, dR.eq_20]) rfl (by omega) rfl fun M2 hP2 k2 => ?_
          simp -implicitDefEqProofs (disch := first | assumption | (simp only [wnA]; done) | (simp only [wnA]; omega) | omega | fail) [rc42_2, wkA, retV, stabOk, dC, ev, fillD, pickCells, putAt, bnd, slD, List.getElem?_cons_zero, List.getElem?_cons_succ, dR.eq_20, Mem.cell, Mem.row, wmA, t3]
          exact ill (.inl rfl) M2 hP2 k2
        · have hn2 : ((n : Int) == 256) = false := beqF (by omega)
          by_cases hat : (l.length : Int) ≤ s1.at_
          · simp -implicitDefEqProofs (disch := first | assumption | (simp only [wnA]; done) | (simp only [wnA]; omega) | omega | fail) [rc42_0, wkA, retV, stabOk, dC, ev, fillD, pickCells, putAt, bnd, slD, List.getElem?_cons_zero, List.getElem?_cons_succ, dR.eq_20, Mem.cell, Mem.row, wmA, h0, t0, g1, watP, t4, hn2, hsl, hat]
            refine hP.store s1.at_ s1.left 2 6 (.int .i64 2) (by simp [wkA, retV, stabOk, dC, ev, fillD, pickCells, putAt, bnd, slD, List.getElem?_cons_zero, List.getElem?_cons_succ, dR.eq_20, t0]) (by simp [wkA, retV, stabOk, dC, ev, fillD, pickCells, putAt, bnd, slD, List.getElem?_cons_zero, List.getElem?_cons_succ, dR.eq_20]) rfl (by omega) rfl fun M2 hP2 k2 => ?_
            simp -implicitDefEqProofs (disch := first | assumption | (simp only [wnA]; done) | (simp only [wnA]; omega) | omega | fail) [rc42_2, wkA, retV, stabOk, dC, ev, fillD, pickCells, putAt, bnd, slD, List.getElem?_cons_zero, List.getElem?_cons_succ, dR.eq_20, Mem.cell, Mem.row, wmA, t3]
            exact ill (.inr hat) M2 hP2 k2
          · have hpos := hJ.pos _ hJs
            obtain ⟨j, hj⟩ : ∃ j : Nat, s1.at_ = (j : Int) := ⟨s1.at_.toNat, by omega⟩
            have hjl : j < l.length := by omega
            obtain ⟨x, hx⟩ : ∃ x, l[j] = x := ⟨_, rfl⟩
            have hxm : x ∈ l := by rw [← hx]; exact List.getElem_mem hjl
            have hxa : l[s1.at_.toNat]? = some x := by rw [hj, Int.toNat_natCast, List.getElem?_eq_getElem hjl, hx]
            obtain ⟨bi, bo, L, hvv, hL, hLl, hLt, -⟩ := hP.ds.sl.sl.at hjl
            rw [flat_at vC_len l (List.getElem?_eq_getElem hjl), hx] at hLt
            have hsx : sidx 7 sv (.int .i64 (j : Int)) = some (.pointer (some ⟨bi, bo + j * 7, none⟩)) := by rw [hvv]; exact sidx_at hjl
            have hle : bo + j * 7 + 7 ≤ L.length := by omega
            rw [hj] at g1
            have hat' : ¬ (l.length : Int) ≤ (j : Int) := by omega
            simp -implicitDefEqProofs (disch := first | assumption | (simp only [wnA]; done) | (simp only [wnA]; omega) | omega | fail) [rc42_0, wkA, retV, stabOk, dC, ev, fillD, pickCells, putAt, bnd, slD, List.getElem?_cons_zero, List.getElem?_cons_succ, dR.eq_20, Mem.cell, Mem.row, wmA, h0, t0, g1, watP, t3, t4, hn2, hsl, hat', hsx, hL, hLt, hle]
            refine c_one hP (by omega) hw hxm (by have := (hS.sz x hxm).1; omega) (by have := (hS.sz x hxm).2; omega) (hS.of x hxm) fun m2 s2 o v hO hP2 k2 hB how2 => ?_
            have k02 : Keeps (fun i => i ∉ ownP ip s) m m2 := ⟨Nat.le_trans kk.1 k2.1, fun i hi hni => by
              rw [k2.2 i (Nat.lt_of_lt_of_le hi kk.1) (fun hm => by rcases how i hm with h1 | h1; exact hni h1; omega)]
              exact kk.2 i hi hni⟩
            have hobV : ∀ b, ob = some b → b ∉ ownP ip s1 := fun b hb hm => hP.dj b hm (by simp [hb])
            have so2 : SlO m2 5 1 ob (out.map byteV) out.length := so.keep k2.1 fun b hb => k2.2 b (by subst hb; exact so.lt) (hobV b hb)
            have how' : ∀ i ∈ ownP ip s2, i ∈ ownP ip s ∨ m.next ≤ i := fun i hi => by
              rcases how2 i hi with h1 | h1
              · exact how i h1
              · right; have := kk.1; omega
            have hJ2 := hJ.one _ _ _ _ hJs h0 hw hxa hO
            have hR2 : ∀ s3 out3, RunR G P l (n + 1) s2 (out ++ o) s3 out3 → RunR G P l 0 s [] s3 out3 := fun s3 out3 hr => hR _ _ (.step n s1 s2 s3 x o out out3 h0 hw (by omega) hpos hxa hO hr)
            have hol2 : o.length ≤ 1000 := by
              rcases hO.len with rfl | rfl
              · simp
              · exact (hS.sz x hxm).2
            have hnw : IntKind.i64.wrap ((n : Int) + 1) = ((n + 1 : Nat) : Int) := by rw [w64 (by omega)]; omega
            have fin : ∀ (fr' : Fr) (M : Mem) (ob' : Option Nat), PlayV (ob'.toList ++ V) M ip sv l s2 → Keeps (fun i => i ∉ ownP ip s) m M → SlO M 5 1 ob' ((out ++ o).map byteV) (out ++ o).length → (∀ i, ob' = some i → m.next ≤ i) → fr' 0 = .pointer (some ⟨ip, 0, none⟩) → fr' 3 = slV ob' (out ++ o).length 1 → fr' 4 = .int .i64 ((n + 1 : Nat) : Int) → K fr' M := fun fr' M ob' hPM kM sM hobM e0 e3 e4 =>
              hK (k - 1) _ _ (by omega) ⟨n + 1, s2, out ++ o, ob', by omega, by omega, hR2, hJ2, hPM, kM, sM, hobM, how', by rw [List.length_append]; omega, e0, e3, e4⟩
            have hel := hB.sl.elems
            have hlv := hB.sl.lenV
            have hsm : out.length + o.length ≤ 257000 := by omega
            simp -implicitDefEqProofs (disch := first | assumption | (simp only [wnA]; done) | (simp only [wnA]; omega) | omega | fail) [wkA, retV, stabOk, dC, ev, fillD, pickCells, putAt, bnd, slD, List.getElem?_cons_zero, List.getElem?_cons_succ, dR.eq_20, Mem.cell, Mem.row, wmA]
            cases o with
            | nil =>
              refine SK_app0 (ob := ob) (n := out.length) (ys := []) (by simp [wkA, retV, stabOk, dC, ev, fillD, pickCells, putAt, bnd, slD, List.getElem?_cons_zero, List.getElem?_cons_succ, dR.eq_20, t3]) (by simpa [wkA, retV, stabOk, dC, ev, fillD, pickCells, putAt, bnd, slD, List.getElem?_cons_zero, List.getElem?_cons_succ, dR.eq_20] using hel) (by simpa [wkA, retV, stabOk, dC, ev, fillD, pickCells, putAt, bnd, slD, List.getElem?_cons_zero, List.getElem?_cons_succ, dR.eq_20] using hlv) ?_
              simp -implicitDefEqProofs (disch := first | assumption | (simp only [wnA]; done) | (simp only [wnA]; omega) | omega | fail) [wkA, retV, stabOk, dC, ev, fillD, pickCells, putAt, bnd, slD, List.getElem?_cons_zero, List.getElem?_cons_succ, dR.eq_20, Mem.cell, Mem.row, wmA, t4, hnw]
              exact fin _ m2 ob hP2 k02 (by rw [List.append_nil]; exact so2) hob (by simp [t0]) (by simp) (by simp)
            | cons o1 os =>
              refine SK_ap (ob := ob) (n := out.length) (k := (o1 :: os).length) (cs := out.map byteV) (ys := (o1 :: os).map byteV) so2 (by simp [wkA, retV, stabOk, dC, ev, fillD, pickCells, putAt, bnd, slD, List.getElem?_cons_zero, List.getElem?_cons_succ, dR.eq_20, t3]) (by simpa [wkA, retV, stabOk, dC, ev, fillD, pickCells, putAt, bnd, slD, List.getElem?_cons_zero, List.getElem?_cons_succ, dR.eq_20] using hel) (by simpa [wkA, retV, stabOk, dC, ev, fillD, pickCells, putAt, bnd, slD, List.getElem?_cons_zero, List.getElem?_cons_succ, dR.eq_20] using hlv) (by simp) (byteV_oneC _) (by simp only [Nat.mul_one]; omega) (by simp only [maxLen]; omega) (by simp) ?_
              obtain ⟨M3, hM3⟩ : ∃ M, (m2.kill ob).push (.own (out.map byteV ++ (o1 :: os).map byteV) 5) = M := ⟨_, rfl⟩
              have s3 : SlO M3 5 1 (some m2.next) ((out ++ o1 :: os).map byteV) (out ++ o1 :: os).length := by
                rw [List.map_append, ← hM3]
                exact SlO.new (by simp)
              have kO : ∀ Y : Nat → Prop, (∀ b, ob = some b → ¬ Y b) → Keeps Y m2 M3 := fun Y hY => by
                subst hM3
                refine ⟨by simp [Mem.kill_nxt], fun i hi hy => ?_⟩
                rw [Mem.push_old _ _ (by rw [Mem.kill_nxt]; exact hi), Mem.kill_other _ (fun e => hY i e hy)]
              have n3 : M3.next = m2.next + 1 := by subst hM3; simp [Mem.kill_nxt]
              have hle2 : m.next ≤ m2.next := k02.1
              have hP3 : PlayV ((some m2.next).toList ++ V) M3 ip sv l s2 := hP2.other (kO _ (fun b hb hn => hn (by simp [hb]))) (fun i hi => by
                rcases List.mem_append.1 hi with hi | hi
                · right; simp at hi; omega
                · exact .inl (List.mem_append_right _ hi)) (fun i hi => by
                rcases List.mem_append.1 hi with hi | hi
                · simp at hi; omega
                · have := h.lt i (List.mem_append_right _ hi); omega) fun i hi hlo => by
                rcases List.mem_append.1 hi with hi | hi
                · have : ob = some i := by simpa using hi
                  have h1 := hob i this; have h2 := h.pt.1; omega
                · exact hV i hi hlo
              have k03 : Keeps (fun i => i ∉ ownP ip s) m M3 := ⟨by omega, fun i hi hni => by
                have hk3 := (kO (fun i => i < m.next) (fun b hb hlt => by have := hob b hb; omega)).2 i (by omega) hi
                rw [hk3]; exact k02.2 i hi hni⟩
              rw [hM3]
              clear hM3
              simp -implicitDefEqProofs (disch := first | assumption | (simp only [wnA]; done) | (simp only [wnA]; omega) | omega | fail) [wkA, retV, stabOk, dC, ev, fillD, pickCells, putAt, bnd, slD, List.getElem?_cons_zero, List.getElem?_cons_succ, dR.eq_20, Mem.cell, Mem.row, wmA, t4, hnw]
              exact fin _ M3 (some m2.next) hP3 k03 s3 (fun i hi => by cases hi; exact hle2) (by simp [t0]) (by simp) (by simp)
    · simp -implicitDefEqProofs (disch := first | assumption | (simp only [wnA]; done) | (simp only [wnA]; omega) | omega | fail) [rc42_2, wkA, retV, stabOk, dC, ev, fillD, pickCells, putAt, bnd, slD, List.getElem?_cons_zero, List.getElem?_cons_succ, dR.eq_20, Mem.cell, Mem.row, wmA, beqF h0, t3]
      exact hq m1 s1 out ob (hR _ _ (.stop _ _ _ (.inl h0))) (back _ _ hP) kk so hob how
end Go.Proofs.YtjlicambfepfiaaGreatDoor.Ab

set_option linter.unusedVariables false
set_option linter.unusedSimpArgs false
namespace Go.Proofs.YtjlicambfepfiaaGreatDoor.Ab
open Go Go.RowKit
set_option maxHeartbeats 4000000
set_option maxRecDepth 100000
theorem c_State {w0 : World} {V : List Nat} {m : Mem} {ip : Nat} {sv : Value} {l : List DV} {s : PlS} {Q : Value → Mem → Prop} (h : PlayV V m ip sv l s) (hq : Q (.int .i64 s.st) m) : AbC Tryz.prog w0 26 [.pointer (some ⟨ip, 0, none⟩)] m Q := by
  refine AbC_fn ok26 (by simp) ?_
  have g : m.get ip = .own [sv, .int .i64 s.at_, .map (some s.im), watP s.wat, .int .i64 s.left, .int .i64 0, .int .i64 s.st, slV s.ot s.tr.length 1] 105 := h.g
  simp -implicitDefEqProofs (disch := first | assumption | (simp only [wnA]; done) | (simp only [wnA]; omega) | omega | fail) [rc26, ro26, wkA, retV, stabOk, dC, ev, fillD, pickCells, putAt, bnd, slD, List.getElem?_cons_zero, List.getElem?_cons_succ, dR.eq_20, Mem.cell, Mem.row, wmA, g]
  exact hq
theorem c_At {w0 : World} {V : List Nat} {m : Mem} {ip : Nat} {sv : Value} {l : List DV} {s : PlS} {Q : Value → Mem → Prop} (h : PlayV V m ip sv l s) (hq : Q (.int .i64 s.at_) m) : AbC Tryz.prog w0 28 [.pointer (some ⟨ip, 0, none⟩)] m Q := by
  refine AbC_fn ok28 (by simp) ?_
  have g : m.get ip = .own [sv, .int .i64 s.at_, .map (some s.im), watP s.wat, .int .i64 s.left, .int .i64 0, .int .i64 s.st, slV s.ot s.tr.length 1] 105 := h.g
  simp -implicitDefEqProofs (disch := first | assumption | (simp only [wnA]; done) | (simp only [wnA]; omega) | omega | fail) [rc28, ro28, wkA, retV, stabOk, dC, ev, fillD, pickCells, putAt, bnd, slD, List.getElem?_cons_zero, List.getElem?_cons_succ, dR.eq_20, Mem.cell, Mem.row, wmA, g]
  exact hq
/-- The play's own blocks are others. -/
theorem PlayV.re {V : List Nat} {m M : Mem} {ip : Nat} {sv : Value} {l : List DV} {s s' : PlS} (h : PlayV V m ip sv l s) (k : Keeps (fun i => i ∉ ownP ip s) m M) (g : M.get ip = .own (plC sv s') 105) (hm : MapI M s'.im s'.f) (ho : SlO M 3 1 s'.ot (s'.tr.map (.int .i64)) s'.tr.length)
    (hw : ∀ w, s'.wat = some w → WatV (fun i => i ∉ ownP ip s' ++ V) M w.iw w.ia w.ws w.seen w.over) (hn : (ownP ip s').Nodup) (hi : ∀ i ∈ ownP ip s', (i ∈ ownP ip s ∨ m.next ≤ i) ∧ i < M.next) : PlayV V M ip sv l s' := by
  have hX : ∀ i, i < m.next → i ∉ ownP ip s ++ V → i ∉ ownP ip s' ++ V := fun i hl hni hm => by
    rcases List.mem_append.1 hm with hm | hm
    · rcases (hi i hm).1 with h1 | h1
      · exact hni (List.mem_append_left _ h1)
      · omega
    · exact hni (List.mem_append_right _ hm)
  have k2 : Keeps (fun i => i < m.next ∧ i ∉ ownP ip s ++ V) m M := k.mono fun i _ hx hm => hx.2 (List.mem_append_left _ hm)
  refine ⟨g, ((h.ds.mono fun i hl hx => (⟨hl, hx⟩ : i < m.next ∧ i ∉ ownP ip s ++ V)).keep k2).mono fun i _ hx => hX i hx.1 hx.2, hm, ho, hw, hn, ?_, h.pt.keeps k (fun i hl hm => by have := h.lo i hm; omega), ?_, ?_⟩
  · intro i hm
    rcases List.mem_append.1 hm with hm | hm
    · exact (hi i hm).2
    · exact Nat.lt_of_lt_of_le (h.lt i (List.mem_append_right _ hm)) k.1
  · intro i hm
    rcases (hi i hm).1 with h1 | h1
    · exact h.lo i h1
    · exact Nat.le_trans h.pt.1 h1
  · intro i hm hV
    rcases (hi i hm).1 with h1 | h1
    · exact h.dj i h1 hV
    · have := h.lt i (List.mem_append_right _ hV); omega
/-- The watch is given up. -/
theorem PlayV.dropW {V : List Nat} {m M : Mem} {ip : Nat} {sv : Value} {l : List DV} {s : PlS} (h : PlayV V m ip sv l s) (hM : m.set ip (.own (plC sv { s with wat := none }) 105) = M) : PlayV V M ip sv l { s with wat := none } := by
  have hnd := h.nd
  have hsub : ∀ i ∈ ownP ip { s with wat := none }, i ∈ ownP ip s := fun i hi => by
    simp only [ownP, List.mem_cons, List.mem_append, List.not_mem_nil, or_false] at hi ⊢
    rcases hi with hi | hi | hi
    · exact .inl hi
    · exact .inr (.inl hi)
    · exact .inr (.inr (.inl hi))
  have hnd2 := hnd
  simp only [ownP, List.nodup_cons, List.mem_cons, List.mem_append, not_or] at hnd2
  subst hM
  refine h.re ((Keeps.refl _ _).set (fun _ hn => hn (by simp [ownP])) _) (by rw [Mem.set_same]) ?_ ?_ (fun w hw => by cases hw) ?_ fun i hi => ⟨.inl (hsub i hi), h.lt i (List.mem_append_left _ (hsub i hi))⟩
  · obtain ⟨es, c, g, h2⟩ := h.mp
    exact ⟨es, c, by rw [Mem.set_other _ _ (fun e => hnd2.1.1 e.symm)]; exact g, h2⟩
  · exact h.ot.keep (Nat.le_refl _) fun b hb => Mem.set_other _ _ fun e => hnd2.1.2.1 (by rw [← e]; simp [hb])
  · have : ownP ip { s with wat := none } = ip :: s.im :: s.ot.toList := by simp [ownP]
    rw [this]
    refine List.Nodup.sublist ?_ hnd
    simp only [ownP]
    exact List.Sublist.cons_cons _ (List.Sublist.cons_cons _ (List.sublist_append_left _ _))
section
variable (G : List (List UInt8) → Prop) (P : List (List UInt8) → List (Tab × List Bool) → Prop)
end
end Go.Proofs.YtjlicambfepfiaaGreatDoor.Ab

set_option linter.unusedVariables false
set_option linter.unusedSimpArgs false
namespace Go.Proofs.YtjlicambfepfiaaGreatDoor.Ab
open Go Go.RowKit
set_option maxHeartbeats 4000000
set_option maxRecDepth 100000
theorem WatV.re {X Y : Nat → Prop} {m M : Mem} {iw ia : Nat} {ws : List WaE} {seen : Int} {over : Bool} (h : WatV X m iw ia ws seen over) (k : Keeps X m M) (k1 : M.get iw = m.get iw) (k2 : M.get ia = m.get ia) (hy : ∀ i, i < m.next → X i → Y i) (h1 : ¬ Y iw) (h2 : ¬ Y ia) (h3 : ∀ i, M.next ≤ i → Y i) : WatV Y M iw ia ws seen over := by
  obtain ⟨tv, g, r⟩ := h.g
  have kb : Keeps (fun i => i < m.next ∧ X i) m M := k.mono fun i _ hi => hi.2
  have mz : ∀ i, i < m.next → X i → (i < m.next ∧ X i) := fun i hi hx => ⟨hi, hx⟩
  have zy : ∀ i, i < M.next → (i < m.next ∧ X i) → Y i := fun i _ hi => hy i hi.1 hi.2
  exact ⟨⟨tv, k1.trans g, ((r.mono mz).keep kb).mono zy⟩, k2.trans h.ga, fun e he => ⟨(((h.es e he).1.mono mz).keep kb).mono zy, (((h.es e he).2.1.mono mz).keep kb).mono zy, (h.es e he).2.2⟩, ⟨h1, h2, h.own.2.2.1, Nat.lt_of_lt_of_le h.own.2.2.2.1 k.1, Nat.lt_of_lt_of_le h.own.2.2.2.2 k.1⟩, h.l, h3⟩
/-- One more pattern is noted. -/
theorem PlayV.setT {V : List Nat} {m M1 M : Mem} {ip : Nat} {sv : Value} {l : List DV} {s : PlS} (h : PlayV V m ip sv l s) (k : Int) (hM1 : (m.kill s.ot).push (.own (s.tr.map (.int .i64) ++ [.int .i64 k]) 3) = M1) (hM : M1.set ip (.own (plC sv { s with ot := some m.next, tr := s.tr ++ [k] }) 105) = M) : PlayV V M ip sv l { s with ot := some m.next, tr := s.tr ++ [k] } := by
  have hnd := h.nd
  have hip := h.lt ip h.ipo
  have n1 : M.next = m.next + 1 := by subst hM hM1; simp [Mem.kill_nxt]
  have hget : ∀ i, i < m.next → i ≠ ip → s.ot ≠ some i → M.get i = m.get i := fun i hi h1 h2 => by
    subst hM hM1
    rw [Mem.set_other _ _ h1, Mem.push_old _ _ (by rw [Mem.kill_nxt]; exact hi), Mem.kill_other _ h2]
  have kk : Keeps (fun i => i ∉ ownP ip s) m M := ⟨by omega, fun i hi hn => hget i hi (fun e => hn (by simp [ownP, e])) (fun e => hn (by simp [ownP, e]))⟩
  simp only [ownP, List.nodup_cons, List.mem_cons, List.mem_append, not_or] at hnd
  have him := h.lt s.im (by simp [ownP])
  refine h.re kk (by subst hM; rw [Mem.set_same]) ?_ ?_ ?_ ?_ ?_
  · obtain ⟨es, c, g, h2⟩ := h.mp
    exact ⟨es, c, (hget _ him (fun e => hnd.1.1 e.symm) (fun e => hnd.2.1.1 (by simp [e]))).trans g, h2⟩
  · have so : SlO M1 3 1 (some m.next) (s.tr.map (.int .i64) ++ [.int .i64 k]) (s.tr.length + 1) := by
      have := SlO.new (m := m.kill s.ot) (e := 3) (sz := 1) (n := s.tr.length + 1) (cs := s.tr.map (.int .i64) ++ [.int .i64 k]) (by simp)
      rw [hM1] at this
      simpa [Mem.kill_nxt] using this
    have e : (s.tr ++ [k]).map (Value.int .i64) = s.tr.map (.int .i64) ++ [.int .i64 k] := by simp
    show SlO M 3 1 (some m.next) ((s.tr ++ [k]).map (.int .i64)) (s.tr ++ [k]).length
    rw [e, List.length_append]
    subst hM
    exact so.set (by simp; omega) _
  · intro w hw
    have hw' : s.wat = some w := hw
    have hwv := h.wt w hw'
    rw [hw'] at hnd
    have i1 : w.iw ∈ ownP ip { s with ot := some m.next, tr := s.tr ++ [k] } := by simp [ownP, hw']
    have i2 : w.ia ∈ ownP ip { s with ot := some m.next, tr := s.tr ++ [k] } := by simp [ownP, hw']
    have hdot : ∀ i, i ∈ [w.iw, w.ia] → s.ot ≠ some i := fun i hi e => by
      have := (List.nodup_append.1 hnd.2.2).2.2 i (by simp [e]) i hi
      exact this rfl
    refine hwv.re (kk.mono fun i _ hi hm => hi (List.mem_append_left _ hm)) (hget _ hwv.own.2.2.2.1 (fun e => hnd.1.2.2 (by rw [← e]; simp)) (hdot _ (by simp))) (hget _ hwv.own.2.2.2.2 (fun e => hnd.1.2.2 (by rw [← e]; simp)) (hdot _ (by simp))) (fun i hi hx hm => ?_) (fun hn => hn (List.mem_append_left _ i1)) (fun hn => hn (List.mem_append_left _ i2)) fun i hi hm => ?_
    · rcases List.mem_append.1 hm with hm | hm
      · simp only [ownP, List.mem_cons, List.mem_append, Option.toList_some, List.mem_singleton, hw'] at hm
        refine hx (List.mem_append_left _ ?_)
        simp only [ownP, List.mem_cons, List.mem_append, hw']
        rcases hm with hm | hm | hm | hm
        · exact .inl hm
        · exact .inr (.inl hm)
        · simp at hm; omega
        · exact .inr (.inr (.inr hm))
      · exact hx (List.mem_append_right _ hm)
    · rcases List.mem_append.1 hm with hm | hm
      · simp only [ownP, List.mem_cons, List.mem_append, Option.toList_some, List.mem_singleton, List.not_mem_nil, or_false, hw'] at hm
        have hh1 := hwv.own.2.2.2.1; have hh2 := hwv.own.2.2.2.2
        rcases hm with hm | hm | hm | hm | hm
        · omega
        · omega
        · omega
        · omega
        · omega
      · have := h.lt i (List.mem_append_right _ hm); omega
  · simp only [ownP, List.nodup_cons, List.mem_cons, List.mem_append, Option.toList_some, List.cons_append, List.nil_append, not_or]
    have hlt : ∀ i ∈ (match s.wat with | none => [] | some w => [w.iw, w.ia]), i < m.next := fun i hi => h.lt i (List.mem_append_left _ (by simp only [ownP, List.mem_cons, List.mem_append]; exact .inr (.inr (.inr hi))))
    refine ⟨⟨hnd.1.1, by omega, hnd.1.2.2⟩, ⟨by omega, hnd.2.1.2⟩, fun hm => by have := hlt _ hm; omega, (List.nodup_append.1 hnd.2.2).2.1⟩
  · intro i hi
    simp only [ownP, List.mem_cons, List.mem_append, Option.toList_some, List.mem_singleton, List.not_mem_nil, or_false] at hi
    have hall : ∀ i ∈ ownP ip s, i < m.next := fun i hi => h.lt i (List.mem_append_left _ hi)
    have key : i ∈ ownP ip s ∨ i = m.next := by
      simp only [ownP, List.mem_cons, List.mem_append]
      rcases hi with hi | hi | hi | hi
      · exact .inl (.inl hi)
      · exact .inl (.inr (.inl hi))
      · exact .inr hi
      · exact .inl (.inr (.inr (.inr hi)))
    rcases key with h1 | h1
    · exact ⟨.inl h1, by have := hall i h1; omega⟩
    · exact ⟨.inr (by omega), by omega⟩
end Go.Proofs.YtjlicambfepfiaaGreatDoor.Ab

set_option linter.unusedVariables false
set_option linter.unusedSimpArgs false
namespace Go.Proofs.YtjlicambfepfiaaGreatDoor.Ab
open Go Go.RowKit
set_option maxHeartbeats 4000000
set_option maxRecDepth 100000
/-- The tables and places of a watch, behind a byte. -/
def watC (c : UInt8) (w : WatS) : List (Tab × List Bool) := (w.ws.map WaE.core).map (coreS c)
def bestC (c : UInt8) (w : WatS) : Int := bestJ (watC c w) w.ws.length
section
variable (G : List (List UInt8) → Prop) (P : List (List UInt8) → List (Tab × List Bool) → Prop)
/-- A byte is taken. -/
inductive PutR (l : List DV) (c : UInt8) (s : PlS) : PlS → List UInt8 → Prop
  | off : s.st ≠ 0 ∨ s.wat = none → PutR l c s s []
  | over (w : WatS) : s.st = 0 → s.wat = some w → w.over = true → PutR l c s s []
  | no (w w' : WatS) : s.st = 0 → s.wat = some w → w.over = false → w'.ws.map WaE.core = watC c w → w'.ws.length = w.ws.length → w'.over = false → bestC c w < 0 → PutR l c s { s with wat := some w' } []
  | go (w : WatS) (x : DV) (a : Arm) (o : Nat) (s2 : PlS) (out : List UInt8) : s.st = 0 → s.wat = some w → w.over = false → 0 ≤ bestC c w → 0 ≤ s.at_ → l[s.at_.toNat]? = some x → x.1.arms[(bestC c w).toNat]? = some a →
      RunR G P l 0 { s with wat := none, ot := some o, tr := s.tr ++ [bestC c w], at_ := findN a.to l 0 } [] s2 out → PutR l c s s2 out
end
theorem c_Put {w0 : World} {V : List Nat} {m : Mem} {ip : Nat} {sv : Value} {l : List DV} {s : PlS} {c : UInt8} {G : List (List UInt8) → Prop} {P : List (List UInt8) → List (Tab × List Bool) → Prop} {J : PlS → Prop} {Q : Value → Mem → Prop} (h : PlayV V m ip sv l s) (hS : StepsOk w0 G P l) (hJ : SafeJ G P l J) (hV : ∀ i ∈ V, i < L0.n → False) (htr : s.tr.length ≤ 1000000000)
    (hs : ∀ w, s.st = 0 → s.wat = some w → w.over = false → 0 ≤ bestC c w → 0 ≤ s.at_ ∧ ∃ x a, l[s.at_.toNat]? = some x ∧ x.1.arms[(bestC c w).toNat]? = some a ∧ ∀ o, J { s with wat := none, ot := some o, tr := s.tr ++ [bestC c w], at_ := findN a.to l 0 })
    (hq : ∀ m' s' out ob, PutR G P l c s s' out → PlayV V m' ip sv l s' → Keeps (fun i => i ∉ ownP ip s) m m' → SlO m' 5 1 ob (out.map byteV) out.length → (∀ i, ob = some i → m.next ≤ i) → (∀ i ∈ ownP ip s', i ∈ ownP ip s ∨ m.next ≤ i) → Q (slV ob out.length 1) m') :
    AbC Tryz.prog w0 30 [.pointer (some ⟨ip, 0, none⟩), .int .u8 (c.toNat : Int)] m Q := by
  refine AbC_fn ok30 (by simp) ?_
  have g : m.get ip = .own [sv, .int .i64 s.at_, .map (some s.im), watP s.wat, .int .i64 s.left, .int .i64 0, .int .i64 s.st, slV s.ot s.tr.length 1] 105 := h.g
  have nil : ∀ s' m', PutR G P l c s s' [] → PlayV V m' ip sv l s' → Keeps (fun i => i ∉ ownP ip s) m m' → (∀ i ∈ ownP ip s', i ∈ ownP ip s ∨ m.next ≤ i) → Q (.slice none 0 0) m' := fun s' m' hr hP k how => by
    have := hq m' s' [] none hr hP k ⟨rfl, rfl⟩ (fun i hi => by cases hi) how
    exact this
  by_cases h0 : s.st = 0
  · cases hw : s.wat with
    | none =>
      rw [hw] at g
      simp -implicitDefEqProofs (disch := first | assumption | (simp only [wnA]; done) | (simp only [wnA]; omega) | omega | fail) [rc30, ro30, wkA, retV, stabOk, dC, ev, fillD, pickCells, putAt, bnd, slD, List.getElem?_cons_zero, List.getElem?_cons_succ, dR.eq_20, Mem.cell, Mem.row, wmA, g, h0, watP]
      exact nil s m (.off (.inr hw)) h (Keeps.refl _ _) fun i hi => .inl hi
    | some w =>
      rw [hw] at g
      have hwv := h.wt w hw
      have i1 : w.iw ∈ ownP ip s := by simp [ownP, hw]
      have i2 : w.ia ∈ ownP ip s := by simp [ownP, hw]
      have hnd := h.nd
      have hnd0 := hnd
      simp only [ownP, hw, List.nodup_cons, List.mem_cons, List.mem_append, List.not_mem_nil, or_false, not_or] at hnd
      have hip := h.lt ip h.ipo
      simp -implicitDefEqProofs (disch := first | assumption | (simp only [wnA]; done) | (simp only [wnA]; omega) | omega | fail) [rc30, ro30, rc30_1, wkA, retV, stabOk, dC, ev, fillD, pickCells, putAt, bnd, slD, List.getElem?_cons_zero, List.getElem?_cons_succ, dR.eq_20, Mem.cell, Mem.row, wmA, g, h0, watP]
      refine c_WPut hwv (fun m1 ws1 seen1 hov kk hcore hit hWV => ?_) fun hov => ?_
      · have kF : Keeps (fun i => i ∉ ownP ip s) m m1 := kk.mono fun i _ hi => ⟨fun e => hi (by rw [e]; exact i1), fun e => hi (by rw [e]; exact i2)⟩
        have g1 : m1.get ip = m.get ip := kk.2 ip hip ⟨fun e => hnd.1.2.2.1 e, fun e => hnd.1.2.2.2 e⟩
        have hwl : ws1.length = w.ws.length := by have := congrArg List.length hit; simpa using this
        obtain ⟨w1, hw1⟩ : ∃ w1 : WatS, { w with ws := ws1, seen := seen1, over := decide (0 ≤ bestC c w) } = w1 := ⟨_, rfl⟩
        have ho1 : ownP ip { s with wat := some w1 } = ownP ip s := by subst hw1; simp [ownP, hw]
        have hP1 : PlayV V m1 ip sv l { s with wat := some w1 } := by
          refine h.re kF ?_ ?_ ?_ ?_ ?_ ?_
          · rw [g1, h.g, ← hw1]; simp [plC, hw, watP]
          · obtain ⟨es, cl, g2, h2⟩ := h.mp
            exact ⟨es, cl, (kk.2 _ (h.lt s.im (by simp [ownP])) ⟨fun e => hnd.2.1.2.1 e, fun e => hnd.2.1.2.2 e⟩).trans g2, h2⟩
          · refine h.ot.keep kk.1 fun b hb => kk.2 b (h.lt b (by simp [ownP, hb])) ?_
            have hdis := (List.nodup_append.1 hnd.2.2).2.2 b (by simp [hb])
            exact ⟨fun e => hdis w.iw (by simp) e, fun e => hdis w.ia (by simp) e⟩
          · intro w' hw'
            cases hw'
            rw [ho1]
            subst hw1
            exact hWV
          · rw [ho1]; exact hnd0
          · intro i hi
            rw [ho1] at hi
            exact ⟨.inl hi, Nat.lt_of_lt_of_le (h.lt i (List.mem_append_left _ hi)) kk.1⟩
        have hbe : bestJ ((w.ws.map WaE.core).map (coreS c)) w.ws.length = bestC c w := rfl
        rw [hbe]
        by_cases hb : bestC c w < 0
        · have e2 : decide (0 ≤ bestC c w) = false := by simp; omega
          rw [e2]
          simp -implicitDefEqProofs (disch := first | assumption | (simp only [wnA]; done) | (simp only [wnA]; omega) | omega | fail) [wkA, retV, stabOk, dC, ev, fillD, pickCells, putAt, bnd, slD, List.getElem?_cons_zero, List.getElem?_cons_succ, dR.eq_20, Mem.cell, Mem.row, wmA]
          refine nil _ m1 (.no w w1 h0 hw hov ?_ ?_ ?_ hb) hP1 kF fun i hi => .inl (by rw [ho1] at hi; exact hi)
          · subst hw1; exact hcore
          · subst hw1; exact hwl
          · subst hw1; exact e2
        · have e1 : max 0 (bestC c w) = bestC c w := by omega
          have e2 : decide (0 ≤ bestC c w) = true := by simp; omega
          rw [e1, e2]
          obtain ⟨hpos, x, a, hx, ha, hJx⟩ := hs w h0 hw hov (by omega)
          obtain ⟨b, hbb⟩ : ∃ b : Nat, bestC c w = (b : Int) := ⟨(bestC c w).toNat, by omega⟩
          obtain ⟨j, hj⟩ : ∃ j : Nat, s.at_ = (j : Int) := ⟨s.at_.toNat, by omega⟩
          have hx0 := hx
          have ha0 := ha
          rw [hj, Int.toNat_natCast] at hx
          rw [hbb, Int.toNat_natCast] at ha
          have hjl : j < l.length := by
            rcases Nat.lt_or_ge j l.length with h' | h'
            · exact h'
            · rw [List.getElem?_eq_none h'] at hx; cases hx
          have hbl : b < x.1.arms.length := by
            rcases Nat.lt_or_ge b x.1.arms.length with h' | h'
            · exact h'
            · rw [List.getElem?_eq_none h'] at ha; cases ha
          have gp1 : m1.get ip = .own [sv, .int .i64 (j : Int), .map (some s.im), watP (some w1), .int .i64 s.left, .int .i64 0, .int .i64 s.st, slV s.ot s.tr.length 1] 105 := by rw [← hj]; exact hP1.g
          rw [hbb]
          simp -implicitDefEqProofs (disch := first | assumption | (simp only [wnA]; done) | (simp only [wnA]; omega) | omega | fail) [rc30_0, wkA, retV, stabOk, dC, ev, fillD, pickCells, putAt, bnd, slD, List.getElem?_cons_zero, List.getElem?_cons_succ, dR.eq_20, Mem.cell, Mem.row, wmA, gp1]
          rw [SK_bsl (cs := [.int .i64 (b : Int)]) (by simp [wkA, retV, stabOk, dC, ev, fillD, pickCells, putAt, bnd, slD, List.getElem?_cons_zero, List.getElem?_cons_succ, dR.eq_20]) (by simp)]
          obtain ⟨M2, hM2⟩ : ∃ M2, m1.push (.own [.int .i64 (b : Int)] 3) = M2 := ⟨_, rfl⟩
          have o2 : Old m1 M2 := by subst hM2; exact (Old.refl m1).push _
          have g2 : M2.get m1.next = .own [.int .i64 (b : Int)] 3 := by subst hM2; rw [Mem.push_same]
          have hP2 := hP1.old o2
          simp -implicitDefEqProofs (disch := first | assumption | (simp only [wnA]; done) | (simp only [wnA]; omega) | omega | fail) [wkA, retV, stabOk, dC, ev, fillD, pickCells, putAt, bnd, slD, List.getElem?_cons_zero, List.getElem?_cons_succ, dR.eq_20, Mem.cell, Mem.row, wmA, hM2]
          clear hM2
          refine SK_ap (ob := s.ot) (n := s.tr.length) (k := 1) (cs := s.tr.map (.int .i64)) (ys := [.int .i64 (b : Int)]) hP2.ot (by simp [wkA, retV, stabOk, dC, ev, fillD, pickCells, putAt, bnd, slD, List.getElem?_cons_zero, List.getElem?_cons_succ, dR.eq_20]) (by simp -implicitDefEqProofs (disch := first | assumption | (simp only [wnA]; done) | (simp only [wnA]; omega) | omega | fail) [wkA, retV, stabOk, dC, ev, fillD, pickCells, putAt, bnd, slD, List.getElem?_cons_zero, List.getElem?_cons_succ, dR.eq_20, elemsV, Mem.cell, Mem.row, wmA, g2]) (by simp [wkA, retV, stabOk, dC, ev, fillD, pickCells, putAt, bnd, slD, List.getElem?_cons_zero, List.getElem?_cons_succ, dR.eq_20]) (by omega) rfl (by omega) (by simp only [maxLen]; omega) rfl ?_
          obtain ⟨M3, hM3⟩ : ∃ M, (M2.kill s.ot).push (.own (s.tr.map (.int .i64) ++ [.int .i64 (b : Int)]) 3) = M := ⟨_, rfl⟩
          obtain ⟨M4, hM4⟩ : ∃ M, M3.set ip (.own (plC sv { s with wat := some w1, ot := some M2.next, tr := s.tr ++ [(b : Int)] }) 105) = M := ⟨_, rfl⟩
          have hP4 := hP2.setT (b : Int) hM3 hM4
          have hip2 := hP2.lt ip hP2.ipo
          have hip1 := hP1.lt ip hP1.ipo
          have hoti : s.ot ≠ some ip := fun e => hnd.1.2.1 (by simp [e])
          have g3 : M3.get ip = .own (plC sv { s with wat := some w1 }) 105 := by
            subst hM3
            rw [Mem.push_old _ _ (by rw [Mem.kill_nxt]; exact hip2), Mem.kill_other _ hoti]
            exact hP2.g
          have k4 : Keeps (fun i => i ∉ ownP ip s) M2 M4 := by
            subst hM4 hM3
            refine ⟨by simp [Mem.kill_nxt], fun i hi hn => ?_⟩
            rw [Mem.set_other _ _ (fun e => hn (by simp [ownP, e])), Mem.push_old _ _ (by rw [Mem.kill_nxt]; exact hi), Mem.kill_other _ (fun e => hn (by simp [ownP, e]))]
          rw [hM3]
          simp -implicitDefEqProofs (disch := first | assumption | (simp only [wnA]; done) | (simp only [wnA]; omega) | omega | fail) [wkA, retV, stabOk, dC, ev, fillD, pickCells, putAt, bnd, slD, List.getElem?_cons_zero, List.getElem?_cons_succ, dR.eq_20, Mem.cell, Mem.row, wmA]
          refine SK_stm (i := ip) (o := 7) (vs := [slV (some M2.next) (s.tr.length + 1) 1]) (cs := plC sv { s with wat := some w1 }) (e := 105) (M := M4) (by simp [wkA, retV, stabOk, dC, ev, fillD, pickCells, putAt, bnd, slD, List.getElem?_cons_zero, List.getElem?_cons_succ, dR.eq_20]) g3 (by simp [wkA, retV, stabOk, dC, ev, fillD, pickCells, putAt, bnd, slD, List.getElem?_cons_zero, List.getElem?_cons_succ, dR.eq_20]) (by simp [plC]) rfl rfl (by rw [← hM4]; simp [plC, putAt]) ?_
          clear hM4 hM3
          obtain ⟨M5, hM5⟩ : ∃ M, M4.set ip (.own (plC sv { s with wat := none, ot := some M2.next, tr := s.tr ++ [(b : Int)] }) 105) = M := ⟨_, rfl⟩
          have hP5 := hP4.dropW hM5
          have k5 : Keeps (fun i => i ≠ ip) M4 M5 := by subst hM5; exact (Keeps.refl _ _).set (fun _ hn => hn rfl) _
          simp -implicitDefEqProofs (disch := first | assumption | (simp only [wnA]; done) | (simp only [wnA]; omega) | omega | fail) [wkA, retV, stabOk, dC, ev, fillD, pickCells, putAt, bnd, slD, List.getElem?_cons_zero, List.getElem?_cons_succ, dR.eq_20, Mem.cell, Mem.row, wmA]
          refine SK_stm (i := ip) (o := 3) (vs := [.pointer none]) (cs := plC sv { s with wat := some w1, ot := some M2.next, tr := s.tr ++ [(b : Int)] }) (e := 105) (M := M5) (by simp [wkA, retV, stabOk, dC, ev, fillD, pickCells, putAt, bnd, slD, List.getElem?_cons_zero, List.getElem?_cons_succ, dR.eq_20]) hP4.g (by simp [wkA, retV, stabOk, dC, ev, fillD, pickCells, putAt, bnd, slD, List.getElem?_cons_zero, List.getElem?_cons_succ, dR.eq_20]) (by simp [plC]) rfl rfl hM5 ?_
          clear hM5
          have g5 : M5.get ip = .own [sv, .int .i64 (j : Int), .map (some s.im), .pointer none, .int .i64 s.left, .int .i64 0, .int .i64 s.st, slV (some M2.next) (s.tr ++ [(b : Int)]).length 1] 105 := by rw [← hj]; exact hP5.g
          obtain ⟨bi, bo, L, hvv, hL, hLl, hLt, hLc⟩ := hP5.ds.sl.sl.at hjl
          have hc3 := hLc 3 (by omega)
          rw [flat_at' vC_len l hx (by omega)] at hc3
          have hc3 : L[bo + j * 7 + 3]? = some x.2 := hc3
          have hsx : sidx 7 sv (.int .i64 (j : Int)) = some (.pointer (some ⟨bi, bo + j * 7, none⟩)) := by rw [hvv]; exact sidx_at hjl
          have hxm : x ∈ l := List.mem_of_getElem? hx
          obtain ⟨b2, o3, L2, hv2, hL2, hLl2, -, hLc2⟩ := (hP5.ds.ar x hxm).sl.at hbl
          have hc1 := hLc2 1 (by omega)
          rw [flat_at' arm_len2 x.1.arms ha (by omega)] at hc1
          have hc1 : L2[o3 + b * 2 + 1]? = some (.string ⟨⟨a.to⟩⟩) := hc1
          have hs2 : sidx 2 x.2 (.int .i64 (b : Int)) = some (.pointer (some ⟨b2, o3 + b * 2, none⟩)) := by rw [hv2]; exact sidx_at hbl
          simp -implicitDefEqProofs (disch := first | assumption | (simp only [wnA]; done) | (simp only [wnA]; omega) | omega | fail) [wkA, retV, stabOk, dC, ev, fillD, pickCells, putAt, bnd, slD, List.getElem?_cons_zero, List.getElem?_cons_succ, dR.eq_20, Mem.cell, Mem.row, wmA, g5, hsx, hL, hc3, getL hc3, hs2, hL2, hc1, getL hc1]
          refine c_jump hP5 (by have := hS.len; omega) fun M6 k6 hP6 u => ?_
          simp -implicitDefEqProofs (disch := first | assumption | (simp only [wnA]; done) | (simp only [wnA]; omega) | omega | fail) [wkA, retV, stabOk, dC, ev, fillD, pickCells, putAt, bnd, slD, List.getElem?_cons_zero, List.getElem?_cons_succ, dR.eq_20, Mem.cell, Mem.row, wmA]
          rw [hbb] at hJx
          have k02 : Keeps (fun i => i ∉ ownP ip s) m M2 := kF.trans o2.keeps
          have k06 : Keeps (fun i => i ∉ ownP ip s) m M6 := (k02.trans k4).trans ((k5.trans k6).mono fun i _ hi e => hi (by rw [e]; simp [ownP]))
          have hsub : ∀ i ∈ ownP ip { s with wat := none, ot := some M2.next, tr := s.tr ++ [(b : Int)], at_ := findN a.to l 0 }, i ∈ ownP ip s ∨ m.next ≤ i := fun i hi => by
            simp only [ownP, List.mem_cons, List.mem_append, Option.toList_some, List.not_mem_nil, or_false] at hi
            rcases hi with hi | hi | hi
            · left; simp [ownP, hi]
            · left; simp [ownP, hi]
            · right; have := k02.1; omega
          refine c_run hP6 hS hJ (hJx _) hV fun M7 s7 out ob hR hP7 k7 so hob how => ?_
          simp -implicitDefEqProofs (disch := first | assumption | (simp only [wnA]; done) | (simp only [wnA]; omega) | omega | fail) [wkA, retV, stabOk, dC, ev, fillD, pickCells, putAt, bnd, slD, List.getElem?_cons_zero, List.getElem?_cons_succ, dR.eq_20, Mem.cell, Mem.row, wmA]
          refine hq M7 s7 out ob (.go w x a M2.next s7 out h0 hw hov (by omega) hpos hx0 ha0 (by rw [hbb]; exact hR)) hP7 ⟨Nat.le_trans k06.1 k7.1, fun i hi hn => ?_⟩ so (fun i hi => Nat.le_trans k06.1 (hob i hi)) fun i hi => ?_
          · rw [k7.2 i (Nat.lt_of_lt_of_le hi k06.1) (fun hm => by rcases hsub i hm with h1 | h1; exact hn h1; omega)]
            exact k06.2 i hi hn
          · rcases how i hi with h1 | h1
            · exact hsub i h1
            · right; have := k06.1; omega
      · simp -implicitDefEqProofs (disch := first | assumption | (simp only [wnA]; done) | (simp only [wnA]; omega) | omega | fail) [wkA, retV, stabOk, dC, ev, fillD, pickCells, putAt, bnd, slD, List.getElem?_cons_zero, List.getElem?_cons_succ, dR.eq_20, Mem.cell, Mem.row, wmA]
        exact nil s m (.over w h0 hw hov) h (Keeps.refl _ _) fun i hi => .inl hi
  · simp -implicitDefEqProofs (disch := first | assumption | (simp only [wnA]; done) | (simp only [wnA]; omega) | omega | fail) [rc30, ro30, wkA, retV, stabOk, dC, ev, fillD, pickCells, putAt, bnd, slD, List.getElem?_cons_zero, List.getElem?_cons_succ, dR.eq_20, Mem.cell, Mem.row, wmA, g, bneT h0]
    exact nil s m (.off (.inl h0)) h (Keeps.refl _ _) fun i hi => .inl hi
end Go.Proofs.YtjlicambfepfiaaGreatDoor.Ab

set_option linter.unusedVariables false
set_option linter.unusedSimpArgs false
namespace Go.Proofs.YtjlicambfepfiaaGreatDoor.Ab
open Go Go.RowKit
set_option maxHeartbeats 4000000
set_option maxRecDepth 100000
def strV (s : List UInt8) : Value := .string ⟨⟨s⟩⟩
/-- Two lists of texts that grow. -/
structure T2 (base m : Mem) (oa ob : Option Nat) (a b : List (List UInt8)) : Prop where
  o : Old base m
  sa : SlO m 9 1 oa (a.map strV) a.length
  sb : SlO m 9 1 ob (b.map strV) b.length
  ha : ∀ i, oa = some i → base.next ≤ i
  hb : ∀ i, ob = some i → base.next ≤ i
  d : ∀ i, oa = some i → ob ≠ some i
theorem T2.old {base m M : Mem} {oa ob : Option Nat} {a b : List (List UInt8)} (h : T2 base m oa ob a b) (o : Old m M) : T2 base M oa ob a b :=
  ⟨h.o.trans o, h.sa.keep o.1 fun i hi => o.2 i (by subst hi; exact h.sa.lt), h.sb.keep o.1 fun i hi => o.2 i (by subst hi; exact h.sb.lt), h.ha, h.hb, h.d⟩
theorem T2.appA {base m : Mem} {oa ob : Option Nat} {a b : List (List UInt8)} (h : T2 base m oa ob a b) (x : List UInt8) : T2 base ((m.kill oa).push (.own (a.map strV ++ [strV x]) 9)) (some m.next) ob (a ++ [x]) b := by
  refine ⟨(h.o.kill h.ha).push _, ?_, (h.sb.kill fun i hi e => h.d i e hi).push _, fun i hi => by cases hi; exact h.o.1, h.hb, fun i hi e => ?_⟩
  · have e : (a ++ [x]).map strV = a.map strV ++ [strV x] := by simp
    rw [e, List.length_append]
    exact SlO.new (by simp)
  · cases hi
    subst e
    exact Nat.lt_irrefl _ h.sb.lt
theorem T2.appB {base m : Mem} {oa ob : Option Nat} {a b : List (List UInt8)} (h : T2 base m oa ob a b) (x : List UInt8) : T2 base ((m.kill ob).push (.own (b.map strV ++ [strV x]) 9)) oa (some m.next) a (b ++ [x]) := by
  refine ⟨(h.o.kill h.hb).push _, (h.sa.kill fun i hi e => h.d i hi e).push _, ?_, h.ha, fun i hi => by cases hi; exact h.o.1, fun i hi e => ?_⟩
  · have e : (b ++ [x]).map strV = b.map strV ++ [strV x] := by simp
    rw [e, List.length_append]
    exact SlO.new (by simp)
  · cases e
    subst hi
    exact Nat.lt_irrefl _ h.sa.lt
/-- Where the labels lead. -/
theorem w_tos {w0 : World} {Q : AQ} {fr : Fr} {m : Mem} {v : Value} {l : List DV} {ob : Option Nat} {ts0 : List (List UInt8)} (hv : DsV m v l) (hl : l.length ≤ 1000000) (hs : SlO m 9 1 ob (ts0.map strV) ts0.length) (htl : ts0.length ≤ 1000000) (f0 : fr 0 = v) (f6 : fr 6 = slV ob ts0.length 1)
    (hq : (∀ t ∈ ts0, 0 ≤ findN t l 0) → ∀ fr' m', Old m m' → (∀ i ∈ [0, 4, 23, 24, 25], fr' i = fr i) → Q .normal fr' m')
    (he : (∃ t ∈ ts0, findN t l 0 < 0) → ∀ fr' m' u, Old m m' → fr' 2 = fr 4 → fr' 3 = .iface 39 u → Q .ret fr' m') : AbW Tryz.prog w0 rc32_9 Q fr m := by
  simp -implicitDefEqProofs (disch := first | assumption | (simp only [wnA]; done) | (simp only [wnA]; omega) | omega | fail) [rc32_9, wkA, retV, stabOk, dC, ev, fillD, pickCells, putAt, bnd, slD, List.getElem?_cons_zero, List.getElem?_cons_succ, dR.eq_20, Mem.cell, Mem.row, wmA, f6, hs.slen]
  refine LoopW_of (fun k ts m' => ∃ j, j + k = ts0.length ∧ Old m m' ∧ (∀ t ∈ ts0.take j, 0 ≤ findN t l 0) ∧ (∀ i ∈ [0, 4, 23, 24, 25], ts i = fr i) ∧ ts 93 = slV ob ts0.length 1 ∧ ts 94 = .int .i64 (ts0.length : Nat) ∧ ts 95 = .int .i64 (j : Nat)) ts0.length ?_ ?_
  · refine ⟨0, by omega, Old.refl m, (fun t ht => by simp at ht), fun i hi => ?_, by simp, by simp, by simp⟩
    simp only [List.mem_cons, List.not_mem_nil, or_false] at hi
    rcases hi with rfl | rfl | rfl | rfl | rfl <;> simp
  · rintro k ts m1 K ⟨j, hj, o1, hall, sm, t93, t94, t95⟩ hK
    have e0 := (sm 0 (by simp)).trans f0
    have e4 := sm 4 (by simp)
    simp -implicitDefEqProofs (disch := first | assumption | (simp only [wnA]; done) | (simp only [wnA]; omega) | omega | fail) [rc32_8, wkA, retV, stabOk, dC, ev, fillD, pickCells, putAt, bnd, slD, List.getElem?_cons_zero, List.getElem?_cons_succ, dR.eq_20, Mem.cell, Mem.row, wmA, t94, t95]
    by_cases hjl : j < ts0.length
    · obtain ⟨b, hb⟩ : ∃ b, ob = some b := by
        cases ob with
        | none => have := hs.2; omega
        | some b => exact ⟨b, rfl⟩
      subst hb
      have g1 := (o1.2 b hs.lt).trans hs.2.1
      have hx : (ts0.map strV)[j]? = some (.string ⟨⟨ts0[j]⟩⟩) := by rw [List.getElem?_map, List.getElem?_eq_getElem hjl]; rfl
      have hsl : slV (some b) ts0.length 1 = .slice (some ⟨b, 0, none⟩) ts0.length 1 := rfl
      have hsx : sidx 1 (.slice (some ⟨b, 0, none⟩) ts0.length 1) (.int .i64 (j : Int)) = some (.pointer (some ⟨b, j, none⟩)) := by simpa using sidx_at (b := b) (o := 0) (n := ts0.length) (c := 1) (j := j) (sz := 1) (k := .i64) hjl
      have hjw : IntKind.i64.wrap ((j : Int) + 1) = ((j + 1 : Nat) : Int) := by rw [w64 (by omega)]; omega
      obtain ⟨L, hL⟩ : ∃ L, ts0.map strV = L := ⟨_, rfl⟩
      rw [hL] at g1 hx
      have htk : ts0.take (j + 1) = ts0.take j ++ [ts0[j]] := List.take_succ_eq_append_getElem hjl
      have htm : ts0[j] ∈ ts0 := List.getElem_mem hjl
      generalize ts0[j] = t at *
      simp -implicitDefEqProofs (disch := first | assumption | (simp only [wnA]; done) | (simp only [wnA]; omega) | omega | fail) [hjl, rc32_7, wkA, retV, stabOk, dC, ev, fillD, pickCells, putAt, bnd, slD, List.getElem?_cons_zero, List.getElem?_cons_succ, dR.eq_20, Mem.cell, Mem.row, wmA, t93, t95, hsl, hsx, g1, hx, getL hx, e0]
      refine c_Find (hv.old o1) hl fun m2 o2 => ?_
      by_cases hf : findN t l 0 < 0
      · simp -implicitDefEqProofs (disch := first | assumption | (simp only [wnA]; done) | (simp only [wnA]; omega) | omega | fail) [wkA, retV, stabOk, dC, ev, fillD, pickCells, putAt, bnd, slD, List.getElem?_cons_zero, List.getElem?_cons_succ, dR.eq_20, Mem.cell, Mem.row, wmA, ltT hf, e4]
        exact he ⟨t, htm, hf⟩ _ m2 _ (o1.trans o2) (by simp) (by simp; rfl)
      · simp -implicitDefEqProofs (disch := first | assumption | (simp only [wnA]; done) | (simp only [wnA]; omega) | omega | fail) [wkA, retV, stabOk, dC, ev, fillD, pickCells, putAt, bnd, slD, List.getElem?_cons_zero, List.getElem?_cons_succ, dR.eq_20, Mem.cell, Mem.row, wmA, ltF (show (0 : Int) ≤ findN t l 0 by omega), t95, hjw]
        exact hK (k - 1) _ _ (by omega) ⟨j + 1, by omega, o1.trans o2, fun t' ht' => by
          rw [htk] at ht'
          rcases List.mem_append.1 ht' with h1 | h1
          · exact hall t' h1
          · rw [List.mem_singleton] at h1; subst h1; omega, fun i hi => by
          have := sm i hi
          simp only [List.mem_cons, List.not_mem_nil, or_false] at hi
          rcases hi with rfl | rfl | rfl | rfl | rfl <;> simp [this, e0], by simp [t93], by simp [t94], by simp⟩
    · have hjj : j = ts0.length := by omega
      subst hjj
      rw [List.take_length] at hall
      simp -implicitDefEqProofs (disch := first | assumption | (simp only [wnA]; done) | (simp only [wnA]; omega) | omega | fail) [hjl, wkA, retV, stabOk, dC, ev, fillD, pickCells, putAt, bnd, slD, List.getElem?_cons_zero, List.getElem?_cons_succ, dR.eq_20, Mem.cell, Mem.row, wmA]
      exact hq hall _ m1 o1 fun i hi => by
        have := sm i hi
        simp only [List.mem_cons, List.not_mem_nil, or_false] at hi
        rcases hi with rfl | rfl | rfl | rfl | rfl <;> simp [this]
end Go.Proofs.YtjlicambfepfiaaGreatDoor.Ab

set_option linter.unusedVariables false
set_option linter.unusedSimpArgs false
namespace Go.Proofs.YtjlicambfepfiaaGreatDoor.Ab
open Go Go.RowKit
set_option maxHeartbeats 4000000
set_option maxRecDepth 100000
theorem w_pto {w0 : World} {Q : AQ} {fr : Fr} {base m : Mem} {av : Value} {arms : List Arm} {oa : Option Nat} {t0 : List (List UInt8)} (ha : SlR m 2 av (arms.flatMap Arm.cells) arms.length) (hb : ∀ b, blk av = some b → b < m.next) (hl : arms.length ≤ 1000) (h : T2 base m oa none t0 []) (ht : t0.length ≤ 1000)
    (f6 : fr 6 = slV oa t0.length 1) (f7 : fr 7 = .slice none 0 0) (f65 : fr 65 = av) (f66 : fr 66 = .int .i64 (arms.length : Nat)) (f67 : fr 67 = .int .i64 0)
    (hq : ∀ fr' m' oa' ob', Old base m' → T2 base m' oa' ob' (t0 ++ arms.map Arm.to) (arms.map Arm.pat) → fr' 6 = slV oa' (t0 ++ arms.map Arm.to).length 1 → fr' 7 = slV ob' arms.length 1 → (∀ i ∈ [0, 4, 5, 23, 24, 25], fr' i = fr i) → Q .normal fr' m') (hav : ∀ b, blk av = some b → b < base.next) :
    LoopW (AbW Tryz.prog w0 rc32_5) (inBlockA 2 Q) fr m := by
  refine LoopW_of (fun k ts m' => ∃ j oa' ob', j + k = arms.length ∧ T2 base m' oa' ob' (t0 ++ (arms.take j).map Arm.to) ((arms.take j).map Arm.pat) ∧ (∀ i ∈ [0, 4, 5, 23, 24, 25], ts i = fr i) ∧ ts 6 = slV oa' (t0.length + j) 1 ∧ ts 7 = slV ob' j 1 ∧ ts 65 = av ∧ ts 66 = .int .i64 (arms.length : Nat) ∧ ts 67 = .int .i64 (j : Nat)) arms.length ?_ ?_
  · exact ⟨0, oa, none, by omega, by simpa using h, fun _ _ => rfl, by simpa using f6, by rw [f7]; rfl, f65, f66, f67⟩
  · rintro k ts m1 K ⟨j, oa', ob', hj, hT, sm, t6, t7, t65, t66, t67⟩ hK
    simp -implicitDefEqProofs (disch := first | assumption | (simp only [wnA]; done) | (simp only [wnA]; omega) | omega | fail) [rc32_5, wkA, retV, stabOk, dC, ev, fillD, pickCells, putAt, bnd, slD, List.getElem?_cons_zero, List.getElem?_cons_succ, dR.eq_20, Mem.cell, Mem.row, wmA, t66, t67]
    by_cases hjl : j < arms.length
    · have hsr : SlR m1 2 av (arms.flatMap Arm.cells) arms.length := ha.keep fun b hbb => by rw [hT.o.2 b (hav b hbb), h.o.2 b (hav b hbb)]
      obtain ⟨bi, bo, L, hvv, hL, hLl, hLt, -⟩ := hsr.at hjl
      rw [flat_at arm_len2 arms (List.getElem?_eq_getElem hjl)] at hLt
      obtain ⟨a, hx⟩ : ∃ a, arms[j] = a := ⟨_, rfl⟩
      rw [hx] at hLt
      have hLt : (L.drop (bo + j * 2)).take 2 = [.string ⟨⟨a.pat⟩⟩, .string ⟨⟨a.to⟩⟩] := hLt
      rw [hvv] at t65
      have hle : bo + j * 2 + 2 ≤ L.length := by omega
      have hjw : IntKind.i64.wrap ((j : Int) + 1) = ((j + 1 : Nat) : Int) := by rw [w64 (by omega)]; omega
      obtain ⟨M, hM⟩ : ∃ M, (m1.push (.own [.string ⟨#[]⟩, .string ⟨#[]⟩] 49)).set m1.next (.own (putAt [.string ⟨#[]⟩, .string ⟨#[]⟩] 0 [.string ⟨⟨a.pat⟩⟩, .string ⟨⟨a.to⟩⟩]) 49) = M := ⟨_, rfl⟩
      have oM : Old m1 M := by subst hM; exact ((Old.refl m1).push _).set (Nat.le_refl _) _
      have gM : M.get m1.next = .own [.string ⟨⟨a.pat⟩⟩, .string ⟨⟨a.to⟩⟩] 49 := by subst hM; rw [Mem.set_same]; rfl
      have nM : m1.next < M.next := by subst hM; simp
      simp -implicitDefEqProofs (disch := first | assumption | (simp only [wnA]; done) | (simp only [wnA]; omega) | omega | fail) [hjl, rc32_4, wkA, retV, stabOk, dC, ev, fillD, pickCells, putAt, bnd, slD, List.getElem?_cons_zero, List.getElem?_cons_succ, dR.eq_20, Mem.cell, Mem.row, wmA, t65, t67, sidx_at, hL, hLt, hle]
      refine SK_stm (i := m1.next) (o := 0) (vs := [.string ⟨⟨a.pat⟩⟩, .string ⟨⟨a.to⟩⟩]) (cs := [.string ⟨#[]⟩, .string ⟨#[]⟩]) (e := 49) (M := M) (by simp [wkA, retV, stabOk, dC, ev, fillD, pickCells, putAt, bnd, slD, List.getElem?_cons_zero, List.getElem?_cons_succ, dR.eq_20]) (by simp -implicitDefEqProofs (disch := first | assumption | (simp only [wnA]; done) | (simp only [wnA]; omega) | omega | fail) [wkA, retV, stabOk, dC, ev, fillD, pickCells, putAt, bnd, slD, List.getElem?_cons_zero, List.getElem?_cons_succ, dR.eq_20, Mem.cell, Mem.row, wmA]) (by simp [wkA, retV, stabOk, dC, ev, fillD, pickCells, putAt, bnd, slD, List.getElem?_cons_zero, List.getElem?_cons_succ, dR.eq_20]) (by simp) rfl rfl hM ?_
      clear hM
      have hTM := hT.old oM
      have htk : arms.take (j + 1) = arms.take j ++ [a] := by rw [List.take_succ_eq_append_getElem hjl, hx]
      have last : ∀ (fr' : Fr) (M' : Mem) (oa2 ob2 : Option Nat), T2 base M' oa2 ob2 ((t0 ++ (arms.take j).map Arm.to) ++ [a.to]) ((arms.take j).map Arm.pat ++ [a.pat]) → (∀ i ∈ [0, 4, 5, 23, 24, 25], fr' i = ts i) → fr' 6 = slV oa2 (t0.length + (j + 1)) 1 → fr' 7 = slV ob2 (j + 1) 1 → fr' 65 = ts 65 → fr' 66 = ts 66 → fr' 67 = .int .i64 ((j + 1 : Nat) : Int) → K fr' M' := fun fr' M' oa2 ob2 h2 es e6 e7 e65 e66 e67 =>
        hK (k - 1) _ _ (by omega) ⟨j + 1, oa2, ob2, by omega, by rw [htk]; simpa using h2, fun i hi => (es i hi).trans (sm i hi), e6, e7, by rw [e65, t65, hvv], by rw [e66, t66], e67⟩
      have la : (t0 ++ (arms.take j).map Arm.to).length = t0.length + j := by simp; omega
      have lb : ((arms.take j).map Arm.pat).length = j := by simp; omega
      obtain ⟨A, hA⟩ : ∃ A, t0 ++ (arms.take j).map Arm.to = A := ⟨_, rfl⟩
      obtain ⟨B, hB⟩ : ∃ B, (arms.take j).map Arm.pat = B := ⟨_, rfl⟩
      rw [hA] at hTM last la
      rw [hB] at hTM last lb
      simp -implicitDefEqProofs (disch := first | assumption | (simp only [wnA]; done) | (simp only [wnA]; omega) | omega | fail) [wkA, retV, stabOk, dC, ev, fillD, pickCells, putAt, bnd, slD, List.getElem?_cons_zero, List.getElem?_cons_succ, dR.eq_20, Mem.cell, Mem.row, wmA]
      refine AbW_sem_of ?_
      simp -implicitDefEqProofs (disch := first | assumption | (simp only [wnA]; done) | (simp only [wnA]; omega) | omega | fail) [wkA, retV, stabOk, dC, ev, fillD, pickCells, putAt, bnd, slD, List.getElem?_cons_zero, List.getElem?_cons_succ, dR.eq_20, Mem.cell, Mem.row, wmA, gM, t6, t7, rc32_2]
      have oldA : ∀ i, oa' = some i → i < m1.next := fun i hi => by subst hi; exact hT.sa.lt
      have oldB : ∀ i, ob' = some i → i < m1.next := fun i hi => by subst hi; exact hT.sb.lt
      constructor
      · rw [SK_bsl (cs := [.string ⟨⟨a.to⟩⟩]) (by simp [wkA, retV, stabOk, dC, ev, fillD, pickCells, putAt, bnd, slD, List.getElem?_cons_zero, List.getElem?_cons_succ, dR.eq_20]) (by simp)]
        obtain ⟨P1, hP1⟩ : ∃ X, M.push (.own [.string ⟨⟨a.to⟩⟩] 9) = X := ⟨_, rfl⟩
        have oP1 : Old M P1 := by subst hP1; exact (Old.refl _).push _
        have bP1 : P1.get M.next = .own [.string ⟨⟨a.to⟩⟩] 9 := by subst hP1; rw [Mem.push_same]
        have lP1 : M.next < P1.next := by subst hP1; simp
        have TP1 := hTM.old oP1
        have gP1 := (oP1.2 _ nM).trans gM
        have nP1 : m1.next < P1.next := Nat.lt_of_lt_of_le nM oP1.1
        rw [hP1]
        simp -implicitDefEqProofs (disch := first | assumption | (simp only [wnA]; done) | (simp only [wnA]; omega) | omega | fail) [wkA, retV, stabOk, dC, ev, fillD, pickCells, putAt, bnd, slD, List.getElem?_cons_zero, List.getElem?_cons_succ, dR.eq_20, Mem.cell, Mem.row, wmA, gP1]
        constructor
        · simp -implicitDefEqProofs (disch := first | assumption | (simp only [wnA]; done) | (simp only [wnA]; omega) | omega | fail) [rc32_0, wkA, retV, stabOk, dC, ev, fillD, pickCells, putAt, bnd, slD, List.getElem?_cons_zero, List.getElem?_cons_succ, dR.eq_20, Mem.cell, Mem.row, wmA, gP1]
          refine SK_ap (ob := oa') (n := (t0.length + j)) (k := 1) (cs := A.map strV) (ys := [strV a.to]) (by rw [← la]; exact TP1.sa) (by simp [wkA, retV, stabOk, dC, ev, fillD, pickCells, putAt, bnd, slD, List.getElem?_cons_zero, List.getElem?_cons_succ, dR.eq_20]) (by simp -implicitDefEqProofs (disch := first | assumption | (simp only [wnA]; done) | (simp only [wnA]; omega) | omega | fail) [wkA, retV, stabOk, dC, ev, fillD, pickCells, putAt, bnd, slD, List.getElem?_cons_zero, List.getElem?_cons_succ, dR.eq_20, elemsV, Mem.cell, Mem.row, wmA, bP1, strV]) (by simp [wkA, retV, stabOk, dC, ev, fillD, pickCells, putAt, bnd, slD, List.getElem?_cons_zero, List.getElem?_cons_succ, dR.eq_20]) (by omega) rfl (by omega) (by simp only [maxLen]; omega) rfl ?_
          obtain ⟨P2, hP2⟩ : ∃ X, (P1.kill oa').push (.own (A.map strV ++ [strV a.to]) 9) = X := ⟨_, rfl⟩
          have TP2 := TP1.appA a.to
          rw [hP2] at TP2
          have kP2 : ∀ i, i < P1.next → oa' ≠ some i → P2.get i = P1.get i := fun i hi hne => by subst hP2; rw [Mem.push_old _ _ (by rw [Mem.kill_nxt]; exact hi), Mem.kill_other _ hne]
          have zP2 : P1.next < P2.next := by subst hP2; simp [Mem.kill_nxt]
          have gP2 : P2.get m1.next = _ := (kP2 _ nP1 (by intro e; have := oldA _ e; omega)).trans gP1
          have nP2 : m1.next < P2.next := Nat.lt_trans nP1 zP2
          rw [hP2]
          clear hP2
          simp -implicitDefEqProofs (disch := first | assumption | (simp only [wnA]; done) | (simp only [wnA]; omega) | omega | fail) [wkA, retV, stabOk, dC, ev, fillD, pickCells, putAt, bnd, slD, List.getElem?_cons_zero, List.getElem?_cons_succ, dR.eq_20, Mem.cell, Mem.row, wmA, gP2, t67, hjw]
          rw [SK_bsl (cs := [.string ⟨⟨a.pat⟩⟩]) (by simp [wkA, retV, stabOk, dC, ev, fillD, pickCells, putAt, bnd, slD, List.getElem?_cons_zero, List.getElem?_cons_succ, dR.eq_20]) (by simp)]
          obtain ⟨P3, hP3⟩ : ∃ X, P2.push (.own [.string ⟨⟨a.pat⟩⟩] 9) = X := ⟨_, rfl⟩
          have oP3 : Old P2 P3 := by subst hP3; exact (Old.refl _).push _
          have bP3 : P3.get P2.next = .own [.string ⟨⟨a.pat⟩⟩] 9 := by subst hP3; rw [Mem.push_same]
          have lP3 : P2.next < P3.next := by subst hP3; simp
          have TP3 := TP2.old oP3
          have gP3 := (oP3.2 _ nP2).trans gP2
          have nP3 : m1.next < P3.next := Nat.lt_of_lt_of_le nP2 oP3.1
          rw [hP3]
          simp -implicitDefEqProofs (disch := first | assumption | (simp only [wnA]; done) | (simp only [wnA]; omega) | omega | fail) [wkA, retV, stabOk, dC, ev, fillD, pickCells, putAt, bnd, slD, List.getElem?_cons_zero, List.getElem?_cons_succ, dR.eq_20, Mem.cell, Mem.row, wmA, gP3]
          refine SK_ap (ob := ob') (n := j) (k := 1) (cs := B.map strV) (ys := [strV a.pat]) (by rw [← lb]; exact TP3.sb) (by simp [wkA, retV, stabOk, dC, ev, fillD, pickCells, putAt, bnd, slD, List.getElem?_cons_zero, List.getElem?_cons_succ, dR.eq_20]) (by simp -implicitDefEqProofs (disch := first | assumption | (simp only [wnA]; done) | (simp only [wnA]; omega) | omega | fail) [wkA, retV, stabOk, dC, ev, fillD, pickCells, putAt, bnd, slD, List.getElem?_cons_zero, List.getElem?_cons_succ, dR.eq_20, elemsV, Mem.cell, Mem.row, wmA, bP3, strV]) (by simp [wkA, retV, stabOk, dC, ev, fillD, pickCells, putAt, bnd, slD, List.getElem?_cons_zero, List.getElem?_cons_succ, dR.eq_20]) (by omega) rfl (by omega) (by simp only [maxLen]; omega) rfl ?_
          obtain ⟨P4, hP4⟩ : ∃ X, (P3.kill ob').push (.own (B.map strV ++ [strV a.pat]) 9) = X := ⟨_, rfl⟩
          have TP4 := TP3.appB a.pat
          rw [hP4] at TP4
          have kP4 : ∀ i, i < P3.next → ob' ≠ some i → P4.get i = P3.get i := fun i hi hne => by subst hP4; rw [Mem.push_old _ _ (by rw [Mem.kill_nxt]; exact hi), Mem.kill_other _ hne]
          have zP4 : P3.next < P4.next := by subst hP4; simp [Mem.kill_nxt]
          have gP4 : P4.get m1.next = _ := (kP4 _ nP3 (by intro e; have := oldB _ e; omega)).trans gP3
          have nP4 : m1.next < P4.next := Nat.lt_trans nP3 zP4
          rw [hP4]
          clear hP4
          simp -implicitDefEqProofs (disch := first | assumption | (simp only [wnA]; done) | (simp only [wnA]; omega) | omega | fail) [wkA, retV, stabOk, dC, ev, fillD, pickCells, putAt, bnd, slD, List.getElem?_cons_zero, List.getElem?_cons_succ, dR.eq_20, Mem.cell, Mem.row, wmA, gP4, t67, hjw]
          refine last _ _ _ _ TP4 (fun i hi => ?_) (by simp [Nat.add_assoc]) (by simp) (by simp) (by simp) (by simp)
          simp only [List.mem_cons, List.not_mem_nil, or_false] at hi
          rcases hi with rfl | rfl | rfl | rfl | rfl | rfl <;> simp
        · simp -implicitDefEqProofs (disch := first | assumption | (simp only [wnA]; done) | (simp only [wnA]; omega) | omega | fail) [rc32_1, wkA, retV, stabOk, dC, ev, fillD, pickCells, putAt, bnd, slD, List.getElem?_cons_zero, List.getElem?_cons_succ, dR.eq_20, Mem.cell, Mem.row, wmA, gP1]
          rw [SK_bsl (cs := [.string ⟨⟨a.pat⟩⟩]) (by simp [wkA, retV, stabOk, dC, ev, fillD, pickCells, putAt, bnd, slD, List.getElem?_cons_zero, List.getElem?_cons_succ, dR.eq_20]) (by simp)]
          obtain ⟨P2, hP2⟩ : ∃ X, P1.push (.own [.string ⟨⟨a.pat⟩⟩] 9) = X := ⟨_, rfl⟩
          have oP2 : Old P1 P2 := by subst hP2; exact (Old.refl _).push _
          have bP2 : P2.get P1.next = .own [.string ⟨⟨a.pat⟩⟩] 9 := by subst hP2; rw [Mem.push_same]
          have lP2 : P1.next < P2.next := by subst hP2; simp
          have TP2 := TP1.old oP2
          have gP2 := (oP2.2 _ nP1).trans gP1
          have nP2 : m1.next < P2.next := Nat.lt_of_lt_of_le nP1 oP2.1
          have ctoP2 := (oP2.2 _ lP1).trans bP1
          have mtoP2 := Nat.lt_of_lt_of_le lP1 oP2.1
          rw [hP2]
          simp -implicitDefEqProofs (disch := first | assumption | (simp only [wnA]; done) | (simp only [wnA]; omega) | omega | fail) [wkA, retV, stabOk, dC, ev, fillD, pickCells, putAt, bnd, slD, List.getElem?_cons_zero, List.getElem?_cons_succ, dR.eq_20, Mem.cell, Mem.row, wmA, gP2]
          refine SK_ap (ob := oa') (n := (t0.length + j)) (k := 1) (cs := A.map strV) (ys := [strV a.to]) (by rw [← la]; exact TP2.sa) (by simp [wkA, retV, stabOk, dC, ev, fillD, pickCells, putAt, bnd, slD, List.getElem?_cons_zero, List.getElem?_cons_succ, dR.eq_20]) (by simp -implicitDefEqProofs (disch := first | assumption | (simp only [wnA]; done) | (simp only [wnA]; omega) | omega | fail) [wkA, retV, stabOk, dC, ev, fillD, pickCells, putAt, bnd, slD, List.getElem?_cons_zero, List.getElem?_cons_succ, dR.eq_20, elemsV, Mem.cell, Mem.row, wmA, ctoP2, strV]) (by simp [wkA, retV, stabOk, dC, ev, fillD, pickCells, putAt, bnd, slD, List.getElem?_cons_zero, List.getElem?_cons_succ, dR.eq_20]) (by omega) rfl (by omega) (by simp only [maxLen]; omega) rfl ?_
          obtain ⟨P3, hP3⟩ : ∃ X, (P2.kill oa').push (.own (A.map strV ++ [strV a.to]) 9) = X := ⟨_, rfl⟩
          have TP3 := TP2.appA a.to
          rw [hP3] at TP3
          have kP3 : ∀ i, i < P2.next → oa' ≠ some i → P3.get i = P2.get i := fun i hi hne => by subst hP3; rw [Mem.push_old _ _ (by rw [Mem.kill_nxt]; exact hi), Mem.kill_other _ hne]
          have zP3 : P2.next < P3.next := by subst hP3; simp [Mem.kill_nxt]
          have gP3 : P3.get m1.next = _ := (kP3 _ nP2 (by intro e; have := oldA _ e; omega)).trans gP2
          have nP3 : m1.next < P3.next := Nat.lt_trans nP2 zP3
          have cpatP3 : P3.get P1.next = _ := (kP3 _ lP2 (by intro e; have := oldA _ e; omega)).trans bP2
          have mpatP3 := Nat.lt_trans lP2 zP3
          rw [hP3]
          clear hP3
          simp -implicitDefEqProofs (disch := first | assumption | (simp only [wnA]; done) | (simp only [wnA]; omega) | omega | fail) [wkA, retV, stabOk, dC, ev, fillD, pickCells, putAt, bnd, slD, List.getElem?_cons_zero, List.getElem?_cons_succ, dR.eq_20, Mem.cell, Mem.row, wmA, gP3, t67, hjw]
          refine SK_ap (ob := ob') (n := j) (k := 1) (cs := B.map strV) (ys := [strV a.pat]) (by rw [← lb]; exact TP3.sb) (by simp [wkA, retV, stabOk, dC, ev, fillD, pickCells, putAt, bnd, slD, List.getElem?_cons_zero, List.getElem?_cons_succ, dR.eq_20]) (by simp -implicitDefEqProofs (disch := first | assumption | (simp only [wnA]; done) | (simp only [wnA]; omega) | omega | fail) [wkA, retV, stabOk, dC, ev, fillD, pickCells, putAt, bnd, slD, List.getElem?_cons_zero, List.getElem?_cons_succ, dR.eq_20, elemsV, Mem.cell, Mem.row, wmA, cpatP3, strV]) (by simp [wkA, retV, stabOk, dC, ev, fillD, pickCells, putAt, bnd, slD, List.getElem?_cons_zero, List.getElem?_cons_succ, dR.eq_20]) (by omega) rfl (by omega) (by simp only [maxLen]; omega) rfl ?_
          obtain ⟨P4, hP4⟩ : ∃ X, (P3.kill ob').push (.own (B.map strV ++ [strV a.pat]) 9) = X := ⟨_, rfl⟩
          have TP4 := TP3.appB a.pat
          rw [hP4] at TP4
          have kP4 : ∀ i, i < P3.next → ob' ≠ some i → P4.get i = P3.get i := fun i hi hne => by subst hP4; rw [Mem.push_old _ _ (by rw [Mem.kill_nxt]; exact hi), Mem.kill_other _ hne]
          have zP4 : P3.next < P4.next := by subst hP4; simp [Mem.kill_nxt]
          have gP4 : P4.get m1.next = _ := (kP4 _ nP3 (by intro e; have := oldB _ e; omega)).trans gP3
          have nP4 : m1.next < P4.next := Nat.lt_trans nP3 zP4
          rw [hP4]
          clear hP4
          simp -implicitDefEqProofs (disch := first | assumption | (simp only [wnA]; done) | (simp only [wnA]; omega) | omega | fail) [wkA, retV, stabOk, dC, ev, fillD, pickCells, putAt, bnd, slD, List.getElem?_cons_zero, List.getElem?_cons_succ, dR.eq_20, Mem.cell, Mem.row, wmA, gP4, t67, hjw]
          refine last _ _ _ _ TP4 (fun i hi => ?_) (by simp [Nat.add_assoc]) (by simp) (by simp) (by simp) (by simp)
          simp only [List.mem_cons, List.not_mem_nil, or_false] at hi
          rcases hi with rfl | rfl | rfl | rfl | rfl | rfl <;> simp
      · simp -implicitDefEqProofs (disch := first | assumption | (simp only [wnA]; done) | (simp only [wnA]; omega) | omega | fail) [rc32_3, wkA, retV, stabOk, dC, ev, fillD, pickCells, putAt, bnd, slD, List.getElem?_cons_zero, List.getElem?_cons_succ, dR.eq_20, Mem.cell, Mem.row, wmA, gM]
        rw [SK_bsl (cs := [.string ⟨⟨a.pat⟩⟩]) (by simp [wkA, retV, stabOk, dC, ev, fillD, pickCells, putAt, bnd, slD, List.getElem?_cons_zero, List.getElem?_cons_succ, dR.eq_20]) (by simp)]
        obtain ⟨R1, hR1⟩ : ∃ X, M.push (.own [.string ⟨⟨a.pat⟩⟩] 9) = X := ⟨_, rfl⟩
        have oR1 : Old M R1 := by subst hR1; exact (Old.refl _).push _
        have bR1 : R1.get M.next = .own [.string ⟨⟨a.pat⟩⟩] 9 := by subst hR1; rw [Mem.push_same]
        have lR1 : M.next < R1.next := by subst hR1; simp
        have TR1 := hTM.old oR1
        have gR1 := (oR1.2 _ nM).trans gM
        have nR1 : m1.next < R1.next := Nat.lt_of_lt_of_le nM oR1.1
        rw [hR1]
        simp -implicitDefEqProofs (disch := first | assumption | (simp only [wnA]; done) | (simp only [wnA]; omega) | omega | fail) [wkA, retV, stabOk, dC, ev, fillD, pickCells, putAt, bnd, slD, List.getElem?_cons_zero, List.getElem?_cons_succ, dR.eq_20, Mem.cell, Mem.row, wmA, gR1]
        rw [SK_bsl (cs := [.string ⟨⟨a.to⟩⟩]) (by simp [wkA, retV, stabOk, dC, ev, fillD, pickCells, putAt, bnd, slD, List.getElem?_cons_zero, List.getElem?_cons_succ, dR.eq_20]) (by simp)]
        obtain ⟨R2, hR2⟩ : ∃ X, R1.push (.own [.string ⟨⟨a.to⟩⟩] 9) = X := ⟨_, rfl⟩
        have oR2 : Old R1 R2 := by subst hR2; exact (Old.refl _).push _
        have bR2 : R2.get R1.next = .own [.string ⟨⟨a.to⟩⟩] 9 := by subst hR2; rw [Mem.push_same]
        have lR2 : R1.next < R2.next := by subst hR2; simp
        have TR2 := TR1.old oR2
        have gR2 := (oR2.2 _ nR1).trans gR1
        have nR2 : m1.next < R2.next := Nat.lt_of_lt_of_le nR1 oR2.1
        have cpatR2 := (oR2.2 _ lR1).trans bR1
        have mpatR2 := Nat.lt_of_lt_of_le lR1 oR2.1
        rw [hR2]
        simp -implicitDefEqProofs (disch := first | assumption | (simp only [wnA]; done) | (simp only [wnA]; omega) | omega | fail) [wkA, retV, stabOk, dC, ev, fillD, pickCells, putAt, bnd, slD, List.getElem?_cons_zero, List.getElem?_cons_succ, dR.eq_20, Mem.cell, Mem.row, wmA, gR2]
        refine SK_ap (ob := oa') (n := (t0.length + j)) (k := 1) (cs := A.map strV) (ys := [strV a.to]) (by rw [← la]; exact TR2.sa) (by simp [wkA, retV, stabOk, dC, ev, fillD, pickCells, putAt, bnd, slD, List.getElem?_cons_zero, List.getElem?_cons_succ, dR.eq_20]) (by simp -implicitDefEqProofs (disch := first | assumption | (simp only [wnA]; done) | (simp only [wnA]; omega) | omega | fail) [wkA, retV, stabOk, dC, ev, fillD, pickCells, putAt, bnd, slD, List.getElem?_cons_zero, List.getElem?_cons_succ, dR.eq_20, elemsV, Mem.cell, Mem.row, wmA, bR2, strV]) (by simp [wkA, retV, stabOk, dC, ev, fillD, pickCells, putAt, bnd, slD, List.getElem?_cons_zero, List.getElem?_cons_succ, dR.eq_20]) (by omega) rfl (by omega) (by simp only [maxLen]; omega) rfl ?_
        obtain ⟨R3, hR3⟩ : ∃ X, (R2.kill oa').push (.own (A.map strV ++ [strV a.to]) 9) = X := ⟨_, rfl⟩
        have TR3 := TR2.appA a.to
        rw [hR3] at TR3
        have kR3 : ∀ i, i < R2.next → oa' ≠ some i → R3.get i = R2.get i := fun i hi hne => by subst hR3; rw [Mem.push_old _ _ (by rw [Mem.kill_nxt]; exact hi), Mem.kill_other _ hne]
        have zR3 : R2.next < R3.next := by subst hR3; simp [Mem.kill_nxt]
        have gR3 : R3.get m1.next = _ := (kR3 _ nR2 (by intro e; have := oldA _ e; omega)).trans gR2
        have nR3 : m1.next < R3.next := Nat.lt_trans nR2 zR3
        have cpatR3 : R3.get M.next = _ := (kR3 _ mpatR2 (by intro e; have := oldA _ e; omega)).trans cpatR2
        have mpatR3 := Nat.lt_trans mpatR2 zR3
        rw [hR3]
        clear hR3
        simp -implicitDefEqProofs (disch := first | assumption | (simp only [wnA]; done) | (simp only [wnA]; omega) | omega | fail) [wkA, retV, stabOk, dC, ev, fillD, pickCells, putAt, bnd, slD, List.getElem?_cons_zero, List.getElem?_cons_succ, dR.eq_20, Mem.cell, Mem.row, wmA, gR3, t67, hjw]
        refine SK_ap (ob := ob') (n := j) (k := 1) (cs := B.map strV) (ys := [strV a.pat]) (by rw [← lb]; exact TR3.sb) (by simp [wkA, retV, stabOk, dC, ev, fillD, pickCells, putAt, bnd, slD, List.getElem?_cons_zero, List.getElem?_cons_succ, dR.eq_20]) (by simp -implicitDefEqProofs (disch := first | assumption | (simp only [wnA]; done) | (simp only [wnA]; omega) | omega | fail) [wkA, retV, stabOk, dC, ev, fillD, pickCells, putAt, bnd, slD, List.getElem?_cons_zero, List.getElem?_cons_succ, dR.eq_20, elemsV, Mem.cell, Mem.row, wmA, cpatR3, strV]) (by simp [wkA, retV, stabOk, dC, ev, fillD, pickCells, putAt, bnd, slD, List.getElem?_cons_zero, List.getElem?_cons_succ, dR.eq_20]) (by omega) rfl (by omega) (by simp only [maxLen]; omega) rfl ?_
        obtain ⟨R4, hR4⟩ : ∃ X, (R3.kill ob').push (.own (B.map strV ++ [strV a.pat]) 9) = X := ⟨_, rfl⟩
        have TR4 := TR3.appB a.pat
        rw [hR4] at TR4
        have kR4 : ∀ i, i < R3.next → ob' ≠ some i → R4.get i = R3.get i := fun i hi hne => by subst hR4; rw [Mem.push_old _ _ (by rw [Mem.kill_nxt]; exact hi), Mem.kill_other _ hne]
        have zR4 : R3.next < R4.next := by subst hR4; simp [Mem.kill_nxt]
        have gR4 : R4.get m1.next = _ := (kR4 _ nR3 (by intro e; have := oldB _ e; omega)).trans gR3
        have nR4 : m1.next < R4.next := Nat.lt_trans nR3 zR4
        rw [hR4]
        clear hR4
        simp -implicitDefEqProofs (disch := first | assumption | (simp only [wnA]; done) | (simp only [wnA]; omega) | omega | fail) [wkA, retV, stabOk, dC, ev, fillD, pickCells, putAt, bnd, slD, List.getElem?_cons_zero, List.getElem?_cons_succ, dR.eq_20, Mem.cell, Mem.row, wmA, gR4, t67, hjw]
        refine last _ _ _ _ TR4 (fun i hi => ?_) (by simp [Nat.add_assoc]) (by simp) (by simp) (by simp) (by simp)
        simp only [List.mem_cons, List.not_mem_nil, or_false] at hi
        rcases hi with rfl | rfl | rfl | rfl | rfl | rfl <;> simp
    · have hjj : j = arms.length := by omega
      subst hjj
      rw [List.take_length] at hT
      simp -implicitDefEqProofs (disch := first | assumption | (simp only [wnA]; done) | (simp only [wnA]; omega) | omega | fail) [hjl, wkA, retV, stabOk, dC, ev, fillD, pickCells, putAt, bnd, slD, List.getElem?_cons_zero, List.getElem?_cons_succ, dR.eq_20, Mem.cell, Mem.row, wmA]
      exact hq _ m1 oa' ob' hT.o hT (by simp [t6]) (by simp [t7]) fun i hi => by
        have := sm i hi
        simp only [List.mem_cons, List.not_mem_nil, or_false] at hi
        rcases hi with rfl | rfl | rfl | rfl | rfl | rfl <;> simp [this]
end Go.Proofs.YtjlicambfepfiaaGreatDoor.Ab

set_option linter.unusedVariables false
set_option linter.unusedSimpArgs false
namespace Go.Proofs.YtjlicambfepfiaaGreatDoor.Ab
open Go Go.RowKit
set_option maxHeartbeats 4000000
set_option maxRecDepth 100000
/-- One step's labels are all there. -/
def chk1 (l : List DV) (k : Nat) (x : DS) : Prop := (x.lb ≠ [] → findN x.lb l 0 = k) ∧ ((x.kd = 1 ∨ x.kd = 2 ∨ x.kd = 3) → 0 ≤ findN x.to l 0) ∧ (x.kd = 1 → ∀ a ∈ x.arms, 0 ≤ findN a.to l 0)
/-- Nothing is wrong of a dialogue's labels. -/
def chkOk (l : List DV) : Prop := (0 < l.length ∧ l.length ≤ 64) ∧ ∀ k x, l[k]? = some x → chk1 l k x.1
/-- The labels that a step names, in order. -/
def tosOf (x : DS) : List (List UInt8) := if x.kd = 1 then x.to :: x.arms.map Arm.to else if x.kd = 2 ∨ x.kd = 3 then [x.to] else []
theorem chk1_of {l : List DV} {k : Nat} {x : DS} (h1 : x.lb ≠ [] → findN x.lb l 0 = k) (h2 : ∀ t ∈ tosOf x, 0 ≤ findN t l 0) : chk1 l k x := by
  refine ⟨h1, fun h => h2 _ ?_, fun h a ha => h2 _ ?_⟩
  · unfold tosOf
    rcases h with h | h | h
    · rw [if_pos h]; simp
    · rw [if_neg (by omega), if_pos (.inl h)]; simp
    · rw [if_neg (by omega), if_pos (.inr h)]; simp
  · unfold tosOf
    rw [if_pos h]
    exact List.mem_cons_of_mem _ (List.mem_map.2 ⟨a, ha, rfl⟩)
theorem chk1_not {l : List DV} {k : Nat} {x : DS} {t : List UInt8} (ht : t ∈ tosOf x) (h : findN t l 0 < 0) : ¬ chk1 l k x := fun hc => by
  unfold tosOf at ht
  by_cases h1 : x.kd = 1
  · rw [if_pos h1] at ht
    rcases List.mem_cons.1 ht with rfl | ht
    · have := hc.2.1 (.inl h1); omega
    · obtain ⟨a, ha, rfl⟩ := List.mem_map.1 ht
      have := hc.2.2 h1 a ha; omega
  · rw [if_neg h1] at ht
    by_cases h2 : x.kd = 2 ∨ x.kd = 3
    · rw [if_pos h2, List.mem_singleton] at ht
      subst ht
      have := hc.2.1 (.inr h2); omega
    · rw [if_neg h2] at ht; cases ht
theorem T2.nil (m : Mem) : T2 m m none none [] [] := ⟨Old.refl m, ⟨rfl, rfl⟩, ⟨rfl, rfl⟩, (fun i hi => by cases hi), (fun i hi => by cases hi), fun i hi => by cases hi⟩
theorem w_chk {w0 : World} {Q' : AQ} {fr : Fr} {m : Mem} {v : Value} {l : List DV} {G : List (List UInt8) → Prop} {P : List (List UInt8) → List (Tab × List Bool) → Prop} {i5 : Nat} {x : DV} (hp : Part L0 m) (hv : DsV m v l) (hl : l.length ≤ 1000000) (hA : ArmV m x) (hsz : x.1.arms.length ≤ 1000) (hof : x.1.kd = 1 → OfC w0 (pats x.1) (G (pats x.1)) (P (pats x.1)))
    (gx : m.get i5 = .own (vC x) 29) (n5 : i5 < m.next) (f0 : fr 0 = v) (f5 : fr 5 = .pointer (some ⟨i5, 0, none⟩))
    (hq : (∀ t ∈ tosOf x.1, 0 ≤ findN t l 0) → ∀ fr' m', Old m m' → (∀ i ∈ [0, 23, 24, 25], fr' i = fr i) → Q' .normal fr' m')
    (he : (∃ t ∈ tosOf x.1, findN t l 0 < 0) ∨ (x.1.kd = 1 ∧ ¬ G (pats x.1)) → ∀ fr' m' t u, Old m m' → fr' 3 = .iface t u → Q' .ret fr' m') : AbW Tryz.prog w0 rc32_11 Q' fr m := by
  have hA0 := hA
  obtain ⟨⟨lb, kd, tx, arms, n, to, pl⟩, av⟩ := x
  have gx : m.get i5 = .own [.string ⟨⟨lb⟩⟩, .int .i64 kd, .string ⟨⟨tx⟩⟩, av, .int .i64 n, .string ⟨⟨to⟩⟩, .int .i64 pl] 29 := gx
  simp only at hsz hof hq he hA
  have app1 : ∀ (fr1 : Fr), True := fun _ => trivial
  obtain ⟨M1, hM1⟩ : ∃ M1, m.push (.own [.string ⟨⟨to⟩⟩] 9) = M1 := ⟨_, rfl⟩
  have o1 : Old m M1 := by subst hM1; exact (Old.refl m).push _
  have g1 : M1.get m.next = .own [.string ⟨⟨to⟩⟩] 9 := by subst hM1; rw [Mem.push_same]
  have hT1 := ((T2.nil m).old o1).appA to
  obtain ⟨M2, hM2⟩ : ∃ M2, (M1.kill none).push (.own (([] : List (List UInt8)).map strV ++ [strV to]) 9) = M2 := ⟨_, rfl⟩
  rw [hM2] at hT1
  have o2 : Old m M2 := hT1.o
  have gx2 := (o2.2 _ n5).trans gx
  have tos1 : ∀ (fr' : Fr), fr' 0 = v → fr' 6 = slV (some M1.next) 1 1 → (∀ i ∈ [0, 23, 24, 25], fr' i = fr i) → tosOf ⟨lb, kd, tx, arms, n, to, pl⟩ = [to] → AbW Tryz.prog w0 rc32_9 Q' fr' M2 := fun fr' e0 e6 es ht =>
    w_tos (ts0 := [to]) (hv.old o2) hl hT1.sa (by simp) e0 e6 (fun hall fr2 m2 oo ee => hq (by rw [ht]; exact hall) fr2 m2 (o2.trans oo) fun i hi => (ee i (by simp only [List.mem_cons, List.not_mem_nil, or_false] at hi ⊢; omega)).trans (es i hi)) (fun hex fr2 m2 u oo _ e3 => he (.inl (by rw [ht]; exact hex)) fr2 m2 _ u (o2.trans oo) e3)
  by_cases h1 : kd = 1
  · subst h1
    have hsla := (hA.old o2).sl.slen
    have hsla' : slen av = some (.int .i64 (arms.length : Nat)) := hsla
    simp -implicitDefEqProofs (disch := first | assumption | (simp only [wnA]; done) | (simp only [wnA]; omega) | omega | fail) [rc32_11, wkA, retV, stabOk, dC, ev, fillD, pickCells, putAt, bnd, slD, List.getElem?_cons_zero, List.getElem?_cons_succ, dR.eq_20, Mem.cell, Mem.row, wmA, f5, gx]
    rw [SK_bsl (cs := [.string ⟨⟨to⟩⟩]) (by simp [wkA, retV, stabOk, dC, ev, fillD, pickCells, putAt, bnd, slD, List.getElem?_cons_zero, List.getElem?_cons_succ, dR.eq_20]) (by simp)]
    rw [hM1]
    simp -implicitDefEqProofs (disch := first | assumption | (simp only [wnA]; done) | (simp only [wnA]; omega) | omega | fail) [wkA, retV, stabOk, dC, ev, fillD, pickCells, putAt, bnd, slD, List.getElem?_cons_zero, List.getElem?_cons_succ, dR.eq_20, Mem.cell, Mem.row, wmA]
    refine SK_ap (ob := none) (n := 0) (k := 1) (cs := ([] : List (List UInt8)).map strV) (ys := [.string ⟨⟨to⟩⟩]) ⟨rfl, rfl⟩ (by simp [wkA, retV, stabOk, dC, ev, fillD, pickCells, putAt, bnd, slD, List.getElem?_cons_zero, List.getElem?_cons_succ, dR.eq_20]; rfl) (by simp -implicitDefEqProofs (disch := first | assumption | (simp only [wnA]; done) | (simp only [wnA]; omega) | omega | fail) [wkA, retV, stabOk, dC, ev, fillD, pickCells, putAt, bnd, slD, List.getElem?_cons_zero, List.getElem?_cons_succ, dR.eq_20, elemsV, Mem.cell, Mem.row, wmA, g1]) (by simp [wkA, retV, stabOk, dC, ev, fillD, pickCells, putAt, bnd, slD, List.getElem?_cons_zero, List.getElem?_cons_succ, dR.eq_20]) (by omega) rfl (by omega) (by simp only [maxLen]; omega) rfl ?_
    have hM2' : (M1.kill none).push (.own (([] : List (List UInt8)).map strV ++ [.string ⟨⟨to⟩⟩]) 9) = M2 := hM2
    rw [hM2']
    simp -implicitDefEqProofs (disch := first | assumption | (simp only [wnA]; done) | (simp only [wnA]; omega) | omega | fail) [rc32_10, wkA, retV, stabOk, dC, ev, fillD, pickCells, putAt, bnd, slD, List.getElem?_cons_zero, List.getElem?_cons_succ, dR.eq_20, Mem.cell, Mem.row, wmA, f5, gx2, hsla']
    refine w_pto (t0 := [to]) (hA.old o2).sl (fun b hb => Nat.lt_of_lt_of_le (hA.bl b hb) o2.1) hsz hT1 (by simp) (by simp) (by simp) (by simp) (by simp) (by simp) ?_ (fun b hb => hA.bl b hb)
    intro fr3 m3 oa ob o3 hT3 e6 e7 es
    simp -implicitDefEqProofs (disch := first | assumption | (simp only [wnA]; done) | (simp only [wnA]; omega) | omega | fail) [rc32_6, wkA, retV, stabOk, dC, ev, fillD, pickCells, putAt, bnd, slD, List.getElem?_cons_zero, List.getElem?_cons_succ, dR.eq_20, Mem.cell, Mem.row, wmA, e7]
    have em : (arms.map Arm.pat).map (fun p => Value.string ⟨⟨p⟩⟩) = (arms.map Arm.pat).map strV := rfl
    have so' : SlO m3 9 1 ob ((arms.map Arm.pat).map fun p => Value.string ⟨⟨p⟩⟩) (arms.map Arm.pat).length := hT3.sb
    have hlp : arms.length = (arms.map Arm.pat).length := by rw [List.length_map]
    rw [hlp]
    have f0' := (es 0 (by simp)).trans (by simp [f0] : _ = v)
    refine hof rfl m3 ob _ (o3.part hp) so' (fun m4 w o4 _ _ _ _ _ _ => ?_) fun hG m4 e o4 hE => ?_
    · simp -implicitDefEqProofs (disch := first | assumption | (simp only [wnA]; done) | (simp only [wnA]; omega) | omega | fail) [wkA, retV, stabOk, dC, ev, fillD, pickCells, putAt, bnd, slD, List.getElem?_cons_zero, List.getElem?_cons_succ, dR.eq_20, Mem.cell, Mem.row, wmA]
      have hTos : tosOf ⟨lb, 1, tx, arms, n, to, pl⟩ = to :: arms.map Arm.to := by simp [tosOf]
      refine w_tos (ts0 := to :: arms.map Arm.to) (hv.old (o3.trans o4)) hl (hT3.old o4).sa (by simp; omega) (by simp [f0']) (by simp [e6]) (fun hall fr2 m2 oo ee => hq (by rw [hTos]; exact hall) fr2 m2 ((o3.trans o4).trans oo) fun i hi => ?_) (fun hex fr2 m2 u oo _ e3 => he (.inl (by rw [hTos]; exact hex)) fr2 m2 _ u ((o3.trans o4).trans oo) e3)
      have h1 := ee i (by simp only [List.mem_cons, List.not_mem_nil, or_false] at hi ⊢; omega)
      have h2 := es i (by simp only [List.mem_cons, List.not_mem_nil, or_false] at hi ⊢; omega)
      simp only [List.mem_cons, List.not_mem_nil, or_false] at hi
      rcases hi with rfl | rfl | rfl | rfl <;> (rw [h1]; simp [h2])
    · obtain ⟨t, u, rfl, hnum⟩ := hE
      simp -implicitDefEqProofs (disch := first | assumption | (simp only [wnA]; done) | (simp only [wnA]; omega) | omega | fail) [wkA, retV, stabOk, dC, ev, fillD, pickCells, putAt, bnd, slD, List.getElem?_cons_zero, List.getElem?_cons_succ, dR.eq_20, Mem.cell, Mem.row, wmA]
      refine hnum m4 _ ((o3.trans o4).part hp) fun m5 nn o5 => ?_
      simp -implicitDefEqProofs (disch := first | assumption | (simp only [wnA]; done) | (simp only [wnA]; omega) | omega | fail) [wkA, retV, stabOk, dC, ev, fillD, pickCells, putAt, bnd, slD, List.getElem?_cons_zero, List.getElem?_cons_succ, dR.eq_20, Mem.cell, Mem.row, wmA]
      exact he (.inr ⟨rfl, hG⟩) _ m5 _ _ ((o3.trans o4).trans o5) (by simp; exact ⟨rfl, rfl⟩)
  · by_cases h2 : kd = 2
    · subst h2
      simp -implicitDefEqProofs (disch := first | assumption | (simp only [wnA]; done) | (simp only [wnA]; omega) | omega | fail) [rc32_11, wkA, retV, stabOk, dC, ev, fillD, pickCells, putAt, bnd, slD, List.getElem?_cons_zero, List.getElem?_cons_succ, dR.eq_20, Mem.cell, Mem.row, wmA, f5, gx]
      rw [SK_bsl (cs := [.string ⟨⟨to⟩⟩]) (by simp [wkA, retV, stabOk, dC, ev, fillD, pickCells, putAt, bnd, slD, List.getElem?_cons_zero, List.getElem?_cons_succ, dR.eq_20]) (by simp)]
      rw [hM1]
      simp -implicitDefEqProofs (disch := first | assumption | (simp only [wnA]; done) | (simp only [wnA]; omega) | omega | fail) [wkA, retV, stabOk, dC, ev, fillD, pickCells, putAt, bnd, slD, List.getElem?_cons_zero, List.getElem?_cons_succ, dR.eq_20, Mem.cell, Mem.row, wmA]
      refine SK_ap (ob := none) (n := 0) (k := 1) (cs := ([] : List (List UInt8)).map strV) (ys := [.string ⟨⟨to⟩⟩]) ⟨rfl, rfl⟩ (by simp [wkA, retV, stabOk, dC, ev, fillD, pickCells, putAt, bnd, slD, List.getElem?_cons_zero, List.getElem?_cons_succ, dR.eq_20]; rfl) (by simp -implicitDefEqProofs (disch := first | assumption | (simp only [wnA]; done) | (simp only [wnA]; omega) | omega | fail) [wkA, retV, stabOk, dC, ev, fillD, pickCells, putAt, bnd, slD, List.getElem?_cons_zero, List.getElem?_cons_succ, dR.eq_20, elemsV, Mem.cell, Mem.row, wmA, g1]) (by simp [wkA, retV, stabOk, dC, ev, fillD, pickCells, putAt, bnd, slD, List.getElem?_cons_zero, List.getElem?_cons_succ, dR.eq_20]) (by omega) rfl (by omega) (by simp only [maxLen]; omega) rfl ?_
      have hM2' : (M1.kill none).push (.own (([] : List (List UInt8)).map strV ++ [.string ⟨⟨to⟩⟩]) 9) = M2 := hM2
      rw [hM2']
      simp -implicitDefEqProofs (disch := first | assumption | (simp only [wnA]; done) | (simp only [wnA]; omega) | omega | fail) [rc32_10, wkA, retV, stabOk, dC, ev, fillD, pickCells, putAt, bnd, slD, List.getElem?_cons_zero, List.getElem?_cons_succ, dR.eq_20, Mem.cell, Mem.row, wmA, f5, gx2]
      refine tos1 _ (by simp [f0]) (by simp) (fun i hi => ?_) (by simp [tosOf])
      simp only [List.mem_cons, List.not_mem_nil, or_false] at hi
      rcases hi with rfl | rfl | rfl | rfl <;> simp
    · by_cases h3 : kd = 3
      · subst h3
        simp -implicitDefEqProofs (disch := first | assumption | (simp only [wnA]; done) | (simp only [wnA]; omega) | omega | fail) [rc32_11, wkA, retV, stabOk, dC, ev, fillD, pickCells, putAt, bnd, slD, List.getElem?_cons_zero, List.getElem?_cons_succ, dR.eq_20, Mem.cell, Mem.row, wmA, f5, gx]
        rw [SK_bsl (cs := [.string ⟨⟨to⟩⟩]) (by simp [wkA, retV, stabOk, dC, ev, fillD, pickCells, putAt, bnd, slD, List.getElem?_cons_zero, List.getElem?_cons_succ, dR.eq_20]) (by simp)]
        rw [hM1]
        simp -implicitDefEqProofs (disch := first | assumption | (simp only [wnA]; done) | (simp only [wnA]; omega) | omega | fail) [wkA, retV, stabOk, dC, ev, fillD, pickCells, putAt, bnd, slD, List.getElem?_cons_zero, List.getElem?_cons_succ, dR.eq_20, Mem.cell, Mem.row, wmA]
        refine SK_ap (ob := none) (n := 0) (k := 1) (cs := ([] : List (List UInt8)).map strV) (ys := [.string ⟨⟨to⟩⟩]) ⟨rfl, rfl⟩ (by simp [wkA, retV, stabOk, dC, ev, fillD, pickCells, putAt, bnd, slD, List.getElem?_cons_zero, List.getElem?_cons_succ, dR.eq_20]; rfl) (by simp -implicitDefEqProofs (disch := first | assumption | (simp only [wnA]; done) | (simp only [wnA]; omega) | omega | fail) [wkA, retV, stabOk, dC, ev, fillD, pickCells, putAt, bnd, slD, List.getElem?_cons_zero, List.getElem?_cons_succ, dR.eq_20, elemsV, Mem.cell, Mem.row, wmA, g1]) (by simp [wkA, retV, stabOk, dC, ev, fillD, pickCells, putAt, bnd, slD, List.getElem?_cons_zero, List.getElem?_cons_succ, dR.eq_20]) (by omega) rfl (by omega) (by simp only [maxLen]; omega) rfl ?_
        have hM2' : (M1.kill none).push (.own (([] : List (List UInt8)).map strV ++ [.string ⟨⟨to⟩⟩]) 9) = M2 := hM2
        rw [hM2']
        simp -implicitDefEqProofs (disch := first | assumption | (simp only [wnA]; done) | (simp only [wnA]; omega) | omega | fail) [rc32_10, wkA, retV, stabOk, dC, ev, fillD, pickCells, putAt, bnd, slD, List.getElem?_cons_zero, List.getElem?_cons_succ, dR.eq_20, Mem.cell, Mem.row, wmA, f5, gx2]
        refine tos1 _ (by simp [f0]) (by simp) (fun i hi => ?_) (by simp [tosOf])
        simp only [List.mem_cons, List.not_mem_nil, or_false] at hi
        rcases hi with rfl | rfl | rfl | rfl <;> simp
      · simp -implicitDefEqProofs (disch := first | assumption | (simp only [wnA]; done) | (simp only [wnA]; omega) | omega | fail) [rc32_11, rc32_10, wkA, retV, stabOk, dC, ev, fillD, pickCells, putAt, bnd, slD, List.getElem?_cons_zero, List.getElem?_cons_succ, dR.eq_20, Mem.cell, Mem.row, wmA, f5, gx, beqF h1, beqF h2, beqF h3]
        have hTos : tosOf ⟨lb, kd, tx, arms, n, to, pl⟩ = [] := by simp [tosOf, h1, h2, h3]
        refine w_tos (ob := none) (ts0 := []) hv hl ⟨rfl, rfl⟩ (by simp) (by simp [f0]) (by simp; rfl) (fun hall fr2 m2 oo ee => hq (by rw [hTos]; exact hall) fr2 m2 oo fun i hi => ?_) (fun hex fr2 m2 u oo _ e3 => by obtain ⟨t, ht, -⟩ := hex; cases ht)
        have h1 := ee i (by simp only [List.mem_cons, List.not_mem_nil, or_false] at hi ⊢; omega)
        simp only [List.mem_cons, List.not_mem_nil, or_false] at hi
        rcases hi with rfl | rfl | rfl | rfl <;> (rw [h1]; simp)
theorem c_Check {w0 : World} {m : Mem} {v : Value} {l : List DV} {G : List (List UInt8) → Prop} {P : List (List UInt8) → List (Tab × List Bool) → Prop} {Q : Value → Mem → Prop} (hp : Part L0 m) (hv : DsV m v l) (hS : StepsOk w0 G P l)
    (hok : chkOk l → ∀ m', Old m m' → Q (.tuple ⟨[.int .i64 0, .nilIface]⟩) m')
    (herr : ¬ (chkOk l ∧ ∀ x ∈ l, x.1.kd = 1 → G (pats x.1)) → ∀ m' k t u, Old m m' → Q (.tuple ⟨[k, .iface t u]⟩) m') : AbC Tryz.prog w0 32 [v] m Q := by
  refine AbC_fn ok32 (by simp) ?_
  have hsl := hv.sl.slen
  have hll := hS.len
  by_cases hz : l.length = 0
  · have hz' : (l.length : Int) = 0 := by omega
    simp -implicitDefEqProofs (disch := first | assumption | (simp only [wnA]; done) | (simp only [wnA]; omega) | omega | fail) [rc32, ro32, wkA, retV, stabOk, dC, ev, fillD, pickCells, putAt, bnd, slD, List.getElem?_cons_zero, List.getElem?_cons_succ, dR.eq_20, Mem.cell, Mem.row, wmA, hsl, hz]
    exact herr (fun h => by have := h.1.1.1; omega) m _ _ _ (Old.refl m)
  · have hz' : ((l.length : Int) == 0) = false := beqF (by omega)
    by_cases h64 : 64 < l.length
    · have h64' : (64 : Int) < (l.length : Int) := by omega
      simp -implicitDefEqProofs (disch := first | assumption | (simp only [wnA]; done) | (simp only [wnA]; omega) | omega | fail) [rc32, ro32, wkA, retV, stabOk, dC, ev, fillD, pickCells, putAt, bnd, slD, List.getElem?_cons_zero, List.getElem?_cons_succ, dR.eq_20, Mem.cell, Mem.row, wmA, hsl, hz', gtT h64']
      exact herr (fun h => by have := h.1.1.2; omega) m _ _ _ (Old.refl m)
    · simp -implicitDefEqProofs (disch := first | assumption | (simp only [wnA]; done) | (simp only [wnA]; omega) | omega | fail) [rc32, ro32, rc32_15, wkA, retV, stabOk, dC, ev, fillD, pickCells, putAt, bnd, slD, List.getElem?_cons_zero, List.getElem?_cons_succ, dR.eq_20, Mem.cell, Mem.row, wmA, hsl, hz', gtF (show (l.length : Int) ≤ 64 by omega)]
      refine LoopW_of (fun q ts m' => ∃ j, j + q = l.length ∧ Old m m' ∧ (∀ k x, k < j → l[k]? = some x → chk1 l k x.1) ∧ ts 0 = v ∧ ts 23 = v ∧ ts 24 = .int .i64 (l.length : Nat) ∧ ts 25 = .int .i64 (j : Nat)) l.length ?_ ?_
      · exact ⟨0, by omega, Old.refl m, (fun k x hk => by omega), by simp [frA_at], by simp, by simp, by simp⟩
      · rintro q ts m1 K ⟨j, hj, o1, hall, t0, t23, t24, t25⟩ hK
        simp -implicitDefEqProofs (disch := first | assumption | (simp only [wnA]; done) | (simp only [wnA]; omega) | omega | fail) [rc32_13, wkA, retV, stabOk, dC, ev, fillD, pickCells, putAt, bnd, slD, List.getElem?_cons_zero, List.getElem?_cons_succ, dR.eq_20, Mem.cell, Mem.row, wmA, t24, t25]
        by_cases hjl : j < l.length
        · have hv1 := hv.old o1
          obtain ⟨bi, bo, L, hvv, hL, hLl, hLt, -⟩ := hv1.sl.at hjl
          rw [flat_at vC_len l (List.getElem?_eq_getElem hjl)] at hLt
          obtain ⟨x, hx⟩ : ∃ x, l[j] = x := ⟨_, rfl⟩
          have hxj : l[j]? = some x := by rw [List.getElem?_eq_getElem hjl, hx]
          have hxm : x ∈ l := by rw [← hx]; exact List.getElem_mem hjl
          have hA1 := hv1.ar x hxm
          have hone := hA1.sl.one
          have hsz := hS.sz x hxm
          have hof := hS.of x hxm
          rw [hx] at hLt
          have hsx : sidx 7 v (.int .i64 (j : Int)) = some (.pointer (some ⟨bi, bo + j * 7, none⟩)) := by rw [hvv]; exact sidx_at hjl
          have hle : bo + j * 7 + 7 ≤ L.length := by omega
          have hjw : IntKind.i64.wrap ((j : Int) + 1) = ((j + 1 : Nat) : Int) := by rw [w64 (by omega)]; omega
          obtain ⟨M, hM⟩ : ∃ M, (m1.push (.own [.string ⟨#[]⟩, .int .i64 0, .string ⟨#[]⟩, .slice none 0 0, .int .i64 0, .string ⟨#[]⟩, .int .i64 0] 29)).set m1.next (.own (putAt [.string ⟨#[]⟩, .int .i64 0, .string ⟨#[]⟩, .slice none 0 0, .int .i64 0, .string ⟨#[]⟩, .int .i64 0] 0 (vC x)) 29) = M := ⟨_, rfl⟩
          have oM : Old m1 M := by subst hM; exact ((Old.refl m1).push _).set (Nat.le_refl _) _
          have gM : M.get m1.next = .own (dsC x.1 x.2) 29 := by subst hM; rw [Mem.set_same]; rfl
          have nM : m1.next < M.next := by subst hM; simp
          have next : chk1 l j x.1 → ∀ (fr' : Fr) (M' : Mem), Old m M' → fr' 0 = ts 0 → fr' 23 = ts 23 → fr' 24 = ts 24 → fr' 25 = .int .i64 ((j + 1 : Nat) : Int) → K fr' M' := fun hc fr' M' oM' e0 e23 e24 e25 =>
            hK (q - 1) _ _ (by omega) ⟨j + 1, by omega, oM', fun k y hk hy => by
              by_cases hkj : k = j
              · subst hkj; rw [hxj] at hy; cases hy; exact hc
              · exact hall k y (by omega) hy, by rw [e0, t0], by rw [e23, t23], by rw [e24, t24], e25⟩
          have bad : ¬ chk1 l j x.1 → ¬ (chkOk l ∧ ∀ x ∈ l, x.1.kd = 1 → G (pats x.1)) := fun h hc => h (hc.1.2 j x hxj)
          have badG : x.1.kd = 1 → ¬ G (pats x.1) → ¬ (chkOk l ∧ ∀ x ∈ l, x.1.kd = 1 → G (pats x.1)) := fun hk h hc => h (hc.2 x hxm hk)
          obtain ⟨⟨lb, kd, tx, arms, n, to, pl⟩, av⟩ := x
          have gx : M.get m1.next = .own [.string ⟨⟨lb⟩⟩, .int .i64 kd, .string ⟨⟨tx⟩⟩, av, .int .i64 n, .string ⟨⟨to⟩⟩, .int .i64 pl] 29 := gM
          have hLt : (L.drop (bo + j * 7)).take 7 = [.string ⟨⟨lb⟩⟩, .int .i64 kd, .string ⟨⟨tx⟩⟩, av, .int .i64 n, .string ⟨⟨to⟩⟩, .int .i64 pl] := hLt
          simp only at hsz hof next bad badG hA1
          simp -implicitDefEqProofs (disch := first | assumption | (simp only [wnA]; done) | (simp only [wnA]; omega) | omega | fail) [hjl, rc32_12, wkA, retV, stabOk, dC, ev, fillD, pickCells, putAt, bnd, slD, List.getElem?_cons_zero, List.getElem?_cons_succ, dR.eq_20, Mem.cell, Mem.row, wmA, t0, t23, t25, hsx, hL, hLt, hle]
          refine SK_stm (i := m1.next) (o := 0) (vs := vC (⟨lb, kd, tx, arms, n, to, pl⟩, av)) (cs := [.string ⟨#[]⟩, .int .i64 0, .string ⟨#[]⟩, .slice none 0 0, .int .i64 0, .string ⟨#[]⟩, .int .i64 0]) (e := 29) (M := M) (by simp [wkA, retV, stabOk, dC, ev, fillD, pickCells, putAt, bnd, slD, List.getElem?_cons_zero, List.getElem?_cons_succ, dR.eq_20]) (by simp -implicitDefEqProofs (disch := first | assumption | (simp only [wnA]; done) | (simp only [wnA]; omega) | omega | fail) [wkA, retV, stabOk, dC, ev, fillD, pickCells, putAt, bnd, slD, List.getElem?_cons_zero, List.getElem?_cons_succ, dR.eq_20, Mem.cell, Mem.row, wmA]) (by simp [wkA, retV, stabOk, dC, ev, fillD, pickCells, putAt, bnd, slD, List.getElem?_cons_zero, List.getElem?_cons_succ, dR.eq_20, vC, dsC]) (by simp) rfl (by simp only [vC, dsC, List.all_cons, List.all_nil, hone.1]; rfl) hM ?_
          clear hM
          have hvM := hv1.old oM
          by_cases hlb : lb = []
          · subst hlb
            simp -implicitDefEqProofs (disch := first | assumption | (simp only [wnA]; done) | (simp only [wnA]; omega) | omega | fail) [wkA, retV, stabOk, dC, ev, fillD, pickCells, putAt, bnd, slD, List.getElem?_cons_zero, List.getElem?_cons_succ, dR.eq_20, Mem.cell, Mem.row, wmA, gx, t0]
            refine w_chk (G := G) (P := P) (x := (⟨[], kd, tx, arms, n, to, pl⟩, av)) ((o1.trans oM).part hp) hvM (by omega) (hA1.old oM) hsz.1 hof gM nM (by simp [t0]) (by simp) (fun hall fr' m' oo ee => ?_) fun hb fr' m' t u oo e3 => ?_
            · have e25 := (ee 25 (by simp)).trans (by simp [t25] : _ = Value.int .i64 (j : Int))
              simp -implicitDefEqProofs (disch := first | assumption | (simp only [wnA]; done) | (simp only [wnA]; omega) | omega | fail) [wkA, retV, stabOk, dC, ev, fillD, pickCells, putAt, bnd, slD, List.getElem?_cons_zero, List.getElem?_cons_succ, dR.eq_20, Mem.cell, Mem.row, wmA, e25, hjw]
              exact next (chk1_of (fun h => absurd rfl h) hall) _ m' ((o1.trans oM).trans oo) (by simpa [t0] using (ee 0 (by simp))) (by simpa [t23] using ee 23 (by simp)) (by simpa [t24] using ee 24 (by simp)) (by simp)
            · simp -implicitDefEqProofs (disch := first | assumption | (simp only [wnA]; done) | (simp only [wnA]; omega) | omega | fail) [wkA, retV, stabOk, dC, ev, fillD, pickCells, putAt, bnd, slD, List.getElem?_cons_zero, List.getElem?_cons_succ, dR.eq_20, Mem.cell, Mem.row, wmA, e3]
              refine herr ?_ m' _ _ _ ((o1.trans oM).trans oo)
              rcases hb with ⟨t', ht', hf'⟩ | ⟨hk, hG⟩
              · exact bad (chk1_not ht' hf')
              · exact badG hk hG
          · have hlb' : lb.isEmpty = false := by cases lb <;> simp at hlb ⊢
            simp -implicitDefEqProofs (disch := first | assumption | (simp only [wnA]; done) | (simp only [wnA]; omega) | omega | fail) [wkA, retV, stabOk, dC, ev, fillD, pickCells, putAt, bnd, slD, List.getElem?_cons_zero, List.getElem?_cons_succ, dR.eq_20, Mem.cell, Mem.row, wmA, gx, t0, hlb, hlb']
            refine c_Find hvM (by omega) fun m2 o2 => ?_
            have hv2 := hvM.old o2
            have g2 := (o2.2 _ nM).trans gM
            have n2 : m1.next < m2.next := Nat.lt_of_lt_of_le nM o2.1
            have o02 := (o1.trans oM).trans o2
            by_cases hf : findN lb l 0 = (j : Int)
            · simp -implicitDefEqProofs (disch := first | assumption | (simp only [wnA]; done) | (simp only [wnA]; omega) | omega | fail) [wkA, retV, stabOk, dC, ev, fillD, pickCells, putAt, bnd, slD, List.getElem?_cons_zero, List.getElem?_cons_succ, dR.eq_20, Mem.cell, Mem.row, wmA, hf, bne]
              refine w_chk (G := G) (P := P) (x := (⟨lb, kd, tx, arms, n, to, pl⟩, av)) (o02.part hp) hv2 (by omega) ((hA1.old oM).old o2) hsz.1 hof g2 n2 (by simp [t0]) (by simp) (fun hall fr' m' oo ee => ?_) fun hb fr' m' t u oo e3 => ?_
              · have e25 := (ee 25 (by simp)).trans (by simp [t25] : _ = Value.int .i64 (j : Int))
                simp -implicitDefEqProofs (disch := first | assumption | (simp only [wnA]; done) | (simp only [wnA]; omega) | omega | fail) [wkA, retV, stabOk, dC, ev, fillD, pickCells, putAt, bnd, slD, List.getElem?_cons_zero, List.getElem?_cons_succ, dR.eq_20, Mem.cell, Mem.row, wmA, e25, hjw]
                exact next (chk1_of (fun _ => hf) hall) _ m' (o02.trans oo) (by simpa [t0] using (ee 0 (by simp))) (by simpa [t23] using ee 23 (by simp)) (by simpa [t24] using ee 24 (by simp)) (by simp)
              · simp -implicitDefEqProofs (disch := first | assumption | (simp only [wnA]; done) | (simp only [wnA]; omega) | omega | fail) [wkA, retV, stabOk, dC, ev, fillD, pickCells, putAt, bnd, slD, List.getElem?_cons_zero, List.getElem?_cons_succ, dR.eq_20, Mem.cell, Mem.row, wmA, e3]
                refine herr ?_ m' _ _ _ (o02.trans oo)
                rcases hb with ⟨t', ht', hf'⟩ | ⟨hk, hG⟩
                · exact bad (chk1_not ht' hf')
                · exact badG hk hG
            · simp -implicitDefEqProofs (disch := first | assumption | (simp only [wnA]; done) | (simp only [wnA]; omega) | omega | fail) [wkA, retV, stabOk, dC, ev, fillD, pickCells, putAt, bnd, slD, List.getElem?_cons_zero, List.getElem?_cons_succ, dR.eq_20, Mem.cell, Mem.row, wmA, bneT hf]
              exact herr (bad fun hc => hf (hc.1 hlb)) m2 _ _ _ o02
        · have hjj : j = l.length := by omega
          subst hjj
          simp -implicitDefEqProofs (disch := first | assumption | (simp only [wnA]; done) | (simp only [wnA]; omega) | omega | fail) [hjl, rc32_14, wkA, retV, stabOk, dC, ev, fillD, pickCells, putAt, bnd, slD, List.getElem?_cons_zero, List.getElem?_cons_succ, dR.eq_20, Mem.cell, Mem.row, wmA]
          exact hok ⟨⟨by omega, by omega⟩, fun k x hx => hall k x (by
            rcases Nat.lt_or_ge k l.length with h' | h'
            · exact h'
            · rw [List.getElem?_eq_none h'] at hx; cases hx) hx⟩ m1 o1
end Go.Proofs.YtjlicambfepfiaaGreatDoor.Ab

set_option linter.unusedVariables false
set_option linter.unusedSimpArgs false
namespace Go.Proofs.YtjlicambfepfiaaGreatDoor.Ab
open Go Go.RowKit
set_option maxHeartbeats 4000000
set_option maxRecDepth 100000
theorem SK_mkm {P : Program} {w0 : World} {ts : Fr} {m : Mem} {R : Value → Mem → Prop} : SK P w0 (.e .mkm) ts m R = R (.map (some m.next)) (m.push (.map [] 0)) := rfl
/-- How a dialogue is at first. -/
def pl0 (im : Nat) : PlS := ⟨0, im, none, 0, 0, none, [], fun _ => 0⟩
end Go.Proofs.YtjlicambfepfiaaGreatDoor.Ab

set_option linter.unusedVariables false
set_option linter.unusedSimpArgs false
namespace Go.Proofs.YtjlicambfepfiaaGreatDoor.Ab
open Go Go.RowKit
/-- A value's ids are named anew. -/
def shV (r : Nat → Nat) : Nat → Value → Value
  | 0, v => v
  | d + 1, v => match v with
    | .pointer (some ⟨i, o, none⟩) => .pointer (some ⟨r i, o, none⟩)
    | .slice (some ⟨i, o, none⟩) n c => .slice (some ⟨r i, o, none⟩) n c
    | .map (some i) => .map (some (r i))
    | .func fn ⟨f⟩ ⟨c⟩ => .func fn ⟨f.map (shV r d)⟩ ⟨c.map (shV r d)⟩
    | .iface t v => .iface t (shV r d v)
    | .agg ⟨l⟩ => .agg ⟨l.map (shV r d)⟩
    | .tuple ⟨l⟩ => .tuple ⟨l.map (shV r d)⟩
    | v => v
/-- No deeper than so. -/
def okD : Nat → Value → Bool
  | 0, v => flatV v
  | d + 1, v => match v with
    | .func _ ⟨f⟩ ⟨c⟩ => f.all (okD d) && c.all (okD d)
    | .iface _ v => okD d v
    | .agg ⟨l⟩ => l.all (okD d)
    | .tuple ⟨l⟩ => l.all (okD d)
    | _ => true
theorem VRs.map_of {G G' : Loc} {f : Value → Value} : ∀ {l l' : List Value}, VRs G l l' → (∀ v ∈ l, ∀ v', VR G v v' → VR G' (f v) v') → VRs G' (l.map f) l'
  | _, _, .nil, _ => .nil
  | _, _, .cons v v' l l' h k, hf => .cons _ _ _ _ (hf v (by simp) v' h) (VRs.map_of k fun u hu => hf u (by simp [hu]))
theorem VR.shift {G G' : Loc} {r : Nat → Nat} (hr : ∀ i x, G i = some x → G' (r i) = some x) : ∀ (d : Nat) (v v' : Value), okD d v = true → VR G v v' → VR G' (shV r d v) v' := by
  intro d
  induction d with
  | zero =>
    intro v v' h hv
    have := VR.flat_eq h hv
    subst this
    exact VR.flat _ h
  | succ d ih =>
    intro v v' h hv
    cases hv with
    | bool b => exact .bool b
    | int k n => exact .int k n
    | float k n => exact .float k n
    | complex k n m => exact .complex k n m
    | str s => exact .str s
    | nilp => exact .nilp
    | ptr i o B b S hg => exact .ptr _ _ _ _ _ (hr _ _ hg)
    | nils => exact .nils
    | sl i o B b S n c z hg hn hc hS => exact .sl _ _ _ _ _ _ _ _ (hr _ _ hg) hn hc hS
    | empty a c hc => exact .empty a c hc
    | nilm => exact .nilm
    | map i B S hg => exact .map _ _ _ (hr _ _ hg)
    | nilf => exact .nilf
    | nili => exact .nili
    | func fn f c f' c' h1 h2 =>
      simp only [okD, Bool.and_eq_true, List.all_eq_true] at h
      exact .func _ _ _ _ _ (h1.map_of fun v hv v' k => ih v v' (h.1 v hv) k) (h2.map_of fun v hv v' k => ih v v' (h.2 v hv) k)
    | iface t v v' hv => exact .iface _ _ _ (ih _ _ h hv)
    | agg c c' hc =>
      simp only [okD, List.all_eq_true] at h
      exact .agg _ _ (hc.map_of fun v hv v' k => ih v v' (h v hv) k)
    | tuple c c' hc =>
      simp only [okD, List.all_eq_true] at h
      exact .tuple _ _ (hc.map_of fun v hv v' k => ih v v' (h v hv) k)
/-- All ids lie below k. -/
def ltW (k : Nat) : Nat → Value → Bool
  | 0, v => flatV v
  | d + 1, v => match v with
    | .pointer (some ⟨i, _, none⟩) => Nat.blt i k
    | .slice (some ⟨i, _, none⟩) _ _ => Nat.blt i k
    | .iface _ v => ltW k d v
    | .agg ⟨l⟩ => l.all (ltW k d)
    | .tuple ⟨l⟩ => l.all (ltW k d)
    | v => flatV v
theorem VRs.unmap {G G' : Loc} {f : Value → Value} : ∀ {l l' : List Value}, VRs G (l.map f) l' → (∀ v ∈ l, ∀ v', VR G (f v) v' → VR G' v v') → VRs G' l l'
  | [], _, .nil, _ => .nil
  | v :: l, _, .cons _ v' _ l' h k, hf => .cons _ _ _ _ (hf v (by simp) v' h) (VRs.unmap k fun u hu => hf u (by simp [hu]))
theorem shV_flat {r : Nat → Nat} {d : Nat} {v : Value} (h : flatV v = true) : shV r d v = v := by
  cases d with
  | zero => rfl
  | succ d =>
    unfold flatV at h
    split at h <;> first | rfl | cases h
theorem VR.unshift {G : Loc} {r : Nat → Nat} {k : Nat} : ∀ (d : Nat) (v v' : Value), ltW k d v = true → VR G (shV r d v) v' → VR (fun i => if i < k then G (r i) else none) v v' := by
  intro d
  induction d with
  | zero =>
    intro v v' h hv
    have := VR.flat_eq h hv
    subst this
    exact VR.flat _ h
  | succ d ih =>
    intro v v' h hv
    unfold ltW at h
    split at h
    · rename_i i o
      cases hv with
      | ptr _ _ B b S hg => exact .ptr _ _ _ _ _ (by rw [if_pos (blt_true.1 h)]; exact hg)
    · rename_i i o n c
      have hv : VR G (.slice (some ⟨r i, o, none⟩) n c) v' := hv
      obtain ⟨ri, hri⟩ : ∃ x, r i = x := ⟨_, rfl⟩
      rw [hri] at hv
      cases hv with
      | sl _ _ B b S _ c z hg hn hc hS => exact .sl _ _ _ _ _ _ _ _ (by rw [if_pos (blt_true.1 h), hri]; exact hg) hn hc hS
    · cases hv with
      | iface t v v' hv => exact .iface _ _ _ (ih _ _ h hv)
    · rename_i l
      cases hv with
      | agg c c' hc =>
        rw [List.all_eq_true] at h
        exact .agg _ _ (hc.unmap fun v hv v' k => ih v v' (h v hv) k)
    · rename_i l
      cases hv with
      | tuple c c' hc =>
        rw [List.all_eq_true] at h
        exact .tuple _ _ (hc.unmap fun v hv v' k => ih v v' (h v hv) k)
    · rw [shV_flat h] at hv
      have := VR.flat_eq h hv
      subst this
      exact VR.flat _ h
def shM (r : Nat → Nat) (es : List MapEntry) : List MapEntry := es.map fun e => { e with key := shV r 6 e.key, val := shV r 6 e.val }
def shE (r : Nat → Nat) : Ent → Ent
  | .own cs e => .own (cs.map (shV r 6)) e
  | .ro cs => .ro (cs.map (shV r 6))
  | .map es c => .map (shM r es) c
  | .siter s p => .siter s p
  | .miter none a b c => .miter none a b c
  | .miter (some i) a b c => .miter (some (r i)) a b c
  | .dead => .dead
def okE : Ent → Bool
  | .own cs _ => cs.all (okD 6)
  | .ro _ => false
  | .map es _ => es.all fun e => okD 6 e.key && okD 6 e.val
  | _ => true
theorem shE_mine {r : Nat → Nat} {e : Ent} : (shE r e).mine = e.mine := by
  cases e with
  | miter i a b c => cases i <;> rfl
  | _ => rfl
theorem shE_dead {r : Nat → Nat} {e : Ent} (h : shE r e ≠ .dead) : e ≠ .dead := by rintro rfl; exact h rfl
theorem ER.shift {w0 w1 w : World} {G G' : Loc} {r : Nat → Nat} {B b S : Nat} {e : Ent} (hr : ∀ i x, G i = some x → G' (r i) = some x) (hw : w0.heap.size ≤ w1.heap.size) (ho : okE e = true) (h : ER w1 w G B b S e) : ER w0 w G' B b S (shE r e) := by
  cases e with
  | own cs e =>
    obtain ⟨h0, c, fz, h1, hS, h2, h3⟩ := h
    simp only [okE, List.all_eq_true] at ho
    refine ⟨by omega, c, fz, h1, hS, h2, fun j v hj => ?_⟩
    rw [List.getElem?_map] at hj
    cases hu : cs[j]? with
    | none => rw [hu] at hj; cases hj
    | some u =>
      rw [hu] at hj
      cases hj
      obtain ⟨v', a, k⟩ := h3 j u hu
      exact ⟨v', a, VR.shift hr 6 _ _ (ho u (List.mem_of_getElem? hu)) k⟩
  | ro cs => cases ho
  | map es c =>
    obtain ⟨h0, hb, es', h1, h2, h3, h4⟩ := h
    simp only [okE, List.all_eq_true, Bool.and_eq_true] at ho
    refine ⟨by omega, hb, es', h1, ?_, ?_, ?_⟩
    · rw [h2]; simp [shM]
    · have : (shM r es).map (·.key) = (es.map (·.key)).map (shV r 6) := by simp [shM]
      rw [this]
      exact h3.map_of fun v hv v' k => by
        obtain ⟨x, hx, rfl⟩ := List.mem_map.1 hv
        exact VR.shift hr 6 _ _ (ho x hx).1 k
    · have : (shM r es).map (·.val) = (es.map (·.val)).map (shV r 6) := by simp [shM]
      rw [this]
      exact h4.map_of fun v hv v' k => by
        obtain ⟨x, hx, rfl⟩ := List.mem_map.1 hv
        exact VR.shift hr 6 _ _ (ho x hx).2 k
  | siter s p => exact ⟨by have := h.1; omega, h.2⟩
  | miter m a b c =>
    obtain ⟨h0, hb, x, h1, h2⟩ := h
    cases m with
    | none => cases h2; exact ⟨by omega, hb, _, h1, .nilm⟩
    | some i => cases h2 with
      | map _ B2 S2 hg => exact ⟨by omega, hb, _, h1, .map _ _ _ (hr _ _ hg)⟩
  | dead => trivial
/-- The blocks that a call is reckoned over are, by other names, those of a memory. -/
structure PartR (P : Program) (L : LM) (r : Nat → Nat) (m : Mem) : Prop where
  k : P.globals.size ≤ L.n
  g : ∀ i, i < P.globals.size → r i = i
  lt : ∀ i, i < L.n → r i < m.next
  e : ∀ i, i < L.n → (L.get i = .dead ∧ i < P.globals.size) ∨ ∃ cs, L.get i = .ro cs ∧ (m.get (r i)).cells? = some (cs.map (shV r 6)) ∧ cs.all (ltW L.n 6) = true
section
variable {P : Program} {w0 : World}
theorem PartR.some {w : World} {G : Loc} {m : Mem} {L : LM} {r : Nat → Nat} (h : St P w0 G m w) (hp : PartR P L r m) {i : Nat} (hi : i < L.n) : ∃ x, G (r i) = some x := by
  rcases hp.e i hi with ⟨-, hg⟩ | ⟨cs, -, h2, -⟩
  · obtain ⟨S, hS⟩ := h.glob i hg
    exact ⟨_, by rw [hp.g i hg]; exact hS⟩
  · obtain ⟨B, b, S, hg, -⟩ := h.ent (r i) (by intro e; rw [e] at h2; cases h2)
    exact ⟨_, hg⟩
theorem St.partR {w : World} {G : Loc} {m : Mem} {L : LM} {r : Nat → Nat} (h : St P w0 G m w) (hp : PartR P L r m) : St P w (fun i => if i < L.n then G (r i) else none) (toMem L) w where
  below := Below.refl _ _
  dom := fun i x hx => by
    have hx : (if i < L.n then G (r i) else none) = some x := hx
    split at hx
    · assumption
    · cases hx
  lim := fun i B b S hd hx => by
    have hx : (if i < L.n then G (r i) else none) = some (B, b, S) := hx
    split at hx
    · rename_i hi
      rcases hp.e i hi with ⟨h1, -⟩ | ⟨cs, h1, h2, -⟩
      · exact (hd h1).elim
      · exact h.lim (r i) B b S (by intro e; rw [e] at h2; cases h2) hx
    · cases hx
  ent := fun i hi => by
    have hlt : i < L.n := by
      rcases Nat.lt_or_ge i L.n with h' | h'
      · exact h'
      · exact (hi (LM.get_ge (by omega))).elim
    rcases hp.e i hlt with ⟨h1, -⟩ | ⟨cs, h1, h2, h3⟩
    · exact (hi h1).elim
    · have hnd : m.get (r i) ≠ .dead := by intro e; rw [e] at h2; cases h2
      obtain ⟨B, b, S, hg, _⟩ := h.ent (r i) hnd
      refine ⟨B, b, S, by rw [if_pos hlt]; exact hg, ?_⟩
      show ER w w _ B b S (L.get i)
      rw [h1]
      refine ⟨h.lim (r i) B b S hnd hg, fun j v hj => ?_⟩
      obtain ⟨v', c1, c2⟩ := h.cell (o := j) (v := shV r 6 v) hg (by simp only [Mem.cell, h2, List.getElem?_map, hj, Option.map_some, Option.bind])
      rw [List.all_eq_true] at h3
      exact ⟨v', c1, VR.unshift 6 _ _ (h3 v (List.mem_of_getElem? hj)) c2⟩
  inj := fun i j B x y hi => by
    have h0 : (L.get i).mine = true := hi
    rcases Nat.lt_or_ge i L.n with h' | h'
    · rcases hp.e i h' with ⟨h1, -⟩ | ⟨cs, h1, -⟩ <;> rw [h1] at h0 <;> cases h0
    · rw [LM.get_ge (by omega)] at h0; cases h0
  glob := fun g hg => by
    obtain ⟨S, hS⟩ := h.glob g hg
    refine ⟨S, ?_⟩
    show (if g < L.n then G (r g) else none) = _
    rw [if_pos (Nat.lt_of_lt_of_le hg hp.k), hp.g g hg]
    exact hS
  ali := fun i cs e B b S hi => by
    have h0 : L.get i = .own cs e := hi
    rcases Nat.lt_or_ge i L.n with h' | h'
    · rcases hp.e i h' with ⟨h1, -⟩ | ⟨cs, h1, -⟩ <;> rw [h1] at h0 <;> cases h0
    · rw [LM.get_ge (by omega)] at h0; cases h0
/-- The names behind. -/
def shN (k n : Nat) (r : Nat → Nat) (i : Nat) : Nat := if i < k then r i else n + (i - k)
/-- What a call leaves, behind a memory. -/
noncomputable def behind (m : Mem) (k : Nat) (r : Nat → Nat) (L : LM) : Mem := ⟨m.next + (L.n - k), fun j => if j < m.next then m.get j else shE (shN k m.next r) (L.get (j - m.next + k))⟩
noncomputable def okNew (L : LM) (k : Nat) : Nat → Bool := Nat.rec true fun i ih => (Nat.blt i k || okE (L.get i)) && ih
theorem okNew_at {L : LM} {k : Nat} : ∀ {n : Nat}, okNew L k n = true → ∀ i, i < n → k ≤ i → okE (L.get i) = true
  | 0, _, i, hi, _ => by omega
  | n + 1, h, i, hi, hk => by
    have h : ((Nat.blt n k || okE (L.get n)) && okNew L k n) = true := h
    simp only [Bool.and_eq_true, Bool.or_eq_true, blt_true] at h
    rcases Nat.lt_or_ge i n with hl | hl
    · exact okNew_at h.2 i hl hk
    · have : i = n := by omega
      subst this
      rcases h.1 with h | h
      · omega
      · exact h
theorem St.behind {w w' : World} {G G' : Loc} {m : Mem} {L L' : LM} {r : Nat → Nat} (h : St P w0 G m w) (hp : PartR P L r m) (h' : St P w G' (toMem L') w') (hle : Loc.le (fun i => if i < L.n then G (r i) else none) G') (hn : L.n ≤ L'.n) (ho : okNew L' L.n L'.n = true) :
    ∃ G2, Loc.le G G2 ∧ (∀ i x, G' i = some x → G2 (shN L.n m.next r i) = some x) ∧ St P w0 G2 (Ab.behind m L.n r L') w' := by
  have hg := h.grown h'.below
  let G2 : Loc := fun j => if j < m.next then G j else if j - m.next + L.n < L'.n then G' (j - m.next + L.n) else none
  have hG : Loc.le G G2 := fun i x hx => by
    show (if i < m.next then G i else _) = some x
    rw [if_pos (h.dom i x hx)]; exact hx
  have hr : ∀ i x, G' i = some x → G2 (shN L.n m.next r i) = some x := fun i x hx => by
    have hd : i < L'.n := h'.dom i x hx
    unfold shN
    split
    · rename_i hi
      obtain ⟨y, hy⟩ := hp.some h hi
      have h1 := hle i y (by show (if i < L.n then G (r i) else none) = _; rw [if_pos hi]; exact hy)
      rw [hx] at h1
      cases h1
      exact hG _ _ hy
    · rename_i hi
      show (if m.next + (i - L.n) < m.next then _ else if m.next + (i - L.n) - m.next + L.n < L'.n then G' (m.next + (i - L.n) - m.next + L.n) else none) = some x
      have e : m.next + (i - L.n) - m.next + L.n = i := by omega
      rw [if_neg (by omega), e, if_pos hd, hx]
  have G2o : ∀ {j}, j < m.next → G2 j = G j := fun hj => if_pos hj
  have G2n : ∀ {j x}, ¬ j < m.next → G2 j = some x → j - m.next + L.n < L'.n ∧ G' (j - m.next + L.n) = some x := fun {j x} hj hx => by
    have hx : (if j < m.next then G j else if j - m.next + L.n < L'.n then G' (j - m.next + L.n) else none) = some x := hx
    rw [if_neg hj] at hx
    split at hx
    · exact ⟨by assumption, hx⟩
    · cases hx
  have mo : ∀ {j}, j < m.next → (Ab.behind m L.n r L').get j = m.get j := fun hj => if_pos hj
  have mn : ∀ {j}, ¬ j < m.next → (Ab.behind m L.n r L').get j = shE (shN L.n m.next r) (L'.get (j - m.next + L.n)) := fun hj => if_neg hj
  have hlt : ∀ {j}, L'.get j ≠ .dead → j < L'.n := fun {j} hj => by
    rcases Nat.lt_or_ge j L'.n with h' | h'
    · exact h'
    · exact (hj (LM.get_ge (by omega))).elim
  refine ⟨G2, hG, hr, hg.below, ?_, ?_, ?_, ?_, ?_, ?_⟩
  · intro i x hx
    show i < m.next + (L'.n - L.n)
    by_cases hi : i < m.next
    · omega
    · have := (G2n hi hx).1; omega
  · intro i B b S hd hx
    by_cases hi : i < m.next
    · rw [mo hi] at hd; rw [G2o hi] at hx; exact hg.lim i B b S hd hx
    · rw [mn hi] at hd
      exact h'.lim _ B b S (shE_dead hd) (G2n hi hx).2
  · intro i hd
    by_cases hi : i < m.next
    · rw [mo hi] at hd ⊢
      obtain ⟨B, b, S, g, e⟩ := hg.ent i hd
      exact ⟨B, b, S, by rw [G2o hi]; exact g, e.mono hG⟩
    · rw [mn hi] at hd ⊢
      have hd2 := shE_dead hd
      obtain ⟨B, b, S, g, e⟩ := h'.ent _ hd2
      have h3 := hlt hd2
      refine ⟨B, b, S, ?_, e.shift hr h.below.size (okNew_at ho _ h3 (by omega))⟩
      show (if i < m.next then G i else if i - m.next + L.n < L'.n then G' (i - m.next + L.n) else none) = some (B, b, S)
      rw [if_neg hi, if_pos h3]; exact g
  · intro i j B x y hi hj gi gj
    have key : ∀ {i j : Nat} {x y : Nat × Nat}, i < m.next → ¬ j < m.next → (m.get i).mine = true → (shE (shN L.n m.next r) (L'.get (j - m.next + L.n))).mine = true → G i = some (B, x) → G' (j - m.next + L.n) = some (B, y) → False := by
      intro i j x y h1 h2 hi hj gi gj
      obtain ⟨x1, x2⟩ := x
      obtain ⟨y1, y2⟩ := y
      have a1 := h.lim i B x1 x2 (Ent.live hi) gi
      rw [shE_mine] at hj
      obtain ⟨B', b', S', g', e'⟩ := h'.ent _ (Ent.live hj)
      rw [show G' (j - m.next + L.n) = some (B, y1, y2) from gj] at g'
      cases g'
      have a2 := e'.size hj
      omega
    by_cases h1 : i < m.next <;> by_cases h2 : j < m.next
    · rw [mo h1] at hi; rw [mo h2] at hj; rw [G2o h1] at gi; rw [G2o h2] at gj
      exact h.inj i j B x y hi hj gi gj
    · rw [mo h1] at hi; rw [mn h2] at hj; rw [G2o h1] at gi
      exact (key h1 h2 hi hj gi (G2n h2 gj).2).elim
    · rw [mn h1] at hi; rw [mo h2] at hj; rw [G2o h2] at gj
      exact (key h2 h1 hj hi gj (G2n h1 gi).2).elim
    · rw [mn h1, shE_mine] at hi; rw [mn h2, shE_mine] at hj
      have := h'.inj _ _ B x y hi hj (G2n h1 gi).2 (G2n h2 gj).2
      omega
  · intro g hg'
    obtain ⟨S, hS⟩ := h.glob g hg'
    exact ⟨S, hG _ _ hS⟩
  · intro i cs e B b S hi hx
    by_cases h1 : i < m.next
    · rw [mo h1] at hi; rw [G2o h1] at hx; exact h.ali i cs e B b S hi hx
    · rw [mn h1] at hi
      obtain ⟨-, hx⟩ := G2n h1 hx
      cases he : L'.get (i - m.next + L.n) with
      | own cs' e' =>
        rw [he] at hi
        cases hi
        exact h'.ali _ _ _ _ _ _ he hx
      | miter a b c d => rw [he] at hi; cases a <;> cases hi
      | _ => rw [he] at hi; cases hi
theorem behind_old {m : Mem} {k : Nat} {r : Nat → Nat} {L : LM} {i : Nat} (h : i < m.next) : (Ab.behind m k r L).get i = m.get i := if_pos h
theorem behind_new {m : Mem} {k : Nat} {r : Nat → Nat} {L : LM} (i : Nat) : (Ab.behind m k r L).get (m.next + i) = shE (shN k m.next r) (L.get (i + k)) := by
  show (if m.next + i < m.next then _ else shE _ (L.get (m.next + i - m.next + k))) = _
  rw [if_neg (by omega), show m.next + i - m.next + k = i + k by omega]
def eqM : List MapEntry → List MapEntry → Bool
  | [], [] => true
  | a :: l, b :: r => eqV 6 a.key b.key && eqV 6 a.val b.val && Nat.beq a.born b.born && eqM l r
  | _, _ => false
theorem eqM_eq : ∀ {a b : List MapEntry}, eqM a b = true → a = b
  | [], [], _ => rfl
  | ⟨a1, a2, a3⟩ :: l, ⟨b1, b2, b3⟩ :: r, h => by
    simp only [eqM, Bool.and_eq_true] at h
    obtain ⟨⟨⟨h1, h2⟩, h3⟩, h4⟩ := h
    rw [eqV_eq _ _ _ h1, eqV_eq _ _ _ h2, Nat.eq_of_beq_eq_true h3, eqM_eq h4]
  | [], _ :: _, h => by cases h
  | _ :: _, [], h => by cases h
def eqE : Ent → Ent → Bool
  | .own a e, .own b e' => eqL (eqV 6) a b && decide (e = e')
  | .map a c, .map b c' => eqM a b && Nat.beq c c'
  | _, _ => false
theorem eqE_eq {a b : Ent} (h : eqE a b = true) : a = b := by
  unfold eqE at h
  split at h
  · simp only [Bool.and_eq_true, decide_eq_true_eq] at h
    rw [eqL_eq (fun a b h => eqV_eq _ a b h) h.1, h.2]
  · simp only [Bool.and_eq_true] at h
    rw [eqM_eq h.1, Nat.eq_of_beq_eq_true h.2]
  · cases h
/-- The entries that are told, from k on. -/
noncomputable def tellE (L : LM) : Nat → List (Option Ent) → Bool
  | _, [] => true
  | k, none :: l => tellE L (k + 1) l
  | k, some e :: l => eqE (L.get k) e && tellE L (k + 1) l
theorem tellE_at {L : LM} : ∀ {k : Nat} {l : List (Option Ent)}, tellE L k l = true → ∀ i e, l[i]? = some (some e) → L.get (i + k) = e
  | _, [], _, i, e, h => by simp at h
  | k, none :: l, h, 0, e, hi => by simp at hi
  | k, none :: l, h, i + 1, e, hi => by
    have := tellE_at (k := k + 1) h i e (by simpa using hi)
    rw [← this]; congr 1; omega
  | k, some x :: l, h, 0, e, hi => by
    simp only [tellE, Bool.and_eq_true] at h
    simp at hi
    subst hi
    rw [Nat.zero_add]
    exact eqE_eq h.1
  | k, some x :: l, h, i + 1, e, hi => by
    simp only [tellE, Bool.and_eq_true] at h
    have := tellE_at (k := k + 1) h.2 i e (by simpa using hi)
    rw [← this]; congr 1; omega
/-- What a reckoned call came to. -/
noncomputable def outM (k : Nat) (v : Value) (es : List (Option Ent)) : Option (Value × LM) → Bool
  | some (u, L) => eqV 6 u v && okD 6 v && Nat.beq L.n (k + es.length) && okNew L k L.n && tellE L k es
  | none => false
/-- A call that is reckoned through over blocks of its own: what it leaves lies behind the memory. -/
theorem AbC_lay {T : List TE} {X : CallE} {f : FuncId} {args : List Value} {m : Mem} {L : LM} {r : Nat → Nat} {v : Value} {es : List (Option Ent)} {Q : Value → Mem → Prop} (n : Nat) (hT : TOk P T) (hX : XOk P X) (hp : PartR P L r m) (ha : args.all (ltW L.n 6) = true)
    (h : outM L.n v es (callE T X P n f args L) = true)
    (hQ : ∀ M, M.next = m.next + es.length → (∀ i, i < m.next → M.get i = m.get i) → (∀ i e, es[i]? = some (some e) → M.get (m.next + i) = shE (shN L.n m.next r) e) → Q (shV (shN L.n m.next r) 6 v) M) : AbC P w0 f (args.map (shV r 6)) m Q := by
  intro G w args' hs hargs
  cases hc : callE T X P n f args L with
  | none => rw [hc] at h; cases h
  | some x =>
    obtain ⟨u, L'⟩ := x
    rw [hc] at h
    simp only [outM, Bool.and_eq_true] at h
    obtain ⟨⟨⟨⟨h1, h2⟩, h3⟩, h4⟩, h5⟩ := h
    have := eqV_eq _ _ _ h1
    subst this
    have h3 := Nat.eq_of_beq_eq_true h3
    have hcall := callE_ok (w0 := w) hT hX n _ _ _ _ _ hc (fun x y => x = u ∧ y = toMem L') ⟨rfl, rfl⟩
    rw [List.all_eq_true] at ha
    have := hcall _ w args' (hs.partR hp) (hargs.unmap fun v hv v' k => VR.unshift 6 _ _ (ha v hv) k)
    refine this.mono ?_
    rintro v' w' ⟨G', _, _, k1, k2, k3, rfl, rfl⟩
    obtain ⟨G2, g1, g2, g3⟩ := hs.behind hp k3 k1 (by omega) h4
    refine ⟨G2, _, _, g1, VR.shift g2 6 _ _ h2 k2, g3, hQ _ ?_ (fun i hi => behind_old hi) fun i e hi => ?_⟩
    · show m.next + (L'.n - L.n) = _
      omega
    · rw [behind_new, tellE_at h5 i e hi]
end
end Go.Proofs.YtjlicambfepfiaaGreatDoor.Ab

set_option linter.unusedVariables false
set_option linter.unusedSimpArgs false
namespace Go.Proofs.YtjlicambfepfiaaGreatDoor.Ab
open Go Go.RowKit
set_option maxHeartbeats 4000000
set_option maxRecDepth 100000
theorem RdV.blk {X : Nat → Prop} {m : Mem} {i n sz e : Nat} {cs : List Value} (g : m.get i = .own cs e) (hl : cs.length = n * sz) (hi : i < m.next) (hx : X i) : RdV X m sz (.slice (some ⟨i, 0, none⟩) n sz) cs n :=
  ⟨⟨hl, .inr ⟨i, 0, cs, rfl, by rw [g]; rfl, by omega, by rw [List.drop_zero, List.take_of_length_le (by omega)]⟩⟩, fun b hb => by cases hb; exact ⟨hi, hx⟩⟩
/-- The laid memory, and one block with a text. -/
def L1 (p : List UInt8) : LM := ⟨8, (.n (.n (.n (.n (.n .dead .dead (.ro e10) .dead .dead (.ro e32) (.ro e64) (.ro [.string ⟨⟨p⟩⟩])) .e .e .e .e .e .e .e) .e .e .e .e .e .e .e) .e .e .e .e .e .e .e) .e .e .e .e .e .e .e)⟩
theorem flat_sh {r : Nat → Nat} {cs : List Value} (h : cs.all flatV = true) : cs.map (shV r 6) = cs := by
  rw [List.all_eq_true] at h
  have : ∀ v ∈ cs, shV r 6 v = v := fun v hv => shV_flat (h v hv)
  rw [List.map_congr_left this]
  simp
theorem partR_L1 {m : Mem} {p : List UInt8} {b : Nat} (hp : Part L0 m) (hb : b < m.next) (g : m.get b = .own [.string ⟨⟨p⟩⟩] 9) : PartR Tryz.prog (L1 p) (fun j => if j = 7 then b else j) m := by
  have hk : Tryz.prog.globals.size = 7 := globals_size
  have hro : ∀ j cs, L0.get j = .ro cs → (m.get j).cells? = some cs := fun j cs h => by
    rcases hp.2 j with h1 | ⟨cs', h1, h2, -⟩
    · rw [h] at h1; cases h1
    · rw [h] at h1; cases h1; exact h2
  have hn := hp.1
  have hn7 : 7 ≤ m.next := hn
  refine ⟨by rw [hk]; show 7 ≤ 8; omega, fun i hi => by rw [hk] at hi; show (if i = 7 then b else i) = i; rw [if_neg (by omega)], fun i hi => ?_, fun i hi => ?_⟩
  · have hi : i < 8 := hi
    show (if i = 7 then b else i) < m.next
    split <;> omega
  · have hi : i < 8 := hi
    rw [hk]
    rcases (show i = 0 ∨ i = 1 ∨ i = 2 ∨ i = 3 ∨ i = 4 ∨ i = 5 ∨ i = 6 ∨ i = 7 by omega) with rfl | rfl | rfl | rfl | rfl | rfl | rfl | rfl
    · exact .inl ⟨rfl, by decide⟩
    · exact .inl ⟨rfl, by decide⟩
    · exact .inr ⟨e10, rfl, by rw [flat_sh (by decide)]; exact hro 2 e10 rfl, by show e10.all (ltW 8 6) = true; decide⟩
    · exact .inl ⟨rfl, by decide⟩
    · exact .inl ⟨rfl, by decide⟩
    · exact .inr ⟨e32, rfl, by rw [flat_sh (by decide)]; exact hro 5 e32 rfl, by show e32.all (ltW 8 6) = true; decide⟩
    · exact .inr ⟨e64, rfl, by rw [flat_sh (by decide)]; exact hro 6 e64 rfl, by show e64.all (ltW 8 6) = true; decide⟩
    · exact .inr ⟨[.string ⟨⟨p⟩⟩], rfl, by show (m.get b).cells? = _; rw [g]; rfl, rfl⟩
def es_ab : List (Option Ent) := [some (.own [.slice none 0 0] 142), some (.own [.slice (some ⟨75, 0, none⟩) 1 1, .slice (some ⟨8, 0, none⟩) 1 1, .int .i64 0, .bool false] 140), none, none, none, none, none, none, none, none, none, none, none, none, none, none, none, none, none, none, none, none, none, none, none, none, none, none, none, none, none, none, none, none, none, none, none, some (.own [.int .u64 0, .int .u64 8589934592, .int .u64 0, .int .u64 0, .int .u64 0, .int .u64 17179869184, .int .u64 0, .int .u64 0] 73), none, none, none, none, none, none, none, none, none, none, none, none, none, some (.own [.slice (some ⟨45, 0, none⟩) 2 4, .slice (some ⟨73, 0, none⟩) 2 1, .slice (some ⟨68, 0, none⟩) 2 1, .slice (some ⟨70, 0, none⟩) 2 1, .bool false] 175), none, none, none, none, some (.own [.bool false, .bool true] 4), none, none, none, some (.own [.bool true, .bool false] 4), none, some (.own [.bool false, .bool true] 4), some (.own [.bool false, .bool false] 4), none, some (.own [.slice (some ⟨64, 0, none⟩) 2 1, .slice (some ⟨71, 0, none⟩) 2 1] 142), none, some (.own [.pointer (some ⟨59, 0, none⟩)] 141)]
theorem run_ab : outM 8 (.tuple ⟨[.pointer (some ⟨9, 0, none⟩), .nilIface]⟩) es_ab (callE tab (xCall xs) Tryz.prog 3000 45 [.slice (some ⟨7, 0, none⟩) 1 1] (L1 [97, 98])) = true := by kernel_rfl
def T_ab : Tab := ⟨[⟨0, 8589934592, 0, 0⟩, ⟨0, 17179869184, 0, 0⟩], [[false, true], [false, false]], [true, false], [false, true], false⟩
theorem wf_ab : (∀ r ∈ T_ab.next, r.length = T_ab.n) ∧ T_ab.n ≤ 1000 := by decide
theorem of_ab {w0 : World} : OfC w0 [[97, 98]] True (fun c => c = [(T_ab, [])]) := by
  intro m ob Q hp hs hok herr
  obtain ⟨b, rfl⟩ : ∃ b, ob = some b := by
    cases ob with
    | none => have := hs.2; simp at this
    | some b => exact ⟨b, rfl⟩
  have hPR := partR_L1 (p := [97, 98]) hp hs.lt hs.2.1
  refine AbC_lay (r := fun j => if j = 7 then b else j) (args := [.slice (some ⟨7, 0, none⟩) 1 1]) 3000 tab_ok xs_ok hPR rfl run_ab fun M hn ho he => ?_
  have hn : M.next = m.next + 68 := hn
  have g8 : M.get (m.next + 0) = .own [.slice none 0 0] 142 := he 0 _ rfl
  have g9 : M.get (m.next + 1) = .own [.slice (some ⟨m.next + 67, 0, none⟩) 1 1, .slice (some ⟨m.next + 0, 0, none⟩) 1 1, .int .i64 0, .bool false] 140 := he 1 _ rfl
  have g75 : M.get (m.next + 67) = .own [.pointer (some ⟨m.next + 51, 0, none⟩)] 141 := he 67 _ rfl
  have g59 : M.get (m.next + 51) = .own [.slice (some ⟨m.next + 37, 0, none⟩) 2 4, .slice (some ⟨m.next + 65, 0, none⟩) 2 1, .slice (some ⟨m.next + 60, 0, none⟩) 2 1, .slice (some ⟨m.next + 62, 0, none⟩) 2 1, .bool false] 175 := he 51 _ rfl
  have g45 : M.get (m.next + 37) = .own [.int .u64 0, .int .u64 8589934592, .int .u64 0, .int .u64 0, .int .u64 0, .int .u64 17179869184, .int .u64 0, .int .u64 0] 73 := he 37 _ rfl
  have g73 : M.get (m.next + 65) = .own [.slice (some ⟨m.next + 56, 0, none⟩) 2 1, .slice (some ⟨m.next + 63, 0, none⟩) 2 1] 142 := he 65 _ rfl
  have g68 : M.get (m.next + 60) = .own [.bool true, .bool false] 4 := he 60 _ rfl
  have g70 : M.get (m.next + 62) = .own [.bool false, .bool true] 4 := he 62 _ rfl
  have g64 : M.get (m.next + 56) = .own [.bool false, .bool true] 4 := he 56 _ rfl
  have g71 : M.get (m.next + 63) = .own [.bool false, .bool false] 4 := he 63 _ rfl
  refine hok M ⟨m.next + 1, m.next + 0, [⟨m.next + 51, T_ab, .slice none 0 0, []⟩], 0, false⟩ ⟨by omega, ho⟩ rfl rfl rfl ?_ (by show m.next ≤ m.next + 1; omega) (by show m.next ≤ m.next + 0; omega)
  show WatV (fun i => m.next ≤ i ∧ i ≠ m.next + 1 ∧ i ≠ m.next + 0) M (m.next + 1) (m.next + 0) [⟨m.next + 51, T_ab, .slice none 0 0, []⟩] 0 false
  have hX : ∀ k : Nat, 2 ≤ k → k < 68 → m.next + k < M.next ∧ (m.next ≤ m.next + k ∧ m.next + k ≠ m.next + 1 ∧ m.next + k ≠ m.next + 0) := fun k h1 h2 => ⟨by omega, by omega, by omega, by omega⟩
  refine ⟨⟨_, g9, (RdV.blk (sz := 1) (n := 1) g75 rfl (hX 67 (by decide) (by decide)).1 (hX 67 (by decide) (by decide)).2)⟩, g8, fun w hw => ?_, ⟨fun h => h.2.1 rfl, fun h => h.2.2 rfl, by omega, by omega, by omega⟩, by simp, fun i hi => ⟨by omega, by omega, by omega⟩⟩
  rw [List.mem_singleton] at hw
  subst hw
  refine ⟨⟨⟨_, _, _, _, [(.slice (some ⟨m.next + 56, 0, none⟩) 2 1, [false, true]), (.slice (some ⟨m.next + 63, 0, none⟩) 2 1, [false, false])], g59, (RdV.blk (sz := 4) (n := 2) g45 rfl (hX 37 (by decide) (by decide)).1 (hX 37 (by decide) (by decide)).2), rfl, (RdV.blk (sz := 1) (n := 2) g73 rfl (hX 65 (by decide) (by decide)).1 (hX 65 (by decide) (by decide)).2), fun r hr => ?_, (RdV.blk (sz := 1) (n := 2) g68 rfl (hX 60 (by decide) (by decide)).1 (hX 60 (by decide) (by decide)).2), (RdV.blk (sz := 1) (n := 2) g70 rfl (hX 62 (by decide) (by decide)).1 (hX 62 (by decide) (by decide)).2)⟩, hX 51 (by decide) (by decide), ⟨rfl, wf_ab.1, rfl, rfl, wf_ab.2⟩⟩, ⟨⟨rfl, .inl ⟨rfl, .inl rfl⟩⟩, fun b hb => by cases hb⟩, by simp⟩
  simp only [List.mem_cons, List.not_mem_nil, or_false] at hr
  rcases hr with rfl | rfl
  · exact (RdV.blk (sz := 1) (n := 2) g64 rfl (hX 56 (by decide) (by decide)).1 (hX 56 (by decide) (by decide)).2)
  · exact (RdV.blk (sz := 1) (n := 2) g71 rfl (hX 63 (by decide) (by decide)).1 (hX 63 (by decide) (by decide)).2)
def es_bc : List (Option Ent) := [some (.own [.slice none 0 0] 142), some (.own [.slice (some ⟨75, 0, none⟩) 1 1, .slice (some ⟨8, 0, none⟩) 1 1, .int .i64 0, .bool false] 140), none, none, none, none, none, none, none, none, none, none, none, none, none, none, none, none, none, none, none, none, none, none, none, none, none, none, none, none, none, none, none, none, none, none, none, some (.own [.int .u64 0, .int .u64 17179869184, .int .u64 0, .int .u64 0, .int .u64 0, .int .u64 34359738368, .int .u64 0, .int .u64 0] 73), none, none, none, none, none, none, none, none, none, none, none, none, none, some (.own [.slice (some ⟨45, 0, none⟩) 2 4, .slice (some ⟨73, 0, none⟩) 2 1, .slice (some ⟨68, 0, none⟩) 2 1, .slice (some ⟨70, 0, none⟩) 2 1, .bool false] 175), none, none, none, none, some (.own [.bool false, .bool true] 4), none, none, none, some (.own [.bool true, .bool false] 4), none, some (.own [.bool false, .bool true] 4), some (.own [.bool false, .bool false] 4), none, some (.own [.slice (some ⟨64, 0, none⟩) 2 1, .slice (some ⟨71, 0, none⟩) 2 1] 142), none, some (.own [.pointer (some ⟨59, 0, none⟩)] 141)]
theorem run_bc : outM 8 (.tuple ⟨[.pointer (some ⟨9, 0, none⟩), .nilIface]⟩) es_bc (callE tab (xCall xs) Tryz.prog 3000 45 [.slice (some ⟨7, 0, none⟩) 1 1] (L1 [98, 99])) = true := by kernel_rfl
def T_bc : Tab := ⟨[⟨0, 17179869184, 0, 0⟩, ⟨0, 34359738368, 0, 0⟩], [[false, true], [false, false]], [true, false], [false, true], false⟩
theorem wf_bc : (∀ r ∈ T_bc.next, r.length = T_bc.n) ∧ T_bc.n ≤ 1000 := by decide
theorem of_bc {w0 : World} : OfC w0 [[98, 99]] True (fun c => c = [(T_bc, [])]) := by
  intro m ob Q hp hs hok herr
  obtain ⟨b, rfl⟩ : ∃ b, ob = some b := by
    cases ob with
    | none => have := hs.2; simp at this
    | some b => exact ⟨b, rfl⟩
  have hPR := partR_L1 (p := [98, 99]) hp hs.lt hs.2.1
  refine AbC_lay (r := fun j => if j = 7 then b else j) (args := [.slice (some ⟨7, 0, none⟩) 1 1]) 3000 tab_ok xs_ok hPR rfl run_bc fun M hn ho he => ?_
  have hn : M.next = m.next + 68 := hn
  have g8 : M.get (m.next + 0) = .own [.slice none 0 0] 142 := he 0 _ rfl
  have g9 : M.get (m.next + 1) = .own [.slice (some ⟨m.next + 67, 0, none⟩) 1 1, .slice (some ⟨m.next + 0, 0, none⟩) 1 1, .int .i64 0, .bool false] 140 := he 1 _ rfl
  have g75 : M.get (m.next + 67) = .own [.pointer (some ⟨m.next + 51, 0, none⟩)] 141 := he 67 _ rfl
  have g59 : M.get (m.next + 51) = .own [.slice (some ⟨m.next + 37, 0, none⟩) 2 4, .slice (some ⟨m.next + 65, 0, none⟩) 2 1, .slice (some ⟨m.next + 60, 0, none⟩) 2 1, .slice (some ⟨m.next + 62, 0, none⟩) 2 1, .bool false] 175 := he 51 _ rfl
  have g45 : M.get (m.next + 37) = .own [.int .u64 0, .int .u64 17179869184, .int .u64 0, .int .u64 0, .int .u64 0, .int .u64 34359738368, .int .u64 0, .int .u64 0] 73 := he 37 _ rfl
  have g73 : M.get (m.next + 65) = .own [.slice (some ⟨m.next + 56, 0, none⟩) 2 1, .slice (some ⟨m.next + 63, 0, none⟩) 2 1] 142 := he 65 _ rfl
  have g68 : M.get (m.next + 60) = .own [.bool true, .bool false] 4 := he 60 _ rfl
  have g70 : M.get (m.next + 62) = .own [.bool false, .bool true] 4 := he 62 _ rfl
  have g64 : M.get (m.next + 56) = .own [.bool false, .bool true] 4 := he 56 _ rfl
  have g71 : M.get (m.next + 63) = .own [.bool false, .bool false] 4 := he 63 _ rfl
  refine hok M ⟨m.next + 1, m.next + 0, [⟨m.next + 51, T_bc, .slice none 0 0, []⟩], 0, false⟩ ⟨by omega, ho⟩ rfl rfl rfl ?_ (by show m.next ≤ m.next + 1; omega) (by show m.next ≤ m.next + 0; omega)
  show WatV (fun i => m.next ≤ i ∧ i ≠ m.next + 1 ∧ i ≠ m.next + 0) M (m.next + 1) (m.next + 0) [⟨m.next + 51, T_bc, .slice none 0 0, []⟩] 0 false
  have hX : ∀ k : Nat, 2 ≤ k → k < 68 → m.next + k < M.next ∧ (m.next ≤ m.next + k ∧ m.next + k ≠ m.next + 1 ∧ m.next + k ≠ m.next + 0) := fun k h1 h2 => ⟨by omega, by omega, by omega, by omega⟩
  refine ⟨⟨_, g9, (RdV.blk (sz := 1) (n := 1) g75 rfl (hX 67 (by decide) (by decide)).1 (hX 67 (by decide) (by decide)).2)⟩, g8, fun w hw => ?_, ⟨fun h => h.2.1 rfl, fun h => h.2.2 rfl, by omega, by omega, by omega⟩, by simp, fun i hi => ⟨by omega, by omega, by omega⟩⟩
  rw [List.mem_singleton] at hw
  subst hw
  refine ⟨⟨⟨_, _, _, _, [(.slice (some ⟨m.next + 56, 0, none⟩) 2 1, [false, true]), (.slice (some ⟨m.next + 63, 0, none⟩) 2 1, [false, false])], g59, (RdV.blk (sz := 4) (n := 2) g45 rfl (hX 37 (by decide) (by decide)).1 (hX 37 (by decide) (by decide)).2), rfl, (RdV.blk (sz := 1) (n := 2) g73 rfl (hX 65 (by decide) (by decide)).1 (hX 65 (by decide) (by decide)).2), fun r hr => ?_, (RdV.blk (sz := 1) (n := 2) g68 rfl (hX 60 (by decide) (by decide)).1 (hX 60 (by decide) (by decide)).2), (RdV.blk (sz := 1) (n := 2) g70 rfl (hX 62 (by decide) (by decide)).1 (hX 62 (by decide) (by decide)).2)⟩, hX 51 (by decide) (by decide), ⟨rfl, wf_bc.1, rfl, rfl, wf_bc.2⟩⟩, ⟨⟨rfl, .inl ⟨rfl, .inl rfl⟩⟩, fun b hb => by cases hb⟩, by simp⟩
  simp only [List.mem_cons, List.not_mem_nil, or_false] at hr
  rcases hr with rfl | rfl
  · exact (RdV.blk (sz := 1) (n := 2) g64 rfl (hX 56 (by decide) (by decide)).1 (hX 56 (by decide) (by decide)).2)
  · exact (RdV.blk (sz := 1) (n := 2) g71 rfl (hX 63 (by decide) (by decide)).1 (hX 63 (by decide) (by decide)).2)
end Go.Proofs.YtjlicambfepfiaaGreatDoor.Ab

set_option linter.unusedVariables false
set_option linter.unusedSimpArgs false
namespace Go.Proofs.YtjlicambfepfiaaGreatDoor.Ab
open Go Go.RowKit
set_option maxHeartbeats 4000000
set_option maxRecDepth 100000
theorem c_POfV {w0 : World} {V : List Nat} {m : Mem} {v : Value} {l : List DV} {G : List (List UInt8) → Prop} {P : List (List UInt8) → List (Tab × List Bool) → Prop} {J : PlS → Prop} {Q : Value → Mem → Prop} (hp : Part L0 m) (hx : DsX (fun i => i ∉ V) m v l) (hVm : ∀ i ∈ V, i < m.next ∧ L0.n ≤ i) (hS : StepsOk w0 G P l) (hJ : chkOk l → SafeJ G P l J ∧ ∀ im, J (pl0 im))
    (hgood : chkOk l → ∀ m' ip im sv s' out ob, RunR G P l 0 (pl0 im) [] s' out → PlayV V m' ip sv l s' → Old m m' → (∀ i ∈ ownP ip s', m.next ≤ i) → SlO m' 5 1 ob (out.map byteV) out.length → (∀ i, ob = some i → m.next ≤ i) → Q (.tuple ⟨[.pointer (some ⟨ip, 0, none⟩), slV ob out.length 1]⟩) m')
    (hbad : ¬ (chkOk l ∧ ∀ x ∈ l, x.1.kd = 1 → G (pats x.1)) → ∀ m' ip im sv, PlayV V m' ip sv l { pl0 im with st := 2 } → Old m m' → m.next ≤ ip → m.next ≤ im → Q (.tuple ⟨[.pointer (some ⟨ip, 0, none⟩), .slice none 0 0]⟩) m') :
    AbC Tryz.prog w0 25 [v] m Q := by
  refine AbC_fn ok25 (by simp) ?_
  have hv := hx.dsV
  have hel := hv.sl.elems
  have hlv := hv.sl.lenV
  have hll := hS.len
  have hone : (l.flatMap vC).all oneC = true := by
    rw [List.all_eq_true]
    intro c hc
    obtain ⟨x, hx, hc⟩ := List.mem_flatMap.1 hc
    have := (hv.ar x hx).sl.one.1
    simp only [vC, dsC, List.mem_cons, List.not_mem_nil, or_false] at hc
    rcases hc with rfl | rfl | rfl | rfl | rfl | rfl | rfl <;> first | rfl | exact this
  simp -implicitDefEqProofs (disch := first | assumption | (simp only [wnA]; done) | (simp only [wnA]; omega) | omega | fail) [rc25, ro25, wkA, retV, stabOk, dC, ev, fillD, pickCells, putAt, bnd, slD, List.getElem?_cons_zero, List.getElem?_cons_succ, dR.eq_20, Mem.cell, Mem.row, wmA]
  refine SK_app_new (k := l.length) (ys := l.flatMap vC) (by simp [wkA, retV, stabOk, dC, ev, fillD, pickCells, putAt, bnd, slD, List.getElem?_cons_zero, List.getElem?_cons_succ, dR.eq_20]) (by simpa [wkA, retV, stabOk, dC, ev, fillD, pickCells, putAt, bnd, slD, List.getElem?_cons_zero, List.getElem?_cons_succ, dR.eq_20] using hel) (by simpa [wkA, retV, stabOk, dC, ev, fillD, pickCells, putAt, bnd, slD, List.getElem?_cons_zero, List.getElem?_cons_succ, dR.eq_20] using hlv) hone (by omega) (by simp only [maxLen]; omega) (by rw [flat_len vC_len]) fun oc m1 sc hn1 hoc hge => ?_
  have o1 : Old m m1 := ⟨hn1, hge⟩
  simp -implicitDefEqProofs (disch := first | assumption | (simp only [wnA]; done) | (simp only [wnA]; omega) | omega | fail) [wkA, retV, stabOk, dC, ev, fillD, pickCells, putAt, bnd, slD, List.getElem?_cons_zero, List.getElem?_cons_succ, dR.eq_20, Mem.cell, Mem.row, wmA]
  rw [SK_mkm]
  simp -implicitDefEqProofs (disch := first | assumption | (simp only [wnA]; done) | (simp only [wnA]; omega) | omega | fail) [wkA, retV, stabOk, dC, ev, fillD, pickCells, putAt, bnd, slD, List.getElem?_cons_zero, List.getElem?_cons_succ, dR.eq_20, Mem.cell, Mem.row, wmA]
  obtain ⟨sv, hsv⟩ : ∃ sv, slV oc l.length 7 = sv := ⟨_, rfl⟩
  have hsv1 : oneC sv = true ∧ cellsV sv = [sv] := by subst hsv; cases oc <;> exact ⟨rfl, rfl⟩
  obtain ⟨M, hM⟩ : ∃ M, (m1.push (.map [] 0)).push (.own (plC sv (pl0 m1.next)) 105) = M := ⟨_, rfl⟩
  have oM : Old m1 M := by subst hM; exact ((Old.refl m1).push _).push _
  have gM : M.get (m1.next + 1) = .own (plC sv (pl0 m1.next)) 105 := by subst hM; rw [Mem.push_at _ _ (by simp)]
  have gm : M.get m1.next = .map [] 0 := by subst hM; rw [Mem.push_old _ _ (by simp), Mem.push_same]
  have nM : M.next = m1.next + 2 := by subst hM; simp
  have hown : ownP (m1.next + 1) (pl0 m1.next) = [m1.next + 1, m1.next] := by simp [ownP, pl0]
  have hP : PlayV V M (m1.next + 1) sv l (pl0 m1.next) := by
    have hX : ∀ i, i < m1.next → i ∉ V → i ∉ ownP (m1.next + 1) (pl0 m1.next) ++ V := fun i hi hn hm => by
      rcases List.mem_append.1 hm with hm | hm
      · rw [hown] at hm
        simp only [List.mem_cons, List.not_mem_nil, or_false] at hm
        omega
      · exact hn hm
    refine ⟨gM, ⟨⟨?_, fun b hb => ?_⟩, fun x hxm => ⟨((hv.ar x hxm).old (o1.trans oM)).sl, fun b hb => ?_⟩⟩, ⟨[], 0, gm, (fun e he => by cases he), fun k => rfl⟩, ⟨rfl, rfl⟩, (fun w hw => by cases hw), by rw [hown]; simp, fun i hi => ?_, (o1.trans oM).part hp, fun i hi => ?_, fun i hi hiV => ?_⟩
    · subst hsv
      exact (sc.keep oM.1 fun b hb => oM.2 b (by subst hb; exact sc.lt)).read
    · subst hsv
      rw [blk_slV] at hb
      subst hb
      have := sc.lt
      exact ⟨by omega, hX b this fun hm => by have := (hVm b hm).1; have := hoc b rfl; omega⟩
    · have h1 := (hx.ar x hxm).bl b hb
      exact ⟨by omega, hX b (by omega) h1.2⟩
    · rcases List.mem_append.1 hi with hi | hi
      · rw [hown] at hi
        simp only [List.mem_cons, List.not_mem_nil, or_false] at hi
        omega
      · have := (hVm i hi).1; omega
    · rw [hown] at hi
      have := hp.1
      simp only [List.mem_cons, List.not_mem_nil, or_false] at hi
      omega
    · rw [hown] at hi
      have := (hVm i hiV).1
      simp only [List.mem_cons, List.not_mem_nil, or_false] at hi
      omega
  have hM' : (m1.push (.map [] 0)).push (.own [slV oc l.length 7, .int .i64 0, .map (some m1.next), .pointer none, .int .i64 0, .int .i64 0, .int .i64 0, .slice none 0 0] 105) = M := by rw [hsv]; exact hM
  rw [hM']
  have o0M := o1.trans oM
  refine c_Check (G := G) (P := P) (o0M.part hp) (hv.old o0M) hS (fun hok m2 o2 => ?_) fun hb m2 k t u o2 => ?_
  · have hP2 := hP.old o2
    obtain ⟨hSJ, hJ0⟩ := hJ hok
    simp -implicitDefEqProofs (disch := first | assumption | (simp only [wnA]; done) | (simp only [wnA]; omega) | omega | fail) [rc25_0, wkA, retV, stabOk, dC, ev, fillD, pickCells, putAt, bnd, slD, List.getElem?_cons_zero, List.getElem?_cons_succ, dR.eq_20, Mem.cell, Mem.row, wmA]
    refine c_run hP2 hS hSJ (hJ0 _) (fun i hi hlo => by have := (hVm i hi).2; omega) fun m3 s3 out ob hR hP3 k3 so hob how => ?_
    simp -implicitDefEqProofs (disch := first | assumption | (simp only [wnA]; done) | (simp only [wnA]; omega) | omega | fail) [wkA, retV, stabOk, dC, ev, fillD, pickCells, putAt, bnd, slD, List.getElem?_cons_zero, List.getElem?_cons_succ, dR.eq_20, Mem.cell, Mem.row, wmA]
    have o02 := o0M.trans o2
    have hbig : ∀ i ∈ ownP (m1.next + 1) (pl0 m1.next), m.next ≤ i := fun i hi => by
      rw [hown] at hi
      simp only [List.mem_cons, List.not_mem_nil, or_false] at hi
      omega
    refine hgood hok m3 (m1.next + 1) m1.next sv s3 out ob hR hP3 ⟨Nat.le_trans o02.1 k3.1, fun i hi => ?_⟩ (fun i hi => ?_) so fun i hi => Nat.le_trans o02.1 (hob i hi)
    · rw [k3.2 i (Nat.lt_of_lt_of_le hi o02.1) (fun hm => by have := hbig i hm; omega), o02.2 i hi]
    · rcases how i hi with h1 | h1
      · exact hbig i h1
      · exact Nat.le_trans o02.1 h1
  · have hP2 := hP.old o2
    simp -implicitDefEqProofs (disch := first | assumption | (simp only [wnA]; done) | (simp only [wnA]; omega) | omega | fail) [wkA, retV, stabOk, dC, ev, fillD, pickCells, putAt, bnd, slD, List.getElem?_cons_zero, List.getElem?_cons_succ, dR.eq_20, Mem.cell, Mem.row, wmA]
    refine hP2.store 0 0 2 6 (.int .i64 2) (by simp [wkA, retV, stabOk, dC, ev, fillD, pickCells, putAt, bnd, slD, List.getElem?_cons_zero, List.getElem?_cons_succ, dR.eq_20]) (by simp [wkA, retV, stabOk, dC, ev, fillD, pickCells, putAt, bnd, slD, List.getElem?_cons_zero, List.getElem?_cons_succ, dR.eq_20]) rfl (by omega) rfl fun M3 hP3 k3 => ?_
    simp -implicitDefEqProofs (disch := first | assumption | (simp only [wnA]; done) | (simp only [wnA]; omega) | omega | fail) [wkA, retV, stabOk, dC, ev, fillD, pickCells, putAt, bnd, slD, List.getElem?_cons_zero, List.getElem?_cons_succ, dR.eq_20, Mem.cell, Mem.row, wmA]
    refine hbad hb M3 (m1.next + 1) m1.next sv hP3 ⟨Nat.le_trans (o0M.trans o2).1 k3.1, fun i hi => ?_⟩ (by omega) (by omega)
    rw [k3.2 i (Nat.lt_of_lt_of_le hi (o0M.trans o2).1) (by omega), (o0M.trans o2).2 i hi]
end Go.Proofs.YtjlicambfepfiaaGreatDoor.Ab

set_option linter.unusedVariables false
set_option linter.unusedSimpArgs false
namespace Go.Proofs.YtjlicambfepfiaaGreatDoor.Ab
open Go Go.RowKit
set_option maxHeartbeats 4000000
set_option maxRecDepth 100000
def stA (a : Value) : DV := (⟨[97], 1, [], [⟨[97, 98], [98]⟩], 9, [97], 0⟩, a)
def stB (a : Value) : DV := (⟨[98], 1, [], [⟨[98, 99], [99]⟩], 9, [98], 0⟩, a)
def stC : DV := (⟨[99], 4, [], [], 0, [], 0⟩, .slice none 0 0)
def lH (a b : Value) : List DV := [stA a, stB b, stC]
def lQ (b : Value) : List DV := [stB b, stC]
abbrev gH (ps : List (List UInt8)) : Prop := True
def pH (ps : List (List UInt8)) (c : List (Tab × List Bool)) : Prop := (ps = [[97, 98]] → c = [(T_ab, [])]) ∧ (ps = [[98, 99]] → c = [(T_bc, [])])
theorem lH_ok {w0 : World} (a b : Value) : StepsOk w0 gH pH (lH a b) := by
  refine ⟨by simp [lH], fun x hx => ?_, fun x hx h1 => ?_⟩
  · simp only [lH, List.mem_cons, List.not_mem_nil, or_false] at hx
    rcases hx with rfl | rfl | rfl <;> simp [stA, stB, stC]
  · simp only [lH, List.mem_cons, List.not_mem_nil, or_false] at hx
    rcases hx with rfl | rfl | rfl
    · exact fun m ob Q hp hs hok herr => of_ab m ob Q hp hs (fun m' w o hl hPw ho hW n1 n2 => hok m' w o hl ⟨fun _ => hPw, fun h => by simp [pats, stA] at h⟩ ho hW n1 n2) herr
    · exact fun m ob Q hp hs hok herr => of_bc m ob Q hp hs (fun m' w o hl hPw ho hW n1 n2 => hok m' w o hl ⟨fun h => by simp [pats, stB] at h, fun _ => hPw⟩ ho hW n1 n2) herr
    · simp [stC] at h1
theorem lQ_ok {w0 : World} (b : Value) : StepsOk w0 gH pH (lQ b) := by
  have h := lH_ok (w0 := w0) b b
  exact ⟨by simp [lQ], fun x hx => h.sz x (List.mem_cons_of_mem _ hx), fun x hx => h.of x (List.mem_cons_of_mem _ hx)⟩
theorem lH_chk (a b : Value) : chkOk (lH a b) := by
  refine ⟨⟨by simp [lH], by simp [lH]⟩, fun j x hx => ?_⟩
  have hf : ∀ t, findN t (lH a b) 0 = if [97] = t ∧ t ≠ [] then 0 else if [98] = t ∧ t ≠ [] then 1 else if [99] = t ∧ t ≠ [] then 2 else -1 := fun t => by simp [lH, findN, stA, stB, stC]
  rcases (show j = 0 ∨ j = 1 ∨ j = 2 ∨ 3 ≤ j by omega) with rfl | rfl | rfl | h3
  · simp only [lH, List.getElem?_cons_zero, Option.some.injEq] at hx; subst hx
    refine ⟨fun _ => by rw [hf]; simp [stA], fun _ => by rw [hf]; simp [stA], fun _ x hx => ?_⟩
    simp only [stA, List.mem_singleton] at hx; subst hx; rw [hf]; simp
  · simp only [lH, List.getElem?_cons_zero, List.getElem?_cons_succ, Option.some.injEq] at hx; subst hx
    refine ⟨fun _ => by rw [hf]; simp [stB], fun _ => by rw [hf]; simp [stB], fun _ x hx => ?_⟩
    simp only [stB, List.mem_singleton] at hx; subst hx; rw [hf]; simp
  · simp only [lH, List.getElem?_cons_zero, List.getElem?_cons_succ, Option.some.injEq] at hx; subst hx
    exact ⟨fun _ => by rw [hf]; simp [stC], fun h => by simp [stC] at h, fun h => by simp [stC] at h⟩
  · rw [List.getElem?_eq_none (by simp [lH]; omega)] at hx; cases hx
theorem lQ_chk (b : Value) : chkOk (lQ b) := by
  refine ⟨⟨by simp [lQ], by simp [lQ]⟩, fun j x hx => ?_⟩
  have hf : ∀ t, findN t (lQ b) 0 = if [98] = t ∧ t ≠ [] then 0 else if [99] = t ∧ t ≠ [] then 1 else -1 := fun t => by simp [lQ, findN, stB, stC]
  rcases (show j = 0 ∨ j = 1 ∨ 2 ≤ j by omega) with rfl | rfl | h3
  · simp only [lQ, List.getElem?_cons_zero, Option.some.injEq] at hx; subst hx
    refine ⟨fun _ => by rw [hf]; simp [stB], fun _ => by rw [hf]; simp [stB], fun _ x hx => ?_⟩
    simp only [stB, List.mem_singleton] at hx; subst hx; rw [hf]; simp
  · simp only [lQ, List.getElem?_cons_zero, List.getElem?_cons_succ, Option.some.injEq] at hx; subst hx
    exact ⟨fun _ => by rw [hf]; simp [stC], fun h => by simp [stC] at h, fun h => by simp [stC] at h⟩
  · rw [List.getElem?_eq_none (by simp [lQ]; omega)] at hx; cases hx
def okL (l : List Bool) (b : Bool) : Prop := (l = [] ∧ b = false) ∨ l = [b, false]
def abc (c : UInt8) : Prop := c = 97 ∨ c = 98 ∨ c = 99
/-- The table is one of the bytes x and y, one behind the other. -/
structure TwoT (T : Tab) (x y : UInt8) : Prop where
  step : ∀ l b c, okL l b → abc c → stepB T l c true = [decide (c = x), decide (c = y) && b]
  ends : ∀ p q, endsB T [p, q] = q
theorem two_ab : TwoT T_ab 97 98 := by
  refine ⟨fun l b c hl hc => ?_, fun p q => by cases p <;> cases q <;> decide +kernel⟩
  rcases hl with ⟨rfl, rfl⟩ | rfl
  · rcases hc with rfl | rfl | rfl <;> decide +kernel
  · cases b <;> (rcases hc with rfl | rfl | rfl <;> decide +kernel)
theorem two_bc : TwoT T_bc 98 99 := by
  refine ⟨fun l b c hl hc => ?_, fun p q => by cases p <;> cases q <;> decide +kernel⟩
  rcases hl with ⟨rfl, rfl⟩ | rfl
  · rcases hc with rfl | rfl | rfl <;> decide +kernel
  · cases b <;> (rcases hc with rfl | rfl | rfl <;> decide +kernel)
/-- It waits for T's two bytes at step j; b: the last byte was the first one. -/
structure WX (T : Tab) (s : PlS) (j : Int) (b : Bool) : Prop where
  st : s.st = 0
  at_ : s.at_ = j
  w : ∃ w, s.wat = some w ∧ w.over = false ∧ ∃ l, w.ws.map WaE.core = [(T, l)] ∧ okL l b
theorem put_WX {l : List DV} {T : Tab} {x y c : UInt8} {s s' : PlS} {j : Int} {b : Bool} {out : List UInt8} (hT : TwoT T x y) (h : WX T s j b) (hc : abc c) (hP : PutR gH pH l c s s' out) :
    (c = y ∧ b = true ∧ ∃ e a o, 0 ≤ j ∧ l[j.toNat]? = some e ∧ e.1.arms[0]? = some a ∧ RunR gH pH l 0 { s with wat := none, ot := some o, tr := s.tr ++ [0], at_ := findN a.to l 0 } [] s' out) ∨ (¬ (c = y ∧ b = true) ∧ WX T s' j (decide (c = x))) := by
  obtain ⟨w, hw, ho, ll, hcore, hok⟩ := h.w
  have hlen : w.ws.length = 1 := by have := congrArg List.length hcore; simpa using this
  have hwc : watC c w = [(T, [decide (c = x), decide (c = y) && b])] := by
    unfold watC
    rw [hcore]
    simp only [List.map_cons, List.map_nil, coreS, hT.step ll b c hok hc]
  have hbest : bestC c w = if (decide (c = y) && b) = true then 0 else -1 := by
    unfold bestC
    rw [hwc, hlen]
    simp only [bestJ, List.getElem?_cons_zero, hT.ends]
    cases (decide (c = y) && b) <;> simp
  cases hP with
  | off h1 => rcases h1 with h1 | h1; exact absurd h.st h1; rw [hw] at h1; cases h1
  | over w2 a1 a2 a3 => rw [hw] at a2; cases a2; rw [ho] at a3; cases a3
  | no w2 w' a1 a2 a3 a4 a5 a6 a7 =>
    rw [hw] at a2; cases a2
    right
    have hn : ¬ ((decide (c = y) && b) = true) := fun hh => by rw [hbest, if_pos hh] at a7; omega
    have hf : (decide (c = y) && b) = false := by simpa using hn
    refine ⟨fun hh => hn (by simp [hh.1, hh.2]), ⟨h.st, h.at_, w', rfl, a6, [decide (c = x), false], ?_, .inr rfl⟩⟩
    rw [a4, hwc, hf]
  | go w2 e a o s2 _ a1 a2 a3 a4 a5 a6 a7 a8 =>
    rw [hw] at a2; cases a2
    left
    have hy : (decide (c = y) && b) = true := by
      by_cases hh : (decide (c = y) && b) = true
      · exact hh
      · rw [hbest, if_neg hh] at a4; omega
    have hb0 : bestC c w = 0 := by rw [hbest, if_pos hy]
    simp only [Bool.and_eq_true, decide_eq_true_eq] at hy
    rw [hb0] at a7 a8
    rw [h.at_] at a5 a6
    exact ⟨hy.1, hy.2, e, a, o, a5, a6, a7, a8⟩
/-- It has ended well. -/
theorem put_D {l : List DV} {c : UInt8} {s s' : PlS} {out : List UInt8} (h : s.st = 1) (hP : PutR gH pH l c s s' out) : s' = s := by
  cases hP with
  | off => rfl
  | over w a1 => omega
  | no w w' a1 => omega
  | go w e a o s2 _ a1 => omega
theorem run_E {l : List DV} {T : Tab} {e : DV} {n j : Nat} {s s' : PlS} {out out' : List UInt8} (hx : l[j]? = some e) (he : e.1.kd = 1) (hp : ∀ c, pH (pats e.1) c → c = [(T, [])]) (hn : n < 200) (h0 : s.st = 0) (h1 : s.wat = none) (h2 : s.at_ = (j : Int)) (h : RunR gH pH l n s out s' out') : WX T s' j false := by
  have hjl : j < l.length := by
    rcases Nat.lt_or_ge j l.length with h' | h'
    · exact h'
    · rw [List.getElem?_eq_none h'] at hx; cases hx
  cases h with
  | stop _ _ _ h => rcases h with h | h; exact absurd h0 h; exact absurd h1 h
  | ill _ _ _ _ _ h => rcases h with h | h; omega; rw [h2] at h; omega
  | step _ _ s1 s2 x o out1 out2 a1 a2 a3 a4 hx2 hO hR =>
    rw [h2, Int.toNat_natCast, hx] at hx2
    cases hx2
    cases hO with
    | send h => omega
    | exp w b1 b2 b3 b4 =>
      cases hR with
      | stop => exact ⟨h0, h2, w, rfl, b4, [], hp _ b3, .inl ⟨rfl, rfl⟩⟩
      | ill _ _ _ _ h => cases h
      | step _ _ _ _ _ _ _ _ _ h => cases h
    | expN b1 b2 => exact absurd trivial b2
    | goto h => omega
    | tryA h => omega
    | tryB h => omega
    | done h => omega
    | fail h1 h2 => omega
theorem run_C {l : List DV} {j : Nat} {s s' : PlS} {out out' : List UInt8} (hx : l[j]? = some stC) (h0 : s.st = 0) (h1 : s.wat = none) (h2 : s.at_ = (j : Int)) (h : RunR gH pH l 0 s out s' out') : s'.st = 1 := by
  have hjl : j < l.length := by
    rcases Nat.lt_or_ge j l.length with h' | h'
    · exact h'
    · rw [List.getElem?_eq_none h'] at hx; cases hx
  cases h with
  | stop _ _ _ h => rcases h with h | h; exact absurd h0 h; exact absurd h1 h
  | ill _ _ _ _ _ h => rcases h with h | h; omega; rw [h2] at h; omega
  | step _ _ s1 s2 x o out1 out2 a1 a2 a3 a4 hx2 hO hR =>
    rw [h2, Int.toNat_natCast, hx] at hx2
    cases hx2
    cases hO with
    | send h => simp [stC] at h
    | exp w b1 => simp [stC] at b1
    | expN b1 b2 => exact absurd trivial b2
    | goto h => simp [stC] at h
    | tryA h => simp [stC] at h
    | tryB h => simp [stC] at h
    | done h =>
      cases hR with
      | stop => rfl
      | ill _ _ _ h => cases h
      | step _ _ _ _ _ _ _ _ h => cases h
    | fail h1 h2 h3 h4 h5 => exact absurd rfl h5
end Go.Proofs.YtjlicambfepfiaaGreatDoor.Ab

set_option linter.unusedVariables false
set_option linter.unusedSimpArgs false
namespace Go.Proofs.YtjlicambfepfiaaGreatDoor.Ab
open Go Go.RowKit
set_option maxHeartbeats 4000000
set_option maxRecDepth 100000
theorem awkP : outIs (.bool true) (callE tab (xCall xs) Tryz.prog 3000 24 [] L0) = true := by kernel_rfl
theorem c_awakeP {w0 : World} {m : Mem} {Q : Value → Mem → Prop} (hp : Part L0 m) (hq : Q (.bool true) m) : AbC Tryz.prog w0 24 [] m Q :=
  AbC_run 3000 tab_ok xs_ok hp (Nat.le_of_eq globals_size) rfl awkP rfl hq
end Go.Proofs.YtjlicambfepfiaaGreatDoor.Ab

set_option linter.unusedVariables false
set_option linter.unusedSimpArgs false
namespace Go.Proofs.YtjlicambfepfiaaGreatDoor.Ab
open Go Go.RowKit
set_option maxHeartbeats 4000000
set_option maxRecDepth 100000
def posJ (s : PlS) : Prop := 0 ≤ s.at_
theorem safe_of {G : List (List UInt8) → Prop} {P : List (List UInt8) → List (Tab × List Bool) → Prop} {l : List DV} (hl : l.length ≤ 1000) (hc : chkOk l) : SafeJ G P l posJ := by
  refine ⟨fun s h => h, fun s x s' o hs h0 hw hx hO => ?_⟩
  have hs : 0 ≤ s.at_ := hs
  have hlt : s.at_.toNat < l.length := by
    rcases Nat.lt_or_ge s.at_.toNat l.length with h' | h'
    · exact h'
    · rw [List.getElem?_eq_none h'] at hx; cases hx
  have hck := hc.2 _ _ hx
  unfold posJ
  cases hO with
  | send h => show 0 ≤ IntKind.i64.wrap (s.at_ + 1); rw [w64 (by omega)]; omega
  | exp w h1 h2 h3 h4 => exact hs
  | expN h1 h2 => exact hs
  | goto h => exact hck.2.1 (.inr (.inl h))
  | tryA h1 h2 => exact hck.2.1 (.inr (.inr h1))
  | tryB h1 h2 => show 0 ≤ IntKind.i64.wrap (s.at_ + 1); rw [w64 (by omega)]; omega
  | done h => exact hs
  | fail h1 h2 h3 h4 h5 => exact hs
end Go.Proofs.YtjlicambfepfiaaGreatDoor.Ab

set_option linter.unusedVariables false
set_option linter.unusedSimpArgs false
namespace Go.Proofs.YtjlicambfepfiaaGreatDoor.Ab
open Go Go.RowKit
set_option maxHeartbeats 4000000
set_option maxRecDepth 100000
theorem abc_sub : ∀ k : Fin 3, (ByteArray.mk #[97, 98, 99]).extract k.val (k.val + 1) = ⟨⟨[UInt8.ofNat (97 + k.val)]⟩⟩ := by decide +kernel
theorem abc_ofNat : ∀ k : Fin 3, abc (UInt8.ofNat (97 + k.val)) := by unfold abc; decide +kernel
theorem c_Text7 {w0 : World} {m : Mem} {v : Value} {ns : List UInt8} {Q : Value → Mem → Prop} (hv : SlR m 1 v (ns.map byteV) ns.length) (hl : ns.length ≤ maxLen) (hq : ∀ t : List UInt8, t.length ≤ 14 → (∀ c ∈ t, abc c) → Q (.string ⟨⟨t⟩⟩) m) : AbC Tryz.prog w0 29 [v] m Q := by
  refine AbC_fn ok29 (by simp) ?_
  simp -implicitDefEqProofs (disch := first | assumption | (simp only [wnA]; done) | (simp only [wnA]; omega) | omega | fail) [rc29, ro29, wkA, retV, stabOk, dC, ev, fillD, pickCells, putAt, bnd, slD, List.getElem?_cons_zero, List.getElem?_cons_succ, dR.eq_20, Mem.cell, Mem.row, wmA, hv.slen]
  refine LoopW_of (fun q ts m' => ∃ (j : Nat) (t : List UInt8), j + q = ns.length ∧ m' = m ∧ t.length ≤ min j 14 ∧ (∀ c ∈ t, abc c) ∧ ts 3 = .string ⟨⟨t⟩⟩ ∧ ts 6 = v ∧ ts 7 = .int .i64 (ns.length : Nat) ∧ ts 8 = .int .i64 (j : Nat)) ns.length ?_ ?_
  · exact ⟨0, [], by omega, rfl, by simp, (fun c hc => by cases hc), by simp, by simp, by simp, by simp⟩
  · rintro q ts m1 K ⟨j, t, hj, rfl, ht, hc, t3, t6, t7, t8⟩ hK
    simp -implicitDefEqProofs (disch := first | assumption | (simp only [wnA]; done) | (simp only [wnA]; omega) | omega | fail) [rc29_1, wkA, retV, stabOk, dC, ev, fillD, pickCells, putAt, bnd, slD, List.getElem?_cons_zero, List.getElem?_cons_succ, dR.eq_20, Mem.cell, Mem.row, wmA, t7, t8]
    by_cases hjl : j < ns.length
    · obtain ⟨bi, bo, L, hvv, hL, hLl, -, hLc⟩ := hv.at hjl
      have hcc := hLc 0 (by omega)
      simp only [Nat.mul_one, Nat.add_zero, List.getElem?_map, List.getElem?_eq_getElem hjl, Option.map_some] at hcc
      obtain ⟨x, hx⟩ : ∃ x, ns[j] = x := ⟨_, rfl⟩
      rw [hx] at hcc
      have hcc : L[bo + j]? = some (.int .u8 (x.toNat : Int)) := hcc
      have hsx : sidx 1 v (.int .i64 (j : Int)) = some (.pointer (some ⟨bi, bo + j, none⟩)) := by rw [hvv]; simpa using sidx_at (b := bi) (o := bo) (n := ns.length) (c := 1) (j := j) (sz := 1) (k := .i64) hjl
      have hjw : IntKind.i64.wrap ((j : Int) + 1) = ((j + 1 : Nat) : Int) := by simp only [maxLen] at hl; rw [w64 (by omega)]; omega
      by_cases h14 : j < 14
      · have h14' : (j : Int) < 14 := by omega
        have r1 : dBin .rem (.int .u8 (x.toNat : Int)) (.int .u8 3) = some (.int .u8 ((x.toNat % 3 : Nat) : Int)) := rem_u8 (b := 3) (by omega)
        have hr : x.toNat % 3 < 3 := Nat.mod_lt _ (by omega)
        have he := abc_sub ⟨x.toNat % 3, hr⟩
        have hab := abc_ofNat ⟨x.toNat % 3, hr⟩
        simp only at he hab
        have hcat := cat2 (a := t) (b := [UInt8.ofNat (97 + x.toNat % 3)]) (by simp; omega)
        generalize x.toNat % 3 = r at *
        have w1 : IntKind.u8.wrap ((r : Int) + 1) = ((r + 1 : Nat) : Int) := by
          rcases (show r = 0 ∨ r = 1 ∨ r = 2 by omega) with rfl | rfl | rfl <;> rfl
        generalize UInt8.ofNat (97 + r) = c at *
        simp -implicitDefEqProofs (disch := first | assumption | (simp only [wnA]; done) | (simp only [wnA]; omega) | omega | fail) [hjl, h14, h14', rc29_0, wkA, retV, stabOk, dC, ev, fillD, pickCells, putAt, bnd, slD, List.getElem?_cons_zero, List.getElem?_cons_succ, dR.eq_20, Mem.cell, Mem.row, wmA, t6, t8, hsx, hL, hcc, getL hcc, r1, w1]
        have hi : (if 0 ≤ (r : Int) + 1 ∧ (r : Int) + 1 ≤ ((ByteArray.mk #[97, 98, 99]).size : Int) then some (r + 1) else none) = some (r + 1) := if_pos ⟨by omega, by show (r : Int) + 1 ≤ 3; omega⟩
        simp -implicitDefEqProofs (disch := first | assumption | (simp only [wnA]; done) | (simp only [wnA]; omega) | omega | fail) [wkA, retV, stabOk, dC, ev, fillD, pickCells, putAt, bnd, slD, List.getElem?_cons_zero, List.getElem?_cons_succ, dR.eq_20, Mem.cell, Mem.row, wmA, hi, he, t3, hcat, t8, hjw]
        exact hK (q - 1) _ _ (by omega) ⟨j + 1, t ++ [c], by omega, rfl, by rw [List.length_append]; simp; omega, fun y hy => by
          rcases List.mem_append.1 hy with hy | hy
          · exact hc y hy
          · rw [List.mem_singleton] at hy; subst hy; exact hab, by simp, by simp [t6], by simp [t7], by simp⟩
      · have h14' : ¬ (j : Int) < 14 := by omega
        simp -implicitDefEqProofs (disch := first | assumption | (simp only [wnA]; done) | (simp only [wnA]; omega) | omega | fail) [hjl, h14, h14', rc29_0, wkA, retV, stabOk, dC, ev, fillD, pickCells, putAt, bnd, slD, List.getElem?_cons_zero, List.getElem?_cons_succ, dR.eq_20, Mem.cell, Mem.row, wmA, t6, t8, hsx, hL, hcc, getL hcc, hjw]
        exact hK (q - 1) _ _ (by omega) ⟨j + 1, t, by omega, rfl, by omega, hc, by simp [t3], by simp [t6], by simp [t7], by simp⟩
    · simp -implicitDefEqProofs (disch := first | assumption | (simp only [wnA]; done) | (simp only [wnA]; omega) | omega | fail) [hjl, rc29_2, wkA, retV, stabOk, dC, ev, fillD, pickCells, putAt, bnd, slD, List.getElem?_cons_zero, List.getElem?_cons_succ, dR.eq_20, Mem.cell, Mem.row, wmA, t3]
      exact hq t (by omega) hc
end Go.Proofs.YtjlicambfepfiaaGreatDoor.Ab

set_option linter.unusedVariables false
set_option linter.unusedSimpArgs false
namespace Go.Proofs.YtjlicambfepfiaaGreatDoor.Ab
open Go Go.RowKit
set_option maxHeartbeats 4000000
set_option maxRecDepth 100000
/-- Where one is: ahead of the first pattern, ahead of the second one, at the end. -/
inductive AS where
  | a (b : Bool)
  | b (b : Bool)
  | d
def AS.next : AS → UInt8 → AS
  | .a t, c => if c = 98 ∧ t = true then .b false else .a (decide (c = 97))
  | .b t, c => if c = 99 ∧ t = true then .d else .b (decide (c = 98))
  | .d, _ => .d
def relH (s : PlS) : AS → Prop
  | .a t => WX T_ab s 0 t
  | .b t => WX T_bc s 1 t
  | .d => s.st = 1 ∧ s.at_ = 2
def relQ (s : PlS) : AS → Prop
  | .a _ => False
  | .b t => WX T_bc s 0 t
  | .d => s.st = 1
theorem run_C2 {l : List DV} {j : Nat} {s s' : PlS} {out out' : List UInt8} (hx : l[j]? = some stC) (h0 : s.st = 0) (h1 : s.wat = none) (h2 : s.at_ = (j : Int)) (h : RunR gH pH l 0 s out s' out') : s'.st = 1 ∧ s'.at_ = (j : Int) := by
  refine ⟨run_C hx h0 h1 h2 h, ?_⟩
  have hjl : j < l.length := by
    rcases Nat.lt_or_ge j l.length with h' | h'
    · exact h'
    · rw [List.getElem?_eq_none h'] at hx; cases hx
  cases h with
  | stop => exact h2
  | ill => exact h2
  | step _ _ s1 s2 x o out1 out2 a1 a2 a3 a4 hx2 hO hR =>
    rw [h2, Int.toNat_natCast, hx] at hx2
    cases hx2
    cases hO with
    | send h => simp [stC] at h
    | exp w b1 => simp [stC] at b1
    | expN b1 b2 => exact absurd trivial b2
    | goto h => simp [stC] at h
    | tryA h => simp [stC] at h
    | tryB h => simp [stC] at h
    | done h =>
      cases hR with
      | stop => exact h2
      | ill _ _ _ h => cases h
      | step _ _ _ _ _ _ _ _ h => cases h
    | fail h1 h2 h3 h4 h5 => exact absurd rfl h5
theorem relH_put {a b : Value} {s s' : PlS} {x : AS} {c : UInt8} {out : List UInt8} (h : relH s x) (hc : abc c) (hP : PutR gH pH (lH a b) c s s' out) : relH s' (x.next c) := by
  cases x with
  | a t =>
    rcases put_WX two_ab h hc hP with ⟨h1, h2, e, ar, o, h3, h4, h5, h6⟩ | ⟨h1, h2⟩
    · subst h1 h2
      have h4 : (lH a b)[0]? = some e := h4
      simp only [lH, List.getElem?_cons_zero, Option.some.injEq] at h4
      subst h4
      simp only [stA, List.getElem?_cons_zero, Option.some.injEq] at h5
      subst h5
      have hf : findN [98] (lH a b) 0 = 1 := by simp [lH, findN, stA, stB, stC]
      show WX T_bc s' 1 false
      have hst : s.st = 0 := WX.st h
      exact run_E (l := lH a b) (j := 1) (e := stB b) (n := 0) (s := { s with wat := none, ot := some o, tr := s.tr ++ [0], at_ := findN [98] (lH a b) 0 }) rfl rfl (fun c hc => hc.2 rfl) (by omega) hst rfl hf h6
    · show relH s' (if c = 98 ∧ t = true then .b false else .a (decide (c = 97)))
      rw [if_neg h1]; exact h2
  | b t =>
    rcases put_WX two_bc h hc hP with ⟨h1, h2, e, ar, o, h3, h4, h5, h6⟩ | ⟨h1, h2⟩
    · subst h1 h2
      have h4 : (lH a b)[1]? = some e := h4
      simp only [lH, List.getElem?_cons_zero, List.getElem?_cons_succ, Option.some.injEq] at h4
      subst h4
      simp only [stB, List.getElem?_cons_zero, Option.some.injEq] at h5
      subst h5
      have hf : findN [99] (lH a b) 0 = 2 := by simp [lH, findN, stA, stB, stC]
      have hst : s.st = 0 := WX.st h
      show s'.st = 1 ∧ s'.at_ = 2
      exact run_C2 (l := lH a b) (j := 2) (s := { s with wat := none, ot := some o, tr := s.tr ++ [0], at_ := findN [99] (lH a b) 0 }) rfl hst rfl hf h6
    · show relH s' (if c = 99 ∧ t = true then .d else .b (decide (c = 98)))
      rw [if_neg h1]; exact h2
  | d => rw [put_D h.1 hP]; exact h
theorem relQ_put {b : Value} {s s' : PlS} {x : AS} {c : UInt8} {out : List UInt8} (h : relQ s x) (hc : abc c) (hP : PutR gH pH (lQ b) c s s' out) : relQ s' (x.next c) := by
  cases x with
  | a t => exact h.elim
  | b t =>
    rcases put_WX two_bc h hc hP with ⟨h1, h2, e, ar, o, h3, h4, h5, h6⟩ | ⟨h1, h2⟩
    · subst h1 h2
      have h4 : (lQ b)[0]? = some e := h4
      simp only [lQ, List.getElem?_cons_zero, Option.some.injEq] at h4
      subst h4
      simp only [stB, List.getElem?_cons_zero, Option.some.injEq] at h5
      subst h5
      have hf : findN [99] (lQ b) 0 = 1 := by simp [lQ, findN, stB, stC]
      have hst : s.st = 0 := WX.st h
      show s'.st = 1
      exact run_C (l := lQ b) (j := 1) (s := { s with wat := none, ot := some o, tr := s.tr ++ [0], at_ := findN [99] (lQ b) 0 }) rfl hst rfl hf h6
    · show relQ s' (if c = 99 ∧ t = true then .d else .b (decide (c = 98)))
      rw [if_neg h1]; exact h2
  | d => rw [put_D h hP]; exact h
/-- What a byte needs. -/
theorem best_one {T : Tab} {x y c : UInt8} {s : PlS} {j : Int} {b : Bool} {w : WatS} (hT : TwoT T x y) (h : WX T s j b) (hc : abc c) (hw : s.wat = some w) (h0 : 0 ≤ bestC c w) : bestC c w = 0 := by
  obtain ⟨w', hw', ho, ll, hcore, hok⟩ := h.w
  rw [hw] at hw'; cases hw'
  have hlen : w.ws.length = 1 := by have := congrArg List.length hcore; simpa using this
  have := (bestJ_rng (watC c w) w.ws.length).2
  unfold bestC at h0 ⊢
  omega
theorem relH_hs {a b : Value} {s : PlS} {x : AS} {c : UInt8} (h : relH s x) (hc : abc c) : ∀ w, s.st = 0 → s.wat = some w → w.over = false → 0 ≤ bestC c w → 0 ≤ s.at_ ∧ ∃ e ar, (lH a b)[s.at_.toNat]? = some e ∧ e.1.arms[(bestC c w).toNat]? = some ar ∧ ∀ o, posJ { s with wat := none, ot := some o, tr := s.tr ++ [bestC c w], at_ := findN ar.to (lH a b) 0 } := by
  intro w h0 hw ho hb
  cases x with
  | a t =>
    have hb0 := best_one two_ab h hc hw hb
    have hat := WX.at_ h
    refine ⟨by omega, stA a, ⟨[97, 98], [98]⟩, by rw [hat]; rfl, by rw [hb0]; rfl, fun o => ?_⟩
    show 0 ≤ findN [98] (lH a b) 0
    simp [lH, findN, stA, stB, stC]
  | b t =>
    have hb0 := best_one two_bc h hc hw hb
    have hat := WX.at_ h
    refine ⟨by omega, stB b, ⟨[98, 99], [99]⟩, by rw [hat]; rfl, by rw [hb0]; rfl, fun o => ?_⟩
    show 0 ≤ findN [99] (lH a b) 0
    simp [lH, findN, stA, stB, stC]
  | d => exact absurd h0 (by rw [h.1]; decide)
theorem relQ_hs {b : Value} {s : PlS} {x : AS} {c : UInt8} (h : relQ s x) (hc : abc c) : ∀ w, s.st = 0 → s.wat = some w → w.over = false → 0 ≤ bestC c w → 0 ≤ s.at_ ∧ ∃ e ar, (lQ b)[s.at_.toNat]? = some e ∧ e.1.arms[(bestC c w).toNat]? = some ar ∧ ∀ o, posJ { s with wat := none, ot := some o, tr := s.tr ++ [bestC c w], at_ := findN ar.to (lQ b) 0 } := by
  intro w h0 hw ho hb
  cases x with
  | a t => exact h.elim
  | b t =>
    have hb0 := best_one two_bc h hc hw hb
    have hat := WX.at_ h
    refine ⟨by omega, stB b, ⟨[98, 99], [99]⟩, by rw [hat]; rfl, by rw [hb0]; rfl, fun o => ?_⟩
    show 0 ≤ findN [99] (lQ b) 0
    simp [lQ, findN, stB, stC]
  | d => exact absurd h0 (by rw [show s.st = 1 from h]; decide)
theorem relH_tr {l : List DV} {s s' : PlS} {c : UInt8} {out : List UInt8} (hP : PutR gH pH l c s s' out) (hR : ∀ n s s' out out', RunR gH pH l n s out s' out' → s'.tr = s.tr) : s'.tr.length ≤ s.tr.length + 1 := by
  cases hP with
  | off => omega
  | over => omega
  | no => show s.tr.length ≤ _; omega
  | go w e a o s2 _ a1 a2 a3 a4 a5 a6 a7 a8 =>
    rw [hR _ _ _ _ _ a8]
    simp
theorem run_tr {G : List (List UInt8) → Prop} {P : List (List UInt8) → List (Tab × List Bool) → Prop} {l : List DV} {n : Nat} {s s' : PlS} {out out' : List UInt8} (h : RunR G P l n s out s' out') : s'.tr = s.tr := by
  induction h with
  | stop => rfl
  | ill => rfl
  | step n s s1 s2 x o out out2 a1 a2 a3 a4 hx hO hR ih =>
    rw [ih]
    cases hO <;> rfl
/-- Where one is at last. -/
def AS.isA : AS → Bool
  | .a _ => true
  | _ => false
theorem next_notA {x : AS} (c : UInt8) (h : x.isA = false) : (x.next c).isA = false := by
  cases x with
  | a t => cases h
  | b t => simp only [AS.next]; split <;> rfl
  | d => rfl
theorem fold_ab (t : List UInt8) : ((t ++ [97, 98]).foldl AS.next (.a false)).isA = false := by
  rw [List.foldl_append]
  generalize t.foldl AS.next (.a false) = x
  simp only [List.foldl_cons, List.foldl_nil]
  cases x with
  | a t => cases t <;> rfl
  | b t => exact next_notA _ (next_notA _ rfl)
  | d => rfl
end Go.Proofs.YtjlicambfepfiaaGreatDoor.Ab

set_option linter.unusedVariables false
set_option linter.unusedSimpArgs false
namespace Go.Proofs.YtjlicambfepfiaaGreatDoor.Ab
open Go Go.RowKit
set_option maxHeartbeats 4000000
set_option maxRecDepth 100000
theorem ba_at {l : List UInt8} {j : Nat} {c : UInt8} (h : l[j]? = some c) : (⟨⟨l⟩⟩ : ByteArray)[j]? = some c := by
  have hj : j < l.length := by
    rcases Nat.lt_or_ge j l.length with h' | h'
    · exact h'
    · rw [List.getElem?_eq_none h'] at h; cases h
  rw [List.getElem?_eq_getElem hj] at h
  have hs : j < (⟨⟨l⟩⟩ : ByteArray).size := hj
  rw [getElem?_pos (⟨⟨l⟩⟩ : ByteArray) j hs]
  exact h
/-- Two dialogues beside each other. -/
structure Two (m : Mem) (ipq : Nat) (svq : Value) (lq : List DV) (sq : PlS) (ipr : Nat) (svr : Value) (lr : List DV) (sr : PlS) : Prop where
  q : PlayV (ownP ipr sr) m ipq svq lq sq
  r : PlayV (ownP ipq sq) m ipr svr lr sr
theorem Two.putR {m m' : Mem} {ipq ipr : Nat} {svq svr : Value} {lq lr : List DV} {sq sr sr' : PlS} (h : Two m ipq svq lq sq ipr svr lr sr) (hP : PlayV (ownP ipq sq) m' ipr svr lr sr') (k : Keeps (fun i => i ∉ ownP ipr sr) m m') (how : ∀ i ∈ ownP ipr sr', i ∈ ownP ipr sr ∨ m.next ≤ i) : Two m' ipq svq lq sq ipr svr lr sr' :=
  ⟨h.q.other k how (fun i hi => hP.lt i (List.mem_append_left _ hi)) fun i hi hlo => by have := h.r.lo i hi; omega, hP⟩
theorem Two.putQ {m m' : Mem} {ipq ipr : Nat} {svq svr : Value} {lq lr : List DV} {sq sr sq' : PlS} (h : Two m ipq svq lq sq ipr svr lr sr) (hP : PlayV (ownP ipr sr) m' ipq svq lq sq') (k : Keeps (fun i => i ∉ ownP ipq sq) m m') (how : ∀ i ∈ ownP ipq sq', i ∈ ownP ipq sq ∨ m.next ≤ i) : Two m' ipq svq lq sq' ipr svr lr sr :=
  ⟨hP, h.r.other k how (fun i hi => hP.lt i (List.mem_append_left _ hi)) fun i hi hlo => by have := h.q.lo i hi; omega⟩
theorem Two.vr {m : Mem} {ipq ipr : Nat} {svq svr : Value} {lq lr : List DV} {sq sr : PlS} (h : Two m ipq svq lq sq ipr svr lr sr) : ∀ i ∈ ownP ipr sr, i < L0.n → False := fun i hi hlo => by have := h.r.lo i hi; omega
theorem Two.vq {m : Mem} {ipq ipr : Nat} {svq svr : Value} {lq lr : List DV} {sq sr : PlS} (h : Two m ipq svq lq sq ipr svr lr sr) : ∀ i ∈ ownP ipq sq, i < L0.n → False := fun i hi hlo => by have := h.q.lo i hi; omega
theorem put_tr {l : List DV} {s s' : PlS} {c : UInt8} {out : List UInt8} (hP : PutR gH pH l c s s' out) : s'.tr.length ≤ s.tr.length + 1 := relH_tr hP fun _ _ _ _ _ h => run_tr h
theorem w_last {w0 : World} {Q : AQ} {fr : Fr} {m : Mem} {ipq ipr : Nat} {svq svr a1 a2 : Value} {sq sr : PlS} {R : List UInt8} {x : AS} (h : Two m ipq svq (lQ a2) sq ipr svr (lH a1 a2) sr) (hq : relQ sq x) (hr : relH sr x) (hR : ∀ c ∈ R, abc c) (hl : R.length ≤ 100) (t1 : sq.tr.length ≤ 200) (t2 : sr.tr.length ≤ 200)
    (f12 : fr 12 = .pointer (some ⟨ipq, 0, none⟩)) (f14 : fr 14 = .string ⟨⟨R⟩⟩) (f15 : fr 15 = .pointer (some ⟨ipr, 0, none⟩)) (hQ : ∀ fr' m', fr' 4 = .bool true → Q .ret fr' m') : AbW Tryz.prog w0 rc9_7 Q fr m := by
  have hSq : StepsOk w0 gH pH (lQ a2) := lQ_ok a2
  have hSr : StepsOk w0 gH pH (lH a1 a2) := lH_ok a1 a2
  have hJq : SafeJ gH pH (lQ a2) posJ := safe_of (by simp [lQ]) (lQ_chk a2)
  have hJr : SafeJ gH pH (lH a1 a2) posJ := safe_of (by simp [lH]) (lH_chk a1 a2)
  simp -implicitDefEqProofs (disch := first | assumption | (simp only [wnA]; done) | (simp only [wnA]; omega) | omega | fail) [rc9_7, wkA, retV, stabOk, dC, ev, fillD, pickCells, putAt, bnd, slD, List.getElem?_cons_zero, List.getElem?_cons_succ, dR.eq_20, Mem.cell, Mem.row, wmA]
  refine LoopW_of (fun q ts m' => ∃ (j : Nat) (sq sr : PlS) (x : AS), j + q = R.length ∧ Two m' ipq svq (lQ a2) sq ipr svr (lH a1 a2) sr ∧ relQ sq x ∧ relH sr x ∧ sq.tr.length ≤ 200 + j ∧ sr.tr.length ≤ 200 + j ∧ ts 12 = .pointer (some ⟨ipq, 0, none⟩) ∧ ts 14 = .string ⟨⟨R⟩⟩ ∧ ts 15 = .pointer (some ⟨ipr, 0, none⟩) ∧ ts 18 = .int .i64 (j : Nat)) R.length ?_ ?_
  · exact ⟨0, sq, sr, x, by omega, h, hq, hr, by omega, by omega, by simp [f12], by simp [f14], by simp [f15], by simp⟩
  · rintro q ts m1 K ⟨j, sq, sr, x, hj, h2, hq, hr, t1, t2, e12, e14, e15, e18⟩ hK
    simp -implicitDefEqProofs (disch := first | assumption | (simp only [wnA]; done) | (simp only [wnA]; omega) | omega | fail) [rc9_5, wkA, retV, stabOk, dC, ev, fillD, pickCells, putAt, bnd, slD, List.getElem?_cons_zero, List.getElem?_cons_succ, dR.eq_20, Mem.cell, Mem.row, wmA, e14, e18]
    by_cases hjl : j < R.length
    · obtain ⟨c, hc⟩ : ∃ c, R[j]? = some c := ⟨_, List.getElem?_eq_getElem hjl⟩
      have hcm : abc c := hR c (List.mem_of_getElem? hc)
      have hix := ba_at hc
      have hjl' : j < (⟨⟨R⟩⟩ : ByteArray).size := hjl
      have hget : (⟨⟨R⟩⟩ : ByteArray)[j] = c := by have := hix; rw [getElem?_pos (⟨⟨R⟩⟩ : ByteArray) j hjl'] at this; exact Option.some.inj this
      have hjw : IntKind.i64.wrap ((j : Int) + 1) = ((j + 1 : Nat) : Int) := by rw [w64 (by omega)]; omega
      simp -implicitDefEqProofs (disch := first | assumption | (simp only [wnA]; done) | (simp only [wnA]; omega) | omega | fail) [rc9_4, wkA, retV, stabOk, dC, ev, fillD, pickCells, putAt, bnd, slD, List.getElem?_cons_zero, List.getElem?_cons_succ, dR.eq_20, Mem.cell, Mem.row, wmA, e12, e14, e15, e18, hix, hjl', hget]
      refine c_Put (G := gH) (P := pH) (J := posJ) h2.q hSq hJq h2.vr (by omega) (relQ_hs hq hcm) fun m2 sq2 o1 ob1 hP1 hq2 k1 so1 hob1 how1 => ?_
      have h3 := h2.putQ hq2 k1 how1
      have hrq := relQ_put hq hcm hP1
      have htq := put_tr hP1
      simp -implicitDefEqProofs (disch := first | assumption | (simp only [wnA]; done) | (simp only [wnA]; omega) | omega | fail) [wkA, retV, stabOk, dC, ev, fillD, pickCells, putAt, bnd, slD, List.getElem?_cons_zero, List.getElem?_cons_succ, dR.eq_20, Mem.cell, Mem.row, wmA, e12, e14, e15, e18, hix, hjl', hget]
      refine c_Put (G := gH) (P := pH) (J := posJ) h3.r hSr hJr h3.vq (by omega) (relH_hs hr hcm) fun m3 sr2 o2 ob2 hP2 hr2 k2 so2 hob2 how2 => ?_
      have h4 := h3.putR hr2 k2 how2
      have hrr := relH_put hr hcm hP2
      have htr := put_tr hP2
      simp -implicitDefEqProofs (disch := first | assumption | (simp only [wnA]; done) | (simp only [wnA]; omega) | omega | fail) [wkA, retV, stabOk, dC, ev, fillD, pickCells, putAt, bnd, slD, List.getElem?_cons_zero, List.getElem?_cons_succ, dR.eq_20, Mem.cell, Mem.row, wmA, e18, hjw]
      exact hK (q - 1) _ _ (by omega) ⟨j + 1, sq2, sr2, x.next c, by omega, h4, hrq, hrr, by omega, by omega, by simp [e12], by simp [e14], by simp [e15], by simp⟩
    · have hjl' : ¬ j < (⟨⟨R⟩⟩ : ByteArray).size := hjl
      simp -implicitDefEqProofs (disch := first | assumption | (simp only [wnA]; done) | (simp only [wnA]; omega) | omega | fail) [hjl', rc9_6, wkA, retV, stabOk, dC, ev, fillD, pickCells, putAt, bnd, slD, List.getElem?_cons_zero, List.getElem?_cons_succ, dR.eq_20, Mem.cell, Mem.row, wmA, e12]
      refine c_State h2.q ?_
      simp -implicitDefEqProofs (disch := first | assumption | (simp only [wnA]; done) | (simp only [wnA]; omega) | omega | fail) [wkA, retV, stabOk, dC, ev, fillD, pickCells, putAt, bnd, slD, List.getElem?_cons_zero, List.getElem?_cons_succ, dR.eq_20, Mem.cell, Mem.row, wmA, e15]
      refine c_State h2.r ?_
      have hst : sq.st = sr.st := by
        cases x with
        | a t => exact hq.elim
        | b t => rw [WX.st hq, WX.st hr]
        | d => rw [show sq.st = 1 from hq, hr.1]
      simp -implicitDefEqProofs (disch := first | assumption | (simp only [wnA]; done) | (simp only [wnA]; omega) | omega | fail) [wkA, retV, stabOk, dC, ev, fillD, pickCells, putAt, bnd, slD, List.getElem?_cons_zero, List.getElem?_cons_succ, dR.eq_20, Mem.cell, Mem.row, wmA, hst]
      exact hQ _ _ (by simp)
end Go.Proofs.YtjlicambfepfiaaGreatDoor.Ab

set_option linter.unusedVariables false
set_option linter.unusedSimpArgs false
namespace Go.Proofs.YtjlicambfepfiaaGreatDoor.Ab
open Go Go.RowKit
set_option maxHeartbeats 4000000
set_option maxRecDepth 100000
theorem fold_succ {S : List UInt8} {j : Nat} {c : UInt8} {x : AS} (h : S[j]? = some c) : (S.take (j + 1)).foldl AS.next x = ((S.take j).foldl AS.next x).next c := by
  have hj : j < S.length := by
    rcases Nat.lt_or_ge j S.length with h' | h'
    · exact h'
    · rw [List.getElem?_eq_none h'] at h; cases h
  rw [List.getElem?_eq_getElem hj] at h
  rw [List.take_succ_eq_append_getElem hj, List.foldl_append, Option.some.inj h]
  rfl
theorem w_mid9 {w0 : World} {Q : AQ} {fr : Fr} {m : Mem} {ipq ipr p : Nat} {svq svr a1 a2 : Value} {sq sr : PlS} {S : List UInt8} (h : Two m ipq svq (lQ a2) sq ipr svr (lH a1 a2) sr) (hr : relH sr (.a false)) (hS : ∀ c ∈ S, abc c) (hl : S.length ≤ 100) (hp : p ≤ S.length) (hf : (S.take p).foldl AS.next (.a false) = .b false) (t2 : sr.tr.length ≤ 10)
    (f6 : fr 6 = .string ⟨⟨S⟩⟩) (f10 : fr 10 = .int .i64 (p : Nat)) (f15 : fr 15 = .pointer (some ⟨ipr, 0, none⟩)) (f17 : fr 17 = .int .i64 0)
    (hq : ∀ fr' m' sr', Two m' ipq svq (lQ a2) sq ipr svr (lH a1 a2) sr' → relH sr' (.b false) → sr'.tr.length ≤ 200 → (∀ i ∈ [12, 14, 15], fr' i = fr i) → Q .normal fr' m') : LoopW (AbW Tryz.prog w0 rc9_3) (inBlockA 2 Q) fr m := by
  have hSr : StepsOk w0 gH pH (lH a1 a2) := lH_ok a1 a2
  have hJr : SafeJ gH pH (lH a1 a2) posJ := safe_of (by simp [lH]) (lH_chk a1 a2)
  refine LoopW_of (fun q ts m' => ∃ (j : Nat) (sr : PlS), j + q = p ∧ Two m' ipq svq (lQ a2) sq ipr svr (lH a1 a2) sr ∧ relH sr ((S.take j).foldl AS.next (.a false)) ∧ sr.tr.length ≤ 10 + j ∧ (∀ i ∈ [12, 14, 15], ts i = fr i) ∧ ts 6 = .string ⟨⟨S⟩⟩ ∧ ts 10 = .int .i64 (p : Nat) ∧ ts 17 = .int .i64 (j : Nat)) p ?_ ?_
  · exact ⟨0, sr, by omega, h, hr, by omega, fun _ _ => rfl, f6, f10, f17⟩
  · rintro q ts m1 K ⟨j, sr, hj, h2, hr, t2, sm, e6, e10, e17⟩ hK
    have e15 := (sm 15 (by simp)).trans f15
    simp -implicitDefEqProofs (disch := first | assumption | (simp only [wnA]; done) | (simp only [wnA]; omega) | omega | fail) [rc9_3, wkA, retV, stabOk, dC, ev, fillD, pickCells, putAt, bnd, slD, List.getElem?_cons_zero, List.getElem?_cons_succ, dR.eq_20, Mem.cell, Mem.row, wmA, e10, e17]
    by_cases hjp : j < p
    · have hjl : j < S.length := by omega
      obtain ⟨c, hc⟩ : ∃ c, S[j]? = some c := ⟨_, List.getElem?_eq_getElem hjl⟩
      have hcm : abc c := hS c (List.mem_of_getElem? hc)
      have hix := ba_at hc
      have hjl' : j < (⟨⟨S⟩⟩ : ByteArray).size := hjl
      have hget : (⟨⟨S⟩⟩ : ByteArray)[j] = c := by have := hix; rw [getElem?_pos (⟨⟨S⟩⟩ : ByteArray) j hjl'] at this; exact Option.some.inj this
      have hjw : IntKind.i64.wrap ((j : Int) + 1) = ((j + 1 : Nat) : Int) := by rw [w64 (by omega)]; omega
      simp -implicitDefEqProofs (disch := first | assumption | (simp only [wnA]; done) | (simp only [wnA]; omega) | omega | fail) [hjp, rc9_2, wkA, retV, stabOk, dC, ev, fillD, pickCells, putAt, bnd, slD, List.getElem?_cons_zero, List.getElem?_cons_succ, dR.eq_20, Mem.cell, Mem.row, wmA, e6, e15, e17, hix, hjl', hget]
      refine c_Put (G := gH) (P := pH) (J := posJ) h2.r hSr hJr h2.vq (by omega) (relH_hs hr hcm) fun m3 sr2 o2 ob2 hP2 hr2 k2 so2 hob2 how2 => ?_
      have h4 := h2.putR hr2 k2 how2
      have hrr := relH_put hr hcm hP2
      have htr := put_tr hP2
      simp -implicitDefEqProofs (disch := first | assumption | (simp only [wnA]; done) | (simp only [wnA]; omega) | omega | fail) [wkA, retV, stabOk, dC, ev, fillD, pickCells, putAt, bnd, slD, List.getElem?_cons_zero, List.getElem?_cons_succ, dR.eq_20, Mem.cell, Mem.row, wmA, e17, hjw]
      exact hK (q - 1) _ _ (by omega) ⟨j + 1, sr2, by omega, h4, by rw [fold_succ hc]; exact hrr, by omega, fun i hi => by
        have := sm i hi
        simp only [List.mem_cons, List.not_mem_nil, or_false] at hi
        rcases hi with rfl | rfl | rfl <;> simp [this, f15], by simp [e6], by simp [e10], by simp⟩
    · have hje : j = p := by omega
      subst hje
      rw [hf] at hr
      simp -implicitDefEqProofs (disch := first | assumption | (simp only [wnA]; done) | (simp only [wnA]; omega) | omega | fail) [hjp, wkA, retV, stabOk, dC, ev, fillD, pickCells, putAt, bnd, slD, List.getElem?_cons_zero, List.getElem?_cons_succ, dR.eq_20, Mem.cell, Mem.row, wmA]
      exact hq _ m1 sr h2 hr (by omega) fun i hi => by
        have := sm i hi
        simp only [List.mem_cons, List.not_mem_nil, or_false] at hi
        rcases hi with rfl | rfl | rfl <;> simp [this]
/-- The first loop: up to where the first pattern ends. -/
theorem w_first9 {w0 : World} {Q : AQ} {fr : Fr} {M3 m : Mem} {ip : Nat} {sv a1 a2 : Value} {s : PlS} {S : List UInt8} (h : PlayV [] m ip sv (lH a1 a2) s) (ho : Old M3 m) (hown : ∀ i ∈ ownP ip s, M3.next ≤ i) (hr : relH s (.a false)) (hS : ∀ c ∈ S, abc c) (hl : S.length ≤ 100) (t2 : s.tr.length ≤ 10)
    (f6 : fr 6 = .string ⟨⟨S⟩⟩) (f8 : fr 8 = .pointer (some ⟨ip, 0, none⟩)) (f10 : fr 10 = .int .i64 (-1)) (f11 : fr 11 = .int .i64 0) (hN : (S.foldl AS.next (.a false)).isA = false)
    (hq : ∀ fr' m' (p : Nat), Old M3 m' → p ≤ S.length → (S.take p).foldl AS.next (.a false) = .b false → fr' 10 = .int .i64 (p : Int) → (∀ i ∈ [5, 6, 7], fr' i = fr i) → Q .normal fr' m') : LoopW (AbW Tryz.prog w0 rc9_1) (inBlockA 0 Q) fr m := by
  have hSr : StepsOk w0 gH pH (lH a1 a2) := lH_ok a1 a2
  have hJr : SafeJ gH pH (lH a1 a2) posJ := safe_of (by simp [lH]) (lH_chk a1 a2)
  refine LoopW_of (fun q ts m' => ∃ (j : Nat) (s : PlS) (at_ : Int), j + q = S.length ∧ PlayV [] m' ip sv (lH a1 a2) s ∧ Old M3 m' ∧ (∀ i ∈ ownP ip s, M3.next ≤ i) ∧ relH s ((S.take j).foldl AS.next (.a false)) ∧ s.tr.length ≤ 10 + j ∧
    ((at_ = -1 ∧ ((S.take j).foldl AS.next (.a false)).isA = true) ∨ (((S.take j).foldl AS.next (.a false)).isA = false ∧ ∃ p : Nat, at_ = (p : Int) ∧ p ≤ j ∧ (S.take p).foldl AS.next (.a false) = .b false)) ∧
    (∀ i ∈ [5, 6, 7], ts i = fr i) ∧ ts 8 = .pointer (some ⟨ip, 0, none⟩) ∧ ts 10 = .int .i64 at_ ∧ ts 11 = .int .i64 (j : Nat)) S.length ?_ ?_
  · exact ⟨0, s, -1, by omega, h, ho, hown, hr, by omega, .inl ⟨rfl, rfl⟩, fun _ _ => rfl, f8, f10, f11⟩
  · rintro q ts m1 K ⟨j, s, at_, hj, hP, ho, hown, hr, t2, hat, sm, e8, e10, e11⟩ hK
    have e6 := (sm 6 (by simp)).trans f6
    simp -implicitDefEqProofs (disch := first | assumption | (simp only [wnA]; done) | (simp only [wnA]; omega) | omega | fail) [rc9_1, wkA, retV, stabOk, dC, ev, fillD, pickCells, putAt, bnd, slD, List.getElem?_cons_zero, List.getElem?_cons_succ, dR.eq_20, Mem.cell, Mem.row, wmA, e6, e11]
    by_cases hjl : j < S.length
    · obtain ⟨c, hc⟩ : ∃ c, S[j]? = some c := ⟨_, List.getElem?_eq_getElem hjl⟩
      have hcm : abc c := hS c (List.mem_of_getElem? hc)
      have hix := ba_at hc
      have hjl' : j < (⟨⟨S⟩⟩ : ByteArray).size := hjl
      have hget : (⟨⟨S⟩⟩ : ByteArray)[j] = c := by have := hix; rw [getElem?_pos (⟨⟨S⟩⟩ : ByteArray) j hjl'] at this; exact Option.some.inj this
      have hjw : IntKind.i64.wrap ((j : Int) + 1) = ((j + 1 : Nat) : Int) := by rw [w64 (by omega)]; omega
      simp -implicitDefEqProofs (disch := first | assumption | (simp only [wnA]; done) | (simp only [wnA]; omega) | omega | fail) [rc9_0, wkA, retV, stabOk, dC, ev, fillD, pickCells, putAt, bnd, slD, List.getElem?_cons_zero, List.getElem?_cons_succ, dR.eq_20, Mem.cell, Mem.row, wmA, e6, e8, e11, hix, hjl', hget]
      refine c_Put (G := gH) (P := pH) (J := posJ) hP hSr hJr (fun i hi => by cases hi) (by omega) (relH_hs hr hcm) fun m3 s2 o2 ob2 hP2 hr2 k2 so2 hob2 how2 => ?_
      have hrr := relH_put hr hcm hP2
      have htr := put_tr hP2
      have hfs := fold_succ (x := .a false) hc
      have o3 : Old M3 m3 := ⟨Nat.le_trans ho.1 k2.1, fun i hi => by
        rw [k2.2 i (Nat.lt_of_lt_of_le hi ho.1) (fun hm => by have := hown i hm; omega), ho.2 i hi]⟩
      have how3 : ∀ i ∈ ownP ip s2, M3.next ≤ i := fun i hi => by
        rcases how2 i hi with h1 | h1
        · exact hown i h1
        · have := ho.1; omega
      generalize hx : (S.take j).foldl AS.next (.a false) = x at *
      rw [← hfs] at hrr
      simp -implicitDefEqProofs (disch := first | assumption | (simp only [wnA]; done) | (simp only [wnA]; omega) | omega | fail) [wkA, retV, stabOk, dC, ev, fillD, pickCells, putAt, bnd, slD, List.getElem?_cons_zero, List.getElem?_cons_succ, dR.eq_20, Mem.cell, Mem.row, wmA, e8]
      refine c_At hr2 ?_
      have fin : ∀ (fr' : Fr) (at2 : Int), ((at2 = -1 ∧ (x.next c).isA = true) ∨ ((x.next c).isA = false ∧ ∃ p : Nat, at2 = (p : Int) ∧ p ≤ j + 1 ∧ (S.take p).foldl AS.next (.a false) = .b false)) → (∀ i ∈ [5, 6, 7], fr' i = ts i) → fr' 8 = ts 8 → fr' 10 = .int .i64 at2 → fr' 11 = .int .i64 ((j + 1 : Nat) : Int) → K fr' m3 := fun fr' at2 h1 h2 h8 h10 h11 =>
        hK (q - 1) _ _ (by omega) ⟨j + 1, s2, at2, by omega, hr2, o3, how3, hrr, by omega, by rw [hfs]; exact h1, fun i hi => (h2 i hi).trans (sm i hi), h8.trans e8, h10, h11⟩
      rw [hfs] at hrr
      have sm3 : ∀ (f : Fr), (∀ i ∈ [5, 6, 7], f i = ts i) → True := fun _ _ => trivial
      cases hn : x.next c with
      | a t =>
        have hA : x.isA = true := by
          cases hxA : x.isA with
          | true => rfl
          | false => have := next_notA c hxA; rw [hn] at this; cases this
        have hm1 : at_ = -1 := by
          rcases hat with h1 | h1
          · exact h1.1
          · rw [hA] at h1; cases h1.1
        rw [hn] at hrr fin
        have hat0 : s2.at_ = 0 := WX.at_ hrr
        simp -implicitDefEqProofs (disch := first | assumption | (simp only [wnA]; done) | (simp only [wnA]; omega) | omega | fail) [wkA, retV, stabOk, dC, ev, fillD, pickCells, putAt, bnd, slD, List.getElem?_cons_zero, List.getElem?_cons_succ, dR.eq_20, Mem.cell, Mem.row, wmA, hat0, e11, hjw]
        refine fin _ at_ (.inl ⟨hm1, rfl⟩) (fun i hi => ?_) (by simp) (by simp [e10]) (by simp)
        simp only [List.mem_cons, List.not_mem_nil, or_false] at hi
        rcases hi with rfl | rfl | rfl <;> simp
      | b t =>
        rw [hn] at hrr fin
        have hat1 : s2.at_ = 1 := WX.at_ hrr
        rcases hat with ⟨h1, h2⟩ | ⟨h1, p, h3, h4, h5⟩
        · subst h1
          have ht : t = false := by
            cases x with
            | a u =>
              simp only [AS.next] at hn
              split at hn
              · cases hn; rfl
              · cases hn
            | b u => cases h2
            | d => cases h2
          subst ht
          simp -implicitDefEqProofs (disch := first | assumption | (simp only [wnA]; done) | (simp only [wnA]; omega) | omega | fail) [wkA, retV, stabOk, dC, ev, fillD, pickCells, putAt, bnd, slD, List.getElem?_cons_zero, List.getElem?_cons_succ, dR.eq_20, Mem.cell, Mem.row, wmA, hat1, e10, e11, hjw]
          refine fin _ ((j + 1 : Nat) : Int) (.inr ⟨rfl, j + 1, rfl, by omega, by rw [hfs, hn]⟩) (fun i hi => ?_) (by simp) (by simp) (by simp)
          simp only [List.mem_cons, List.not_mem_nil, or_false] at hi
          rcases hi with rfl | rfl | rfl <;> simp
        · subst h3
          simp -implicitDefEqProofs (disch := first | assumption | (simp only [wnA]; done) | (simp only [wnA]; omega) | omega | fail) [wkA, retV, stabOk, dC, ev, fillD, pickCells, putAt, bnd, slD, List.getElem?_cons_zero, List.getElem?_cons_succ, dR.eq_20, Mem.cell, Mem.row, wmA, hat1, e10, e11, hjw, ltF (show (0 : Int) ≤ (p : Int) by omega)]
          refine fin _ (p : Int) (.inr ⟨rfl, p, rfl, by omega, h5⟩) (fun i hi => ?_) (by simp) (by simp [e10]) (by simp)
          simp only [List.mem_cons, List.not_mem_nil, or_false] at hi
          rcases hi with rfl | rfl | rfl <;> simp
      | d =>
        rw [hn] at hrr fin
        have hat2 : s2.at_ = 2 := hrr.2
        rcases hat with ⟨h1, h2⟩ | ⟨h1, p, h3, h4, h5⟩
        · cases x with
          | a u =>
            simp only [AS.next] at hn
            split at hn <;> cases hn
          | b u => cases h2
          | d => cases h2
        · subst h3
          simp -implicitDefEqProofs (disch := first | assumption | (simp only [wnA]; done) | (simp only [wnA]; omega) | omega | fail) [wkA, retV, stabOk, dC, ev, fillD, pickCells, putAt, bnd, slD, List.getElem?_cons_zero, List.getElem?_cons_succ, dR.eq_20, Mem.cell, Mem.row, wmA, hat2, e10, e11, hjw]
          refine fin _ (p : Int) (.inr ⟨rfl, p, rfl, by omega, h5⟩) (fun i hi => ?_) (by simp) (by simp [e10]) (by simp)
          simp only [List.mem_cons, List.not_mem_nil, or_false] at hi
          rcases hi with rfl | rfl | rfl <;> simp
    · have hjl' : ¬ j < (⟨⟨S⟩⟩ : ByteArray).size := hjl
      have hje : j = S.length := by omega
      subst hje
      rw [List.take_length] at hat
      rcases hat with ⟨-, h1⟩ | ⟨-, p, h3, h4, h5⟩
      · rw [hN] at h1; cases h1
      · subst h3
        simp -implicitDefEqProofs (disch := first | assumption | (simp only [wnA]; done) | (simp only [wnA]; omega) | omega | fail) [hjl', wkA, retV, stabOk, dC, ev, fillD, pickCells, putAt, bnd, slD, List.getElem?_cons_zero, List.getElem?_cons_succ, dR.eq_20, Mem.cell, Mem.row, wmA]
        exact hq _ m1 p ho h4 h5 (by simp [e10]) fun i hi => by
          have := sm i hi
          simp only [List.mem_cons, List.not_mem_nil, or_false] at hi
          rcases hi with rfl | rfl | rfl <;> simp [this, e6]
end Go.Proofs.YtjlicambfepfiaaGreatDoor.Ab
