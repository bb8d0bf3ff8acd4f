/- Parts of a proof, put together: A dialogue's text is read: a step, all of it. -/
import Derived.Test.YtjlicambfepfiaaGreatDoorKDb4
set_option linter.unusedVariables false
set_option linter.unusedSimpArgs false
namespace Go.Proofs.YtjlicambfepfiaaGreatDoor.Ab
open Go Go.RowKit
set_option maxHeartbeats 4000000
set_option maxRecDepth 100000
/-- While a step is read. -/
structure S4 (base m : Mem) (ip it i2 i3 : Nat) (ts : List (Tk × Nat)) (s : PS) (d : DS) (ob : Option Nat) : Prop where
  kb : Kept ip base m
  ps : PsAt m ip it ts s
  sk : s.k < ts.length
  g2 : ∃ z, m.get i2 = .own (dsC ds0 z) 29
  g3 : m.get i3 = .own (dsC d (slV ob d.arms.length 2)) 29
  n2 : base.next ≤ i2
  n3 : base.next ≤ i3
  m2 : i2 < m.next
  m3 : i3 < m.next
  ne : i2 ≠ i3
  so : SlO m 49 2 ob (d.arms.flatMap Arm.cells) d.arms.length
  hob : ∀ i, ob = some i → base.next ≤ i
  al : d.arms.length ≤ ts.length
  hip : ip < base.next
  hit : it < base.next
theorem S4.call {base m m' : Mem} {ip it i2 i3 : Nat} {ts : List (Tk × Nat)} {s s' : PS} {d : DS} {ob : Option Nat} (h : S4 base m ip it i2 i3 ts s d ob) (k : Kept ip m m') (p : PsAt m' ip it ts s') (sk : s'.k < ts.length) : S4 base m' ip it i2 i3 ts s' d ob := by
  have e1 := h.n2
  have e2 := h.n3
  have e3 := h.hip
  refine ⟨h.kb.trans k, p, sk, ?_, ?_, h.n2, h.n3, Nat.lt_of_lt_of_le h.m2 k.1, Nat.lt_of_lt_of_le h.m3 k.1, h.ne, ?_, h.hob, h.al, h.hip, h.hit⟩
  · obtain ⟨z, hz⟩ := h.g2
    exact ⟨z, by rw [k.2 i2 h.m2 (by omega)]; exact hz⟩
  · rw [k.2 i3 h.m3 (by omega)]; exact h.g3
  · refine h.so.keep k.1 fun b hb => ?_
    subst hb
    exact k.2 b h.so.lt (by have := h.hob b rfl; omega)
theorem S4.put {base m : Mem} {ip it i2 i3 : Nat} {ts : List (Tk × Nat)} {s : PS} {d : DS} {ob : Option Nat} (h : S4 base m ip it i2 i3 ts s d ob) {d' : DS} {cs : List Value} (hd : d'.arms = d.arms) (hc : cs = dsC d' (slV ob d'.arms.length 2)) : ∃ M, m.set i3 (.own cs 29) = M ∧ S4 base M ip it i2 i3 ts s d' ob := by
  subst hc
  obtain ⟨M, h1, h2, h3, h4, h5, h6⟩ := step_set (x := .own (dsC d' (slV ob d'.arms.length 2)) 29) h.kb h.ps h.n3 h.hip h.hit
  refine ⟨M, h1, h2, h3, h.sk, ?_, h4, h.n2, h.n3, by rw [h6]; exact h.m2, by rw [h6]; exact h.m3, h.ne, ?_, h.hob, by rw [hd]; exact h.al, h.hip, h.hit⟩
  · rw [h5 i2 h.ne]; exact h.g2
  · rw [hd]
    subst h1
    exact h.so.set (h.so.ne h.g3 (by intro c hc; cases hc)) _
theorem S4.putA {base m : Mem} {ip it i2 i3 : Nat} {ts : List (Tk × Nat)} {s : PS} {d d' : DS} {ob ob' : Option Nat} {cs : List Value} (h : S4 base m ip it i2 i3 ts s d ob) (so : SlO m 49 2 ob' (d'.arms.flatMap Arm.cells) d'.arms.length) (hob : ∀ i, ob' = some i → base.next ≤ i) (al : d'.arms.length ≤ ts.length) (hc : cs = dsC d' (slV ob' d'.arms.length 2)) : ∃ M, m.set i3 (.own cs 29) = M ∧ S4 base M ip it i2 i3 ts s d' ob' := by
  subst hc
  obtain ⟨M, h1, h2, h3, h4, h5, h6⟩ := step_set (x := .own (dsC d' (slV ob' d'.arms.length 2)) 29) h.kb h.ps h.n3 h.hip h.hit
  refine ⟨M, h1, h2, h3, h.sk, ?_, h4, h.n2, h.n3, by rw [h6]; exact h.m2, by rw [h6]; exact h.m3, h.ne, ?_, hob, al, h.hip, h.hit⟩
  · rw [h5 i2 h.ne]; exact h.g2
  · subst h1
    exact so.set (so.ne h.g3 (by intro c hc; cases hc)) _
theorem w_tail {w0 : World} {Q : AQ} {fr : Fr} {base m : Mem} {ip it i2 i3 : Nat} {ts : List (Tk × Nat)} {s : PS} {d : DS} {ob : Option Nat} (h : S4 base m ip it i2 i3 ts s d ob) (hl : ts.length ≤ 1000000) (hE : EndOk ts)
    (f0 : fr 0 = .pointer (some ⟨ip, 0, none⟩)) (f2 : fr 2 = .pointer (some ⟨i2, 0, none⟩)) (f3 : fr 3 = .pointer (some ⟨i3, 0, none⟩))
    (hq : ∀ fr' m', Kept ip base m' → PsAt m' ip it ts (takeF ts 4 [59] s).2 → (takeF ts 4 [59] s).2.k < ts.length → SlO m' 49 2 ob (d.arms.flatMap Arm.cells) d.arms.length → fr' 2 = .pointer (some ⟨i2, 0, none⟩) → m'.get i2 = .own (dsC d (slV ob d.arms.length 2)) 29 → Q .ret fr' m') : AbW Tryz.prog w0 rc36_3 Q fr m := by
  simp -implicitDefEqProofs (disch := first | assumption | (simp only [wnA]; done) | (simp only [wnA]; omega) | omega | fail) [rc36_3, wkA, retV, stabOk, dC, ev, fillD, pickCells, putAt, bnd, slD, List.getElem?_cons_zero, List.getElem?_cons_succ, dR.eq_20, Mem.cell, Mem.row, wmA, f0]
  refine c_take (kd := 4) (tx := [59]) h.ps h.sk hl fun m1 k1 p1 => ?_
  have h1 := h.call k1 p1 (takeF_k hE h.sk (by decide))
  obtain ⟨z, g2⟩ := h1.g2
  have g3 := h1.g3
  obtain ⟨M, hM, KM, pM, gM, oM, nM⟩ := step_set (x := .own (dsC d (slV ob d.arms.length 2)) 29) h1.kb h1.ps h1.n2 h1.hip h1.hit
  have sM : SlO M 49 2 ob (d.arms.flatMap Arm.cells) d.arms.length := by
    subst hM
    exact h1.so.set (h1.so.ne g2 (by intro c hc; cases hc)) _
  have hav : oneC (slV ob d.arms.length 2) = true := by cases ob <;> rfl
  generalize slV ob d.arms.length 2 = av at *
  simp only [dsC] at g2 g3 gM hM
  simp -implicitDefEqProofs (disch := first | assumption | (simp only [wnA]; done) | (simp only [wnA]; omega) | omega | fail) [wkA, retV, stabOk, dC, ev, fillD, pickCells, putAt, bnd, slD, List.getElem?_cons_zero, List.getElem?_cons_succ, dR.eq_20, Mem.cell, Mem.row, wmA, f3, g3]
  refine SK_stv (i := i2) (o := 0) (vs := [.string ⟨⟨d.lb⟩⟩, .int .i64 d.kd, .string ⟨⟨d.tx⟩⟩, av, .int .i64 d.n, .string ⟨⟨d.to⟩⟩, .int .i64 (d.pl : Int)]) (e := 29) (by simp [wkA, retV, stabOk, dC, ev, fillD, pickCells, putAt, bnd, slD, List.getElem?_cons_zero, List.getElem?_cons_succ, dR.eq_20, f2]) g2 (by simp [wkA, retV, stabOk, dC, ev, fillD, pickCells, putAt, bnd, slD, List.getElem?_cons_zero, List.getElem?_cons_succ, dR.eq_20]) (by simp) rfl (by simp only [List.all_cons, List.all_nil, hav]; rfl) ?_
  have hM' : m1.set i2 (.own (putAt [.string ⟨⟨ds0.lb⟩⟩, .int .i64 ds0.kd, .string ⟨⟨ds0.tx⟩⟩, z, .int .i64 ds0.n, .string ⟨⟨ds0.to⟩⟩, .int .i64 (ds0.pl : Int)] 0 [.string ⟨⟨d.lb⟩⟩, .int .i64 d.kd, .string ⟨⟨d.tx⟩⟩, av, .int .i64 d.n, .string ⟨⟨d.to⟩⟩, .int .i64 (d.pl : Int)]) 29) = M := hM
  rw [hM']
  simp -implicitDefEqProofs (disch := first | assumption | (simp only [wnA]; done) | (simp only [wnA]; omega) | omega | fail) [wkA, retV, stabOk, dC, ev, fillD, pickCells, putAt, bnd, slD, List.getElem?_cons_zero, List.getElem?_cons_succ, dR.eq_20, Mem.cell, Mem.row, wmA]
  exact hq _ _ KM pM h1.sk sM (by simp [f2]) gM
theorem S4.store {w0 : World} {fr : Fr} {R : Value → Mem → Prop} {base m : Mem} {ip it i2 i3 : Nat} {ts : List (Tk × Nat)} {s : PS} {d : DS} {ob : Option Nat} (h : S4 base m ip it i2 i3 ts s d ob) (d' : DS) (j : Nat) (v : Value) {p x : Operand}
    (hp : ev fr p = .pointer (some ⟨i3, j, none⟩)) (hv : cellsV (ev fr x) = [v]) (hd : d'.arms = d.arms) (hc : putAt (dsC d (slV ob d.arms.length 2)) j [v] = dsC d' (slV ob d.arms.length 2)) (hj : j + 1 ≤ 7) (ho : oneC v = true)
    (hR : ∀ M, S4 base M ip it i2 i3 ts s d' ob → (∀ i, i ≠ i3 → M.get i = m.get i) → M.next = m.next → R undef M) : SK Tryz.prog w0 (.e (.st 1 p x)) fr m R := by
  refine SK_stv (i := i3) (o := j) (vs := [v]) hp h.g3 hv hj rfl (by simp only [List.all_cons, List.all_nil, ho]; rfl) ?_
  obtain ⟨M, hM, hS⟩ := h.put (d' := d') (cs := putAt (dsC d (slV ob d.arms.length 2)) j [v]) hd (by rw [hd]; exact hc)
  rw [hM]
  subst hM
  exact hR _ hS (fun i hi => Mem.set_other _ _ hi) rfl
theorem SK_stm {P : Program} {w0 : World} {ts : Fr} {m M : Mem} {R : Value → Mem → Prop} {n i o : Nat} {p x : Operand} {cs vs : List Value} {e : TypeId} (hp : ev ts p = .pointer (some ⟨i, o, none⟩)) (hm : m.get i = .own cs e) (hv : cellsV (ev ts x) = vs) (h1 : o + n ≤ cs.length) (h2 : vs.length = n) (h3 : vs.all oneC = true)
    (hM : m.set i (.own (putAt cs o vs) e) = M) (hR : R undef M) : SK P w0 (.e (.st n p x)) ts m R := by
  subst hM
  exact SK_stv hp hm hv h1 h2 h3 hR
theorem armsF_k {ts : List (Tk × Nat)} (he : EndOk ts) : ∀ (n : Nat) (s : PS) (out : List Arm), s.k < ts.length → (armsF n ts s out).2.k < ts.length
  | 0, s, out, h => h
  | n + 1, s, out, h => by
    simp only [armsF]
    split
    · exact h
    · split
      · rename_i hi
        exact armsF_k he n _ _ (isF_k he (armF_k he h) (by decide) hi).2.1
      · exact armF_k he h
theorem armsL_k {ts : List (Tk × Nat)} {s : PS} (he : EndOk ts) (h : s.k < ts.length) : (armsL ts s).2.k < ts.length := armsF_k he _ _ _ h
theorem w_rest {w0 : World} {Q : AQ} {fr : Fr} {base m : Mem} {ip it i2 i3 i4 : Nat} {ts : List (Tk × Nat)} {s : PS} {t : Tk × Nat} {lb : List UInt8} {pl : Int} (h : S4 base m ip it i2 i3 ts s { ds0 with lb := lb, pl := pl } none) (hl : ts.length ≤ 1000000) (hE : EndOk ts)
    (g4 : m.get i4 = .own (cellP t) 87) (n4 : base.next ≤ i4) (m4 : i4 < m.next)
    (f0 : fr 0 = .pointer (some ⟨ip, 0, none⟩)) (f2 : fr 2 = .pointer (some ⟨i2, 0, none⟩)) (f3 : fr 3 = .pointer (some ⟨i3, 0, none⟩)) (f4 : fr 4 = .pointer (some ⟨i4, 0, none⟩)) (f5 : fr 5 = .int .i64 (kindOf t.1.tx : Nat))
    (hq : ∀ fr' m' ob, Kept ip base m' → PsAt m' ip it ts (takeF ts 4 [59] (restF ts { ds0 with lb := lb, pl := pl } t s).2).2 → (takeF ts 4 [59] (restF ts { ds0 with lb := lb, pl := pl } t s).2).2.k < ts.length → SlO m' 49 2 ob ((restF ts { ds0 with lb := lb, pl := pl } t s).1.arms.flatMap Arm.cells) (restF ts { ds0 with lb := lb, pl := pl } t s).1.arms.length → (∀ i, ob = some i → base.next ≤ i) → (restF ts { ds0 with lb := lb, pl := pl } t s).1.arms.length ≤ ts.length → fr' 2 = .pointer (some ⟨i2, 0, none⟩) → m'.get i2 = .own (dsC (restF ts { ds0 with lb := lb, pl := pl } t s).1 (slV ob (restF ts { ds0 with lb := lb, pl := pl } t s).1.arms.length 2)) 29 → Q .ret fr' m') : AbW Tryz.prog w0 rc36_4 Q fr m := by
  have hkl := kindOf_le t.1.tx
  have fin : ∀ (fr' : Fr) (m' : Mem) (s' : PS) (d' : DS) (ob' : Option Nat), restF ts { ds0 with lb := lb, pl := pl } t s = (d', s') → S4 base m' ip it i2 i3 ts s' d' ob' → fr' 0 = .pointer (some ⟨ip, 0, none⟩) → fr' 2 = .pointer (some ⟨i2, 0, none⟩) → fr' 3 = .pointer (some ⟨i3, 0, none⟩) → AbW Tryz.prog w0 rc36_3 Q fr' m' := by
    intro fr' m' s' d' ob' he hS e0 e2 e3
    rw [he] at hq
    exact w_tail hS hl hE e0 e2 e3 fun fr'' m'' k p kl so a b => hq fr'' m'' ob' k p kl so hS.hob hS.al a b
  clear hq
  have hks : ∀ x, kindOf t.1.tx = x → restF ts { ds0 with lb := lb, pl := pl } t s = restK x ts { ds0 with lb := lb, pl := pl } t s := fun x hx => by subst hx; rfl
  have f5' : fr 5 = .int .i64 ((kindOf t.1.tx : Nat) : Int) := f5
  simp -implicitDefEqProofs (disch := first | assumption | (simp only [wnA]; done) | (simp only [wnA]; omega) | omega | fail) [rc36_4, wkA, retV, stabOk, dC, ev, fillD, pickCells, putAt, bnd, slD, List.getElem?_cons_zero, List.getElem?_cons_succ, dR.eq_20, Mem.cell, Mem.row, wmA, f3, f5]
  refine h.store { ds0 with lb := lb, pl := pl, kd := (kindOf t.1.tx : Int) } 1 (.int .i64 (kindOf t.1.tx : Int)) (by simp [wkA, retV, stabOk, dC, ev, fillD, pickCells, putAt, bnd, slD, List.getElem?_cons_zero, List.getElem?_cons_succ, dR.eq_20, f3]) (by simp [wkA, retV, stabOk, dC, ev, fillD, pickCells, putAt, bnd, slD, List.getElem?_cons_zero, List.getElem?_cons_succ, dR.eq_20]) rfl rfl (by omega) rfl fun M h1 o1 nM => ?_
  have g3 : M.get i3 = .own [.string ⟨⟨lb⟩⟩, .int .i64 (kindOf t.1.tx : Int), .string ⟨⟨[]⟩⟩, .slice none 0 0, .int .i64 0, .string ⟨⟨[]⟩⟩, .int .i64 (pl : Int)] 29 := h1.g3
  have n34 : i4 ≠ i3 := fun e => by rw [e, h.g3] at g4; cases g4
  have g4M := (o1 i4 n34).trans g4
  generalize hkk : kindOf t.1.tx = kk at *
  have hr := hks kk rfl
  clear hks
  rcases (show kk = 0 ∨ kk = 1 ∨ kk = 2 ∨ kk = 3 ∨ kk = 4 ∨ kk = 5 ∨ kk = 6 by omega) with rfl | rfl | rfl | rfl | rfl | rfl | rfl
  · simp -implicitDefEqProofs (disch := first | assumption | (simp only [wnA]; done) | (simp only [wnA]; omega) | omega | fail) [wkA, retV, stabOk, dC, ev, fillD, pickCells, putAt, bnd, slD, List.getElem?_cons_zero, List.getElem?_cons_succ, dR.eq_20, Mem.cell, Mem.row, wmA, f0, f3, g3]
    refine c_take (kd := 3) (tx := []) h1.ps h1.sk hl fun m2 k2 p2 => ?_
    have h2 := h1.call k2 p2 (takeF_k hE h1.sk (by decide))
    simp only [restK] at hr
    generalize takeF ts 3 [] s = r at *
    obtain ⟨⟨⟨kd0, tx0, vl0⟩, at0⟩, s2⟩ := r
    simp -implicitDefEqProofs (disch := first | assumption | (simp only [wnA]; done) | (simp only [wnA]; omega) | omega | fail) [wkA, retV, stabOk, dC, ev, fillD, pickCells, putAt, bnd, slD, List.getElem?_cons_zero, List.getElem?_cons_succ, dR.eq_20, Mem.cell, Mem.row, wmA, cellP_mk, f3]
    refine h2.store { ds0 with lb := lb, pl := pl, kd := 0, tx := tx0 } 2 (.string ⟨⟨tx0⟩⟩) (by simp [wkA, retV, stabOk, dC, ev, fillD, pickCells, putAt, bnd, slD, List.getElem?_cons_zero, List.getElem?_cons_succ, dR.eq_20, f3]) (by simp [wkA, retV, stabOk, dC, ev, fillD, pickCells, putAt, bnd, slD, List.getElem?_cons_zero, List.getElem?_cons_succ, dR.eq_20]) rfl rfl (by omega) rfl fun M3 h3 o3 nM3 => ?_
    simp -implicitDefEqProofs (disch := first | assumption | (simp only [wnA]; done) | (simp only [wnA]; omega) | omega | fail) [wkA, retV, stabOk, dC, ev, fillD, pickCells, putAt, bnd, slD, List.getElem?_cons_zero, List.getElem?_cons_succ, dR.eq_20, Mem.cell, Mem.row, wmA]
    exact fin _ _ _ _ _ hr h3 (by simp [f0]) (by simp [f2]) (by simp [f3])
  · simp -implicitDefEqProofs (disch := first | assumption | (simp only [wnA]; done) | (simp only [wnA]; omega) | omega | fail) [wkA, retV, stabOk, dC, ev, fillD, pickCells, putAt, bnd, slD, List.getElem?_cons_zero, List.getElem?_cons_succ, dR.eq_20, Mem.cell, Mem.row, wmA, f0, f3, g3]
    refine c_arms h1.ps h1.sk hl hE fun m2 ob k2 p2 so hob al => ?_
    have kA : (armsL ts s).2.k < ts.length := armsL_k hE h1.sk
    have h2 := h1.call k2 p2 kA
    simp only [restK] at hr
    generalize armsL ts s = r at *
    obtain ⟨asx, s2⟩ := r
    obtain ⟨M3, hM3, h3⟩ := h2.putA (d' := { ds0 with lb := lb, pl := pl, kd := 1, arms := asx }) (ob' := ob) (cs := putAt (dsC { ds0 with lb := lb, pl := pl, kd := 1 } (.slice none 0 0)) 3 [slV ob asx.length 2]) so (fun i hi => Nat.le_trans h1.kb.1 (hob i hi)) al rfl
    simp -implicitDefEqProofs (disch := first | assumption | (simp only [wnA]; done) | (simp only [wnA]; omega) | omega | fail) [wkA, retV, stabOk, dC, ev, fillD, pickCells, putAt, bnd, slD, List.getElem?_cons_zero, List.getElem?_cons_succ, dR.eq_20, Mem.cell, Mem.row, wmA, f3]
    refine SK_stm (i := i3) (o := 3) (vs := [slV ob asx.length 2]) (M := M3) (by simp [wkA, retV, stabOk, dC, ev, fillD, pickCells, putAt, bnd, slD, List.getElem?_cons_zero, List.getElem?_cons_succ, dR.eq_20, f3]) h2.g3 (by cases ob <;> simp [wkA, retV, stabOk, dC, ev, fillD, pickCells, putAt, bnd, slD, List.getElem?_cons_zero, List.getElem?_cons_succ, dR.eq_20, slV]) (by simp [dsC]) rfl (by cases ob <;> rfl) hM3 ?_
    simp -implicitDefEqProofs (disch := first | assumption | (simp only [wnA]; done) | (simp only [wnA]; omega) | omega | fail) [wkA, retV, stabOk, dC, ev, fillD, pickCells, putAt, bnd, slD, List.getElem?_cons_zero, List.getElem?_cons_succ, dR.eq_20, Mem.cell, Mem.row, wmA, f0]
    refine c_take (kd := 1) (tx := afterL) h3.ps h3.sk hl fun m4 k4 p4 => ?_
    have h4 := h3.call k4 p4 (takeF_k hE h3.sk (by decide))
    generalize takeF ts 1 afterL s2 = r2 at *
    obtain ⟨tt2, s4⟩ := r2
    simp -implicitDefEqProofs (disch := first | assumption | (simp only [wnA]; done) | (simp only [wnA]; omega) | omega | fail) [wkA, retV, stabOk, dC, ev, fillD, pickCells, putAt, bnd, slD, List.getElem?_cons_zero, List.getElem?_cons_succ, dR.eq_20, Mem.cell, Mem.row, wmA, f0]
    refine c_number (most := 99) h4.ps h4.sk hl fun m5 k5 p5 => ?_
    have h5 := h4.call k5 p5 (numF_k hE h4.sk)
    simp only at hr
    generalize numF 99 ts s4 = r3 at *
    obtain ⟨nn, s5⟩ := r3
    simp -implicitDefEqProofs (disch := first | assumption | (simp only [wnA]; done) | (simp only [wnA]; omega) | omega | fail) [wkA, retV, stabOk, dC, ev, fillD, pickCells, putAt, bnd, slD, List.getElem?_cons_zero, List.getElem?_cons_succ, dR.eq_20, Mem.cell, Mem.row, wmA, f3]
    refine h5.store { ds0 with lb := lb, pl := pl, kd := 1, arms := asx, n := nn } 4 (.int .i64 nn) (by simp [wkA, retV, stabOk, dC, ev, fillD, pickCells, putAt, bnd, slD, List.getElem?_cons_zero, List.getElem?_cons_succ, dR.eq_20, f3]) (by simp [wkA, retV, stabOk, dC, ev, fillD, pickCells, putAt, bnd, slD, List.getElem?_cons_zero, List.getElem?_cons_succ, dR.eq_20]) rfl rfl (by omega) rfl fun M6 h6 o6 nM6 => ?_
    simp -implicitDefEqProofs (disch := first | assumption | (simp only [wnA]; done) | (simp only [wnA]; omega) | omega | fail) [wkA, retV, stabOk, dC, ev, fillD, pickCells, putAt, bnd, slD, List.getElem?_cons_zero, List.getElem?_cons_succ, dR.eq_20, Mem.cell, Mem.row, wmA, f0]
    refine c_to h6.ps h6.sk hl hE fun m7 k7 p7 => ?_
    have h7 := h6.call k7 p7 (toF_k hE h6.sk)
    simp only at hr
    generalize toF ts s5 = r4 at *
    obtain ⟨txt, s7⟩ := r4
    simp -implicitDefEqProofs (disch := first | assumption | (simp only [wnA]; done) | (simp only [wnA]; omega) | omega | fail) [wkA, retV, stabOk, dC, ev, fillD, pickCells, putAt, bnd, slD, List.getElem?_cons_zero, List.getElem?_cons_succ, dR.eq_20, Mem.cell, Mem.row, wmA, f3]
    refine h7.store { ds0 with lb := lb, pl := pl, kd := 1, arms := asx, n := nn, to := txt } 5 (.string ⟨⟨txt⟩⟩) (by simp [wkA, retV, stabOk, dC, ev, fillD, pickCells, putAt, bnd, slD, List.getElem?_cons_zero, List.getElem?_cons_succ, dR.eq_20, f3]) (by simp [wkA, retV, stabOk, dC, ev, fillD, pickCells, putAt, bnd, slD, List.getElem?_cons_zero, List.getElem?_cons_succ, dR.eq_20]) rfl rfl (by omega) rfl fun M8 h8 o8 nM8 => ?_
    simp -implicitDefEqProofs (disch := first | assumption | (simp only [wnA]; done) | (simp only [wnA]; omega) | omega | fail) [wkA, retV, stabOk, dC, ev, fillD, pickCells, putAt, bnd, slD, List.getElem?_cons_zero, List.getElem?_cons_succ, dR.eq_20, Mem.cell, Mem.row, wmA]
    exact fin _ _ _ _ _ hr h8 (by simp [f0]) (by simp [f2]) (by simp [f3])
  · simp -implicitDefEqProofs (disch := first | assumption | (simp only [wnA]; done) | (simp only [wnA]; omega) | omega | fail) [wkA, retV, stabOk, dC, ev, fillD, pickCells, putAt, bnd, slD, List.getElem?_cons_zero, List.getElem?_cons_succ, dR.eq_20, Mem.cell, Mem.row, wmA, f0, f3, g3]
    refine c_take (kd := 1) (tx := []) h1.ps h1.sk hl fun m2 k2 p2 => ?_
    have h2 := h1.call k2 p2 (takeF_k hE h1.sk (by decide))
    simp only [restK] at hr
    generalize takeF ts 1 [] s = r at *
    obtain ⟨⟨⟨kd0, tx0, vl0⟩, at0⟩, s2⟩ := r
    simp -implicitDefEqProofs (disch := first | assumption | (simp only [wnA]; done) | (simp only [wnA]; omega) | omega | fail) [wkA, retV, stabOk, dC, ev, fillD, pickCells, putAt, bnd, slD, List.getElem?_cons_zero, List.getElem?_cons_succ, dR.eq_20, Mem.cell, Mem.row, wmA, cellP_mk, f3]
    refine h2.store { ds0 with lb := lb, pl := pl, kd := 2, to := tx0 } 5 (.string ⟨⟨tx0⟩⟩) (by simp [wkA, retV, stabOk, dC, ev, fillD, pickCells, putAt, bnd, slD, List.getElem?_cons_zero, List.getElem?_cons_succ, dR.eq_20, f3]) (by simp [wkA, retV, stabOk, dC, ev, fillD, pickCells, putAt, bnd, slD, List.getElem?_cons_zero, List.getElem?_cons_succ, dR.eq_20]) rfl rfl (by omega) rfl fun M3 h3 o3 nM3 => ?_
    simp -implicitDefEqProofs (disch := first | assumption | (simp only [wnA]; done) | (simp only [wnA]; omega) | omega | fail) [wkA, retV, stabOk, dC, ev, fillD, pickCells, putAt, bnd, slD, List.getElem?_cons_zero, List.getElem?_cons_succ, dR.eq_20, Mem.cell, Mem.row, wmA]
    exact fin _ _ _ _ _ hr h3 (by simp [f0]) (by simp [f2]) (by simp [f3])
  · simp -implicitDefEqProofs (disch := first | assumption | (simp only [wnA]; done) | (simp only [wnA]; omega) | omega | fail) [wkA, retV, stabOk, dC, ev, fillD, pickCells, putAt, bnd, slD, List.getElem?_cons_zero, List.getElem?_cons_succ, dR.eq_20, Mem.cell, Mem.row, wmA, f0, f3, g3]
    refine c_number (most := 9) h1.ps h1.sk hl fun m5 k5 p5 => ?_
    have h5 := h1.call k5 p5 (numF_k hE h1.sk)
    simp only [restK] at hr
    generalize numF 9 ts s = r3 at *
    obtain ⟨nn, s5⟩ := r3
    simp -implicitDefEqProofs (disch := first | assumption | (simp only [wnA]; done) | (simp only [wnA]; omega) | omega | fail) [wkA, retV, stabOk, dC, ev, fillD, pickCells, putAt, bnd, slD, List.getElem?_cons_zero, List.getElem?_cons_succ, dR.eq_20, Mem.cell, Mem.row, wmA, f3]
    refine h5.store { ds0 with lb := lb, pl := pl, kd := 3, n := nn } 4 (.int .i64 nn) (by simp [wkA, retV, stabOk, dC, ev, fillD, pickCells, putAt, bnd, slD, List.getElem?_cons_zero, List.getElem?_cons_succ, dR.eq_20, f3]) (by simp [wkA, retV, stabOk, dC, ev, fillD, pickCells, putAt, bnd, slD, List.getElem?_cons_zero, List.getElem?_cons_succ, dR.eq_20]) rfl rfl (by omega) rfl fun M6 h6 o6 nM6 => ?_
    simp -implicitDefEqProofs (disch := first | assumption | (simp only [wnA]; done) | (simp only [wnA]; omega) | omega | fail) [wkA, retV, stabOk, dC, ev, fillD, pickCells, putAt, bnd, slD, List.getElem?_cons_zero, List.getElem?_cons_succ, dR.eq_20, Mem.cell, Mem.row, wmA, f0]
    refine c_to h6.ps h6.sk hl hE fun m7 k7 p7 => ?_
    have h7 := h6.call k7 p7 (toF_k hE h6.sk)
    simp only at hr
    generalize toF ts s5 = r4 at *
    obtain ⟨txt, s7⟩ := r4
    simp -implicitDefEqProofs (disch := first | assumption | (simp only [wnA]; done) | (simp only [wnA]; omega) | omega | fail) [wkA, retV, stabOk, dC, ev, fillD, pickCells, putAt, bnd, slD, List.getElem?_cons_zero, List.getElem?_cons_succ, dR.eq_20, Mem.cell, Mem.row, wmA, f3]
    refine h7.store { ds0 with lb := lb, pl := pl, kd := 3, n := nn, to := txt } 5 (.string ⟨⟨txt⟩⟩) (by simp [wkA, retV, stabOk, dC, ev, fillD, pickCells, putAt, bnd, slD, List.getElem?_cons_zero, List.getElem?_cons_succ, dR.eq_20, f3]) (by simp [wkA, retV, stabOk, dC, ev, fillD, pickCells, putAt, bnd, slD, List.getElem?_cons_zero, List.getElem?_cons_succ, dR.eq_20]) rfl rfl (by omega) rfl fun M8 h8 o8 nM8 => ?_
    simp -implicitDefEqProofs (disch := first | assumption | (simp only [wnA]; done) | (simp only [wnA]; omega) | omega | fail) [wkA, retV, stabOk, dC, ev, fillD, pickCells, putAt, bnd, slD, List.getElem?_cons_zero, List.getElem?_cons_succ, dR.eq_20, Mem.cell, Mem.row, wmA]
    exact fin _ _ _ _ _ hr h8 (by simp [f0]) (by simp [f2]) (by simp [f3])
  · simp -implicitDefEqProofs (disch := first | assumption | (simp only [wnA]; done) | (simp only [wnA]; omega) | omega | fail) [wkA, retV, stabOk, dC, ev, fillD, pickCells, putAt, bnd, slD, List.getElem?_cons_zero, List.getElem?_cons_succ, dR.eq_20, Mem.cell, Mem.row, wmA, f3, g3]
    exact fin _ _ _ _ _ hr h1 (by simp [f0]) (by simp [f2]) (by simp [f3])
  · simp -implicitDefEqProofs (disch := first | assumption | (simp only [wnA]; done) | (simp only [wnA]; omega) | omega | fail) [wkA, retV, stabOk, dC, ev, fillD, pickCells, putAt, bnd, slD, List.getElem?_cons_zero, List.getElem?_cons_succ, dR.eq_20, Mem.cell, Mem.row, wmA, f3, g3]
    exact fin _ _ _ _ _ hr h1 (by simp [f0]) (by simp [f2]) (by simp [f3])
  · simp -implicitDefEqProofs (disch := first | assumption | (simp only [wnA]; done) | (simp only [wnA]; omega) | omega | fail) [wkA, retV, stabOk, dC, ev, fillD, pickCells, putAt, bnd, slD, List.getElem?_cons_zero, List.getElem?_cons_succ, dR.eq_20, Mem.cell, Mem.row, wmA, f3, g3]
    obtain ⟨⟨kd0, tx0, vl0⟩, at0⟩ := t
    have g4M : M.get i4 = .own [.int .i64 kd0, .string ⟨⟨tx0⟩⟩, .int .i64 vl0, .int .i64 (at0 : Int)] 87 := g4M
    obtain ⟨k, err⟩ := s
    cases err with
    | some e =>
      have gp : M.get ip = .own [.slice (some ⟨it, 0, none⟩) ts.length 4, .int .i64 (k : Int), faultV e.1 e.2] 84 := h1.ps.1
      simp -implicitDefEqProofs (disch := first | assumption | (simp only [wnA]; done) | (simp only [wnA]; omega) | omega | fail) [rc36_2, wkA, retV, stabOk, dC, ev, fillD, pickCells, putAt, bnd, slD, List.getElem?_cons_zero, List.getElem?_cons_succ, dR.eq_20, Mem.cell, Mem.row, wmA, f0, gp, faultV]
      exact fin _ _ _ _ _ hr h1 (by simp [f0]) (by simp [f2]) (by simp [f3])
    | none =>
      have gp : M.get ip = .own [.slice (some ⟨it, 0, none⟩) ts.length 4, .int .i64 (k : Int), .nilIface] 84 := h1.ps.1
      simp -implicitDefEqProofs (disch := first | assumption | (simp only [wnA]; done) | (simp only [wnA]; omega) | omega | fail) [rc36_2, wkA, retV, stabOk, dC, ev, fillD, pickCells, putAt, bnd, slD, List.getElem?_cons_zero, List.getElem?_cons_succ, dR.eq_20, Mem.cell, Mem.row, wmA, f0, f4, gp, g4M]
      refine c_Wrap ?_
      simp -implicitDefEqProofs (disch := first | assumption | (simp only [wnA]; done) | (simp only [wnA]; omega) | omega | fail) [wkA, retV, stabOk, dC, ev, fillD, pickCells, putAt, bnd, slD, List.getElem?_cons_zero, List.getElem?_cons_succ, dR.eq_20, Mem.cell, Mem.row, wmA]
      obtain ⟨M3, hM3⟩ : ∃ M3, M.set ip (.own (putAt [.slice (some ⟨it, 0, none⟩) ts.length 4, .int .i64 (k : Int), .nilIface] 2 [faultV 3 at0]) 84) = M3 := ⟨_, rfl⟩
      refine SK_stv (i := ip) (o := 2) (vs := [faultV 3 at0]) (e := 84) (by simp [wkA, retV, stabOk, dC, ev, fillD, pickCells, putAt, bnd, slD, List.getElem?_cons_zero, List.getElem?_cons_succ, dR.eq_20]) gp (by simp [wkA, retV, stabOk, dC, ev, fillD, pickCells, putAt, bnd, slD, List.getElem?_cons_zero, List.getElem?_cons_succ, dR.eq_20, faultV]) (by simp) rfl rfl ?_
      rw [hM3]
      have K3 : Kept ip M M3 := by subst hM3; exact ⟨Nat.le_refl _, fun i hi hn => Mem.set_other _ _ hn⟩
      have p3 : PsAt M3 ip it ts ⟨k, some (3, at0)⟩ := by
        subst hM3
        exact ⟨by rw [Mem.set_same]; rfl, by rw [Mem.set_other _ _ (fun e => h1.ps.2.2.2.2 e.symm)]; exact h1.ps.2.1, h1.ps.2.2.1, h1.ps.2.2.2.1, h1.ps.2.2.2.2⟩
      have h3 := h1.call K3 p3 h1.sk
      simp -implicitDefEqProofs (disch := first | assumption | (simp only [wnA]; done) | (simp only [wnA]; omega) | omega | fail) [wkA, retV, stabOk, dC, ev, fillD, pickCells, putAt, bnd, slD, List.getElem?_cons_zero, List.getElem?_cons_succ, dR.eq_20, Mem.cell, Mem.row, wmA]
      exact fin _ _ _ _ _ hr h3 (by simp [f0]) (by simp [f2]) (by simp [f3])
end Go.Proofs.YtjlicambfepfiaaGreatDoor.Ab

set_option linter.unusedVariables false
set_option linter.unusedSimpArgs false
namespace Go.Proofs.YtjlicambfepfiaaGreatDoor.Ab
open Go Go.RowKit
set_option maxHeartbeats 4000000
set_option maxRecDepth 100000
theorem S4.old {base m m' : Mem} {ip it i2 i3 : Nat} {ts : List (Tk × Nat)} {s : PS} {d : DS} {ob : Option Nat} (h : S4 base m ip it i2 i3 ts s d ob) (k : Old m m') : S4 base m' ip it i2 i3 ts s d ob := h.call k.kept (h.ps.old k) h.sk
theorem S4.other {base m : Mem} {ip it i2 i3 i4 : Nat} {ts : List (Tk × Nat)} {s : PS} {d : DS} (h : S4 base m ip it i2 i3 ts s d none) (x : Ent) (h4 : base.next ≤ i4) (n2 : i4 ≠ i2) (n3 : i4 ≠ i3) : ∃ M, m.set i4 x = M ∧ S4 base M ip it i2 i3 ts s d none ∧ M.get i4 = x ∧ M.next = m.next := by
  obtain ⟨M, q1, q2, q3, q4, q5, q6⟩ := step_set (x := x) h.kb h.ps h4 h.hip h.hit
  refine ⟨M, q1, ⟨q2, q3, h.sk, ?_, ?_, h.n2, h.n3, by rw [q6]; exact h.m2, by rw [q6]; exact h.m3, h.ne, ⟨h.so.1, h.so.2⟩, h.hob, h.al, h.hip, h.hit⟩, q4, q6⟩
  · rw [q5 i2 (fun e => n2 e.symm)]; exact h.g2
  · rw [q5 i3 (fun e => n3 e.symm)]; exact h.g3
theorem w_from {w0 : World} {Q : AQ} {fr : Fr} {base m : Mem} {ip it i2 i3 i4 : Nat} {ts : List (Tk × Nat)} {s : PS} {t : Tk × Nat} {lb : List UInt8} {pl : Int} (h : S4 base m ip it i2 i3 ts s { ds0 with lb := lb, pl := pl } none) (hl : ts.length ≤ 1000000) (hE : EndOk ts)
    (g4 : m.get i4 = .own (cellP t) 87) (n4 : base.next ≤ i4) (m4 : i4 < m.next)
    (f0 : fr 0 = .pointer (some ⟨ip, 0, none⟩)) (f2 : fr 2 = .pointer (some ⟨i2, 0, none⟩)) (f3 : fr 3 = .pointer (some ⟨i3, 0, none⟩)) (f4 : fr 4 = .pointer (some ⟨i4, 0, none⟩))
    (hq : ∀ fr' m' ob, Kept ip base m' → PsAt m' ip it ts (takeF ts 4 [59] (restF ts { ds0 with lb := lb, pl := pl } t s).2).2 → (takeF ts 4 [59] (restF ts { ds0 with lb := lb, pl := pl } t s).2).2.k < ts.length → SlO m' 49 2 ob ((restF ts { ds0 with lb := lb, pl := pl } t s).1.arms.flatMap Arm.cells) (restF ts { ds0 with lb := lb, pl := pl } t s).1.arms.length → (∀ i, ob = some i → base.next ≤ i) → (restF ts { ds0 with lb := lb, pl := pl } t s).1.arms.length ≤ ts.length → fr' 2 = .pointer (some ⟨i2, 0, none⟩) → m'.get i2 = .own (dsC (restF ts { ds0 with lb := lb, pl := pl } t s).1 (slV ob (restF ts { ds0 with lb := lb, pl := pl } t s).1.arms.length 2)) 29 → Q .ret fr' m') : AbW Tryz.prog w0 rc36_5 Q fr m := by
  obtain ⟨⟨kd0, tx0, vl0⟩, at0⟩ := t
  simp -implicitDefEqProofs (disch := first | assumption | (simp only [wnA]; done) | (simp only [wnA]; omega) | omega | fail) [rc36_5, wkA, retV, stabOk, dC, ev, fillD, pickCells, putAt, bnd, slD, List.getElem?_cons_zero, List.getElem?_cons_succ, dR.eq_20, Mem.cell, Mem.row, wmA]
  refine w_word (i4 := i4) (kd0 := kd0) (tx := tx0) (vl0 := vl0) (at0 := at0) g4 m4 (by simp [f4]) (by simp) fun fr' m' o sm h5 => ?_
  have e0 := sm 0 (by simp)
  have e2 := sm 2 (by simp)
  have e3 := sm 3 (by simp)
  have e4 := sm 4 (by simp)
  simp [f0, f2, f3, f4] at e0 e2 e3 e4
  simp -implicitDefEqProofs (disch := first | assumption | (simp only [wnA]; done) | (simp only [wnA]; omega) | omega | fail) [wkA, retV, stabOk, dC, ev, fillD, pickCells, putAt, bnd, slD, List.getElem?_cons_zero, List.getElem?_cons_succ, dR.eq_20, Mem.cell, Mem.row, wmA]
  exact w_rest (t := (⟨kd0, tx0, vl0⟩, at0)) (h.old o) hl hE ((o.2 i4 m4).trans g4) n4 (Nat.lt_of_lt_of_le m4 o.1) e0 e2 e3 e4 h5 hq
theorem c_step {w0 : World} {m : Mem} {ip it : Nat} {ts : List (Tk × Nat)} {s : PS} {Q : Value → Mem → Prop} (h : PsAt m ip it ts s) (hk : s.k < ts.length) (hl : ts.length ≤ 1000000) (hE : EndOk ts)
    (hq : ∀ m' ob, Kept ip m m' → PsAt m' ip it ts (stepF ts s).2 → (stepF ts s).2.k < ts.length → SlO m' 49 2 ob ((stepF ts s).1.arms.flatMap Arm.cells) (stepF ts s).1.arms.length → (∀ i, ob = some i → m.next ≤ i) → (stepF ts s).1.arms.length ≤ ts.length → Q (.agg ⟨dsC (stepF ts s).1 (slV ob (stepF ts s).1.arms.length 2)⟩) m') :
    AbC Tryz.prog w0 36 [.pointer (some ⟨ip, 0, none⟩)] m Q := by
  refine AbC_fn ok36 (by simp) ?_
  have hgd : ts.getD s.k tok0 = ts[s.k] := by simp [List.getD, List.getElem?_eq_getElem hk]
  have hst : stepF ts s = ((restF ts { ds0 with lb := (headF ts s).1, pl := ts[s.k].2 } (headF ts s).2.1 (headF ts s).2.2).1, (takeF ts 4 [59] (restF ts { ds0 with lb := (headF ts s).1, pl := ts[s.k].2 } (headF ts s).2.1 (headF ts s).2.2).2).2) := by unfold stepF; rw [hgd]
  rw [hst] at hq
  clear hst
  obtain ⟨h1, h2, h3, h4, h5⟩ := h
  have hidx : sidx 4 (.slice (some ⟨it, 0, none⟩) ts.length 4) (.int .i64 (s.k : Int)) = some (.pointer (some ⟨it, 0 + s.k * 4, none⟩)) := sidx_at hk
  rw [Nat.zero_add] at hidx
  have hb1 : s.k * 4 + 4 ≤ (ts.flatMap cellP).length := by rw [cellsP_len]; omega
  have hg3 : (ts.flatMap cellP)[s.k * 4 + 3]? = some (.int .i64 (ts[s.k].2 : Int)) := by rw [flat_at' cellP_len ts (List.getElem?_eq_getElem hk) (by omega)]; rfl
  generalize ts[s.k].2 = at0 at *
  clear hgd
  obtain ⟨L, hL⟩ : ∃ L, ts.flatMap cellP = L := ⟨_, rfl⟩
  have hp0 : PsAt m ip it ts s := ⟨h1, h2, h3, h4, h5⟩
  rw [hL] at h2 hb1 hg3
  simp -implicitDefEqProofs (disch := first | assumption | (simp only [wnA]; done) | (simp only [wnA]; omega) | omega | fail) [rc36, ro36, wkA, retV, stabOk, dC, ev, fillD, pickCells, putAt, bnd, slD, List.getElem?_cons_zero, List.getElem?_cons_succ, dR.eq_20, Mem.cell, Mem.row, wmA, h1, h2, hidx, hg3, hb1, getL hg3]
  obtain ⟨M, hM⟩ : ∃ M, ((m.push (.own [.string ⟨#[]⟩, .int .i64 0, .string ⟨#[]⟩, .slice none 0 0, .int .i64 0, .string ⟨#[]⟩, .int .i64 0] 29)).push (.own [.string ⟨#[]⟩, .int .i64 0, .string ⟨#[]⟩, .slice none 0 0, .int .i64 0, .string ⟨#[]⟩, .int .i64 0] 29)).set (m.next + 1) (.own (putAt [.string ⟨#[]⟩, .int .i64 0, .string ⟨#[]⟩, .slice none 0 0, .int .i64 0, .string ⟨#[]⟩, .int .i64 0] 0 [.string ⟨⟨[]⟩⟩, .int .i64 0, .string ⟨⟨[]⟩⟩, .slice none 0 0, .int .i64 0, .string ⟨⟨[]⟩⟩, .int .i64 (at0 : Int)]) 29) = M := ⟨_, rfl⟩
  refine SK_stm (i := m.next + 1) (o := 0) (vs := [.string ⟨⟨[]⟩⟩, .int .i64 0, .string ⟨⟨[]⟩⟩, .slice none 0 0, .int .i64 0, .string ⟨⟨[]⟩⟩, .int .i64 (at0 : Int)]) (cs := [.string ⟨#[]⟩, .int .i64 0, .string ⟨#[]⟩, .slice none 0 0, .int .i64 0, .string ⟨#[]⟩, .int .i64 0]) (e := 29) (M := M) (by simp [wkA, retV, stabOk, dC, ev, fillD, pickCells, putAt, bnd, slD, List.getElem?_cons_zero, List.getElem?_cons_succ, dR.eq_20]) (by simp -implicitDefEqProofs (disch := first | assumption | (simp only [wnA]; done) | (simp only [wnA]; omega) | omega | fail) [wkA, retV, stabOk, dC, ev, fillD, pickCells, putAt, bnd, slD, List.getElem?_cons_zero, List.getElem?_cons_succ, dR.eq_20, Mem.cell, Mem.row, wmA]) (by simp [wkA, retV, stabOk, dC, ev, fillD, pickCells, putAt, bnd, slD, List.getElem?_cons_zero, List.getElem?_cons_succ, dR.eq_20]) (by simp) rfl rfl hM ?_
  have oM : Old m M := by subst hM; exact (((Old.refl m).push _).push _).set (by omega) _
  have hs0 : S4 m M ip it m.next (m.next + 1) ts s { ds0 with lb := [], pl := at0 } none := by
    refine ⟨oM.kept, hp0.old oM, hk, ⟨.slice none 0 0, ?_⟩, ?_, Nat.le_refl _, by omega, by subst hM; simp only [Mem.set_next, Mem.push_next]; omega, by subst hM; simp, by omega, ⟨rfl, rfl⟩, (fun i h => by cases h), Nat.zero_le _, h3, h4⟩
    · subst hM; rw [Mem.set_other _ _ (by omega), Mem.push_old _ _ (by simp), Mem.push_same]; rfl
    · subst hM; rw [Mem.set_same]; rfl
  clear hM
  simp -implicitDefEqProofs (disch := first | assumption | (simp only [wnA]; done) | (simp only [wnA]; omega) | omega | fail) [wkA, retV, stabOk, dC, ev, fillD, pickCells, putAt, bnd, slD, List.getElem?_cons_zero, List.getElem?_cons_succ, dR.eq_20, Mem.cell, Mem.row, wmA]
  refine c_take (kd := 1) (tx := []) hs0.ps hs0.sk hl fun m2 k2 p2 => ?_
  have hs2 := hs0.call k2 p2 (takeF_k hE hs0.sk (by decide))
  unfold headF at hq
  generalize takeF ts 1 [] s = r at *
  obtain ⟨⟨⟨kd0, tx0, vl0⟩, tat⟩, s2⟩ := r
  simp only at hs2 hq
  simp -implicitDefEqProofs (disch := first | assumption | (simp only [wnA]; done) | (simp only [wnA]; omega) | omega | fail) [wkA, retV, stabOk, dC, ev, fillD, pickCells, putAt, bnd, slD, List.getElem?_cons_zero, List.getElem?_cons_succ, dR.eq_20, Mem.cell, Mem.row, wmA, cellP_mk]
  have n2 := hs2.kb.1
  have l2 := hs2.m3
  obtain ⟨M3, hM3⟩ : ∃ M, (m2.push (.own [.int .i64 0, .string ⟨#[]⟩, .int .i64 0, .int .i64 0] 87)).set m2.next (.own (putAt [.int .i64 0, .string ⟨#[]⟩, .int .i64 0, .int .i64 0] 0 [.int .i64 kd0, .string ⟨⟨tx0⟩⟩, .int .i64 vl0, .int .i64 (tat : Int)]) 87) = M := ⟨_, rfl⟩
  refine SK_stm (i := m2.next) (o := 0) (vs := [.int .i64 kd0, .string ⟨⟨tx0⟩⟩, .int .i64 vl0, .int .i64 (tat : Int)]) (cs := [.int .i64 0, .string ⟨#[]⟩, .int .i64 0, .int .i64 0]) (e := 87) (M := M3) (by simp [wkA, retV, stabOk, dC, ev, fillD, pickCells, putAt, bnd, slD, List.getElem?_cons_zero, List.getElem?_cons_succ, dR.eq_20]) (by simp -implicitDefEqProofs (disch := first | assumption | (simp only [wnA]; done) | (simp only [wnA]; omega) | omega | fail) [wkA, retV, stabOk, dC, ev, fillD, pickCells, putAt, bnd, slD, List.getElem?_cons_zero, List.getElem?_cons_succ, dR.eq_20, Mem.cell, Mem.row, wmA]) (by simp [wkA, retV, stabOk, dC, ev, fillD, pickCells, putAt, bnd, slD, List.getElem?_cons_zero, List.getElem?_cons_succ, dR.eq_20, cellP_mk]) (by simp) rfl rfl hM3 ?_
  have oM3 : Old m2 M3 := by subst hM3; exact ((Old.refl m2).push _).set (Nat.le_refl _) _
  have g43 : M3.get m2.next = .own [.int .i64 kd0, .string ⟨⟨tx0⟩⟩, .int .i64 vl0, .int .i64 (tat : Int)] 87 := by subst hM3; rw [Mem.set_same]; rfl
  have n43 : m2.next < M3.next := by subst hM3; simp
  clear hM3
  have hs3 := hs2.old oM3
  simp -implicitDefEqProofs (disch := first | assumption | (simp only [wnA]; done) | (simp only [wnA]; omega) | omega | fail) [wkA, retV, stabOk, dC, ev, fillD, pickCells, putAt, bnd, slD, List.getElem?_cons_zero, List.getElem?_cons_succ, dR.eq_20, Mem.cell, Mem.row, wmA]
  refine c_is (kd := 4) (tx := [58]) hs3.ps hs3.sk hl fun m4 o4 => ?_
  have hs4 := hs3.old o4
  have g44 := (o4.2 m2.next n43).trans g43
  have n44 : m2.next < m4.next := Nat.lt_of_lt_of_le n43 o4.1
  cases hi : isF ts 4 [58] s2 with
  | false =>
    rw [hi] at hq
    simp only [Bool.false_eq_true, if_false] at hq
    simp -implicitDefEqProofs (disch := first | assumption | (simp only [wnA]; done) | (simp only [wnA]; omega) | omega | fail) [wkA, retV, stabOk, dC, ev, fillD, pickCells, putAt, bnd, slD, List.getElem?_cons_zero, List.getElem?_cons_succ, dR.eq_20, Mem.cell, Mem.row, wmA]
    refine w_from (t := (⟨kd0, tx0, vl0⟩, tat)) hs4 hl hE g44 (by omega) n44 (by simp [frA_at]) (by simp) (by simp) (by simp) fun fr' m' ob k p kl so hob al e2 g2 => ?_
    simp only [dsC] at g2
    simp -implicitDefEqProofs (disch := first | assumption | (simp only [wnA]; done) | (simp only [wnA]; omega) | omega | fail) [wkA, retV, stabOk, dC, ev, fillD, pickCells, putAt, bnd, slD, List.getElem?_cons_zero, List.getElem?_cons_succ, dR.eq_20, Mem.cell, Mem.row, wmA, e2, g2]
    exact hq m' ob k p kl so hob al
  | true =>
    rw [hi] at hq
    simp only [if_true] at hq
    obtain ⟨e5, hk5, -⟩ := isF_k hE hs4.sk (by decide) hi
    obtain ⟨k, err⟩ := s2
    have e5 : err = none := e5
    subst e5
    have hk5 : k + 1 < ts.length := hk5
    have gp := hs4.ps.1
    have gp : m4.get ip = .own [.slice (some ⟨it, 0, none⟩) ts.length 4, .int .i64 (k : Int), .nilIface] 84 := gp
    have w1 : IntKind.i64.wrap ((k : Int) + 1) = ((k + 1 : Nat) : Int) := by rw [w64 (by omega)]; omega
    simp -implicitDefEqProofs (disch := first | assumption | (simp only [wnA]; done) | (simp only [wnA]; omega) | omega | fail) [wkA, retV, stabOk, dC, ev, fillD, pickCells, putAt, bnd, slD, List.getElem?_cons_zero, List.getElem?_cons_succ, dR.eq_20, Mem.cell, Mem.row, wmA, gp, w1]
    obtain ⟨M8, hM8⟩ : ∃ M, m4.set ip (.own (putAt [.slice (some ⟨it, 0, none⟩) ts.length 4, .int .i64 (k : Int), .nilIface] 1 [.int .i64 ((k + 1 : Nat) : Int)]) 84) = M := ⟨_, rfl⟩
    refine SK_stm (i := ip) (o := 1) (vs := [.int .i64 ((k + 1 : Nat) : Int)]) (e := 84) (M := M8) (by simp [wkA, retV, stabOk, dC, ev, fillD, pickCells, putAt, bnd, slD, List.getElem?_cons_zero, List.getElem?_cons_succ, dR.eq_20]) gp (by simp [wkA, retV, stabOk, dC, ev, fillD, pickCells, putAt, bnd, slD, List.getElem?_cons_zero, List.getElem?_cons_succ, dR.eq_20]) (by simp) rfl rfl hM8 ?_
    have K8 : Kept ip m4 M8 := by subst hM8; exact ⟨Nat.le_refl _, fun i hi hn => Mem.set_other _ _ hn⟩
    have p8 : PsAt M8 ip it ts ⟨k + 1, none⟩ := by
      subst hM8
      have := hs4.ps
      exact ⟨by rw [Mem.set_same]; rfl, by rw [Mem.set_other _ _ (fun e => this.2.2.2.2 e.symm)]; exact this.2.1, this.2.2.1, this.2.2.2.1, this.2.2.2.2⟩
    have g48 : M8.get m2.next = .own [.int .i64 kd0, .string ⟨⟨tx0⟩⟩, .int .i64 vl0, .int .i64 (tat : Int)] 87 := (K8.2 _ n44 (by omega)).trans g44
    have n48 : m2.next < M8.next := Nat.lt_of_lt_of_le n44 K8.1
    have hs8 := hs4.call K8 p8 hk5
    clear hM8
    simp -implicitDefEqProofs (disch := first | assumption | (simp only [wnA]; done) | (simp only [wnA]; omega) | omega | fail) [wkA, retV, stabOk, dC, ev, fillD, pickCells, putAt, bnd, slD, List.getElem?_cons_zero, List.getElem?_cons_succ, dR.eq_20, Mem.cell, Mem.row, wmA, g48]
    refine hs8.store { ds0 with lb := tx0, pl := at0 } 0 (.string ⟨⟨tx0⟩⟩) (by simp [wkA, retV, stabOk, dC, ev, fillD, pickCells, putAt, bnd, slD, List.getElem?_cons_zero, List.getElem?_cons_succ, dR.eq_20]) (by simp [wkA, retV, stabOk, dC, ev, fillD, pickCells, putAt, bnd, slD, List.getElem?_cons_zero, List.getElem?_cons_succ, dR.eq_20]) rfl rfl (by omega) rfl fun M9 h9 o9 nM9 => ?_
    have g49 := (o9 m2.next (by omega)).trans g48
    simp -implicitDefEqProofs (disch := first | assumption | (simp only [wnA]; done) | (simp only [wnA]; omega) | omega | fail) [wkA, retV, stabOk, dC, ev, fillD, pickCells, putAt, bnd, slD, List.getElem?_cons_zero, List.getElem?_cons_succ, dR.eq_20, Mem.cell, Mem.row, wmA]
    refine c_take (kd := 1) (tx := []) h9.ps h9.sk hl fun m10 k10 p10 => ?_
    have hs10 := h9.call k10 p10 (takeF_k hE h9.sk (by decide))
    generalize takeF ts 1 [] ⟨k + 1, none⟩ = r at *
    obtain ⟨⟨⟨kd1, tx1, vl1⟩, at1⟩, s10⟩ := r
    simp only at hs10 hq
    have g410 := (k10.2 m2.next (by omega) (by omega)).trans g49
    have n410 : m2.next < m10.next := Nat.lt_of_lt_of_le (by omega) k10.1
    obtain ⟨M11, hM11, hs11, g411, n11⟩ := hs10.other (i4 := m2.next) (.own (putAt [.int .i64 kd0, .string ⟨⟨tx0⟩⟩, .int .i64 vl0, .int .i64 (tat : Int)] 0 [.int .i64 kd1, .string ⟨⟨tx1⟩⟩, .int .i64 vl1, .int .i64 (at1 : Int)]) 87) (by omega) (by omega) (by omega)
    simp -implicitDefEqProofs (disch := first | assumption | (simp only [wnA]; done) | (simp only [wnA]; omega) | omega | fail) [wkA, retV, stabOk, dC, ev, fillD, pickCells, putAt, bnd, slD, List.getElem?_cons_zero, List.getElem?_cons_succ, dR.eq_20, Mem.cell, Mem.row, wmA, cellP_mk]
    refine SK_stm (i := m2.next) (o := 0) (vs := [.int .i64 kd1, .string ⟨⟨tx1⟩⟩, .int .i64 vl1, .int .i64 (at1 : Int)]) (e := 87) (M := M11) (by simp [wkA, retV, stabOk, dC, ev, fillD, pickCells, putAt, bnd, slD, List.getElem?_cons_zero, List.getElem?_cons_succ, dR.eq_20]) g410 (by simp [wkA, retV, stabOk, dC, ev, fillD, pickCells, putAt, bnd, slD, List.getElem?_cons_zero, List.getElem?_cons_succ, dR.eq_20, cellP_mk]) (by simp) rfl rfl hM11 ?_
    simp -implicitDefEqProofs (disch := first | assumption | (simp only [wnA]; done) | (simp only [wnA]; omega) | omega | fail) [wkA, retV, stabOk, dC, ev, fillD, pickCells, putAt, bnd, slD, List.getElem?_cons_zero, List.getElem?_cons_succ, dR.eq_20, Mem.cell, Mem.row, wmA]
    refine w_from (t := (⟨kd1, tx1, vl1⟩, at1)) hs11 hl hE g411 (by omega) (by omega) (by simp [frA_at]) (by simp) (by simp) (by simp) fun fr' m' ob k p kl so hob al e2 g2 => ?_
    simp only [dsC] at g2
    simp -implicitDefEqProofs (disch := first | assumption | (simp only [wnA]; done) | (simp only [wnA]; omega) | omega | fail) [wkA, retV, stabOk, dC, ev, fillD, pickCells, putAt, bnd, slD, List.getElem?_cons_zero, List.getElem?_cons_succ, dR.eq_20, Mem.cell, Mem.row, wmA, e2, g2]
    exact hq m' ob k p kl so hob al
end Go.Proofs.YtjlicambfepfiaaGreatDoor.Ab

set_option linter.unusedVariables false
set_option linter.unusedSimpArgs false
namespace Go.Proofs.YtjlicambfepfiaaGreatDoor.Ab
open Go Go.RowKit
set_option maxHeartbeats 4000000
set_option maxRecDepth 100000
theorem numF_ge (most : Int) (ts : List (Tk × Nat)) (s : PS) : s.k ≤ (numF most ts s).2.k := by
  show s.k ≤ (numR most (takeF ts 2 [] s)).k
  rw [numR_k]; exact takeF_ge _ _ _ _
theorem toF_ge (ts : List (Tk × Nat)) (s : PS) : s.k ≤ (toF ts s).2.k := Nat.le_trans (takeF_ge _ _ _ _) (takeF_ge _ _ _ _)
theorem armsF_ge (ts : List (Tk × Nat)) : ∀ (n : Nat) (s : PS) (out : List Arm), s.k ≤ (armsF n ts s out).2.k
  | 0, s, out => Nat.le_refl _
  | n + 1, s, out => by
    have h := armF_ge ts s
    simp only [armsF]
    split
    · exact Nat.le_refl _
    · split
      · exact Nat.le_trans (Nat.le_trans h (Nat.le_succ _)) (armsF_ge ts n ⟨(armF ts s).2.k + 1, (armF ts s).2.err⟩ (out ++ [(armF ts s).1]))
      · exact h
theorem headF_ge (ts : List (Tk × Nat)) (s : PS) : s.k ≤ (headF ts s).2.2.k := by
  have h := takeF_ge ts 1 [] s
  unfold headF
  simp only
  split
  · exact Nat.le_trans (Nat.le_trans h (Nat.le_succ _)) (takeF_ge ts 1 [] ⟨(takeF ts 1 [] s).2.k + 1, _⟩)
  · exact h
theorem restK_ge (x : Nat) (ts : List (Tk × Nat)) (d : DS) (t : Tk × Nat) (s : PS) : s.k ≤ (restK x ts d t s).2.k := by
  unfold restK
  split
  · exact takeF_ge _ _ _ _
  · exact Nat.le_trans (armsF_ge ts _ s []) (Nat.le_trans (takeF_ge ts 1 afterL (armsL ts s).2) (Nat.le_trans (numF_ge 99 ts _) (toF_ge ts _)))
  · exact takeF_ge _ _ _ _
  · exact Nat.le_trans (numF_ge 9 ts s) (toF_ge ts _)
  · exact Nat.le_refl _
  · exact Nat.le_refl _
  · simp only
    split <;> exact Nat.le_refl _
def stepsF : Nat → List (Tk × Nat) → PS → List DS → List DS × Option (Nat × Nat)
  | 0, ts, s, out => (out, s.err)
  | f + 1, ts, s, out => if s.err = none ∧ (ts.getD s.k tok0).1.kd ≠ 0 then stepsF f ts (stepF ts s).2 (out ++ [(stepF ts s).1]) else (out, s.err)
def parseD (ts : List (Tk × Nat)) : List DS × Option (Nat × Nat) := stepsF ts.length ts ⟨0, none⟩ []
def mu (ts : List (Tk × Nat)) (s : PS) : Nat := match s.err with
  | none => ts.length - s.k
  | some _ => 0
theorem mu_step {ts : List (Tk × Nat)} {s : PS} (hk : s.k < ts.length) (h : s.err = none) : mu ts (stepF ts s).2 < mu ts s := by
  have h1 : mu ts s = ts.length - s.k := by simp [mu, h]
  cases h2 : (stepF ts s).2.err with
  | some e =>
    have : mu ts (stepF ts s).2 = 0 := by simp [mu, h2]
    omega
  | none =>
    have h4 : mu ts (stepF ts s).2 = ts.length - (stepF ts s).2.k := by simp [mu, h2]
    have h3 : s.k + 1 ≤ (stepF ts s).2.k := by
      unfold stepF at h2 ⊢
      simp only at h2 ⊢
      obtain ⟨-, -, e⟩ := takeF_none h2
      rw [e]
      exact Nat.succ_le_succ (Nat.le_trans (headF_ge ts s) (restK_ge _ ts _ _ _))
    rw [h1, h4]
    omega
theorem stop_step {ts : List (Tk × Nat)} {s : PS} {out : List DS} (h : ¬ (s.err = none ∧ (ts.getD s.k tok0).1.kd ≠ 0)) : ∀ n, stepsF n ts s out = (out, s.err)
  | 0 => rfl
  | n + 1 => by rw [stepsF, if_neg h]
/-- A step and the block of its patterns. -/
abbrev DB := DS × Option Nat
def dbC (x : DB) : List Value := dsC x.1 (slV x.2 x.1.arms.length 2)
/-- Steps whose patterns lie in blocks of their own. -/
def ArmsAt (m : Mem) (base : Nat) (l : List DB) : Prop := ∀ x ∈ l, SlO m 49 2 x.2 (x.1.arms.flatMap Arm.cells) x.1.arms.length ∧ (∀ i, x.2 = some i → base ≤ i)
theorem c_Parse {w0 : World} {m : Mem} {S : ByteArray} {Q : Value → Mem → Prop} (hp : Part L0 m) (ht : Ten w0) (hE : ErrV w0)
    (hb : 4096 < S.size → ∀ m', Old m m' → Q (.tuple ⟨[.slice none 0 0, faultV 7 0]⟩) m')
    (hx : S.size ≤ 4096 → ∀ m' a, Old m m' → cutL 0 S.data.toList = .inl a → Q (.tuple ⟨[.slice none 0 0, faultV 1 a]⟩) m')
    (he : S.size ≤ 4096 → ∀ m' us e, Old m m' → cutL 0 S.data.toList = .inr us → (parseD us).2 = some e → Q (.tuple ⟨[.slice none 0 0, faultV e.1 e.2]⟩) m')
    (hq : S.size ≤ 4096 → ∀ m' us ob l, Old m m' → cutL 0 S.data.toList = .inr us → us.length ≤ S.size + 1 → parseD us = (l.map Prod.fst, none) → SlO m' 29 7 ob (l.flatMap dbC) l.length → (∀ i, ob = some i → m.next ≤ i) → ArmsAt m' m.next l → l.length ≤ us.length → Q (.tuple ⟨[slV ob l.length 7, .nilIface]⟩) m') :
    AbC Tryz.prog w0 18 [.string S] m Q := by
  refine AbC_fn ok18 (by simp) ?_
  simp -implicitDefEqProofs (disch := first | assumption | (simp only [wnA]; done) | (simp only [wnA]; omega) | omega | fail) [rc18, ro18, wkA, retV, stabOk, dC, ev, fillD, pickCells, putAt, bnd, slD, List.getElem?_cons_zero, List.getElem?_cons_succ, dR.eq_20, Mem.cell, Mem.row, wmA]
  refine c_tCut hp ht hE (fun hs m1 o1 => ?_) (fun hs m1 a o1 hc => ?_) fun hs m1 it us o1 h1 hi hul hc => ?_
  · have hf : faultV 7 0 = .iface 92 (.agg ⟨[.int .i64 ((7 : Nat) : Int), .int .i64 ((0 : Nat) : Int)]⟩) := rfl
    have hb := hb hs m1 o1
    rw [hf] at hb
    simp -implicitDefEqProofs (disch := first | assumption | (simp only [wnA]; done) | (simp only [wnA]; omega) | omega | fail) [wkA, retV, stabOk, dC, ev, fillD, pickCells, putAt, bnd, slD, List.getElem?_cons_zero, List.getElem?_cons_succ, dR.eq_20, Mem.cell, Mem.row, wmA, hf]
    exact hb
  · have hf : faultV 1 a = .iface 92 (.agg ⟨[.int .i64 ((1 : Nat) : Int), .int .i64 (a : Int)]⟩) := rfl
    have hx := hx hs m1 a o1 hc
    rw [hf] at hx
    simp -implicitDefEqProofs (disch := first | assumption | (simp only [wnA]; done) | (simp only [wnA]; omega) | omega | fail) [wkA, retV, stabOk, dC, ev, fillD, pickCells, putAt, bnd, slD, List.getElem?_cons_zero, List.getElem?_cons_succ, dR.eq_20, Mem.cell, Mem.row, wmA, hf]
    exact hx
  · have hE : EndOk us := by
      obtain ⟨-, ini, hini⟩ := (cut_places S.data.toList S.data.toList.length 0 (by omega) (by omega)).2 us hc
      unfold EndOk
      rw [hini]
      simp [endT]
    have hpos : 0 < us.length := by
      obtain ⟨-, ini, hini⟩ := (cut_places S.data.toList S.data.toList.length 0 (by omega) (by omega)).2 us hc
      rw [hini]; simp
    simp -implicitDefEqProofs (disch := first | assumption | (simp only [wnA]; done) | (simp only [wnA]; omega) | omega | fail) [wkA, retV, stabOk, dC, ev, fillD, pickCells, putAt, bnd, slD, List.getElem?_cons_zero, List.getElem?_cons_succ, dR.eq_20, Mem.cell, Mem.row, wmA, rc18_4]
    obtain ⟨ip, hip⟩ : ∃ ip, m1.next = ip := ⟨_, rfl⟩
    obtain ⟨b, hbb⟩ : ∃ b, m1.push (.own [slV (some it) us.length 4, .int .i64 0, .nilIface] 84) = b := ⟨_, rfl⟩
    have oB : Old m1 b := by subst hbb; exact (Old.refl m1).push _
    have pB : PsAt b ip it us ⟨0, none⟩ := by
      subst hbb hip
      exact ⟨by rw [Mem.push_same]; rfl, by rw [Mem.push_old _ _ h1.lt]; exact h1.2.1, by simp, by have := h1.lt; simp; omega, by have := h1.lt; omega⟩
    have nB : b.next = ip + 1 := by subst hbb hip; rfl
    have fin : ∀ m', Kept ip b m' → Old m m' := fun m' k => ⟨by have := o1.1; have := oB.1; have := k.1; omega, fun i hi => by
      have := o1.1
      rw [k.2 i (by omega) (by omega), oB.2 i (by omega), o1.2 i hi]⟩
    have hlm : m.next ≤ b.next := by have := o1.1; omega
    simp only [hbb, hip]
    clear hbb
    refine LoopW_of (fun n fr m' => ∃ s l ob, mu us s ≤ n ∧ s.k < us.length ∧ stepsF n us s (l.map Prod.fst) = parseD us ∧ ArmsAt m' b.next l ∧ Kept ip b m' ∧ PsAt m' ip it us s ∧ SlO m' 29 7 ob (l.flatMap dbC) l.length ∧ (∀ i, ob = some i → b.next ≤ i) ∧ l.length + mu us s ≤ us.length ∧ fr 6 = .pointer (some ⟨ip, 0, none⟩) ∧ fr 7 = slV ob l.length 7) us.length ?_ ?_
    · exact ⟨⟨0, none⟩, [], none, by simp [mu], hpos, rfl, (fun x h => by cases h), Kept.refl _ _, pB, ⟨rfl, rfl⟩, (fun i h => by cases h), by simp [mu], by simp, by simp; rfl⟩
    · rintro n fr m' K ⟨s, l, ob, hmu, hk, hpa, hAA, kB, pS, so, hob, hol, f6, f7⟩ hK
      obtain ⟨k, err⟩ := s
      have hk : k < us.length := hk
      have oF := fin m' kB
      cases err with
      | some e =>
        have gp : m'.get ip = .own [.slice (some ⟨it, 0, none⟩) us.length 4, .int .i64 (k : Int), .iface 92 (.agg ⟨[.int .i64 (e.1 : Int), .int .i64 (e.2 : Int)]⟩)] 84 := pS.1
        have hpe : parseD us = (l.map Prod.fst, some e) := by rw [← hpa]; exact stop_step (fun h => by cases h.1) n
        have he := he hs m' us e oF hc (by rw [hpe])
        simp only [faultV] at he
        simp -implicitDefEqProofs (disch := first | assumption | (simp only [wnA]; done) | (simp only [wnA]; omega) | omega | fail) [wkA, retV, stabOk, dC, ev, fillD, pickCells, putAt, bnd, slD, List.getElem?_cons_zero, List.getElem?_cons_succ, dR.eq_20, Mem.cell, Mem.row, wmA, rc18_1, rc18_3, f6, gp]
        exact he
      | none =>
        have gp : m'.get ip = .own [.slice (some ⟨it, 0, none⟩) us.length 4, .int .i64 (k : Int), .nilIface] 84 := pS.1
        have hidx : sidx 4 (.slice (some ⟨it, 0, none⟩) us.length 4) (.int .i64 (k : Int)) = some (.pointer (some ⟨it, 0 + k * 4, none⟩)) := sidx_at hk
        rw [Nat.zero_add] at hidx
        have gt := pS.2.1
        have g0 : (us.flatMap cellP)[k * 4]? = some (.int .i64 (us.getD k tok0).1.kd) := by
          have := flat_at' cellP_len us (List.getElem?_eq_getElem hk) (show 0 < 4 by omega)
          have e : us.getD k tok0 = us[k] := by simp [List.getD, List.getElem?_eq_getElem hk]
          rw [e]
          exact this
        obtain ⟨kd0, hkd0⟩ : ∃ x, (us.getD k tok0).1.kd = x := ⟨_, rfl⟩
        rw [hkd0] at g0
        by_cases hkd : kd0 = 0
        · have hpe : parseD us = (l.map Prod.fst, none) := by rw [← hpa]; exact stop_step (fun h => h.2 (hkd0.trans hkd)) n
          have hq := hq hs m' us ob l oF hc hul hpe so (fun i h => by have := hob i h; omega) (fun x hx => ⟨(hAA x hx).1, fun i h => by have := (hAA x hx).2 i h; omega⟩) (by omega)
          rw [hkd] at g0
          obtain ⟨L, hL⟩ : ∃ L, us.flatMap cellP = L := ⟨_, rfl⟩
          rw [hL] at gt g0
          simp -implicitDefEqProofs (disch := first | assumption | (simp only [wnA]; done) | (simp only [wnA]; omega) | omega | fail) [wkA, retV, stabOk, dC, ev, fillD, pickCells, putAt, bnd, slD, List.getElem?_cons_zero, List.getElem?_cons_succ, dR.eq_20, Mem.cell, Mem.row, wmA, rc18_1, rc18_3, rc18_2, f6, f7, gp, hidx, gt, g0]
          exact hq
        · have hm1 : mu us ⟨k, none⟩ = us.length - k := rfl
          obtain ⟨n, rfl⟩ : ∃ n', n = n' + 1 := ⟨n - 1, by omega⟩
          have hmu2 := mu_step (s := ⟨k, none⟩) hk rfl
          rw [stepsF, if_pos ⟨rfl, fun e => hkd (hkd0.symm.trans e)⟩] at hpa
          obtain ⟨L, hL⟩ : ∃ L, us.flatMap cellP = L := ⟨_, rfl⟩
          rw [hL] at gt g0
          simp -implicitDefEqProofs (disch := first | assumption | (simp only [wnA]; done) | (simp only [wnA]; omega) | omega | fail) [wkA, retV, stabOk, dC, ev, fillD, pickCells, putAt, bnd, slD, List.getElem?_cons_zero, List.getElem?_cons_succ, dR.eq_20, Mem.cell, Mem.row, wmA, rc18_1, rc18_0, f6, f7, gp, hidx, gt, g0, bneT hkd]
          refine c_step pS hk (by omega) hE fun m2 oa k2 p2 hk2 sa hoa ala => ?_
          generalize stepF us ⟨k, none⟩ = r at *
          obtain ⟨d, s2⟩ := r
          simp only at p2 hk2 sa hoa ala hpa hmu2
          have hav : oneC (slV oa d.arms.length 2) = true := by cases oa <;> rfl
          have hav2 : cellsV (slV oa d.arms.length 2) = [slV oa d.arms.length 2] := by cases oa <;> rfl
          have hdb : dbC (d, oa) = dsC d (slV oa d.arms.length 2) := rfl
          obtain ⟨av, hav0⟩ : ∃ av, slV oa d.arms.length 2 = av := ⟨_, rfl⟩
          rw [hav0] at hav hdb hav2
          simp -implicitDefEqProofs (disch := first | assumption | (simp only [wnA]; done) | (simp only [wnA]; omega) | omega | fail) [wkA, retV, stabOk, dC, ev, fillD, pickCells, putAt, bnd, slD, List.getElem?_cons_zero, List.getElem?_cons_succ, dR.eq_20, Mem.cell, Mem.row, wmA, hav0]
          rw [SK_bsl (cs := dsC d av) (by simp [wkA, retV, stabOk, dC, ev, fillD, pickCells, putAt, bnd, slD, List.getElem?_cons_zero, List.getElem?_cons_succ, dR.eq_20, dsC]) (by simp [dsC])]
          obtain ⟨m3, hm3⟩ : ∃ m3, m2.push (.own (dsC d av) 29) = m3 := ⟨_, rfl⟩
          have o3 : Old m2 m3 := by subst hm3; exact (Old.refl m2).push _
          have g3 : m3.get m2.next = .own (dsC d av) 29 := by subst hm3; rw [Mem.push_same]
          have n3 : m3.next = m2.next + 1 := by subst hm3; rfl
          simp -implicitDefEqProofs (disch := first | assumption | (simp only [wnA]; done) | (simp only [wnA]; omega) | omega | fail) [wkA, retV, stabOk, dC, ev, fillD, pickCells, putAt, bnd, slD, List.getElem?_cons_zero, List.getElem?_cons_succ, dR.eq_20, Mem.cell, Mem.row, wmA, hm3]
          clear hm3
          have K3 : Kept ip b m3 := (kB.trans k2).trans o3.kept
          have p3 := p2.old o3
          have s3 : SlO m3 29 7 ob (l.flatMap dbC) l.length := so.keep (by have := k2.1; have := o3.1; omega) fun j hj => by
            have h1 := hob j hj
            have h2 : j < m'.next := by subst hj; exact so.lt
            rw [o3.2 j (by have := k2.1; omega), k2.2 j h2 (by omega)]
          have hAA3 : ArmsAt m3 b.next (l ++ [(d, oa)]) := by
            intro x hx
            rcases List.mem_append.1 hx with hx | hx
            · refine ⟨(hAA x hx).1.keep (by have := k2.1; have := o3.1; omega) fun j hj => ?_, (hAA x hx).2⟩
              have h1 := (hAA x hx).2 j hj
              have h2 : j < m'.next := (by have := (hAA x hx).1; rw [hj] at this; exact this.lt)
              rw [o3.2 j (by have := k2.1; omega), k2.2 j h2 (by omega)]
            · rw [List.mem_singleton] at hx
              subst hx
              exact ⟨sa.keep o3.1 fun j hj => o3.2 j (by have hj : oa = some j := hj; subst hj; exact sa.lt), fun i hi => Nat.le_trans kB.1 (hoa i hi)⟩
          refine SK_ap (ob := ob) (n := l.length) (k := 1) (cs := l.flatMap dbC) (ys := dsC d av) s3 (by simp [wkA, retV, stabOk, dC, ev, fillD, pickCells, putAt, bnd, slD, List.getElem?_cons_zero, List.getElem?_cons_succ, dR.eq_20]) (by simp -implicitDefEqProofs (disch := first | assumption | (simp only [wnA]; done) | (simp only [wnA]; omega) | omega | fail) [wkA, retV, stabOk, dC, ev, fillD, pickCells, putAt, bnd, slD, List.getElem?_cons_zero, List.getElem?_cons_succ, dR.eq_20, elemsV, Mem.cell, Mem.row, wmA, g3, dsC]) (by simp [wkA, retV, stabOk, dC, ev, fillD, pickCells, putAt, bnd, slD, List.getElem?_cons_zero, List.getElem?_cons_succ, dR.eq_20]) (by omega) ?_ (by omega) (by simp only [maxLen]; omega) rfl ?_
          · simp only [dsC, List.all_cons, List.all_nil, hav]; rfl
          have o4 : Old (b.set ip (m3.get ip)) ((m3.kill ob).push (.own (l.flatMap dbC ++ dsC d av) 29)) := ((kept_old K3).kill hob).push _
          have s4 : SlO ((m3.kill ob).push (.own (l.flatMap dbC ++ dsC d av) 29)) 29 7 (some m3.next) (l.flatMap dbC ++ dsC d av) (l.length + 1) := SlO.new (by rw [List.length_append, s3.1]; show l.length * 7 + 7 = _; omega)
          have A4 : ArmsAt ((m3.kill ob).push (.own (l.flatMap dbC ++ dsC d av) 29)) b.next (l ++ [(d, oa)]) := fun x hx => ⟨((hAA3 x hx).1.kill ((hAA3 x hx).1.ne2 s3 (by decide))).push _, (hAA3 x hx).2⟩
          have n4 : b.next ≤ m3.next := K3.1
          generalize (m3.kill ob).push (.own (l.flatMap dbC ++ dsC d av) 29) = m4 at *
          simp -implicitDefEqProofs (disch := first | assumption | (simp only [wnA]; done) | (simp only [wnA]; omega) | omega | fail) [wkA, retV, stabOk, dC, ev, fillD, pickCells, putAt, bnd, slD, List.getElem?_cons_zero, List.getElem?_cons_succ, dR.eq_20, Mem.cell, Mem.row, wmA]
          have K4 : Kept ip b m4 := ⟨o4.1, fun i hi hn => by rw [o4.2 i hi, Mem.set_other _ _ hn]⟩
          have gi : m4.get ip = m3.get ip := by rw [o4.2 ip (by show ip < b.next; omega), Mem.set_same]
          have p4 : PsAt m4 ip it us s2 := by
            obtain ⟨x1, x2, x3, x4, x5⟩ := p3
            have hitb : it < b.next := pB.2.2.2.1
            exact ⟨by rw [gi]; exact x1, by rw [K4.2 it hitb (fun e => x5 e.symm), pB.2.1], by have := o4.1; show ip < m4.next; have : b.next ≤ m4.next := this; omega, by have : b.next ≤ m4.next := o4.1; omega, x5⟩
          refine hK n _ m4 (by omega) ⟨s2, l ++ [(d, oa)], some m3.next, ?_, hk2, ?_, A4, K4, p4, ?_, ?_, ?_, ?_, ?_⟩
          · omega
          · simpa using hpa
          · rw [List.flatMap_append, List.length_append]
            simpa [hdb] using s4
          · intro i hi; cases hi; exact n4
          · simp
            omega
          · simp [f6]
          · simp
end Go.Proofs.YtjlicambfepfiaaGreatDoor.Ab

set_option linter.unusedVariables false
set_option linter.unusedSimpArgs false
namespace Go.Proofs.YtjlicambfepfiaaGreatDoor.Ab
open Go Go.RowKit
set_option maxHeartbeats 4000000
set_option maxRecDepth 100000
theorem c_JoinA {w0 : World} {m : Mem} {v : Value} {xs : List ByteArray} {sep : ByteArray} {Q : Value → Mem → Prop} (hv : SlR m 1 v (xs.map .string) xs.length) (hvb : ∀ b, blk v = some b → b < m.next) (hs : 0 < sep.size) (hl : (sep.size + 1) * xs.length + totL xs ≤ 140737488355328)
    (hq : ∀ m', Old m m' → Q (.string ⟨⟨joinL sep.data.toList xs⟩⟩) m') : AbC Tryz.prog w0 60 [v, .string sep] m Q := by
  match xs, hv, hl, hq with
  | [], hv, hl, hq =>
    refine AbC_fn ok60 (by simp) ?_
    have hsl := hv.slen
    simp only [List.length_nil] at hsl
    simp -implicitDefEqProofs (disch := first | assumption | (simp only [wnA]; done) | (simp only [wnA]; omega) | omega | fail) [rc60, ro60, wkA, retV, stabOk, dC, ev, fillD, pickCells, putAt, bnd, slD, List.getElem?_cons_zero, List.getElem?_cons_succ, dR.eq_20, Mem.cell, Mem.row, wmA, hsl]
    exact hq m (Old.refl m)
  | [x], hv, hl, hq =>
    refine AbC_fn ok60 (by simp) ?_
    have hsl := hv.slen
    obtain ⟨bi, bo, L, hvv, hL, hLl, -, hLc⟩ := hv.at (j := 0) (by simp)
    have hc := hLc 0 (by omega)
    simp only [List.map_cons, List.map_nil, List.length_cons, List.length_nil, Nat.zero_mul, Nat.add_zero, List.getElem?_cons_zero] at hc hvv hsl
    have hs0 : sidx 1 v (.int .i64 0) = some (.pointer (some ⟨bi, bo, none⟩)) := by
      have := sidx_at (b := bi) (o := bo) (n := 1) (c := 1) (j := 0) (sz := 1) (k := .i64) (by omega)
      simpa [hvv] using this
    simp -implicitDefEqProofs (disch := first | assumption | (simp only [wnA]; done) | (simp only [wnA]; omega) | omega | fail) [rc60, ro60, wkA, retV, stabOk, dC, ev, fillD, pickCells, putAt, bnd, slD, List.getElem?_cons_zero, List.getElem?_cons_succ, dR.eq_20, Mem.cell, Mem.row, wmA, hsl, hs0, hL, hc, getL hc]
    have := hq m (Old.refl m)
    simpa [joinL] using this
  | x :: y :: r, hv, hl, hq => exact c_Join hv hvb (by simp) hs hl hq
def goS : List UInt8 := [32, 103, 111, 32]
def armL (a : Arm) : List UInt8 := qL a.pat ++ goS ++ a.to
def armB (a : Arm) : ByteArray := ⟨⟨armL a⟩⟩
def kN (k : Int) : Nat := if k < 0 then 0 else if k > 5 then 5 else k.toNat
def joinA (l : List Arm) : List UInt8 := joinL [44, 32] (l.map armB)
def restX (k : Nat) (d : DS) : List UInt8 := match k with
  | 0 => 32 :: qL d.tx
  | 1 => 32 :: joinA d.arms ++ 32 :: afterL ++ 32 :: numS 10 d.n ++ goS ++ d.to
  | 2 => 32 :: d.to
  | 3 => 32 :: numS 10 d.n ++ goS ++ d.to
  | _ => []
def restL (d : DS) : List UInt8 := restX (kN d.kd) d
def labL (d : DS) : List UInt8 := if d.lb = [] then [] else d.lb ++ [58, 32]
def lineD (d : DS) : List UInt8 := labL d ++ wordsL.getD (kN d.kd) [] ++ restL d ++ [59, 10]
/-- How much a step's text takes, at most. -/
def wArms (l : List Arm) : Nat := (l.map fun a => 2 * a.pat.length + a.to.length + 64).sum
def wD (d : DS) : Nat := d.lb.length + 2 * d.tx.length + d.to.length + wArms d.arms + 128
theorem wArms_len (l : List Arm) : 64 * l.length ≤ wArms l := by
  induction l with
  | nil => simp [wArms]
  | cons a l ih => simp only [wArms, List.map_cons, List.sum_cons, List.length_cons] at ih ⊢; omega
theorem armL_len (a : Arm) : (armL a).length ≤ 2 * a.pat.length + a.to.length + 6 := by
  have := qL_len a.pat
  simp [armL, goS]; omega
theorem wArms_mem {l : List Arm} {a : Arm} (h : a ∈ l) : 2 * a.pat.length + a.to.length + 64 ≤ wArms l := by
  induction l with
  | nil => cases h
  | cons b l ih =>
    simp only [wArms, List.map_cons, List.sum_cons] at ih ⊢
    rcases List.mem_cons.1 h with rfl | h
    · omega
    · have := ih h; omega
theorem totA_le (l : List Arm) : 3 * (l.map armB).length + totL (l.map armB) ≤ wArms l := by
  induction l with
  | nil => simp [totL, wArms]
  | cons a l ih =>
    have := armL_len a
    have e : (armB a).size = (armL a).length := by simp [armB, ByteArray.size]
    simp only [totL, wArms, List.map_cons, List.sum_cons, List.length_cons, e] at ih ⊢
    omega
theorem joinL_len (sep : List UInt8) (xs : List ByteArray) : (joinL sep xs).length ≤ sep.length * xs.length + totL xs := by
  cases xs with
  | nil => simp [joinL]
  | cons x r =>
    have := flat_sep_len sep r
    have e : x.data.toList.length = x.size := by simp
    simp only [joinL, List.length_append, this, totL, List.map_cons, List.sum_cons, List.length_cons, Nat.mul_add, e]
    omega
theorem joinA_len (l : List Arm) : (joinA l).length ≤ wArms l := by
  have h1 := joinL_len [44, 32] (l.map armB)
  have h2 := totA_le l
  simp only [List.length_cons, List.length_nil] at h1
  unfold joinA
  omega
theorem kN_le (k : Int) : kN k ≤ 5 := by unfold kN; split <;> (try split) <;> omega
theorem cat2 {a b : List UInt8} (h : a.length + b.length ≤ 9223372036854775807) : dBin .add (.string ⟨⟨a⟩⟩) (.string ⟨⟨b⟩⟩) = some (.string ⟨⟨a ++ b⟩⟩) := by
  rw [dBin_sadd (by exact h), bApp_eq]
theorem num_len10 {i : Int} (hi : -9223372036854775808 ≤ i ∧ i ≤ 9223372036854775807) : (numS 10 i).length ≤ 23 := by
  have := digs_64 (b := 10) (n := i.natAbs) (by omega) (by omega)
  unfold numS sgn
  split <;> simp <;> omega
theorem Bld.keep {base m m' : Mem} {i : Nat} {bs : List UInt8} (h : Bld base m i bs) (o : Old m m') : Bld base m' i bs := by
  obtain ⟨h1, h2, h3, pa, ob, h4, h5, h6, hz, h7⟩ := h
  refine ⟨h1.trans o, h2, Nat.lt_of_lt_of_le h3 o.1, pa, ob, by rw [o.2 _ h3]; exact h4, h5, h6.keep o.1 fun b hb => o.2 b ?_, hz, h7⟩
  subst hb
  exact h6.lt
theorem w_arms {w0 : World} {Q : AQ} {fr : Fr} {m : Mem} {av : Value} {l : List Arm} (hv : SlR m 2 av (l.flatMap Arm.cells) l.length) (hvb : ∀ b, blk av = some b → b < m.next) (hl : wArms l ≤ 1099511627776)
    (e7 : fr 7 = .slice none 0 0) (e44 : fr 44 = av) (e45 : fr 45 = .int .i64 (l.length : Nat)) (e46 : fr 46 = .int .i64 0)
    (hq : ∀ fr' m' ob, Old m m' → (∀ k ∈ [1, 3], fr' k = fr k) → SlO m' 9 1 ob ((l.map armB).map .string) l.length → (∀ b, ob = some b → m.next ≤ b) → fr' 7 = slV ob l.length 1 → Q .normal fr' m') : LoopW (AbW Tryz.prog w0 rc39_1) (inBlockA 1 Q) fr m := by
  have hll := wArms_len l
  refine LoopW_of (fun k ts m' => ∃ j ob, j + k = l.length ∧ Old m m' ∧ (∀ k ∈ [1, 3], ts k = fr k) ∧ ts 44 = av ∧ ts 45 = .int .i64 (l.length : Nat) ∧ ts 46 = .int .i64 (j : Nat) ∧ ts 7 = slV ob j 1 ∧ SlO m' 9 1 ob (((l.take j).map armB).map .string) j ∧ (∀ b, ob = some b → m.next ≤ b)) l.length ?_ ?_
  · exact ⟨0, none, by omega, Old.refl m, fun k _ => rfl, e44, e45, e46, by rw [e7]; rfl, ⟨rfl, rfl⟩, (fun b h => by cases h)⟩
  · rintro k ts m1 K ⟨j, ob, hj, o1, sm, t44, t45, t46, t7, so, hob⟩ hK
    simp -implicitDefEqProofs (disch := first | assumption | (simp only [wnA]; done) | (simp only [wnA]; omega) | omega | fail) [rc39_1, wkA, retV, stabOk, dC, ev, fillD, pickCells, putAt, bnd, slD, List.getElem?_cons_zero, List.getElem?_cons_succ, dR.eq_20, Mem.cell, Mem.row, wmA, t45, t46]
    by_cases hjl : j < l.length
    · have hv1 : SlR m1 2 av (l.flatMap Arm.cells) l.length := hv.keep fun b h => o1.2 b (hvb b h)
      obtain ⟨bi, bo, L, hvv, hL, hLl, hLt, -⟩ := hv1.at hjl
      rw [flat_at arl l (List.getElem?_eq_getElem hjl)] at hLt
      obtain ⟨a, hx⟩ : ∃ a, l[j] = a := ⟨_, rfl⟩
      have ham : a ∈ l := by rw [← hx]; exact List.getElem_mem hjl
      have hw := wArms_mem ham
      have hnx : (l.take (j + 1)).map armB = (l.take j).map armB ++ [armB a] := by
        rw [List.take_succ_eq_append_getElem hjl, List.map_append, hx]; simp
      rw [hx] at hLt
      obtain ⟨pt, tt⟩ := a
      have hLt : (L.drop (bo + j * 2)).take 2 = [.string ⟨⟨pt⟩⟩, .string ⟨⟨tt⟩⟩] := hLt
      rw [hvv] at t44
      have hle : bo + j * 2 + 2 ≤ L.length := by omega
      have hjw : IntKind.i64.wrap ((j : Int) + 1) = ((j + 1 : Nat) : Int) := by rw [w64 (by omega)]; omega
      simp -implicitDefEqProofs (disch := first | assumption | (simp only [wnA]; done) | (simp only [wnA]; omega) | omega | fail) [hjl, rc39_0, wkA, retV, stabOk, dC, ev, fillD, pickCells, putAt, bnd, slD, List.getElem?_cons_zero, List.getElem?_cons_succ, dR.eq_20, Mem.cell, Mem.row, wmA, t44, t45, t46, sidx_at, hL, hLt, hle]
      obtain ⟨M, hM⟩ : ∃ M, (m1.push (.own [.string ⟨#[]⟩, .string ⟨#[]⟩] 49)).set m1.next (.own (putAt [.string ⟨#[]⟩, .string ⟨#[]⟩] 0 [.string ⟨⟨pt⟩⟩, .string ⟨⟨tt⟩⟩]) 49) = M := ⟨_, rfl⟩
      refine SK_stm (i := m1.next) (o := 0) (vs := [.string ⟨⟨pt⟩⟩, .string ⟨⟨tt⟩⟩]) (cs := [.string ⟨#[]⟩, .string ⟨#[]⟩]) (e := 49) (M := M) (by simp [wkA, retV, stabOk, dC, ev, fillD, pickCells, putAt, bnd, slD, List.getElem?_cons_zero, List.getElem?_cons_succ, dR.eq_20]) (by simp -implicitDefEqProofs (disch := first | assumption | (simp only [wnA]; done) | (simp only [wnA]; omega) | omega | fail) [wkA, retV, stabOk, dC, ev, fillD, pickCells, putAt, bnd, slD, List.getElem?_cons_zero, List.getElem?_cons_succ, dR.eq_20, Mem.cell, Mem.row, wmA]) (by simp [wkA, retV, stabOk, dC, ev, fillD, pickCells, putAt, bnd, slD, List.getElem?_cons_zero, List.getElem?_cons_succ, dR.eq_20]) (by simp) rfl rfl hM ?_
      have oM : Old m1 M := by subst hM; exact ((Old.refl m1).push _).set (Nat.le_refl _) _
      have gM : M.get m1.next = .own [.string ⟨⟨pt⟩⟩, .string ⟨⟨tt⟩⟩] 49 := by subst hM; rw [Mem.set_same]; rfl
      have nM : m1.next < M.next := by subst hM; simp
      clear hM
      simp -implicitDefEqProofs (disch := first | assumption | (simp only [wnA]; done) | (simp only [wnA]; omega) | omega | fail) [wkA, retV, stabOk, dC, ev, fillD, pickCells, putAt, bnd, slD, List.getElem?_cons_zero, List.getElem?_cons_succ, dR.eq_20, Mem.cell, Mem.row, wmA, gM]
      refine c_Quote (by simp [ByteArray.size] at hw ⊢; omega) fun m2 o2 => ?_
      rw [quoteV_eq]
      have g2 := (o2.2 _ nM).trans gM
      have lq := qL_len pt
      simp only at hw
      have c1 := cat2 (a := qL pt) (b := [32, 103, 111, 32]) (by simp; omega)
      have c2 := cat2 (a := qL pt ++ [32, 103, 111, 32]) (b := tt) (by simp; omega)
      simp -implicitDefEqProofs (disch := first | assumption | (simp only [wnA]; done) | (simp only [wnA]; omega) | omega | (simp only [List.length_append, List.length_cons, List.length_nil]; omega) | fail) [wkA, retV, stabOk, dC, ev, fillD, pickCells, putAt, bnd, slD, List.getElem?_cons_zero, List.getElem?_cons_succ, dR.eq_20, Mem.cell, Mem.row, wmA, g2, c1, c2]
      rw [SK_bsl (cs := [.string (armB ⟨pt, tt⟩)]) (by simp [wkA, retV, stabOk, dC, ev, fillD, pickCells, putAt, bnd, slD, List.getElem?_cons_zero, List.getElem?_cons_succ, dR.eq_20, armB, armL, goS]) (by simp)]
      obtain ⟨m3, hm3⟩ : ∃ m3, m2.push (.own [.string (armB ⟨pt, tt⟩)] 9) = m3 := ⟨_, rfl⟩
      have o3 : Old m2 m3 := by subst hm3; exact (Old.refl m2).push _
      have g3 : m3.get m2.next = .own [.string (armB ⟨pt, tt⟩)] 9 := by subst hm3; rw [Mem.push_same]
      rw [hm3]
      clear hm3
      have O3 := (o1.trans oM).trans (o2.trans o3)
      have so3 : SlO m3 9 1 ob (((l.take j).map armB).map .string) j := so.keep (by have := oM.1; have := o2.1; have := o3.1; omega) fun b hb => by
        have hb1 : b < m1.next := by subst hb; exact so.lt
        exact ((oM.trans o2).trans o3).2 b hb1
      obtain ⟨S, hS⟩ : ∃ S : List Value, ((l.take j).map armB).map .string = S := ⟨_, rfl⟩
      have hnx2 : ((l.take (j + 1)).map armB).map .string = S ++ [.string (armB ⟨pt, tt⟩)] := by rw [hnx, List.map_append, hS]; rfl
      rw [hS] at so3
      simp -implicitDefEqProofs (disch := first | assumption | (simp only [wnA]; done) | (simp only [wnA]; omega) | omega | fail) [wkA, retV, stabOk, dC, ev, fillD, pickCells, putAt, bnd, slD, List.getElem?_cons_zero, List.getElem?_cons_succ, dR.eq_20, Mem.cell, Mem.row, wmA, t7]
      refine SK_ap (ob := ob) (n := j) (k := 1) (cs := S) (ys := [.string (armB ⟨pt, tt⟩)]) so3 (by simp [wkA, retV, stabOk, dC, ev, fillD, pickCells, putAt, bnd, slD, List.getElem?_cons_zero, List.getElem?_cons_succ, dR.eq_20, t7]) (by simp -implicitDefEqProofs (disch := first | assumption | (simp only [wnA]; done) | (simp only [wnA]; omega) | omega | fail) [wkA, retV, stabOk, dC, ev, fillD, pickCells, putAt, bnd, slD, List.getElem?_cons_zero, List.getElem?_cons_succ, dR.eq_20, elemsV, Mem.cell, Mem.row, wmA, g3]) (by simp [wkA, retV, stabOk, dC, ev, fillD, pickCells, putAt, bnd, slD, List.getElem?_cons_zero, List.getElem?_cons_succ, dR.eq_20]) (by omega) rfl (by omega) (by simp only [maxLen]; omega) rfl ?_
      simp -implicitDefEqProofs (disch := first | assumption | (simp only [wnA]; done) | (simp only [wnA]; omega) | omega | fail) [wkA, retV, stabOk, dC, ev, fillD, pickCells, putAt, bnd, slD, List.getElem?_cons_zero, List.getElem?_cons_succ, dR.eq_20, Mem.cell, Mem.row, wmA, t46, hjw]
      refine hK (k - 1) _ _ (by omega) ⟨j + 1, some m3.next, by omega, (O3.kill hob).push _, fun q hq => ?_, by simp [t44, hvv], by simp [t45], by simp, by simp, ?_, fun b hb => by cases hb; exact O3.1⟩
      · have := sm q hq
        simp only [List.mem_cons, List.not_mem_nil, or_false] at hq
        rcases hq with rfl | rfl <;> simp [this]
      · rw [hnx2]
        exact SlO.new (by rw [List.length_append, so3.1]; simp)
    · have hjj : j = l.length := by omega
      subst hjj
      rw [List.take_length] at so
      simp -implicitDefEqProofs (disch := first | assumption | (simp only [wnA]; done) | (simp only [wnA]; omega) | omega | fail) [hjl, wkA, retV, stabOk, dC, ev, fillD, pickCells, putAt, bnd, slD, List.getElem?_cons_zero, List.getElem?_cons_succ, dR.eq_20, Mem.cell, Mem.row, wmA]
      exact hq _ m1 ob o1 (fun q hq => by
        have := sm q hq
        simp only [List.mem_cons, List.not_mem_nil, or_false] at hq
        rcases hq with rfl | rfl <;> simp [this]) so hob (by simp [t7])
end Go.Proofs.YtjlicambfepfiaaGreatDoor.Ab

set_option linter.unusedVariables false
set_option linter.unusedSimpArgs false
namespace Go.Proofs.YtjlicambfepfiaaGreatDoor.Ab
open Go Go.RowKit
set_option maxHeartbeats 4000000
set_option maxRecDepth 100000
theorem w_line2 {w0 : World} {Q : AQ} {fr : Fr} {m : Mem} {S : List UInt8} (t3 : fr 3 = .string ⟨⟨S⟩⟩) (hl : S.length ≤ 4398046511104)
    (hq : ∀ fr', fr' 2 = .string ⟨⟨S ++ [59, 10]⟩⟩ → Q .ret fr' m) : AbW Tryz.prog w0 rc39_2 Q fr m := by
  have c1 := cat2 (a := S) (b := [59, 10]) (by simp; omega)
  simp -implicitDefEqProofs (disch := first | assumption | (simp only [wnA]; done) | (simp only [wnA]; omega) | omega | (simp only [List.length_append, List.length_cons, List.length_nil]; omega) | fail) [rc39_2, wkA, retV, stabOk, dC, ev, fillD, pickCells, putAt, bnd, slD, List.getElem?_cons_zero, List.getElem?_cons_succ, dR.eq_20, Mem.cell, Mem.row, wmA, t3, c1]
  exact hq _ (by simp)
theorem w_body {w0 : World} {Q : AQ} {fr : Fr} {m : Mem} {b : Nat} {d : DS} {av : Value} {S : List UInt8} (ht : Ten w0) (hv : SlR m 2 av (d.arms.flatMap Arm.cells) d.arms.length) (hvb : ∀ b, blk av = some b → b < m.next) (hw : wD d ≤ 1099511627776) (hn : -9223372036854775808 ≤ d.n ∧ d.n ≤ 9223372036854775807)
    (hg : m.get b = .own (dsC d av) 29) (hb : b < m.next) (t1 : fr 1 = .pointer (some ⟨b, 0, none⟩)) (t3 : fr 3 = .string ⟨⟨S⟩⟩) (hS : S.length ≤ 1099511627776)
    (hq : ∀ fr' m', Old m m' → fr' 2 = .string ⟨⟨S ++ wordsL.getD (kN d.kd) [] ++ restL d ++ [59, 10]⟩⟩ → Q .ret fr' m') : AbW Tryz.prog w0 rc39_3 Q fr m := by
  have fin : ∀ fr' m' R, Old m m' → fr' 3 = .string ⟨⟨R⟩⟩ → R = S ++ wordsL.getD (kN d.kd) [] ++ restL d → R.length ≤ 4398046511104 → AbW Tryz.prog w0 rc39_2 Q fr' m' := by
    intro fr' m' R o e hR hl
    subst hR
    exact w_line2 e hl fun fr'' e2 => hq fr'' m' o e2
  obtain ⟨lb, kd, tx, arms, n, to, pl⟩ := d
  have hg : m.get b = .own [.string ⟨⟨lb⟩⟩, .int .i64 kd, .string ⟨⟨tx⟩⟩, av, .int .i64 n, .string ⟨⟨to⟩⟩, .int .i64 pl] 29 := hg
  have hkk : (if 0 < if 5 < kd then 5 else kd then if 5 < kd then 5 else kd else 0) = (kN kd : Int) := by
    by_cases h5 : 5 < kd
    · simp only [h5, if_true, kN, if_neg (show ¬ kd < 0 by omega), gt_iff_lt]
      rfl
    · simp only [h5, if_false, kN, gt_iff_lt]
      by_cases h0 : kd < 0
      · rw [if_neg (by omega), if_pos h0]; rfl
      · rw [if_neg h0]
        split <;> omega
  have hle := kN_le kd
  simp -implicitDefEqProofs (disch := first | assumption | (simp only [wnA]; done) | (simp only [wnA]; omega) | omega | fail) [rc39_3, wkA, retV, stabOk, dC, ev, fillD, pickCells, putAt, bnd, slD, List.getElem?_cons_zero, List.getElem?_cons_succ, dR.eq_20, Mem.cell, Mem.row, wmA, t1, hg]
  rw [hkk]
  refine c_words ?_
  obtain ⟨m1, hm1⟩ : ∃ m1, m.push (.own (wordsL.map fun w => .string ⟨⟨w⟩⟩) 9) = m1 := ⟨_, rfl⟩
  have o1 : Old m m1 := by subst hm1; exact (Old.refl m).push _
  have gw : m1.get m.next = .own (wordsL.map fun w => .string ⟨⟨w⟩⟩) 9 := by subst hm1; rw [Mem.push_same]
  have g1 := (o1.2 b hb).trans hg
  have hr : restL ⟨lb, kd, tx, arms, n, to, pl⟩ = restX (kN kd) ⟨lb, kd, tx, arms, n, to, pl⟩ := rfl
  simp only [hr] at fin
  clear hkk hr hq
  rw [hm1]
  have hix : sidx 1 (.slice (some ⟨m.next, 0, none⟩) 6 1) (.int .i64 ((kN kd : Nat) : Int)) = some (.pointer (some ⟨m.next, 0 + kN kd * 1, none⟩)) := sidx_at (by omega)
  simp only [Nat.zero_add, Nat.mul_one] at hix
  have hwl : kN kd < wordsL.length := by show kN kd < 6; omega
  have hwj : (wordsL.map fun w => (.string ⟨⟨w⟩⟩ : Value))[kN kd]? = some (.string ⟨⟨wordsL.getD (kN kd) []⟩⟩) := by simp [List.getElem?_map, List.getElem?_eq_getElem hwl, List.getD]
  have hwl6 : (wordsL.getD (kN kd) []).length ≤ 6 := by
    rcases (show kN kd = 0 ∨ kN kd = 1 ∨ kN kd = 2 ∨ kN kd = 3 ∨ kN kd = 4 ∨ kN kd = 5 by omega) with e | e | e | e | e | e <;> rw [e] <;> decide
  generalize wordsL.getD (kN kd) [] = W at *
  generalize (wordsL.map fun w => (.string ⟨⟨w⟩⟩ : Value)) = ws at *
  have c1 := cat2 (a := S) (b := W) (by omega)
  have hSW : (S ++ W).length ≤ 1099511627782 := by simp; omega
  have hv1 : SlR m1 2 av (arms.flatMap Arm.cells) arms.length := hv.keep fun b h => o1.2 b (hvb b h)
  have hvb1 : ∀ b, blk av = some b → b < m1.next := fun b h => Nat.lt_of_lt_of_le (hvb b h) o1.1
  have hb1 : b < m1.next := Nat.lt_of_lt_of_le hb o1.1
  simp only [wD] at hw
  have lj := joinA_len arms
  have ln := num_len10 (i := n) hn
  have lq := qL_len tx
  have hal := wArms_len arms
  generalize S ++ W = R at *
  generalize kN kd = kk at *
  simp -implicitDefEqProofs (disch := first | assumption | (simp only [wnA]; done) | (simp only [wnA]; omega) | omega | (simp only [List.length_append, List.length_cons, List.length_nil]; omega) | fail) [wkA, retV, stabOk, dC, ev, fillD, pickCells, putAt, bnd, slD, List.getElem?_cons_zero, List.getElem?_cons_succ, dR.eq_20, Mem.cell, Mem.row, wmA, t3, hix, gw, hwj, getL hwj, c1, t1]
  rcases (show kk = 0 ∨ kk = 1 ∨ kk = 2 ∨ kk = 3 ∨ kk = 4 ∨ kk = 5 by omega) with rfl | rfl | rfl | rfl | rfl | rfl
  · simp -implicitDefEqProofs (disch := first | assumption | (simp only [wnA]; done) | (simp only [wnA]; omega) | omega | (simp only [List.length_append, List.length_cons, List.length_nil]; omega) | fail) [wkA, retV, stabOk, dC, ev, fillD, pickCells, putAt, bnd, slD, List.getElem?_cons_zero, List.getElem?_cons_succ, dR.eq_20, Mem.cell, Mem.row, wmA, t1, g1]
    refine c_Quote (by show tx.length ≤ 1099511627776; omega) fun m2 o2 => ?_
    rw [quoteV_eq]
    simp -implicitDefEqProofs (disch := first | assumption | (simp only [wnA]; done) | (simp only [wnA]; omega) | omega | (simp only [List.length_append, List.length_cons, List.length_nil]; omega) | fail) [wkA, retV, stabOk, dC, ev, fillD, pickCells, putAt, bnd, slD, List.getElem?_cons_zero, List.getElem?_cons_succ, dR.eq_20, Mem.cell, Mem.row, wmA, cat2]
    exact fin _ m2 (R ++ ([32] ++ qL tx)) (o1.trans o2) (by simp) (by simp [restX]) (by simp; omega)
  · simp -implicitDefEqProofs (disch := first | assumption | (simp only [wnA]; done) | (simp only [wnA]; omega) | omega | (simp only [List.length_append, List.length_cons, List.length_nil]; omega) | fail) [wkA, retV, stabOk, dC, ev, fillD, pickCells, putAt, bnd, slD, List.getElem?_cons_zero, List.getElem?_cons_succ, dR.eq_20, Mem.cell, Mem.row, wmA, t1, g1, hv1.slen]
    refine w_arms (av := av) (l := arms) hv1 hvb1 (by omega) (by simp) (by simp) (by simp) (by simp) fun fr' m2 ob o2 sm so hob e7 => ?_
    have e1 := sm 1 (by simp)
    have e3 := sm 3 (by simp)
    simp [t1] at e1 e3
    have g2 := (o2.2 b hb1).trans g1
    have hJ := totA_le arms
    simp -implicitDefEqProofs (disch := first | assumption | (simp only [wnA]; done) | (simp only [wnA]; omega) | omega | (simp only [List.length_append, List.length_cons, List.length_nil]; omega) | fail) [wkA, retV, stabOk, dC, ev, fillD, pickCells, putAt, bnd, slD, List.getElem?_cons_zero, List.getElem?_cons_succ, dR.eq_20, Mem.cell, Mem.row, wmA, e1, e3, e7, g2]
    refine c_JoinA (xs := arms.map armB) (sep := ⟨⟨[44, 32]⟩⟩) (by rw [List.length_map]; exact so.read) (fun x h => by rw [blk_slV] at h; subst h; exact so.lt) (by decide) (by show (2 + 1) * _ + _ ≤ _; omega) fun m3 o3 => ?_
    have hjj : joinL (ByteArray.mk ⟨[44, 32]⟩).data.toList (arms.map armB) = joinA arms := rfl
    rw [hjj]
    have g3 := (o3.2 b (Nat.lt_of_lt_of_le hb1 o2.1)).trans g2
    simp -implicitDefEqProofs (disch := first | assumption | (simp only [wnA]; done) | (simp only [wnA]; omega) | omega | (simp only [List.length_append, List.length_cons, List.length_nil]; omega) | fail) [wkA, retV, stabOk, dC, ev, fillD, pickCells, putAt, bnd, slD, List.getElem?_cons_zero, List.getElem?_cons_succ, dR.eq_20, Mem.cell, Mem.row, wmA, e1, e3, g3, cat2]
    refine c_Itoa ht hn ?_
    simp -implicitDefEqProofs (disch := first | assumption | (simp only [wnA]; done) | (simp only [wnA]; omega) | omega | (simp only [List.length_append, List.length_cons, List.length_nil]; omega) | fail) [wkA, retV, stabOk, dC, ev, fillD, pickCells, putAt, bnd, slD, List.getElem?_cons_zero, List.getElem?_cons_succ, dR.eq_20, Mem.cell, Mem.row, wmA, e1, e3, g3, cat2]
    exact fin _ m3 (R ++ restX 1 ⟨lb, kd, tx, arms, n, to, pl⟩) ((o1.trans o2).trans o3) (by simp [restX, goS, afterL]) rfl (by simp [restX, goS, afterL]; omega)
  · simp -implicitDefEqProofs (disch := first | assumption | (simp only [wnA]; done) | (simp only [wnA]; omega) | omega | (simp only [List.length_append, List.length_cons, List.length_nil]; omega) | fail) [wkA, retV, stabOk, dC, ev, fillD, pickCells, putAt, bnd, slD, List.getElem?_cons_zero, List.getElem?_cons_succ, dR.eq_20, Mem.cell, Mem.row, wmA, t1, g1, cat2]
    exact fin _ m1 (R ++ ([32] ++ to)) o1 (by simp) (by simp [restX]) (by simp; omega)
  · simp -implicitDefEqProofs (disch := first | assumption | (simp only [wnA]; done) | (simp only [wnA]; omega) | omega | (simp only [List.length_append, List.length_cons, List.length_nil]; omega) | fail) [wkA, retV, stabOk, dC, ev, fillD, pickCells, putAt, bnd, slD, List.getElem?_cons_zero, List.getElem?_cons_succ, dR.eq_20, Mem.cell, Mem.row, wmA, t1, g1]
    refine c_Itoa ht hn ?_
    simp -implicitDefEqProofs (disch := first | assumption | (simp only [wnA]; done) | (simp only [wnA]; omega) | omega | (simp only [List.length_append, List.length_cons, List.length_nil]; omega) | fail) [wkA, retV, stabOk, dC, ev, fillD, pickCells, putAt, bnd, slD, List.getElem?_cons_zero, List.getElem?_cons_succ, dR.eq_20, Mem.cell, Mem.row, wmA, t1, g1, cat2]
    exact fin _ m1 (R ++ ([32] ++ numS 10 n ++ [32, 103, 111, 32] ++ to)) o1 (by simp) (by simp [restX, goS]) (by simp; omega)
  · simp -implicitDefEqProofs (disch := first | assumption | (simp only [wnA]; done) | (simp only [wnA]; omega) | omega | (simp only [List.length_append, List.length_cons, List.length_nil]; omega) | fail) [wkA, retV, stabOk, dC, ev, fillD, pickCells, putAt, bnd, slD, List.getElem?_cons_zero, List.getElem?_cons_succ, dR.eq_20, Mem.cell, Mem.row, wmA, t1, g1]
    exact fin _ m1 R o1 (by simp) (by simp [restX]) (by omega)
  · simp -implicitDefEqProofs (disch := first | assumption | (simp only [wnA]; done) | (simp only [wnA]; omega) | omega | (simp only [List.length_append, List.length_cons, List.length_nil]; omega) | fail) [wkA, retV, stabOk, dC, ev, fillD, pickCells, putAt, bnd, slD, List.getElem?_cons_zero, List.getElem?_cons_succ, dR.eq_20, Mem.cell, Mem.row, wmA, t1, g1]
    exact fin _ m1 R o1 (by simp) (by simp [restX]) (by omega)
end Go.Proofs.YtjlicambfepfiaaGreatDoor.Ab

set_option linter.unusedVariables false
set_option linter.unusedSimpArgs false
namespace Go.Proofs.YtjlicambfepfiaaGreatDoor.Ab
open Go Go.RowKit
set_option maxHeartbeats 4000000
set_option maxRecDepth 100000
/-- A step, and the value of its patterns. -/
abbrev DV := DS × Value
def vC (x : DV) : List Value := dsC x.1 x.2
theorem vC_len (x : DV) : (vC x).length = 7 := rfl
/-- The patterns of a step lie. -/
structure ArmV (m : Mem) (x : DV) : Prop where
  sl : SlR m 2 x.2 (x.1.arms.flatMap Arm.cells) x.1.arms.length
  bl : ∀ b, blk x.2 = some b → b < m.next
theorem ArmV.old {m m' : Mem} {x : DV} (h : ArmV m x) (o : Old m m') : ArmV m' x := ⟨h.sl.keep fun b hb => o.2 b (h.bl b hb), fun b hb => Nat.lt_of_lt_of_le (h.bl b hb) o.1⟩
theorem SlR.one {m : Mem} {sz n : Nat} {v : Value} {cs : List Value} (h : SlR m sz v cs n) : oneC v = true ∧ cellsV v = [v] := by
  rcases h.2 with ⟨-, h | h⟩ | ⟨i, o, L, h, -⟩ <;> rw [h] <;> exact ⟨rfl, rfl⟩
/-- Steps lie. -/
structure DsV (m : Mem) (v : Value) (l : List DV) : Prop where
  sl : SlR m 7 v (l.flatMap vC) l.length
  bl : ∀ b, blk v = some b → b < m.next
  ar : ∀ x ∈ l, ArmV m x
theorem DsV.old {m m' : Mem} {v : Value} {l : List DV} (h : DsV m v l) (o : Old m m') : DsV m' v l := ⟨h.sl.keep fun b hb => o.2 b (h.bl b hb), fun b hb => Nat.lt_of_lt_of_le (h.bl b hb) o.1, fun x hx => (h.ar x hx).old o⟩
def wT (l : List DV) : Nat := (l.map fun x => wD x.1).sum
theorem wT_take (l : List DV) (j : Nat) : wT (l.take j) ≤ wT l := by
  induction l generalizing j with
  | nil => simp [wT]
  | cons x xs ih =>
    cases j with
    | zero => simp [wT]
    | succ j => have := ih j; simp only [wT, List.take_succ_cons, List.map_cons, List.sum_cons] at this ⊢; omega
theorem wT_succ {l : List DV} {j : Nat} (h : j < l.length) : wT (l.take (j + 1)) = wT (l.take j) + wD l[j].1 := by
  unfold wT
  rw [List.take_succ_eq_append_getElem h, List.map_append, List.sum_append]; simp
theorem wT_len (l : List DV) : 128 * l.length ≤ wT l := by
  induction l with
  | nil => simp [wT]
  | cons x l ih => simp only [wT, List.map_cons, List.sum_cons, List.length_cons, wD] at ih ⊢; omega
def NOk (d : DS) : Prop := -9223372036854775808 ≤ d.n ∧ d.n ≤ 9223372036854775807
theorem lineD_len {d : DS} (hn : NOk d) : (lineD d).length ≤ wD d := by
  have hw : (wordsL.getD (kN d.kd) []).length ≤ 6 := by
    have := kN_le d.kd
    rcases (show kN d.kd = 0 ∨ kN d.kd = 1 ∨ kN d.kd = 2 ∨ kN d.kd = 3 ∨ kN d.kd = 4 ∨ kN d.kd = 5 by omega) with e | e | e | e | e | e <;> rw [e] <;> decide
  have lj := joinA_len d.arms
  have ln := num_len10 hn
  have lq := qL_len d.tx
  have l1 : (labL d).length ≤ d.lb.length + 2 := by unfold labL; split <;> simp
  have l2 : (restL d).length ≤ 2 * d.tx.length + d.to.length + wArms d.arms + 48 := by
    unfold restL restX
    split <;> simp [goS, afterL] <;> omega
  simp only [lineD, List.length_append, List.length_cons, List.length_nil, wD]
  omega
def textL (l : List DV) : List UInt8 := l.flatMap fun x => lineD x.1
theorem textL_len {l : List DV} (h : ∀ x ∈ l, NOk x.1) : (textL l).length ≤ wT l := by
  induction l with
  | nil => simp [textL, wT]
  | cons x xs ih =>
    have h1 := lineD_len (h x (by simp))
    have h2 := ih fun e he => h e (by simp [he])
    simp only [textL, List.flatMap_cons, List.length_append, wT, List.map_cons, List.sum_cons] at h2 ⊢
    omega
theorem c_stepT {w0 : World} {m : Mem} {x : DV} {Q : Value → Mem → Prop} (ht : Ten w0) (ha : ArmV m x) (hw : wD x.1 ≤ 1099511627776) (hn : NOk x.1) (hq : ∀ m', Old m m' → Q (.string ⟨⟨lineD x.1⟩⟩) m') :
    AbC Tryz.prog w0 39 [.agg ⟨vC x⟩] m Q := by
  refine AbC_fn ok39 (by simp) ?_
  obtain ⟨⟨lb, kd, tx, arms, n, to, pl⟩, av⟩ := x
  have e : vC (⟨lb, kd, tx, arms, n, to, pl⟩, av) = [.string ⟨⟨lb⟩⟩, .int .i64 kd, .string ⟨⟨tx⟩⟩, av, .int .i64 n, .string ⟨⟨to⟩⟩, .int .i64 pl] := rfl
  rw [e]
  have hone := ha.sl.one
  obtain ⟨m1, hm1⟩ : ∃ m1, m.push (.own [.string ⟨⟨lb⟩⟩, .int .i64 kd, .string ⟨⟨tx⟩⟩, av, .int .i64 n, .string ⟨⟨to⟩⟩, .int .i64 pl] 29) = m1 := ⟨_, rfl⟩
  have o1 : Old m m1 := by subst hm1; exact (Old.refl m).push _
  have g1 : m1.get m.next = .own [.string ⟨⟨lb⟩⟩, .int .i64 kd, .string ⟨⟨tx⟩⟩, av, .int .i64 n, .string ⟨⟨to⟩⟩, .int .i64 pl] 29 := by subst hm1; rw [Mem.push_same]
  have n1 : m.next < m1.next := by subst hm1; simp
  have hw' := hw
  simp only [wD] at hw
  have go : ∀ (fr : Fr) (S : List UInt8), fr 1 = .pointer (some ⟨m.next, 0, none⟩) → fr 3 = .string ⟨⟨S⟩⟩ → S = labL ⟨lb, kd, tx, arms, n, to, pl⟩ → AbW Tryz.prog w0 rc39_3 (bodyA [.mv (.tmp 2)] Q) fr m1 := by
    intro fr S e1 e3 hS
    have hSl : S.length ≤ lb.length + 2 := by rw [hS]; unfold labL; split <;> simp
    refine w_body (d := ⟨lb, kd, tx, arms, n, to, pl⟩) (av := av) (S := S) (b := m.next) ht (ha.old o1).sl (ha.old o1).bl hw' hn g1 n1 e1 e3 (by omega) fun fr' m' o e2 => ?_
    have := hq m' (o1.trans o)
    simp only [lineD, ← hS] at this
    simp -implicitDefEqProofs (disch := first | assumption | (simp only [wnA]; done) | (simp only [wnA]; omega) | omega | fail) [wkA, retV, stabOk, dC, ev, fillD, pickCells, putAt, bnd, slD, List.getElem?_cons_zero, List.getElem?_cons_succ, dR.eq_20, Mem.cell, Mem.row, wmA, e2]
    simpa using this
  by_cases hlb : lb = []
  · subst hlb
    simp -implicitDefEqProofs (disch := first | assumption | (simp only [wnA]; done) | (simp only [wnA]; omega) | omega | fail) [rc39, ro39, wkA, retV, stabOk, dC, ev, fillD, pickCells, putAt, bnd, slD, List.getElem?_cons_zero, List.getElem?_cons_succ, dR.eq_20, Mem.cell, Mem.row, wmA, hm1, g1]
    exact go _ [] (by simp) (by simp) rfl
  · have c1 := cat2 (a := lb) (b := [58, 32]) (by simp; omega)
    have hb0 : lb.isEmpty = false := by cases lb <;> simp at hlb ⊢
    simp -implicitDefEqProofs (disch := first | assumption | (simp only [wnA]; done) | (simp only [wnA]; omega) | omega | (simp only [List.length_append, List.length_cons, List.length_nil]; omega) | fail) [rc39, ro39, wkA, retV, stabOk, dC, ev, fillD, pickCells, putAt, bnd, slD, List.getElem?_cons_zero, List.getElem?_cons_succ, dR.eq_20, Mem.cell, Mem.row, wmA, hm1, g1, hlb, hb0, c1]
    exact go _ (lb ++ [58, 32]) (by simp) (by simp) (by simp [labL, hlb])
theorem c_DText {w0 : World} {m : Mem} {v : Value} {l : List DV} {Q : Value → Mem → Prop} (ht : Ten w0) (hv : DsV m v l) (hl : wT l ≤ 1099511627776) (hn : ∀ x ∈ l, NOk x.1)
    (hq : ∀ m', Old m m' → Q (.string ⟨⟨textL l⟩⟩) m') : AbC Tryz.prog w0 21 [v] m Q := by
  refine AbC_fn ok21 (by simp) ?_
  have hll := wT_len l
  simp -implicitDefEqProofs (disch := first | assumption | (simp only [wnA]; done) | (simp only [wnA]; omega) | omega | fail) [rc21, ro21, wkA, retV, stabOk, dC, ev, fillD, pickCells, putAt, bnd, slD, List.getElem?_cons_zero, List.getElem?_cons_succ, dR.eq_20, Mem.cell, Mem.row, wmA, hv.sl.slen]
  refine LoopW_of (fun k ts m' => ∃ j, j + k = l.length ∧ ts 3 = .pointer (some ⟨m.next, 0, none⟩) ∧ ts 6 = v ∧ ts 7 = .int .i64 (l.length : Nat) ∧ ts 8 = .int .i64 (j : Nat) ∧ Bld m m' m.next (textL (l.take j))) l.length ?_ ?_
  · exact ⟨0, by omega, by simp, by simp [frA_at], by simp, by simp, Bld.new (Old.refl m)⟩
  · rintro k ts m1 K ⟨j, hj, t3, t6, t7, t8, hb⟩ hK
    have hlen := textL_len (l := l.take j) fun e h => hn e (List.mem_of_mem_take h)
    have htk := wT_take l j
    simp -implicitDefEqProofs (disch := first | assumption | (simp only [wnA]; done) | (simp only [wnA]; omega) | omega | fail) [rc21_1, wkA, retV, stabOk, dC, ev, fillD, pickCells, putAt, bnd, slD, List.getElem?_cons_zero, List.getElem?_cons_succ, dR.eq_20, Mem.cell, Mem.row, wmA, t7, t8]
    by_cases hjl : j < l.length
    · have hv1 := hv.old hb.1
      obtain ⟨bi, bo, L, hvv, hL, hLl, hLt, -⟩ := hv1.sl.at hjl
      rw [flat_at vC_len l (List.getElem?_eq_getElem hjl)] at hLt
      have hx1 := wT_succ hjl
      have hx2 := wT_take l (j + 1)
      obtain ⟨x, hx⟩ : ∃ x, l[j] = x := ⟨_, rfl⟩
      have hxm : x ∈ l := by rw [← hx]; exact List.getElem_mem hjl
      have hnx : textL (l.take (j + 1)) = textL (l.take j) ++ lineD x.1 := by
        unfold textL
        rw [List.take_succ_eq_append_getElem hjl, List.flatMap_append, hx]; simp
      have hax := hv1.ar x hxm
      have hll2 := lineD_len (hn x hxm)
      rw [hx] at hLt hx1
      rw [hvv] at t6
      have hle : bo + j * 7 + 7 ≤ L.length := by omega
      have hjw : IntKind.i64.wrap ((j : Int) + 1) = ((j + 1 : Nat) : Int) := by rw [w64 (by omega)]; omega
      have hone := hax.sl.one
      simp -implicitDefEqProofs (disch := first | assumption | (simp only [wnA]; done) | (simp only [wnA]; omega) | omega | fail) [hjl, rc21_0, wkA, retV, stabOk, dC, ev, fillD, pickCells, putAt, bnd, slD, List.getElem?_cons_zero, List.getElem?_cons_succ, dR.eq_20, Mem.cell, Mem.row, wmA, t3, t6, t7, t8, sidx_at, hL, hLt, hle]
      obtain ⟨M, hM⟩ : ∃ M, (m1.push (.own [.string ⟨#[]⟩, .int .i64 0, .string ⟨#[]⟩, .slice none 0 0, .int .i64 0, .string ⟨#[]⟩, .int .i64 0] 29)).set m1.next (.own (putAt [.string ⟨#[]⟩, .int .i64 0, .string ⟨#[]⟩, .slice none 0 0, .int .i64 0, .string ⟨#[]⟩, .int .i64 0] 0 (vC x)) 29) = M := ⟨_, rfl⟩
      refine SK_stm (i := m1.next) (o := 0) (vs := vC x) (cs := [.string ⟨#[]⟩, .int .i64 0, .string ⟨#[]⟩, .slice none 0 0, .int .i64 0, .string ⟨#[]⟩, .int .i64 0]) (e := 29) (M := M) (by simp [wkA, retV, stabOk, dC, ev, fillD, pickCells, putAt, bnd, slD, List.getElem?_cons_zero, List.getElem?_cons_succ, dR.eq_20]) (by simp -implicitDefEqProofs (disch := first | assumption | (simp only [wnA]; done) | (simp only [wnA]; omega) | omega | fail) [wkA, retV, stabOk, dC, ev, fillD, pickCells, putAt, bnd, slD, List.getElem?_cons_zero, List.getElem?_cons_succ, dR.eq_20, Mem.cell, Mem.row, wmA]) (by simp [wkA, retV, stabOk, dC, ev, fillD, pickCells, putAt, bnd, slD, List.getElem?_cons_zero, List.getElem?_cons_succ, dR.eq_20]) (by simp) rfl (by simp only [vC, dsC, List.all_cons, List.all_nil, hone.1]; rfl) hM ?_
      have oM : Old m1 M := by subst hM; exact ((Old.refl m1).push _).set (Nat.le_refl _) _
      have gM : M.get m1.next = .own (vC x) 29 := by subst hM; rw [Mem.set_same]; rfl
      have hvl : (vC x).length = 7 := rfl
      have htk7 : (vC x).take 7 = vC x := rfl
      clear hM
      simp -implicitDefEqProofs (disch := first | assumption | (simp only [wnA]; done) | (simp only [wnA]; omega) | omega | fail) [wkA, retV, stabOk, dC, ev, fillD, pickCells, putAt, bnd, slD, List.getElem?_cons_zero, List.getElem?_cons_succ, dR.eq_20, Mem.cell, Mem.row, wmA, gM, hvl, htk7]
      refine c_stepT ht (hax.old oM) (by omega) (hn x hxm) fun m2 o2 => ?_
      have hb2 := (hb.keep oM).keep o2
      simp -implicitDefEqProofs (disch := first | assumption | (simp only [wnA]; done) | (simp only [wnA]; omega) | omega | fail) [wkA, retV, stabOk, dC, ev, fillD, pickCells, putAt, bnd, slD, List.getElem?_cons_zero, List.getElem?_cons_succ, dR.eq_20, Mem.cell, Mem.row, wmA, t3]
      refine c_WriteString hb2 ?_ fun m3 hb3 => ?_
      · show _ + (lineD x.1).length ≤ _
        omega
      · simp -implicitDefEqProofs (disch := first | assumption | (simp only [wnA]; done) | (simp only [wnA]; omega) | omega | fail) [wkA, retV, stabOk, dC, ev, fillD, pickCells, putAt, bnd, slD, List.getElem?_cons_zero, List.getElem?_cons_succ, dR.eq_20, Mem.cell, Mem.row, wmA, t8, hjw]
        refine hK (k - 1) _ _ (by omega) ⟨j + 1, by omega, by simp [t3], by simp [t6, hvv], by simp [t7], by simp, ?_⟩
        rw [hnx]
        exact hb3
    · have hjj : j = l.length := by omega
      subst hjj
      rw [List.take_length] at hb hlen
      simp -implicitDefEqProofs (disch := first | assumption | (simp only [wnA]; done) | (simp only [wnA]; omega) | omega | fail) [hjl, rc21_2, wkA, retV, stabOk, dC, ev, fillD, pickCells, putAt, bnd, slD, List.getElem?_cons_zero, List.getElem?_cons_succ, dR.eq_20, Mem.cell, Mem.row, wmA, t3]
      refine c_BString hb (by omega) fun m2 o2 => ?_
      simp -implicitDefEqProofs (disch := first | assumption | (simp only [wnA]; done) | (simp only [wnA]; omega) | omega | fail) [wkA, retV, stabOk, dC, ev, fillD, pickCells, putAt, bnd, slD, List.getElem?_cons_zero, List.getElem?_cons_succ, dR.eq_20, Mem.cell, Mem.row, wmA]
      exact hq m2 o2
end Go.Proofs.YtjlicambfepfiaaGreatDoor.Ab

set_option linter.unusedVariables false
set_option linter.unusedSimpArgs false
namespace Go.Proofs.YtjlicambfepfiaaGreatDoor.Ab
open Go Go.RowKit
set_option maxHeartbeats 1000000
set_option maxRecDepth 100000
def WordOk (t : List UInt8) : Prop := (∃ c w, t = c :: w ∧ isLet c = true) ∧ wordN false t = t.length
theorem cx_wd {t : List UInt8} {x : UInt8} {r : List UInt8} (h : WordOk t) (hx : wq true x = false) : Cx (t ++ x :: r) [⟨1, t, 0⟩] (x :: r) := by
  obtain ⟨⟨c, w, rfl, hc⟩, hw⟩ := h
  exact cx_word hc hw hx
theorem cx_sg {c : UInt8} {r : List UInt8} (h : c = 58 ∨ c = 44 ∨ c = 59) : Cx (c :: r) [⟨4, [c], 0⟩] r := by
  rcases h with rfl | rfl | rfl
  · exact cx_tok (l := []) (r := r) rfl (by decide) rfl
  · exact cx_tok (l := []) (r := r) rfl (by decide) rfl
  · exact cx_tok (l := []) (r := r) rfl (by decide) rfl
theorem cx_to {l l' r : List UInt8} {ts : List Tk} (h : Cx l ts r) (e : l' = l) : Cx l' ts r := e ▸ h
theorem cx_tt {l l' r : List UInt8} {ts ts' : List Tk} (h : Cx l ts r) (e : l' = l) (e2 : ts' = ts) : Cx l' ts' r := by subst e e2; exact h
theorem cx_sp {r r' : List UInt8} {ts : List Tk} (h : Cx r ts r') : Cx (32 :: r) ts r' := (cx_bl (c := 32) (r := r) rfl).trans h
def wdT (t : List UInt8) : Tk := ⟨1, t, 0⟩
def stT (t : List UInt8) : Tk := ⟨3, t, 0⟩
def sgT (c : UInt8) : Tk := ⟨4, [c], 0⟩
def nmT (n : Nat) : Tk := ⟨2, digs 10 n, (n : Nat)⟩
def armT (a : Arm) : List Tk := [stT a.pat, wdT goL, wdT a.to]
def armsT : List Arm → List Tk
  | [] => []
  | a :: r => armT a ++ r.flatMap fun b => sgT 44 :: armT b
def labT (d : DS) : List Tk := if d.lb = [] then [] else [wdT d.lb, sgT 58]
def restT (d : DS) : List Tk := match kN d.kd with
  | 0 => [stT d.tx]
  | 1 => armsT d.arms ++ [wdT afterL, nmT d.n.toNat, wdT goL, wdT d.to]
  | 2 => [wdT d.to]
  | 3 => [nmT d.n.toNat, wdT goL, wdT d.to]
  | _ => []
def tokD (d : DS) : List Tk := labT d ++ wdT (wordsL.getD (kN d.kd) []) :: restT d ++ [sgT 59]
/-- A step that is right. -/
def WFd (d : DS) : Prop := (d.lb = [] ∨ WordOk d.lb) ∧
  ((d.kd = 0 ∧ StrOk d.tx ∧ d.arms = [] ∧ d.n = 0 ∧ d.to = []) ∨
   (d.kd = 1 ∧ d.tx = [] ∧ d.arms ≠ [] ∧ (∀ a ∈ d.arms, StrOk a.pat ∧ WordOk a.to) ∧ (1 ≤ d.n ∧ d.n ≤ 99) ∧ WordOk d.to) ∨
   (d.kd = 2 ∧ d.tx = [] ∧ d.arms = [] ∧ d.n = 0 ∧ WordOk d.to) ∨
   (d.kd = 3 ∧ d.tx = [] ∧ d.arms = [] ∧ (1 ≤ d.n ∧ d.n ≤ 9) ∧ WordOk d.to) ∨
   ((d.kd = 4 ∨ d.kd = 5) ∧ d.tx = [] ∧ d.arms = [] ∧ d.n = 0 ∧ d.to = []))
theorem wd_const {t : List UInt8} (h : t ∈ afterL :: wordsL) : WordOk t := by
  simp only [wordsL, List.mem_cons, List.not_mem_nil, or_false] at h
  rcases h with rfl | rfl | rfl | rfl | rfl | rfl | rfl <;> exact ⟨⟨_, _, rfl, by decide⟩, by decide⟩
theorem wd_go : WordOk goL := wd_const (by simp [wordsL])
theorem cx_arm {a : Arm} {x : UInt8} {r : List UInt8} (h1 : StrOk a.pat) (h2 : WordOk a.to) (hx : wq true x = false) : Cx (armL a ++ x :: r) (armT a) (x :: r) := by
  have q1 := cx_quo (r := goS ++ a.to ++ x :: r) h1
  have q2 : Cx (goS ++ a.to ++ x :: r) [wdT goL] (32 :: (a.to ++ x :: r)) := cx_sp (cx_to (cx_wd (r := a.to ++ x :: r) (x := 32) wd_go rfl) (by simp [goL]))
  have q3 : Cx (32 :: (a.to ++ x :: r)) [wdT a.to] (x :: r) := cx_sp (cx_wd h2 hx)
  exact cx_to ((q1.trans q2).trans q3) (by simp [armL])
theorem cx_armsR : ∀ (l : List Arm) {r : List UInt8}, (∀ a ∈ l, StrOk a.pat ∧ WordOk a.to) → Cx (((l.map armB).flatMap fun y => [44, 32] ++ y.data.toList) ++ 32 :: r) (l.flatMap fun b => sgT 44 :: armT b) (32 :: r)
  | [], r, _ => Cx.refl _
  | a :: l, r, h => by
    have ha := h a (by simp)
    have ih := cx_armsR l (r := r) fun b hb => h b (by simp [hb])
    have q1 : ∀ s, Cx (44 :: 32 :: s) [sgT 44] (32 :: s) := fun s => cx_sg (by simp)
    cases l with
    | nil =>
      have q2 := cx_arm (x := 32) (r := r) ha.1 ha.2 rfl
      exact cx_to ((q1 (armL a ++ 32 :: r)).trans (cx_sp q2)) (by simp [armB])
    | cons b l =>
      have q2 := cx_arm (x := 44) (r := 32 :: (armL b ++ (((l.map armB).flatMap fun y => [44, 32] ++ y.data.toList) ++ 32 :: r))) ha.1 ha.2 rfl
      have e : ((((b :: l).map armB).flatMap fun y => [44, 32] ++ y.data.toList) ++ 32 :: r) = 44 :: 32 :: (armL b ++ (((l.map armB).flatMap fun y => [44, 32] ++ y.data.toList) ++ 32 :: r)) := by simp [armB]
      rw [e] at ih
      exact cx_to (((q1 _).trans (cx_sp q2)).trans ih) (by simp [armB])
theorem cx_arms {l : List Arm} {r : List UInt8} (h : ∀ a ∈ l, StrOk a.pat ∧ WordOk a.to) : Cx (joinA l ++ 32 :: r) (armsT l) (32 :: r) := by
  cases l with
  | nil => exact Cx.refl _
  | cons a l =>
    have ha := h a (by simp)
    have ih := cx_armsR l (r := r) fun b hb => h b (by simp [hb])
    cases l with
    | nil =>
      have q2 := cx_arm (x := 32) (r := r) ha.1 ha.2 rfl
      exact cx_to (q2.trans ih) (by simp [joinA, joinL, armB])
    | cons b l =>
      have e : ((((b :: l).map armB).flatMap fun y => [44, 32] ++ y.data.toList) ++ 32 :: r) = 44 :: (32 :: (armL b ++ (((l.map armB).flatMap fun y => [44, 32] ++ y.data.toList) ++ 32 :: r))) := by simp [armB]
      rw [e] at ih
      have q2 := cx_arm (x := 44) (r := 32 :: (armL b ++ (((l.map armB).flatMap fun y => [44, 32] ++ y.data.toList) ++ 32 :: r))) ha.1 ha.2 rfl
      exact cx_to (q2.trans ih) (by simp [joinA, joinL, armB])
theorem numS_nn {n : Int} (h : 0 ≤ n) : numS 10 n = digs 10 n.toNat := by
  obtain ⟨k, rfl⟩ : ∃ k : Nat, n = k := ⟨n.toNat, by omega⟩
  unfold numS sgn
  rw [if_neg (by simp)]
  simp
theorem cx_line {d : DS} {r : List UInt8} (h : WFd d) : Cx (lineD d ++ r) (tokD d) r := by
  obtain ⟨hl, h⟩ := h
  have hend : Cx (59 :: 10 :: r) [sgT 59] r := (cx_sg (c := 59) (r := 10 :: r) (by simp)).trans (cx_bl rfl)
  have hlab : ∀ s, Cx (labL d ++ s) (labT d) s := by
    intro s
    unfold labL labT
    rcases hl with hl | hl
    · rw [if_pos hl, if_pos hl]; exact Cx.refl _
    · by_cases h0 : d.lb = []
      · rw [if_pos h0, if_pos h0]; exact Cx.refl _
      · rw [if_neg h0, if_neg h0]
        exact cx_to ((cx_wd (x := 58) (r := 32 :: s) hl rfl).trans ((cx_sg (c := 58) (r := 32 :: s) (by simp)).trans (cx_bl rfl))) (by simp)
  have hkw : ∀ (k : Nat) (x : UInt8) (s : List UInt8), k ≤ 5 → wq true x = false → Cx (wordsL.getD k [] ++ x :: s) [wdT (wordsL.getD k [])] (x :: s) := by
    intro k x s hk hx
    refine cx_wd (wd_const ?_) hx
    rcases (show k = 0 ∨ k = 1 ∨ k = 2 ∨ k = 3 ∨ k = 4 ∨ k = 5 by omega) with rfl | rfl | rfl | rfl | rfl | rfl <;> simp [wordsL]
  have hgo : ∀ s, Cx (goS ++ s) [wdT goL] (32 :: s) := fun s => cx_sp (cx_to (cx_wd (r := s) (x := 32) wd_go rfl) (by simp [goL]))
  have hto : WordOk d.to → Cx (d.to ++ 59 :: 10 :: r) [wdT d.to] (59 :: 10 :: r) := fun hw => cx_wd hw rfl
  have hnum : ∀ s, 1 ≤ d.n ∧ d.n ≤ 99 → Cx (numS 10 d.n ++ goS ++ s) [nmT d.n.toNat] (goS ++ s) := by
    intro s hn
    rw [numS_nn (by omega)]
    exact cx_to (cx_dec (n := d.n.toNat) (r := [103, 111, 32] ++ s) (by omega)) (by simp [goS])
  rcases h with ⟨hk, h1, -⟩ | ⟨hk, -, -, h1, hn, ht⟩ | ⟨hk, -, -, -, ht⟩ | ⟨hk, -, -, hn, ht⟩ | ⟨hk, -⟩
  · have e : kN d.kd = 0 := by rw [hk]; rfl
    have q := (hlab _).trans ((hkw 0 32 (qL d.tx ++ 59 :: 10 :: r) (by omega) rfl).trans ((cx_sp (cx_quo (r := 59 :: 10 :: r) h1)).trans hend))
    unfold tokD lineD restT restL restX
    rw [e]
    exact cx_tt q (by simp) (by simp [stT])
  · have e : kN d.kd = 1 := by rw [hk]; rfl
    have qA := cx_arms (r := afterL ++ 32 :: (numS 10 d.n ++ goS ++ (d.to ++ 59 :: 10 :: r))) h1
    have qB : Cx (32 :: (afterL ++ 32 :: (numS 10 d.n ++ goS ++ (d.to ++ 59 :: 10 :: r)))) [wdT afterL] (32 :: (numS 10 d.n ++ goS ++ (d.to ++ 59 :: 10 :: r))) := cx_sp (cx_wd (wd_const (by simp)) rfl)
    have qC := cx_sp ((hnum (d.to ++ 59 :: 10 :: r) hn).trans ((hgo _).trans (cx_sp (hto ht))))
    have q := (hlab _).trans ((hkw 1 32 (joinA d.arms ++ 32 :: (afterL ++ 32 :: (numS 10 d.n ++ goS ++ (d.to ++ 59 :: 10 :: r)))) (by omega) rfl).trans ((cx_sp (qA.trans (qB.trans qC))).trans hend))
    unfold tokD lineD restT restL restX
    rw [e]
    exact cx_tt q (by simp) (by simp)
  · have e : kN d.kd = 2 := by rw [hk]; rfl
    have q := (hlab _).trans ((hkw 2 32 (d.to ++ 59 :: 10 :: r) (by omega) rfl).trans ((cx_sp (hto ht)).trans hend))
    unfold tokD lineD restT restL restX
    rw [e]
    exact cx_tt q (by simp) (by simp [stT])
  · have e : kN d.kd = 3 := by rw [hk]; rfl
    have qC := cx_sp ((hnum (d.to ++ 59 :: 10 :: r) (by omega)).trans ((hgo _).trans (cx_sp (hto ht))))
    have q := (hlab _).trans ((hkw 3 32 (numS 10 d.n ++ goS ++ (d.to ++ 59 :: 10 :: r)) (by omega) rfl).trans (qC.trans hend))
    unfold tokD lineD restT restL restX
    rw [e]
    exact cx_tt q (by simp) (by simp [stT])
  · rcases hk with hk | hk
    · have e : kN d.kd = 4 := by rw [hk]; rfl
      have q := (hlab _).trans ((hkw 4 59 (10 :: r) (by omega) rfl).trans hend)
      unfold tokD lineD restT restL restX
      rw [e]
      exact cx_tt q (by simp) (by simp [stT])
    · have e : kN d.kd = 5 := by rw [hk]; rfl
      have q := (hlab _).trans ((hkw 5 59 (10 :: r) (by omega) rfl).trans hend)
      unfold tokD lineD restT restL restX
      rw [e]
      exact cx_tt q (by simp) (by simp [stT])
theorem cx_text : ∀ {l : List DV}, (∀ x ∈ l, WFd x.1) → Cx (textL l) (l.flatMap fun x => tokD x.1) []
  | [], _ => Cx.refl _
  | x :: l, h => (cx_line (r := textL l) (h x (by simp))).trans (cx_text fun y hy => h y (by simp [hy]))
end Go.Proofs.YtjlicambfepfiaaGreatDoor.Ab

set_option linter.unusedVariables false
set_option linter.unusedSimpArgs false
namespace Go.Proofs.YtjlicambfepfiaaGreatDoor.Ab
open Go Go.RowKit
section
variable {m : Mem}
theorem arg_u8 (d : TD) (c : List Value) (hf : Fits (.int .u8) d) (h : AbsT m d c) : ∃ a : UInt8, c = [byteV a] ∧ True := by
  obtain ⟨n, rfl, rfl, hw⟩ := absT_int h hf
  have hw' : 0 ≤ n ∧ n ≤ 255 := by simpa [Lit.wf, IntKind.min, IntKind.max, IntKind.signed, IntKind.bits] using hw
  refine ⟨UInt8.ofNat n.toNat, ?_, trivial⟩
  have : (UInt8.ofNat n.toNat).toNat = n.toNat := by
    rw [UInt8.toNat_ofNat']; omega
  simp only [byteV, this]
  congr 2; omega
theorem flat_one {α : Type} (f : α → Value) : ∀ l : List α, l.flatMap (fun b => [f b]) = l.map f
  | [] => rfl
  | x :: l => by simp [flat_one f l]
end
end Go.Proofs.YtjlicambfepfiaaGreatDoor.Ab

set_option linter.unusedVariables false
set_option linter.unusedSimpArgs false
namespace Go.Proofs.YtjlicambfepfiaaGreatDoor.Ab
open Go Go.RowKit
set_option maxHeartbeats 4000000
set_option maxRecDepth 100000
def setV (a b c d : Int) : Value := .agg ⟨[.int .u64 a, .int .u64 b, .int .u64 c, .int .u64 d]⟩
theorem c_With {w0 : World} {m : Mem} {a b c d : Int} {x : Nat} {Q : Value → Mem → Prop} (hx : x = 97 ∨ x = 98 ∨ x = 99) (hq : ∀ m' e, Old m m' → Q (setV a e c d) m') : AbC Tryz.prog w0 71 [setV a b c d, .int .u8 (x : Int)] m Q := by
  refine AbC_fn ok71 (by simp) ?_
  unfold setV
  rcases hx with rfl | rfl | rfl
  · have q1 : dBin .quo (.int .u8 97) (.int .u8 64) = some (.int .u8 1) := rfl
    have q2 : dBin .rem (.int .u8 97) (.int .u8 64) = some (.int .u8 33) := rfl
    have q3 : dBin .shl (.int .u64 1) (.int .u8 33) = some (.int .u64 8589934592) := rfl
    obtain ⟨e, q4⟩ : ∃ e, dBin .or (.int .u64 b) (.int .u64 8589934592) = some (.int .u64 e) := ⟨_, rfl⟩
    simp -implicitDefEqProofs (disch := first | assumption | (simp only [wnA]; done) | (simp only [wnA]; omega) | omega | fail) [rc71, ro71, wkA, retV, stabOk, dC, ev, fillD, pickCells, putAt, bnd, slD, List.getElem?_cons_zero, List.getElem?_cons_succ, dR.eq_20, Mem.cell, Mem.row, wmA, q1, q2, q3, q4]
    refine SK_stv (i := m.next) (o := 1) (vs := [.int .u64 e]) (cs := [.int .u64 a, .int .u64 b, .int .u64 c, .int .u64 d]) (e := 73) (by simp [wkA, retV, stabOk, dC, ev, fillD, pickCells, putAt, bnd, slD, List.getElem?_cons_zero, List.getElem?_cons_succ, dR.eq_20]) (by simp -implicitDefEqProofs (disch := first | assumption | (simp only [wnA]; done) | (simp only [wnA]; omega) | omega | fail) [wkA, retV, stabOk, dC, ev, fillD, pickCells, putAt, bnd, slD, List.getElem?_cons_zero, List.getElem?_cons_succ, dR.eq_20, Mem.cell, Mem.row, wmA]) (by simp [wkA, retV, stabOk, dC, ev, fillD, pickCells, putAt, bnd, slD, List.getElem?_cons_zero, List.getElem?_cons_succ, dR.eq_20]) (by simp) rfl rfl ?_
    simp -implicitDefEqProofs (disch := first | assumption | (simp only [wnA]; done) | (simp only [wnA]; omega) | omega | fail) [wkA, retV, stabOk, dC, ev, fillD, pickCells, putAt, bnd, slD, List.getElem?_cons_zero, List.getElem?_cons_succ, dR.eq_20, Mem.cell, Mem.row, wmA]
    refine SK_stv (i := m.next + 1) (o := 0) (vs := [.int .u64 a, .int .u64 e, .int .u64 c, .int .u64 d]) (cs := [.int .u64 0, .int .u64 0, .int .u64 0, .int .u64 0]) (e := 73) (by simp [wkA, retV, stabOk, dC, ev, fillD, pickCells, putAt, bnd, slD, List.getElem?_cons_zero, List.getElem?_cons_succ, dR.eq_20]) (by simp -implicitDefEqProofs (disch := first | assumption | (simp only [wnA]; done) | (simp only [wnA]; omega) | omega | fail) [wkA, retV, stabOk, dC, ev, fillD, pickCells, putAt, bnd, slD, List.getElem?_cons_zero, List.getElem?_cons_succ, dR.eq_20, Mem.cell, Mem.row, wmA]) (by simp [wkA, retV, stabOk, dC, ev, fillD, pickCells, putAt, bnd, slD, List.getElem?_cons_zero, List.getElem?_cons_succ, dR.eq_20]) (by simp) rfl rfl ?_
    simp -implicitDefEqProofs (disch := first | assumption | (simp only [wnA]; done) | (simp only [wnA]; omega) | omega | fail) [wkA, retV, stabOk, dC, ev, fillD, pickCells, putAt, bnd, slD, List.getElem?_cons_zero, List.getElem?_cons_succ, dR.eq_20, Mem.cell, Mem.row, wmA]
    exact hq _ e ((((Old.refl m).push _).push _).set (by omega) _ |>.set (by omega) _)
  · have q1 : dBin .quo (.int .u8 98) (.int .u8 64) = some (.int .u8 1) := rfl
    have q2 : dBin .rem (.int .u8 98) (.int .u8 64) = some (.int .u8 34) := rfl
    have q3 : dBin .shl (.int .u64 1) (.int .u8 34) = some (.int .u64 17179869184) := rfl
    obtain ⟨e, q4⟩ : ∃ e, dBin .or (.int .u64 b) (.int .u64 17179869184) = some (.int .u64 e) := ⟨_, rfl⟩
    simp -implicitDefEqProofs (disch := first | assumption | (simp only [wnA]; done) | (simp only [wnA]; omega) | omega | fail) [rc71, ro71, wkA, retV, stabOk, dC, ev, fillD, pickCells, putAt, bnd, slD, List.getElem?_cons_zero, List.getElem?_cons_succ, dR.eq_20, Mem.cell, Mem.row, wmA, q1, q2, q3, q4]
    refine SK_stv (i := m.next) (o := 1) (vs := [.int .u64 e]) (cs := [.int .u64 a, .int .u64 b, .int .u64 c, .int .u64 d]) (e := 73) (by simp [wkA, retV, stabOk, dC, ev, fillD, pickCells, putAt, bnd, slD, List.getElem?_cons_zero, List.getElem?_cons_succ, dR.eq_20]) (by simp -implicitDefEqProofs (disch := first | assumption | (simp only [wnA]; done) | (simp only [wnA]; omega) | omega | fail) [wkA, retV, stabOk, dC, ev, fillD, pickCells, putAt, bnd, slD, List.getElem?_cons_zero, List.getElem?_cons_succ, dR.eq_20, Mem.cell, Mem.row, wmA]) (by simp [wkA, retV, stabOk, dC, ev, fillD, pickCells, putAt, bnd, slD, List.getElem?_cons_zero, List.getElem?_cons_succ, dR.eq_20]) (by simp) rfl rfl ?_
    simp -implicitDefEqProofs (disch := first | assumption | (simp only [wnA]; done) | (simp only [wnA]; omega) | omega | fail) [wkA, retV, stabOk, dC, ev, fillD, pickCells, putAt, bnd, slD, List.getElem?_cons_zero, List.getElem?_cons_succ, dR.eq_20, Mem.cell, Mem.row, wmA]
    refine SK_stv (i := m.next + 1) (o := 0) (vs := [.int .u64 a, .int .u64 e, .int .u64 c, .int .u64 d]) (cs := [.int .u64 0, .int .u64 0, .int .u64 0, .int .u64 0]) (e := 73) (by simp [wkA, retV, stabOk, dC, ev, fillD, pickCells, putAt, bnd, slD, List.getElem?_cons_zero, List.getElem?_cons_succ, dR.eq_20]) (by simp -implicitDefEqProofs (disch := first | assumption | (simp only [wnA]; done) | (simp only [wnA]; omega) | omega | fail) [wkA, retV, stabOk, dC, ev, fillD, pickCells, putAt, bnd, slD, List.getElem?_cons_zero, List.getElem?_cons_succ, dR.eq_20, Mem.cell, Mem.row, wmA]) (by simp [wkA, retV, stabOk, dC, ev, fillD, pickCells, putAt, bnd, slD, List.getElem?_cons_zero, List.getElem?_cons_succ, dR.eq_20]) (by simp) rfl rfl ?_
    simp -implicitDefEqProofs (disch := first | assumption | (simp only [wnA]; done) | (simp only [wnA]; omega) | omega | fail) [wkA, retV, stabOk, dC, ev, fillD, pickCells, putAt, bnd, slD, List.getElem?_cons_zero, List.getElem?_cons_succ, dR.eq_20, Mem.cell, Mem.row, wmA]
    exact hq _ e ((((Old.refl m).push _).push _).set (by omega) _ |>.set (by omega) _)
  · have q1 : dBin .quo (.int .u8 99) (.int .u8 64) = some (.int .u8 1) := rfl
    have q2 : dBin .rem (.int .u8 99) (.int .u8 64) = some (.int .u8 35) := rfl
    have q3 : dBin .shl (.int .u64 1) (.int .u8 35) = some (.int .u64 34359738368) := rfl
    obtain ⟨e, q4⟩ : ∃ e, dBin .or (.int .u64 b) (.int .u64 34359738368) = some (.int .u64 e) := ⟨_, rfl⟩
    simp -implicitDefEqProofs (disch := first | assumption | (simp only [wnA]; done) | (simp only [wnA]; omega) | omega | fail) [rc71, ro71, wkA, retV, stabOk, dC, ev, fillD, pickCells, putAt, bnd, slD, List.getElem?_cons_zero, List.getElem?_cons_succ, dR.eq_20, Mem.cell, Mem.row, wmA, q1, q2, q3, q4]
    refine SK_stv (i := m.next) (o := 1) (vs := [.int .u64 e]) (cs := [.int .u64 a, .int .u64 b, .int .u64 c, .int .u64 d]) (e := 73) (by simp [wkA, retV, stabOk, dC, ev, fillD, pickCells, putAt, bnd, slD, List.getElem?_cons_zero, List.getElem?_cons_succ, dR.eq_20]) (by simp -implicitDefEqProofs (disch := first | assumption | (simp only [wnA]; done) | (simp only [wnA]; omega) | omega | fail) [wkA, retV, stabOk, dC, ev, fillD, pickCells, putAt, bnd, slD, List.getElem?_cons_zero, List.getElem?_cons_succ, dR.eq_20, Mem.cell, Mem.row, wmA]) (by simp [wkA, retV, stabOk, dC, ev, fillD, pickCells, putAt, bnd, slD, List.getElem?_cons_zero, List.getElem?_cons_succ, dR.eq_20]) (by simp) rfl rfl ?_
    simp -implicitDefEqProofs (disch := first | assumption | (simp only [wnA]; done) | (simp only [wnA]; omega) | omega | fail) [wkA, retV, stabOk, dC, ev, fillD, pickCells, putAt, bnd, slD, List.getElem?_cons_zero, List.getElem?_cons_succ, dR.eq_20, Mem.cell, Mem.row, wmA]
    refine SK_stv (i := m.next + 1) (o := 0) (vs := [.int .u64 a, .int .u64 e, .int .u64 c, .int .u64 d]) (cs := [.int .u64 0, .int .u64 0, .int .u64 0, .int .u64 0]) (e := 73) (by simp [wkA, retV, stabOk, dC, ev, fillD, pickCells, putAt, bnd, slD, List.getElem?_cons_zero, List.getElem?_cons_succ, dR.eq_20]) (by simp -implicitDefEqProofs (disch := first | assumption | (simp only [wnA]; done) | (simp only [wnA]; omega) | omega | fail) [wkA, retV, stabOk, dC, ev, fillD, pickCells, putAt, bnd, slD, List.getElem?_cons_zero, List.getElem?_cons_succ, dR.eq_20, Mem.cell, Mem.row, wmA]) (by simp [wkA, retV, stabOk, dC, ev, fillD, pickCells, putAt, bnd, slD, List.getElem?_cons_zero, List.getElem?_cons_succ, dR.eq_20]) (by simp) rfl rfl ?_
    simp -implicitDefEqProofs (disch := first | assumption | (simp only [wnA]; done) | (simp only [wnA]; omega) | omega | fail) [wkA, retV, stabOk, dC, ev, fillD, pickCells, putAt, bnd, slD, List.getElem?_cons_zero, List.getElem?_cons_succ, dR.eq_20, Mem.cell, Mem.row, wmA]
    exact hq _ e ((((Old.refl m).push _).push _).set (by omega) _ |>.set (by omega) _)
theorem c_Not {w0 : World} {m : Mem} {a b c d : Int} {Q : Value → Mem → Prop} (hq : ∀ m' a' b' c' d', Old m m' → Q (setV a' b' c' d') m') : AbC Tryz.prog w0 70 [setV a b c d] m Q := by
  refine AbC_fn ok70 (by simp) ?_
  unfold setV
  simp -implicitDefEqProofs (disch := first | assumption | (simp only [wnA]; done) | (simp only [wnA]; omega) | omega | fail) [rc70, ro70, wkA, retV, stabOk, dC, ev, fillD, pickCells, putAt, bnd, slD, List.getElem?_cons_zero, List.getElem?_cons_succ, dR.eq_20, Mem.cell, Mem.row, wmA]
  refine LoopW_of (fun k ts m' => ∃ (j : Nat) (a b c d : Int), j + k = 4 ∧ Old m m' ∧ m.next + 1 < m'.next ∧ m'.get m.next = .own [.int .u64 a, .int .u64 b, .int .u64 c, .int .u64 d] 73 ∧ m'.get (m.next + 1) = .own [.int .u64 0, .int .u64 0, .int .u64 0, .int .u64 0] 73 ∧ ts 1 = .pointer (some ⟨m.next, 0, none⟩) ∧ ts 2 = .pointer (some ⟨m.next + 1, 0, none⟩) ∧ ts 4 = .int .i64 (j : Nat)) 4 ?_ ?_
  · exact ⟨0, a, b, c, d, rfl, ((Old.refl m).push _).push _, by simp, by simp -implicitDefEqProofs (disch := first | assumption | (simp only [wnA]; done) | (simp only [wnA]; omega) | omega | fail) [wkA, retV, stabOk, dC, ev, fillD, pickCells, putAt, bnd, slD, List.getElem?_cons_zero, List.getElem?_cons_succ, dR.eq_20, Mem.cell, Mem.row, wmA], by simp -implicitDefEqProofs (disch := first | assumption | (simp only [wnA]; done) | (simp only [wnA]; omega) | omega | fail) [wkA, retV, stabOk, dC, ev, fillD, pickCells, putAt, bnd, slD, List.getElem?_cons_zero, List.getElem?_cons_succ, dR.eq_20, Mem.cell, Mem.row, wmA], by simp, by simp, by simp⟩
  · rintro k ts m1 K ⟨j, a, b, c, d, hj, o1, n1, g1, g2, t1, t2, t4⟩ hK
    simp -implicitDefEqProofs (disch := first | assumption | (simp only [wnA]; done) | (simp only [wnA]; omega) | omega | fail) [rc70_1, wkA, retV, stabOk, dC, ev, fillD, pickCells, putAt, bnd, slD, List.getElem?_cons_zero, List.getElem?_cons_succ, dR.eq_20, Mem.cell, Mem.row, wmA, t4]
    have hj5 : j = 0 ∨ j = 1 ∨ j = 2 ∨ j = 3 ∨ j = 4 := by omega
    rcases hj5 with rfl | rfl | rfl | rfl | rfl
    · simp -implicitDefEqProofs (disch := first | assumption | (simp only [wnA]; done) | (simp only [wnA]; omega) | omega | fail) [rc70_0, wkA, retV, stabOk, dC, ev, fillD, pickCells, putAt, bnd, slD, List.getElem?_cons_zero, List.getElem?_cons_succ, dR.eq_20, Mem.cell, Mem.row, wmA, t1, t2, t4, g1]
      generalize IntKind.u64.wrap (↑(((if IntKind.u64.signed = true then -1 else IntKind.u64.max) % 2 ^ IntKind.u64.bits).toNat ^^^ (a % 2 ^ IntKind.u64.bits).toNat)) = E
      refine SK_stv (i := m.next) (o := 0) (vs := [.int .u64 E]) (cs := [.int .u64 a, .int .u64 b, .int .u64 c, .int .u64 d]) (e := 73) (by simp [wkA, retV, stabOk, dC, ev, fillD, pickCells, putAt, bnd, slD, List.getElem?_cons_zero, List.getElem?_cons_succ, dR.eq_20]) g1 (by simp [wkA, retV, stabOk, dC, ev, fillD, pickCells, putAt, bnd, slD, List.getElem?_cons_zero, List.getElem?_cons_succ, dR.eq_20]) (by simp) rfl rfl ?_
      have hw : IntKind.i64.wrap 1 = 1 := w64 (by omega)
      simp -implicitDefEqProofs (disch := first | assumption | (simp only [wnA]; done) | (simp only [wnA]; omega) | omega | fail) [wkA, retV, stabOk, dC, ev, fillD, pickCells, putAt, bnd, slD, List.getElem?_cons_zero, List.getElem?_cons_succ, dR.eq_20, Mem.cell, Mem.row, wmA, t4, hw]
      exact hK (k - 1) _ _ (by omega) ⟨1, E, b, c, d, by omega, o1.set (by omega) _, n1, by rw [Mem.set_same], by rw [Mem.set_other _ _ (by omega)]; exact g2, by simp [t1], by simp [t2], by simp [hw]⟩
    · simp -implicitDefEqProofs (disch := first | assumption | (simp only [wnA]; done) | (simp only [wnA]; omega) | omega | fail) [rc70_0, wkA, retV, stabOk, dC, ev, fillD, pickCells, putAt, bnd, slD, List.getElem?_cons_zero, List.getElem?_cons_succ, dR.eq_20, Mem.cell, Mem.row, wmA, t1, t2, t4, g1]
      generalize IntKind.u64.wrap (↑(((if IntKind.u64.signed = true then -1 else IntKind.u64.max) % 2 ^ IntKind.u64.bits).toNat ^^^ (b % 2 ^ IntKind.u64.bits).toNat)) = E
      refine SK_stv (i := m.next) (o := 1) (vs := [.int .u64 E]) (cs := [.int .u64 a, .int .u64 b, .int .u64 c, .int .u64 d]) (e := 73) (by simp [wkA, retV, stabOk, dC, ev, fillD, pickCells, putAt, bnd, slD, List.getElem?_cons_zero, List.getElem?_cons_succ, dR.eq_20]) g1 (by simp [wkA, retV, stabOk, dC, ev, fillD, pickCells, putAt, bnd, slD, List.getElem?_cons_zero, List.getElem?_cons_succ, dR.eq_20]) (by simp) rfl rfl ?_
      have hw : IntKind.i64.wrap 2 = 2 := w64 (by omega)
      simp -implicitDefEqProofs (disch := first | assumption | (simp only [wnA]; done) | (simp only [wnA]; omega) | omega | fail) [wkA, retV, stabOk, dC, ev, fillD, pickCells, putAt, bnd, slD, List.getElem?_cons_zero, List.getElem?_cons_succ, dR.eq_20, Mem.cell, Mem.row, wmA, t4, hw]
      exact hK (k - 1) _ _ (by omega) ⟨2, a, E, c, d, by omega, o1.set (by omega) _, n1, by rw [Mem.set_same], by rw [Mem.set_other _ _ (by omega)]; exact g2, by simp [t1], by simp [t2], by simp [hw]⟩
    · simp -implicitDefEqProofs (disch := first | assumption | (simp only [wnA]; done) | (simp only [wnA]; omega) | omega | fail) [rc70_0, wkA, retV, stabOk, dC, ev, fillD, pickCells, putAt, bnd, slD, List.getElem?_cons_zero, List.getElem?_cons_succ, dR.eq_20, Mem.cell, Mem.row, wmA, t1, t2, t4, g1]
      generalize IntKind.u64.wrap (↑(((if IntKind.u64.signed = true then -1 else IntKind.u64.max) % 2 ^ IntKind.u64.bits).toNat ^^^ (c % 2 ^ IntKind.u64.bits).toNat)) = E
      refine SK_stv (i := m.next) (o := 2) (vs := [.int .u64 E]) (cs := [.int .u64 a, .int .u64 b, .int .u64 c, .int .u64 d]) (e := 73) (by simp [wkA, retV, stabOk, dC, ev, fillD, pickCells, putAt, bnd, slD, List.getElem?_cons_zero, List.getElem?_cons_succ, dR.eq_20]) g1 (by simp [wkA, retV, stabOk, dC, ev, fillD, pickCells, putAt, bnd, slD, List.getElem?_cons_zero, List.getElem?_cons_succ, dR.eq_20]) (by simp) rfl rfl ?_
      have hw : IntKind.i64.wrap 3 = 3 := w64 (by omega)
      simp -implicitDefEqProofs (disch := first | assumption | (simp only [wnA]; done) | (simp only [wnA]; omega) | omega | fail) [wkA, retV, stabOk, dC, ev, fillD, pickCells, putAt, bnd, slD, List.getElem?_cons_zero, List.getElem?_cons_succ, dR.eq_20, Mem.cell, Mem.row, wmA, t4, hw]
      exact hK (k - 1) _ _ (by omega) ⟨3, a, b, E, d, by omega, o1.set (by omega) _, n1, by rw [Mem.set_same], by rw [Mem.set_other _ _ (by omega)]; exact g2, by simp [t1], by simp [t2], by simp [hw]⟩
    · simp -implicitDefEqProofs (disch := first | assumption | (simp only [wnA]; done) | (simp only [wnA]; omega) | omega | fail) [rc70_0, wkA, retV, stabOk, dC, ev, fillD, pickCells, putAt, bnd, slD, List.getElem?_cons_zero, List.getElem?_cons_succ, dR.eq_20, Mem.cell, Mem.row, wmA, t1, t2, t4, g1]
      generalize IntKind.u64.wrap (↑(((if IntKind.u64.signed = true then -1 else IntKind.u64.max) % 2 ^ IntKind.u64.bits).toNat ^^^ (d % 2 ^ IntKind.u64.bits).toNat)) = E
      refine SK_stv (i := m.next) (o := 3) (vs := [.int .u64 E]) (cs := [.int .u64 a, .int .u64 b, .int .u64 c, .int .u64 d]) (e := 73) (by simp [wkA, retV, stabOk, dC, ev, fillD, pickCells, putAt, bnd, slD, List.getElem?_cons_zero, List.getElem?_cons_succ, dR.eq_20]) g1 (by simp [wkA, retV, stabOk, dC, ev, fillD, pickCells, putAt, bnd, slD, List.getElem?_cons_zero, List.getElem?_cons_succ, dR.eq_20]) (by simp) rfl rfl ?_
      have hw : IntKind.i64.wrap 4 = 4 := w64 (by omega)
      simp -implicitDefEqProofs (disch := first | assumption | (simp only [wnA]; done) | (simp only [wnA]; omega) | omega | fail) [wkA, retV, stabOk, dC, ev, fillD, pickCells, putAt, bnd, slD, List.getElem?_cons_zero, List.getElem?_cons_succ, dR.eq_20, Mem.cell, Mem.row, wmA, t4, hw]
      exact hK (k - 1) _ _ (by omega) ⟨4, a, b, c, E, by omega, o1.set (by omega) _, n1, by rw [Mem.set_same], by rw [Mem.set_other _ _ (by omega)]; exact g2, by simp [t1], by simp [t2], by simp [hw]⟩
    · simp -implicitDefEqProofs (disch := first | assumption | (simp only [wnA]; done) | (simp only [wnA]; omega) | omega | fail) [rc70_2, wkA, retV, stabOk, dC, ev, fillD, pickCells, putAt, bnd, slD, List.getElem?_cons_zero, List.getElem?_cons_succ, dR.eq_20, Mem.cell, Mem.row, wmA, t1, t2, g1]
      refine SK_stv (i := m.next + 1) (o := 0) (vs := [.int .u64 a, .int .u64 b, .int .u64 c, .int .u64 d]) (cs := [.int .u64 0, .int .u64 0, .int .u64 0, .int .u64 0]) (e := 73) (by simp [wkA, retV, stabOk, dC, ev, fillD, pickCells, putAt, bnd, slD, List.getElem?_cons_zero, List.getElem?_cons_succ, dR.eq_20, t2]) g2 (by simp [wkA, retV, stabOk, dC, ev, fillD, pickCells, putAt, bnd, slD, List.getElem?_cons_zero, List.getElem?_cons_succ, dR.eq_20]) (by simp) rfl rfl ?_
      simp -implicitDefEqProofs (disch := first | assumption | (simp only [wnA]; done) | (simp only [wnA]; omega) | omega | fail) [wkA, retV, stabOk, dC, ev, fillD, pickCells, putAt, bnd, slD, List.getElem?_cons_zero, List.getElem?_cons_succ, dR.eq_20, Mem.cell, Mem.row, wmA, t2]
      exact hq _ a b c d (o1.set (by omega) _)
end Go.Proofs.YtjlicambfepfiaaGreatDoor.Ab

set_option linter.unusedVariables false
set_option linter.unusedSimpArgs false
namespace Go.Proofs.YtjlicambfepfiaaGreatDoor.Ab
open Go Go.RowKit
set_option maxHeartbeats 4000000
set_option maxRecDepth 100000
theorem rem_u8 {k b : Nat} (hb : 0 < b) : dBin .rem (.int .u8 (k : Int)) (.int .u8 (b : Int)) = some (.int .u8 ((k % b : Nat) : Int)) := by
  rw [dBin_rem (by omega), Int.tmod_eq_emod_of_nonneg (by omega)]
  rfl
/-- A node of a pattern: what it says does not matter here. -/
def nodC (k a b c d : Int) (s : Value) : List Value := [.int .i64 k, .int .u64 a, .int .u64 b, .int .u64 c, .int .u64 d, s]
def Nod (v : Value) : Prop := ∃ k a b c d s, v = .agg ⟨nodC k a b c d s⟩ ∧ oneC s = true ∧ cellsV s = [s]
def nod0 : List Value := [.int .i64 0, .int .u64 0, .int .u64 0, .int .u64 0, .int .u64 0, .slice none 0 0]
theorem c_byteNode {w0 : World} {m : Mem} {x : Nat} {Q : Value → Mem → Prop} (hx : x = 97 ∨ x = 98 ∨ x = 99) (hq : ∀ m' v, Old m m' → Nod v → Q v m') : AbC Tryz.prog w0 69 [.int .u8 (x : Int)] m Q := by
  refine AbC_fn ok69 (by simp) ?_
  simp -implicitDefEqProofs (disch := first | assumption | (simp only [wnA]; done) | (simp only [wnA]; omega) | omega | fail) [rc69, ro69, wkA, retV, stabOk, dC, ev, fillD, pickCells, putAt, bnd, slD, List.getElem?_cons_zero, List.getElem?_cons_succ, dR_sl, Mem.cell, Mem.row, wmA]
  have e0 : (.agg ⟨[.int .u64 0, .int .u64 0, .int .u64 0, .int .u64 0]⟩ : Value) = setV 0 0 0 0 := rfl
  rw [e0]
  refine c_With hx fun m1 e o1 => ?_
  have o1' := (Old.refl m).push (.own nod0 76) |>.trans o1
  have g1 : m1.get m.next = .own nod0 76 := by rw [o1.2 _ (by simp)]; simp -implicitDefEqProofs (disch := first | assumption | (simp only [wnA]; done) | (simp only [wnA]; omega) | omega | fail) [wkA, retV, stabOk, dC, ev, fillD, pickCells, putAt, bnd, slD, List.getElem?_cons_zero, List.getElem?_cons_succ, dR_sl, Mem.cell, Mem.row, wmA, nod0]
  have n1 : m.next < m1.next := by have := o1.1; simp at this; omega
  unfold setV
  simp -implicitDefEqProofs (disch := first | assumption | (simp only [wnA]; done) | (simp only [wnA]; omega) | omega | fail) [wkA, retV, stabOk, dC, ev, fillD, pickCells, putAt, bnd, slD, List.getElem?_cons_zero, List.getElem?_cons_succ, dR_sl, Mem.cell, Mem.row, wmA]
  refine SK_stv (i := m.next) (o := 0) (vs := nodC 1 0 e 0 0 (.slice none 0 0)) (cs := nod0) (e := 76) (by simp [wkA, retV, stabOk, dC, ev, fillD, pickCells, putAt, bnd, slD, List.getElem?_cons_zero, List.getElem?_cons_succ, dR_sl]) g1 (by simp [wkA, retV, stabOk, dC, ev, fillD, pickCells, putAt, bnd, slD, List.getElem?_cons_zero, List.getElem?_cons_succ, dR_sl, nodC]) (by simp [nod0]) rfl rfl ?_
  simp -implicitDefEqProofs (disch := first | assumption | (simp only [wnA]; done) | (simp only [wnA]; omega) | omega | fail) [wkA, retV, stabOk, dC, ev, fillD, pickCells, putAt, bnd, slD, List.getElem?_cons_zero, List.getElem?_cons_succ, dR_sl, Mem.cell, Mem.row, wmA, nod0, nodC]
  exact hq _ _ (o1'.set (Nat.le_refl _) _) ⟨1, 0, e, 0, 0, .slice none 0 0, rfl, rfl, rfl⟩
def SafeL (t : List UInt8) : Prop := ∀ c ∈ t, (escC c).isSome = true
theorem SafeL.app {a b : List UInt8} (ha : SafeL a) (hb : SafeL b) : SafeL (a ++ b) := fun c hc => (List.mem_append.1 hc).elim (ha c) (hb c)
theorem SafeL.cons {c : UInt8} {b : List UInt8} (hc : (escC c).isSome = true) (hb : SafeL b) : SafeL (c :: b) := fun x hx => by
  rcases List.mem_cons.1 hx with rfl | h
  · exact hc
  · exact hb x h
theorem SafeL.ok : ∀ {t : List UInt8}, SafeL t → StrOk t
  | [], _ => strOk_nil
  | c :: t, h => strOk_cons (h c (by simp)) (SafeL.ok fun x hx => h x (by simp [hx]))
def Bd : Nat → Nat
  | 0 => 6
  | d + 1 => 2 * Bd d + 5
/-- What is read of numbers. -/
def BuildQ (m : Mem) (v : Value) (ns : List UInt8) (B : Nat) (Q : Value → Mem → Prop) : Prop := ∀ (m' : Mem) (t : List UInt8) (node v' : Value) (ns' : List UInt8), Old m m' → SafeL t → t.length ≤ B → Nod node → SlR m' 1 v' (ns'.map byteV) ns'.length → (∀ b, blk v' = some b → blk v = some b) → ns'.length ≤ ns.length → Q (.tuple ⟨[.string ⟨⟨t⟩⟩, node, v']⟩) m'
def BodQ (Q : Value → Mem → Prop) : AQ := bodyA [.mv (.tmp 4), .ldn 6 (.tmp 5), .mv (.tmp 6)] Q
theorem bod_ret {m m1 : Mem} {v : Value} {ns ns' : List UInt8} {B i : Nat} {Q : Value → Mem → Prop} {fr : Fr} {t : List UInt8} {k a b c d : Int} {s v' : Value} (hq : BuildQ m v ns B Q) (o : Old m m1) (ht : SafeL t) (hl : t.length ≤ B) (e4 : fr 4 = .string ⟨⟨t⟩⟩) (e5 : fr 5 = .pointer (some ⟨i, 0, none⟩)) (e6 : fr 6 = v')
    (g : m1.get i = .own (nodC k a b c d s) 76) (hs : oneC s = true ∧ cellsV s = [s]) (hv : SlR m1 1 v' (ns'.map byteV) ns'.length) (hb : ∀ b, blk v' = some b → blk v = some b) (hn : ns'.length ≤ ns.length) : BodQ Q .ret fr m1 := by
  have h := hq m1 t (.agg ⟨nodC k a b c d s⟩) v' ns' o ht hl ⟨k, a, b, c, d, s, rfl, hs⟩ hv hb hn
  unfold BodQ
  simp only [nodC] at g h
  simp -implicitDefEqProofs (disch := first | assumption | (simp only [wnA]; done) | (simp only [wnA]; omega) | omega | fail) [wkA, retV, stabOk, dC, ev, fillD, pickCells, putAt, bnd, slD, List.getElem?_cons_zero, List.getElem?_cons_succ, dR_sl, Mem.cell, Mem.row, wmA, e4, e5, e6, g]
  exact h
theorem bstr1 {M : Mem} {i : Nat} {c : UInt8} (g : M.get i = .own [.int .u8 (c.toNat : Int)] 5) : bstr M (.slice (some ⟨i, 0, none⟩) 1 1) = some (.string ⟨⟨[c]⟩⟩) := by
  simp [bstr, Mem.row, g, Ent.cells?, bytesOf]
theorem c_build0 {w0 : World} {m : Mem} {v : Value} {ns : List UInt8} {Q : Value → Mem → Prop} (hv : SlR m 1 v (ns.map byteV) ns.length) (hvb : ∀ b, blk v = some b → b < m.next) (hl : ns.length ≤ maxLen) (hq : BuildQ m v ns (Bd 0) Q) :
    AbC Tryz.prog w0 46 [v, .int .i64 0] m Q := by
  refine AbC_fn ok46 (by simp) ?_
  show AbW _ _ _ (BodQ Q) _ _
  obtain ⟨m1, hm1⟩ : ∃ m1, m.push (.own nod0 76) = m1 := ⟨_, rfl⟩
  have o1 : Old m m1 := by subst hm1; exact (Old.refl m).push _
  have g1 : m1.get m.next = .own nod0 76 := by subst hm1; rw [Mem.push_same]
  have n1 : m.next < m1.next := by subst hm1; simp
  have hm1' : m.push (.own [.int .i64 0, .int .u64 0, .int .u64 0, .int .u64 0, .int .u64 0, .slice none 0 0] 76) = m1 := hm1
  cases ns with
  | nil =>
    have hsl := hv.slen
    simp only [List.length_nil] at hsl
    simp -implicitDefEqProofs (disch := first | assumption | (simp only [wnA]; done) | (simp only [wnA]; omega) | omega | fail) [rc46, wkA, retV, stabOk, dC, ev, fillD, pickCells, putAt, bnd, slD, List.getElem?_cons_zero, List.getElem?_cons_succ, dR_sl, Mem.cell, Mem.row, wmA, hsl, hm1']
    refine c_byteNode (.inl rfl) fun m2 nd o2 hn => ?_
    obtain ⟨k, a, b, c, d, s, rfl, hs1, hs2⟩ := hn
    have g2 := (o2.2 _ n1).trans g1
    simp -implicitDefEqProofs (disch := first | assumption | (simp only [wnA]; done) | (simp only [wnA]; omega) | omega | fail) [wkA, retV, stabOk, dC, ev, fillD, pickCells, putAt, bnd, slD, List.getElem?_cons_zero, List.getElem?_cons_succ, dR_sl, Mem.cell, Mem.row, wmA]
    refine SK_stv (i := m.next) (o := 0) (vs := nodC k a b c d s) (cs := nod0) (e := 76) (by simp [wkA, retV, stabOk, dC, ev, fillD, pickCells, putAt, bnd, slD, List.getElem?_cons_zero, List.getElem?_cons_succ, dR_sl]) g2 (by simp [wkA, retV, stabOk, dC, ev, fillD, pickCells, putAt, bnd, slD, List.getElem?_cons_zero, List.getElem?_cons_succ, dR_sl]) (by simp [nod0]) rfl (by simp only [nodC, List.all_cons, List.all_nil, hs1]; rfl) ?_
    simp -implicitDefEqProofs (disch := first | assumption | (simp only [wnA]; done) | (simp only [wnA]; omega) | omega | fail) [wkA, retV, stabOk, dC, ev, fillD, pickCells, putAt, bnd, slD, List.getElem?_cons_zero, List.getElem?_cons_succ, dR_sl, Mem.cell, Mem.row, wmA]
    refine bod_ret (i := m.next) (ns' := []) hq ((o1.trans o2).set (Nat.le_refl _) _) (t := [97]) (SafeL.cons (by decide) (fun x hx => by cases hx)) (by decide) (by simp) (by simp) (v' := .slice none 0 0) (by simp) (by rw [Mem.set_same]; rfl) ⟨hs1, hs2⟩ ⟨rfl, .inl ⟨rfl, .inl rfl⟩⟩ (fun b hb => by cases hb) (Nat.le_refl _)
  | cons x ns =>
    have hsl := hv.slen
    obtain ⟨bi, bo, L, hvv, hL, hLl, -, hLc⟩ := hv.at (j := 0) (by simp)
    have hc := hLc 0 (by omega)
    obtain ⟨v', sl1, sv', sb'⟩ := hv.behind (k := 1) (by simp)
    simp only [List.map_cons, List.length_cons, Nat.zero_mul, Nat.add_zero, List.getElem?_cons_zero] at hc hvv hsl
    have hs0 : sidx 1 v (.int .i64 0) = some (.pointer (some ⟨bi, bo, none⟩)) := by
      have := sidx_at (b := bi) (o := bo) (n := ns.length + 1) (c := 1) (j := 0) (sz := 1) (k := .i64) (by omega)
      simpa [hvv] using this
    have sl2 : slW 1 v (some (.int .i64 1)) none = some v' := by simpa using sl1
    have sv2 : SlR m 1 v' (ns.map byteV) ns.length := by simpa using sv'
    have hbi : bi < m.next := hvb bi (by rw [hvv]; rfl)
    have hL1 : (m1.get bi).cells? = some L := by rw [o1.2 bi hbi]; exact hL
    have hne : ((ns.length : Int) + 1 == 0) = false := beqF (by omega)
    have r1 := rem_u8 (k := x.toNat) (b := 3) (by omega)
    have hx3 : x.toNat % 3 < 3 := Nat.mod_lt _ (by omega)
    generalize x.toNat % 3 = r at *
    have r1 : dBin .rem (.int .u8 (x.toNat : Int)) (.int .u8 3) = some (.int .u8 (r : Int)) := r1
    have hcb : L[bo]? = some (.int .u8 (x.toNat : Int)) := hc
    simp -implicitDefEqProofs (disch := first | assumption | (simp only [wnA]; done) | (simp only [wnA]; omega) | omega | fail) [rc46, rc46_18, wkA, retV, stabOk, dC, ev, fillD, pickCells, putAt, bnd, slD, List.getElem?_cons_zero, List.getElem?_cons_succ, dR_sl, Mem.cell, Mem.row, wmA, hsl, hm1', hne, hs0, hL1, hcb, getL hcb, sl2, r1]
    obtain ⟨c, hcx, hcn⟩ : ∃ c : UInt8, (ByteArray.mk #[97, 98, 99])[r]? = some c ∧ c.toNat = 97 + r := by
      rcases (show r = 0 ∨ r = 1 ∨ r = 2 by omega) with rfl | rfl | rfl
      · exact ⟨97, rfl, rfl⟩
      · exact ⟨98, rfl, rfl⟩
      · exact ⟨99, rfl, rfl⟩
    have hc3 : c.toNat = 97 ∨ c.toNat = 98 ∨ c.toNat = 99 := by omega
    have hce : (escC c).isSome = true := by
      refine esc_c ?_
      omega
    simp -implicitDefEqProofs (disch := first | assumption | (simp only [wnA]; done) | (simp only [wnA]; omega) | omega | fail) [wkA, retV, stabOk, dC, ev, fillD, pickCells, putAt, bnd, slD, List.getElem?_cons_zero, List.getElem?_cons_succ, dR_sl, Mem.cell, Mem.row, wmA, hcx]
    refine AbW_sem_of ?_
    simp -implicitDefEqProofs (disch := first | assumption | (simp only [wnA]; done) | (simp only [wnA]; omega) | omega | fail) [rc46_0, rc46_1, wkA, retV, stabOk, dC, ev, fillD, pickCells, putAt, bnd, slD, List.getElem?_cons_zero, List.getElem?_cons_succ, dR_sl, Mem.cell, Mem.row, wmA]
    constructor
    · rw [SK_bsl (cs := [.int .u8 (c.toNat : Int)]) (by simp [wkA, retV, stabOk, dC, ev, fillD, pickCells, putAt, bnd, slD, List.getElem?_cons_zero, List.getElem?_cons_succ, dR_sl]) (by simp)]
      obtain ⟨M2, hM2⟩ : ∃ M, m1.push (.own [.int .u8 (c.toNat : Int)] 5) = M := ⟨_, rfl⟩
      have oM2 : Old m1 M2 := by subst hM2; exact (Old.refl m1).push _
      have gM2 : M2.get m1.next = .own [.int .u8 (c.toNat : Int)] 5 := by subst hM2; rw [Mem.push_same]
      have nM2 : m1.next < M2.next := by subst hM2; simp
      rw [hM2]
      have hb1 := bstr1 gM2
      simp -implicitDefEqProofs (disch := first | assumption | (simp only [wnA]; done) | (simp only [wnA]; omega) | omega | fail) [wkA, retV, stabOk, dC, ev, fillD, pickCells, putAt, bnd, slD, List.getElem?_cons_zero, List.getElem?_cons_succ, dR_sl, Mem.cell, Mem.row, wmA, hb1]
      refine c_byteNode hc3 fun m2 nd o2 hn => ?_
      obtain ⟨k, a, b, c', d, s, rfl, hs1, hs2⟩ := hn
      have g2 := (o2.2 _ (Nat.lt_of_lt_of_le n1 oM2.1)).trans ((oM2.2 _ n1).trans g1)
      have hb2 := bstr1 ((o2.2 _ nM2).trans gM2)
      simp -implicitDefEqProofs (disch := first | assumption | (simp only [wnA]; done) | (simp only [wnA]; omega) | omega | fail) [wkA, retV, stabOk, dC, ev, fillD, pickCells, putAt, bnd, slD, List.getElem?_cons_zero, List.getElem?_cons_succ, dR_sl, Mem.cell, Mem.row, wmA, hb2]
      refine SK_stv (i := m.next) (o := 0) (vs := nodC k a b c' d s) (cs := nod0) (e := 76) (by simp [wkA, retV, stabOk, dC, ev, fillD, pickCells, putAt, bnd, slD, List.getElem?_cons_zero, List.getElem?_cons_succ, dR_sl]) g2 (by simp [wkA, retV, stabOk, dC, ev, fillD, pickCells, putAt, bnd, slD, List.getElem?_cons_zero, List.getElem?_cons_succ, dR_sl]) (by simp [nod0]) rfl (by simp only [nodC, List.all_cons, List.all_nil, hs1]; rfl) ?_
      simp -implicitDefEqProofs (disch := first | assumption | (simp only [wnA]; done) | (simp only [wnA]; omega) | omega | fail) [wkA, retV, stabOk, dC, ev, fillD, pickCells, putAt, bnd, slD, List.getElem?_cons_zero, List.getElem?_cons_succ, dR_sl, Mem.cell, Mem.row, wmA]
      have oo := (o1.trans oM2).trans o2
      refine bod_ret (i := m.next) (ns' := ns) hq (oo.set (Nat.le_refl _) _) (t := [c]) (SafeL.cons hce (fun x hx => by cases hx)) (by show (1 : Nat) ≤ Bd 0; decide) (by simp) (by simp) (v' := v') (by simp) (by rw [Mem.set_same]; rfl) ⟨hs1, hs2⟩ ?_ sb' (by simp)
      refine sv2.keep fun b hb => ?_
      have := hvb b (sb' b hb)
      rw [Mem.set_other _ _ (by omega), oo.2 b this]
    · refine c_byteNode hc3 fun m2 nd o2 hn => ?_
      obtain ⟨k, a, b, c', d, s, rfl, hs1, hs2⟩ := hn
      have g2 := (o2.2 _ n1).trans g1
      simp -implicitDefEqProofs (disch := first | assumption | (simp only [wnA]; done) | (simp only [wnA]; omega) | omega | fail) [wkA, retV, stabOk, dC, ev, fillD, pickCells, putAt, bnd, slD, List.getElem?_cons_zero, List.getElem?_cons_succ, dR_sl, Mem.cell, Mem.row, wmA]
      rw [SK_bsl (cs := [.int .u8 (c.toNat : Int)]) (by simp [wkA, retV, stabOk, dC, ev, fillD, pickCells, putAt, bnd, slD, List.getElem?_cons_zero, List.getElem?_cons_succ, dR_sl]) (by simp)]
      obtain ⟨M2, hM2⟩ : ∃ M, m2.push (.own [.int .u8 (c.toNat : Int)] 5) = M := ⟨_, rfl⟩
      have oM2 : Old m2 M2 := by subst hM2; exact (Old.refl m2).push _
      have gM2 : M2.get m2.next = .own [.int .u8 (c.toNat : Int)] 5 := by subst hM2; rw [Mem.push_same]
      rw [hM2]
      have hb1 := bstr1 gM2
      have g3 := (oM2.2 _ (Nat.lt_of_lt_of_le n1 o2.1)).trans g2
      simp -implicitDefEqProofs (disch := first | assumption | (simp only [wnA]; done) | (simp only [wnA]; omega) | omega | fail) [wkA, retV, stabOk, dC, ev, fillD, pickCells, putAt, bnd, slD, List.getElem?_cons_zero, List.getElem?_cons_succ, dR_sl, Mem.cell, Mem.row, wmA, hb1]
      refine SK_stv (i := m.next) (o := 0) (vs := nodC k a b c' d s) (cs := nod0) (e := 76) (by simp [wkA, retV, stabOk, dC, ev, fillD, pickCells, putAt, bnd, slD, List.getElem?_cons_zero, List.getElem?_cons_succ, dR_sl]) g3 (by simp [wkA, retV, stabOk, dC, ev, fillD, pickCells, putAt, bnd, slD, List.getElem?_cons_zero, List.getElem?_cons_succ, dR_sl]) (by simp [nod0]) rfl (by simp only [nodC, List.all_cons, List.all_nil, hs1]; rfl) ?_
      simp -implicitDefEqProofs (disch := first | assumption | (simp only [wnA]; done) | (simp only [wnA]; omega) | omega | fail) [wkA, retV, stabOk, dC, ev, fillD, pickCells, putAt, bnd, slD, List.getElem?_cons_zero, List.getElem?_cons_succ, dR_sl, Mem.cell, Mem.row, wmA]
      have oo := (o1.trans o2).trans oM2
      refine bod_ret (i := m.next) (ns' := ns) hq (oo.set (Nat.le_refl _) _) (t := [c]) (SafeL.cons hce (fun x hx => by cases hx)) (by show (1 : Nat) ≤ Bd 0; decide) (by simp) (by simp) (v' := v') (by simp) (by rw [Mem.set_same]; rfl) ⟨hs1, hs2⟩ ?_ sb' (by simp)
      refine sv2.keep fun b hb => ?_
      have := hvb b (sb' b hb)
      rw [Mem.set_other _ _ (by omega), oo.2 b this]
end Go.Proofs.YtjlicambfepfiaaGreatDoor.Ab

set_option linter.unusedVariables false
set_option linter.unusedSimpArgs false
namespace Go.Proofs.YtjlicambfepfiaaGreatDoor.Ab
open Go Go.RowKit
set_option maxHeartbeats 4000000
set_option maxRecDepth 100000
/-- One more text of numbers. -/
def BuildOk (d : Nat) : Prop := ∀ (w0 : World) (m : Mem) (v : Value) (ns : List UInt8) (Q : Value → Mem → Prop), SlR m 1 v (ns.map byteV) ns.length → (∀ b, blk v = some b → b < m.next) → ns.length ≤ maxLen → BuildQ m v ns (Bd d) Q → AbC Tryz.prog w0 46 [v, .int .i64 (d : Nat)] m Q
/-- What the walk knows behind the numbers' first. -/
structure BS (m m1 : Mem) (v v' : Value) (ns ns' : List UInt8) : Prop where
  o : Old m m1
  n : m.next < m1.next
  g : m1.get m.next = .own nod0 76
  sv : SlR m1 1 v' (ns'.map byteV) ns'.length
  b : ∀ b, blk v' = some b → blk v = some b
  b2 : ∀ b, blk v = some b → b < m.next
  l : ns'.length ≤ ns.length
theorem BS.old {m m1 m2 : Mem} {v v' : Value} {ns ns' : List UInt8} (h : BS m m1 v v' ns ns') (o : Old m1 m2) : BS m m2 v v' ns ns' :=
  ⟨h.o.trans o, Nat.lt_of_lt_of_le h.n o.1, (o.2 _ h.n).trans h.g, h.sv.keep fun b hb => o.2 b (by have := h.b2 b (h.b b hb); have := h.n; omega), h.b, h.b2, h.l⟩
theorem BS.ret {m m1 : Mem} {v v' : Value} {ns ns' : List UInt8} (h : BS m m1 v v' ns ns') {B : Nat} {Q : Value → Mem → Prop} {fr : Fr} {t : List UInt8} {k a b c d : Int} {s : Value} (hq : BuildQ m v ns B Q) (ht : SafeL t) (hl : t.length ≤ B) (hs : oneC s = true ∧ cellsV s = [s])
    (e4 : fr 4 = .string ⟨⟨t⟩⟩) (e5 : fr 5 = .pointer (some ⟨m.next, 0, none⟩)) (e6 : fr 6 = v') : BodQ Q .ret fr (m1.set m.next (.own (nodC k a b c d s) 76)) :=
  bod_ret (i := m.next) (ns' := ns') hq (h.o.set (Nat.le_refl _) _) ht hl e4 e5 e6 (by rw [Mem.set_same]) hs (h.sv.keep fun b hb => by rw [Mem.set_other _ _ (by have := h.b2 b (h.b b hb); omega)]) h.b h.l
theorem c_buildS {d : Nat} (hd : d ≤ 2) (IH : BuildOk d) : BuildOk (d + 1) := by
  intro w0 m v ns Q hv hvb hl hq
  refine AbC_fn ok46 (by simp) ?_
  show AbW _ _ _ (BodQ Q) _ _
  have hBd : Bd d ≤ 40 := by
    rcases (show d = 0 ∨ d = 1 ∨ d = 2 by omega) with rfl | rfl | rfl <;> decide
  have hBd6 : 6 ≤ Bd d := by
    rcases (show d = 0 ∨ d = 1 ∨ d = 2 by omega) with rfl | rfl | rfl <;> decide
  have hB1 : Bd (d + 1) = 2 * Bd d + 5 := rfl
  obtain ⟨m1, hm1⟩ : ∃ m1, m.push (.own nod0 76) = m1 := ⟨_, rfl⟩
  have o1 : Old m m1 := by subst hm1; exact (Old.refl m).push _
  have g1 : m1.get m.next = .own nod0 76 := by subst hm1; rw [Mem.push_same]
  have n1 : m.next < m1.next := by subst hm1; simp
  have hm1' : m.push (.own [.int .i64 0, .int .u64 0, .int .u64 0, .int .u64 0, .int .u64 0, .slice none 0 0] 76) = m1 := hm1
  cases ns with
  | nil =>
    have hsl := hv.slen
    simp only [List.length_nil] at hsl
    simp -implicitDefEqProofs (disch := first | assumption | (simp only [wnA]; done) | (simp only [wnA]; omega) | omega | fail) [rc46, wkA, retV, stabOk, dC, ev, fillD, pickCells, putAt, bnd, slD, List.getElem?_cons_zero, List.getElem?_cons_succ, dR_sl, Mem.cell, Mem.row, wmA, hsl, hm1']
    refine c_byteNode (.inl rfl) fun m2 nd o2 hn => ?_
    obtain ⟨k, a, b, c, d, s, rfl, hs1, hs2⟩ := hn
    have g2 := (o2.2 _ n1).trans g1
    simp -implicitDefEqProofs (disch := first | assumption | (simp only [wnA]; done) | (simp only [wnA]; omega) | omega | fail) [wkA, retV, stabOk, dC, ev, fillD, pickCells, putAt, bnd, slD, List.getElem?_cons_zero, List.getElem?_cons_succ, dR_sl, Mem.cell, Mem.row, wmA]
    refine SK_stv (i := m.next) (o := 0) (vs := nodC k a b c d s) (cs := nod0) (e := 76) (by simp [wkA, retV, stabOk, dC, ev, fillD, pickCells, putAt, bnd, slD, List.getElem?_cons_zero, List.getElem?_cons_succ, dR_sl]) g2 (by simp [wkA, retV, stabOk, dC, ev, fillD, pickCells, putAt, bnd, slD, List.getElem?_cons_zero, List.getElem?_cons_succ, dR_sl]) (by simp [nod0]) rfl (by simp only [nodC, List.all_cons, List.all_nil, hs1]; rfl) ?_
    simp -implicitDefEqProofs (disch := first | assumption | (simp only [wnA]; done) | (simp only [wnA]; omega) | omega | fail) [wkA, retV, stabOk, dC, ev, fillD, pickCells, putAt, bnd, slD, List.getElem?_cons_zero, List.getElem?_cons_succ, dR_sl, Mem.cell, Mem.row, wmA]
    refine bod_ret (i := m.next) (ns' := []) hq ((o1.trans o2).set (Nat.le_refl _) _) (t := [97]) (SafeL.cons (by decide) (fun x hx => by cases hx)) (by simp; omega) (by simp) (by simp) (v' := .slice none 0 0) (by simp) (by rw [Mem.set_same]; rfl) ⟨hs1, hs2⟩ ⟨rfl, .inl ⟨rfl, .inl rfl⟩⟩ (fun b hb => by cases hb) (Nat.le_refl _)
  | cons x ns =>
    have hsl := hv.slen
    obtain ⟨bi, bo, L, hvv, hL, hLl, -, hLc⟩ := hv.at (j := 0) (by simp)
    have hc := hLc 0 (by omega)
    obtain ⟨v', sl1, sv', sb'⟩ := hv.behind (k := 1) (by simp)
    simp only [List.map_cons, List.length_cons, Nat.zero_mul, Nat.add_zero, List.getElem?_cons_zero] at hc hvv hsl
    have hs0 : sidx 1 v (.int .i64 0) = some (.pointer (some ⟨bi, bo, none⟩)) := by
      have := sidx_at (b := bi) (o := bo) (n := ns.length + 1) (c := 1) (j := 0) (sz := 1) (k := .i64) (by omega)
      simpa [hvv] using this
    have sl2 : slW 1 v (some (.int .i64 1)) none = some v' := by simpa using sl1
    have sv2 : SlR m 1 v' (ns.map byteV) ns.length := by simpa using sv'
    have hbi : bi < m.next := hvb bi (by rw [hvv]; rfl)
    have hL1 : (m1.get bi).cells? = some L := by rw [o1.2 bi hbi]; exact hL
    have hne : ((ns.length : Int) + 1 == 0) = false := beqF (by omega)
    have hcb : L[bo]? = some (.int .u8 (x.toNat : Int)) := hc
    have hbs : BS m m1 v v' (x :: ns) ns := ⟨o1, n1, g1, sv2.keep fun b hb => o1.2 b (hvb b (sb' b hb)), sb', hvb, by simp⟩
    have hd0 : ¬ ((d : Int) + 1 ≤ 0) := by omega
    have r1 := rem_u8 (k := x.toNat) (b := 9) (by omega)
    have hx9 : x.toNat % 9 < 9 := Nat.mod_lt _ (by omega)
    generalize x.toNat % 9 = r at *
    have r1 : dBin .rem (.int .u8 (x.toNat : Int)) (.int .u8 9) = some (.int .u8 (r : Int)) := r1
    have hdd : IntKind.i64.wrap (d : Int) = (d : Int) := w64 (by omega)
    simp -implicitDefEqProofs (disch := first | assumption | (simp only [wnA]; done) | (simp only [wnA]; omega) | omega | fail) [rc46, rc46_18, rc46_17, wkA, retV, stabOk, dC, ev, fillD, pickCells, putAt, bnd, slD, List.getElem?_cons_zero, List.getElem?_cons_succ, dR_sl, Mem.cell, Mem.row, wmA, hsl, hm1', hne, hs0, hL1, hcb, getL hcb, sl2, r1, hd0]
    rcases (show r = 0 ∨ r = 1 ∨ r = 2 ∨ r = 3 ∨ r = 4 ∨ r = 5 ∨ r = 6 ∨ r = 7 ∨ r = 8 by omega) with rfl | rfl | rfl | rfl | rfl | rfl | rfl | rfl | rfl
    · simp -implicitDefEqProofs (disch := first | assumption | (simp only [wnA]; done) | (simp only [wnA]; omega) | omega | fail) [rc46_15, rc46_14, wkA, retV, stabOk, dC, ev, fillD, pickCells, putAt, bnd, slD, List.getElem?_cons_zero, List.getElem?_cons_succ, dR_sl, Mem.cell, Mem.row, wmA, hdd]
      refine IH w0 m1 v' ns _ hbs.sv (fun b hb => by have := hvb b (sb' b hb); omega) (by have : (x :: ns).length ≤ maxLen := hl; simp at this; omega) ?_
      intro m2 t nd v2 ns2 o2 ht htl hnd sv2' sb2 hn2
      obtain ⟨k, a, b, c, e, s, rfl, hs1, hs2⟩ := hnd
      have hbs2 : BS m m2 v v2 (x :: ns) ns2 := ⟨o1.trans o2, Nat.lt_of_lt_of_le n1 o2.1, (o2.2 _ n1).trans g1, sv2', fun b hb => sb' b (sb2 b hb), hvb, by simp; omega⟩
      simp -implicitDefEqProofs (disch := first | assumption | (simp only [wnA]; done) | (simp only [wnA]; omega) | omega | fail) [wkA, retV, stabOk, dC, ev, fillD, pickCells, putAt, bnd, slD, List.getElem?_cons_zero, List.getElem?_cons_succ, dR_sl, Mem.cell, Mem.row, wmA]
      obtain ⟨M3, hM3⟩ : ∃ M, (m2.push (.own nod0 76)).set m2.next (.own (nodC k a b c e s) 76) = M := ⟨_, rfl⟩
      refine SK_stm (i := m2.next) (o := 0) (vs := nodC k a b c e s) (cs := nod0) (e := 76) (M := M3) (by simp [wkA, retV, stabOk, dC, ev, fillD, pickCells, putAt, bnd, slD, List.getElem?_cons_zero, List.getElem?_cons_succ, dR_sl]) (by simp -implicitDefEqProofs (disch := first | assumption | (simp only [wnA]; done) | (simp only [wnA]; omega) | omega | fail) [wkA, retV, stabOk, dC, ev, fillD, pickCells, putAt, bnd, slD, List.getElem?_cons_zero, List.getElem?_cons_succ, dR_sl, Mem.cell, Mem.row, wmA, nod0]) (by simp [wkA, retV, stabOk, dC, ev, fillD, pickCells, putAt, bnd, slD, List.getElem?_cons_zero, List.getElem?_cons_succ, dR_sl]) (by simp [nod0]) rfl (by simp only [nodC, List.all_cons, List.all_nil, hs1]; rfl) hM3 ?_
      have o3 : Old m2 M3 := by subst hM3; exact ((Old.refl m2).push _).set (Nat.le_refl _) _
      have g3 : M3.get m2.next = .own (nodC k a b c e s) 76 := by subst hM3; rw [Mem.set_same]
      have hlt3 : m2.next + 1 ≤ M3.next := by subst hM3; simp
      clear hM3
      have hbs3 := hbs2.old o3
      simp -implicitDefEqProofs (disch := first | assumption | (simp only [wnA]; done) | (simp only [wnA]; omega) | omega | fail) [wkA, retV, stabOk, dC, ev, fillD, pickCells, putAt, bnd, slD, List.getElem?_cons_zero, List.getElem?_cons_succ, dR_sl, Mem.cell, Mem.row, wmA, hdd]
      refine IH w0 M3 v2 ns2 _ hbs3.sv (fun b hb => by have := hvb b (hbs3.b b hb); have := hbs3.n; omega) (by have : (x :: ns).length ≤ maxLen := hl; simp at this; omega) ?_
      intro m4 t2 nd2 v4 ns4 o4 ht2 htl2 hnd2 sv4' sb4 hn4
      obtain ⟨k2, a2, b2, c2, e2, s2, rfl, hs3, hs4⟩ := hnd2
      have hbs4 : BS m m4 v v4 (x :: ns) ns4 := ⟨hbs3.o.trans o4, Nat.lt_of_lt_of_le hbs3.n o4.1, (o4.2 _ hbs3.n).trans hbs3.g, sv4', fun b hb => hbs3.b b (sb4 b hb), hvb, by simp; omega⟩
      have n3 : m2.next < M3.next := Nat.lt_of_lt_of_le (Nat.lt_succ_self _) hlt3
      have g4 := (o4.2 _ n3).trans g3
      have n4 : m2.next < m4.next := Nat.lt_of_lt_of_le n3 o4.1
      simp -implicitDefEqProofs (disch := first | assumption | (simp only [wnA]; done) | (simp only [wnA]; omega) | omega | fail) [wkA, retV, stabOk, dC, ev, fillD, pickCells, putAt, bnd, slD, List.getElem?_cons_zero, List.getElem?_cons_succ, dR_sl, Mem.cell, Mem.row, wmA]
      obtain ⟨M5, hM5⟩ : ∃ M, (m4.push (.own nod0 76)).set m4.next (.own (nodC k2 a2 b2 c2 e2 s2) 76) = M := ⟨_, rfl⟩
      refine SK_stm (i := m4.next) (o := 0) (vs := nodC k2 a2 b2 c2 e2 s2) (cs := nod0) (e := 76) (M := M5) (by simp [wkA, retV, stabOk, dC, ev, fillD, pickCells, putAt, bnd, slD, List.getElem?_cons_zero, List.getElem?_cons_succ, dR_sl]) (by simp -implicitDefEqProofs (disch := first | assumption | (simp only [wnA]; done) | (simp only [wnA]; omega) | omega | fail) [wkA, retV, stabOk, dC, ev, fillD, pickCells, putAt, bnd, slD, List.getElem?_cons_zero, List.getElem?_cons_succ, dR_sl, Mem.cell, Mem.row, wmA, nod0]) (by simp [wkA, retV, stabOk, dC, ev, fillD, pickCells, putAt, bnd, slD, List.getElem?_cons_zero, List.getElem?_cons_succ, dR_sl]) (by simp [nod0]) rfl (by simp only [nodC, List.all_cons, List.all_nil, hs3]; rfl) hM5 ?_
      have o5 : Old m4 M5 := by subst hM5; exact ((Old.refl m4).push _).set (Nat.le_refl _) _
      have g5 : M5.get m4.next = .own (nodC k2 a2 b2 c2 e2 s2) 76 := by subst hM5; rw [Mem.set_same]
      have g5' := (o5.2 _ n4).trans g4
      have hlt5 : m4.next + 1 ≤ M5.next := by subst hM5; simp
      clear hM5
      have hbs5 := hbs4.old o5
      simp -implicitDefEqProofs (disch := first | assumption | (simp only [wnA]; done) | (simp only [wnA]; omega) | omega | fail) [wkA, retV, stabOk, dC, ev, fillD, pickCells, putAt, bnd, slD, List.getElem?_cons_zero, List.getElem?_cons_succ, dR_sl, Mem.cell, Mem.row, wmA]
      refine AbW_sem_of ?_
      simp only [nodC] at g5 g5'
      simp -implicitDefEqProofs (disch := first | assumption | (simp only [wnA]; done) | (simp only [wnA]; omega) | omega | (simp only [List.length_append, List.length_cons, List.length_nil]; omega) | fail) [rc46_2, rc46_3, wkA, retV, stabOk, dC, ev, fillD, pickCells, putAt, bnd, slD, List.getElem?_cons_zero, List.getElem?_cons_succ, dR_sl, Mem.cell, Mem.row, wmA, g5, g5', cat2]
      constructor
      all_goals
        rw [SK_bsl (cs := nodC k a b c e s ++ nodC k2 a2 b2 c2 e2 s2) (by simp [wkA, retV, stabOk, dC, ev, fillD, pickCells, putAt, bnd, slD, List.getElem?_cons_zero, List.getElem?_cons_succ, dR_sl, nodC]) (by simp [nodC])]
        obtain ⟨M6, hM6⟩ : ∃ M, M5.push (.own (nodC k a b c e s ++ nodC k2 a2 b2 c2 e2 s2) 76) = M := ⟨_, rfl⟩
        have o6 : Old M5 M6 := by subst hM6; exact (Old.refl M5).push _
        have n5 : m4.next < M5.next := Nat.lt_of_lt_of_le (Nat.lt_succ_self _) hlt5
        have g6 := (o6.2 _ n5).trans g5
        have g6' := (o6.2 _ (Nat.lt_of_lt_of_le n4 o5.1)).trans g5'
        rw [hM6]
        have hbs6 := hbs5.old o6
        simp -implicitDefEqProofs (disch := first | assumption | (simp only [wnA]; done) | (simp only [wnA]; omega) | omega | (simp only [List.length_append, List.length_cons, List.length_nil]; omega) | fail) [wkA, retV, stabOk, dC, ev, fillD, pickCells, putAt, bnd, slD, List.getElem?_cons_zero, List.getElem?_cons_succ, dR_sl, Mem.cell, Mem.row, wmA, g6, g6', cat2]
        refine SK_stv (i := m.next) (o := 0) (vs := nodC 2 0 0 0 0 (.slice (some ⟨M5.next, 0, none⟩) 2 6)) (cs := nod0) (e := 76) (by simp [wkA, retV, stabOk, dC, ev, fillD, pickCells, putAt, bnd, slD, List.getElem?_cons_zero, List.getElem?_cons_succ, dR_sl]) hbs6.g (by simp [wkA, retV, stabOk, dC, ev, fillD, pickCells, putAt, bnd, slD, List.getElem?_cons_zero, List.getElem?_cons_succ, dR_sl, nodC]) (by simp [nod0]) rfl rfl ?_
        simp -implicitDefEqProofs (disch := first | assumption | (simp only [wnA]; done) | (simp only [wnA]; omega) | omega | (simp only [List.length_append, List.length_cons, List.length_nil]; omega) | fail) [wkA, retV, stabOk, dC, ev, fillD, pickCells, putAt, bnd, slD, List.getElem?_cons_zero, List.getElem?_cons_succ, dR_sl, Mem.cell, Mem.row, wmA]
        exact hbs6.ret (t := 40 :: (t ++ ([41, 40] ++ (t2 ++ [41])))) hq (SafeL.cons (by decide) (ht.app (SafeL.app (SafeL.cons (by decide) (SafeL.cons (by decide) (fun x hx => by cases hx))) (ht2.app (SafeL.cons (by decide) (fun x hx => by cases hx)))))) (by simp; omega) ⟨rfl, rfl⟩ (by simp) (by simp) (by simp)
    · simp -implicitDefEqProofs (disch := first | assumption | (simp only [wnA]; done) | (simp only [wnA]; omega) | omega | fail) [rc46_15, rc46_14, wkA, retV, stabOk, dC, ev, fillD, pickCells, putAt, bnd, slD, List.getElem?_cons_zero, List.getElem?_cons_succ, dR_sl, Mem.cell, Mem.row, wmA, hdd]
      refine IH w0 m1 v' ns _ hbs.sv (fun b hb => by have := hvb b (sb' b hb); omega) (by have : (x :: ns).length ≤ maxLen := hl; simp at this; omega) ?_
      intro m2 t nd v2 ns2 o2 ht htl hnd sv2' sb2 hn2
      obtain ⟨k, a, b, c, e, s, rfl, hs1, hs2⟩ := hnd
      have hbs2 : BS m m2 v v2 (x :: ns) ns2 := ⟨o1.trans o2, Nat.lt_of_lt_of_le n1 o2.1, (o2.2 _ n1).trans g1, sv2', fun b hb => sb' b (sb2 b hb), hvb, by simp; omega⟩
      simp -implicitDefEqProofs (disch := first | assumption | (simp only [wnA]; done) | (simp only [wnA]; omega) | omega | fail) [wkA, retV, stabOk, dC, ev, fillD, pickCells, putAt, bnd, slD, List.getElem?_cons_zero, List.getElem?_cons_succ, dR_sl, Mem.cell, Mem.row, wmA]
      obtain ⟨M3, hM3⟩ : ∃ M, (m2.push (.own nod0 76)).set m2.next (.own (nodC k a b c e s) 76) = M := ⟨_, rfl⟩
      refine SK_stm (i := m2.next) (o := 0) (vs := nodC k a b c e s) (cs := nod0) (e := 76) (M := M3) (by simp [wkA, retV, stabOk, dC, ev, fillD, pickCells, putAt, bnd, slD, List.getElem?_cons_zero, List.getElem?_cons_succ, dR_sl]) (by simp -implicitDefEqProofs (disch := first | assumption | (simp only [wnA]; done) | (simp only [wnA]; omega) | omega | fail) [wkA, retV, stabOk, dC, ev, fillD, pickCells, putAt, bnd, slD, List.getElem?_cons_zero, List.getElem?_cons_succ, dR_sl, Mem.cell, Mem.row, wmA, nod0]) (by simp [wkA, retV, stabOk, dC, ev, fillD, pickCells, putAt, bnd, slD, List.getElem?_cons_zero, List.getElem?_cons_succ, dR_sl]) (by simp [nod0]) rfl (by simp only [nodC, List.all_cons, List.all_nil, hs1]; rfl) hM3 ?_
      have o3 : Old m2 M3 := by subst hM3; exact ((Old.refl m2).push _).set (Nat.le_refl _) _
      have g3 : M3.get m2.next = .own (nodC k a b c e s) 76 := by subst hM3; rw [Mem.set_same]
      have hlt3 : m2.next + 1 ≤ M3.next := by subst hM3; simp
      clear hM3
      have hbs3 := hbs2.old o3
      simp -implicitDefEqProofs (disch := first | assumption | (simp only [wnA]; done) | (simp only [wnA]; omega) | omega | fail) [wkA, retV, stabOk, dC, ev, fillD, pickCells, putAt, bnd, slD, List.getElem?_cons_zero, List.getElem?_cons_succ, dR_sl, Mem.cell, Mem.row, wmA, hdd]
      refine IH w0 M3 v2 ns2 _ hbs3.sv (fun b hb => by have := hvb b (hbs3.b b hb); have := hbs3.n; omega) (by have : (x :: ns).length ≤ maxLen := hl; simp at this; omega) ?_
      intro m4 t2 nd2 v4 ns4 o4 ht2 htl2 hnd2 sv4' sb4 hn4
      obtain ⟨k2, a2, b2, c2, e2, s2, rfl, hs3, hs4⟩ := hnd2
      have hbs4 : BS m m4 v v4 (x :: ns) ns4 := ⟨hbs3.o.trans o4, Nat.lt_of_lt_of_le hbs3.n o4.1, (o4.2 _ hbs3.n).trans hbs3.g, sv4', fun b hb => hbs3.b b (sb4 b hb), hvb, by simp; omega⟩
      have n3 : m2.next < M3.next := Nat.lt_of_lt_of_le (Nat.lt_succ_self _) hlt3
      have g4 := (o4.2 _ n3).trans g3
      have n4 : m2.next < m4.next := Nat.lt_of_lt_of_le n3 o4.1
      simp -implicitDefEqProofs (disch := first | assumption | (simp only [wnA]; done) | (simp only [wnA]; omega) | omega | fail) [wkA, retV, stabOk, dC, ev, fillD, pickCells, putAt, bnd, slD, List.getElem?_cons_zero, List.getElem?_cons_succ, dR_sl, Mem.cell, Mem.row, wmA]
      obtain ⟨M5, hM5⟩ : ∃ M, (m4.push (.own nod0 76)).set m4.next (.own (nodC k2 a2 b2 c2 e2 s2) 76) = M := ⟨_, rfl⟩
      refine SK_stm (i := m4.next) (o := 0) (vs := nodC k2 a2 b2 c2 e2 s2) (cs := nod0) (e := 76) (M := M5) (by simp [wkA, retV, stabOk, dC, ev, fillD, pickCells, putAt, bnd, slD, List.getElem?_cons_zero, List.getElem?_cons_succ, dR_sl]) (by simp -implicitDefEqProofs (disch := first | assumption | (simp only [wnA]; done) | (simp only [wnA]; omega) | omega | fail) [wkA, retV, stabOk, dC, ev, fillD, pickCells, putAt, bnd, slD, List.getElem?_cons_zero, List.getElem?_cons_succ, dR_sl, Mem.cell, Mem.row, wmA, nod0]) (by simp [wkA, retV, stabOk, dC, ev, fillD, pickCells, putAt, bnd, slD, List.getElem?_cons_zero, List.getElem?_cons_succ, dR_sl]) (by simp [nod0]) rfl (by simp only [nodC, List.all_cons, List.all_nil, hs3]; rfl) hM5 ?_
      have o5 : Old m4 M5 := by subst hM5; exact ((Old.refl m4).push _).set (Nat.le_refl _) _
      have g5 : M5.get m4.next = .own (nodC k2 a2 b2 c2 e2 s2) 76 := by subst hM5; rw [Mem.set_same]
      have g5' := (o5.2 _ n4).trans g4
      have hlt5 : m4.next + 1 ≤ M5.next := by subst hM5; simp
      clear hM5
      have hbs5 := hbs4.old o5
      simp -implicitDefEqProofs (disch := first | assumption | (simp only [wnA]; done) | (simp only [wnA]; omega) | omega | fail) [wkA, retV, stabOk, dC, ev, fillD, pickCells, putAt, bnd, slD, List.getElem?_cons_zero, List.getElem?_cons_succ, dR_sl, Mem.cell, Mem.row, wmA]
      refine AbW_sem_of ?_
      simp only [nodC] at g5 g5'
      simp -implicitDefEqProofs (disch := first | assumption | (simp only [wnA]; done) | (simp only [wnA]; omega) | omega | (simp only [List.length_append, List.length_cons, List.length_nil]; omega) | fail) [rc46_2, rc46_3, wkA, retV, stabOk, dC, ev, fillD, pickCells, putAt, bnd, slD, List.getElem?_cons_zero, List.getElem?_cons_succ, dR_sl, Mem.cell, Mem.row, wmA, g5, g5', cat2]
      constructor
      all_goals
        rw [SK_bsl (cs := nodC k a b c e s ++ nodC k2 a2 b2 c2 e2 s2) (by simp [wkA, retV, stabOk, dC, ev, fillD, pickCells, putAt, bnd, slD, List.getElem?_cons_zero, List.getElem?_cons_succ, dR_sl, nodC]) (by simp [nodC])]
        obtain ⟨M6, hM6⟩ : ∃ M, M5.push (.own (nodC k a b c e s ++ nodC k2 a2 b2 c2 e2 s2) 76) = M := ⟨_, rfl⟩
        have o6 : Old M5 M6 := by subst hM6; exact (Old.refl M5).push _
        have n5 : m4.next < M5.next := Nat.lt_of_lt_of_le (Nat.lt_succ_self _) hlt5
        have g6 := (o6.2 _ n5).trans g5
        have g6' := (o6.2 _ (Nat.lt_of_lt_of_le n4 o5.1)).trans g5'
        rw [hM6]
        have hbs6 := hbs5.old o6
        simp -implicitDefEqProofs (disch := first | assumption | (simp only [wnA]; done) | (simp only [wnA]; omega) | omega | (simp only [List.length_append, List.length_cons, List.length_nil]; omega) | fail) [wkA, retV, stabOk, dC, ev, fillD, pickCells, putAt, bnd, slD, List.getElem?_cons_zero, List.getElem?_cons_succ, dR_sl, Mem.cell, Mem.row, wmA, g6, g6', cat2]
        refine SK_stv (i := m.next) (o := 0) (vs := nodC 2 0 0 0 0 (.slice (some ⟨M5.next, 0, none⟩) 2 6)) (cs := nod0) (e := 76) (by simp [wkA, retV, stabOk, dC, ev, fillD, pickCells, putAt, bnd, slD, List.getElem?_cons_zero, List.getElem?_cons_succ, dR_sl]) hbs6.g (by simp [wkA, retV, stabOk, dC, ev, fillD, pickCells, putAt, bnd, slD, List.getElem?_cons_zero, List.getElem?_cons_succ, dR_sl, nodC]) (by simp [nod0]) rfl rfl ?_
        simp -implicitDefEqProofs (disch := first | assumption | (simp only [wnA]; done) | (simp only [wnA]; omega) | omega | (simp only [List.length_append, List.length_cons, List.length_nil]; omega) | fail) [wkA, retV, stabOk, dC, ev, fillD, pickCells, putAt, bnd, slD, List.getElem?_cons_zero, List.getElem?_cons_succ, dR_sl, Mem.cell, Mem.row, wmA]
        exact hbs6.ret (t := 40 :: (t ++ ([41, 40] ++ (t2 ++ [41])))) hq (SafeL.cons (by decide) (ht.app (SafeL.app (SafeL.cons (by decide) (SafeL.cons (by decide) (fun x hx => by cases hx))) (ht2.app (SafeL.cons (by decide) (fun x hx => by cases hx)))))) (by simp; omega) ⟨rfl, rfl⟩ (by simp) (by simp) (by simp)
    · simp -implicitDefEqProofs (disch := first | assumption | (simp only [wnA]; done) | (simp only [wnA]; omega) | omega | fail) [rc46_15, rc46_14, wkA, retV, stabOk, dC, ev, fillD, pickCells, putAt, bnd, slD, List.getElem?_cons_zero, List.getElem?_cons_succ, dR_sl, Mem.cell, Mem.row, wmA, hdd]
      refine IH w0 m1 v' ns _ hbs.sv (fun b hb => by have := hvb b (sb' b hb); omega) (by have : (x :: ns).length ≤ maxLen := hl; simp at this; omega) ?_
      intro m2 t nd v2 ns2 o2 ht htl hnd sv2' sb2 hn2
      obtain ⟨k, a, b, c, e, s, rfl, hs1, hs2⟩ := hnd
      have hbs2 : BS m m2 v v2 (x :: ns) ns2 := ⟨o1.trans o2, Nat.lt_of_lt_of_le n1 o2.1, (o2.2 _ n1).trans g1, sv2', fun b hb => sb' b (sb2 b hb), hvb, by simp; omega⟩
      simp -implicitDefEqProofs (disch := first | assumption | (simp only [wnA]; done) | (simp only [wnA]; omega) | omega | fail) [wkA, retV, stabOk, dC, ev, fillD, pickCells, putAt, bnd, slD, List.getElem?_cons_zero, List.getElem?_cons_succ, dR_sl, Mem.cell, Mem.row, wmA]
      obtain ⟨M3, hM3⟩ : ∃ M, (m2.push (.own nod0 76)).set m2.next (.own (nodC k a b c e s) 76) = M := ⟨_, rfl⟩
      refine SK_stm (i := m2.next) (o := 0) (vs := nodC k a b c e s) (cs := nod0) (e := 76) (M := M3) (by simp [wkA, retV, stabOk, dC, ev, fillD, pickCells, putAt, bnd, slD, List.getElem?_cons_zero, List.getElem?_cons_succ, dR_sl]) (by simp -implicitDefEqProofs (disch := first | assumption | (simp only [wnA]; done) | (simp only [wnA]; omega) | omega | fail) [wkA, retV, stabOk, dC, ev, fillD, pickCells, putAt, bnd, slD, List.getElem?_cons_zero, List.getElem?_cons_succ, dR_sl, Mem.cell, Mem.row, wmA, nod0]) (by simp [wkA, retV, stabOk, dC, ev, fillD, pickCells, putAt, bnd, slD, List.getElem?_cons_zero, List.getElem?_cons_succ, dR_sl]) (by simp [nod0]) rfl (by simp only [nodC, List.all_cons, List.all_nil, hs1]; rfl) hM3 ?_
      have o3 : Old m2 M3 := by subst hM3; exact ((Old.refl m2).push _).set (Nat.le_refl _) _
      have g3 : M3.get m2.next = .own (nodC k a b c e s) 76 := by subst hM3; rw [Mem.set_same]
      have hlt3 : m2.next + 1 ≤ M3.next := by subst hM3; simp
      clear hM3
      have hbs3 := hbs2.old o3
      simp -implicitDefEqProofs (disch := first | assumption | (simp only [wnA]; done) | (simp only [wnA]; omega) | omega | fail) [wkA, retV, stabOk, dC, ev, fillD, pickCells, putAt, bnd, slD, List.getElem?_cons_zero, List.getElem?_cons_succ, dR_sl, Mem.cell, Mem.row, wmA, hdd]
      refine IH w0 M3 v2 ns2 _ hbs3.sv (fun b hb => by have := hvb b (hbs3.b b hb); have := hbs3.n; omega) (by have : (x :: ns).length ≤ maxLen := hl; simp at this; omega) ?_
      intro m4 t2 nd2 v4 ns4 o4 ht2 htl2 hnd2 sv4' sb4 hn4
      obtain ⟨k2, a2, b2, c2, e2, s2, rfl, hs3, hs4⟩ := hnd2
      have hbs4 : BS m m4 v v4 (x :: ns) ns4 := ⟨hbs3.o.trans o4, Nat.lt_of_lt_of_le hbs3.n o4.1, (o4.2 _ hbs3.n).trans hbs3.g, sv4', fun b hb => hbs3.b b (sb4 b hb), hvb, by simp; omega⟩
      have n3 : m2.next < M3.next := Nat.lt_of_lt_of_le (Nat.lt_succ_self _) hlt3
      have g4 := (o4.2 _ n3).trans g3
      have n4 : m2.next < m4.next := Nat.lt_of_lt_of_le n3 o4.1
      simp -implicitDefEqProofs (disch := first | assumption | (simp only [wnA]; done) | (simp only [wnA]; omega) | omega | fail) [wkA, retV, stabOk, dC, ev, fillD, pickCells, putAt, bnd, slD, List.getElem?_cons_zero, List.getElem?_cons_succ, dR_sl, Mem.cell, Mem.row, wmA]
      obtain ⟨M5, hM5⟩ : ∃ M, (m4.push (.own nod0 76)).set m4.next (.own (nodC k2 a2 b2 c2 e2 s2) 76) = M := ⟨_, rfl⟩
      refine SK_stm (i := m4.next) (o := 0) (vs := nodC k2 a2 b2 c2 e2 s2) (cs := nod0) (e := 76) (M := M5) (by simp [wkA, retV, stabOk, dC, ev, fillD, pickCells, putAt, bnd, slD, List.getElem?_cons_zero, List.getElem?_cons_succ, dR_sl]) (by simp -implicitDefEqProofs (disch := first | assumption | (simp only [wnA]; done) | (simp only [wnA]; omega) | omega | fail) [wkA, retV, stabOk, dC, ev, fillD, pickCells, putAt, bnd, slD, List.getElem?_cons_zero, List.getElem?_cons_succ, dR_sl, Mem.cell, Mem.row, wmA, nod0]) (by simp [wkA, retV, stabOk, dC, ev, fillD, pickCells, putAt, bnd, slD, List.getElem?_cons_zero, List.getElem?_cons_succ, dR_sl]) (by simp [nod0]) rfl (by simp only [nodC, List.all_cons, List.all_nil, hs3]; rfl) hM5 ?_
      have o5 : Old m4 M5 := by subst hM5; exact ((Old.refl m4).push _).set (Nat.le_refl _) _
      have g5 : M5.get m4.next = .own (nodC k2 a2 b2 c2 e2 s2) 76 := by subst hM5; rw [Mem.set_same]
      have g5' := (o5.2 _ n4).trans g4
      have hlt5 : m4.next + 1 ≤ M5.next := by subst hM5; simp
      clear hM5
      have hbs5 := hbs4.old o5
      simp -implicitDefEqProofs (disch := first | assumption | (simp only [wnA]; done) | (simp only [wnA]; omega) | omega | fail) [wkA, retV, stabOk, dC, ev, fillD, pickCells, putAt, bnd, slD, List.getElem?_cons_zero, List.getElem?_cons_succ, dR_sl, Mem.cell, Mem.row, wmA]
      refine AbW_sem_of ?_
      simp only [nodC] at g5 g5'
      simp -implicitDefEqProofs (disch := first | assumption | (simp only [wnA]; done) | (simp only [wnA]; omega) | omega | (simp only [List.length_append, List.length_cons, List.length_nil]; omega) | fail) [rc46_4, rc46_5, wkA, retV, stabOk, dC, ev, fillD, pickCells, putAt, bnd, slD, List.getElem?_cons_zero, List.getElem?_cons_succ, dR_sl, Mem.cell, Mem.row, wmA, g5, g5', cat2]
      constructor
      all_goals
        rw [SK_bsl (cs := nodC k a b c e s ++ nodC k2 a2 b2 c2 e2 s2) (by simp [wkA, retV, stabOk, dC, ev, fillD, pickCells, putAt, bnd, slD, List.getElem?_cons_zero, List.getElem?_cons_succ, dR_sl, nodC]) (by simp [nodC])]
        obtain ⟨M6, hM6⟩ : ∃ M, M5.push (.own (nodC k a b c e s ++ nodC k2 a2 b2 c2 e2 s2) 76) = M := ⟨_, rfl⟩
        have o6 : Old M5 M6 := by subst hM6; exact (Old.refl M5).push _
        have n5 : m4.next < M5.next := Nat.lt_of_lt_of_le (Nat.lt_succ_self _) hlt5
        have g6 := (o6.2 _ n5).trans g5
        have g6' := (o6.2 _ (Nat.lt_of_lt_of_le n4 o5.1)).trans g5'
        rw [hM6]
        have hbs6 := hbs5.old o6
        simp -implicitDefEqProofs (disch := first | assumption | (simp only [wnA]; done) | (simp only [wnA]; omega) | omega | (simp only [List.length_append, List.length_cons, List.length_nil]; omega) | fail) [wkA, retV, stabOk, dC, ev, fillD, pickCells, putAt, bnd, slD, List.getElem?_cons_zero, List.getElem?_cons_succ, dR_sl, Mem.cell, Mem.row, wmA, g6, g6', cat2]
        refine SK_stv (i := m.next) (o := 0) (vs := nodC 3 0 0 0 0 (.slice (some ⟨M5.next, 0, none⟩) 2 6)) (cs := nod0) (e := 76) (by simp [wkA, retV, stabOk, dC, ev, fillD, pickCells, putAt, bnd, slD, List.getElem?_cons_zero, List.getElem?_cons_succ, dR_sl]) hbs6.g (by simp [wkA, retV, stabOk, dC, ev, fillD, pickCells, putAt, bnd, slD, List.getElem?_cons_zero, List.getElem?_cons_succ, dR_sl, nodC]) (by simp [nod0]) rfl rfl ?_
        simp -implicitDefEqProofs (disch := first | assumption | (simp only [wnA]; done) | (simp only [wnA]; omega) | omega | (simp only [List.length_append, List.length_cons, List.length_nil]; omega) | fail) [wkA, retV, stabOk, dC, ev, fillD, pickCells, putAt, bnd, slD, List.getElem?_cons_zero, List.getElem?_cons_succ, dR_sl, Mem.cell, Mem.row, wmA]
        exact hbs6.ret (t := 40 :: (t ++ ([124, 40] ++ (t2 ++ [41, 41])))) hq (SafeL.cons (by decide) (ht.app (SafeL.app (SafeL.cons (by decide) (SafeL.cons (by decide) (fun x hx => by cases hx))) (ht2.app (SafeL.cons (by decide) (SafeL.cons (by decide) (fun x hx => by cases hx))))))) (by simp; omega) ⟨rfl, rfl⟩ (by simp) (by simp) (by simp)
    · simp -implicitDefEqProofs (disch := first | assumption | (simp only [wnA]; done) | (simp only [wnA]; omega) | omega | fail) [rc46_15, rc46_14, wkA, retV, stabOk, dC, ev, fillD, pickCells, putAt, bnd, slD, List.getElem?_cons_zero, List.getElem?_cons_succ, dR_sl, Mem.cell, Mem.row, wmA, hdd]
      refine IH w0 m1 v' ns _ hbs.sv (fun b hb => by have := hvb b (sb' b hb); omega) (by have : (x :: ns).length ≤ maxLen := hl; simp at this; omega) ?_
      intro m2 t nd v2 ns2 o2 ht htl hnd sv2' sb2 hn2
      obtain ⟨k, a, b, c, e, s, rfl, hs1, hs2⟩ := hnd
      have hbs2 : BS m m2 v v2 (x :: ns) ns2 := ⟨o1.trans o2, Nat.lt_of_lt_of_le n1 o2.1, (o2.2 _ n1).trans g1, sv2', fun b hb => sb' b (sb2 b hb), hvb, by simp; omega⟩
      simp -implicitDefEqProofs (disch := first | assumption | (simp only [wnA]; done) | (simp only [wnA]; omega) | omega | fail) [wkA, retV, stabOk, dC, ev, fillD, pickCells, putAt, bnd, slD, List.getElem?_cons_zero, List.getElem?_cons_succ, dR_sl, Mem.cell, Mem.row, wmA]
      obtain ⟨M3, hM3⟩ : ∃ M, (m2.push (.own nod0 76)).set m2.next (.own (nodC k a b c e s) 76) = M := ⟨_, rfl⟩
      refine SK_stm (i := m2.next) (o := 0) (vs := nodC k a b c e s) (cs := nod0) (e := 76) (M := M3) (by simp [wkA, retV, stabOk, dC, ev, fillD, pickCells, putAt, bnd, slD, List.getElem?_cons_zero, List.getElem?_cons_succ, dR_sl]) (by simp -implicitDefEqProofs (disch := first | assumption | (simp only [wnA]; done) | (simp only [wnA]; omega) | omega | fail) [wkA, retV, stabOk, dC, ev, fillD, pickCells, putAt, bnd, slD, List.getElem?_cons_zero, List.getElem?_cons_succ, dR_sl, Mem.cell, Mem.row, wmA, nod0]) (by simp [wkA, retV, stabOk, dC, ev, fillD, pickCells, putAt, bnd, slD, List.getElem?_cons_zero, List.getElem?_cons_succ, dR_sl]) (by simp [nod0]) rfl (by simp only [nodC, List.all_cons, List.all_nil, hs1]; rfl) hM3 ?_
      have o3 : Old m2 M3 := by subst hM3; exact ((Old.refl m2).push _).set (Nat.le_refl _) _
      have g3 : M3.get m2.next = .own (nodC k a b c e s) 76 := by subst hM3; rw [Mem.set_same]
      have hlt3 : m2.next + 1 ≤ M3.next := by subst hM3; simp
      clear hM3
      have hbs3 := hbs2.old o3
      simp -implicitDefEqProofs (disch := first | assumption | (simp only [wnA]; done) | (simp only [wnA]; omega) | omega | fail) [wkA, retV, stabOk, dC, ev, fillD, pickCells, putAt, bnd, slD, List.getElem?_cons_zero, List.getElem?_cons_succ, dR_sl, Mem.cell, Mem.row, wmA, hdd]
      refine IH w0 M3 v2 ns2 _ hbs3.sv (fun b hb => by have := hvb b (hbs3.b b hb); have := hbs3.n; omega) (by have : (x :: ns).length ≤ maxLen := hl; simp at this; omega) ?_
      intro m4 t2 nd2 v4 ns4 o4 ht2 htl2 hnd2 sv4' sb4 hn4
      obtain ⟨k2, a2, b2, c2, e2, s2, rfl, hs3, hs4⟩ := hnd2
      have hbs4 : BS m m4 v v4 (x :: ns) ns4 := ⟨hbs3.o.trans o4, Nat.lt_of_lt_of_le hbs3.n o4.1, (o4.2 _ hbs3.n).trans hbs3.g, sv4', fun b hb => hbs3.b b (sb4 b hb), hvb, by simp; omega⟩
      have n3 : m2.next < M3.next := Nat.lt_of_lt_of_le (Nat.lt_succ_self _) hlt3
      have g4 := (o4.2 _ n3).trans g3
      have n4 : m2.next < m4.next := Nat.lt_of_lt_of_le n3 o4.1
      simp -implicitDefEqProofs (disch := first | assumption | (simp only [wnA]; done) | (simp only [wnA]; omega) | omega | fail) [wkA, retV, stabOk, dC, ev, fillD, pickCells, putAt, bnd, slD, List.getElem?_cons_zero, List.getElem?_cons_succ, dR_sl, Mem.cell, Mem.row, wmA]
      obtain ⟨M5, hM5⟩ : ∃ M, (m4.push (.own nod0 76)).set m4.next (.own (nodC k2 a2 b2 c2 e2 s2) 76) = M := ⟨_, rfl⟩
      refine SK_stm (i := m4.next) (o := 0) (vs := nodC k2 a2 b2 c2 e2 s2) (cs := nod0) (e := 76) (M := M5) (by simp [wkA, retV, stabOk, dC, ev, fillD, pickCells, putAt, bnd, slD, List.getElem?_cons_zero, List.getElem?_cons_succ, dR_sl]) (by simp -implicitDefEqProofs (disch := first | assumption | (simp only [wnA]; done) | (simp only [wnA]; omega) | omega | fail) [wkA, retV, stabOk, dC, ev, fillD, pickCells, putAt, bnd, slD, List.getElem?_cons_zero, List.getElem?_cons_succ, dR_sl, Mem.cell, Mem.row, wmA, nod0]) (by simp [wkA, retV, stabOk, dC, ev, fillD, pickCells, putAt, bnd, slD, List.getElem?_cons_zero, List.getElem?_cons_succ, dR_sl]) (by simp [nod0]) rfl (by simp only [nodC, List.all_cons, List.all_nil, hs3]; rfl) hM5 ?_
      have o5 : Old m4 M5 := by subst hM5; exact ((Old.refl m4).push _).set (Nat.le_refl _) _
      have g5 : M5.get m4.next = .own (nodC k2 a2 b2 c2 e2 s2) 76 := by subst hM5; rw [Mem.set_same]
      have g5' := (o5.2 _ n4).trans g4
      have hlt5 : m4.next + 1 ≤ M5.next := by subst hM5; simp
      clear hM5
      have hbs5 := hbs4.old o5
      simp -implicitDefEqProofs (disch := first | assumption | (simp only [wnA]; done) | (simp only [wnA]; omega) | omega | fail) [wkA, retV, stabOk, dC, ev, fillD, pickCells, putAt, bnd, slD, List.getElem?_cons_zero, List.getElem?_cons_succ, dR_sl, Mem.cell, Mem.row, wmA]
      refine AbW_sem_of ?_
      simp only [nodC] at g5 g5'
      simp -implicitDefEqProofs (disch := first | assumption | (simp only [wnA]; done) | (simp only [wnA]; omega) | omega | (simp only [List.length_append, List.length_cons, List.length_nil]; omega) | fail) [rc46_4, rc46_5, wkA, retV, stabOk, dC, ev, fillD, pickCells, putAt, bnd, slD, List.getElem?_cons_zero, List.getElem?_cons_succ, dR_sl, Mem.cell, Mem.row, wmA, g5, g5', cat2]
      constructor
      all_goals
        rw [SK_bsl (cs := nodC k a b c e s ++ nodC k2 a2 b2 c2 e2 s2) (by simp [wkA, retV, stabOk, dC, ev, fillD, pickCells, putAt, bnd, slD, List.getElem?_cons_zero, List.getElem?_cons_succ, dR_sl, nodC]) (by simp [nodC])]
        obtain ⟨M6, hM6⟩ : ∃ M, M5.push (.own (nodC k a b c e s ++ nodC k2 a2 b2 c2 e2 s2) 76) = M := ⟨_, rfl⟩
        have o6 : Old M5 M6 := by subst hM6; exact (Old.refl M5).push _
        have n5 : m4.next < M5.next := Nat.lt_of_lt_of_le (Nat.lt_succ_self _) hlt5
        have g6 := (o6.2 _ n5).trans g5
        have g6' := (o6.2 _ (Nat.lt_of_lt_of_le n4 o5.1)).trans g5'
        rw [hM6]
        have hbs6 := hbs5.old o6
        simp -implicitDefEqProofs (disch := first | assumption | (simp only [wnA]; done) | (simp only [wnA]; omega) | omega | (simp only [List.length_append, List.length_cons, List.length_nil]; omega) | fail) [wkA, retV, stabOk, dC, ev, fillD, pickCells, putAt, bnd, slD, List.getElem?_cons_zero, List.getElem?_cons_succ, dR_sl, Mem.cell, Mem.row, wmA, g6, g6', cat2]
        refine SK_stv (i := m.next) (o := 0) (vs := nodC 3 0 0 0 0 (.slice (some ⟨M5.next, 0, none⟩) 2 6)) (cs := nod0) (e := 76) (by simp [wkA, retV, stabOk, dC, ev, fillD, pickCells, putAt, bnd, slD, List.getElem?_cons_zero, List.getElem?_cons_succ, dR_sl]) hbs6.g (by simp [wkA, retV, stabOk, dC, ev, fillD, pickCells, putAt, bnd, slD, List.getElem?_cons_zero, List.getElem?_cons_succ, dR_sl, nodC]) (by simp [nod0]) rfl rfl ?_
        simp -implicitDefEqProofs (disch := first | assumption | (simp only [wnA]; done) | (simp only [wnA]; omega) | omega | (simp only [List.length_append, List.length_cons, List.length_nil]; omega) | fail) [wkA, retV, stabOk, dC, ev, fillD, pickCells, putAt, bnd, slD, List.getElem?_cons_zero, List.getElem?_cons_succ, dR_sl, Mem.cell, Mem.row, wmA]
        exact hbs6.ret (t := 40 :: (t ++ ([124, 40] ++ (t2 ++ [41, 41])))) hq (SafeL.cons (by decide) (ht.app (SafeL.app (SafeL.cons (by decide) (SafeL.cons (by decide) (fun x hx => by cases hx))) (ht2.app (SafeL.cons (by decide) (SafeL.cons (by decide) (fun x hx => by cases hx))))))) (by simp; omega) ⟨rfl, rfl⟩ (by simp) (by simp) (by simp)
    · simp -implicitDefEqProofs (disch := first | assumption | (simp only [wnA]; done) | (simp only [wnA]; omega) | omega | fail) [rc46_15, rc46_14, wkA, retV, stabOk, dC, ev, fillD, pickCells, putAt, bnd, slD, List.getElem?_cons_zero, List.getElem?_cons_succ, dR_sl, Mem.cell, Mem.row, wmA, hdd]
      refine IH w0 m1 v' ns _ hbs.sv (fun b hb => by have := hvb b (sb' b hb); omega) (by have : (x :: ns).length ≤ maxLen := hl; simp at this; omega) ?_
      intro m2 t nd v2 ns2 o2 ht htl hnd sv2' sb2 hn2
      obtain ⟨k, a, b, c, e, s, rfl, hs1, hs2⟩ := hnd
      have hbs2 : BS m m2 v v2 (x :: ns) ns2 := ⟨o1.trans o2, Nat.lt_of_lt_of_le n1 o2.1, (o2.2 _ n1).trans g1, sv2', fun b hb => sb' b (sb2 b hb), hvb, by simp; omega⟩
      simp -implicitDefEqProofs (disch := first | assumption | (simp only [wnA]; done) | (simp only [wnA]; omega) | omega | fail) [wkA, retV, stabOk, dC, ev, fillD, pickCells, putAt, bnd, slD, List.getElem?_cons_zero, List.getElem?_cons_succ, dR_sl, Mem.cell, Mem.row, wmA]
      obtain ⟨M3, hM3⟩ : ∃ M, (m2.push (.own nod0 76)).set m2.next (.own (nodC k a b c e s) 76) = M := ⟨_, rfl⟩
      refine SK_stm (i := m2.next) (o := 0) (vs := nodC k a b c e s) (cs := nod0) (e := 76) (M := M3) (by simp [wkA, retV, stabOk, dC, ev, fillD, pickCells, putAt, bnd, slD, List.getElem?_cons_zero, List.getElem?_cons_succ, dR_sl]) (by simp -implicitDefEqProofs (disch := first | assumption | (simp only [wnA]; done) | (simp only [wnA]; omega) | omega | fail) [wkA, retV, stabOk, dC, ev, fillD, pickCells, putAt, bnd, slD, List.getElem?_cons_zero, List.getElem?_cons_succ, dR_sl, Mem.cell, Mem.row, wmA, nod0]) (by simp [wkA, retV, stabOk, dC, ev, fillD, pickCells, putAt, bnd, slD, List.getElem?_cons_zero, List.getElem?_cons_succ, dR_sl]) (by simp [nod0]) rfl (by simp only [nodC, List.all_cons, List.all_nil, hs1]; rfl) hM3 ?_
      have o3 : Old m2 M3 := by subst hM3; exact ((Old.refl m2).push _).set (Nat.le_refl _) _
      have g3 : M3.get m2.next = .own (nodC k a b c e s) 76 := by subst hM3; rw [Mem.set_same]
      have hlt3 : m2.next + 1 ≤ M3.next := by subst hM3; simp
      clear hM3
      have hbs3 := hbs2.old o3
      simp -implicitDefEqProofs (disch := first | assumption | (simp only [wnA]; done) | (simp only [wnA]; omega) | omega | fail) [wkA, retV, stabOk, dC, ev, fillD, pickCells, putAt, bnd, slD, List.getElem?_cons_zero, List.getElem?_cons_succ, dR_sl, Mem.cell, Mem.row, wmA]
      refine AbW_sem_of ?_
      simp only [nodC] at g3
      simp -implicitDefEqProofs (disch := first | assumption | (simp only [wnA]; done) | (simp only [wnA]; omega) | omega | (simp only [List.length_append, List.length_cons, List.length_nil]; omega) | fail) [rc46_6, rc46_7, wkA, retV, stabOk, dC, ev, fillD, pickCells, putAt, bnd, slD, List.getElem?_cons_zero, List.getElem?_cons_succ, dR_sl, Mem.cell, Mem.row, wmA, g3, cat2]
      constructor
      all_goals
        rw [SK_bsl (cs := nodC k a b c e s) (by simp [wkA, retV, stabOk, dC, ev, fillD, pickCells, putAt, bnd, slD, List.getElem?_cons_zero, List.getElem?_cons_succ, dR_sl, nodC]) (by simp [nodC])]
        obtain ⟨M4, hM4⟩ : ∃ M, M3.push (.own (nodC k a b c e s) 76) = M := ⟨_, rfl⟩
        have o4 : Old M3 M4 := by subst hM4; exact (Old.refl M3).push _
        have n3 : m2.next < M3.next := Nat.lt_of_lt_of_le (Nat.lt_succ_self _) hlt3
        have g4 := (o4.2 _ n3).trans g3
        rw [hM4]
        have hbs4 := hbs3.old o4
        simp -implicitDefEqProofs (disch := first | assumption | (simp only [wnA]; done) | (simp only [wnA]; omega) | omega | (simp only [List.length_append, List.length_cons, List.length_nil]; omega) | fail) [wkA, retV, stabOk, dC, ev, fillD, pickCells, putAt, bnd, slD, List.getElem?_cons_zero, List.getElem?_cons_succ, dR_sl, Mem.cell, Mem.row, wmA, g4, cat2]
        refine SK_stv (i := m.next) (o := 0) (vs := nodC 4 0 0 0 0 (.slice (some ⟨M3.next, 0, none⟩) 1 6)) (cs := nod0) (e := 76) (by simp [wkA, retV, stabOk, dC, ev, fillD, pickCells, putAt, bnd, slD, List.getElem?_cons_zero, List.getElem?_cons_succ, dR_sl]) hbs4.g (by simp [wkA, retV, stabOk, dC, ev, fillD, pickCells, putAt, bnd, slD, List.getElem?_cons_zero, List.getElem?_cons_succ, dR_sl, nodC]) (by simp [nod0]) rfl rfl ?_
        simp -implicitDefEqProofs (disch := first | assumption | (simp only [wnA]; done) | (simp only [wnA]; omega) | omega | (simp only [List.length_append, List.length_cons, List.length_nil]; omega) | fail) [wkA, retV, stabOk, dC, ev, fillD, pickCells, putAt, bnd, slD, List.getElem?_cons_zero, List.getElem?_cons_succ, dR_sl, Mem.cell, Mem.row, wmA]
        exact hbs4.ret (t := 40 :: (t ++ [41, 42])) hq (SafeL.cons (by decide) (ht.app (SafeL.cons (by decide) (SafeL.cons (by decide) (fun x hx => by cases hx))))) (by simp; omega) ⟨rfl, rfl⟩ (by simp) (by simp) (by simp)
    · simp -implicitDefEqProofs (disch := first | assumption | (simp only [wnA]; done) | (simp only [wnA]; omega) | omega | fail) [rc46_15, rc46_14, wkA, retV, stabOk, dC, ev, fillD, pickCells, putAt, bnd, slD, List.getElem?_cons_zero, List.getElem?_cons_succ, dR_sl, Mem.cell, Mem.row, wmA, hdd]
      refine IH w0 m1 v' ns _ hbs.sv (fun b hb => by have := hvb b (sb' b hb); omega) (by have : (x :: ns).length ≤ maxLen := hl; simp at this; omega) ?_
      intro m2 t nd v2 ns2 o2 ht htl hnd sv2' sb2 hn2
      obtain ⟨k, a, b, c, e, s, rfl, hs1, hs2⟩ := hnd
      have hbs2 : BS m m2 v v2 (x :: ns) ns2 := ⟨o1.trans o2, Nat.lt_of_lt_of_le n1 o2.1, (o2.2 _ n1).trans g1, sv2', fun b hb => sb' b (sb2 b hb), hvb, by simp; omega⟩
      simp -implicitDefEqProofs (disch := first | assumption | (simp only [wnA]; done) | (simp only [wnA]; omega) | omega | fail) [wkA, retV, stabOk, dC, ev, fillD, pickCells, putAt, bnd, slD, List.getElem?_cons_zero, List.getElem?_cons_succ, dR_sl, Mem.cell, Mem.row, wmA]
      obtain ⟨M3, hM3⟩ : ∃ M, (m2.push (.own nod0 76)).set m2.next (.own (nodC k a b c e s) 76) = M := ⟨_, rfl⟩
      refine SK_stm (i := m2.next) (o := 0) (vs := nodC k a b c e s) (cs := nod0) (e := 76) (M := M3) (by simp [wkA, retV, stabOk, dC, ev, fillD, pickCells, putAt, bnd, slD, List.getElem?_cons_zero, List.getElem?_cons_succ, dR_sl]) (by simp -implicitDefEqProofs (disch := first | assumption | (simp only [wnA]; done) | (simp only [wnA]; omega) | omega | fail) [wkA, retV, stabOk, dC, ev, fillD, pickCells, putAt, bnd, slD, List.getElem?_cons_zero, List.getElem?_cons_succ, dR_sl, Mem.cell, Mem.row, wmA, nod0]) (by simp [wkA, retV, stabOk, dC, ev, fillD, pickCells, putAt, bnd, slD, List.getElem?_cons_zero, List.getElem?_cons_succ, dR_sl]) (by simp [nod0]) rfl (by simp only [nodC, List.all_cons, List.all_nil, hs1]; rfl) hM3 ?_
      have o3 : Old m2 M3 := by subst hM3; exact ((Old.refl m2).push _).set (Nat.le_refl _) _
      have g3 : M3.get m2.next = .own (nodC k a b c e s) 76 := by subst hM3; rw [Mem.set_same]
      have hlt3 : m2.next + 1 ≤ M3.next := by subst hM3; simp
      clear hM3
      have hbs3 := hbs2.old o3
      simp -implicitDefEqProofs (disch := first | assumption | (simp only [wnA]; done) | (simp only [wnA]; omega) | omega | fail) [wkA, retV, stabOk, dC, ev, fillD, pickCells, putAt, bnd, slD, List.getElem?_cons_zero, List.getElem?_cons_succ, dR_sl, Mem.cell, Mem.row, wmA]
      refine AbW_sem_of ?_
      simp only [nodC] at g3
      simp -implicitDefEqProofs (disch := first | assumption | (simp only [wnA]; done) | (simp only [wnA]; omega) | omega | (simp only [List.length_append, List.length_cons, List.length_nil]; omega) | fail) [rc46_8, rc46_9, wkA, retV, stabOk, dC, ev, fillD, pickCells, putAt, bnd, slD, List.getElem?_cons_zero, List.getElem?_cons_succ, dR_sl, Mem.cell, Mem.row, wmA, g3, cat2]
      constructor
      all_goals
        rw [SK_bsl (cs := nodC k a b c e s ++ nod0) (by simp [wkA, retV, stabOk, dC, ev, fillD, pickCells, putAt, bnd, slD, List.getElem?_cons_zero, List.getElem?_cons_succ, dR_sl, nodC, nod0]) (by simp [nodC, nod0])]
        obtain ⟨M4, hM4⟩ : ∃ M, M3.push (.own (nodC k a b c e s ++ nod0) 76) = M := ⟨_, rfl⟩
        have o4 : Old M3 M4 := by subst hM4; exact (Old.refl M3).push _
        have n3 : m2.next < M3.next := Nat.lt_of_lt_of_le (Nat.lt_succ_self _) hlt3
        have g4 := (o4.2 _ n3).trans g3
        rw [hM4]
        have hbs4 := hbs3.old o4
        simp -implicitDefEqProofs (disch := first | assumption | (simp only [wnA]; done) | (simp only [wnA]; omega) | omega | (simp only [List.length_append, List.length_cons, List.length_nil]; omega) | fail) [wkA, retV, stabOk, dC, ev, fillD, pickCells, putAt, bnd, slD, List.getElem?_cons_zero, List.getElem?_cons_succ, dR_sl, Mem.cell, Mem.row, wmA, g4, cat2]
        refine SK_stv (i := m.next) (o := 0) (vs := nodC 3 0 0 0 0 (.slice (some ⟨M3.next, 0, none⟩) 2 6)) (cs := nod0) (e := 76) (by simp [wkA, retV, stabOk, dC, ev, fillD, pickCells, putAt, bnd, slD, List.getElem?_cons_zero, List.getElem?_cons_succ, dR_sl]) hbs4.g (by simp [wkA, retV, stabOk, dC, ev, fillD, pickCells, putAt, bnd, slD, List.getElem?_cons_zero, List.getElem?_cons_succ, dR_sl, nodC]) (by simp [nod0]) rfl rfl ?_
        simp -implicitDefEqProofs (disch := first | assumption | (simp only [wnA]; done) | (simp only [wnA]; omega) | omega | (simp only [List.length_append, List.length_cons, List.length_nil]; omega) | fail) [wkA, retV, stabOk, dC, ev, fillD, pickCells, putAt, bnd, slD, List.getElem?_cons_zero, List.getElem?_cons_succ, dR_sl, Mem.cell, Mem.row, wmA]
        exact hbs4.ret (t := 40 :: (t ++ [41, 63])) hq (SafeL.cons (by decide) (ht.app (SafeL.cons (by decide) (SafeL.cons (by decide) (fun x hx => by cases hx))))) (by simp; omega) ⟨rfl, rfl⟩ (by simp) (by simp) (by simp)
    · simp -implicitDefEqProofs (disch := first | assumption | (simp only [wnA]; done) | (simp only [wnA]; omega) | omega | fail) [rc46_15, rc46_14, wkA, retV, stabOk, dC, ev, fillD, pickCells, putAt, bnd, slD, List.getElem?_cons_zero, List.getElem?_cons_succ, dR_sl, Mem.cell, Mem.row, wmA, hdd]
      refine IH w0 m1 v' ns _ hbs.sv (fun b hb => by have := hvb b (sb' b hb); omega) (by have : (x :: ns).length ≤ maxLen := hl; simp at this; omega) ?_
      intro m2 t nd v2 ns2 o2 ht htl hnd sv2' sb2 hn2
      obtain ⟨k, a, b, c, e, s, rfl, hs1, hs2⟩ := hnd
      have hbs2 : BS m m2 v v2 (x :: ns) ns2 := ⟨o1.trans o2, Nat.lt_of_lt_of_le n1 o2.1, (o2.2 _ n1).trans g1, sv2', fun b hb => sb' b (sb2 b hb), hvb, by simp; omega⟩
      simp -implicitDefEqProofs (disch := first | assumption | (simp only [wnA]; done) | (simp only [wnA]; omega) | omega | fail) [wkA, retV, stabOk, dC, ev, fillD, pickCells, putAt, bnd, slD, List.getElem?_cons_zero, List.getElem?_cons_succ, dR_sl, Mem.cell, Mem.row, wmA]
      obtain ⟨M3, hM3⟩ : ∃ M, (m2.push (.own nod0 76)).set m2.next (.own (nodC k a b c e s) 76) = M := ⟨_, rfl⟩
      refine SK_stm (i := m2.next) (o := 0) (vs := nodC k a b c e s) (cs := nod0) (e := 76) (M := M3) (by simp [wkA, retV, stabOk, dC, ev, fillD, pickCells, putAt, bnd, slD, List.getElem?_cons_zero, List.getElem?_cons_succ, dR_sl]) (by simp -implicitDefEqProofs (disch := first | assumption | (simp only [wnA]; done) | (simp only [wnA]; omega) | omega | fail) [wkA, retV, stabOk, dC, ev, fillD, pickCells, putAt, bnd, slD, List.getElem?_cons_zero, List.getElem?_cons_succ, dR_sl, Mem.cell, Mem.row, wmA, nod0]) (by simp [wkA, retV, stabOk, dC, ev, fillD, pickCells, putAt, bnd, slD, List.getElem?_cons_zero, List.getElem?_cons_succ, dR_sl]) (by simp [nod0]) rfl (by simp only [nodC, List.all_cons, List.all_nil, hs1]; rfl) hM3 ?_
      have o3 : Old m2 M3 := by subst hM3; exact ((Old.refl m2).push _).set (Nat.le_refl _) _
      have g3 : M3.get m2.next = .own (nodC k a b c e s) 76 := by subst hM3; rw [Mem.set_same]
      have hlt3 : m2.next + 1 ≤ M3.next := by subst hM3; simp
      clear hM3
      have hbs3 := hbs2.old o3
      simp -implicitDefEqProofs (disch := first | assumption | (simp only [wnA]; done) | (simp only [wnA]; omega) | omega | fail) [wkA, retV, stabOk, dC, ev, fillD, pickCells, putAt, bnd, slD, List.getElem?_cons_zero, List.getElem?_cons_succ, dR_sl, Mem.cell, Mem.row, wmA]
      refine AbW_sem_of ?_
      simp only [nodC] at g3
      simp -implicitDefEqProofs (disch := first | assumption | (simp only [wnA]; done) | (simp only [wnA]; omega) | omega | (simp only [List.length_append, List.length_cons, List.length_nil]; omega) | fail) [rc46_12, rc46_13, rc46_10, rc46_11, wkA, retV, stabOk, dC, ev, fillD, pickCells, putAt, bnd, slD, List.getElem?_cons_zero, List.getElem?_cons_succ, dR_sl, Mem.cell, Mem.row, wmA, g3, cat2]
      constructor
      all_goals
        rw [SK_bsl (cs := nodC k a b c e s) (by simp [wkA, retV, stabOk, dC, ev, fillD, pickCells, putAt, bnd, slD, List.getElem?_cons_zero, List.getElem?_cons_succ, dR_sl, nodC]) (by simp [nodC])]
        obtain ⟨M4, hM4⟩ : ∃ M, M3.push (.own (nodC k a b c e s) 76) = M := ⟨_, rfl⟩
        have o4 : Old M3 M4 := by subst hM4; exact (Old.refl M3).push _
        have n3 : m2.next < M3.next := Nat.lt_of_lt_of_le (Nat.lt_succ_self _) hlt3
        have g4 := (o4.2 _ n3).trans g3
        have n4 : m2.next < M4.next := Nat.lt_of_lt_of_le n3 o4.1
        rw [hM4]
        have hbs4 := hbs3.old o4
        simp -implicitDefEqProofs (disch := first | assumption | (simp only [wnA]; done) | (simp only [wnA]; omega) | omega | (simp only [List.length_append, List.length_cons, List.length_nil]; omega) | fail) [wkA, retV, stabOk, dC, ev, fillD, pickCells, putAt, bnd, slD, List.getElem?_cons_zero, List.getElem?_cons_succ, dR_sl, Mem.cell, Mem.row, wmA, g4, cat2]
      · constructor
        all_goals
          rw [SK_bsl (cs := nodC k a b c e s ++ nodC 4 0 0 0 0 (.slice (some ⟨M3.next, 0, none⟩) 1 6)) (by simp [wkA, retV, stabOk, dC, ev, fillD, pickCells, putAt, bnd, slD, List.getElem?_cons_zero, List.getElem?_cons_succ, dR_sl, nodC]) (by simp [nodC])]
          obtain ⟨M5, hM5⟩ : ∃ M, M4.push (.own (nodC k a b c e s ++ nodC 4 0 0 0 0 (.slice (some ⟨M3.next, 0, none⟩) 1 6)) 76) = M := ⟨_, rfl⟩
          have o5 : Old M4 M5 := by subst hM5; exact (Old.refl M4).push _
          have g5 := (o5.2 _ n4).trans g4
          rw [hM5]
          have hbs5 := hbs4.old o5
          simp -implicitDefEqProofs (disch := first | assumption | (simp only [wnA]; done) | (simp only [wnA]; omega) | omega | (simp only [List.length_append, List.length_cons, List.length_nil]; omega) | fail) [wkA, retV, stabOk, dC, ev, fillD, pickCells, putAt, bnd, slD, List.getElem?_cons_zero, List.getElem?_cons_succ, dR_sl, Mem.cell, Mem.row, wmA, g5, cat2]
          refine SK_stv (i := m.next) (o := 0) (vs := nodC 2 0 0 0 0 (.slice (some ⟨M4.next, 0, none⟩) 2 6)) (cs := nod0) (e := 76) (by simp [wkA, retV, stabOk, dC, ev, fillD, pickCells, putAt, bnd, slD, List.getElem?_cons_zero, List.getElem?_cons_succ, dR_sl]) hbs5.g (by simp [wkA, retV, stabOk, dC, ev, fillD, pickCells, putAt, bnd, slD, List.getElem?_cons_zero, List.getElem?_cons_succ, dR_sl, nodC]) (by simp [nod0]) rfl rfl ?_
          simp -implicitDefEqProofs (disch := first | assumption | (simp only [wnA]; done) | (simp only [wnA]; omega) | omega | (simp only [List.length_append, List.length_cons, List.length_nil]; omega) | fail) [wkA, retV, stabOk, dC, ev, fillD, pickCells, putAt, bnd, slD, List.getElem?_cons_zero, List.getElem?_cons_succ, dR_sl, Mem.cell, Mem.row, wmA]
          exact hbs5.ret (t := 40 :: (t ++ [41, 43])) hq (SafeL.cons (by decide) (ht.app (SafeL.cons (by decide) (SafeL.cons (by decide) (fun x hx => by cases hx))))) (by simp; omega) ⟨rfl, rfl⟩ (by simp) (by simp) (by simp)
      · skip
        all_goals
          rw [SK_bsl (cs := nodC k a b c e s ++ nodC 4 0 0 0 0 (.slice (some ⟨M3.next, 0, none⟩) 1 6)) (by simp [wkA, retV, stabOk, dC, ev, fillD, pickCells, putAt, bnd, slD, List.getElem?_cons_zero, List.getElem?_cons_succ, dR_sl, nodC]) (by simp [nodC])]
          obtain ⟨M5, hM5⟩ : ∃ M, M4.push (.own (nodC k a b c e s ++ nodC 4 0 0 0 0 (.slice (some ⟨M3.next, 0, none⟩) 1 6)) 76) = M := ⟨_, rfl⟩
          have o5 : Old M4 M5 := by subst hM5; exact (Old.refl M4).push _
          have g5 := (o5.2 _ n4).trans g4
          rw [hM5]
          have hbs5 := hbs4.old o5
          simp -implicitDefEqProofs (disch := first | assumption | (simp only [wnA]; done) | (simp only [wnA]; omega) | omega | (simp only [List.length_append, List.length_cons, List.length_nil]; omega) | fail) [wkA, retV, stabOk, dC, ev, fillD, pickCells, putAt, bnd, slD, List.getElem?_cons_zero, List.getElem?_cons_succ, dR_sl, Mem.cell, Mem.row, wmA, g5, cat2]
          refine SK_stv (i := m.next) (o := 0) (vs := nodC 2 0 0 0 0 (.slice (some ⟨M4.next, 0, none⟩) 2 6)) (cs := nod0) (e := 76) (by simp [wkA, retV, stabOk, dC, ev, fillD, pickCells, putAt, bnd, slD, List.getElem?_cons_zero, List.getElem?_cons_succ, dR_sl]) hbs5.g (by simp [wkA, retV, stabOk, dC, ev, fillD, pickCells, putAt, bnd, slD, List.getElem?_cons_zero, List.getElem?_cons_succ, dR_sl, nodC]) (by simp [nod0]) rfl rfl ?_
          simp -implicitDefEqProofs (disch := first | assumption | (simp only [wnA]; done) | (simp only [wnA]; omega) | omega | (simp only [List.length_append, List.length_cons, List.length_nil]; omega) | fail) [wkA, retV, stabOk, dC, ev, fillD, pickCells, putAt, bnd, slD, List.getElem?_cons_zero, List.getElem?_cons_succ, dR_sl, Mem.cell, Mem.row, wmA]
          exact hbs5.ret (t := 40 :: (t ++ [41, 43])) hq (SafeL.cons (by decide) (ht.app (SafeL.cons (by decide) (SafeL.cons (by decide) (fun x hx => by cases hx))))) (by simp; omega) ⟨rfl, rfl⟩ (by simp) (by simp) (by simp)
    · simp -implicitDefEqProofs (disch := first | assumption | (simp only [wnA]; done) | (simp only [wnA]; omega) | omega | fail) [rc46_15, rc46_14, wkA, retV, stabOk, dC, ev, fillD, pickCells, putAt, bnd, slD, List.getElem?_cons_zero, List.getElem?_cons_succ, dR_sl, Mem.cell, Mem.row, wmA, hdd]
      rw [show (.agg ⟨[.int .u64 0, .int .u64 0, .int .u64 0, .int .u64 0]⟩ : Value) = setV 0 0 0 0 from rfl]
      refine c_Not fun m2 a b c e o2 => ?_
      have hbs2 := hbs.old o2
      unfold setV
      simp -implicitDefEqProofs (disch := first | assumption | (simp only [wnA]; done) | (simp only [wnA]; omega) | omega | fail) [wkA, retV, stabOk, dC, ev, fillD, pickCells, putAt, bnd, slD, List.getElem?_cons_zero, List.getElem?_cons_succ, dR_sl, Mem.cell, Mem.row, wmA]
      refine SK_stv (i := m.next) (o := 0) (vs := nodC 1 a b c e (.slice none 0 0)) (cs := nod0) (e := 76) (by simp [wkA, retV, stabOk, dC, ev, fillD, pickCells, putAt, bnd, slD, List.getElem?_cons_zero, List.getElem?_cons_succ, dR_sl]) hbs2.g (by simp [wkA, retV, stabOk, dC, ev, fillD, pickCells, putAt, bnd, slD, List.getElem?_cons_zero, List.getElem?_cons_succ, dR_sl, nodC]) (by simp [nod0]) rfl rfl ?_
      simp -implicitDefEqProofs (disch := first | assumption | (simp only [wnA]; done) | (simp only [wnA]; omega) | omega | fail) [wkA, retV, stabOk, dC, ev, fillD, pickCells, putAt, bnd, slD, List.getElem?_cons_zero, List.getElem?_cons_succ, dR_sl, Mem.cell, Mem.row, wmA]
      exact hbs2.ret (t := [46]) hq (SafeL.cons (by decide) (fun x hx => by cases hx)) (by simp; omega) ⟨rfl, rfl⟩ (by simp) (by simp) (by simp)
    · simp -implicitDefEqProofs (disch := first | assumption | (simp only [wnA]; done) | (simp only [wnA]; omega) | omega | fail) [rc46_15, rc46_14, rc46_16, wkA, retV, stabOk, dC, ev, fillD, pickCells, putAt, bnd, slD, List.getElem?_cons_zero, List.getElem?_cons_succ, dR_sl, Mem.cell, Mem.row, wmA, hdd]
      rw [show (.agg ⟨[.int .u64 0, .int .u64 0, .int .u64 0, .int .u64 0]⟩ : Value) = setV 0 0 0 0 from rfl]
      refine c_With (x := 97) (.inl rfl) fun m2 a1 o2 => ?_
      simp -implicitDefEqProofs (disch := first | assumption | (simp only [wnA]; done) | (simp only [wnA]; omega) | omega | fail) [wkA, retV, stabOk, dC, ev, fillD, pickCells, putAt, bnd, slD, List.getElem?_cons_zero, List.getElem?_cons_succ, dR_sl, Mem.cell, Mem.row, wmA]
      refine c_With (x := 98) (.inr (.inl rfl)) fun m3 a2 o3 => ?_
      simp -implicitDefEqProofs (disch := first | assumption | (simp only [wnA]; done) | (simp only [wnA]; omega) | omega | fail) [wkA, retV, stabOk, dC, ev, fillD, pickCells, putAt, bnd, slD, List.getElem?_cons_zero, List.getElem?_cons_succ, dR_sl, Mem.cell, Mem.row, wmA]
      refine c_Not fun m4 a b c e o4 => ?_
      have hbs2 := ((hbs.old o2).old o3).old o4
      unfold setV
      simp -implicitDefEqProofs (disch := first | assumption | (simp only [wnA]; done) | (simp only [wnA]; omega) | omega | fail) [wkA, retV, stabOk, dC, ev, fillD, pickCells, putAt, bnd, slD, List.getElem?_cons_zero, List.getElem?_cons_succ, dR_sl, Mem.cell, Mem.row, wmA]
      refine SK_stv (i := m.next) (o := 0) (vs := nodC 1 a b c e (.slice none 0 0)) (cs := nod0) (e := 76) (by simp [wkA, retV, stabOk, dC, ev, fillD, pickCells, putAt, bnd, slD, List.getElem?_cons_zero, List.getElem?_cons_succ, dR_sl]) hbs2.g (by simp [wkA, retV, stabOk, dC, ev, fillD, pickCells, putAt, bnd, slD, List.getElem?_cons_zero, List.getElem?_cons_succ, dR_sl, nodC]) (by simp [nod0]) rfl rfl ?_
      simp -implicitDefEqProofs (disch := first | assumption | (simp only [wnA]; done) | (simp only [wnA]; omega) | omega | fail) [wkA, retV, stabOk, dC, ev, fillD, pickCells, putAt, bnd, slD, List.getElem?_cons_zero, List.getElem?_cons_succ, dR_sl, Mem.cell, Mem.row, wmA]
      exact hbs2.ret (t := [91, 94, 97, 45, 98, 93]) hq (fun c hc => by simp at hc; rcases hc with rfl | rfl | rfl | rfl | rfl | rfl <;> decide) (by simp; omega) ⟨rfl, rfl⟩ (by simp) (by simp) (by simp)
end Go.Proofs.YtjlicambfepfiaaGreatDoor.Ab

set_option linter.unusedVariables false
set_option linter.unusedSimpArgs false
namespace Go.Proofs.YtjlicambfepfiaaGreatDoor.Ab
open Go Go.RowKit
set_option maxHeartbeats 4000000
set_option maxRecDepth 100000
theorem build_ok : BuildOk 2 := c_buildS (by omega) (c_buildS (by omega) fun w0 m v ns Q hv hvb hl hq => c_build0 hv hvb hl hq)
theorem c_Make {w0 : World} {m : Mem} {v : Value} {ns : List UInt8} {Q : Value → Mem → Prop} (hv : SlR m 1 v (ns.map byteV) ns.length) (hvb : ∀ b, blk v = some b → b < m.next) (hl : ns.length ≤ maxLen)
    (hq : ∀ m' t nd, Old m m' → SafeL t → t.length ≤ 39 → Nod nd → Q (.tuple ⟨[.string ⟨⟨t⟩⟩, nd]⟩) m') : AbC Tryz.prog w0 34 [v, .int .i64 2] m Q := by
  refine AbC_fn ok34 (by simp) ?_
  simp -implicitDefEqProofs (disch := first | assumption | (simp only [wnA]; done) | (simp only [wnA]; omega) | omega | fail) [rc34, ro34, wkA, retV, stabOk, dC, ev, fillD, pickCells, putAt, bnd, slD, List.getElem?_cons_zero, List.getElem?_cons_succ, dR.eq_20, Mem.cell, Mem.row, wmA]
  obtain ⟨m1, hm1⟩ : ∃ m1, m.push (.own nod0 76) = m1 := ⟨_, rfl⟩
  have o1 : Old m m1 := by subst hm1; exact (Old.refl m).push _
  have g1 : m1.get m.next = .own nod0 76 := by subst hm1; rw [Mem.push_same]
  have n1 : m.next < m1.next := by subst hm1; simp
  have hm1' : m.push (.own [.int .i64 0, .int .u64 0, .int .u64 0, .int .u64 0, .int .u64 0, .slice none 0 0] 76) = m1 := hm1
  rw [hm1']
  refine build_ok w0 m1 v ns _ (hv.keep fun b hb => o1.2 b (hvb b hb)) (fun b hb => Nat.lt_of_lt_of_le (hvb b hb) o1.1) hl ?_
  intro m2 t nd v2 ns2 o2 ht htl hnd sv2 sb2 hn2
  obtain ⟨k, a, b, c, e, s, rfl, hs1, hs2⟩ := hnd
  have g2 := (o2.2 _ n1).trans g1
  simp -implicitDefEqProofs (disch := first | assumption | (simp only [wnA]; done) | (simp only [wnA]; omega) | omega | fail) [wkA, retV, stabOk, dC, ev, fillD, pickCells, putAt, bnd, slD, List.getElem?_cons_zero, List.getElem?_cons_succ, dR.eq_20, Mem.cell, Mem.row, wmA]
  obtain ⟨M3, hM3⟩ : ∃ M, (m2.push (.own nod0 76)).set m2.next (.own (nodC k a b c e s) 76) = M := ⟨_, rfl⟩
  refine SK_stm (i := m2.next) (o := 0) (vs := nodC k a b c e s) (cs := nod0) (e := 76) (M := M3) (by simp [wkA, retV, stabOk, dC, ev, fillD, pickCells, putAt, bnd, slD, List.getElem?_cons_zero, List.getElem?_cons_succ, dR.eq_20]) (by simp -implicitDefEqProofs (disch := first | assumption | (simp only [wnA]; done) | (simp only [wnA]; omega) | omega | fail) [wkA, retV, stabOk, dC, ev, fillD, pickCells, putAt, bnd, slD, List.getElem?_cons_zero, List.getElem?_cons_succ, dR.eq_20, Mem.cell, Mem.row, wmA, nod0]) (by simp [wkA, retV, stabOk, dC, ev, fillD, pickCells, putAt, bnd, slD, List.getElem?_cons_zero, List.getElem?_cons_succ, dR.eq_20]) (by simp [nod0]) rfl (by simp only [nodC, List.all_cons, List.all_nil, hs1]; rfl) hM3 ?_
  have o3 : Old m2 M3 := by subst hM3; exact ((Old.refl m2).push _).set (Nat.le_refl _) _
  have g3 : M3.get m2.next = .own (nodC k a b c e s) 76 := by subst hM3; rw [Mem.set_same]
  have g3' := (o3.2 _ (Nat.lt_of_lt_of_le n1 o2.1)).trans g2
  clear hM3
  simp only [nodC] at g3
  simp -implicitDefEqProofs (disch := first | assumption | (simp only [wnA]; done) | (simp only [wnA]; omega) | omega | fail) [wkA, retV, stabOk, dC, ev, fillD, pickCells, putAt, bnd, slD, List.getElem?_cons_zero, List.getElem?_cons_succ, dR.eq_20, Mem.cell, Mem.row, wmA, g3]
  refine SK_stv (i := m.next) (o := 0) (vs := nodC k a b c e s) (cs := nod0) (e := 76) (by simp [wkA, retV, stabOk, dC, ev, fillD, pickCells, putAt, bnd, slD, List.getElem?_cons_zero, List.getElem?_cons_succ, dR.eq_20]) g3' (by simp [wkA, retV, stabOk, dC, ev, fillD, pickCells, putAt, bnd, slD, List.getElem?_cons_zero, List.getElem?_cons_succ, dR.eq_20, nodC]) (by simp [nod0]) rfl (by simp only [nodC, List.all_cons, List.all_nil, hs1]; rfl) ?_
  have o4 := ((o1.trans o2).trans o3).set (Nat.le_refl m.next) (.own (nodC k a b c e s) 76)
  have h := hq _ t (.agg ⟨nodC k a b c e s⟩) o4 ht htl ⟨k, a, b, c, e, s, rfl, hs1, hs2⟩
  simp -implicitDefEqProofs (disch := first | assumption | (simp only [wnA]; done) | (simp only [wnA]; omega) | omega | fail) [wkA, retV, stabOk, dC, ev, fillD, pickCells, putAt, bnd, slD, List.getElem?_cons_zero, List.getElem?_cons_succ, dR.eq_20, Mem.cell, Mem.row, wmA, nod0, nodC]
  simpa [nodC] using h
theorem lab_enc : ∀ k : Fin 26, Utf8.encode (IntKind.i32.wrap (IntKind.i64.wrap (97 + (k.val : Int)))) = ⟨⟨[UInt8.ofNat (97 + k.val)]⟩⟩ := by decide +kernel
theorem lab_ok : ∀ k : Fin 26, wordN false [115, UInt8.ofNat (97 + k.val)] = 2 := by decide +kernel
theorem c_label {w0 : World} {m : Mem} {k : Nat} (hk : k < 26) {Q : Value → Mem → Prop} (hq : Q (.string ⟨⟨[115, UInt8.ofNat (97 + k)]⟩⟩) m) : AbC Tryz.prog w0 33 [.int .i64 (k : Int)] m Q := by
  refine AbC_fn ok33 (by simp) ?_
  have he := lab_enc ⟨k, hk⟩
  simp only at he
  have c1 := cat2 (a := [115]) (b := [UInt8.ofNat (97 + k)]) (by simp)
  simp only [List.cons_append, List.nil_append] at c1
  generalize UInt8.ofNat (97 + k) = c at *
  simp -implicitDefEqProofs (disch := first | assumption | (simp only [wnA]; done) | (simp only [wnA]; omega) | omega | fail) [rc33, ro33, wkA, retV, stabOk, dC, ev, fillD, pickCells, putAt, bnd, slD, List.getElem?_cons_zero, List.getElem?_cons_succ, dR.eq_20, Mem.cell, Mem.row, wmA, he, c1]
  exact hq
theorem wd_label {k : Nat} (hk : k < 26) : WordOk [115, UInt8.ofNat (97 + k)] := ⟨⟨_, _, rfl, rfl⟩, lab_ok ⟨k, hk⟩⟩
end Go.Proofs.YtjlicambfepfiaaGreatDoor.Ab

set_option linter.unusedVariables false
set_option linter.unusedSimpArgs false
namespace Go.Proofs.YtjlicambfepfiaaGreatDoor.Ab
open Go Go.RowKit
set_option maxHeartbeats 1000000
set_option maxRecDepth 100000
/-- These tokens stand at a place. -/
def At (ts : List (Tk × Nat)) (k : Nat) (T : List Tk) : Prop := ∃ rest, (ts.map (·.1)).drop k = T ++ rest
theorem At.hd {ts : List (Tk × Nat)} {k : Nat} {t : Tk} {T : List Tk} (h : At ts k (t :: T)) : (ts.getD k tok0).1 = t ∧ At ts (k + 1) T ∧ k < ts.length := by
  obtain ⟨rest, hr⟩ := h
  have hk : k < (ts.map (·.1)).length := by
    rcases Nat.lt_or_ge k (ts.map (·.1)).length with h | h
    · exact h
    · rw [List.drop_eq_nil_of_le h] at hr; cases hr
  rw [List.drop_eq_getElem_cons hk] at hr
  have hk' : k < ts.length := by simpa using hk
  refine ⟨?_, ⟨rest, (List.cons.inj hr).2⟩, hk'⟩
  have := (List.cons.inj hr).1
  rw [List.getElem_map] at this
  rw [← this]
  simp [List.getD, List.getElem?_eq_getElem hk']
theorem At.app {ts : List (Tk × Nat)} {k : Nat} {A B : List Tk} (h : At ts k (A ++ B)) : At ts k A ∧ At ts (k + A.length) B := by
  obtain ⟨rest, hr⟩ := h
  refine ⟨⟨B ++ rest, by rw [hr]; simp⟩, ⟨rest, ?_⟩⟩
  rw [← List.drop_drop, hr]
  simp
theorem At.len {ts : List (Tk × Nat)} {k : Nat} {T : List Tk} (h : At ts k T) : T.length ≤ ts.length := by
  obtain ⟨rest, hr⟩ := h
  have := congrArg List.length hr
  simp at this
  omega
/-- A token of this kind is taken. -/
theorem take_at {ts : List (Tk × Nat)} {k : Nat} {t : Tk} {kd : Int} {tx : List UInt8} (h : (ts.getD k tok0).1 = t) (hm : misfit t kd tx = false) : takeF ts kd tx ⟨k, none⟩ = (ts.getD k tok0, ⟨k + 1, none⟩) := takeF_fit (by rw [h]; exact hm)
theorem is_at {ts : List (Tk × Nat)} {k : Nat} {t : Tk} {kd : Int} {tx : List UInt8} (h : (ts.getD k tok0).1 = t) : isF ts kd tx ⟨k, none⟩ = !misfit t kd tx := by
  unfold isF; rw [h]; rfl
theorem mf_wd (t : List UInt8) : misfit (wdT t) 1 [] = false := rfl
theorem mf_eq (t : List UInt8) : misfit (wdT t) 1 t = false := by simp [misfit, wdT]
theorem mf_st (t : List UInt8) : misfit (stT t) 3 [] = false := rfl
theorem mf_nm (n : Nat) : misfit (nmT n) 2 [] = false := rfl
theorem to_at {ts : List (Tk × Nat)} {k : Nat} {t : List UInt8} {T : List Tk} (h : At ts k (wdT goL :: wdT t :: T)) : toF ts ⟨k, none⟩ = (t, ⟨k + 2, none⟩) ∧ At ts (k + 2) T := by
  obtain ⟨h0, h, -⟩ := h.hd
  obtain ⟨h1, h, -⟩ := h.hd
  refine ⟨?_, h⟩
  unfold toF
  rw [take_at h0 (mf_eq goL)]
  simp only
  rw [take_at h1 (mf_wd t), h1]
  rfl
theorem num_at {ts : List (Tk × Nat)} {k n : Nat} {most : Int} {T : List Tk} (h : At ts k (nmT n :: T)) (hn : 1 ≤ (n : Int) ∧ (n : Int) ≤ most) : numF most ts ⟨k, none⟩ = ((n : Int), ⟨k + 1, none⟩) ∧ At ts (k + 1) T := by
  obtain ⟨h0, h, -⟩ := h.hd
  refine ⟨?_, h⟩
  unfold numF
  rw [take_at h0 (mf_nm n)]
  simp only [numR, h0, nmT]
  rw [if_neg (by omega)]
theorem arm_at {ts : List (Tk × Nat)} {k : Nat} {a : Arm} {T : List Tk} (h : At ts k (armT a ++ T)) : armF ts ⟨k, none⟩ = (a, ⟨k + 3, none⟩) ∧ At ts (k + 3) T := by
  obtain ⟨h0, h, -⟩ := At.hd (T := wdT goL :: wdT a.to :: T) (t := stT a.pat) h
  obtain ⟨h1, h⟩ := to_at h
  refine ⟨?_, h⟩
  unfold armF
  rw [take_at h0 (mf_st _)]
  simp only [h1, h0]
  rfl
theorem arms_at {ts : List (Tk × Nat)} {t : Tk} {T : List Tk} (ht : misfit t 4 [44] = true) : ∀ (l : List Arm) (n k : Nat) (out : List Arm), l ≠ [] → l.length ≤ n → At ts k (armsT l ++ t :: T) → armsF n ts ⟨k, none⟩ out = (out ++ l, ⟨k + (armsT l).length, none⟩)
  | [], _, _, _, h, _, _ => absurd rfl h
  | a :: l, n, k, out, _, hn, h => by
    obtain ⟨n, rfl⟩ : ∃ n', n = n' + 1 := ⟨n - 1, by simp at hn; omega⟩
    cases l with
    | nil =>
      have h : At ts k (armT a ++ t :: T) := by simpa [armsT] using h
      obtain ⟨h1, h2⟩ := arm_at h
      obtain ⟨h3, -, -⟩ := h2.hd
      simp only [armsF, h1, is_at h3, ht, armsT]
      simp [armT]
    | cons b l =>
      have h : At ts k (armT a ++ (sgT 44 :: (armsT (b :: l) ++ t :: T))) := by simpa [armsT] using h
      obtain ⟨h1, h2⟩ := arm_at h
      obtain ⟨h3, h4, -⟩ := h2.hd
      have ih := arms_at ht (b :: l) n (k + 3 + 1) (out ++ [a]) (by simp) (by simp at hn ⊢; omega) h4
      simp only [armsF, h1, is_at h3]
      rw [if_pos (by rfl), ih]
      simp only [armsT, armT, List.append_assoc, List.length_append, List.length_cons, List.length_nil, List.flatMap_cons, List.cons_append, List.nil_append]
      congr 2
      omega
theorem head_lab {ts : List (Tk × Nat)} {k : Nat} {lb w : List UInt8} {T : List Tk} (h : At ts k (wdT lb :: sgT 58 :: wdT w :: T)) : headF ts ⟨k, none⟩ = (lb, ts.getD (k + 2) tok0, ⟨k + 3, none⟩) ∧ At ts (k + 3) T ∧ (ts.getD (k + 2) tok0).1 = wdT w := by
  obtain ⟨h0, h, -⟩ := h.hd
  obtain ⟨h1, h, -⟩ := h.hd
  obtain ⟨h2, h, -⟩ := h.hd
  refine ⟨?_, h, h2⟩
  unfold headF
  rw [take_at h0 (mf_wd _)]
  simp only [is_at h1]
  rw [if_pos (by rfl), take_at h2 (mf_wd _), h0]
  rfl
theorem head_no {ts : List (Tk × Nat)} {k : Nat} {w : List UInt8} {t : Tk} {T : List Tk} (h : At ts k (wdT w :: t :: T)) (ht : misfit t 4 [58] = true) : headF ts ⟨k, none⟩ = ([], ts.getD k tok0, ⟨k + 1, none⟩) ∧ At ts (k + 1) (t :: T) ∧ (ts.getD k tok0).1 = wdT w := by
  obtain ⟨h0, h, -⟩ := h.hd
  obtain ⟨h1, -, -⟩ := h.hd
  refine ⟨?_, h, h0⟩
  unfold headF
  rw [take_at h0 (mf_wd _)]
  simp only [is_at h1, ht]
  rfl
theorem kind_at {k : Nat} (h : k ≤ 5) : kindOf (wordsL.getD k []) = k := by
  rcases (show k = 0 ∨ k = 1 ∨ k = 2 ∨ k = 3 ∨ k = 4 ∨ k = 5 by omega) with rfl | rfl | rfl | rfl | rfl | rfl <;> decide
theorem rest_at {ts : List (Tk × Nat)} {k : Nat} {d : DS} {p : Int} {t : Tk × Nat} (hw : WFd d) (ht : t.1 = wdT (wordsL.getD (kN d.kd) [])) (h : At ts k (restT d ++ [sgT 59])) :
    restF ts { ds0 with lb := d.lb, pl := p } t ⟨k, none⟩ = ({ d with pl := p }, ⟨k + (restT d).length, none⟩) ∧ At ts (k + (restT d).length) [sgT 59] := by
  refine ⟨?_, h.app.2⟩
  obtain ⟨lb, kd, tx, arms, n, to, pl⟩ := d
  have hk : kindOf t.1.tx = kN kd := by rw [ht]; exact kind_at (kN_le kd)
  unfold restF
  rw [hk]
  clear hk ht
  obtain ⟨-, hw⟩ := hw
  simp only at hw
  rcases hw with ⟨rfl, h1, rfl, rfl, rfl⟩ | ⟨rfl, rfl, h0, h1, hn, ht⟩ | ⟨rfl, rfl, rfl, rfl, ht⟩ | ⟨rfl, rfl, rfl, hn, ht⟩ | ⟨hk, rfl, rfl, rfl, rfl⟩
  · have h : At ts k [stT tx, sgT 59] := h
    obtain ⟨h0, h, -⟩ := h.hd
    show restK 0 ts _ _ _ = _
    simp only [restK, take_at h0 (mf_st _), h0]
    rfl
  · have h : At ts k (armsT arms ++ (wdT afterL :: nmT n.toNat :: wdT goL :: wdT to :: [sgT 59])) := by simpa [restT, kN] using h
    have hA := arms_at (t := wdT afterL) rfl arms ts.length k [] h0 (by
      have h3 := At.len h.app.1
      have h4 : arms.length ≤ (armsT arms).length := by
        cases arms with
        | nil => simp
        | cons a l =>
          have : ∀ l : List Arm, l.length ≤ (l.flatMap fun b => sgT 44 :: armT b).length := by
            intro l
            induction l with
            | nil => simp
            | cons a l ih => simp at ih ⊢; omega
          have := this l
          simp [armsT, armT] at this ⊢; omega
      omega) h
    have h := h.app.2
    obtain ⟨k1, h, -⟩ := h.hd
    obtain ⟨k2, h⟩ := num_at (most := 99) h (by omega)
    obtain ⟨k3, h⟩ := to_at h
    show restK 1 ts _ _ _ = _
    have hA' : armsL ts ⟨k, none⟩ = (arms, ⟨k + (armsT arms).length, none⟩) := by unfold armsL; rw [hA]; rfl
    simp only [restK, hA', take_at k1 (mf_eq afterL), k2, k3]
    have : ((n.toNat : Nat) : Int) = n := by omega
    simp [restT, kN, this, ds0]
    omega
  · have h : At ts k [wdT to, sgT 59] := h
    obtain ⟨h0, h, -⟩ := h.hd
    show restK 2 ts _ _ _ = _
    simp only [restK, take_at h0 (mf_wd _), h0]
    rfl
  · have h : At ts k [nmT n.toNat, wdT goL, wdT to, sgT 59] := h
    obtain ⟨k2, h⟩ := num_at (most := 9) h (by omega)
    obtain ⟨k3, h⟩ := to_at h
    show restK 3 ts _ _ _ = _
    simp only [restK, k2, k3]
    have : ((n.toNat : Nat) : Int) = n := by omega
    simp [restT, kN, this, ds0]
  · rcases hk with rfl | rfl
    · rfl
    · rfl
def clr (d : DS) : DS := { d with pl := 0 }
theorem step_at {ts : List (Tk × Nat)} {k : Nat} {d : DS} (hw : WFd d) (h : At ts k (tokD d)) : stepF ts ⟨k, none⟩ = ({ d with pl := (ts.getD k tok0).2 }, ⟨k + (tokD d).length, none⟩) := by
  have hl := hw.1
  by_cases h0 : d.lb = []
  · have e : tokD d = wdT (wordsL.getD (kN d.kd) []) :: (restT d ++ [sgT 59]) := by simp [tokD, labT, h0]
    rw [e] at h ⊢
    have hr : ∃ t T, restT d ++ [sgT 59] = t :: T ∧ misfit t 4 [58] = true := by
      obtain ⟨lb, kd, tx, arms, n, to, pl⟩ := d
      obtain ⟨-, hw⟩ := hw
      simp only at hw
      rcases hw with ⟨rfl, h1, rfl, rfl, rfl⟩ | ⟨rfl, rfl, h0, h1, hn, ht⟩ | ⟨rfl, rfl, rfl, rfl, ht⟩ | ⟨rfl, rfl, rfl, hn, ht⟩ | ⟨hk, rfl, rfl, rfl, rfl⟩
      · exact ⟨_, _, rfl, rfl⟩
      · cases arms with
        | nil => exact absurd rfl h0
        | cons a l => exact ⟨stT a.pat, _, rfl, rfl⟩
      · exact ⟨_, _, rfl, rfl⟩
      · exact ⟨_, _, rfl, rfl⟩
      · rcases hk with rfl | rfl
        · exact ⟨_, _, rfl, rfl⟩
        · exact ⟨_, _, rfl, rfl⟩
    obtain ⟨t, T, hr1, hr2⟩ := hr
    rw [hr1] at h
    obtain ⟨k1, h, k2⟩ := head_no h hr2
    rw [← hr1] at h
    obtain ⟨r1, h⟩ := rest_at (p := ((ts.getD k tok0).2 : Int)) hw k2 h
    obtain ⟨k3, -, -⟩ := h.hd
    rw [h0] at r1
    unfold stepF
    simp only [k1, r1, take_at (kd := 4) (tx := [59]) k3 rfl]
    simp only [List.length_cons, List.length_append, List.length_nil]
    rw [h0]
    congr 2
    omega
  · have e : tokD d = wdT d.lb :: sgT 58 :: wdT (wordsL.getD (kN d.kd) []) :: (restT d ++ [sgT 59]) := by simp [tokD, labT, h0]
    rw [e] at h ⊢
    obtain ⟨k1, h, k2⟩ := head_lab h
    obtain ⟨r1, h⟩ := rest_at (p := ((ts.getD k tok0).2 : Int)) hw k2 h
    obtain ⟨k3, -, -⟩ := h.hd
    unfold stepF
    simp only [k1, r1, take_at (kd := 4) (tx := [59]) k3 rfl]
    simp only [List.length_cons, List.length_append, List.length_nil]
    congr 2
    omega
theorem steps_at {ts : List (Tk × Nat)} : ∀ (l : List DS) (n k : Nat) (out : List DS), (∀ d ∈ l, WFd d) → l.length < n → At ts k (l.flatMap tokD ++ [endT]) → ∃ l', stepsF n ts ⟨k, none⟩ out = (out ++ l', none) ∧ l'.map clr = l.map clr
  | [], n, k, out, _, _, h => by
    obtain ⟨h0, -, -⟩ := h.hd
    refine ⟨[], ?_, rfl⟩
    rw [stop_step (fun h => h.2 (by rw [h0]; rfl))]
    simp
  | d :: l, n, k, out, hw, hn, h => by
    obtain ⟨n, rfl⟩ : ∃ n', n = n' + 1 := ⟨n - 1, by simp at hn; omega⟩
    have h : At ts k (tokD d ++ (l.flatMap tokD ++ [endT])) := by simpa using h
    have hs := step_at (hw d (by simp)) h.app.1
    have hkd : (ts.getD k tok0).1.kd ≠ 0 := by
      have : ∃ w T, tokD d = wdT w :: T := by
        unfold tokD labT
        split
        · exact ⟨_, _, rfl⟩
        · exact ⟨_, _, rfl⟩
      obtain ⟨w, T, e⟩ := this
      have h2 := h
      rw [e] at h2
      obtain ⟨h0, -, -⟩ := At.hd (t := wdT w) (T := T ++ (l.flatMap tokD ++ [endT])) h2
      rw [h0]
      show (1 : Int) ≠ 0
      decide
    obtain ⟨l', e1, e2⟩ := steps_at l n (k + (tokD d).length) (out ++ [{ d with pl := (ts.getD k tok0).2 }]) (fun x hx => hw x (by simp [hx])) (by simp at hn; omega) h.app.2
    refine ⟨{ d with pl := (ts.getD k tok0).2 } :: l', ?_, by simp [e2, clr]⟩
    rw [stepsF, if_pos ⟨rfl, hkd⟩, hs, e1]
    simp
/-- What a dialogue's text is read as. -/
theorem parse_text {l : List DV} {us : List (Tk × Nat)} (hw : ∀ x ∈ l, WFd x.1) (hc : cutL 0 (textL l) = .inr us) : ∃ l', parseD us = (l', none) ∧ l'.map clr = l.map fun x => clr x.1 := by
  obtain ⟨a', ws, e1, e2⟩ := cx_text hw 0
  rw [hc] at e2
  have e3 : us = ws ++ [(endT, a')] := by
    have : cutL a' [] = .inr [(endT, a')] := rfl
    rw [this] at e2
    exact Sum.inr.inj e2
  have hat : At us 0 ((l.map fun x => x.1).flatMap tokD ++ [endT]) := ⟨[], by rw [e3]; simp [e1, List.flatMap_map]⟩
  have hlen := hat.len
  have h4 : l.length ≤ ((l.map fun x => x.1).flatMap tokD).length := by
    clear hat e1 hc hlen e2 hw
    induction l with
    | nil => simp
    | cons x l ih => simp [tokD] at ih ⊢; omega
  obtain ⟨l', k1, k2⟩ := steps_at (l.map fun x => x.1) us.length 0 [] (fun d hd => by
    obtain ⟨x, hx, rfl⟩ := List.mem_map.1 hd
    exact hw x hx) (by simp at hlen h4 ⊢; omega) hat
  exact ⟨l', by unfold parseD; rw [k1]; rfl, by rw [k2, List.map_map]; rfl⟩
end Go.Proofs.YtjlicambfepfiaaGreatDoor.Ab

set_option linter.unusedVariables false
set_option linter.unusedSimpArgs false
namespace Go.Proofs.YtjlicambfepfiaaGreatDoor.Ab
open Go Go.RowKit
set_option maxHeartbeats 1000000
set_option maxRecDepth 100000
/-- A step that is right, and how much it has. -/
def WFS (N : Nat) (d : DS) : Prop := WFd d ∧ d.lb.length ≤ N ∧ d.tx.length ≤ N ∧ d.to.length ≤ N ∧ (∀ a ∈ d.arms, a.pat.length ≤ N ∧ a.to.length ≤ N) ∧ d.arms.length ≤ N
end Go.Proofs.YtjlicambfepfiaaGreatDoor.Ab

set_option linter.unusedVariables false
set_option linter.unusedSimpArgs false
namespace Go.Proofs.YtjlicambfepfiaaGreatDoor.Ab
open Go Go.RowKit
set_option maxHeartbeats 4000000
set_option maxRecDepth 100000
/-- A step by numbers. -/
structure Ac7 where
  lb : Bool
  kd : UInt8
  tx : UInt8
  av : Value
  pats : List (Value × List UInt8)
  n : UInt8
  to : UInt8
def acC (a : Ac7) : List Value := [.bool a.lb, byteV a.kd, byteV a.tx, a.av, byteV a.n, byteV a.to]
theorem acC_len (a : Ac7) : (acC a).length = 6 := rfl
structure AcV (m : Mem) (a : Ac7) : Prop where
  sl : SlR m 1 a.av (a.pats.map Prod.fst) a.pats.length
  bl : ∀ b, blk a.av = some b → b < m.next
  ps : ∀ p ∈ a.pats, SlR m 1 p.1 (p.2.map byteV) p.2.length ∧ (∀ b, blk p.1 = some b → b < m.next) ∧ p.2.length ≤ maxLen
theorem AcV.old {m m' : Mem} {a : Ac7} (h : AcV m a) (o : Old m m') : AcV m' a :=
  ⟨h.sl.keep fun b hb => o.2 b (h.bl b hb), fun b hb => Nat.lt_of_lt_of_le (h.bl b hb) o.1, fun p hp => ⟨(h.ps p hp).1.keep fun b hb => o.2 b ((h.ps p hp).2.1 b hb), fun b hb => Nat.lt_of_lt_of_le ((h.ps p hp).2.1 b hb) o.1, (h.ps p hp).2.2⟩⟩
/-- While a step is made. -/
structure T4 (base m : Mem) (i7 : Nat) (d : DS) (ob : Option Nat) : Prop where
  o : Old base m
  n7 : base.next ≤ i7
  m7 : i7 < m.next
  g7 : m.get i7 = .own (dsC d (slV ob d.arms.length 2)) 29
  so : SlO m 49 2 ob (d.arms.flatMap Arm.cells) d.arms.length
  hob : ∀ i, ob = some i → base.next ≤ i
theorem T4.old {base m m' : Mem} {i7 : Nat} {d : DS} {ob : Option Nat} (h : T4 base m i7 d ob) (o : Old m m') : T4 base m' i7 d ob :=
  ⟨h.o.trans o, h.n7, Nat.lt_of_lt_of_le h.m7 o.1, (o.2 _ h.m7).trans h.g7, h.so.keep o.1 fun b hb => o.2 b (by subst hb; exact h.so.lt), h.hob⟩
theorem T4.store {w0 : World} {fr : Fr} {R : Value → Mem → Prop} {base m : Mem} {i7 : Nat} {d : DS} {ob : Option Nat} (h : T4 base m i7 d ob) (d' : DS) (j : Nat) (v : Value) {p x : Operand}
    (hp : ev fr p = .pointer (some ⟨i7, j, none⟩)) (hv : cellsV (ev fr x) = [v]) (hd : d'.arms = d.arms) (hc : putAt (dsC d (slV ob d.arms.length 2)) j [v] = dsC d' (slV ob d.arms.length 2)) (hj : j + 1 ≤ 7) (ho : oneC v = true)
    (hR : ∀ M, T4 base M i7 d' ob → (∀ i, i ≠ i7 → M.get i = m.get i) → M.next = m.next → R undef M) : SK Tryz.prog w0 (.e (.st 1 p x)) fr m R := by
  refine SK_stv (i := i7) (o := j) (vs := [v]) hp h.g7 hv hj rfl (by simp only [List.all_cons, List.all_nil, ho]; rfl) ?_
  rw [hc]
  refine hR _ ⟨h.o.set h.n7 _, h.n7, h.m7, by rw [Mem.set_same, hd], ?_, h.hob⟩ (fun i hi => Mem.set_other _ _ hi) rfl
  rw [hd]
  exact h.so.set (h.so.ne h.g7 (by intro c hc; cases hc)) _
end Go.Proofs.YtjlicambfepfiaaGreatDoor.Ab

set_option linter.unusedVariables false
set_option linter.unusedSimpArgs false
namespace Go.Proofs.YtjlicambfepfiaaGreatDoor.Ab
open Go Go.RowKit
set_option maxHeartbeats 4000000
set_option maxRecDepth 100000
/-- An arm by numbers is right. -/
def ArmG (a : Arm) : Prop := SafeL a.pat ∧ WordOk a.to ∧ a.pat.length ≤ 40 ∧ a.to.length ≤ 2
theorem T4.app {base m : Mem} {i7 : Nat} {d : DS} {ob : Option Nat} (h : T4 base m i7 d ob) (x : Arm) :
    T4 base (((m.kill ob).push (.own (d.arms.flatMap Arm.cells ++ x.cells) 49)).set i7 (.own (putAt (dsC d (slV ob d.arms.length 2)) 3 [slV (some m.next) (d.arms.length + 1) 2]) 29)) i7 { d with arms := d.arms ++ [x] } (some m.next) := by
  have hne : ob ≠ some i7 := h.so.ne h.g7 (by intro c hc; cases hc)
  have hlt := h.m7
  have hx : x.cells.length = 2 := rfl
  refine ⟨((h.o.kill h.hob).push _).set h.n7 _, h.n7, by simp [Mem.kill_nxt]; omega, ?_, ⟨?_, ?_, ?_⟩, ?_⟩
  · rw [Mem.set_same, List.length_append]; rfl
  · have := h.so.1
    simp only [List.flatMap_append, List.flatMap_cons, List.flatMap_nil, List.append_nil, List.length_append, List.length_cons, List.length_nil, hx, this]
    omega
  · rw [Mem.set_other _ _ (by omega), Mem.push_at _ _ (by simp [Mem.kill_nxt])]
    simp
  · simp [Mem.kill_nxt]
  · rintro i hi
    cases hi
    exact h.o.1
theorem w_pats {w0 : World} {Q : AQ} {fr : Fr} {base m : Mem} {i6 i7 : Nat} {a : Ac7} {d : DS} {n : Nat} (ha : AcV m a) (hl : a.pats.length ≤ maxLen) (h : T4 base m i7 d none) (hd : d.arms = []) (hn : 0 < n ∧ n ≤ 12)
    (g6 : m.get i6 = .own (acC a) 69) (n6 : i6 < m.next)
    (hab : ∀ b, blk a.av = some b → b ≠ i7) (hpb : ∀ p ∈ a.pats, ∀ b, blk p.1 = some b → b ≠ i7)
    (f3 : fr 3 = .int .i64 (n : Nat)) (f6 : fr 6 = .pointer (some ⟨i6, 0, none⟩)) (f7 : fr 7 = .pointer (some ⟨i7, 0, none⟩)) (f60 : fr 60 = a.av) (f61 : fr 61 = .int .i64 (a.pats.length : Nat)) (f62 : fr 62 = .int .i64 0)
    (hq : ∀ fr' m' al ob, Kept i7 m m' → T4 base m' i7 { d with arms := al } ob → (∀ i, ob = some i → m.next ≤ i) → (∀ x ∈ al, ArmG x) → al.length ≤ 3 → (∀ k ∈ [3, 4, 6, 7, 8, 18, 19, 20], fr' k = fr k) → Q .normal fr' m') : LoopW (AbW Tryz.prog w0 rc13_3) (inBlockA 3 Q) fr m := by
  refine LoopW_of (fun k ts m' => ∃ j al ob, j + k = a.pats.length ∧ Kept i7 m m' ∧ T4 base m' i7 { d with arms := al } ob ∧ (∀ i, ob = some i → m.next ≤ i) ∧ (∀ x ∈ al, ArmG x) ∧ al.length ≤ min j 3 ∧ (∀ k ∈ [3, 4, 6, 7, 8, 18, 19, 20], ts k = fr k) ∧ ts 60 = a.av ∧ ts 61 = .int .i64 (a.pats.length : Nat) ∧ ts 62 = .int .i64 (j : Nat)) a.pats.length ?_ ?_
  · exact ⟨0, [], none, by omega, Kept.refl _ _, by rw [← hd]; exact h, (fun i hi => by cases hi), (fun x hx => by cases hx), by simp, fun k _ => rfl, f60, f61, f62⟩
  · rintro k ts m1 K ⟨j, al, ob, hj, k1, h1, hob1, hA, hal, sm, t60, t61, t62⟩ hK
    simp -implicitDefEqProofs (disch := first | assumption | (simp only [wnA]; done) | (simp only [wnA]; omega) | omega | fail) [rc13_3, wkA, retV, stabOk, dC, ev, fillD, pickCells, putAt, bnd, slD, List.getElem?_cons_zero, List.getElem?_cons_succ, dR_sl, Mem.cell, Mem.row, wmA, t61, t62]
    by_cases hjl : j < a.pats.length
    · have hpm : a.pats[j] ∈ a.pats := List.getElem_mem hjl
      obtain ⟨bi, bo, L, hvv, hL, hLl, -, hLc⟩ := (ha.sl.keep fun b hb => k1.2 b (ha.bl b hb) (hab b hb) : SlR m1 1 a.av (a.pats.map Prod.fst) a.pats.length).at hjl
      have hc := hLc 0 (by omega)
      obtain ⟨hps, hpl, hpn⟩ := ha.ps _ hpm
      have hpb1 := hpb _ hpm
      simp only [Nat.mul_one, Nat.add_zero, List.getElem?_map, List.getElem?_eq_getElem hjl, Option.map_some] at hc
      obtain ⟨⟨pv, ns⟩, hx⟩ : ∃ x, a.pats[j] = x := ⟨_, rfl⟩
      rw [hx] at hc hps hpl hpn hpb1
      simp only at hc hps hpl hpn hpb1
      rw [hvv] at t60
      have hjw : IntKind.i64.wrap ((j : Int) + 1) = ((j + 1 : Nat) : Int) := by simp only [maxLen] at hl; rw [w64 (by omega)]; omega
      have e3 := (sm 3 (by simp)).trans f3
      have e6 := (sm 6 (by simp)).trans f6
      have e7 := (sm 7 (by simp)).trans f7
      simp -implicitDefEqProofs (disch := first | assumption | (simp only [wnA]; done) | (simp only [wnA]; omega) | omega | fail) [hjl, rc13_2, wkA, retV, stabOk, dC, ev, fillD, pickCells, putAt, bnd, slD, List.getElem?_cons_zero, List.getElem?_cons_succ, dR_sl, Mem.cell, Mem.row, wmA, t60, t62, sidx_at, hL, hc, getL hc]
      by_cases h3 : j < 3
      · have h3' : (j : Int) < 3 := by omega
        simp -implicitDefEqProofs (disch := first | assumption | (simp only [wnA]; done) | (simp only [wnA]; omega) | omega | fail) [wkA, retV, stabOk, dC, ev, fillD, pickCells, putAt, bnd, slD, List.getElem?_cons_zero, List.getElem?_cons_succ, dR_sl, Mem.cell, Mem.row, wmA, ltT h3', h3]
        refine c_Make (ns := ns) (hps.keep fun b hb => k1.2 b (hpl b hb) (hpb1 b hb)) (fun b hb => Nat.lt_of_lt_of_le (hpl b hb) k1.1) hpn fun m2 t nd o2 ht htl hnd => ?_
        obtain ⟨nk, na, nb, nc, ne, ns', rfl, hs1, hs2⟩ := hnd
        simp -implicitDefEqProofs (disch := first | assumption | (simp only [wnA]; done) | (simp only [wnA]; omega) | omega | fail) [wkA, retV, stabOk, dC, ev, fillD, pickCells, putAt, bnd, slD, List.getElem?_cons_zero, List.getElem?_cons_succ, dR_sl, Mem.cell, Mem.row, wmA]
        obtain ⟨M3, hM3⟩ : ∃ M, (m2.push (.own nod0 76)).set m2.next (.own (nodC nk na nb nc ne ns') 76) = M := ⟨_, rfl⟩
        refine SK_stm (i := m2.next) (o := 0) (vs := nodC nk na nb nc ne ns') (cs := nod0) (e := 76) (M := M3) (by simp [wkA, retV, stabOk, dC, ev, fillD, pickCells, putAt, bnd, slD, List.getElem?_cons_zero, List.getElem?_cons_succ, dR_sl]) (by simp -implicitDefEqProofs (disch := first | assumption | (simp only [wnA]; done) | (simp only [wnA]; omega) | omega | fail) [wkA, retV, stabOk, dC, ev, fillD, pickCells, putAt, bnd, slD, List.getElem?_cons_zero, List.getElem?_cons_succ, dR_sl, Mem.cell, Mem.row, wmA, nod0]) (by simp [wkA, retV, stabOk, dC, ev, fillD, pickCells, putAt, bnd, slD, List.getElem?_cons_zero, List.getElem?_cons_succ, dR_sl]) (by simp [nod0]) rfl (by simp only [nodC, List.all_cons, List.all_nil, hs1]; rfl) hM3 ?_
        have o3 : Old m2 M3 := by subst hM3; exact ((Old.refl m2).push _).set (Nat.le_refl _) _
        clear hM3
        have h3T := (h1.old o2).old o3
        have k3 : Kept i7 m M3 := k1.trans (o2.trans o3).kept
        have hn67 : i6 ≠ i7 := fun e => by
          have := h.g7
          rw [← e, g6] at this
          cases this
        have g63 : M3.get i6 = .own [.bool a.lb, .int .u8 (a.kd.toNat : Int), .int .u8 (a.tx.toNat : Int), a.av, .int .u8 (a.n.toNat : Int), .int .u8 (a.to.toNat : Int)] 69 := (k3.2 i6 n6 hn67).trans g6
        have g73 := h3T.g7
        simp only [dsC] at g73
        have htoL : a.to.toNat < 256 := a.to.toNat_lt
        have hr : dBin .rem (.int .i64 (IntKind.i64.wrap (IntKind.i64.wrap (a.to.toNat : Int) + (j : Int)))) (.int .i64 (n : Int)) = some (.int .i64 (((a.to.toNat + j) % n : Nat) : Int)) := by
          rw [w64 (show -9223372036854775808 ≤ (a.to.toNat : Int) ∧ (a.to.toNat : Int) ≤ 9223372036854775807 by omega), w64 (by omega), dBin_rem (by omega), Int.tmod_eq_emod_of_nonneg (by omega)]
          rfl
        have hrn : (a.to.toNat + j) % n < 26 := Nat.lt_of_lt_of_le (Nat.mod_lt _ hn.1) (by omega)
        generalize (a.to.toNat + j) % n = r at *
        simp -implicitDefEqProofs (disch := first | assumption | (simp only [wnA]; done) | (simp only [wnA]; omega) | omega | (simp only [List.length_append, List.length_cons, List.length_nil]; omega) | fail) [wkA, retV, stabOk, dC, ev, fillD, pickCells, putAt, bnd, slD, List.getElem?_cons_zero, List.getElem?_cons_succ, dR_sl, Mem.cell, Mem.row, wmA, e3, e6, e7, g63, g73, cat2, hr]
        refine c_label hrn ?_
        have hwl := wd_label hrn
        generalize UInt8.ofNat (97 + r) = rc at *
        simp -implicitDefEqProofs (disch := first | assumption | (simp only [wnA]; done) | (simp only [wnA]; omega) | omega | (simp only [List.length_append, List.length_cons, List.length_nil]; omega) | fail) [wkA, retV, stabOk, dC, ev, fillD, pickCells, putAt, bnd, slD, List.getElem?_cons_zero, List.getElem?_cons_succ, dR_sl, Mem.cell, Mem.row, wmA, e3, e6, e7, g63, g73, cat2]
        rw [SK_bsl (cs := [.string ⟨⟨98 :: t⟩⟩, .string ⟨⟨[115, rc]⟩⟩]) (by simp [wkA, retV, stabOk, dC, ev, fillD, pickCells, putAt, bnd, slD, List.getElem?_cons_zero, List.getElem?_cons_succ, dR_sl]) (by simp)]
        obtain ⟨M4, hM4⟩ : ∃ M, M3.push (.own [.string ⟨⟨98 :: t⟩⟩, .string ⟨⟨[115, rc]⟩⟩] 49) = M := ⟨_, rfl⟩
        have o4 : Old M3 M4 := by subst hM4; exact (Old.refl M3).push _
        have g4 : M4.get M3.next = .own [.string ⟨⟨98 :: t⟩⟩, .string ⟨⟨[115, rc]⟩⟩] 49 := by subst hM4; rw [Mem.push_same]
        rw [hM4]
        clear hM4
        have h4T := h3T.old o4
        have g74 := h4T.g7
        simp only [dsC] at g74
        simp -implicitDefEqProofs (disch := first | assumption | (simp only [wnA]; done) | (simp only [wnA]; omega) | omega | (simp only [List.length_append, List.length_cons, List.length_nil]; omega) | fail) [wkA, retV, stabOk, dC, ev, fillD, pickCells, putAt, bnd, slD, List.getElem?_cons_zero, List.getElem?_cons_succ, dR_sl, Mem.cell, Mem.row, wmA, e7, g74]
        have so4 : SlO M4 49 2 ob (al.flatMap Arm.cells) al.length := h4T.so
        refine SK_ap (ob := ob) (n := al.length) (k := 1) (cs := al.flatMap Arm.cells) (ys := [.string ⟨⟨98 :: t⟩⟩, .string ⟨⟨[115, rc]⟩⟩]) so4 (by simp [wkA, retV, stabOk, dC, ev, fillD, pickCells, putAt, bnd, slD, List.getElem?_cons_zero, List.getElem?_cons_succ, dR_sl]) (by simp -implicitDefEqProofs (disch := first | assumption | (simp only [wnA]; done) | (simp only [wnA]; omega) | omega | fail) [wkA, retV, stabOk, dC, ev, fillD, pickCells, putAt, bnd, slD, List.getElem?_cons_zero, List.getElem?_cons_succ, dR_sl, elemsV, Mem.cell, Mem.row, wmA, g4]) (by simp [wkA, retV, stabOk, dC, ev, fillD, pickCells, putAt, bnd, slD, List.getElem?_cons_zero, List.getElem?_cons_succ, dR_sl]) (by omega) rfl (by omega) (by simp only [maxLen]; omega) rfl ?_
        obtain ⟨M5, hM5⟩ : ∃ M, (M4.kill ob).push (.own (al.flatMap Arm.cells ++ [.string ⟨⟨98 :: t⟩⟩, .string ⟨⟨[115, rc]⟩⟩]) 49) = M := ⟨_, rfl⟩
        have g75 : M5.get i7 = .own (dsC { d with arms := al } (slV ob al.length 2)) 29 := by
          subst hM5
          have := h4T.m7
          rw [Mem.push_old _ _ (by rw [Mem.kill_nxt]; exact this), Mem.kill_other _ (h4T.so.ne h4T.g7 (by intro c hc; cases hc))]
          exact h4T.g7
        have k4 : Kept i7 m M4 := k3.trans o4.kept
        have k5 : Kept i7 m M5 := by
          subst hM5
          refine ⟨by simp only [Mem.push_nxt, Mem.kill_nxt]; have := k4.1; omega, fun i hi hn => ?_⟩
          have := k4.1
          rw [Mem.push_old _ _ (by rw [Mem.kill_nxt]; omega), Mem.kill_other _ (fun e => by have := hob1 i e; omega)]
          exact k4.2 i hi hn
        have hT5 : T4 base (M5.set i7 (.own (putAt (dsC { d with arms := al } (slV ob al.length 2)) 3 [slV (some M4.next) (al.length + 1) 2]) 29)) i7 { d with arms := al ++ [⟨98 :: t, [115, rc]⟩] } (some M4.next) := by subst hM5; exact h4T.app ⟨98 :: t, [115, rc]⟩
        have hm4 : m.next ≤ M4.next := k4.1
        obtain ⟨M6, hM6⟩ : ∃ M, M5.set i7 (.own (putAt (dsC { d with arms := al } (slV ob al.length 2)) 3 [slV (some M4.next) (al.length + 1) 2]) 29) = M := ⟨_, rfl⟩
        rw [hM6] at hT5
        have k6 : Kept i7 m M6 := by subst hM6; exact k5.trans ⟨by simp, fun i hi hn => Mem.set_other _ _ hn⟩
        rw [hM5]
        simp -implicitDefEqProofs (disch := first | assumption | (simp only [wnA]; done) | (simp only [wnA]; omega) | omega | (simp only [List.length_append, List.length_cons, List.length_nil]; omega) | fail) [wkA, retV, stabOk, dC, ev, fillD, pickCells, putAt, bnd, slD, List.getElem?_cons_zero, List.getElem?_cons_succ, dR_sl, Mem.cell, Mem.row, wmA, e7]
        refine SK_stm (i := i7) (o := 3) (vs := [slV (some M4.next) (al.length + 1) 2]) (cs := dsC { d with arms := al } (slV ob al.length 2)) (e := 29) (M := M6) (by simp [wkA, retV, stabOk, dC, ev, fillD, pickCells, putAt, bnd, slD, List.getElem?_cons_zero, List.getElem?_cons_succ, dR_sl, e7]) g75 (by simp [wkA, retV, stabOk, dC, ev, fillD, pickCells, putAt, bnd, slD, List.getElem?_cons_zero, List.getElem?_cons_succ, dR_sl, slV]) (by simp [dsC]) rfl rfl hM6 ?_
        clear hM6
        simp -implicitDefEqProofs (disch := first | assumption | (simp only [wnA]; done) | (simp only [wnA]; omega) | omega | fail) [wkA, retV, stabOk, dC, ev, fillD, pickCells, putAt, bnd, slD, List.getElem?_cons_zero, List.getElem?_cons_succ, dR_sl, Mem.cell, Mem.row, wmA, t62, hjw]
        refine hK (k - 1) _ _ (by omega) ⟨j + 1, al ++ [⟨98 :: t, [115, rc]⟩], some M4.next, by omega, ?_, hT5, fun i hi => by cases hi; exact hm4, ?_, by simp only [List.length_append, List.length_cons, List.length_nil]; omega, fun q hq => (by
          have := sm q hq
          simp only [List.mem_cons, List.not_mem_nil, or_false] at hq
          rcases hq with rfl | rfl | rfl | rfl | rfl | rfl | rfl | rfl <;> simp [this]), by simp [t60, hvv], by simp [t61], by simp⟩
        · exact k6
        · intro x hx
          rcases List.mem_append.1 hx with hx | hx
          · exact hA x hx
          · simp only [List.mem_singleton] at hx
            subst hx
            exact ⟨SafeL.cons (by decide) ht, hwl, by simp only [List.length_cons]; omega, by simp⟩
      · have h3' : ¬ (j : Int) < 3 := by omega
        simp -implicitDefEqProofs (disch := first | assumption | (simp only [wnA]; done) | (simp only [wnA]; omega) | omega | fail) [wkA, retV, stabOk, dC, ev, fillD, pickCells, putAt, bnd, slD, List.getElem?_cons_zero, List.getElem?_cons_succ, dR_sl, Mem.cell, Mem.row, wmA, h3, h3', t62, hjw]
        exact hK (k - 1) _ _ (by omega) ⟨j + 1, al, ob, by omega, k1, h1, hob1, hA, by omega, fun q hq => (by
          have := sm q hq
          simp only [List.mem_cons, List.not_mem_nil, or_false] at hq
          rcases hq with rfl | rfl | rfl | rfl | rfl | rfl | rfl | rfl <;> simp [this]), by simp [t60, hvv], by simp [t61], by simp⟩
    · simp -implicitDefEqProofs (disch := first | assumption | (simp only [wnA]; done) | (simp only [wnA]; omega) | omega | fail) [hjl, wkA, retV, stabOk, dC, ev, fillD, pickCells, putAt, bnd, slD, List.getElem?_cons_zero, List.getElem?_cons_succ, dR_sl, Mem.cell, Mem.row, wmA]
      exact hq _ m1 al ob k1 h1 hob1 hA (by omega) (fun q hq => by
        have := sm q hq
        simp only [List.mem_cons, List.not_mem_nil, or_false] at hq
        rcases hq with rfl | rfl | rfl | rfl | rfl | rfl | rfl | rfl <;> simp [this])
end Go.Proofs.YtjlicambfepfiaaGreatDoor.Ab

set_option linter.unusedVariables false
set_option linter.unusedSimpArgs false
namespace Go.Proofs.YtjlicambfepfiaaGreatDoor.Ab
open Go Go.RowKit
set_option maxHeartbeats 4000000
set_option maxRecDepth 100000
def rcL : RC → RC
  | .seq a _ => a
  | x => x
def rcR : RC → RC
  | .seq _ b => b
  | x => x
def kinds13 : RC := rcR (rcL (rcR rc13_5))
def pre13 : RC := rcL rc13_5
def pre13b : RC := rcL (rcL (rcR rc13_5))
def tail13 : RC := rcR (rcR rc13_5)
theorem parts13 : rc13_5 = .seq pre13 (.seq (.seq pre13b kinds13) tail13) := rfl
/-- The steps that are made so far. -/
structure OutS (b m : Mem) (l : List DB) (ob : Option Nat) : Prop where
  o : Old b m
  so : SlO m 29 7 ob (l.flatMap dbC) l.length
  hob : ∀ i, ob = some i → b.next ≤ i
  aa : ArmsAt m b.next l
theorem OutS.old {b m m' : Mem} {l : List DB} {ob : Option Nat} (h : OutS b m l ob) (o : Old m m') : OutS b m' l ob :=
  ⟨h.o.trans o, h.so.keep o.1 fun j hj => o.2 j (by subst hj; exact h.so.lt), h.hob, fun x hx => ⟨(h.aa x hx).1.keep o.1 fun j hj => o.2 j (by have := (h.aa x hx).1; rw [hj] at this; exact this.lt), (h.aa x hx).2⟩⟩
theorem OutS.app {b m : Mem} {l : List DB} {ob : Option Nat} (h : OutS b m l ob) {d : DS} {oa : Option Nat} (sa : SlO m 49 2 oa (d.arms.flatMap Arm.cells) d.arms.length) (hoa : ∀ i, oa = some i → b.next ≤ i) :
    OutS b ((m.kill ob).push (.own (l.flatMap dbC ++ dsC d (slV oa d.arms.length 2)) 29)) (l ++ [(d, oa)]) (some m.next) := by
  refine ⟨(h.o.kill h.hob).push _, ?_, fun i hi => by cases hi; exact h.o.1, fun x hx => ?_⟩
  · have e : (l ++ [(d, oa)]).flatMap dbC = l.flatMap dbC ++ dsC d (slV oa d.arms.length 2) := by simp [dbC]
    rw [e, List.length_append]
    exact SlO.new (by rw [List.length_append, h.so.1]; show l.length * 7 + 7 = _; simp only [List.length_singleton]; omega)
  · rcases List.mem_append.1 hx with hx | hx
    · exact ⟨((h.aa x hx).1.kill ((h.aa x hx).1.ne2 h.so (by decide))).push _, (h.aa x hx).2⟩
    · rw [List.mem_singleton] at hx
      subst hx
      exact ⟨(sa.kill (sa.ne2 h.so (by decide))).push _, hoa⟩
/-- The texts that are sent. -/
def sends : List (List UInt8) := [[13], [98, 111, 111, 116, 13, 10], [97, 32, 98], [], [34, 113, 92]]
theorem sends_ok : ∀ t ∈ sends, StrOk t ∧ t.length ≤ 60 := fun t ht => by
  have h : ∀ t ∈ sends, (t.all fun c => (escC c).isSome) = true ∧ t.length ≤ 60 := by decide +kernel
  obtain ⟨h1, h2⟩ := h t ht
  rw [List.all_eq_true] at h1
  exact ⟨SafeL.ok h1, h2⟩
theorem arrow_ok : StrOk [61, 62, 32] := SafeL.ok (SafeL.cons (by decide +kernel) (SafeL.cons (by decide +kernel) (SafeL.cons (by decide +kernel) fun x hx => by cases hx)))
theorem T4.lit {base m : Mem} {i7 : Nat} {d : DS} {ob : Option Nat} (h : T4 base m i7 d ob) (x : Arm) :
    T4 base ((m.push (.own x.cells 49)).set i7 (.own (putAt (dsC d (slV ob d.arms.length 2)) 3 [slV (some m.next) 1 2]) 29)) i7 { d with arms := [x] } (some m.next) := by
  have hlt := h.m7
  refine ⟨(h.o.push _).set h.n7 _, h.n7, by simp; omega, by rw [Mem.set_same]; rfl, ⟨rfl, ?_, by simp⟩, fun i hi => by cases hi; exact h.o.1⟩
  rw [Mem.set_other _ _ (by omega), Mem.push_same]
  simp
theorem w_kinds {w0 : World} {Q : AQ} {fr : Fr} {base m : Mem} {i6 i7 : Nat} {a : Ac7} {lb to : List UInt8} {n kd : Nat} (ha : AcV m a) (hl : a.pats.length ≤ maxLen) (h : T4 base m i7 ⟨lb, (kd : Int), [], [], 0, [], 0⟩ none) (hn : 0 < n ∧ n ≤ 12) (hkd : kd < 6)
    (hlb : WordOk lb ∧ lb.length ≤ 2) (hto : WordOk to ∧ to.length ≤ 2)
    (g6 : m.get i6 = .own (acC a) 69) (n6 : i6 < m.next)
    (hab : ∀ b, blk a.av = some b → b ≠ i7) (hpb : ∀ p ∈ a.pats, ∀ b, blk p.1 = some b → b ≠ i7)
    (f3 : fr 3 = .int .i64 (n : Nat)) (f6 : fr 6 = .pointer (some ⟨i6, 0, none⟩)) (f7 : fr 7 = .pointer (some ⟨i7, 0, none⟩)) (f8 : fr 8 = .string ⟨⟨to⟩⟩) (f39 : fr 39 = .int .i64 (kd : Nat))
    (hq : ∀ fr' m' d oa, Kept i7 m m' → T4 base m' i7 d oa → WFS 60 d → (∀ k ∈ [3, 4, 7, 18, 19, 20], fr' k = fr k) → Q .normal fr' m') : AbW Tryz.prog w0 kinds13 Q fr m := by
  have g7 := h.g7
  have hn67 : i6 ≠ i7 := fun e => by
    rw [← e, g6] at g7
    cases g7
  have hk := Kept.refl i7 m
  have wl : WordOk lb ∧ lb.length ≤ 60 := ⟨hlb.1, by omega⟩
  have wt : WordOk to ∧ to.length ≤ 60 := ⟨hto.1, by omega⟩
  have g63 : m.get i6 = .own [.bool a.lb, .int .u8 (a.kd.toNat : Int), .int .u8 (a.tx.toNat : Int), a.av, .int .u8 (a.n.toNat : Int), .int .u8 (a.to.toNat : Int)] 69 := g6
  rcases (show kd = 0 ∨ kd = 1 ∨ kd = 2 ∨ kd = 3 ∨ kd = 4 ∨ kd = 5 by omega) with rfl | rfl | rfl | rfl | rfl | rfl
  · have r1 := rem_u8 (k := a.tx.toNat) (b := 5) (by omega)
    have hr5 : a.tx.toNat % 5 < 5 := Nat.mod_lt _ (by omega)
    generalize a.tx.toNat % 5 = r at *
    have r1 : dBin .rem (.int .u8 (a.tx.toNat : Int)) (.int .u8 5) = some (.int .u8 (r : Int)) := r1
    simp -implicitDefEqProofs (disch := first | assumption | (simp only [wnA]; done) | (simp only [wnA]; omega) | omega | fail) [kinds13, rcR, rcL, rc13_5, wkA, retV, stabOk, dC, ev, fillD, pickCells, putAt, bnd, slD, List.getElem?_cons_zero, List.getElem?_cons_succ, dR.eq_20, Mem.cell, Mem.row, wmA, f39, f8, f7]
    rw [SK_bsl (cs := [.string ⟨#[13]⟩, .string ⟨#[98, 111, 111, 116, 13, 10]⟩, .string ⟨#[97, 32, 98]⟩, .string ⟨#[]⟩, .string ⟨#[34, 113, 92]⟩]) (by simp [wkA, retV, stabOk, dC, ev, fillD, pickCells, putAt, bnd, slD, List.getElem?_cons_zero, List.getElem?_cons_succ, dR.eq_20]) (by simp)]
    obtain ⟨M1, hM1⟩ : ∃ M, m.push (.own [.string ⟨#[13]⟩, .string ⟨#[98, 111, 111, 116, 13, 10]⟩, .string ⟨#[97, 32, 98]⟩, .string ⟨#[]⟩, .string ⟨#[34, 113, 92]⟩] 9) = M := ⟨_, rfl⟩
    have o1 : Old m M1 := by subst hM1; exact (Old.refl m).push _
    have g1 : M1.get m.next = .own [.string ⟨#[13]⟩, .string ⟨#[98, 111, 111, 116, 13, 10]⟩, .string ⟨#[97, 32, 98]⟩, .string ⟨#[]⟩, .string ⟨#[34, 113, 92]⟩] 9 := by subst hM1; rw [Mem.push_same]
    rw [hM1]
    clear hM1
    have g61 := (o1.2 _ n6).trans g63
    have h1 := h.old o1
    have fin : ∀ (t : List UInt8) (M : Mem) (fr' : Fr), t ∈ sends → T4 base M i7 ⟨lb, 0, t, [], 0, [], 0⟩ none → (∀ i, i ≠ i7 → M.get i = M1.get i) → M.next = M1.next → (∀ k ∈ [3, 4, 7, 18, 19, 20], fr' k = fr k) → Q .normal fr' M := fun t M fr' ht hM oM nM hf =>
      hq _ M _ none (o1.kept.trans ⟨Nat.le_of_eq nM.symm, fun i _ hi => oM i hi⟩) hM ⟨⟨.inr wl.1, .inl ⟨rfl, (sends_ok t ht).1, rfl, rfl, rfl⟩⟩, wl.2, (sends_ok t ht).2, by simp, by simp, by simp⟩ hf
    have hs : sidx 1 (.slice (some ⟨m.next, 0, none⟩) 5 1) (.int .u8 (r : Int)) = some (.pointer (some ⟨m.next, r, none⟩)) := by simpa using sidx_at (b := m.next) (o := 0) (n := 5) (c := 1) (j := r) (sz := 1) (k := .u8) hr5
    rcases (show r = 0 ∨ r = 1 ∨ r = 2 ∨ r = 3 ∨ r = 4 by omega) with rfl | rfl | rfl | rfl | rfl
    · simp at hs
      simp -implicitDefEqProofs (disch := first | assumption | (simp only [wnA]; done) | (simp only [wnA]; omega) | omega | fail) [wkA, retV, stabOk, dC, ev, fillD, pickCells, putAt, bnd, slD, List.getElem?_cons_zero, List.getElem?_cons_succ, dR.eq_20, Mem.cell, Mem.row, wmA, g61, g1, r1, f6, f7, hs]
      refine h1.store ⟨lb, 0, [13], [], 0, [], 0⟩ 2 (.string ⟨⟨[13]⟩⟩) (by simp [wkA, retV, stabOk, dC, ev, fillD, pickCells, putAt, bnd, slD, List.getElem?_cons_zero, List.getElem?_cons_succ, dR.eq_20, f7]) (by simp [wkA, retV, stabOk, dC, ev, fillD, pickCells, putAt, bnd, slD, List.getElem?_cons_zero, List.getElem?_cons_succ, dR.eq_20]) rfl rfl (by omega) rfl fun M hM oM nM => ?_
      simp -implicitDefEqProofs (disch := first | assumption | (simp only [wnA]; done) | (simp only [wnA]; omega) | omega | fail) [wkA, retV, stabOk, dC, ev, fillD, pickCells, putAt, bnd, slD, List.getElem?_cons_zero, List.getElem?_cons_succ, dR.eq_20, Mem.cell, Mem.row, wmA]
      refine fin [13] M _ (by simp [sends]) hM oM nM fun k hk => ?_
      simp only [List.mem_cons, List.not_mem_nil, or_false] at hk
      rcases hk with rfl | rfl | rfl | rfl | rfl | rfl <;> simp [f7]
    · simp at hs
      simp -implicitDefEqProofs (disch := first | assumption | (simp only [wnA]; done) | (simp only [wnA]; omega) | omega | fail) [wkA, retV, stabOk, dC, ev, fillD, pickCells, putAt, bnd, slD, List.getElem?_cons_zero, List.getElem?_cons_succ, dR.eq_20, Mem.cell, Mem.row, wmA, g61, g1, r1, f6, f7, hs]
      refine h1.store ⟨lb, 0, [98, 111, 111, 116, 13, 10], [], 0, [], 0⟩ 2 (.string ⟨⟨[98, 111, 111, 116, 13, 10]⟩⟩) (by simp [wkA, retV, stabOk, dC, ev, fillD, pickCells, putAt, bnd, slD, List.getElem?_cons_zero, List.getElem?_cons_succ, dR.eq_20, f7]) (by simp [wkA, retV, stabOk, dC, ev, fillD, pickCells, putAt, bnd, slD, List.getElem?_cons_zero, List.getElem?_cons_succ, dR.eq_20]) rfl rfl (by omega) rfl fun M hM oM nM => ?_
      simp -implicitDefEqProofs (disch := first | assumption | (simp only [wnA]; done) | (simp only [wnA]; omega) | omega | fail) [wkA, retV, stabOk, dC, ev, fillD, pickCells, putAt, bnd, slD, List.getElem?_cons_zero, List.getElem?_cons_succ, dR.eq_20, Mem.cell, Mem.row, wmA]
      refine fin [98, 111, 111, 116, 13, 10] M _ (by simp [sends]) hM oM nM fun k hk => ?_
      simp only [List.mem_cons, List.not_mem_nil, or_false] at hk
      rcases hk with rfl | rfl | rfl | rfl | rfl | rfl <;> simp [f7]
    · simp at hs
      simp -implicitDefEqProofs (disch := first | assumption | (simp only [wnA]; done) | (simp only [wnA]; omega) | omega | fail) [wkA, retV, stabOk, dC, ev, fillD, pickCells, putAt, bnd, slD, List.getElem?_cons_zero, List.getElem?_cons_succ, dR.eq_20, Mem.cell, Mem.row, wmA, g61, g1, r1, f6, f7, hs]
      refine h1.store ⟨lb, 0, [97, 32, 98], [], 0, [], 0⟩ 2 (.string ⟨⟨[97, 32, 98]⟩⟩) (by simp [wkA, retV, stabOk, dC, ev, fillD, pickCells, putAt, bnd, slD, List.getElem?_cons_zero, List.getElem?_cons_succ, dR.eq_20, f7]) (by simp [wkA, retV, stabOk, dC, ev, fillD, pickCells, putAt, bnd, slD, List.getElem?_cons_zero, List.getElem?_cons_succ, dR.eq_20]) rfl rfl (by omega) rfl fun M hM oM nM => ?_
      simp -implicitDefEqProofs (disch := first | assumption | (simp only [wnA]; done) | (simp only [wnA]; omega) | omega | fail) [wkA, retV, stabOk, dC, ev, fillD, pickCells, putAt, bnd, slD, List.getElem?_cons_zero, List.getElem?_cons_succ, dR.eq_20, Mem.cell, Mem.row, wmA]
      refine fin [97, 32, 98] M _ (by simp [sends]) hM oM nM fun k hk => ?_
      simp only [List.mem_cons, List.not_mem_nil, or_false] at hk
      rcases hk with rfl | rfl | rfl | rfl | rfl | rfl <;> simp [f7]
    · simp at hs
      simp -implicitDefEqProofs (disch := first | assumption | (simp only [wnA]; done) | (simp only [wnA]; omega) | omega | fail) [wkA, retV, stabOk, dC, ev, fillD, pickCells, putAt, bnd, slD, List.getElem?_cons_zero, List.getElem?_cons_succ, dR.eq_20, Mem.cell, Mem.row, wmA, g61, g1, r1, f6, f7, hs]
      refine h1.store ⟨lb, 0, [], [], 0, [], 0⟩ 2 (.string ⟨⟨[]⟩⟩) (by simp [wkA, retV, stabOk, dC, ev, fillD, pickCells, putAt, bnd, slD, List.getElem?_cons_zero, List.getElem?_cons_succ, dR.eq_20, f7]) (by simp [wkA, retV, stabOk, dC, ev, fillD, pickCells, putAt, bnd, slD, List.getElem?_cons_zero, List.getElem?_cons_succ, dR.eq_20]) rfl rfl (by omega) rfl fun M hM oM nM => ?_
      simp -implicitDefEqProofs (disch := first | assumption | (simp only [wnA]; done) | (simp only [wnA]; omega) | omega | fail) [wkA, retV, stabOk, dC, ev, fillD, pickCells, putAt, bnd, slD, List.getElem?_cons_zero, List.getElem?_cons_succ, dR.eq_20, Mem.cell, Mem.row, wmA]
      refine fin [] M _ (by simp [sends]) hM oM nM fun k hk => ?_
      simp only [List.mem_cons, List.not_mem_nil, or_false] at hk
      rcases hk with rfl | rfl | rfl | rfl | rfl | rfl <;> simp [f7]
    · simp at hs
      simp -implicitDefEqProofs (disch := first | assumption | (simp only [wnA]; done) | (simp only [wnA]; omega) | omega | fail) [wkA, retV, stabOk, dC, ev, fillD, pickCells, putAt, bnd, slD, List.getElem?_cons_zero, List.getElem?_cons_succ, dR.eq_20, Mem.cell, Mem.row, wmA, g61, g1, r1, f6, f7, hs]
      refine h1.store ⟨lb, 0, [34, 113, 92], [], 0, [], 0⟩ 2 (.string ⟨⟨[34, 113, 92]⟩⟩) (by simp [wkA, retV, stabOk, dC, ev, fillD, pickCells, putAt, bnd, slD, List.getElem?_cons_zero, List.getElem?_cons_succ, dR.eq_20, f7]) (by simp [wkA, retV, stabOk, dC, ev, fillD, pickCells, putAt, bnd, slD, List.getElem?_cons_zero, List.getElem?_cons_succ, dR.eq_20]) rfl rfl (by omega) rfl fun M hM oM nM => ?_
      simp -implicitDefEqProofs (disch := first | assumption | (simp only [wnA]; done) | (simp only [wnA]; omega) | omega | fail) [wkA, retV, stabOk, dC, ev, fillD, pickCells, putAt, bnd, slD, List.getElem?_cons_zero, List.getElem?_cons_succ, dR.eq_20, Mem.cell, Mem.row, wmA]
      refine fin [34, 113, 92] M _ (by simp [sends]) hM oM nM fun k hk => ?_
      simp only [List.mem_cons, List.not_mem_nil, or_false] at hk
      rcases hk with rfl | rfl | rfl | rfl | rfl | rfl <;> simp [f7]
  · have r1 := rem_u8 (k := a.n.toNat) (b := 9) (by omega)
    have hr9 : a.n.toNat % 9 < 9 := Nat.mod_lt _ (by omega)
    generalize a.n.toNat % 9 = r at *
    have r1 : dBin .rem (.int .u8 (a.n.toNat : Int)) (.int .u8 9) = some (.int .u8 (r : Int)) := r1
    have e1 : IntKind.i64.wrap (r : Int) = (r : Int) := w64 (by omega)
    have e2 : IntKind.i64.wrap (1 + (r : Int)) = 1 + (r : Int) := w64 (by omega)
    simp -implicitDefEqProofs (disch := first | assumption | (simp only [wnA]; done) | (simp only [wnA]; omega) | omega | fail) [kinds13, rcR, rcL, rc13_5, wkA, retV, stabOk, dC, ev, fillD, pickCells, putAt, bnd, slD, List.getElem?_cons_zero, List.getElem?_cons_succ, dR.eq_20, Mem.cell, Mem.row, wmA, f39, f8, f7, f6, g63, r1, e1, e2]
    refine h.store ⟨lb, 1, [], [], 1 + (r : Int), [], 0⟩ 4 (.int .i64 (1 + (r : Int))) (by simp [wkA, retV, stabOk, dC, ev, fillD, pickCells, putAt, bnd, slD, List.getElem?_cons_zero, List.getElem?_cons_succ, dR.eq_20, f7]) (by simp [wkA, retV, stabOk, dC, ev, fillD, pickCells, putAt, bnd, slD, List.getElem?_cons_zero, List.getElem?_cons_succ, dR.eq_20]) rfl rfl (by omega) rfl fun M hM oM nM => ?_
    simp -implicitDefEqProofs (disch := first | assumption | (simp only [wnA]; done) | (simp only [wnA]; omega) | omega | fail) [wkA, retV, stabOk, dC, ev, fillD, pickCells, putAt, bnd, slD, List.getElem?_cons_zero, List.getElem?_cons_succ, dR.eq_20, Mem.cell, Mem.row, wmA, f7]
    refine hM.store ⟨lb, 1, [], [], 1 + (r : Int), to, 0⟩ 5 (.string ⟨⟨to⟩⟩) (by simp [wkA, retV, stabOk, dC, ev, fillD, pickCells, putAt, bnd, slD, List.getElem?_cons_zero, List.getElem?_cons_succ, dR.eq_20, f7]) (by simp [wkA, retV, stabOk, dC, ev, fillD, pickCells, putAt, bnd, slD, List.getElem?_cons_zero, List.getElem?_cons_succ, dR.eq_20]) rfl rfl (by omega) rfl fun M2 hM2 oM2 nM2 => ?_
    have k2 : Kept i7 m M2 := ⟨by omega, fun i _ hi => by rw [oM2 i hi, oM i hi]⟩
    have g64 : M2.get i6 = .own (acC a) 69 := (k2.2 i6 n6 hn67).trans g6
    have g65 : M2.get i6 = .own [.bool a.lb, .int .u8 (a.kd.toNat : Int), .int .u8 (a.tx.toNat : Int), a.av, .int .u8 (a.n.toNat : Int), .int .u8 (a.to.toNat : Int)] 69 := g64
    have ha2 : AcV M2 a := ⟨ha.sl.keep fun b hb => k2.2 b (ha.bl b hb) (hab b hb), fun b hb => Nat.lt_of_lt_of_le (ha.bl b hb) k2.1, fun p hp => ⟨(ha.ps p hp).1.keep fun b hb => k2.2 b ((ha.ps p hp).2.1 b hb) (hpb p hp b hb), fun b hb => Nat.lt_of_lt_of_le ((ha.ps p hp).2.1 b hb) k2.1, (ha.ps p hp).2.2⟩⟩
    have hsl := ha2.sl.slen
    simp -implicitDefEqProofs (disch := first | assumption | (simp only [wnA]; done) | (simp only [wnA]; omega) | omega | fail) [wkA, retV, stabOk, dC, ev, fillD, pickCells, putAt, bnd, slD, List.getElem?_cons_zero, List.getElem?_cons_succ, dR.eq_20, Mem.cell, Mem.row, wmA, f6, g65, hsl]
    refine w_pats ha2 hl hM2 rfl hn g64 (Nat.lt_of_lt_of_le n6 k2.1) hab hpb (by simp [f3]) (by simp [f6]) (by simp [f7]) (by simp) (by simp) (by simp) ?_
    intro fr' m' al ob kk hT hob hA hal hf
    have e7 := (hf 7 (by simp)).trans (by simp [f7] : _ = Value.pointer (some ⟨i7, 0, none⟩))
    have e8 := (hf 8 (by simp)).trans (by simp [f8] : _ = Value.string ⟨⟨to⟩⟩)
    have g7' := hT.g7
    have hlen := hT.so.slen
    simp only [dsC] at g7' hlen
    have kT := k2.trans kk
    by_cases h0 : al = []
    · subst h0
      simp only [List.length_nil] at g7' hlen
      simp -implicitDefEqProofs (disch := first | assumption | (simp only [wnA]; done) | (simp only [wnA]; omega) | omega | fail) [rc13_4, wkA, retV, stabOk, dC, ev, fillD, pickCells, putAt, bnd, slD, List.getElem?_cons_zero, List.getElem?_cons_succ, dR.eq_20, Mem.cell, Mem.row, wmA, e7, e8, g7', hlen]
      rw [SK_bsl (cs := [.string ⟨#[61, 62, 32]⟩, .string ⟨⟨to⟩⟩]) (by simp [wkA, retV, stabOk, dC, ev, fillD, pickCells, putAt, bnd, slD, List.getElem?_cons_zero, List.getElem?_cons_succ, dR.eq_20]) (by simp)]
      have hL := hT.lit ⟨[61, 62, 32], to⟩
      obtain ⟨M3, hM3⟩ : ∃ M, m'.push (.own [.string ⟨#[61, 62, 32]⟩, .string ⟨⟨to⟩⟩] 49) = M := ⟨_, rfl⟩
      have o3 : Old m' M3 := by subst hM3; exact (Old.refl m').push _
      have g73 := (o3.2 _ hT.m7).trans hT.g7
      have hL : T4 base (M3.set i7 (.own (putAt (dsC ⟨lb, 1, [], [], 1 + (r : Int), to, 0⟩ (slV ob 0 2)) 3 [slV (some m'.next) 1 2]) 29)) i7 ⟨lb, 1, [], [⟨[61, 62, 32], to⟩], 1 + (r : Int), to, 0⟩ (some m'.next) := by subst hM3; exact hL
      rw [hM3]
      clear hM3
      obtain ⟨M4, hM4⟩ : ∃ M, M3.set i7 (.own (putAt (dsC ⟨lb, 1, [], [], 1 + (r : Int), to, 0⟩ (slV ob 0 2)) 3 [slV (some m'.next) 1 2]) 29) = M := ⟨_, rfl⟩
      rw [hM4] at hL
      have k4 : Kept i7 m M4 := by subst hM4; exact (kT.trans o3.kept).trans ⟨by simp, fun i hi hn => Mem.set_other _ _ hn⟩
      simp -implicitDefEqProofs (disch := first | assumption | (simp only [wnA]; done) | (simp only [wnA]; omega) | omega | fail) [wkA, retV, stabOk, dC, ev, fillD, pickCells, putAt, bnd, slD, List.getElem?_cons_zero, List.getElem?_cons_succ, dR.eq_20, Mem.cell, Mem.row, wmA, e7]
      refine SK_stm (i := i7) (o := 3) (vs := [slV (some m'.next) 1 2]) (cs := dsC ⟨lb, 1, [], [], 1 + (r : Int), to, 0⟩ (slV ob 0 2)) (e := 29) (M := M4) (by simp [wkA, retV, stabOk, dC, ev, fillD, pickCells, putAt, bnd, slD, List.getElem?_cons_zero, List.getElem?_cons_succ, dR.eq_20, e7]) g73 (by simp [wkA, retV, stabOk, dC, ev, fillD, pickCells, putAt, bnd, slD, List.getElem?_cons_zero, List.getElem?_cons_succ, dR.eq_20, slV]) (by simp [dsC]) rfl rfl hM4 ?_
      simp -implicitDefEqProofs (disch := first | assumption | (simp only [wnA]; done) | (simp only [wnA]; omega) | omega | fail) [wkA, retV, stabOk, dC, ev, fillD, pickCells, putAt, bnd, slD, List.getElem?_cons_zero, List.getElem?_cons_succ, dR.eq_20, Mem.cell, Mem.row, wmA]
      refine hq _ M4 _ _ k4 hL ⟨⟨.inr wl.1, .inr (.inl ⟨rfl, rfl, by simp, fun x hx => ?_, ⟨by show 1 ≤ 1 + (r : Int); omega, by show 1 + (r : Int) ≤ 99; omega⟩, wt.1⟩)⟩, wl.2, by simp, wt.2, fun x hx => ?_, by simp⟩ fun k hk => ?_
      · rw [List.mem_singleton] at hx; subst hx; exact ⟨arrow_ok, wt.1⟩
      · rw [List.mem_singleton] at hx; subst hx; exact ⟨by simp, wt.2⟩
      · have := hf k (by simp only [List.mem_cons, List.not_mem_nil, or_false] at hk ⊢; omega)
        simp only [List.mem_cons, List.not_mem_nil, or_false] at hk
        rcases hk with rfl | rfl | rfl | rfl | rfl | rfl <;> simp [this]
    · have hl0 : ((al.length : Int) == 0) = false := beqF (by have : al.length ≠ 0 := fun e => h0 (List.length_eq_zero_iff.1 e); omega)
      simp -implicitDefEqProofs (disch := first | assumption | (simp only [wnA]; done) | (simp only [wnA]; omega) | omega | fail) [rc13_4, wkA, retV, stabOk, dC, ev, fillD, pickCells, putAt, bnd, slD, List.getElem?_cons_zero, List.getElem?_cons_succ, dR.eq_20, Mem.cell, Mem.row, wmA, e7, e8, g7', hlen, hl0]
      refine hq _ m' _ _ kT hT ⟨⟨.inr wl.1, .inr (.inl ⟨rfl, rfl, h0, fun x hx => ⟨SafeL.ok (hA x hx).1, (hA x hx).2.1⟩, ⟨by show 1 ≤ 1 + (r : Int); omega, by show 1 + (r : Int) ≤ 99; omega⟩, wt.1⟩)⟩, wl.2, by simp, wt.2, fun x hx => ⟨by have := (hA x hx).2.2.1; omega, by have := (hA x hx).2.2.2; omega⟩, by show al.length ≤ 60; omega⟩ fun k hk => ?_
      have := hf k (by simp only [List.mem_cons, List.not_mem_nil, or_false] at hk ⊢; omega)
      simp only [List.mem_cons, List.not_mem_nil, or_false] at hk
      rcases hk with rfl | rfl | rfl | rfl | rfl | rfl <;> simp [this]
  · simp -implicitDefEqProofs (disch := first | assumption | (simp only [wnA]; done) | (simp only [wnA]; omega) | omega | fail) [kinds13, rcR, rcL, rc13_5, wkA, retV, stabOk, dC, ev, fillD, pickCells, putAt, bnd, slD, List.getElem?_cons_zero, List.getElem?_cons_succ, dR.eq_20, Mem.cell, Mem.row, wmA, f39, f8, f7]
    refine h.store ⟨lb, 2, [], [], 0, to, 0⟩ 5 (.string ⟨⟨to⟩⟩) (by simp [wkA, retV, stabOk, dC, ev, fillD, pickCells, putAt, bnd, slD, List.getElem?_cons_zero, List.getElem?_cons_succ, dR.eq_20, f7]) (by simp [wkA, retV, stabOk, dC, ev, fillD, pickCells, putAt, bnd, slD, List.getElem?_cons_zero, List.getElem?_cons_succ, dR.eq_20]) rfl rfl (by omega) rfl fun M hM oM nM => ?_
    simp -implicitDefEqProofs (disch := first | assumption | (simp only [wnA]; done) | (simp only [wnA]; omega) | omega | fail) [wkA, retV, stabOk, dC, ev, fillD, pickCells, putAt, bnd, slD, List.getElem?_cons_zero, List.getElem?_cons_succ, dR.eq_20, Mem.cell, Mem.row, wmA]
    refine hq _ M _ none ⟨Nat.le_of_eq nM.symm, fun i _ hi => oM i hi⟩ hM ⟨⟨.inr wl.1, .inr (.inr (.inl ⟨rfl, rfl, rfl, rfl, wt.1⟩))⟩, wl.2, by simp, wt.2, by simp, by simp⟩ fun k hk => ?_
    simp only [List.mem_cons, List.not_mem_nil, or_false] at hk
    rcases hk with rfl | rfl | rfl | rfl | rfl | rfl <;> simp [f7]
  · have r1 := rem_u8 (k := a.n.toNat) (b := 9) (by omega)
    have hr9 : a.n.toNat % 9 < 9 := Nat.mod_lt _ (by omega)
    generalize a.n.toNat % 9 = r at *
    have r1 : dBin .rem (.int .u8 (a.n.toNat : Int)) (.int .u8 9) = some (.int .u8 (r : Int)) := r1
    have e1 : IntKind.i64.wrap (r : Int) = (r : Int) := w64 (by omega)
    have e2 : IntKind.i64.wrap (1 + (r : Int)) = 1 + (r : Int) := w64 (by omega)
    simp -implicitDefEqProofs (disch := first | assumption | (simp only [wnA]; done) | (simp only [wnA]; omega) | omega | fail) [kinds13, rcR, rcL, rc13_5, wkA, retV, stabOk, dC, ev, fillD, pickCells, putAt, bnd, slD, List.getElem?_cons_zero, List.getElem?_cons_succ, dR.eq_20, Mem.cell, Mem.row, wmA, f39, f8, f7, f6, g63, r1, e1, e2]
    refine h.store ⟨lb, 3, [], [], 1 + (r : Int), [], 0⟩ 4 (.int .i64 (1 + (r : Int))) (by simp [wkA, retV, stabOk, dC, ev, fillD, pickCells, putAt, bnd, slD, List.getElem?_cons_zero, List.getElem?_cons_succ, dR.eq_20, f7]) (by simp [wkA, retV, stabOk, dC, ev, fillD, pickCells, putAt, bnd, slD, List.getElem?_cons_zero, List.getElem?_cons_succ, dR.eq_20]) rfl rfl (by omega) rfl fun M hM oM nM => ?_
    simp -implicitDefEqProofs (disch := first | assumption | (simp only [wnA]; done) | (simp only [wnA]; omega) | omega | fail) [wkA, retV, stabOk, dC, ev, fillD, pickCells, putAt, bnd, slD, List.getElem?_cons_zero, List.getElem?_cons_succ, dR.eq_20, Mem.cell, Mem.row, wmA, f7]
    refine hM.store ⟨lb, 3, [], [], 1 + (r : Int), to, 0⟩ 5 (.string ⟨⟨to⟩⟩) (by simp [wkA, retV, stabOk, dC, ev, fillD, pickCells, putAt, bnd, slD, List.getElem?_cons_zero, List.getElem?_cons_succ, dR.eq_20, f7]) (by simp [wkA, retV, stabOk, dC, ev, fillD, pickCells, putAt, bnd, slD, List.getElem?_cons_zero, List.getElem?_cons_succ, dR.eq_20]) rfl rfl (by omega) rfl fun M2 hM2 oM2 nM2 => ?_
    simp -implicitDefEqProofs (disch := first | assumption | (simp only [wnA]; done) | (simp only [wnA]; omega) | omega | fail) [wkA, retV, stabOk, dC, ev, fillD, pickCells, putAt, bnd, slD, List.getElem?_cons_zero, List.getElem?_cons_succ, dR.eq_20, Mem.cell, Mem.row, wmA]
    refine hq _ M2 _ none ⟨by omega, fun i _ hi => by rw [oM2 i hi, oM i hi]⟩ hM2 ⟨⟨.inr wl.1, .inr (.inr (.inr (.inl ⟨rfl, rfl, rfl, ⟨by show 1 ≤ 1 + (r : Int); omega, by show 1 + (r : Int) ≤ 9; omega⟩, wt.1⟩)))⟩, wl.2, by simp, wt.2, by simp, by simp⟩ fun k hk => ?_
    simp only [List.mem_cons, List.not_mem_nil, or_false] at hk
    rcases hk with rfl | rfl | rfl | rfl | rfl | rfl <;> simp [f7]
  · simp -implicitDefEqProofs (disch := first | assumption | (simp only [wnA]; done) | (simp only [wnA]; omega) | omega | fail) [kinds13, rcR, rcL, rc13_5, wkA, retV, stabOk, dC, ev, fillD, pickCells, putAt, bnd, slD, List.getElem?_cons_zero, List.getElem?_cons_succ, dR.eq_20, Mem.cell, Mem.row, wmA, f39, f8, f7]
    refine hq _ m _ none hk h ⟨⟨.inr wl.1, .inr (.inr (.inr (.inr ⟨.inl rfl, rfl, rfl, rfl, rfl⟩)))⟩, wl.2, by simp, by simp, by simp, by simp⟩ fun k hk => ?_
    simp only [List.mem_cons, List.not_mem_nil, or_false] at hk
    rcases hk with rfl | rfl | rfl | rfl | rfl | rfl <;> simp [f7]
  · simp -implicitDefEqProofs (disch := first | assumption | (simp only [wnA]; done) | (simp only [wnA]; omega) | omega | fail) [kinds13, rcR, rcL, rc13_5, wkA, retV, stabOk, dC, ev, fillD, pickCells, putAt, bnd, slD, List.getElem?_cons_zero, List.getElem?_cons_succ, dR.eq_20, Mem.cell, Mem.row, wmA, f39, f8, f7]
    refine hq _ m _ none hk h ⟨⟨.inr wl.1, .inr (.inr (.inr (.inr ⟨.inr rfl, rfl, rfl, rfl, rfl⟩)))⟩, wl.2, by simp, by simp, by simp, by simp⟩ fun k hk => ?_
    simp only [List.mem_cons, List.not_mem_nil, or_false] at hk
    rcases hk with rfl | rfl | rfl | rfl | rfl | rfl <;> simp [f7]
end Go.Proofs.YtjlicambfepfiaaGreatDoor.Ab

set_option linter.unusedVariables false
set_option linter.unusedSimpArgs false
namespace Go.Proofs.YtjlicambfepfiaaGreatDoor.Ab
open Go Go.RowKit
set_option maxHeartbeats 4000000
set_option maxRecDepth 100000
/-- Steps by numbers lie. -/
structure AsV (m : Mem) (v : Value) (l : List Ac7) : Prop where
  sl : SlR m 6 v (l.flatMap acC) l.length
  bl : ∀ b, blk v = some b → b < m.next
  ac : ∀ a ∈ l, AcV m a ∧ a.pats.length ≤ maxLen
theorem AsV.old {m m' : Mem} {v : Value} {l : List Ac7} (h : AsV m v l) (o : Old m m') : AsV m' v l := ⟨h.sl.keep fun b hb => o.2 b (h.bl b hb), fun b hb => Nat.lt_of_lt_of_le (h.bl b hb) o.1, fun a ha => ⟨(h.ac a ha).1.old o, (h.ac a ha).2⟩⟩
theorem w_tail13 {w0 : World} {Q : AQ} {fr : Fr} {b base m : Mem} {i7 : Nat} {d : DS} {oa ob : Option Nat} {l : List DB} (h : T4 base m i7 d oa) (ho : OutS b base l ob) (hl : l.length < 12) (f4 : fr 4 = slV ob l.length 7) (f7 : fr 7 = .pointer (some ⟨i7, 0, none⟩))
    (hq : ∀ fr' m' ob', OutS b m' (l ++ [(d, oa)]) ob' → fr' 4 = slV ob' (l ++ [(d, oa)]).length 7 → (∀ k ∈ [3, 18, 19, 20], fr' k = fr k) → Q .normal fr' m') : AbW Tryz.prog w0 tail13 Q fr m := by
  have g7 := h.g7
  have hav : oneC (slV oa d.arms.length 2) = true := by cases oa <;> rfl
  have hO := ho.old h.o
  have hoa : ∀ i, oa = some i → b.next ≤ i := fun i hi => Nat.le_trans ho.o.1 (h.hob i hi)
  have hso := h.so
  obtain ⟨av, hav0⟩ : ∃ av, slV oa d.arms.length 2 = av := ⟨_, rfl⟩
  have hav2 : cellsV av = [av] := by rw [← hav0]; cases oa <;> rfl
  have ha1 := fun (M : Mem) (o : Old m M) => (hO.old o).app (d := d) (oa := oa) (hso.keep o.1 fun j hj => o.2 j (by subst hj; exact hso.lt)) hoa
  rw [hav0] at g7 hav
  simp only [hav0] at ha1
  simp only [dsC] at g7
  simp -implicitDefEqProofs (disch := first | assumption | (simp only [wnA]; done) | (simp only [wnA]; omega) | omega | fail) [tail13, rcR, rcL, rc13_5, wkA, retV, stabOk, dC, ev, fillD, pickCells, putAt, bnd, slD, List.getElem?_cons_zero, List.getElem?_cons_succ, dR_sl, Mem.cell, Mem.row, wmA, f4, f7, g7]
  rw [SK_bsl (cs := dsC d av) (by simp [wkA, retV, stabOk, dC, ev, fillD, pickCells, putAt, bnd, slD, List.getElem?_cons_zero, List.getElem?_cons_succ, dR_sl, dsC]) (by simp [dsC])]
  obtain ⟨m3, hm3⟩ : ∃ m3, m.push (.own (dsC d av) 29) = m3 := ⟨_, rfl⟩
  have o3 : Old m m3 := by subst hm3; exact (Old.refl m).push _
  have g3 : m3.get m.next = .own (dsC d av) 29 := by subst hm3; rw [Mem.push_same]
  have ha2 := ha1 m3 o3
  have hs3 := (hO.old o3).so
  simp -implicitDefEqProofs (disch := first | assumption | (simp only [wnA]; done) | (simp only [wnA]; omega) | omega | fail) [wkA, retV, stabOk, dC, ev, fillD, pickCells, putAt, bnd, slD, List.getElem?_cons_zero, List.getElem?_cons_succ, dR_sl, Mem.cell, Mem.row, wmA, hm3, f4]
  clear hm3
  refine SK_ap (ob := ob) (n := l.length) (k := 1) (cs := l.flatMap dbC) (ys := dsC d av) hs3 (by simp [wkA, retV, stabOk, dC, ev, fillD, pickCells, putAt, bnd, slD, List.getElem?_cons_zero, List.getElem?_cons_succ, dR_sl, f4]) (by simp -implicitDefEqProofs (disch := first | assumption | (simp only [wnA]; done) | (simp only [wnA]; omega) | omega | fail) [wkA, retV, stabOk, dC, ev, fillD, pickCells, putAt, bnd, slD, List.getElem?_cons_zero, List.getElem?_cons_succ, dR_sl, elemsV, Mem.cell, Mem.row, wmA, g3, dsC]) (by simp [wkA, retV, stabOk, dC, ev, fillD, pickCells, putAt, bnd, slD, List.getElem?_cons_zero, List.getElem?_cons_succ, dR_sl]) (by omega) ?_ (by omega) (by simp only [maxLen]; omega) rfl ?_
  · simp only [dsC, List.all_cons, List.all_nil, hav]; rfl
  obtain ⟨m4, hm4⟩ : ∃ m4, (m3.kill ob).push (.own (l.flatMap dbC ++ dsC d av) 29) = m4 := ⟨_, rfl⟩
  rw [hm4] at ha2 ⊢
  simp -implicitDefEqProofs (disch := first | assumption | (simp only [wnA]; done) | (simp only [wnA]; omega) | omega | fail) [wkA, retV, stabOk, dC, ev, fillD, pickCells, putAt, bnd, slD, List.getElem?_cons_zero, List.getElem?_cons_succ, dR_sl, Mem.cell, Mem.row, wmA]
  refine hq _ m4 _ ha2 (by simp) fun k hk => ?_
  simp only [List.mem_cons, List.not_mem_nil, or_false] at hk
  rcases hk with rfl | rfl | rfl | rfl <;> simp
theorem w_mid13 {w0 : World} {Q : AQ} {fr : Fr} {b M m : Mem} {i6 i7 n r : Nat} {a : Ac7} {lb : List UInt8} {ob : Option Nat} {out : List DB} (hO : OutS b M out ob) (hol : out.length < 12) (h : T4 M m i7 ⟨lb, (r : Int), [], [], 0, [], 0⟩ none) (hr : r < 6) (hlb : WordOk lb ∧ lb.length ≤ 2) (haV : AcV M a) (hpl : a.pats.length ≤ maxLen)
    (n6 : i6 < M.next) (g6 : M.get i6 = .own (acC a) 69) (hn : 0 < n ∧ n ≤ 12) (f3 : fr 3 = .int .i64 (n : Nat)) (f4 : fr 4 = slV ob out.length 7) (f6 : fr 6 = .pointer (some ⟨i6, 0, none⟩)) (f7 : fr 7 = .pointer (some ⟨i7, 0, none⟩))
    (hq : ∀ fr' m' d oa ob', OutS b m' (out ++ [(d, oa)]) ob' → WFS 60 d → fr' 4 = slV ob' (out ++ [(d, oa)]).length 7 → (∀ k ∈ [3, 18, 19, 20], fr' k = fr k) → Q .normal fr' m') : AbW Tryz.prog w0 rc13_5 Q fr m := by
  have n67 := h.n7
  have g6m := (h.o.2 _ n6).trans g6
  have g63 : m.get i6 = .own [.bool a.lb, .int .u8 (a.kd.toNat : Int), .int .u8 (a.tx.toNat : Int), a.av, .int .u8 (a.n.toNat : Int), .int .u8 (a.to.toNat : Int)] 69 := g6m
  have htoL : a.to.toNat < 256 := a.to.toNat_lt
  have hw : IntKind.i64.wrap (a.to.toNat : Int) = (a.to.toNat : Int) := w64 (by omega)
  have hr2 : dBin .rem (.int .i64 (a.to.toNat : Int)) (.int .i64 (n : Int)) = some (.int .i64 ((a.to.toNat % n : Nat) : Int)) := by
    rw [dBin_rem (by omega), Int.tmod_eq_emod_of_nonneg (by omega)]
    rfl
  have hrn : a.to.toNat % n < 26 := Nat.lt_of_lt_of_le (Nat.mod_lt _ hn.1) (by omega)
  generalize a.to.toNat % n = q at *
  rw [parts13]
  simp -implicitDefEqProofs (disch := first | assumption | (simp only [wnA]; done) | (simp only [wnA]; omega) | omega | fail) [pre13, rcL, rc13_5, wkA, retV, stabOk, dC, ev, fillD, pickCells, putAt, bnd, slD, List.getElem?_cons_zero, List.getElem?_cons_succ, dR_sl, Mem.cell, Mem.row, wmA, f3, f6, g63, hw, hr2]
  refine c_label hrn ?_
  have hwl := wd_label hrn
  generalize UInt8.ofNat (97 + q) = rc at *
  have g7 := h.g7
  simp only [dsC] at g7
  simp -implicitDefEqProofs (disch := first | assumption | (simp only [wnA]; done) | (simp only [wnA]; omega) | omega | fail) [pre13b, rcL, rcR, rc13_5, wkA, retV, stabOk, dC, ev, fillD, pickCells, putAt, bnd, slD, List.getElem?_cons_zero, List.getElem?_cons_succ, dR_sl, Mem.cell, Mem.row, wmA, f7, g7]
  refine w_kinds (haV.old h.o) hpl h hn hr hlb ⟨hwl, by simp⟩ g6m (Nat.lt_of_lt_of_le n6 h.o.1) (fun b hb e => by have := haV.bl b hb; omega) (fun p hp b hb e => by have := (haV.ps p hp).2.1 b hb; omega) (by simp [f3]) (by simp [f6]) (by simp [f7]) (by simp) (by simp) ?_
  intro fr' m' d oa kk hT hW hf
  simp -implicitDefEqProofs (disch := first | assumption | (simp only [wnA]; done) | (simp only [wnA]; omega) | omega | fail) [wkA, retV, stabOk, dC, ev, fillD, pickCells, putAt, bnd, slD, List.getElem?_cons_zero, List.getElem?_cons_succ, dR_sl, Mem.cell, Mem.row, wmA]
  refine w_tail13 hT hO hol ((hf 4 (by simp)).trans (by simp [f4])) ((hf 7 (by simp)).trans (by simp [f7])) ?_
  intro fr2 m2 ob2 hO2 e4 hf2
  refine hq fr2 m2 d oa ob2 hO2 hW e4 fun k hk => ?_
  have h1 := hf2 k hk
  have h2 := hf k (by simp only [List.mem_cons, List.not_mem_nil, or_false] at hk ⊢; omega)
  rw [h1, h2]
  simp only [List.mem_cons, List.not_mem_nil, or_false] at hk
  rcases hk with rfl | rfl | rfl | rfl <;> simp
theorem c_Steps {w0 : World} {m : Mem} {v : Value} {l : List Ac7} {Q : Value → Mem → Prop} (hv : AsV m v l) (hl : l.length ≤ maxLen) (hq : ∀ m' ob ls, OutS m m' ls ob → ls.length = min l.length 12 → (∀ x ∈ ls, WFS 60 x.1) → Q (slV ob ls.length 7) m') : AbC Tryz.prog w0 13 [v] m Q := by
  refine AbC_fn ok13 (by simp) ?_
  obtain ⟨n, hn⟩ : ∃ n, min l.length 12 = n := ⟨_, rfl⟩
  obtain ⟨v', sl1, sv', sb'⟩ := hv.sl.upto (k := n) (by omega)
  have hmn : (if (12 : Int) < (l.length : Int) then (12 : Int) else (l.length : Int)) = (n : Int) := by split <;> omega
  have hsl' := sv'.slen
  have hn12 : n ≤ 12 ∧ n ≤ l.length := by omega
  simp -implicitDefEqProofs (disch := first | assumption | (simp only [wnA]; done) | (simp only [wnA]; omega) | omega | fail) [rc13, ro13, wkA, retV, stabOk, dC, ev, fillD, pickCells, putAt, bnd, slD, List.getElem?_cons_zero, List.getElem?_cons_succ, dR_sl, Mem.cell, Mem.row, wmA, hv.sl.slen, hmn, sl1, hsl']
  refine LoopW_of (fun k ts m' => ∃ j out ob, j + k = n ∧ OutS m m' out ob ∧ out.length = j ∧ (∀ x ∈ out, WFS 60 x.1) ∧ ts 3 = .int .i64 (n : Nat) ∧ ts 4 = slV ob j 7 ∧ ts 18 = v' ∧ ts 19 = .int .i64 (n : Nat) ∧ ts 20 = .int .i64 (j : Nat)) n ?_ ?_
  · exact ⟨0, [], none, by omega, ⟨Old.refl m, ⟨rfl, rfl⟩, (fun i h => by cases h), fun x hx => by cases hx⟩, rfl, (fun x hx => by cases hx), by simp, by simp; rfl, by simp, by simp, by simp⟩
  · rintro k ts m1 K ⟨j, out, ob, hj, hO, hol, hW, t3, t4, t18, t19, t20⟩ hK
    simp -implicitDefEqProofs (disch := first | assumption | (simp only [wnA]; done) | (simp only [wnA]; omega) | omega | fail) [rc13_7, wkA, retV, stabOk, dC, ev, fillD, pickCells, putAt, bnd, slD, List.getElem?_cons_zero, List.getElem?_cons_succ, dR_sl, Mem.cell, Mem.row, wmA, t19, t20]
    by_cases hjn : j < n
    · have hjl : j < l.length := by omega
      obtain ⟨a, hx⟩ : ∃ a, l[j] = a := ⟨_, rfl⟩
      have ham : a ∈ l := by rw [← hx]; exact List.getElem_mem hjl
      obtain ⟨haV, hpl⟩ := hv.ac a ham
      obtain ⟨bi, bo, L, hvv, hL, hLl, hLt, -⟩ := (sv'.keep fun b hb => hO.o.2 b (hv.bl b (sb' b hb)) : SlR m1 6 v' _ n).at hjn
      rw [List.drop_take, List.take_take, Nat.min_eq_left (show 6 ≤ n * 6 - j * 6 by omega), flat_at acC_len l (List.getElem?_eq_getElem hjl), hx] at hLt
      rw [hvv] at t18
      have hle : bo + j * 6 + 6 ≤ L.length := by omega
      have hjw : IntKind.i64.wrap ((j : Int) + 1) = ((j + 1 : Nat) : Int) := by rw [w64 (by omega)]; omega
      obtain ⟨M, hM⟩ : ∃ M, (m1.push (.own [.bool false, .int .u8 0, .int .u8 0, .slice none 0 0, .int .u8 0, .int .u8 0] 69)).set m1.next (.own (putAt [.bool false, .int .u8 0, .int .u8 0, .slice none 0 0, .int .u8 0, .int .u8 0] 0 (acC a)) 69) = M := ⟨_, rfl⟩
      have oM : Old m1 M := by subst hM; exact ((Old.refl m1).push _).set (Nat.le_refl _) _
      have gM : M.get m1.next = .own (acC a) 69 := by subst hM; rw [Mem.set_same]; rfl
      have nM : M.next = m1.next + 1 := by subst hM; rfl
      have hLt' : (L.drop (bo + j * 6)).take 6 = [.bool a.lb, .int .u8 (a.kd.toNat : Int), .int .u8 (a.tx.toNat : Int), a.av, .int .u8 (a.n.toNat : Int), .int .u8 (a.to.toNat : Int)] := hLt
      have hone := haV.sl.one
      simp -implicitDefEqProofs (disch := first | assumption | (simp only [wnA]; done) | (simp only [wnA]; omega) | omega | fail) [hjn, rc13_6, wkA, retV, stabOk, dC, ev, fillD, pickCells, putAt, bnd, slD, List.getElem?_cons_zero, List.getElem?_cons_succ, dR_sl, Mem.cell, Mem.row, wmA, t18, t20, sidx_at, hL, hLt', hle]
      refine SK_stm (i := m1.next) (o := 0) (vs := acC a) (cs := [.bool false, .int .u8 0, .int .u8 0, .slice none 0 0, .int .u8 0, .int .u8 0]) (e := 69) (M := M) (by simp [wkA, retV, stabOk, dC, ev, fillD, pickCells, putAt, bnd, slD, List.getElem?_cons_zero, List.getElem?_cons_succ, dR_sl]) (by simp -implicitDefEqProofs (disch := first | assumption | (simp only [wnA]; done) | (simp only [wnA]; omega) | omega | fail) [wkA, retV, stabOk, dC, ev, fillD, pickCells, putAt, bnd, slD, List.getElem?_cons_zero, List.getElem?_cons_succ, dR_sl, Mem.cell, Mem.row, wmA]) (by simp [wkA, retV, stabOk, dC, ev, fillD, pickCells, putAt, bnd, slD, List.getElem?_cons_zero, List.getElem?_cons_succ, dR_sl, acC, byteV]) (by simp) rfl (by simp only [acC, List.all_cons, List.all_nil, hone.1]; rfl) hM ?_
      clear hM
      have gM' : M.get m1.next = .own [.bool a.lb, .int .u8 (a.kd.toNat : Int), .int .u8 (a.tx.toNat : Int), a.av, .int .u8 (a.n.toNat : Int), .int .u8 (a.to.toNat : Int)] 69 := gM
      have r1 := rem_u8 (k := a.kd.toNat) (b := 6) (by omega)
      have hr6 : a.kd.toNat % 6 < 6 := Nat.mod_lt _ (by omega)
      generalize a.kd.toNat % 6 = r at *
      have r1 : dBin .rem (.int .u8 (a.kd.toNat : Int)) (.int .u8 6) = some (.int .u8 (r : Int)) := r1
      have e1 : IntKind.i64.wrap (r : Int) = (r : Int) := w64 (by omega)
      simp -implicitDefEqProofs (disch := first | assumption | (simp only [wnA]; done) | (simp only [wnA]; omega) | omega | fail) [wkA, retV, stabOk, dC, ev, fillD, pickCells, putAt, bnd, slD, List.getElem?_cons_zero, List.getElem?_cons_succ, dR_sl, Mem.cell, Mem.row, wmA]
      refine AbW_sem_of ?_
      simp -implicitDefEqProofs (disch := first | assumption | (simp only [wnA]; done) | (simp only [wnA]; omega) | omega | fail) [wkA, retV, stabOk, dC, ev, fillD, pickCells, putAt, bnd, slD, List.getElem?_cons_zero, List.getElem?_cons_succ, dR_sl, Mem.cell, Mem.row, wmA, gM', r1, e1, t20]
      have n1 : m1.next < M.next := by omega
      have hOM := hO.old oM
      have hnn : 0 < n ∧ n ≤ 12 := by omega
      obtain ⟨M2, hM2⟩ : ∃ M2, (M.push (.own [.string ⟨#[]⟩, .int .i64 0, .string ⟨#[]⟩, .slice none 0 0, .int .i64 0, .string ⟨#[]⟩, .int .i64 0] 29)).set M.next (.own (putAt [.string ⟨#[]⟩, .int .i64 0, .string ⟨#[]⟩, .slice none 0 0, .int .i64 0, .string ⟨#[]⟩, .int .i64 0] 0 (dsC ⟨[115, UInt8.ofNat (97 + j)], (r : Int), [], [], 0, [], 0⟩ (.slice none 0 0))) 29) = M2 := ⟨_, rfl⟩
      have hT : T4 M M2 M.next ⟨[115, UInt8.ofNat (97 + j)], (r : Int), [], [], 0, [], 0⟩ none := by
        subst hM2
        exact ⟨((Old.refl M).push _).set (Nat.le_refl _) _, Nat.le_refl _, by simp, by rw [Mem.set_same]; rfl, ⟨rfl, rfl⟩, fun i hi => by cases hi⟩
      have hwl := wd_label (k := j) (by omega)
      have last : ∀ (fr' : Fr) (m' : Mem) (d : DS) (oa ob' : Option Nat), OutS m m' (out ++ [(d, oa)]) ob' → WFS 60 d → fr' 4 = slV ob' (out ++ [(d, oa)]).length 7 → fr' 3 = ts 3 → fr' 18 = ts 18 → fr' 19 = ts 19 → fr' 20 = .int .i64 ((j + 1 : Nat) : Int) → K fr' m' := fun fr' m' d oa ob' hO' hW' e4 e3 e18 e19 e20 =>
        hK (k - 1) _ _ (by omega) ⟨j + 1, out ++ [(d, oa)], ob', by omega, hO', by rw [List.length_append, hol]; rfl, fun x hx => by
          rcases List.mem_append.1 hx with hx | hx
          · exact hW x hx
          · rw [List.mem_singleton] at hx; subst hx; exact hW', by rw [e3, t3], by rw [e4, List.length_append, hol]; rfl, by rw [e18, t18, hvv], by rw [e19, t19], e20⟩
      constructor
      · simp -implicitDefEqProofs (disch := first | assumption | (simp only [wnA]; done) | (simp only [wnA]; omega) | omega | fail) [rc13_0, wkA, retV, stabOk, dC, ev, fillD, pickCells, putAt, bnd, slD, List.getElem?_cons_zero, List.getElem?_cons_succ, dR_sl, Mem.cell, Mem.row, wmA]
        refine c_label (k := j) (by omega) ?_
        generalize UInt8.ofNat (97 + j) = rc at *
        simp -implicitDefEqProofs (disch := first | assumption | (simp only [wnA]; done) | (simp only [wnA]; omega) | omega | fail) [wkA, retV, stabOk, dC, ev, fillD, pickCells, putAt, bnd, slD, List.getElem?_cons_zero, List.getElem?_cons_succ, dR_sl, Mem.cell, Mem.row, wmA, gM']
        refine SK_stm (i := M.next) (o := 0) (vs := dsC ⟨[115, rc], (r : Int), [], [], 0, [], 0⟩ (.slice none 0 0)) (cs := [.string ⟨#[]⟩, .int .i64 0, .string ⟨#[]⟩, .slice none 0 0, .int .i64 0, .string ⟨#[]⟩, .int .i64 0]) (e := 29) (M := M2) (by simp [wkA, retV, stabOk, dC, ev, fillD, pickCells, putAt, bnd, slD, List.getElem?_cons_zero, List.getElem?_cons_succ, dR_sl]) (by simp -implicitDefEqProofs (disch := first | assumption | (simp only [wnA]; done) | (simp only [wnA]; omega) | omega | fail) [wkA, retV, stabOk, dC, ev, fillD, pickCells, putAt, bnd, slD, List.getElem?_cons_zero, List.getElem?_cons_succ, dR_sl, Mem.cell, Mem.row, wmA]) (by simp [wkA, retV, stabOk, dC, ev, fillD, pickCells, putAt, bnd, slD, List.getElem?_cons_zero, List.getElem?_cons_succ, dR_sl, dsC]) (by simp) rfl rfl hM2 ?_
        clear hM2
        simp -implicitDefEqProofs (disch := first | assumption | (simp only [wnA]; done) | (simp only [wnA]; omega) | omega | fail) [wkA, retV, stabOk, dC, ev, fillD, pickCells, putAt, bnd, slD, List.getElem?_cons_zero, List.getElem?_cons_succ, dR_sl, Mem.cell, Mem.row, wmA]
        refine w_mid13 hOM (by omega) hT hr6 ⟨hwl, by simp⟩ (haV.old (hO.o.trans oM)) hpl n1 gM hnn (by simp [t3]) (by simp [t4, hol]) (by simp) (by simp) ?_
        intro fr' m' d oa ob' hO' hW' e4 hf
        have e20 : fr' 20 = .int .i64 (j : Int) := (hf 20 (by simp)).trans (by simp [t20])
        have e3 : fr' 3 = ts 3 := (hf 3 (by simp)).trans (by simp)
        have e18 : fr' 18 = ts 18 := (hf 18 (by simp)).trans (by simp)
        have e19 : fr' 19 = ts 19 := (hf 19 (by simp)).trans (by simp)
        simp -implicitDefEqProofs (disch := first | assumption | (simp only [wnA]; done) | (simp only [wnA]; omega) | omega | fail) [wkA, retV, stabOk, dC, ev, fillD, pickCells, putAt, bnd, slD, List.getElem?_cons_zero, List.getElem?_cons_succ, dR_sl, Mem.cell, Mem.row, wmA, e20, hjw]
        refine last _ m' d oa ob' hO' hW' (by simpa using e4) (by simpa using e3) (by simpa using e18) (by simpa using e19) (by simp)
      · simp -implicitDefEqProofs (disch := first | assumption | (simp only [wnA]; done) | (simp only [wnA]; omega) | omega | fail) [rc13_1, wkA, retV, stabOk, dC, ev, fillD, pickCells, putAt, bnd, slD, List.getElem?_cons_zero, List.getElem?_cons_succ, dR_sl, Mem.cell, Mem.row, wmA, gM']
        refine c_label (k := j) (by omega) ?_
        generalize UInt8.ofNat (97 + j) = rc at *
        simp -implicitDefEqProofs (disch := first | assumption | (simp only [wnA]; done) | (simp only [wnA]; omega) | omega | fail) [wkA, retV, stabOk, dC, ev, fillD, pickCells, putAt, bnd, slD, List.getElem?_cons_zero, List.getElem?_cons_succ, dR_sl, Mem.cell, Mem.row, wmA, gM']
        refine SK_stm (i := M.next) (o := 0) (vs := dsC ⟨[115, rc], (r : Int), [], [], 0, [], 0⟩ (.slice none 0 0)) (cs := [.string ⟨#[]⟩, .int .i64 0, .string ⟨#[]⟩, .slice none 0 0, .int .i64 0, .string ⟨#[]⟩, .int .i64 0]) (e := 29) (M := M2) (by simp [wkA, retV, stabOk, dC, ev, fillD, pickCells, putAt, bnd, slD, List.getElem?_cons_zero, List.getElem?_cons_succ, dR_sl]) (by simp -implicitDefEqProofs (disch := first | assumption | (simp only [wnA]; done) | (simp only [wnA]; omega) | omega | fail) [wkA, retV, stabOk, dC, ev, fillD, pickCells, putAt, bnd, slD, List.getElem?_cons_zero, List.getElem?_cons_succ, dR_sl, Mem.cell, Mem.row, wmA]) (by simp [wkA, retV, stabOk, dC, ev, fillD, pickCells, putAt, bnd, slD, List.getElem?_cons_zero, List.getElem?_cons_succ, dR_sl, dsC]) (by simp) rfl rfl hM2 ?_
        clear hM2
        simp -implicitDefEqProofs (disch := first | assumption | (simp only [wnA]; done) | (simp only [wnA]; omega) | omega | fail) [wkA, retV, stabOk, dC, ev, fillD, pickCells, putAt, bnd, slD, List.getElem?_cons_zero, List.getElem?_cons_succ, dR_sl, Mem.cell, Mem.row, wmA]
        refine w_mid13 hOM (by omega) hT hr6 ⟨hwl, by simp⟩ (haV.old (hO.o.trans oM)) hpl n1 gM hnn (by simp [t3]) (by simp [t4, hol]) (by simp) (by simp) ?_
        intro fr' m' d oa ob' hO' hW' e4 hf
        have e20 : fr' 20 = .int .i64 (j : Int) := (hf 20 (by simp)).trans (by simp [t20])
        have e3 : fr' 3 = ts 3 := (hf 3 (by simp)).trans (by simp)
        have e18 : fr' 18 = ts 18 := (hf 18 (by simp)).trans (by simp)
        have e19 : fr' 19 = ts 19 := (hf 19 (by simp)).trans (by simp)
        simp -implicitDefEqProofs (disch := first | assumption | (simp only [wnA]; done) | (simp only [wnA]; omega) | omega | fail) [wkA, retV, stabOk, dC, ev, fillD, pickCells, putAt, bnd, slD, List.getElem?_cons_zero, List.getElem?_cons_succ, dR_sl, Mem.cell, Mem.row, wmA, e20, hjw]
        refine last _ m' d oa ob' hO' hW' (by simpa using e4) (by simpa using e3) (by simpa using e18) (by simpa using e19) (by simp)
    · have hjj : j = n := by omega
      subst hjj
      simp -implicitDefEqProofs (disch := first | assumption | (simp only [wnA]; done) | (simp only [wnA]; omega) | omega | fail) [hjn, rc13_8, wkA, retV, stabOk, dC, ev, fillD, pickCells, putAt, bnd, slD, List.getElem?_cons_zero, List.getElem?_cons_succ, dR_sl, Mem.cell, Mem.row, wmA, t4]
      have := hq m1 ob out hO (by omega) hW
      rw [hol] at this
      exact this
end Go.Proofs.YtjlicambfepfiaaGreatDoor.Ab

set_option linter.unusedVariables false
set_option linter.unusedSimpArgs false
namespace Go.Proofs.YtjlicambfepfiaaGreatDoor.Ab
open Go Go.RowKit
def actShp : Shp := .recd [.bool, .int .u8, .int .u8, .sl (.sl (.int .u8)), .int .u8, .int .u8]
theorem absT_acts {m : Mem} {td : TD} {v : Value} (h : AbsT m td [v]) (hs : Fits (.sl actShp) td) :
    ∃ xs : List Ac7, AsV m v xs ∧ xs.length ≤ maxLen := by
  have hlen : ∀ l, td = .sl l → l.length ≤ maxLen := fun l e => by rw [e] at h; exact absT_len h
  obtain ⟨l, xs, e0, h1, h2, h3⟩ := absT_slice (f := acC) (z := 6) (R := fun d a => AcV m a ∧ a.pats.length ≤ maxLen) acC_len (fun d c hf ha => by
    obtain ⟨l, rfl, hl, hfl⟩ := absT_recd ha hf
    obtain ⟨d1, r1, c1, e1, rfl, rfl, t1, f1, hl, hfl⟩ := absTs_cons hl hfl
    obtain ⟨d2, r2, c2, e2, rfl, rfl, t2, f2, hl, hfl⟩ := absTs_cons hl hfl
    obtain ⟨d3, r3, c3, e3, rfl, rfl, t3, f3, hl, hfl⟩ := absTs_cons hl hfl
    obtain ⟨d4, r4, c4, e4, rfl, rfl, t4, f4, hl, hfl⟩ := absTs_cons hl hfl
    obtain ⟨d5, r5, c5, e5, rfl, rfl, t5, f5, hl, hfl⟩ := absTs_cons hl hfl
    obtain ⟨d6, r6, c6, e6, rfl, rfl, t6, f6, hl, hfl⟩ := absTs_cons hl hfl
    obtain ⟨rfl, rfl⟩ := absTs_nil hl hfl
    obtain ⟨b, rfl, rfl⟩ := absT_bool t1 f1
    obtain ⟨a2, rfl, -⟩ := arg_u8 _ _ f2 t2
    obtain ⟨a3, rfl, -⟩ := arg_u8 _ _ f3 t3
    obtain ⟨a5, rfl, -⟩ := arg_u8 _ _ f5 t5
    obtain ⟨a6, rfl, -⟩ := arg_u8 _ _ f6 t6
    obtain ⟨av, rfl⟩ := t4.one f4 (fun _ h => by cases h)
    have hpl : ∀ l, d4 = .sl l → l.length ≤ maxLen := fun l e => by rw [e] at t4; exact absT_len t4
    obtain ⟨lp, ps, e4, s1, s2, s3⟩ := absT_slice (f := fun p : Value × List UInt8 => [p.1]) (z := 1) (R := fun d p => SlR m 1 p.1 (p.2.map byteV) p.2.length ∧ (∀ b, blk p.1 = some b → b < m.next) ∧ p.2.length ≤ maxLen) (fun _ => rfl) (fun d c hf ha => by
      obtain ⟨w, rfl⟩ := ha.one hf (fun _ h => by cases h)
      have hbl : ∀ l, d = .sl l → l.length ≤ maxLen := fun l e => by rw [e] at ha; exact absT_len ha
      obtain ⟨lb, bs, e5, q1, q2, q3⟩ := absT_slice (f := fun b : UInt8 => [byteV b]) (z := 1) (R := fun _ _ => True) (fun _ => rfl) arg_u8 ha hf
      rw [flat_one byteV] at q1
      exact ⟨(w, bs), rfl, q1, q3, by rw [q2.length]; exact hbl lb e5⟩) t4 f4
    rw [flat_one Prod.fst] at s1
    exact ⟨⟨b, a2, a3, av, ps, a5, a6⟩, rfl, ⟨s1, s3, fun p hp => by obtain ⟨_, _, hr⟩ := s2.right p hp; exact hr⟩, by show ps.length ≤ maxLen; rw [s2.length]; exact hpl lp e4⟩) h hs
  exact ⟨xs, ⟨h1, h3, fun a ha => by obtain ⟨_, _, hr⟩ := h2.right a ha; exact hr⟩, by rw [h2.length]; exact hlen l e0⟩
end Go.Proofs.YtjlicambfepfiaaGreatDoor.Ab
