/- The law PlayTries, as its statement says it: for every input; the listed variables hold what the program's text lays. -/
import Derived.Test.YtjlicambfepfiaaGreatDoorKPt3
import Derived.Test.YtjlicambfepfiaaGreatDoorCards
import Derived.Test.YtjlicambfepfiaaGreatDoorTie
import Derived.WalkKit
import Derived.ProofKit
import Derived.OpenShut
import Derived.JoinedCond
import Derived.ChangeOld
import Derived.Deep.DeepHandedRow
import Derived.Deep.DeepWitnessRowRef
set_option linter.unusedVariables false
set_option linter.unusedSimpArgs false
namespace Go.Proofs.YtjlicambfepfiaaGreatDoor.Ab
open Go Go.RowKit
set_option maxHeartbeats 4000000
set_option maxRecDepth 100000
/-- An error that has a number. -/
def ErrI (w0 : World) (e : Value) : Prop := ∃ t u, e = .iface t u ∧ ∀ (m : Mem) (Q : Value → Mem → Prop), Part L0 m → (∀ m' n, Old m m' → Q (.int .i64 n) m') → AbC Tryz.prog w0 19 [e] m Q
/-- What expect.Of does of patterns: it makes a watch of which P holds; an error only where G does not. -/
def OfC (w0 : World) (ps : List (List UInt8)) (G : Prop) (P : List (Tab × List Bool) → Prop) : Prop := ∀ (m : Mem) (ob : Option Nat) (Q : Value → Mem → Prop), Part L0 m → SlO m 9 1 ob (ps.map fun p => .string ⟨⟨p⟩⟩) ps.length →
  (∀ m' (w : WatS), Old m m' → w.ws.length = ps.length → P (w.ws.map WaE.core) → w.over = false → WatV (fun i => m.next ≤ i ∧ i ≠ w.iw ∧ i ≠ w.ia) m' w.iw w.ia w.ws w.seen w.over → m.next ≤ w.iw → m.next ≤ w.ia → Q (.tuple ⟨[.pointer (some ⟨w.iw, 0, none⟩), .nilIface]⟩) m') →
  (¬ G → ∀ m' e, Old m m' → ErrI w0 e → Q (.tuple ⟨[.pointer none, e]⟩) m') → AbC Tryz.prog w0 45 [slV ob ps.length 1] m Q
def pats (x : DS) : List (List UInt8) := x.arms.map Arm.pat
section
variable (G : List (List UInt8) → Prop) (P : List (List UInt8) → List (Tab × List Bool) → Prop)
/-- A step is done. -/
inductive OneR (l : List DV) (x : DS) (s : PlS) : PlS → List UInt8 → Prop
  | send : x.kd = 0 → OneR l x s { s with at_ := IntKind.i64.wrap (s.at_ + 1) } x.tx
  | exp (w : WatS) : x.kd = 1 → w.ws.length = x.arms.length → P (pats x) (w.ws.map WaE.core) → w.over = false → OneR l x s { s with wat := some w, left := max 1 x.n } []
  | expN : x.kd = 1 → ¬ G (pats x) → OneR l x s { s with left := max 1 x.n } []
  | goto : x.kd = 2 → OneR l x s { s with at_ := findN x.to l 0 } []
  | tryA : x.kd = 3 → IntKind.i64.wrap (s.f s.at_ + 1) ≤ x.n → OneR l x s { s with f := fun j => if j = s.at_ then IntKind.i64.wrap (s.f s.at_ + 1) else s.f j, at_ := findN x.to l 0 } []
  | tryB : x.kd = 3 → ¬ IntKind.i64.wrap (s.f s.at_ + 1) ≤ x.n → OneR l x s { s with f := fun j => if j = s.at_ then 0 else s.f j, at_ := IntKind.i64.wrap (s.at_ + 1) } []
  | done : x.kd = 4 → OneR l x s { s with st := 1 } []
  | fail : x.kd ≠ 0 → x.kd ≠ 1 → x.kd ≠ 2 → x.kd ≠ 3 → x.kd ≠ 4 → OneR l x s { s with st := 2 } []
end
/-- Bytes that are new. -/
structure NewB (m m' : Mem) (v : Value) (o : List UInt8) : Prop where
  sl : SlR m' 1 v (o.map byteV) o.length
  bl : ∀ b, blk v = some b → m.next ≤ b ∧ b < m'.next
theorem NewB.nil (m m' : Mem) : NewB m m' (.slice none 0 0) [] := ⟨⟨rfl, .inl ⟨rfl, .inl rfl⟩⟩, fun b hb => by cases hb⟩
theorem PlayV.store {w0 : World} {fr : Fr} {R : Value → Mem → Prop} {V : List Nat} {m : Mem} {ip : Nat} {sv : Value} {l : List DV} {s : PlS} (h : PlayV V m ip sv l s) (a lf st : Int) (j : Nat) (v : Value) {p x : Operand}
    (hp : ev fr p = .pointer (some ⟨ip, j, none⟩)) (hv : cellsV (ev fr x) = [v]) (hc : putAt (plC sv s) j [v] = plC sv { s with at_ := a, left := lf, st := st }) (hj : j + 1 ≤ 8) (ho : oneC v = true)
    (hR : ∀ M, PlayV V M ip sv l { s with at_ := a, left := lf, st := st } → Keeps (fun i => i ≠ ip) m M → R undef M) : SK Tryz.prog w0 (.e (.st 1 p x)) fr m R := by
  have k : Keeps (fun i => i ≠ ip) m (m.set ip (.own (plC sv { s with at_ := a, left := lf, st := st }) 105)) := (Keeps.refl _ _).set (fun _ hn => hn rfl) _
  refine SK_stm (i := ip) (o := j) (vs := [v]) (cs := plC sv s) (e := 105) (M := m.set ip (.own (plC sv { s with at_ := a, left := lf, st := st }) 105)) hp h.g hv (by simp [plC]; omega) rfl (by simp [ho]) (by rw [hc]) (hR _ (h.upd k a lf st (by rw [Mem.set_same])) k)
theorem PlayV.setF {V : List Nat} {m M : Mem} {ip : Nat} {sv : Value} {l : List DV} {s : PlS} {f : Int → Int} (h : PlayV V m ip sv l s) (hf : MapI M s.im f) (hn : M.next = m.next) (ho : ∀ i, i ≠ s.im → M.get i = m.get i) : PlayV V M ip sv l { s with f := f } := by
  have hnd := h.nd
  simp only [ownP, List.nodup_cons, List.mem_cons, List.mem_append, not_or] at hnd
  have kX : Keeps (fun i => i ∉ ownP ip s ++ V) m M := ⟨by omega, fun i _ hi => ho i (fun e => hi (by rw [e]; simp [ownP]))⟩
  refine ⟨(ho ip hnd.1.1).trans h.g, h.ds.keep kX, hf, ?_, ?_, h.nd, fun i hi => by rw [hn]; exact h.lt i hi, h.pt.keeps (X := fun i => i ≠ s.im) ⟨by omega, fun i _ hi => ho i hi⟩ (fun i hi e => by have := h.lo s.im (by simp [ownP]); omega), h.lo, h.dj⟩
  · refine h.ot.keep (by omega) fun b hb => ho b fun e => ?_
    subst e
    exact hnd.2.1.1 (by simp [hb])
  · intro w hw
    have hw' : s.wat = some w := hw
    rw [hw'] at hnd
    refine (h.wt w hw).keep kX (ho _ fun e => ?_) (ho _ fun e => ?_)
    · exact hnd.2.1.2 (by rw [← e]; simp)
    · exact hnd.2.1.2 (by rw [← e]; simp)
theorem c_one {w0 : World} {V : List Nat} {m : Mem} {ip : Nat} {sv : Value} {l : List DV} {s : PlS} {x : DV} {G : List (List UInt8) → Prop} {P : List (List UInt8) → List (Tab × List Bool) → Prop} {Q : Value → Mem → Prop} (h : PlayV V m ip sv l s) (hl : l.length ≤ 1000000) (hw : s.wat = none) (hx : x ∈ l) (hal : x.1.arms.length ≤ 1000000) (htl : x.1.tx.length ≤ 1000000)
    (hOf : x.1.kd = 1 → OfC w0 (pats x.1) (G (pats x.1)) (P (pats x.1)))
    (hq : ∀ m' s' o v, OneR G P l x.1 s s' o → PlayV V m' ip sv l s' → Keeps (fun i => i ∉ ownP ip s) m m' → NewB m m' v o → (∀ i ∈ ownP ip s', i ∈ ownP ip s ∨ m.next ≤ i) → Q v m') : AbC Tryz.prog w0 63 [.pointer (some ⟨ip, 0, none⟩), .agg ⟨vC x⟩] m Q := by
  refine AbC_fn ok63 (by simp) ?_
  have hA := h.ds.ar x hx
  have hone := hA.sl.one
  obtain ⟨⟨lb, kd, tx, arms, n, to, pl⟩, av⟩ := x
  have e : vC (⟨lb, kd, tx, arms, n, to, pl⟩, av) = [.string ⟨⟨lb⟩⟩, .int .i64 kd, .string ⟨⟨tx⟩⟩, av, .int .i64 n, .string ⟨⟨to⟩⟩, .int .i64 pl] := rfl
  rw [e]
  simp only at hal htl hOf hq hA hone
  have hipo := h.ipo
  obtain ⟨M, hM⟩ : ∃ M, m.push (.own [.string ⟨⟨lb⟩⟩, .int .i64 kd, .string ⟨⟨tx⟩⟩, av, .int .i64 n, .string ⟨⟨to⟩⟩, .int .i64 pl] 29) = M := ⟨_, rfl⟩
  have oM : Old m M := by subst hM; exact (Old.refl m).push _
  have gM : M.get m.next = .own [.string ⟨⟨lb⟩⟩, .int .i64 kd, .string ⟨⟨tx⟩⟩, av, .int .i64 n, .string ⟨⟨to⟩⟩, .int .i64 pl] 29 := by subst hM; rw [Mem.push_same]
  have nM : m.next < M.next := by subst hM; simp
  have hP := h.old oM
  have gp : M.get ip = .own [sv, .int .i64 s.at_, .map (some s.im), watP s.wat, .int .i64 s.left, .int .i64 0, .int .i64 s.st, slV s.ot s.tr.length 1] 105 := hP.g
  simp -implicitDefEqProofs (disch := first | assumption | (simp only [wnA]; done) | (simp only [wnA]; omega) | omega | fail) [rc63, ro63, wkA, retV, stabOk, dC, ev, fillD, pickCells, putAt, bnd, slD, List.getElem?_cons_zero, List.getElem?_cons_succ, dR.eq_20, Mem.cell, Mem.row, wmA, hone.2, hM, gM]
  have kM0 : ∀ M', Keeps (fun i => i ≠ ip) M M' → Keeps (fun i => i ∉ ownP ip s) m M' := fun M' k => (oM.keeps).trans (k.mono fun i _ hi e => hi (by rw [e]; simp [ownP]))
  by_cases h0 : kd = 0
  · subst h0
    simp -implicitDefEqProofs (disch := first | assumption | (simp only [wnA]; done) | (simp only [wnA]; omega) | omega | fail) [wkA, retV, stabOk, dC, ev, fillD, pickCells, putAt, bnd, slD, List.getElem?_cons_zero, List.getElem?_cons_succ, dR.eq_20, Mem.cell, Mem.row, wmA, gp]
    refine hP.store (IntKind.i64.wrap (s.at_ + 1)) s.left s.st 1 (.int .i64 (IntKind.i64.wrap (s.at_ + 1))) (by simp [wkA, retV, stabOk, dC, ev, fillD, pickCells, putAt, bnd, slD, List.getElem?_cons_zero, List.getElem?_cons_succ, dR.eq_20]) (by simp [wkA, retV, stabOk, dC, ev, fillD, pickCells, putAt, bnd, slD, List.getElem?_cons_zero, List.getElem?_cons_succ, dR.eq_20]) rfl (by omega) rfl fun M2 hP2 k2 => ?_
    have g2 := (k2.2 m.next nM (fun e => by have := h.lt ip hipo; omega)).trans gM
    simp -implicitDefEqProofs (disch := first | assumption | (simp only [wnA]; done) | (simp only [wnA]; omega) | omega | fail) [wkA, retV, stabOk, dC, ev, fillD, pickCells, putAt, bnd, slD, List.getElem?_cons_zero, List.getElem?_cons_succ, dR.eq_20, Mem.cell, Mem.row, wmA, g2]
    rw [SK_s2b (s := ⟨⟨tx⟩⟩) (by simp [wkA, retV, stabOk, dC, ev, fillD, pickCells, putAt, bnd, slD, List.getElem?_cons_zero, List.getElem?_cons_succ, dR.eq_20]) (by simp [ByteArray.size]; omega)]
    simp -implicitDefEqProofs (disch := first | assumption | (simp only [wnA]; done) | (simp only [wnA]; omega) | omega | fail) [wkA, retV, stabOk, dC, ev, fillD, pickCells, putAt, bnd, slD, List.getElem?_cons_zero, List.getElem?_cons_succ, dR.eq_20, Mem.cell, Mem.row, wmA]
    have o3 : Old M2 (M2.push (.own (tx.map byteV) 5)) := (Old.refl M2).push _
    have := hq (M2.push (.own (tx.map byteV) 5)) _ tx (.slice (some ⟨M2.next, 0, none⟩) tx.length 1) (.send rfl) (hP2.old o3) ((kM0 _ k2).trans o3.keeps) ⟨⟨by simp, .inr ⟨M2.next, 0, tx.map byteV, rfl, by rw [Mem.push_same]; rfl, by simp, by rw [List.drop_zero, List.take_of_length_le (by simp)]⟩⟩, fun b hb => by cases hb; exact ⟨Nat.le_trans oM.1 k2.1, by simp⟩⟩ (fun i hi => .inl hi)
    simpa [ByteArray.size] using this
  · simp -implicitDefEqProofs (disch := first | assumption | (simp only [wnA]; done) | (simp only [wnA]; omega) | omega | fail) [wkA, retV, stabOk, dC, ev, fillD, pickCells, putAt, bnd, slD, List.getElem?_cons_zero, List.getElem?_cons_succ, dR.eq_20, Mem.cell, Mem.row, wmA, beqF h0]
    by_cases h1 : kd = 1
    · subst h1
      have hAM := hA.keep (oM.keeps)
      have hsl := hAM.sl.slen
      simp -implicitDefEqProofs (disch := first | assumption | (simp only [wnA]; done) | (simp only [wnA]; omega) | omega | fail) [wkA, retV, stabOk, dC, ev, fillD, pickCells, putAt, bnd, slD, List.getElem?_cons_zero, List.getElem?_cons_succ, dR.eq_20, Mem.cell, Mem.row, wmA, gM, hsl]
      refine w_pso hAM.sl (fun b hb => (hAM.bl b hb).1) hal (by simp) (by simp) (by simp) (by simp) fun fr' m1 ob o1 so e5 hf => ?_
      have e0 := (hf 0 (by simp)).trans (by simp [frA_at] : _ = Value.pointer (some ⟨ip, 0, none⟩))
      have e3 := (hf 3 (by simp)).trans (by simp : _ = Value.pointer (some ⟨m.next, 0, none⟩))
      have e4 := (hf 4 (by simp)).trans (by simp : _ = Value.slice none 0 0)
      have hP1 := hP.old o1
      simp -implicitDefEqProofs (disch := first | assumption | (simp only [wnA]; done) | (simp only [wnA]; omega) | omega | fail) [rc63_2, wkA, retV, stabOk, dC, ev, fillD, pickCells, putAt, bnd, slD, List.getElem?_cons_zero, List.getElem?_cons_succ, dR.eq_20, Mem.cell, Mem.row, wmA, e0, e5]
      have em : (arms.map Arm.pat).map (fun p => Value.string ⟨⟨p⟩⟩) = arms.map patV := by rw [List.map_map]; rfl
      have so' : SlO m1 9 1 ob ((arms.map Arm.pat).map fun p => Value.string ⟨⟨p⟩⟩) (arms.map Arm.pat).length := by rw [em, List.length_map]; exact so
      have hlp : arms.length = (arms.map Arm.pat).length := by rw [List.length_map]
      rw [hlp]
      have hmx : (if n > 1 then n else 1) = max 1 n := by split <;> omega
      refine hOf rfl m1 ob _ hP1.pt so' (fun m2 w o2 hwl hPw hov hWV n1 n2 => ?_) (fun hG m2 e o2 hE => ?_)
      · have g2 : m2.get ip = .own (plC sv s) 105 := (hP1.old o2).g
        have ho12 := oM.trans (o1.trans o2)
        have gs2 := ((o1.trans o2).2 _ nM).trans gM
        obtain ⟨M3, hM3⟩ : ∃ M3, m2.set ip (.own (plC sv { s with wat := some w }) 105) = M3 := ⟨_, rfl⟩
        have hP3 := hP1.setW hw o2 hWV n1 n2 hM3.symm
        have k3 : Keeps (fun i => i ≠ ip) m2 M3 := by subst hM3; exact (Keeps.refl _ _).set (fun _ hn => hn rfl) _
        have hip := h.lt ip hipo
        have gs3 := (k3.2 m.next (Nat.lt_of_lt_of_le nM (o1.trans o2).1) (by omega)).trans gs2
        simp -implicitDefEqProofs (disch := first | assumption | (simp only [wnA]; done) | (simp only [wnA]; omega) | omega | fail) [wkA, retV, stabOk, dC, ev, fillD, pickCells, putAt, bnd, slD, List.getElem?_cons_zero, List.getElem?_cons_succ, dR.eq_20, Mem.cell, Mem.row, wmA, e0]
        refine SK_stm (i := ip) (o := 3) (vs := [.pointer (some ⟨w.iw, 0, none⟩)]) (cs := plC sv s) (e := 105) (M := M3) (by simp [wkA, retV, stabOk, dC, ev, fillD, pickCells, putAt, bnd, slD, List.getElem?_cons_zero, List.getElem?_cons_succ, dR.eq_20, e0]) g2 (by simp [wkA, retV, stabOk, dC, ev, fillD, pickCells, putAt, bnd, slD, List.getElem?_cons_zero, List.getElem?_cons_succ, dR.eq_20]) (by simp [plC]) rfl rfl hM3 ?_
        clear hM3
        simp -implicitDefEqProofs (disch := first | assumption | (simp only [wnA]; done) | (simp only [wnA]; omega) | omega | fail) [wkA, retV, stabOk, dC, ev, fillD, pickCells, putAt, bnd, slD, List.getElem?_cons_zero, List.getElem?_cons_succ, dR.eq_20, Mem.cell, Mem.row, wmA, e0, e3, gs3]
        refine hP3.store s.at_ (max 1 n) s.st 4 (.int .i64 (max 1 n)) (by simp [wkA, retV, stabOk, dC, ev, fillD, pickCells, putAt, bnd, slD, List.getElem?_cons_zero, List.getElem?_cons_succ, dR.eq_20, e0]) (by simp [wkA, retV, stabOk, dC, ev, fillD, pickCells, putAt, bnd, slD, List.getElem?_cons_zero, List.getElem?_cons_succ, dR.eq_20, hmx]) rfl (by omega) rfl fun M4 hP4 k4 => ?_
        simp -implicitDefEqProofs (disch := first | assumption | (simp only [wnA]; done) | (simp only [wnA]; omega) | omega | fail) [rc63_3, wkA, retV, stabOk, dC, ev, fillD, pickCells, putAt, bnd, slD, List.getElem?_cons_zero, List.getElem?_cons_succ, dR.eq_20, Mem.cell, Mem.row, wmA]
        refine hq M4 _ [] _ (.exp w rfl (by rw [hwl]; simp [pats]) hPw hov) hP4 ?_ (NewB.nil _ _) fun i hi => ?_
        · exact (ho12.keeps).trans ((k3.trans k4).mono fun i _ hi e => hi (by rw [e]; simp [ownP]))
        · simp only [ownP, hw, List.mem_cons, List.mem_append, List.not_mem_nil, or_false] at hi ⊢
          have := (oM.trans o1).1
          rcases hi with hi | hi | hi | hi | hi
          · exact .inl (.inl hi)
          · exact .inl (.inr (.inl hi))
          · exact .inl (.inr (.inr hi))
          · right; omega
          · right; omega
      · obtain ⟨t, u, rfl, -⟩ := hE
        have hP2 := hP1.old o2
        have gs2 := ((o1.trans o2).2 _ nM).trans gM
        have hip := h.lt ip hipo
        simp -implicitDefEqProofs (disch := first | assumption | (simp only [wnA]; done) | (simp only [wnA]; omega) | omega | fail) [wkA, retV, stabOk, dC, ev, fillD, pickCells, putAt, bnd, slD, List.getElem?_cons_zero, List.getElem?_cons_succ, dR.eq_20, Mem.cell, Mem.row, wmA, e0]
        refine hP2.store s.at_ s.left s.st 3 (.pointer none) (by simp [wkA, retV, stabOk, dC, ev, fillD, pickCells, putAt, bnd, slD, List.getElem?_cons_zero, List.getElem?_cons_succ, dR.eq_20, e0]) (by simp [wkA, retV, stabOk, dC, ev, fillD, pickCells, putAt, bnd, slD, List.getElem?_cons_zero, List.getElem?_cons_succ, dR.eq_20]) (by simp [plC, putAt, hw, watP]) (by omega) rfl fun M3 hP3 k3 => ?_
        have gs3 := (k3.2 m.next (Nat.lt_of_lt_of_le nM (o1.trans o2).1) (by omega)).trans gs2
        simp -implicitDefEqProofs (disch := first | assumption | (simp only [wnA]; done) | (simp only [wnA]; omega) | omega | fail) [wkA, retV, stabOk, dC, ev, fillD, pickCells, putAt, bnd, slD, List.getElem?_cons_zero, List.getElem?_cons_succ, dR.eq_20, Mem.cell, Mem.row, wmA, e0, e3, gs3]
        refine hP3.store s.at_ (max 1 n) s.st 4 (.int .i64 (max 1 n)) (by simp [wkA, retV, stabOk, dC, ev, fillD, pickCells, putAt, bnd, slD, List.getElem?_cons_zero, List.getElem?_cons_succ, dR.eq_20, e0]) (by simp [wkA, retV, stabOk, dC, ev, fillD, pickCells, putAt, bnd, slD, List.getElem?_cons_zero, List.getElem?_cons_succ, dR.eq_20, hmx]) rfl (by omega) rfl fun M4 hP4 k4 => ?_
        simp -implicitDefEqProofs (disch := first | assumption | (simp only [wnA]; done) | (simp only [wnA]; omega) | omega | fail) [rc63_3, wkA, retV, stabOk, dC, ev, fillD, pickCells, putAt, bnd, slD, List.getElem?_cons_zero, List.getElem?_cons_succ, dR.eq_20, Mem.cell, Mem.row, wmA]
        refine hq M4 _ [] _ (.expN rfl hG) hP4 ?_ (NewB.nil _ _) fun i hi => .inl hi
        exact ((oM.trans (o1.trans o2)).keeps).trans ((k3.trans k4).mono fun i _ hi e => hi (by rw [e]; simp [ownP]))
    · simp -implicitDefEqProofs (disch := first | assumption | (simp only [wnA]; done) | (simp only [wnA]; omega) | omega | fail) [wkA, retV, stabOk, dC, ev, fillD, pickCells, putAt, bnd, slD, List.getElem?_cons_zero, List.getElem?_cons_succ, dR.eq_20, Mem.cell, Mem.row, wmA, beqF h1]
      by_cases h2 : kd = 2
      · subst h2
        simp -implicitDefEqProofs (disch := first | assumption | (simp only [wnA]; done) | (simp only [wnA]; omega) | omega | fail) [wkA, retV, stabOk, dC, ev, fillD, pickCells, putAt, bnd, slD, List.getElem?_cons_zero, List.getElem?_cons_succ, dR.eq_20, Mem.cell, Mem.row, wmA, gM]
        refine c_jump hP hl fun M2 k2 hP2 u => ?_
        simp -implicitDefEqProofs (disch := first | assumption | (simp only [wnA]; done) | (simp only [wnA]; omega) | omega | fail) [rc63_3, wkA, retV, stabOk, dC, ev, fillD, pickCells, putAt, bnd, slD, List.getElem?_cons_zero, List.getElem?_cons_succ, dR.eq_20, Mem.cell, Mem.row, wmA]
        exact hq M2 _ [] _ (.goto rfl) hP2 (kM0 _ k2) (NewB.nil _ _) fun i hi => .inl hi
      · simp -implicitDefEqProofs (disch := first | assumption | (simp only [wnA]; done) | (simp only [wnA]; omega) | omega | fail) [wkA, retV, stabOk, dC, ev, fillD, pickCells, putAt, bnd, slD, List.getElem?_cons_zero, List.getElem?_cons_succ, dR.eq_20, Mem.cell, Mem.row, wmA, beqF h2]
        by_cases h3 : kd = 3
        · subst h3
          simp -implicitDefEqProofs (disch := first | assumption | (simp only [wnA]; done) | (simp only [wnA]; omega) | omega | fail) [wkA, retV, stabOk, dC, ev, fillD, pickCells, putAt, bnd, slD, List.getElem?_cons_zero, List.getElem?_cons_succ, dR.eq_20, Mem.cell, Mem.row, wmA, gp]
          rw [hP.mp.lku (k := s.at_) (by simp [wkA, retV, stabOk, dC, ev, fillD, pickCells, putAt, bnd, slD, List.getElem?_cons_zero, List.getElem?_cons_succ, dR.eq_20]) (by simp [wkA, retV, stabOk, dC, ev, fillD, pickCells, putAt, bnd, slD, List.getElem?_cons_zero, List.getElem?_cons_succ, dR.eq_20])]
          simp -implicitDefEqProofs (disch := first | assumption | (simp only [wnA]; done) | (simp only [wnA]; omega) | omega | fail) [wkA, retV, stabOk, dC, ev, fillD, pickCells, putAt, bnd, slD, List.getElem?_cons_zero, List.getElem?_cons_succ, dR.eq_20, Mem.cell, Mem.row, wmA]
          refine hP.mp.mup (k := s.at_) (v := IntKind.i64.wrap (s.f s.at_ + 1)) (by simp [wkA, retV, stabOk, dC, ev, fillD, pickCells, putAt, bnd, slD, List.getElem?_cons_zero, List.getElem?_cons_succ, dR.eq_20]) (by simp [wkA, retV, stabOk, dC, ev, fillD, pickCells, putAt, bnd, slD, List.getElem?_cons_zero, List.getElem?_cons_succ, dR.eq_20]) (by simp [wkA, retV, stabOk, dC, ev, fillD, pickCells, putAt, bnd, slD, List.getElem?_cons_zero, List.getElem?_cons_succ, dR.eq_20]) fun M2 hf2 n2 o2 => ?_
          have hP2 := hP.setF hf2 n2 o2
          have k2 : Keeps (fun i => i ≠ s.im) M M2 := ⟨by omega, fun i _ hi => o2 i hi⟩
          have hip := h.lt ip hipo
          have him := h.lt s.im (by simp [ownP])
          have gs2 := (k2.2 m.next nM (by omega)).trans gM
          have gp2 : M2.get ip = .own [sv, .int .i64 s.at_, .map (some s.im), watP s.wat, .int .i64 s.left, .int .i64 0, .int .i64 s.st, slV s.ot s.tr.length 1] 105 := hP2.g
          have hlk : ∀ {ts : Fr} {x i : Operand}, ev ts x = .map (some s.im) → ev ts i = .int .i64 s.at_ → dR ts M2 (.lku 0 false (.int .i64 0) x i) = some (.int .i64 (IntKind.i64.wrap (s.f s.at_ + 1))) := fun hx hi => by have := hP2.mp.lku (k := s.at_) hx hi; simpa using this
          have kF : Keeps (fun i => i ∉ ownP ip s) M M2 := k2.mono fun i _ hi e => hi (by rw [e]; simp [ownP])
          have kM2 : Keeps (fun i => i ∉ ownP ip s) m M2 := (oM.keeps).trans kF
          simp -implicitDefEqProofs (disch := first | assumption | (simp only [wnA]; done) | (simp only [wnA]; omega) | omega | fail) [wkA, retV, stabOk, dC, ev, fillD, pickCells, putAt, bnd, slD, List.getElem?_cons_zero, List.getElem?_cons_succ, dR.eq_20, Mem.cell, Mem.row, wmA, gp2]
          rw [hlk (by simp [wkA, retV, stabOk, dC, ev, fillD, pickCells, putAt, bnd, slD, List.getElem?_cons_zero, List.getElem?_cons_succ, dR.eq_20]) (by simp [wkA, retV, stabOk, dC, ev, fillD, pickCells, putAt, bnd, slD, List.getElem?_cons_zero, List.getElem?_cons_succ, dR.eq_20])]
          simp -implicitDefEqProofs (disch := first | assumption | (simp only [wnA]; done) | (simp only [wnA]; omega) | omega | fail) [wkA, retV, stabOk, dC, ev, fillD, pickCells, putAt, bnd, slD, List.getElem?_cons_zero, List.getElem?_cons_succ, dR.eq_20, Mem.cell, Mem.row, wmA, gs2]
          by_cases hle : IntKind.i64.wrap (s.f s.at_ + 1) ≤ n
          · simp -implicitDefEqProofs (disch := first | assumption | (simp only [wnA]; done) | (simp only [wnA]; omega) | omega | fail) [wkA, retV, stabOk, dC, ev, fillD, pickCells, putAt, bnd, slD, List.getElem?_cons_zero, List.getElem?_cons_succ, dR.eq_20, Mem.cell, Mem.row, wmA, hle, gs2]
            refine c_jump hP2 hl fun M3 k3 hP3 u => ?_
            simp -implicitDefEqProofs (disch := first | assumption | (simp only [wnA]; done) | (simp only [wnA]; omega) | omega | fail) [rc63_3, wkA, retV, stabOk, dC, ev, fillD, pickCells, putAt, bnd, slD, List.getElem?_cons_zero, List.getElem?_cons_succ, dR.eq_20, Mem.cell, Mem.row, wmA]
            refine hq M3 _ [] _ (.tryA rfl hle) hP3 (kM2.trans (k3.mono fun i _ hi e => hi (by rw [e]; simp [ownP]))) (NewB.nil _ _) fun i hi => .inl hi
          · simp -implicitDefEqProofs (disch := first | assumption | (simp only [wnA]; done) | (simp only [wnA]; omega) | omega | fail) [wkA, retV, stabOk, dC, ev, fillD, pickCells, putAt, bnd, slD, List.getElem?_cons_zero, List.getElem?_cons_succ, dR.eq_20, Mem.cell, Mem.row, wmA, hle, gp2]
            refine hP2.mp.mup (k := s.at_) (v := 0) (by simp [wkA, retV, stabOk, dC, ev, fillD, pickCells, putAt, bnd, slD, List.getElem?_cons_zero, List.getElem?_cons_succ, dR.eq_20]) (by simp [wkA, retV, stabOk, dC, ev, fillD, pickCells, putAt, bnd, slD, List.getElem?_cons_zero, List.getElem?_cons_succ, dR.eq_20]) (by simp [wkA, retV, stabOk, dC, ev, fillD, pickCells, putAt, bnd, slD, List.getElem?_cons_zero, List.getElem?_cons_succ, dR.eq_20]) fun M3 hf3 n3 o3 => ?_
            have ef : (fun j => if j = s.at_ then 0 else if j = s.at_ then IntKind.i64.wrap (s.f s.at_ + 1) else s.f j) = fun j => if j = s.at_ then 0 else s.f j := by
              funext j; by_cases hj : j = s.at_ <;> simp [hj]
            rw [ef] at hf3
            have hP3 := hP2.setF hf3 n3 o3
            have k3 : Keeps (fun i => i ∉ ownP ip s) M2 M3 := ⟨by omega, fun i _ hi => o3 i (fun e => hi (by rw [e]; simp [ownP]))⟩
            have gp3 : M3.get ip = .own [sv, .int .i64 s.at_, .map (some s.im), watP s.wat, .int .i64 s.left, .int .i64 0, .int .i64 s.st, slV s.ot s.tr.length 1] 105 := hP3.g
            simp -implicitDefEqProofs (disch := first | assumption | (simp only [wnA]; done) | (simp only [wnA]; omega) | omega | fail) [wkA, retV, stabOk, dC, ev, fillD, pickCells, putAt, bnd, slD, List.getElem?_cons_zero, List.getElem?_cons_succ, dR.eq_20, Mem.cell, Mem.row, wmA, gp3]
            refine hP3.store (IntKind.i64.wrap (s.at_ + 1)) s.left s.st 1 (.int .i64 (IntKind.i64.wrap (s.at_ + 1))) (by simp [wkA, retV, stabOk, dC, ev, fillD, pickCells, putAt, bnd, slD, List.getElem?_cons_zero, List.getElem?_cons_succ, dR.eq_20]) (by simp [wkA, retV, stabOk, dC, ev, fillD, pickCells, putAt, bnd, slD, List.getElem?_cons_zero, List.getElem?_cons_succ, dR.eq_20]) rfl (by omega) rfl fun M4 hP4 k4 => ?_
            simp -implicitDefEqProofs (disch := first | assumption | (simp only [wnA]; done) | (simp only [wnA]; omega) | omega | fail) [rc63_3, wkA, retV, stabOk, dC, ev, fillD, pickCells, putAt, bnd, slD, List.getElem?_cons_zero, List.getElem?_cons_succ, dR.eq_20, Mem.cell, Mem.row, wmA]
            refine hq M4 _ [] _ (.tryB rfl hle) hP4 ((kM2.trans k3).trans (k4.mono fun i _ hi e => hi (by rw [e]; simp [ownP]))) (NewB.nil _ _) fun i hi => .inl hi
        · simp -implicitDefEqProofs (disch := first | assumption | (simp only [wnA]; done) | (simp only [wnA]; omega) | omega | fail) [wkA, retV, stabOk, dC, ev, fillD, pickCells, putAt, bnd, slD, List.getElem?_cons_zero, List.getElem?_cons_succ, dR.eq_20, Mem.cell, Mem.row, wmA, beqF h3]
          by_cases h4 : kd = 4
          · subst h4
            simp -implicitDefEqProofs (disch := first | assumption | (simp only [wnA]; done) | (simp only [wnA]; omega) | omega | fail) [wkA, retV, stabOk, dC, ev, fillD, pickCells, putAt, bnd, slD, List.getElem?_cons_zero, List.getElem?_cons_succ, dR.eq_20, Mem.cell, Mem.row, wmA]
            refine hP.store s.at_ s.left 1 6 (.int .i64 1) (by simp [wkA, retV, stabOk, dC, ev, fillD, pickCells, putAt, bnd, slD, List.getElem?_cons_zero, List.getElem?_cons_succ, dR.eq_20]) (by simp [wkA, retV, stabOk, dC, ev, fillD, pickCells, putAt, bnd, slD, List.getElem?_cons_zero, List.getElem?_cons_succ, dR.eq_20]) rfl (by omega) rfl fun M2 hP2 k2 => ?_
            simp -implicitDefEqProofs (disch := first | assumption | (simp only [wnA]; done) | (simp only [wnA]; omega) | omega | fail) [rc63_3, wkA, retV, stabOk, dC, ev, fillD, pickCells, putAt, bnd, slD, List.getElem?_cons_zero, List.getElem?_cons_succ, dR.eq_20, Mem.cell, Mem.row, wmA]
            exact hq M2 _ [] _ (.done rfl) hP2 (kM0 _ k2) (NewB.nil _ _) fun i hi => .inl hi
          · simp -implicitDefEqProofs (disch := first | assumption | (simp only [wnA]; done) | (simp only [wnA]; omega) | omega | fail) [wkA, retV, stabOk, dC, ev, fillD, pickCells, putAt, bnd, slD, List.getElem?_cons_zero, List.getElem?_cons_succ, dR.eq_20, Mem.cell, Mem.row, wmA, beqF h4]
            refine hP.store s.at_ s.left 2 6 (.int .i64 2) (by simp [wkA, retV, stabOk, dC, ev, fillD, pickCells, putAt, bnd, slD, List.getElem?_cons_zero, List.getElem?_cons_succ, dR.eq_20]) (by simp [wkA, retV, stabOk, dC, ev, fillD, pickCells, putAt, bnd, slD, List.getElem?_cons_zero, List.getElem?_cons_succ, dR.eq_20]) rfl (by omega) rfl fun M2 hP2 k2 => ?_
            simp -implicitDefEqProofs (disch := first | assumption | (simp only [wnA]; done) | (simp only [wnA]; omega) | omega | fail) [rc63_3, wkA, retV, stabOk, dC, ev, fillD, pickCells, putAt, bnd, slD, List.getElem?_cons_zero, List.getElem?_cons_succ, dR.eq_20, Mem.cell, Mem.row, wmA]
            exact hq M2 _ [] _ (.fail h0 h1 h2 h3 h4) hP2 (kM0 _ k2) (NewB.nil _ _) fun i hi => .inl hi
end Go.Proofs.YtjlicambfepfiaaGreatDoor.Ab

set_option linter.unusedVariables false
set_option linter.unusedSimpArgs false
namespace Go.Proofs.YtjlicambfepfiaaGreatDoor.Ab
open Go Go.RowKit
set_option maxHeartbeats 4000000
set_option maxRecDepth 100000
section
variable (G : List (List UInt8) → Prop) (P : List (List UInt8) → List (Tab × List Bool) → Prop)
/-- Steps are done, from the n-th on. -/
inductive RunR (l : List DV) : Nat → PlS → List UInt8 → PlS → List UInt8 → Prop
  | stop (n : Nat) (s : PlS) (out : List UInt8) : (s.st ≠ 0 ∨ s.wat ≠ none) → RunR l n s out s out
  | ill (n : Nat) (s : PlS) (out : List UInt8) : s.st = 0 → s.wat = none → (n = 256 ∨ (l.length : Int) ≤ s.at_) → RunR l n s out { s with st := 2 } out
  | step (n : Nat) (s s1 s2 : PlS) (x : DV) (o out out2 : List UInt8) : s.st = 0 → s.wat = none → n < 256 → 0 ≤ s.at_ → l[s.at_.toNat]? = some x → OneR G P l x.1 s s1 o → RunR l (n + 1) s1 (out ++ o) s2 out2 → RunR l n s out s2 out2
end
/-- What a dialogue's steps are: not too large, and what is expected can be made. -/
structure StepsOk (w0 : World) (G : List (List UInt8) → Prop) (P : List (List UInt8) → List (Tab × List Bool) → Prop) (l : List DV) : Prop where
  len : l.length ≤ 1000
  sz : ∀ x ∈ l, x.1.arms.length ≤ 1000 ∧ x.1.tx.length ≤ 1000
  of : ∀ x ∈ l, x.1.kd = 1 → OfC w0 (pats x.1) (G (pats x.1)) (P (pats x.1))
/-- What holds of a state as long as steps are done. -/
structure SafeJ (G : List (List UInt8) → Prop) (P : List (List UInt8) → List (Tab × List Bool) → Prop) (l : List DV) (J : PlS → Prop) : Prop where
  pos : ∀ s, J s → 0 ≤ s.at_
  one : ∀ s x s' o, J s → s.st = 0 → s.wat = none → l[s.at_.toNat]? = some x → OneR G P l x.1 s s' o → J s'
theorem OneR.len {G : List (List UInt8) → Prop} {P : List (List UInt8) → List (Tab × List Bool) → Prop} {l : List DV} {x : DS} {s s' : PlS} {o : List UInt8} (h : OneR G P l x s s' o) : o = [] ∨ o = x.tx := by
  cases h <;> first | exact .inl rfl | exact .inr rfl
theorem c_run {w0 : World} {V : List Nat} {m : Mem} {ip : Nat} {sv : Value} {l : List DV} {s : PlS} {G : List (List UInt8) → Prop} {P : List (List UInt8) → List (Tab × List Bool) → Prop} {J : PlS → Prop} {Q : Value → Mem → Prop} (h : PlayV V m ip sv l s) (hS : StepsOk w0 G P l) (hJ : SafeJ G P l J) (hs : J s) (hV : ∀ i ∈ V, i < L0.n → False)
    (hq : ∀ m' s' out ob, RunR G P l 0 s [] s' out → PlayV V m' ip sv l s' → Keeps (fun i => i ∉ ownP ip s) m m' → SlO m' 5 1 ob (out.map byteV) out.length → (∀ i, ob = some i → m.next ≤ i) → (∀ i ∈ ownP ip s', i ∈ ownP ip s ∨ m.next ≤ i) → Q (slV ob out.length 1) m') :
    AbC Tryz.prog w0 42 [.pointer (some ⟨ip, 0, none⟩)] m Q := by
  refine AbC_fn ok42 (by simp) ?_
  simp -implicitDefEqProofs (disch := first | assumption | (simp only [wnA]; done) | (simp only [wnA]; omega) | omega | fail) [rc42, ro42, wkA, retV, stabOk, dC, ev, fillD, pickCells, putAt, bnd, slD, List.getElem?_cons_zero, List.getElem?_cons_succ, dR.eq_20, Mem.cell, Mem.row, wmA]
  have hll := hS.len
  refine LoopW_of (fun k ts m' => ∃ (n : Nat) (s1 : PlS) (out : List UInt8) (ob : Option Nat), n + k = 257 ∧ n ≤ 256 ∧ (∀ s2 out2, RunR G P l n s1 out s2 out2 → RunR G P l 0 s [] s2 out2) ∧ J s1 ∧ PlayV (ob.toList ++ V) m' ip sv l s1 ∧ Keeps (fun i => i ∉ ownP ip s) m m' ∧ SlO m' 5 1 ob (out.map byteV) out.length ∧ (∀ i, ob = some i → m.next ≤ i) ∧ (∀ i ∈ ownP ip s1, i ∈ ownP ip s ∨ m.next ≤ i) ∧ out.length ≤ n * 1000 ∧
    ts 0 = .pointer (some ⟨ip, 0, none⟩) ∧ ts 3 = slV ob out.length 1 ∧ ts 4 = .int .i64 (n : Nat)) 257 ?_ ?_
  · exact ⟨0, s, [], none, rfl, by omega, fun _ _ h => h, hs, h, Keeps.refl _ _, ⟨rfl, rfl⟩, (fun i hi => by cases hi), (fun i hi => .inl hi), by simp, by simp [frA_at], by simp; rfl, by simp⟩
  · rintro k ts m1 K ⟨n, s1, out, ob, hk, hn, hR, hJs, hP, kk, so, hob, how, hol, t0, t3, t4⟩ hK
    have g1 : m1.get ip = .own [sv, .int .i64 s1.at_, .map (some s1.im), watP s1.wat, .int .i64 s1.left, .int .i64 0, .int .i64 s1.st, slV s1.ot s1.tr.length 1] 105 := hP.g
    have back : ∀ (s2 : PlS) (M : Mem), PlayV (ob.toList ++ V) M ip sv l s2 → PlayV V M ip sv l s2 := fun s2 M hM => hM.other (Keeps.refl _ _) (fun i hi => .inl (List.mem_append_right _ hi)) (fun i hi => hM.lt i (List.mem_append_right _ (List.mem_append_right _ hi))) fun i hi hlo => by
      rcases List.mem_append.1 hi with hi | hi
      · have : ob = some i := by simpa using hi
        have h1 := hob i this; have h2 := h.pt.1; omega
      · exact hV i hi hlo
    simp -implicitDefEqProofs (disch := first | assumption | (simp only [wnA]; done) | (simp only [wnA]; omega) | omega | fail) [rc42_1, wkA, retV, stabOk, dC, ev, fillD, pickCells, putAt, bnd, slD, List.getElem?_cons_zero, List.getElem?_cons_succ, dR.eq_20, Mem.cell, Mem.row, wmA, t0, g1]
    by_cases h0 : s1.st = 0
    · cases hw : s1.wat with
      | some w =>
        rw [hw] at g1
        simp -implicitDefEqProofs (disch := first | assumption | (simp only [wnA]; done) | (simp only [wnA]; omega) | omega | fail) [rc42_2, wkA, retV, stabOk, dC, ev, fillD, pickCells, putAt, bnd, slD, List.getElem?_cons_zero, List.getElem?_cons_succ, dR.eq_20, Mem.cell, Mem.row, wmA, h0, t0, g1, watP, t3]
        exact hq m1 s1 out ob (hR _ _ (.stop _ _ _ (.inr (by rw [hw]; simp)))) (back _ _ hP) kk so hob how
      | none =>
        rw [hw] at g1
        have hsl := hP.ds.sl.sl.slen
        have ill : (n = 256 ∨ (l.length : Int) ≤ s1.at_) → ∀ (M : Mem), PlayV (ob.toList ++ V) M ip sv l { s1 with st := 2 } → Keeps (fun i => i ≠ ip) m1 M → Q (slV ob out.length 1) M := fun hi M hM kM =>
          hq M _ out ob (hR _ _ (.ill _ _ _ h0 hw hi)) (back _ _ hM) (kk.trans (kM.mono fun i hi2 hni e => by
            have hip := h.lt ip h.ipo
            exact hni (by rw [e]; simp [ownP]))) (so.keep kM.1 fun b hb => kM.2 b (by subst hb; exact so.lt) (fun e => by have := hob b hb; have := h.lt ip h.ipo; omega)) hob how
        by_cases h256 : n = 256
        · subst h256
          simp -implicitDefEqProofs (disch := first | assumption | (simp only [wnA]; done) | (simp only [wnA]; omega) | omega | fail) [rc42_0, wkA, retV, stabOk, dC, ev, fillD, pickCells, putAt, bnd, slD, List.getElem?_cons_zero, List.getElem?_cons_succ, dR.eq_20, Mem.cell, Mem.row, wmA, h0, t0, g1, watP, t4]
          refine hP.store s1.at_ s1.left 2 6 (.int .i64 2) (by simp [wkA, retV, stabOk, dC, ev, fillD, pickCells, putAt, bnd, slD, List.getElem?_cons_zero, List.getElem?_cons_succ, dR.eq_20, t0]) (by simp [wkA, retV, stabOk, dC, ev, fillD, pickCells, putAt, bnd, slD, List.getElem?_cons_zero, List.getElem?_cons_succ, dR.eq_20]) rfl (by omega) rfl fun M2 hP2 k2 => ?_
          simp -implicitDefEqProofs (disch := first | assumption | (simp only [wnA]; done) | (simp only [wnA]; omega) | omega | fail) [rc42_2, wkA, retV, stabOk, dC, ev, fillD, pickCells, putAt, bnd, slD, List.getElem?_cons_zero, List.getElem?_cons_succ, dR.eq_20, Mem.cell, Mem.row, wmA, t3]
          exact ill (.inl rfl) M2 hP2 k2
        · have hn2 : ((n : Int) == 256) = false := beqF (by omega)
          by_cases hat : (l.length : Int) ≤ s1.at_
          · simp -implicitDefEqProofs (disch := first | assumption | (simp only [wnA]; done) | (simp only [wnA]; omega) | omega | fail) [rc42_0, wkA, retV, stabOk, dC, ev, fillD, pickCells, putAt, bnd, slD, List.getElem?_cons_zero, List.getElem?_cons_succ, dR.eq_20, Mem.cell, Mem.row, wmA, h0, t0, g1, watP, t4, hn2, hsl, hat]
            refine hP.store s1.at_ s1.left 2 6 (.int .i64 2) (by simp [wkA, retV, stabOk, dC, ev, fillD, pickCells, putAt, bnd, slD, List.getElem?_cons_zero, List.getElem?_cons_succ, dR.eq_20, t0]) (by simp [wkA, retV, stabOk, dC, ev, fillD, pickCells, putAt, bnd, slD, List.getElem?_cons_zero, List.getElem?_cons_succ, dR.eq_20]) rfl (by omega) rfl fun M2 hP2 k2 => ?_
            simp -implicitDefEqProofs (disch := first | assumption | (simp only [wnA]; done) | (simp only [wnA]; omega) | omega | fail) [rc42_2, wkA, retV, stabOk, dC, ev, fillD, pickCells, putAt, bnd, slD, List.getElem?_cons_zero, List.getElem?_cons_succ, dR.eq_20, Mem.cell, Mem.row, wmA, t3]
            exact ill (.inr hat) M2 hP2 k2
          · have hpos := hJ.pos _ hJs
            obtain ⟨j, hj⟩ : ∃ j : Nat, s1.at_ = (j : Int) := ⟨s1.at_.toNat, by omega⟩
            have hjl : j < l.length := by omega
            obtain ⟨x, hx⟩ : ∃ x, l[j] = x := ⟨_, rfl⟩
            have hxm : x ∈ l := by rw [← hx]; exact List.getElem_mem hjl
            have hxa : l[s1.at_.toNat]? = some x := by rw [hj, Int.toNat_natCast, List.getElem?_eq_getElem hjl, hx]
            obtain ⟨bi, bo, L, hvv, hL, hLl, hLt, -⟩ := hP.ds.sl.sl.at hjl
            rw [flat_at vC_len l (List.getElem?_eq_getElem hjl), hx] at hLt
            have hsx : sidx 7 sv (.int .i64 (j : Int)) = some (.pointer (some ⟨bi, bo + j * 7, none⟩)) := by rw [hvv]; exact sidx_at hjl
            have hle : bo + j * 7 + 7 ≤ L.length := by omega
            rw [hj] at g1
            have hat' : ¬ (l.length : Int) ≤ (j : Int) := by omega
            simp -implicitDefEqProofs (disch := first | assumption | (simp only [wnA]; done) | (simp only [wnA]; omega) | omega | fail) [rc42_0, wkA, retV, stabOk, dC, ev, fillD, pickCells, putAt, bnd, slD, List.getElem?_cons_zero, List.getElem?_cons_succ, dR.eq_20, Mem.cell, Mem.row, wmA, h0, t0, g1, watP, t3, t4, hn2, hsl, hat', hsx, hL, hLt, hle]
            refine c_one hP (by omega) hw hxm (by have := (hS.sz x hxm).1; omega) (by have := (hS.sz x hxm).2; omega) (hS.of x hxm) fun m2 s2 o v hO hP2 k2 hB how2 => ?_
            have k02 : Keeps (fun i => i ∉ ownP ip s) m m2 := ⟨Nat.le_trans kk.1 k2.1, fun i hi hni => by
              rw [k2.2 i (Nat.lt_of_lt_of_le hi kk.1) (fun hm => by rcases how i hm with h1 | h1; exact hni h1; omega)]
              exact kk.2 i hi hni⟩
            have hobV : ∀ b, ob = some b → b ∉ ownP ip s1 := fun b hb hm => hP.dj b hm (by simp [hb])
            have so2 : SlO m2 5 1 ob (out.map byteV) out.length := so.keep k2.1 fun b hb => k2.2 b (by subst hb; exact so.lt) (hobV b hb)
            have how' : ∀ i ∈ ownP ip s2, i ∈ ownP ip s ∨ m.next ≤ i := fun i hi => by
              rcases how2 i hi with h1 | h1
              · exact how i h1
              · right; have := kk.1; omega
            have hJ2 := hJ.one _ _ _ _ hJs h0 hw hxa hO
            have hR2 : ∀ s3 out3, RunR G P l (n + 1) s2 (out ++ o) s3 out3 → RunR G P l 0 s [] s3 out3 := fun s3 out3 hr => hR _ _ (.step n s1 s2 s3 x o out out3 h0 hw (by omega) hpos hxa hO hr)
            have hol2 : o.length ≤ 1000 := by
              rcases hO.len with rfl | rfl
              · simp
              · exact (hS.sz x hxm).2
            have hnw : IntKind.i64.wrap ((n : Int) + 1) = ((n + 1 : Nat) : Int) := by rw [w64 (by omega)]; omega
            have fin : ∀ (fr' : Fr) (M : Mem) (ob' : Option Nat), PlayV (ob'.toList ++ V) M ip sv l s2 → Keeps (fun i => i ∉ ownP ip s) m M → SlO M 5 1 ob' ((out ++ o).map byteV) (out ++ o).length → (∀ i, ob' = some i → m.next ≤ i) → fr' 0 = .pointer (some ⟨ip, 0, none⟩) → fr' 3 = slV ob' (out ++ o).length 1 → fr' 4 = .int .i64 ((n + 1 : Nat) : Int) → K fr' M := fun fr' M ob' hPM kM sM hobM e0 e3 e4 =>
              hK (k - 1) _ _ (by omega) ⟨n + 1, s2, out ++ o, ob', by omega, by omega, hR2, hJ2, hPM, kM, sM, hobM, how', by rw [List.length_append]; omega, e0, e3, e4⟩
            have hel := hB.sl.elems
            have hlv := hB.sl.lenV
            have hsm : out.length + o.length ≤ 257000 := by omega
            simp -implicitDefEqProofs (disch := first | assumption | (simp only [wnA]; done) | (simp only [wnA]; omega) | omega | fail) [wkA, retV, stabOk, dC, ev, fillD, pickCells, putAt, bnd, slD, List.getElem?_cons_zero, List.getElem?_cons_succ, dR.eq_20, Mem.cell, Mem.row, wmA]
            cases o with
            | nil =>
              refine SK_app0 (ob := ob) (n := out.length) (ys := []) (by simp [wkA, retV, stabOk, dC, ev, fillD, pickCells, putAt, bnd, slD, List.getElem?_cons_zero, List.getElem?_cons_succ, dR.eq_20, t3]) (by simpa [wkA, retV, stabOk, dC, ev, fillD, pickCells, putAt, bnd, slD, List.getElem?_cons_zero, List.getElem?_cons_succ, dR.eq_20] using hel) (by simpa [wkA, retV, stabOk, dC, ev, fillD, pickCells, putAt, bnd, slD, List.getElem?_cons_zero, List.getElem?_cons_succ, dR.eq_20] using hlv) ?_
              simp -implicitDefEqProofs (disch := first | assumption | (simp only [wnA]; done) | (simp only [wnA]; omega) | omega | fail) [wkA, retV, stabOk, dC, ev, fillD, pickCells, putAt, bnd, slD, List.getElem?_cons_zero, List.getElem?_cons_succ, dR.eq_20, Mem.cell, Mem.row, wmA, t4, hnw]
              exact fin _ m2 ob hP2 k02 (by rw [List.append_nil]; exact so2) hob (by simp [t0]) (by simp) (by simp)
            | cons o1 os =>
              refine SK_ap (ob := ob) (n := out.length) (k := (o1 :: os).length) (cs := out.map byteV) (ys := (o1 :: os).map byteV) so2 (by simp [wkA, retV, stabOk, dC, ev, fillD, pickCells, putAt, bnd, slD, List.getElem?_cons_zero, List.getElem?_cons_succ, dR.eq_20, t3]) (by simpa [wkA, retV, stabOk, dC, ev, fillD, pickCells, putAt, bnd, slD, List.getElem?_cons_zero, List.getElem?_cons_succ, dR.eq_20] using hel) (by simpa [wkA, retV, stabOk, dC, ev, fillD, pickCells, putAt, bnd, slD, List.getElem?_cons_zero, List.getElem?_cons_succ, dR.eq_20] using hlv) (by simp) (byteV_oneC _) (by simp only [Nat.mul_one]; omega) (by simp only [maxLen]; omega) (by simp) ?_
              obtain ⟨M3, hM3⟩ : ∃ M, (m2.kill ob).push (.own (out.map byteV ++ (o1 :: os).map byteV) 5) = M := ⟨_, rfl⟩
              have s3 : SlO M3 5 1 (some m2.next) ((out ++ o1 :: os).map byteV) (out ++ o1 :: os).length := by
                rw [List.map_append, ← hM3]
                exact SlO.new (by simp)
              have kO : ∀ Y : Nat → Prop, (∀ b, ob = some b → ¬ Y b) → Keeps Y m2 M3 := fun Y hY => by
                subst hM3
                refine ⟨by simp [Mem.kill_nxt], fun i hi hy => ?_⟩
                rw [Mem.push_old _ _ (by rw [Mem.kill_nxt]; exact hi), Mem.kill_other _ (fun e => hY i e hy)]
              have n3 : M3.next = m2.next + 1 := by subst hM3; simp [Mem.kill_nxt]
              have hle2 : m.next ≤ m2.next := k02.1
              have hP3 : PlayV ((some m2.next).toList ++ V) M3 ip sv l s2 := hP2.other (kO _ (fun b hb hn => hn (by simp [hb]))) (fun i hi => by
                rcases List.mem_append.1 hi with hi | hi
                · right; simp at hi; omega
                · exact .inl (List.mem_append_right _ hi)) (fun i hi => by
                rcases List.mem_append.1 hi with hi | hi
                · simp at hi; omega
                · have := h.lt i (List.mem_append_right _ hi); omega) fun i hi hlo => by
                rcases List.mem_append.1 hi with hi | hi
                · have : ob = some i := by simpa using hi
                  have h1 := hob i this; have h2 := h.pt.1; omega
                · exact hV i hi hlo
              have k03 : Keeps (fun i => i ∉ ownP ip s) m M3 := ⟨by omega, fun i hi hni => by
                have hk3 := (kO (fun i => i < m.next) (fun b hb hlt => by have := hob b hb; omega)).2 i (by omega) hi
                rw [hk3]; exact k02.2 i hi hni⟩
              rw [hM3]
              clear hM3
              simp -implicitDefEqProofs (disch := first | assumption | (simp only [wnA]; done) | (simp only [wnA]; omega) | omega | fail) [wkA, retV, stabOk, dC, ev, fillD, pickCells, putAt, bnd, slD, List.getElem?_cons_zero, List.getElem?_cons_succ, dR.eq_20, Mem.cell, Mem.row, wmA, t4, hnw]
              exact fin _ M3 (some m2.next) hP3 k03 s3 (fun i hi => by cases hi; exact hle2) (by simp [t0]) (by simp) (by simp)
    · simp -implicitDefEqProofs (disch := first | assumption | (simp only [wnA]; done) | (simp only [wnA]; omega) | omega | fail) [rc42_2, wkA, retV, stabOk, dC, ev, fillD, pickCells, putAt, bnd, slD, List.getElem?_cons_zero, List.getElem?_cons_succ, dR.eq_20, Mem.cell, Mem.row, wmA, beqF h0, t3]
      exact hq m1 s1 out ob (hR _ _ (.stop _ _ _ (.inl h0))) (back _ _ hP) kk so hob how
end Go.Proofs.YtjlicambfepfiaaGreatDoor.Ab

set_option linter.unusedVariables false
set_option linter.unusedSimpArgs false
namespace Go.Proofs.YtjlicambfepfiaaGreatDoor.Ab
open Go Go.RowKit
set_option maxHeartbeats 4000000
set_option maxRecDepth 100000
theorem c_State {w0 : World} {V : List Nat} {m : Mem} {ip : Nat} {sv : Value} {l : List DV} {s : PlS} {Q : Value → Mem → Prop} (h : PlayV V m ip sv l s) (hq : Q (.int .i64 s.st) m) : AbC Tryz.prog w0 26 [.pointer (some ⟨ip, 0, none⟩)] m Q := by
  refine AbC_fn ok26 (by simp) ?_
  have g : m.get ip = .own [sv, .int .i64 s.at_, .map (some s.im), watP s.wat, .int .i64 s.left, .int .i64 0, .int .i64 s.st, slV s.ot s.tr.length 1] 105 := h.g
  simp -implicitDefEqProofs (disch := first | assumption | (simp only [wnA]; done) | (simp only [wnA]; omega) | omega | fail) [rc26, ro26, wkA, retV, stabOk, dC, ev, fillD, pickCells, putAt, bnd, slD, List.getElem?_cons_zero, List.getElem?_cons_succ, dR.eq_20, Mem.cell, Mem.row, wmA, g]
  exact hq
theorem c_At {w0 : World} {V : List Nat} {m : Mem} {ip : Nat} {sv : Value} {l : List DV} {s : PlS} {Q : Value → Mem → Prop} (h : PlayV V m ip sv l s) (hq : Q (.int .i64 s.at_) m) : AbC Tryz.prog w0 28 [.pointer (some ⟨ip, 0, none⟩)] m Q := by
  refine AbC_fn ok28 (by simp) ?_
  have g : m.get ip = .own [sv, .int .i64 s.at_, .map (some s.im), watP s.wat, .int .i64 s.left, .int .i64 0, .int .i64 s.st, slV s.ot s.tr.length 1] 105 := h.g
  simp -implicitDefEqProofs (disch := first | assumption | (simp only [wnA]; done) | (simp only [wnA]; omega) | omega | fail) [rc28, ro28, wkA, retV, stabOk, dC, ev, fillD, pickCells, putAt, bnd, slD, List.getElem?_cons_zero, List.getElem?_cons_succ, dR.eq_20, Mem.cell, Mem.row, wmA, g]
  exact hq
/-- The play's own blocks are others. -/
theorem PlayV.re {V : List Nat} {m M : Mem} {ip : Nat} {sv : Value} {l : List DV} {s s' : PlS} (h : PlayV V m ip sv l s) (k : Keeps (fun i => i ∉ ownP ip s) m M) (g : M.get ip = .own (plC sv s') 105) (hm : MapI M s'.im s'.f) (ho : SlO M 3 1 s'.ot (s'.tr.map (.int .i64)) s'.tr.length)
    (hw : ∀ w, s'.wat = some w → WatV (fun i => i ∉ ownP ip s' ++ V) M w.iw w.ia w.ws w.seen w.over) (hn : (ownP ip s').Nodup) (hi : ∀ i ∈ ownP ip s', (i ∈ ownP ip s ∨ m.next ≤ i) ∧ i < M.next) : PlayV V M ip sv l s' := by
  have hX : ∀ i, i < m.next → i ∉ ownP ip s ++ V → i ∉ ownP ip s' ++ V := fun i hl hni hm => by
    rcases List.mem_append.1 hm with hm | hm
    · rcases (hi i hm).1 with h1 | h1
      · exact hni (List.mem_append_left _ h1)
      · omega
    · exact hni (List.mem_append_right _ hm)
  have k2 : Keeps (fun i => i < m.next ∧ i ∉ ownP ip s ++ V) m M := k.mono fun i _ hx hm => hx.2 (List.mem_append_left _ hm)
  refine ⟨g, ((h.ds.mono fun i hl hx => (⟨hl, hx⟩ : i < m.next ∧ i ∉ ownP ip s ++ V)).keep k2).mono fun i _ hx => hX i hx.1 hx.2, hm, ho, hw, hn, ?_, h.pt.keeps k (fun i hl hm => by have := h.lo i hm; omega), ?_, ?_⟩
  · intro i hm
    rcases List.mem_append.1 hm with hm | hm
    · exact (hi i hm).2
    · exact Nat.lt_of_lt_of_le (h.lt i (List.mem_append_right _ hm)) k.1
  · intro i hm
    rcases (hi i hm).1 with h1 | h1
    · exact h.lo i h1
    · exact Nat.le_trans h.pt.1 h1
  · intro i hm hV
    rcases (hi i hm).1 with h1 | h1
    · exact h.dj i h1 hV
    · have := h.lt i (List.mem_append_right _ hV); omega
/-- The watch is given up. -/
theorem PlayV.dropW {V : List Nat} {m M : Mem} {ip : Nat} {sv : Value} {l : List DV} {s : PlS} (h : PlayV V m ip sv l s) (hM : m.set ip (.own (plC sv { s with wat := none }) 105) = M) : PlayV V M ip sv l { s with wat := none } := by
  have hnd := h.nd
  have hsub : ∀ i ∈ ownP ip { s with wat := none }, i ∈ ownP ip s := fun i hi => by
    simp only [ownP, List.mem_cons, List.mem_append, List.not_mem_nil, or_false] at hi ⊢
    rcases hi with hi | hi | hi
    · exact .inl hi
    · exact .inr (.inl hi)
    · exact .inr (.inr (.inl hi))
  have hnd2 := hnd
  simp only [ownP, List.nodup_cons, List.mem_cons, List.mem_append, not_or] at hnd2
  subst hM
  refine h.re ((Keeps.refl _ _).set (fun _ hn => hn (by simp [ownP])) _) (by rw [Mem.set_same]) ?_ ?_ (fun w hw => by cases hw) ?_ fun i hi => ⟨.inl (hsub i hi), h.lt i (List.mem_append_left _ (hsub i hi))⟩
  · obtain ⟨es, c, g, h2⟩ := h.mp
    exact ⟨es, c, by rw [Mem.set_other _ _ (fun e => hnd2.1.1 e.symm)]; exact g, h2⟩
  · exact h.ot.keep (Nat.le_refl _) fun b hb => Mem.set_other _ _ fun e => hnd2.1.2.1 (by rw [← e]; simp [hb])
  · have : ownP ip { s with wat := none } = ip :: s.im :: s.ot.toList := by simp [ownP]
    rw [this]
    refine List.Nodup.sublist ?_ hnd
    simp only [ownP]
    exact List.Sublist.cons_cons _ (List.Sublist.cons_cons _ (List.sublist_append_left _ _))
section
variable (G : List (List UInt8) → Prop) (P : List (List UInt8) → List (Tab × List Bool) → Prop)
/-- A tick goes by. -/
inductive TickR (l : List DV) (s : PlS) : PlS → List UInt8 → Prop
  | off : s.st ≠ 0 ∨ s.wat = none → TickR l s s []
  | wait : s.st = 0 → s.wat ≠ none → IntKind.i64.wrap (s.left - 1) > 0 → TickR l s { s with left := IntKind.i64.wrap (s.left - 1) } []
  | go (x : DV) (s2 : PlS) (out : List UInt8) : s.st = 0 → s.wat ≠ none → ¬ IntKind.i64.wrap (s.left - 1) > 0 → 0 ≤ s.at_ → l[s.at_.toNat]? = some x → RunR G P l 0 { s with left := IntKind.i64.wrap (s.left - 1), wat := none, at_ := findN x.1.to l 0 } [] s2 out → TickR l s s2 out
end
theorem c_Tick {w0 : World} {V : List Nat} {m : Mem} {ip : Nat} {sv : Value} {l : List DV} {s : PlS} {G : List (List UInt8) → Prop} {P : List (List UInt8) → List (Tab × List Bool) → Prop} {J : PlS → Prop} {Q : Value → Mem → Prop} (h : PlayV V m ip sv l s) (hS : StepsOk w0 G P l) (hJ : SafeJ G P l J) (hV : ∀ i ∈ V, i < L0.n → False)
    (hs : s.st = 0 → s.wat ≠ none → 0 ≤ s.at_ ∧ ∃ x, l[s.at_.toNat]? = some x ∧ J { s with left := IntKind.i64.wrap (s.left - 1), wat := none, at_ := findN x.1.to l 0 })
    (hq : ∀ m' s' out ob, TickR G P l s s' out → PlayV V m' ip sv l s' → Keeps (fun i => i ∉ ownP ip s) m m' → SlO m' 5 1 ob (out.map byteV) out.length → (∀ i, ob = some i → m.next ≤ i) → (∀ i ∈ ownP ip s', i ∈ ownP ip s ∨ m.next ≤ i) → Q (slV ob out.length 1) m') :
    AbC Tryz.prog w0 27 [.pointer (some ⟨ip, 0, none⟩)] m Q := by
  refine AbC_fn ok27 (by simp) ?_
  have g : m.get ip = .own [sv, .int .i64 s.at_, .map (some s.im), watP s.wat, .int .i64 s.left, .int .i64 0, .int .i64 s.st, slV s.ot s.tr.length 1] 105 := h.g
  have nil : TickR G P l s s [] → Q (.slice none 0 0) m := fun hr => by
    have := hq m s [] none hr h (Keeps.refl _ _) ⟨rfl, rfl⟩ (fun i hi => by cases hi) (fun i hi => .inl hi)
    exact this
  by_cases h0 : s.st = 0
  · cases hw : s.wat with
    | none =>
      rw [hw] at g
      simp -implicitDefEqProofs (disch := first | assumption | (simp only [wnA]; done) | (simp only [wnA]; omega) | omega | fail) [rc27, ro27, wkA, retV, stabOk, dC, ev, fillD, pickCells, putAt, bnd, slD, List.getElem?_cons_zero, List.getElem?_cons_succ, dR.eq_20, Mem.cell, Mem.row, wmA, g, h0, watP]
      exact nil (.off (.inr hw))
    | some w =>
      rw [hw] at g
      have hne : s.wat ≠ none := by rw [hw]; simp
      simp -implicitDefEqProofs (disch := first | assumption | (simp only [wnA]; done) | (simp only [wnA]; omega) | omega | fail) [rc27, ro27, rc27_1, wkA, retV, stabOk, dC, ev, fillD, pickCells, putAt, bnd, slD, List.getElem?_cons_zero, List.getElem?_cons_succ, dR.eq_20, Mem.cell, Mem.row, wmA, g, h0, watP]
      refine h.store s.at_ (IntKind.i64.wrap (s.left - 1)) s.st 4 (.int .i64 (IntKind.i64.wrap (s.left - 1))) (by simp [wkA, retV, stabOk, dC, ev, fillD, pickCells, putAt, bnd, slD, List.getElem?_cons_zero, List.getElem?_cons_succ, dR.eq_20]) (by simp [wkA, retV, stabOk, dC, ev, fillD, pickCells, putAt, bnd, slD, List.getElem?_cons_zero, List.getElem?_cons_succ, dR.eq_20]) rfl (by omega) rfl fun M2 hP2 k2 => ?_
      have g2 : M2.get ip = .own [sv, .int .i64 s.at_, .map (some s.im), watP s.wat, .int .i64 (IntKind.i64.wrap (s.left - 1)), .int .i64 0, .int .i64 s.st, slV s.ot s.tr.length 1] 105 := hP2.g
      have kF : Keeps (fun i => i ∉ ownP ip s) m M2 := k2.mono fun i _ hi e => hi (by rw [e]; simp [ownP])
      by_cases hlf : IntKind.i64.wrap (s.left - 1) > 0
      · simp -implicitDefEqProofs (disch := first | assumption | (simp only [wnA]; done) | (simp only [wnA]; omega) | omega | fail) [wkA, retV, stabOk, dC, ev, fillD, pickCells, putAt, bnd, slD, List.getElem?_cons_zero, List.getElem?_cons_succ, dR.eq_20, Mem.cell, Mem.row, wmA, g2, gtT hlf]
        have := hq M2 _ [] none (.wait h0 hne hlf) hP2 kF ⟨rfl, rfl⟩ (fun i hi => by cases hi) (fun i hi => .inl hi)
        exact this
      · obtain ⟨hpos, x, hx, hJx⟩ := hs h0 hne
        obtain ⟨j, hj⟩ : ∃ j : Nat, s.at_ = (j : Int) := ⟨s.at_.toNat, by omega⟩
        rw [hj, Int.toNat_natCast] at hx
        have hjl : j < l.length := by
          rcases Nat.lt_or_ge j l.length with h' | h'
          · exact h'
          · rw [List.getElem?_eq_none h'] at hx; cases hx
        simp -implicitDefEqProofs (disch := first | assumption | (simp only [wnA]; done) | (simp only [wnA]; omega) | omega | fail) [wkA, retV, stabOk, dC, ev, fillD, pickCells, putAt, bnd, slD, List.getElem?_cons_zero, List.getElem?_cons_succ, dR.eq_20, Mem.cell, Mem.row, wmA, g2, gtF (show IntKind.i64.wrap (s.left - 1) ≤ 0 by omega), rc27_0]
        obtain ⟨M3, hM3⟩ : ∃ M, M2.set ip (.own (plC sv { s with left := IntKind.i64.wrap (s.left - 1), wat := none }) 105) = M := ⟨_, rfl⟩
        have hP3 := hP2.dropW hM3
        have k3 : Keeps (fun i => i ≠ ip) M2 M3 := by subst hM3; exact (Keeps.refl _ _).set (fun _ hn => hn rfl) _
        have g3 : M3.get ip = .own [sv, .int .i64 (j : Int), .map (some s.im), .pointer none, .int .i64 (IntKind.i64.wrap (s.left - 1)), .int .i64 0, .int .i64 s.st, slV s.ot s.tr.length 1] 105 := by rw [← hj]; exact hP3.g
        refine SK_stm (i := ip) (o := 3) (vs := [.pointer none]) (cs := plC sv { s with left := IntKind.i64.wrap (s.left - 1) }) (e := 105) (M := M3) (by simp [wkA, retV, stabOk, dC, ev, fillD, pickCells, putAt, bnd, slD, List.getElem?_cons_zero, List.getElem?_cons_succ, dR.eq_20]) hP2.g (by simp [wkA, retV, stabOk, dC, ev, fillD, pickCells, putAt, bnd, slD, List.getElem?_cons_zero, List.getElem?_cons_succ, dR.eq_20]) (by simp [plC]) rfl rfl hM3 ?_
        clear hM3
        obtain ⟨bi, bo, L, hvv, hL, hLl, hLt, hLc⟩ := hP3.ds.sl.sl.at hjl
        have hc5 := hLc 5 (by omega)
        have hxe : l[j] = x := by rw [List.getElem?_eq_getElem hjl] at hx; exact Option.some.inj hx
        rw [flat_at' vC_len l hx (by omega)] at hc5
        have hc5 : L[bo + j * 7 + 5]? = some (.string ⟨⟨x.1.to⟩⟩) := hc5
        have hsx : sidx 7 sv (.int .i64 (j : Int)) = some (.pointer (some ⟨bi, bo + j * 7, none⟩)) := by rw [hvv]; exact sidx_at hjl
        simp -implicitDefEqProofs (disch := first | assumption | (simp only [wnA]; done) | (simp only [wnA]; omega) | omega | fail) [wkA, retV, stabOk, dC, ev, fillD, pickCells, putAt, bnd, slD, List.getElem?_cons_zero, List.getElem?_cons_succ, dR.eq_20, Mem.cell, Mem.row, wmA, g3, hsx, hL, hc5, getL hc5]
        refine c_jump hP3 (by have := hS.len; omega) fun M4 k4 hP4 u => ?_
        simp -implicitDefEqProofs (disch := first | assumption | (simp only [wnA]; done) | (simp only [wnA]; omega) | omega | fail) [wkA, retV, stabOk, dC, ev, fillD, pickCells, putAt, bnd, slD, List.getElem?_cons_zero, List.getElem?_cons_succ, dR.eq_20, Mem.cell, Mem.row, wmA]
        have hsub : ∀ i ∈ ownP ip { s with left := IntKind.i64.wrap (s.left - 1), wat := none, at_ := findN x.1.to l 0 }, i ∈ ownP ip s := fun i hi => by
          simp only [ownP, List.mem_cons, List.mem_append, List.not_mem_nil, or_false] at hi ⊢
          rcases hi with hi | hi | hi
          · exact .inl hi
          · exact .inr (.inl hi)
          · exact .inr (.inr (.inl hi))
        have k04 : Keeps (fun i => i ∉ ownP ip s) m M4 := kF.trans ((k3.trans k4).mono fun i _ hi e => hi (by rw [e]; simp [ownP]))
        refine c_run hP4 hS hJ hJx hV fun M5 s5 out ob hR hP5 k5 so hob how => ?_
        simp -implicitDefEqProofs (disch := first | assumption | (simp only [wnA]; done) | (simp only [wnA]; omega) | omega | fail) [wkA, retV, stabOk, dC, ev, fillD, pickCells, putAt, bnd, slD, List.getElem?_cons_zero, List.getElem?_cons_succ, dR.eq_20, Mem.cell, Mem.row, wmA]
        have hx0 : l[s.at_.toNat]? = some x := by rw [hj, Int.toNat_natCast]; exact hx
        refine hq M5 s5 out ob (.go x s5 out h0 hne hlf hpos hx0 hR) hP5 (k04.trans (k5.mono fun i _ hi hm => hi (hsub i hm))) so (fun i hi => Nat.le_trans k04.1 (hob i hi)) fun i hi => ?_
        rcases how i hi with h1 | h1
        · exact .inl (hsub i h1)
        · right; have := k04.1; omega
  · simp -implicitDefEqProofs (disch := first | assumption | (simp only [wnA]; done) | (simp only [wnA]; omega) | omega | fail) [rc27, ro27, wkA, retV, stabOk, dC, ev, fillD, pickCells, putAt, bnd, slD, List.getElem?_cons_zero, List.getElem?_cons_succ, dR.eq_20, Mem.cell, Mem.row, wmA, g, bneT h0]
    exact nil (.off (.inl h0))
end Go.Proofs.YtjlicambfepfiaaGreatDoor.Ab

set_option linter.unusedVariables false
set_option linter.unusedSimpArgs false
namespace Go.Proofs.YtjlicambfepfiaaGreatDoor.Ab
open Go Go.RowKit
set_option maxHeartbeats 4000000
set_option maxRecDepth 100000
theorem WatV.re {X Y : Nat → Prop} {m M : Mem} {iw ia : Nat} {ws : List WaE} {seen : Int} {over : Bool} (h : WatV X m iw ia ws seen over) (k : Keeps X m M) (k1 : M.get iw = m.get iw) (k2 : M.get ia = m.get ia) (hy : ∀ i, i < m.next → X i → Y i) (h1 : ¬ Y iw) (h2 : ¬ Y ia) (h3 : ∀ i, M.next ≤ i → Y i) : WatV Y M iw ia ws seen over := by
  obtain ⟨tv, g, r⟩ := h.g
  have kb : Keeps (fun i => i < m.next ∧ X i) m M := k.mono fun i _ hi => hi.2
  have mz : ∀ i, i < m.next → X i → (i < m.next ∧ X i) := fun i hi hx => ⟨hi, hx⟩
  have zy : ∀ i, i < M.next → (i < m.next ∧ X i) → Y i := fun i _ hi => hy i hi.1 hi.2
  exact ⟨⟨tv, k1.trans g, ((r.mono mz).keep kb).mono zy⟩, k2.trans h.ga, fun e he => ⟨(((h.es e he).1.mono mz).keep kb).mono zy, (((h.es e he).2.1.mono mz).keep kb).mono zy, (h.es e he).2.2⟩, ⟨h1, h2, h.own.2.2.1, Nat.lt_of_lt_of_le h.own.2.2.2.1 k.1, Nat.lt_of_lt_of_le h.own.2.2.2.2 k.1⟩, h.l, h3⟩
end Go.Proofs.YtjlicambfepfiaaGreatDoor.Ab

set_option linter.unusedVariables false
set_option linter.unusedSimpArgs false
namespace Go.Proofs.YtjlicambfepfiaaGreatDoor.Ab
open Go Go.RowKit
set_option maxHeartbeats 4000000
set_option maxRecDepth 100000
def strV (s : List UInt8) : Value := .string ⟨⟨s⟩⟩
/-- Two lists of texts that grow. -/
structure T2 (base m : Mem) (oa ob : Option Nat) (a b : List (List UInt8)) : Prop where
  o : Old base m
  sa : SlO m 9 1 oa (a.map strV) a.length
  sb : SlO m 9 1 ob (b.map strV) b.length
  ha : ∀ i, oa = some i → base.next ≤ i
  hb : ∀ i, ob = some i → base.next ≤ i
  d : ∀ i, oa = some i → ob ≠ some i
theorem T2.old {base m M : Mem} {oa ob : Option Nat} {a b : List (List UInt8)} (h : T2 base m oa ob a b) (o : Old m M) : T2 base M oa ob a b :=
  ⟨h.o.trans o, h.sa.keep o.1 fun i hi => o.2 i (by subst hi; exact h.sa.lt), h.sb.keep o.1 fun i hi => o.2 i (by subst hi; exact h.sb.lt), h.ha, h.hb, h.d⟩
theorem T2.appA {base m : Mem} {oa ob : Option Nat} {a b : List (List UInt8)} (h : T2 base m oa ob a b) (x : List UInt8) : T2 base ((m.kill oa).push (.own (a.map strV ++ [strV x]) 9)) (some m.next) ob (a ++ [x]) b := by
  refine ⟨(h.o.kill h.ha).push _, ?_, (h.sb.kill fun i hi e => h.d i e hi).push _, fun i hi => by cases hi; exact h.o.1, h.hb, fun i hi e => ?_⟩
  · have e : (a ++ [x]).map strV = a.map strV ++ [strV x] := by simp
    rw [e, List.length_append]
    exact SlO.new (by simp)
  · cases hi
    subst e
    exact Nat.lt_irrefl _ h.sb.lt
theorem T2.appB {base m : Mem} {oa ob : Option Nat} {a b : List (List UInt8)} (h : T2 base m oa ob a b) (x : List UInt8) : T2 base ((m.kill ob).push (.own (b.map strV ++ [strV x]) 9)) oa (some m.next) a (b ++ [x]) := by
  refine ⟨(h.o.kill h.hb).push _, (h.sa.kill fun i hi e => h.d i hi e).push _, ?_, h.ha, fun i hi => by cases hi; exact h.o.1, fun i hi e => ?_⟩
  · have e : (b ++ [x]).map strV = b.map strV ++ [strV x] := by simp
    rw [e, List.length_append]
    exact SlO.new (by simp)
  · cases e
    subst hi
    exact Nat.lt_irrefl _ h.sa.lt
/-- Where the labels lead. -/
theorem w_tos {w0 : World} {Q : AQ} {fr : Fr} {m : Mem} {v : Value} {l : List DV} {ob : Option Nat} {ts0 : List (List UInt8)} (hv : DsV m v l) (hl : l.length ≤ 1000000) (hs : SlO m 9 1 ob (ts0.map strV) ts0.length) (htl : ts0.length ≤ 1000000) (f0 : fr 0 = v) (f6 : fr 6 = slV ob ts0.length 1)
    (hq : (∀ t ∈ ts0, 0 ≤ findN t l 0) → ∀ fr' m', Old m m' → (∀ i ∈ [0, 4, 23, 24, 25], fr' i = fr i) → Q .normal fr' m')
    (he : (∃ t ∈ ts0, findN t l 0 < 0) → ∀ fr' m' u, Old m m' → fr' 2 = fr 4 → fr' 3 = .iface 39 u → Q .ret fr' m') : AbW Tryz.prog w0 rc32_9 Q fr m := by
  simp -implicitDefEqProofs (disch := first | assumption | (simp only [wnA]; done) | (simp only [wnA]; omega) | omega | fail) [rc32_9, wkA, retV, stabOk, dC, ev, fillD, pickCells, putAt, bnd, slD, List.getElem?_cons_zero, List.getElem?_cons_succ, dR.eq_20, Mem.cell, Mem.row, wmA, f6, hs.slen]
  refine LoopW_of (fun k ts m' => ∃ j, j + k = ts0.length ∧ Old m m' ∧ (∀ t ∈ ts0.take j, 0 ≤ findN t l 0) ∧ (∀ i ∈ [0, 4, 23, 24, 25], ts i = fr i) ∧ ts 93 = slV ob ts0.length 1 ∧ ts 94 = .int .i64 (ts0.length : Nat) ∧ ts 95 = .int .i64 (j : Nat)) ts0.length ?_ ?_
  · refine ⟨0, by omega, Old.refl m, (fun t ht => by simp at ht), fun i hi => ?_, by simp, by simp, by simp⟩
    simp only [List.mem_cons, List.not_mem_nil, or_false] at hi
    rcases hi with rfl | rfl | rfl | rfl | rfl <;> simp
  · rintro k ts m1 K ⟨j, hj, o1, hall, sm, t93, t94, t95⟩ hK
    have e0 := (sm 0 (by simp)).trans f0
    have e4 := sm 4 (by simp)
    simp -implicitDefEqProofs (disch := first | assumption | (simp only [wnA]; done) | (simp only [wnA]; omega) | omega | fail) [rc32_8, wkA, retV, stabOk, dC, ev, fillD, pickCells, putAt, bnd, slD, List.getElem?_cons_zero, List.getElem?_cons_succ, dR.eq_20, Mem.cell, Mem.row, wmA, t94, t95]
    by_cases hjl : j < ts0.length
    · obtain ⟨b, hb⟩ : ∃ b, ob = some b := by
        cases ob with
        | none => have := hs.2; omega
        | some b => exact ⟨b, rfl⟩
      subst hb
      have g1 := (o1.2 b hs.lt).trans hs.2.1
      have hx : (ts0.map strV)[j]? = some (.string ⟨⟨ts0[j]⟩⟩) := by rw [List.getElem?_map, List.getElem?_eq_getElem hjl]; rfl
      have hsl : slV (some b) ts0.length 1 = .slice (some ⟨b, 0, none⟩) ts0.length 1 := rfl
      have hsx : sidx 1 (.slice (some ⟨b, 0, none⟩) ts0.length 1) (.int .i64 (j : Int)) = some (.pointer (some ⟨b, j, none⟩)) := by simpa using sidx_at (b := b) (o := 0) (n := ts0.length) (c := 1) (j := j) (sz := 1) (k := .i64) hjl
      have hjw : IntKind.i64.wrap ((j : Int) + 1) = ((j + 1 : Nat) : Int) := by rw [w64 (by omega)]; omega
      obtain ⟨L, hL⟩ : ∃ L, ts0.map strV = L := ⟨_, rfl⟩
      rw [hL] at g1 hx
      have htk : ts0.take (j + 1) = ts0.take j ++ [ts0[j]] := List.take_succ_eq_append_getElem hjl
      have htm : ts0[j] ∈ ts0 := List.getElem_mem hjl
      generalize ts0[j] = t at *
      simp -implicitDefEqProofs (disch := first | assumption | (simp only [wnA]; done) | (simp only [wnA]; omega) | omega | fail) [hjl, rc32_7, wkA, retV, stabOk, dC, ev, fillD, pickCells, putAt, bnd, slD, List.getElem?_cons_zero, List.getElem?_cons_succ, dR.eq_20, Mem.cell, Mem.row, wmA, t93, t95, hsl, hsx, g1, hx, getL hx, e0]
      refine c_Find (hv.old o1) hl fun m2 o2 => ?_
      by_cases hf : findN t l 0 < 0
      · simp -implicitDefEqProofs (disch := first | assumption | (simp only [wnA]; done) | (simp only [wnA]; omega) | omega | fail) [wkA, retV, stabOk, dC, ev, fillD, pickCells, putAt, bnd, slD, List.getElem?_cons_zero, List.getElem?_cons_succ, dR.eq_20, Mem.cell, Mem.row, wmA, ltT hf, e4]
        exact he ⟨t, htm, hf⟩ _ m2 _ (o1.trans o2) (by simp) (by simp; rfl)
      · simp -implicitDefEqProofs (disch := first | assumption | (simp only [wnA]; done) | (simp only [wnA]; omega) | omega | fail) [wkA, retV, stabOk, dC, ev, fillD, pickCells, putAt, bnd, slD, List.getElem?_cons_zero, List.getElem?_cons_succ, dR.eq_20, Mem.cell, Mem.row, wmA, ltF (show (0 : Int) ≤ findN t l 0 by omega), t95, hjw]
        exact hK (k - 1) _ _ (by omega) ⟨j + 1, by omega, o1.trans o2, fun t' ht' => by
          rw [htk] at ht'
          rcases List.mem_append.1 ht' with h1 | h1
          · exact hall t' h1
          · rw [List.mem_singleton] at h1; subst h1; omega, fun i hi => by
          have := sm i hi
          simp only [List.mem_cons, List.not_mem_nil, or_false] at hi
          rcases hi with rfl | rfl | rfl | rfl | rfl <;> simp [this, e0], by simp [t93], by simp [t94], by simp⟩
    · have hjj : j = ts0.length := by omega
      subst hjj
      rw [List.take_length] at hall
      simp -implicitDefEqProofs (disch := first | assumption | (simp only [wnA]; done) | (simp only [wnA]; omega) | omega | fail) [hjl, wkA, retV, stabOk, dC, ev, fillD, pickCells, putAt, bnd, slD, List.getElem?_cons_zero, List.getElem?_cons_succ, dR.eq_20, Mem.cell, Mem.row, wmA]
      exact hq hall _ m1 o1 fun i hi => by
        have := sm i hi
        simp only [List.mem_cons, List.not_mem_nil, or_false] at hi
        rcases hi with rfl | rfl | rfl | rfl | rfl <;> simp [this]
end Go.Proofs.YtjlicambfepfiaaGreatDoor.Ab

set_option linter.unusedVariables false
set_option linter.unusedSimpArgs false
namespace Go.Proofs.YtjlicambfepfiaaGreatDoor.Ab
open Go Go.RowKit
set_option maxHeartbeats 4000000
set_option maxRecDepth 100000
theorem w_pto {w0 : World} {Q : AQ} {fr : Fr} {base m : Mem} {av : Value} {arms : List Arm} {oa : Option Nat} {t0 : List (List UInt8)} (ha : SlR m 2 av (arms.flatMap Arm.cells) arms.length) (hb : ∀ b, blk av = some b → b < m.next) (hl : arms.length ≤ 1000) (h : T2 base m oa none t0 []) (ht : t0.length ≤ 1000)
    (f6 : fr 6 = slV oa t0.length 1) (f7 : fr 7 = .slice none 0 0) (f65 : fr 65 = av) (f66 : fr 66 = .int .i64 (arms.length : Nat)) (f67 : fr 67 = .int .i64 0)
    (hq : ∀ fr' m' oa' ob', Old base m' → T2 base m' oa' ob' (t0 ++ arms.map Arm.to) (arms.map Arm.pat) → fr' 6 = slV oa' (t0 ++ arms.map Arm.to).length 1 → fr' 7 = slV ob' arms.length 1 → (∀ i ∈ [0, 4, 5, 23, 24, 25], fr' i = fr i) → Q .normal fr' m') (hav : ∀ b, blk av = some b → b < base.next) :
    LoopW (AbW Tryz.prog w0 rc32_5) (inBlockA 2 Q) fr m := by
  refine LoopW_of (fun k ts m' => ∃ j oa' ob', j + k = arms.length ∧ T2 base m' oa' ob' (t0 ++ (arms.take j).map Arm.to) ((arms.take j).map Arm.pat) ∧ (∀ i ∈ [0, 4, 5, 23, 24, 25], ts i = fr i) ∧ ts 6 = slV oa' (t0.length + j) 1 ∧ ts 7 = slV ob' j 1 ∧ ts 65 = av ∧ ts 66 = .int .i64 (arms.length : Nat) ∧ ts 67 = .int .i64 (j : Nat)) arms.length ?_ ?_
  · exact ⟨0, oa, none, by omega, by simpa using h, fun _ _ => rfl, by simpa using f6, by rw [f7]; rfl, f65, f66, f67⟩
  · rintro k ts m1 K ⟨j, oa', ob', hj, hT, sm, t6, t7, t65, t66, t67⟩ hK
    simp -implicitDefEqProofs (disch := first | assumption | (simp only [wnA]; done) | (simp only [wnA]; omega) | omega | fail) [rc32_5, wkA, retV, stabOk, dC, ev, fillD, pickCells, putAt, bnd, slD, List.getElem?_cons_zero, List.getElem?_cons_succ, dR.eq_20, Mem.cell, Mem.row, wmA, t66, t67]
    by_cases hjl : j < arms.length
    · have hsr : SlR m1 2 av (arms.flatMap Arm.cells) arms.length := ha.keep fun b hbb => by rw [hT.o.2 b (hav b hbb), h.o.2 b (hav b hbb)]
      obtain ⟨bi, bo, L, hvv, hL, hLl, hLt, -⟩ := hsr.at hjl
      rw [flat_at arm_len2 arms (List.getElem?_eq_getElem hjl)] at hLt
      obtain ⟨a, hx⟩ : ∃ a, arms[j] = a := ⟨_, rfl⟩
      rw [hx] at hLt
      have hLt : (L.drop (bo + j * 2)).take 2 = [.string ⟨⟨a.pat⟩⟩, .string ⟨⟨a.to⟩⟩] := hLt
      rw [hvv] at t65
      have hle : bo + j * 2 + 2 ≤ L.length := by omega
      have hjw : IntKind.i64.wrap ((j : Int) + 1) = ((j + 1 : Nat) : Int) := by rw [w64 (by omega)]; omega
      obtain ⟨M, hM⟩ : ∃ M, (m1.push (.own [.string ⟨#[]⟩, .string ⟨#[]⟩] 49)).set m1.next (.own (putAt [.string ⟨#[]⟩, .string ⟨#[]⟩] 0 [.string ⟨⟨a.pat⟩⟩, .string ⟨⟨a.to⟩⟩]) 49) = M := ⟨_, rfl⟩
      have oM : Old m1 M := by subst hM; exact ((Old.refl m1).push _).set (Nat.le_refl _) _
      have gM : M.get m1.next = .own [.string ⟨⟨a.pat⟩⟩, .string ⟨⟨a.to⟩⟩] 49 := by subst hM; rw [Mem.set_same]; rfl
      have nM : m1.next < M.next := by subst hM; simp
      simp -implicitDefEqProofs (disch := first | assumption | (simp only [wnA]; done) | (simp only [wnA]; omega) | omega | fail) [hjl, rc32_4, wkA, retV, stabOk, dC, ev, fillD, pickCells, putAt, bnd, slD, List.getElem?_cons_zero, List.getElem?_cons_succ, dR.eq_20, Mem.cell, Mem.row, wmA, t65, t67, sidx_at, hL, hLt, hle]
      refine SK_stm (i := m1.next) (o := 0) (vs := [.string ⟨⟨a.pat⟩⟩, .string ⟨⟨a.to⟩⟩]) (cs := [.string ⟨#[]⟩, .string ⟨#[]⟩]) (e := 49) (M := M) (by simp [wkA, retV, stabOk, dC, ev, fillD, pickCells, putAt, bnd, slD, List.getElem?_cons_zero, List.getElem?_cons_succ, dR.eq_20]) (by simp -implicitDefEqProofs (disch := first | assumption | (simp only [wnA]; done) | (simp only [wnA]; omega) | omega | fail) [wkA, retV, stabOk, dC, ev, fillD, pickCells, putAt, bnd, slD, List.getElem?_cons_zero, List.getElem?_cons_succ, dR.eq_20, Mem.cell, Mem.row, wmA]) (by simp [wkA, retV, stabOk, dC, ev, fillD, pickCells, putAt, bnd, slD, List.getElem?_cons_zero, List.getElem?_cons_succ, dR.eq_20]) (by simp) rfl rfl hM ?_
      clear hM
      have hTM := hT.old oM
      have htk : arms.take (j + 1) = arms.take j ++ [a] := by rw [List.take_succ_eq_append_getElem hjl, hx]
      have last : ∀ (fr' : Fr) (M' : Mem) (oa2 ob2 : Option Nat), T2 base M' oa2 ob2 ((t0 ++ (arms.take j).map Arm.to) ++ [a.to]) ((arms.take j).map Arm.pat ++ [a.pat]) → (∀ i ∈ [0, 4, 5, 23, 24, 25], fr' i = ts i) → fr' 6 = slV oa2 (t0.length + (j + 1)) 1 → fr' 7 = slV ob2 (j + 1) 1 → fr' 65 = ts 65 → fr' 66 = ts 66 → fr' 67 = .int .i64 ((j + 1 : Nat) : Int) → K fr' M' := fun fr' M' oa2 ob2 h2 es e6 e7 e65 e66 e67 =>
        hK (k - 1) _ _ (by omega) ⟨j + 1, oa2, ob2, by omega, by rw [htk]; simpa using h2, fun i hi => (es i hi).trans (sm i hi), e6, e7, by rw [e65, t65, hvv], by rw [e66, t66], e67⟩
      have la : (t0 ++ (arms.take j).map Arm.to).length = t0.length + j := by simp; omega
      have lb : ((arms.take j).map Arm.pat).length = j := by simp; omega
      obtain ⟨A, hA⟩ : ∃ A, t0 ++ (arms.take j).map Arm.to = A := ⟨_, rfl⟩
      obtain ⟨B, hB⟩ : ∃ B, (arms.take j).map Arm.pat = B := ⟨_, rfl⟩
      rw [hA] at hTM last la
      rw [hB] at hTM last lb
      simp -implicitDefEqProofs (disch := first | assumption | (simp only [wnA]; done) | (simp only [wnA]; omega) | omega | fail) [wkA, retV, stabOk, dC, ev, fillD, pickCells, putAt, bnd, slD, List.getElem?_cons_zero, List.getElem?_cons_succ, dR.eq_20, Mem.cell, Mem.row, wmA]
      refine AbW_sem_of ?_
      simp -implicitDefEqProofs (disch := first | assumption | (simp only [wnA]; done) | (simp only [wnA]; omega) | omega | fail) [wkA, retV, stabOk, dC, ev, fillD, pickCells, putAt, bnd, slD, List.getElem?_cons_zero, List.getElem?_cons_succ, dR.eq_20, Mem.cell, Mem.row, wmA, gM, t6, t7, rc32_2]
      have oldA : ∀ i, oa' = some i → i < m1.next := fun i hi => by subst hi; exact hT.sa.lt
      have oldB : ∀ i, ob' = some i → i < m1.next := fun i hi => by subst hi; exact hT.sb.lt
      constructor
      · rw [SK_bsl (cs := [.string ⟨⟨a.to⟩⟩]) (by simp [wkA, retV, stabOk, dC, ev, fillD, pickCells, putAt, bnd, slD, List.getElem?_cons_zero, List.getElem?_cons_succ, dR.eq_20]) (by simp)]
        obtain ⟨P1, hP1⟩ : ∃ X, M.push (.own [.string ⟨⟨a.to⟩⟩] 9) = X := ⟨_, rfl⟩
        have oP1 : Old M P1 := by subst hP1; exact (Old.refl _).push _
        have bP1 : P1.get M.next = .own [.string ⟨⟨a.to⟩⟩] 9 := by subst hP1; rw [Mem.push_same]
        have lP1 : M.next < P1.next := by subst hP1; simp
        have TP1 := hTM.old oP1
        have gP1 := (oP1.2 _ nM).trans gM
        have nP1 : m1.next < P1.next := Nat.lt_of_lt_of_le nM oP1.1
        rw [hP1]
        simp -implicitDefEqProofs (disch := first | assumption | (simp only [wnA]; done) | (simp only [wnA]; omega) | omega | fail) [wkA, retV, stabOk, dC, ev, fillD, pickCells, putAt, bnd, slD, List.getElem?_cons_zero, List.getElem?_cons_succ, dR.eq_20, Mem.cell, Mem.row, wmA, gP1]
        constructor
        · simp -implicitDefEqProofs (disch := first | assumption | (simp only [wnA]; done) | (simp only [wnA]; omega) | omega | fail) [rc32_0, wkA, retV, stabOk, dC, ev, fillD, pickCells, putAt, bnd, slD, List.getElem?_cons_zero, List.getElem?_cons_succ, dR.eq_20, Mem.cell, Mem.row, wmA, gP1]
          refine SK_ap (ob := oa') (n := (t0.length + j)) (k := 1) (cs := A.map strV) (ys := [strV a.to]) (by rw [← la]; exact TP1.sa) (by simp [wkA, retV, stabOk, dC, ev, fillD, pickCells, putAt, bnd, slD, List.getElem?_cons_zero, List.getElem?_cons_succ, dR.eq_20]) (by simp -implicitDefEqProofs (disch := first | assumption | (simp only [wnA]; done) | (simp only [wnA]; omega) | omega | fail) [wkA, retV, stabOk, dC, ev, fillD, pickCells, putAt, bnd, slD, List.getElem?_cons_zero, List.getElem?_cons_succ, dR.eq_20, elemsV, Mem.cell, Mem.row, wmA, bP1, strV]) (by simp [wkA, retV, stabOk, dC, ev, fillD, pickCells, putAt, bnd, slD, List.getElem?_cons_zero, List.getElem?_cons_succ, dR.eq_20]) (by omega) rfl (by omega) (by simp only [maxLen]; omega) rfl ?_
          obtain ⟨P2, hP2⟩ : ∃ X, (P1.kill oa').push (.own (A.map strV ++ [strV a.to]) 9) = X := ⟨_, rfl⟩
          have TP2 := TP1.appA a.to
          rw [hP2] at TP2
          have kP2 : ∀ i, i < P1.next → oa' ≠ some i → P2.get i = P1.get i := fun i hi hne => by subst hP2; rw [Mem.push_old _ _ (by rw [Mem.kill_nxt]; exact hi), Mem.kill_other _ hne]
          have zP2 : P1.next < P2.next := by subst hP2; simp [Mem.kill_nxt]
          have gP2 : P2.get m1.next = _ := (kP2 _ nP1 (by intro e; have := oldA _ e; omega)).trans gP1
          have nP2 : m1.next < P2.next := Nat.lt_trans nP1 zP2
          rw [hP2]
          clear hP2
          simp -implicitDefEqProofs (disch := first | assumption | (simp only [wnA]; done) | (simp only [wnA]; omega) | omega | fail) [wkA, retV, stabOk, dC, ev, fillD, pickCells, putAt, bnd, slD, List.getElem?_cons_zero, List.getElem?_cons_succ, dR.eq_20, Mem.cell, Mem.row, wmA, gP2, t67, hjw]
          rw [SK_bsl (cs := [.string ⟨⟨a.pat⟩⟩]) (by simp [wkA, retV, stabOk, dC, ev, fillD, pickCells, putAt, bnd, slD, List.getElem?_cons_zero, List.getElem?_cons_succ, dR.eq_20]) (by simp)]
          obtain ⟨P3, hP3⟩ : ∃ X, P2.push (.own [.string ⟨⟨a.pat⟩⟩] 9) = X := ⟨_, rfl⟩
          have oP3 : Old P2 P3 := by subst hP3; exact (Old.refl _).push _
          have bP3 : P3.get P2.next = .own [.string ⟨⟨a.pat⟩⟩] 9 := by subst hP3; rw [Mem.push_same]
          have lP3 : P2.next < P3.next := by subst hP3; simp
          have TP3 := TP2.old oP3
          have gP3 := (oP3.2 _ nP2).trans gP2
          have nP3 : m1.next < P3.next := Nat.lt_of_lt_of_le nP2 oP3.1
          rw [hP3]
          simp -implicitDefEqProofs (disch := first | assumption | (simp only [wnA]; done) | (simp only [wnA]; omega) | omega | fail) [wkA, retV, stabOk, dC, ev, fillD, pickCells, putAt, bnd, slD, List.getElem?_cons_zero, List.getElem?_cons_succ, dR.eq_20, Mem.cell, Mem.row, wmA, gP3]
          refine SK_ap (ob := ob') (n := j) (k := 1) (cs := B.map strV) (ys := [strV a.pat]) (by rw [← lb]; exact TP3.sb) (by simp [wkA, retV, stabOk, dC, ev, fillD, pickCells, putAt, bnd, slD, List.getElem?_cons_zero, List.getElem?_cons_succ, dR.eq_20]) (by simp -implicitDefEqProofs (disch := first | assumption | (simp only [wnA]; done) | (simp only [wnA]; omega) | omega | fail) [wkA, retV, stabOk, dC, ev, fillD, pickCells, putAt, bnd, slD, List.getElem?_cons_zero, List.getElem?_cons_succ, dR.eq_20, elemsV, Mem.cell, Mem.row, wmA, bP3, strV]) (by simp [wkA, retV, stabOk, dC, ev, fillD, pickCells, putAt, bnd, slD, List.getElem?_cons_zero, List.getElem?_cons_succ, dR.eq_20]) (by omega) rfl (by omega) (by simp only [maxLen]; omega) rfl ?_
          obtain ⟨P4, hP4⟩ : ∃ X, (P3.kill ob').push (.own (B.map strV ++ [strV a.pat]) 9) = X := ⟨_, rfl⟩
          have TP4 := TP3.appB a.pat
          rw [hP4] at TP4
          have kP4 : ∀ i, i < P3.next → ob' ≠ some i → P4.get i = P3.get i := fun i hi hne => by subst hP4; rw [Mem.push_old _ _ (by rw [Mem.kill_nxt]; exact hi), Mem.kill_other _ hne]
          have zP4 : P3.next < P4.next := by subst hP4; simp [Mem.kill_nxt]
          have gP4 : P4.get m1.next = _ := (kP4 _ nP3 (by intro e; have := oldB _ e; omega)).trans gP3
          have nP4 : m1.next < P4.next := Nat.lt_trans nP3 zP4
          rw [hP4]
          clear hP4
          simp -implicitDefEqProofs (disch := first | assumption | (simp only [wnA]; done) | (simp only [wnA]; omega) | omega | fail) [wkA, retV, stabOk, dC, ev, fillD, pickCells, putAt, bnd, slD, List.getElem?_cons_zero, List.getElem?_cons_succ, dR.eq_20, Mem.cell, Mem.row, wmA, gP4, t67, hjw]
          refine last _ _ _ _ TP4 (fun i hi => ?_) (by simp [Nat.add_assoc]) (by simp) (by simp) (by simp) (by simp)
          simp only [List.mem_cons, List.not_mem_nil, or_false] at hi
          rcases hi with rfl | rfl | rfl | rfl | rfl | rfl <;> simp
        · simp -implicitDefEqProofs (disch := first | assumption | (simp only [wnA]; done) | (simp only [wnA]; omega) | omega | fail) [rc32_1, wkA, retV, stabOk, dC, ev, fillD, pickCells, putAt, bnd, slD, List.getElem?_cons_zero, List.getElem?_cons_succ, dR.eq_20, Mem.cell, Mem.row, wmA, gP1]
          rw [SK_bsl (cs := [.string ⟨⟨a.pat⟩⟩]) (by simp [wkA, retV, stabOk, dC, ev, fillD, pickCells, putAt, bnd, slD, List.getElem?_cons_zero, List.getElem?_cons_succ, dR.eq_20]) (by simp)]
          obtain ⟨P2, hP2⟩ : ∃ X, P1.push (.own [.string ⟨⟨a.pat⟩⟩] 9) = X := ⟨_, rfl⟩
          have oP2 : Old P1 P2 := by subst hP2; exact (Old.refl _).push _
          have bP2 : P2.get P1.next = .own [.string ⟨⟨a.pat⟩⟩] 9 := by subst hP2; rw [Mem.push_same]
          have lP2 : P1.next < P2.next := by subst hP2; simp
          have TP2 := TP1.old oP2
          have gP2 := (oP2.2 _ nP1).trans gP1
          have nP2 : m1.next < P2.next := Nat.lt_of_lt_of_le nP1 oP2.1
          have ctoP2 := (oP2.2 _ lP1).trans bP1
          have mtoP2 := Nat.lt_of_lt_of_le lP1 oP2.1
          rw [hP2]
          simp -implicitDefEqProofs (disch := first | assumption | (simp only [wnA]; done) | (simp only [wnA]; omega) | omega | fail) [wkA, retV, stabOk, dC, ev, fillD, pickCells, putAt, bnd, slD, List.getElem?_cons_zero, List.getElem?_cons_succ, dR.eq_20, Mem.cell, Mem.row, wmA, gP2]
          refine SK_ap (ob := oa') (n := (t0.length + j)) (k := 1) (cs := A.map strV) (ys := [strV a.to]) (by rw [← la]; exact TP2.sa) (by simp [wkA, retV, stabOk, dC, ev, fillD, pickCells, putAt, bnd, slD, List.getElem?_cons_zero, List.getElem?_cons_succ, dR.eq_20]) (by simp -implicitDefEqProofs (disch := first | assumption | (simp only [wnA]; done) | (simp only [wnA]; omega) | omega | fail) [wkA, retV, stabOk, dC, ev, fillD, pickCells, putAt, bnd, slD, List.getElem?_cons_zero, List.getElem?_cons_succ, dR.eq_20, elemsV, Mem.cell, Mem.row, wmA, ctoP2, strV]) (by simp [wkA, retV, stabOk, dC, ev, fillD, pickCells, putAt, bnd, slD, List.getElem?_cons_zero, List.getElem?_cons_succ, dR.eq_20]) (by omega) rfl (by omega) (by simp only [maxLen]; omega) rfl ?_
          obtain ⟨P3, hP3⟩ : ∃ X, (P2.kill oa').push (.own (A.map strV ++ [strV a.to]) 9) = X := ⟨_, rfl⟩
          have TP3 := TP2.appA a.to
          rw [hP3] at TP3
          have kP3 : ∀ i, i < P2.next → oa' ≠ some i → P3.get i = P2.get i := fun i hi hne => by subst hP3; rw [Mem.push_old _ _ (by rw [Mem.kill_nxt]; exact hi), Mem.kill_other _ hne]
          have zP3 : P2.next < P3.next := by subst hP3; simp [Mem.kill_nxt]
          have gP3 : P3.get m1.next = _ := (kP3 _ nP2 (by intro e; have := oldA _ e; omega)).trans gP2
          have nP3 : m1.next < P3.next := Nat.lt_trans nP2 zP3
          have cpatP3 : P3.get P1.next = _ := (kP3 _ lP2 (by intro e; have := oldA _ e; omega)).trans bP2
          have mpatP3 := Nat.lt_trans lP2 zP3
          rw [hP3]
          clear hP3
          simp -implicitDefEqProofs (disch := first | assumption | (simp only [wnA]; done) | (simp only [wnA]; omega) | omega | fail) [wkA, retV, stabOk, dC, ev, fillD, pickCells, putAt, bnd, slD, List.getElem?_cons_zero, List.getElem?_cons_succ, dR.eq_20, Mem.cell, Mem.row, wmA, gP3, t67, hjw]
          refine SK_ap (ob := ob') (n := j) (k := 1) (cs := B.map strV) (ys := [strV a.pat]) (by rw [← lb]; exact TP3.sb) (by simp [wkA, retV, stabOk, dC, ev, fillD, pickCells, putAt, bnd, slD, List.getElem?_cons_zero, List.getElem?_cons_succ, dR.eq_20]) (by simp -implicitDefEqProofs (disch := first | assumption | (simp only [wnA]; done) | (simp only [wnA]; omega) | omega | fail) [wkA, retV, stabOk, dC, ev, fillD, pickCells, putAt, bnd, slD, List.getElem?_cons_zero, List.getElem?_cons_succ, dR.eq_20, elemsV, Mem.cell, Mem.row, wmA, cpatP3, strV]) (by simp [wkA, retV, stabOk, dC, ev, fillD, pickCells, putAt, bnd, slD, List.getElem?_cons_zero, List.getElem?_cons_succ, dR.eq_20]) (by omega) rfl (by omega) (by simp only [maxLen]; omega) rfl ?_
          obtain ⟨P4, hP4⟩ : ∃ X, (P3.kill ob').push (.own (B.map strV ++ [strV a.pat]) 9) = X := ⟨_, rfl⟩
          have TP4 := TP3.appB a.pat
          rw [hP4] at TP4
          have kP4 : ∀ i, i < P3.next → ob' ≠ some i → P4.get i = P3.get i := fun i hi hne => by subst hP4; rw [Mem.push_old _ _ (by rw [Mem.kill_nxt]; exact hi), Mem.kill_other _ hne]
          have zP4 : P3.next < P4.next := by subst hP4; simp [Mem.kill_nxt]
          have gP4 : P4.get m1.next = _ := (kP4 _ nP3 (by intro e; have := oldB _ e; omega)).trans gP3
          have nP4 : m1.next < P4.next := Nat.lt_trans nP3 zP4
          rw [hP4]
          clear hP4
          simp -implicitDefEqProofs (disch := first | assumption | (simp only [wnA]; done) | (simp only [wnA]; omega) | omega | fail) [wkA, retV, stabOk, dC, ev, fillD, pickCells, putAt, bnd, slD, List.getElem?_cons_zero, List.getElem?_cons_succ, dR.eq_20, Mem.cell, Mem.row, wmA, gP4, t67, hjw]
          refine last _ _ _ _ TP4 (fun i hi => ?_) (by simp [Nat.add_assoc]) (by simp) (by simp) (by simp) (by simp)
          simp only [List.mem_cons, List.not_mem_nil, or_false] at hi
          rcases hi with rfl | rfl | rfl | rfl | rfl | rfl <;> simp
      · simp -implicitDefEqProofs (disch := first | assumption | (simp only [wnA]; done) | (simp only [wnA]; omega) | omega | fail) [rc32_3, wkA, retV, stabOk, dC, ev, fillD, pickCells, putAt, bnd, slD, List.getElem?_cons_zero, List.getElem?_cons_succ, dR.eq_20, Mem.cell, Mem.row, wmA, gM]
        rw [SK_bsl (cs := [.string ⟨⟨a.pat⟩⟩]) (by simp [wkA, retV, stabOk, dC, ev, fillD, pickCells, putAt, bnd, slD, List.getElem?_cons_zero, List.getElem?_cons_succ, dR.eq_20]) (by simp)]
        obtain ⟨R1, hR1⟩ : ∃ X, M.push (.own [.string ⟨⟨a.pat⟩⟩] 9) = X := ⟨_, rfl⟩
        have oR1 : Old M R1 := by subst hR1; exact (Old.refl _).push _
        have bR1 : R1.get M.next = .own [.string ⟨⟨a.pat⟩⟩] 9 := by subst hR1; rw [Mem.push_same]
        have lR1 : M.next < R1.next := by subst hR1; simp
        have TR1 := hTM.old oR1
        have gR1 := (oR1.2 _ nM).trans gM
        have nR1 : m1.next < R1.next := Nat.lt_of_lt_of_le nM oR1.1
        rw [hR1]
        simp -implicitDefEqProofs (disch := first | assumption | (simp only [wnA]; done) | (simp only [wnA]; omega) | omega | fail) [wkA, retV, stabOk, dC, ev, fillD, pickCells, putAt, bnd, slD, List.getElem?_cons_zero, List.getElem?_cons_succ, dR.eq_20, Mem.cell, Mem.row, wmA, gR1]
        rw [SK_bsl (cs := [.string ⟨⟨a.to⟩⟩]) (by simp [wkA, retV, stabOk, dC, ev, fillD, pickCells, putAt, bnd, slD, List.getElem?_cons_zero, List.getElem?_cons_succ, dR.eq_20]) (by simp)]
        obtain ⟨R2, hR2⟩ : ∃ X, R1.push (.own [.string ⟨⟨a.to⟩⟩] 9) = X := ⟨_, rfl⟩
        have oR2 : Old R1 R2 := by subst hR2; exact (Old.refl _).push _
        have bR2 : R2.get R1.next = .own [.string ⟨⟨a.to⟩⟩] 9 := by subst hR2; rw [Mem.push_same]
        have lR2 : R1.next < R2.next := by subst hR2; simp
        have TR2 := TR1.old oR2
        have gR2 := (oR2.2 _ nR1).trans gR1
        have nR2 : m1.next < R2.next := Nat.lt_of_lt_of_le nR1 oR2.1
        have cpatR2 := (oR2.2 _ lR1).trans bR1
        have mpatR2 := Nat.lt_of_lt_of_le lR1 oR2.1
        rw [hR2]
        simp -implicitDefEqProofs (disch := first | assumption | (simp only [wnA]; done) | (simp only [wnA]; omega) | omega | fail) [wkA, retV, stabOk, dC, ev, fillD, pickCells, putAt, bnd, slD, List.getElem?_cons_zero, List.getElem?_cons_succ, dR.eq_20, Mem.cell, Mem.row, wmA, gR2]
        refine SK_ap (ob := oa') (n := (t0.length + j)) (k := 1) (cs := A.map strV) (ys := [strV a.to]) (by rw [← la]; exact TR2.sa) (by simp [wkA, retV, stabOk, dC, ev, fillD, pickCells, putAt, bnd, slD, List.getElem?_cons_zero, List.getElem?_cons_succ, dR.eq_20]) (by simp -implicitDefEqProofs (disch := first | assumption | (simp only [wnA]; done) | (simp only [wnA]; omega) | omega | fail) [wkA, retV, stabOk, dC, ev, fillD, pickCells, putAt, bnd, slD, List.getElem?_cons_zero, List.getElem?_cons_succ, dR.eq_20, elemsV, Mem.cell, Mem.row, wmA, bR2, strV]) (by simp [wkA, retV, stabOk, dC, ev, fillD, pickCells, putAt, bnd, slD, List.getElem?_cons_zero, List.getElem?_cons_succ, dR.eq_20]) (by omega) rfl (by omega) (by simp only [maxLen]; omega) rfl ?_
        obtain ⟨R3, hR3⟩ : ∃ X, (R2.kill oa').push (.own (A.map strV ++ [strV a.to]) 9) = X := ⟨_, rfl⟩
        have TR3 := TR2.appA a.to
        rw [hR3] at TR3
        have kR3 : ∀ i, i < R2.next → oa' ≠ some i → R3.get i = R2.get i := fun i hi hne => by subst hR3; rw [Mem.push_old _ _ (by rw [Mem.kill_nxt]; exact hi), Mem.kill_other _ hne]
        have zR3 : R2.next < R3.next := by subst hR3; simp [Mem.kill_nxt]
        have gR3 : R3.get m1.next = _ := (kR3 _ nR2 (by intro e; have := oldA _ e; omega)).trans gR2
        have nR3 : m1.next < R3.next := Nat.lt_trans nR2 zR3
        have cpatR3 : R3.get M.next = _ := (kR3 _ mpatR2 (by intro e; have := oldA _ e; omega)).trans cpatR2
        have mpatR3 := Nat.lt_trans mpatR2 zR3
        rw [hR3]
        clear hR3
        simp -implicitDefEqProofs (disch := first | assumption | (simp only [wnA]; done) | (simp only [wnA]; omega) | omega | fail) [wkA, retV, stabOk, dC, ev, fillD, pickCells, putAt, bnd, slD, List.getElem?_cons_zero, List.getElem?_cons_succ, dR.eq_20, Mem.cell, Mem.row, wmA, gR3, t67, hjw]
        refine SK_ap (ob := ob') (n := j) (k := 1) (cs := B.map strV) (ys := [strV a.pat]) (by rw [← lb]; exact TR3.sb) (by simp [wkA, retV, stabOk, dC, ev, fillD, pickCells, putAt, bnd, slD, List.getElem?_cons_zero, List.getElem?_cons_succ, dR.eq_20]) (by simp -implicitDefEqProofs (disch := first | assumption | (simp only [wnA]; done) | (simp only [wnA]; omega) | omega | fail) [wkA, retV, stabOk, dC, ev, fillD, pickCells, putAt, bnd, slD, List.getElem?_cons_zero, List.getElem?_cons_succ, dR.eq_20, elemsV, Mem.cell, Mem.row, wmA, cpatR3, strV]) (by simp [wkA, retV, stabOk, dC, ev, fillD, pickCells, putAt, bnd, slD, List.getElem?_cons_zero, List.getElem?_cons_succ, dR.eq_20]) (by omega) rfl (by omega) (by simp only [maxLen]; omega) rfl ?_
        obtain ⟨R4, hR4⟩ : ∃ X, (R3.kill ob').push (.own (B.map strV ++ [strV a.pat]) 9) = X := ⟨_, rfl⟩
        have TR4 := TR3.appB a.pat
        rw [hR4] at TR4
        have kR4 : ∀ i, i < R3.next → ob' ≠ some i → R4.get i = R3.get i := fun i hi hne => by subst hR4; rw [Mem.push_old _ _ (by rw [Mem.kill_nxt]; exact hi), Mem.kill_other _ hne]
        have zR4 : R3.next < R4.next := by subst hR4; simp [Mem.kill_nxt]
        have gR4 : R4.get m1.next = _ := (kR4 _ nR3 (by intro e; have := oldB _ e; omega)).trans gR3
        have nR4 : m1.next < R4.next := Nat.lt_trans nR3 zR4
        rw [hR4]
        clear hR4
        simp -implicitDefEqProofs (disch := first | assumption | (simp only [wnA]; done) | (simp only [wnA]; omega) | omega | fail) [wkA, retV, stabOk, dC, ev, fillD, pickCells, putAt, bnd, slD, List.getElem?_cons_zero, List.getElem?_cons_succ, dR.eq_20, Mem.cell, Mem.row, wmA, gR4, t67, hjw]
        refine last _ _ _ _ TR4 (fun i hi => ?_) (by simp [Nat.add_assoc]) (by simp) (by simp) (by simp) (by simp)
        simp only [List.mem_cons, List.not_mem_nil, or_false] at hi
        rcases hi with rfl | rfl | rfl | rfl | rfl | rfl <;> simp
    · have hjj : j = arms.length := by omega
      subst hjj
      rw [List.take_length] at hT
      simp -implicitDefEqProofs (disch := first | assumption | (simp only [wnA]; done) | (simp only [wnA]; omega) | omega | fail) [hjl, wkA, retV, stabOk, dC, ev, fillD, pickCells, putAt, bnd, slD, List.getElem?_cons_zero, List.getElem?_cons_succ, dR.eq_20, Mem.cell, Mem.row, wmA]
      exact hq _ m1 oa' ob' hT.o hT (by simp [t6]) (by simp [t7]) fun i hi => by
        have := sm i hi
        simp only [List.mem_cons, List.not_mem_nil, or_false] at hi
        rcases hi with rfl | rfl | rfl | rfl | rfl | rfl <;> simp [this]
end Go.Proofs.YtjlicambfepfiaaGreatDoor.Ab

set_option linter.unusedVariables false
set_option linter.unusedSimpArgs false
namespace Go.Proofs.YtjlicambfepfiaaGreatDoor.Ab
open Go Go.RowKit
set_option maxHeartbeats 4000000
set_option maxRecDepth 100000
/-- One step's labels are all there. -/
def chk1 (l : List DV) (k : Nat) (x : DS) : Prop := (x.lb ≠ [] → findN x.lb l 0 = k) ∧ ((x.kd = 1 ∨ x.kd = 2 ∨ x.kd = 3) → 0 ≤ findN x.to l 0) ∧ (x.kd = 1 → ∀ a ∈ x.arms, 0 ≤ findN a.to l 0)
/-- Nothing is wrong of a dialogue's labels. -/
def chkOk (l : List DV) : Prop := (0 < l.length ∧ l.length ≤ 64) ∧ ∀ k x, l[k]? = some x → chk1 l k x.1
/-- The labels that a step names, in order. -/
def tosOf (x : DS) : List (List UInt8) := if x.kd = 1 then x.to :: x.arms.map Arm.to else if x.kd = 2 ∨ x.kd = 3 then [x.to] else []
theorem chk1_of {l : List DV} {k : Nat} {x : DS} (h1 : x.lb ≠ [] → findN x.lb l 0 = k) (h2 : ∀ t ∈ tosOf x, 0 ≤ findN t l 0) : chk1 l k x := by
  refine ⟨h1, fun h => h2 _ ?_, fun h a ha => h2 _ ?_⟩
  · unfold tosOf
    rcases h with h | h | h
    · rw [if_pos h]; simp
    · rw [if_neg (by omega), if_pos (.inl h)]; simp
    · rw [if_neg (by omega), if_pos (.inr h)]; simp
  · unfold tosOf
    rw [if_pos h]
    exact List.mem_cons_of_mem _ (List.mem_map.2 ⟨a, ha, rfl⟩)
theorem chk1_not {l : List DV} {k : Nat} {x : DS} {t : List UInt8} (ht : t ∈ tosOf x) (h : findN t l 0 < 0) : ¬ chk1 l k x := fun hc => by
  unfold tosOf at ht
  by_cases h1 : x.kd = 1
  · rw [if_pos h1] at ht
    rcases List.mem_cons.1 ht with rfl | ht
    · have := hc.2.1 (.inl h1); omega
    · obtain ⟨a, ha, rfl⟩ := List.mem_map.1 ht
      have := hc.2.2 h1 a ha; omega
  · rw [if_neg h1] at ht
    by_cases h2 : x.kd = 2 ∨ x.kd = 3
    · rw [if_pos h2, List.mem_singleton] at ht
      subst ht
      have := hc.2.1 (.inr h2); omega
    · rw [if_neg h2] at ht; cases ht
theorem T2.nil (m : Mem) : T2 m m none none [] [] := ⟨Old.refl m, ⟨rfl, rfl⟩, ⟨rfl, rfl⟩, (fun i hi => by cases hi), (fun i hi => by cases hi), fun i hi => by cases hi⟩
theorem w_chk {w0 : World} {Q' : AQ} {fr : Fr} {m : Mem} {v : Value} {l : List DV} {G : List (List UInt8) → Prop} {P : List (List UInt8) → List (Tab × List Bool) → Prop} {i5 : Nat} {x : DV} (hp : Part L0 m) (hv : DsV m v l) (hl : l.length ≤ 1000000) (hA : ArmV m x) (hsz : x.1.arms.length ≤ 1000) (hof : x.1.kd = 1 → OfC w0 (pats x.1) (G (pats x.1)) (P (pats x.1)))
    (gx : m.get i5 = .own (vC x) 29) (n5 : i5 < m.next) (f0 : fr 0 = v) (f5 : fr 5 = .pointer (some ⟨i5, 0, none⟩))
    (hq : (∀ t ∈ tosOf x.1, 0 ≤ findN t l 0) → ∀ fr' m', Old m m' → (∀ i ∈ [0, 23, 24, 25], fr' i = fr i) → Q' .normal fr' m')
    (he : (∃ t ∈ tosOf x.1, findN t l 0 < 0) ∨ (x.1.kd = 1 ∧ ¬ G (pats x.1)) → ∀ fr' m' t u, Old m m' → fr' 3 = .iface t u → Q' .ret fr' m') : AbW Tryz.prog w0 rc32_11 Q' fr m := by
  have hA0 := hA
  obtain ⟨⟨lb, kd, tx, arms, n, to, pl⟩, av⟩ := x
  have gx : m.get i5 = .own [.string ⟨⟨lb⟩⟩, .int .i64 kd, .string ⟨⟨tx⟩⟩, av, .int .i64 n, .string ⟨⟨to⟩⟩, .int .i64 pl] 29 := gx
  simp only at hsz hof hq he hA
  have app1 : ∀ (fr1 : Fr), True := fun _ => trivial
  obtain ⟨M1, hM1⟩ : ∃ M1, m.push (.own [.string ⟨⟨to⟩⟩] 9) = M1 := ⟨_, rfl⟩
  have o1 : Old m M1 := by subst hM1; exact (Old.refl m).push _
  have g1 : M1.get m.next = .own [.string ⟨⟨to⟩⟩] 9 := by subst hM1; rw [Mem.push_same]
  have hT1 := ((T2.nil m).old o1).appA to
  obtain ⟨M2, hM2⟩ : ∃ M2, (M1.kill none).push (.own (([] : List (List UInt8)).map strV ++ [strV to]) 9) = M2 := ⟨_, rfl⟩
  rw [hM2] at hT1
  have o2 : Old m M2 := hT1.o
  have gx2 := (o2.2 _ n5).trans gx
  have tos1 : ∀ (fr' : Fr), fr' 0 = v → fr' 6 = slV (some M1.next) 1 1 → (∀ i ∈ [0, 23, 24, 25], fr' i = fr i) → tosOf ⟨lb, kd, tx, arms, n, to, pl⟩ = [to] → AbW Tryz.prog w0 rc32_9 Q' fr' M2 := fun fr' e0 e6 es ht =>
    w_tos (ts0 := [to]) (hv.old o2) hl hT1.sa (by simp) e0 e6 (fun hall fr2 m2 oo ee => hq (by rw [ht]; exact hall) fr2 m2 (o2.trans oo) fun i hi => (ee i (by simp only [List.mem_cons, List.not_mem_nil, or_false] at hi ⊢; omega)).trans (es i hi)) (fun hex fr2 m2 u oo _ e3 => he (.inl (by rw [ht]; exact hex)) fr2 m2 _ u (o2.trans oo) e3)
  by_cases h1 : kd = 1
  · subst h1
    have hsla := (hA.old o2).sl.slen
    have hsla' : slen av = some (.int .i64 (arms.length : Nat)) := hsla
    simp -implicitDefEqProofs (disch := first | assumption | (simp only [wnA]; done) | (simp only [wnA]; omega) | omega | fail) [rc32_11, wkA, retV, stabOk, dC, ev, fillD, pickCells, putAt, bnd, slD, List.getElem?_cons_zero, List.getElem?_cons_succ, dR.eq_20, Mem.cell, Mem.row, wmA, f5, gx]
    rw [SK_bsl (cs := [.string ⟨⟨to⟩⟩]) (by simp [wkA, retV, stabOk, dC, ev, fillD, pickCells, putAt, bnd, slD, List.getElem?_cons_zero, List.getElem?_cons_succ, dR.eq_20]) (by simp)]
    rw [hM1]
    simp -implicitDefEqProofs (disch := first | assumption | (simp only [wnA]; done) | (simp only [wnA]; omega) | omega | fail) [wkA, retV, stabOk, dC, ev, fillD, pickCells, putAt, bnd, slD, List.getElem?_cons_zero, List.getElem?_cons_succ, dR.eq_20, Mem.cell, Mem.row, wmA]
    refine SK_ap (ob := none) (n := 0) (k := 1) (cs := ([] : List (List UInt8)).map strV) (ys := [.string ⟨⟨to⟩⟩]) ⟨rfl, rfl⟩ (by simp [wkA, retV, stabOk, dC, ev, fillD, pickCells, putAt, bnd, slD, List.getElem?_cons_zero, List.getElem?_cons_succ, dR.eq_20]; rfl) (by simp -implicitDefEqProofs (disch := first | assumption | (simp only [wnA]; done) | (simp only [wnA]; omega) | omega | fail) [wkA, retV, stabOk, dC, ev, fillD, pickCells, putAt, bnd, slD, List.getElem?_cons_zero, List.getElem?_cons_succ, dR.eq_20, elemsV, Mem.cell, Mem.row, wmA, g1]) (by simp [wkA, retV, stabOk, dC, ev, fillD, pickCells, putAt, bnd, slD, List.getElem?_cons_zero, List.getElem?_cons_succ, dR.eq_20]) (by omega) rfl (by omega) (by simp only [maxLen]; omega) rfl ?_
    have hM2' : (M1.kill none).push (.own (([] : List (List UInt8)).map strV ++ [.string ⟨⟨to⟩⟩]) 9) = M2 := hM2
    rw [hM2']
    simp -implicitDefEqProofs (disch := first | assumption | (simp only [wnA]; done) | (simp only [wnA]; omega) | omega | fail) [rc32_10, wkA, retV, stabOk, dC, ev, fillD, pickCells, putAt, bnd, slD, List.getElem?_cons_zero, List.getElem?_cons_succ, dR.eq_20, Mem.cell, Mem.row, wmA, f5, gx2, hsla']
    refine w_pto (t0 := [to]) (hA.old o2).sl (fun b hb => Nat.lt_of_lt_of_le (hA.bl b hb) o2.1) hsz hT1 (by simp) (by simp) (by simp) (by simp) (by simp) (by simp) ?_ (fun b hb => hA.bl b hb)
    intro fr3 m3 oa ob o3 hT3 e6 e7 es
    simp -implicitDefEqProofs (disch := first | assumption | (simp only [wnA]; done) | (simp only [wnA]; omega) | omega | fail) [rc32_6, wkA, retV, stabOk, dC, ev, fillD, pickCells, putAt, bnd, slD, List.getElem?_cons_zero, List.getElem?_cons_succ, dR.eq_20, Mem.cell, Mem.row, wmA, e7]
    have em : (arms.map Arm.pat).map (fun p => Value.string ⟨⟨p⟩⟩) = (arms.map Arm.pat).map strV := rfl
    have so' : SlO m3 9 1 ob ((arms.map Arm.pat).map fun p => Value.string ⟨⟨p⟩⟩) (arms.map Arm.pat).length := hT3.sb
    have hlp : arms.length = (arms.map Arm.pat).length := by rw [List.length_map]
    rw [hlp]
    have f0' := (es 0 (by simp)).trans (by simp [f0] : _ = v)
    refine hof rfl m3 ob _ (o3.part hp) so' (fun m4 w o4 _ _ _ _ _ _ => ?_) fun hG m4 e o4 hE => ?_
    · simp -implicitDefEqProofs (disch := first | assumption | (simp only [wnA]; done) | (simp only [wnA]; omega) | omega | fail) [wkA, retV, stabOk, dC, ev, fillD, pickCells, putAt, bnd, slD, List.getElem?_cons_zero, List.getElem?_cons_succ, dR.eq_20, Mem.cell, Mem.row, wmA]
      have hTos : tosOf ⟨lb, 1, tx, arms, n, to, pl⟩ = to :: arms.map Arm.to := by simp [tosOf]
      refine w_tos (ts0 := to :: arms.map Arm.to) (hv.old (o3.trans o4)) hl (hT3.old o4).sa (by simp; omega) (by simp [f0']) (by simp [e6]) (fun hall fr2 m2 oo ee => hq (by rw [hTos]; exact hall) fr2 m2 ((o3.trans o4).trans oo) fun i hi => ?_) (fun hex fr2 m2 u oo _ e3 => he (.inl (by rw [hTos]; exact hex)) fr2 m2 _ u ((o3.trans o4).trans oo) e3)
      have h1 := ee i (by simp only [List.mem_cons, List.not_mem_nil, or_false] at hi ⊢; omega)
      have h2 := es i (by simp only [List.mem_cons, List.not_mem_nil, or_false] at hi ⊢; omega)
      simp only [List.mem_cons, List.not_mem_nil, or_false] at hi
      rcases hi with rfl | rfl | rfl | rfl <;> (rw [h1]; simp [h2])
    · obtain ⟨t, u, rfl, hnum⟩ := hE
      simp -implicitDefEqProofs (disch := first | assumption | (simp only [wnA]; done) | (simp only [wnA]; omega) | omega | fail) [wkA, retV, stabOk, dC, ev, fillD, pickCells, putAt, bnd, slD, List.getElem?_cons_zero, List.getElem?_cons_succ, dR.eq_20, Mem.cell, Mem.row, wmA]
      refine hnum m4 _ ((o3.trans o4).part hp) fun m5 nn o5 => ?_
      simp -implicitDefEqProofs (disch := first | assumption | (simp only [wnA]; done) | (simp only [wnA]; omega) | omega | fail) [wkA, retV, stabOk, dC, ev, fillD, pickCells, putAt, bnd, slD, List.getElem?_cons_zero, List.getElem?_cons_succ, dR.eq_20, Mem.cell, Mem.row, wmA]
      exact he (.inr ⟨rfl, hG⟩) _ m5 _ _ ((o3.trans o4).trans o5) (by simp; exact ⟨rfl, rfl⟩)
  · by_cases h2 : kd = 2
    · subst h2
      simp -implicitDefEqProofs (disch := first | assumption | (simp only [wnA]; done) | (simp only [wnA]; omega) | omega | fail) [rc32_11, wkA, retV, stabOk, dC, ev, fillD, pickCells, putAt, bnd, slD, List.getElem?_cons_zero, List.getElem?_cons_succ, dR.eq_20, Mem.cell, Mem.row, wmA, f5, gx]
      rw [SK_bsl (cs := [.string ⟨⟨to⟩⟩]) (by simp [wkA, retV, stabOk, dC, ev, fillD, pickCells, putAt, bnd, slD, List.getElem?_cons_zero, List.getElem?_cons_succ, dR.eq_20]) (by simp)]
      rw [hM1]
      simp -implicitDefEqProofs (disch := first | assumption | (simp only [wnA]; done) | (simp only [wnA]; omega) | omega | fail) [wkA, retV, stabOk, dC, ev, fillD, pickCells, putAt, bnd, slD, List.getElem?_cons_zero, List.getElem?_cons_succ, dR.eq_20, Mem.cell, Mem.row, wmA]
      refine SK_ap (ob := none) (n := 0) (k := 1) (cs := ([] : List (List UInt8)).map strV) (ys := [.string ⟨⟨to⟩⟩]) ⟨rfl, rfl⟩ (by simp [wkA, retV, stabOk, dC, ev, fillD, pickCells, putAt, bnd, slD, List.getElem?_cons_zero, List.getElem?_cons_succ, dR.eq_20]; rfl) (by simp -implicitDefEqProofs (disch := first | assumption | (simp only [wnA]; done) | (simp only [wnA]; omega) | omega | fail) [wkA, retV, stabOk, dC, ev, fillD, pickCells, putAt, bnd, slD, List.getElem?_cons_zero, List.getElem?_cons_succ, dR.eq_20, elemsV, Mem.cell, Mem.row, wmA, g1]) (by simp [wkA, retV, stabOk, dC, ev, fillD, pickCells, putAt, bnd, slD, List.getElem?_cons_zero, List.getElem?_cons_succ, dR.eq_20]) (by omega) rfl (by omega) (by simp only [maxLen]; omega) rfl ?_
      have hM2' : (M1.kill none).push (.own (([] : List (List UInt8)).map strV ++ [.string ⟨⟨to⟩⟩]) 9) = M2 := hM2
      rw [hM2']
      simp -implicitDefEqProofs (disch := first | assumption | (simp only [wnA]; done) | (simp only [wnA]; omega) | omega | fail) [rc32_10, wkA, retV, stabOk, dC, ev, fillD, pickCells, putAt, bnd, slD, List.getElem?_cons_zero, List.getElem?_cons_succ, dR.eq_20, Mem.cell, Mem.row, wmA, f5, gx2]
      refine tos1 _ (by simp [f0]) (by simp) (fun i hi => ?_) (by simp [tosOf])
      simp only [List.mem_cons, List.not_mem_nil, or_false] at hi
      rcases hi with rfl | rfl | rfl | rfl <;> simp
    · by_cases h3 : kd = 3
      · subst h3
        simp -implicitDefEqProofs (disch := first | assumption | (simp only [wnA]; done) | (simp only [wnA]; omega) | omega | fail) [rc32_11, wkA, retV, stabOk, dC, ev, fillD, pickCells, putAt, bnd, slD, List.getElem?_cons_zero, List.getElem?_cons_succ, dR.eq_20, Mem.cell, Mem.row, wmA, f5, gx]
        rw [SK_bsl (cs := [.string ⟨⟨to⟩⟩]) (by simp [wkA, retV, stabOk, dC, ev, fillD, pickCells, putAt, bnd, slD, List.getElem?_cons_zero, List.getElem?_cons_succ, dR.eq_20]) (by simp)]
        rw [hM1]
        simp -implicitDefEqProofs (disch := first | assumption | (simp only [wnA]; done) | (simp only [wnA]; omega) | omega | fail) [wkA, retV, stabOk, dC, ev, fillD, pickCells, putAt, bnd, slD, List.getElem?_cons_zero, List.getElem?_cons_succ, dR.eq_20, Mem.cell, Mem.row, wmA]
        refine SK_ap (ob := none) (n := 0) (k := 1) (cs := ([] : List (List UInt8)).map strV) (ys := [.string ⟨⟨to⟩⟩]) ⟨rfl, rfl⟩ (by simp [wkA, retV, stabOk, dC, ev, fillD, pickCells, putAt, bnd, slD, List.getElem?_cons_zero, List.getElem?_cons_succ, dR.eq_20]; rfl) (by simp -implicitDefEqProofs (disch := first | assumption | (simp only [wnA]; done) | (simp only [wnA]; omega) | omega | fail) [wkA, retV, stabOk, dC, ev, fillD, pickCells, putAt, bnd, slD, List.getElem?_cons_zero, List.getElem?_cons_succ, dR.eq_20, elemsV, Mem.cell, Mem.row, wmA, g1]) (by simp [wkA, retV, stabOk, dC, ev, fillD, pickCells, putAt, bnd, slD, List.getElem?_cons_zero, List.getElem?_cons_succ, dR.eq_20]) (by omega) rfl (by omega) (by simp only [maxLen]; omega) rfl ?_
        have hM2' : (M1.kill none).push (.own (([] : List (List UInt8)).map strV ++ [.string ⟨⟨to⟩⟩]) 9) = M2 := hM2
        rw [hM2']
        simp -implicitDefEqProofs (disch := first | assumption | (simp only [wnA]; done) | (simp only [wnA]; omega) | omega | fail) [rc32_10, wkA, retV, stabOk, dC, ev, fillD, pickCells, putAt, bnd, slD, List.getElem?_cons_zero, List.getElem?_cons_succ, dR.eq_20, Mem.cell, Mem.row, wmA, f5, gx2]
        refine tos1 _ (by simp [f0]) (by simp) (fun i hi => ?_) (by simp [tosOf])
        simp only [List.mem_cons, List.not_mem_nil, or_false] at hi
        rcases hi with rfl | rfl | rfl | rfl <;> simp
      · simp -implicitDefEqProofs (disch := first | assumption | (simp only [wnA]; done) | (simp only [wnA]; omega) | omega | fail) [rc32_11, rc32_10, wkA, retV, stabOk, dC, ev, fillD, pickCells, putAt, bnd, slD, List.getElem?_cons_zero, List.getElem?_cons_succ, dR.eq_20, Mem.cell, Mem.row, wmA, f5, gx, beqF h1, beqF h2, beqF h3]
        have hTos : tosOf ⟨lb, kd, tx, arms, n, to, pl⟩ = [] := by simp [tosOf, h1, h2, h3]
        refine w_tos (ob := none) (ts0 := []) hv hl ⟨rfl, rfl⟩ (by simp) (by simp [f0]) (by simp; rfl) (fun hall fr2 m2 oo ee => hq (by rw [hTos]; exact hall) fr2 m2 oo fun i hi => ?_) (fun hex fr2 m2 u oo _ e3 => by obtain ⟨t, ht, -⟩ := hex; cases ht)
        have h1 := ee i (by simp only [List.mem_cons, List.not_mem_nil, or_false] at hi ⊢; omega)
        simp only [List.mem_cons, List.not_mem_nil, or_false] at hi
        rcases hi with rfl | rfl | rfl | rfl <;> (rw [h1]; simp)
theorem c_Check {w0 : World} {m : Mem} {v : Value} {l : List DV} {G : List (List UInt8) → Prop} {P : List (List UInt8) → List (Tab × List Bool) → Prop} {Q : Value → Mem → Prop} (hp : Part L0 m) (hv : DsV m v l) (hS : StepsOk w0 G P l)
    (hok : chkOk l → ∀ m', Old m m' → Q (.tuple ⟨[.int .i64 0, .nilIface]⟩) m')
    (herr : ¬ (chkOk l ∧ ∀ x ∈ l, x.1.kd = 1 → G (pats x.1)) → ∀ m' k t u, Old m m' → Q (.tuple ⟨[k, .iface t u]⟩) m') : AbC Tryz.prog w0 32 [v] m Q := by
  refine AbC_fn ok32 (by simp) ?_
  have hsl := hv.sl.slen
  have hll := hS.len
  by_cases hz : l.length = 0
  · have hz' : (l.length : Int) = 0 := by omega
    simp -implicitDefEqProofs (disch := first | assumption | (simp only [wnA]; done) | (simp only [wnA]; omega) | omega | fail) [rc32, ro32, wkA, retV, stabOk, dC, ev, fillD, pickCells, putAt, bnd, slD, List.getElem?_cons_zero, List.getElem?_cons_succ, dR.eq_20, Mem.cell, Mem.row, wmA, hsl, hz]
    exact herr (fun h => by have := h.1.1.1; omega) m _ _ _ (Old.refl m)
  · have hz' : ((l.length : Int) == 0) = false := beqF (by omega)
    by_cases h64 : 64 < l.length
    · have h64' : (64 : Int) < (l.length : Int) := by omega
      simp -implicitDefEqProofs (disch := first | assumption | (simp only [wnA]; done) | (simp only [wnA]; omega) | omega | fail) [rc32, ro32, wkA, retV, stabOk, dC, ev, fillD, pickCells, putAt, bnd, slD, List.getElem?_cons_zero, List.getElem?_cons_succ, dR.eq_20, Mem.cell, Mem.row, wmA, hsl, hz', gtT h64']
      exact herr (fun h => by have := h.1.1.2; omega) m _ _ _ (Old.refl m)
    · simp -implicitDefEqProofs (disch := first | assumption | (simp only [wnA]; done) | (simp only [wnA]; omega) | omega | fail) [rc32, ro32, rc32_15, wkA, retV, stabOk, dC, ev, fillD, pickCells, putAt, bnd, slD, List.getElem?_cons_zero, List.getElem?_cons_succ, dR.eq_20, Mem.cell, Mem.row, wmA, hsl, hz', gtF (show (l.length : Int) ≤ 64 by omega)]
      refine LoopW_of (fun q ts m' => ∃ j, j + q = l.length ∧ Old m m' ∧ (∀ k x, k < j → l[k]? = some x → chk1 l k x.1) ∧ ts 0 = v ∧ ts 23 = v ∧ ts 24 = .int .i64 (l.length : Nat) ∧ ts 25 = .int .i64 (j : Nat)) l.length ?_ ?_
      · exact ⟨0, by omega, Old.refl m, (fun k x hk => by omega), by simp [frA_at], by simp, by simp, by simp⟩
      · rintro q ts m1 K ⟨j, hj, o1, hall, t0, t23, t24, t25⟩ hK
        simp -implicitDefEqProofs (disch := first | assumption | (simp only [wnA]; done) | (simp only [wnA]; omega) | omega | fail) [rc32_13, wkA, retV, stabOk, dC, ev, fillD, pickCells, putAt, bnd, slD, List.getElem?_cons_zero, List.getElem?_cons_succ, dR.eq_20, Mem.cell, Mem.row, wmA, t24, t25]
        by_cases hjl : j < l.length
        · have hv1 := hv.old o1
          obtain ⟨bi, bo, L, hvv, hL, hLl, hLt, -⟩ := hv1.sl.at hjl
          rw [flat_at vC_len l (List.getElem?_eq_getElem hjl)] at hLt
          obtain ⟨x, hx⟩ : ∃ x, l[j] = x := ⟨_, rfl⟩
          have hxj : l[j]? = some x := by rw [List.getElem?_eq_getElem hjl, hx]
          have hxm : x ∈ l := by rw [← hx]; exact List.getElem_mem hjl
          have hA1 := hv1.ar x hxm
          have hone := hA1.sl.one
          have hsz := hS.sz x hxm
          have hof := hS.of x hxm
          rw [hx] at hLt
          have hsx : sidx 7 v (.int .i64 (j : Int)) = some (.pointer (some ⟨bi, bo + j * 7, none⟩)) := by rw [hvv]; exact sidx_at hjl
          have hle : bo + j * 7 + 7 ≤ L.length := by omega
          have hjw : IntKind.i64.wrap ((j : Int) + 1) = ((j + 1 : Nat) : Int) := by rw [w64 (by omega)]; omega
          obtain ⟨M, hM⟩ : ∃ M, (m1.push (.own [.string ⟨#[]⟩, .int .i64 0, .string ⟨#[]⟩, .slice none 0 0, .int .i64 0, .string ⟨#[]⟩, .int .i64 0] 29)).set m1.next (.own (putAt [.string ⟨#[]⟩, .int .i64 0, .string ⟨#[]⟩, .slice none 0 0, .int .i64 0, .string ⟨#[]⟩, .int .i64 0] 0 (vC x)) 29) = M := ⟨_, rfl⟩
          have oM : Old m1 M := by subst hM; exact ((Old.refl m1).push _).set (Nat.le_refl _) _
          have gM : M.get m1.next = .own (dsC x.1 x.2) 29 := by subst hM; rw [Mem.set_same]; rfl
          have nM : m1.next < M.next := by subst hM; simp
          have next : chk1 l j x.1 → ∀ (fr' : Fr) (M' : Mem), Old m M' → fr' 0 = ts 0 → fr' 23 = ts 23 → fr' 24 = ts 24 → fr' 25 = .int .i64 ((j + 1 : Nat) : Int) → K fr' M' := fun hc fr' M' oM' e0 e23 e24 e25 =>
            hK (q - 1) _ _ (by omega) ⟨j + 1, by omega, oM', fun k y hk hy => by
              by_cases hkj : k = j
              · subst hkj; rw [hxj] at hy; cases hy; exact hc
              · exact hall k y (by omega) hy, by rw [e0, t0], by rw [e23, t23], by rw [e24, t24], e25⟩
          have bad : ¬ chk1 l j x.1 → ¬ (chkOk l ∧ ∀ x ∈ l, x.1.kd = 1 → G (pats x.1)) := fun h hc => h (hc.1.2 j x hxj)
          have badG : x.1.kd = 1 → ¬ G (pats x.1) → ¬ (chkOk l ∧ ∀ x ∈ l, x.1.kd = 1 → G (pats x.1)) := fun hk h hc => h (hc.2 x hxm hk)
          obtain ⟨⟨lb, kd, tx, arms, n, to, pl⟩, av⟩ := x
          have gx : M.get m1.next = .own [.string ⟨⟨lb⟩⟩, .int .i64 kd, .string ⟨⟨tx⟩⟩, av, .int .i64 n, .string ⟨⟨to⟩⟩, .int .i64 pl] 29 := gM
          have hLt : (L.drop (bo + j * 7)).take 7 = [.string ⟨⟨lb⟩⟩, .int .i64 kd, .string ⟨⟨tx⟩⟩, av, .int .i64 n, .string ⟨⟨to⟩⟩, .int .i64 pl] := hLt
          simp only at hsz hof next bad badG hA1
          simp -implicitDefEqProofs (disch := first | assumption | (simp only [wnA]; done) | (simp only [wnA]; omega) | omega | fail) [hjl, rc32_12, wkA, retV, stabOk, dC, ev, fillD, pickCells, putAt, bnd, slD, List.getElem?_cons_zero, List.getElem?_cons_succ, dR.eq_20, Mem.cell, Mem.row, wmA, t0, t23, t25, hsx, hL, hLt, hle]
          refine SK_stm (i := m1.next) (o := 0) (vs := vC (⟨lb, kd, tx, arms, n, to, pl⟩, av)) (cs := [.string ⟨#[]⟩, .int .i64 0, .string ⟨#[]⟩, .slice none 0 0, .int .i64 0, .string ⟨#[]⟩, .int .i64 0]) (e := 29) (M := M) (by simp [wkA, retV, stabOk, dC, ev, fillD, pickCells, putAt, bnd, slD, List.getElem?_cons_zero, List.getElem?_cons_succ, dR.eq_20]) (by simp -implicitDefEqProofs (disch := first | assumption | (simp only [wnA]; done) | (simp only [wnA]; omega) | omega | fail) [wkA, retV, stabOk, dC, ev, fillD, pickCells, putAt, bnd, slD, List.getElem?_cons_zero, List.getElem?_cons_succ, dR.eq_20, Mem.cell, Mem.row, wmA]) (by simp [wkA, retV, stabOk, dC, ev, fillD, pickCells, putAt, bnd, slD, List.getElem?_cons_zero, List.getElem?_cons_succ, dR.eq_20, vC, dsC]) (by simp) rfl (by simp only [vC, dsC, List.all_cons, List.all_nil, hone.1]; rfl) hM ?_
          clear hM
          have hvM := hv1.old oM
          by_cases hlb : lb = []
          · subst hlb
            simp -implicitDefEqProofs (disch := first | assumption | (simp only [wnA]; done) | (simp only [wnA]; omega) | omega | fail) [wkA, retV, stabOk, dC, ev, fillD, pickCells, putAt, bnd, slD, List.getElem?_cons_zero, List.getElem?_cons_succ, dR.eq_20, Mem.cell, Mem.row, wmA, gx, t0]
            refine w_chk (G := G) (P := P) (x := (⟨[], kd, tx, arms, n, to, pl⟩, av)) ((o1.trans oM).part hp) hvM (by omega) (hA1.old oM) hsz.1 hof gM nM (by simp [t0]) (by simp) (fun hall fr' m' oo ee => ?_) fun hb fr' m' t u oo e3 => ?_
            · have e25 := (ee 25 (by simp)).trans (by simp [t25] : _ = Value.int .i64 (j : Int))
              simp -implicitDefEqProofs (disch := first | assumption | (simp only [wnA]; done) | (simp only [wnA]; omega) | omega | fail) [wkA, retV, stabOk, dC, ev, fillD, pickCells, putAt, bnd, slD, List.getElem?_cons_zero, List.getElem?_cons_succ, dR.eq_20, Mem.cell, Mem.row, wmA, e25, hjw]
              exact next (chk1_of (fun h => absurd rfl h) hall) _ m' ((o1.trans oM).trans oo) (by simpa [t0] using (ee 0 (by simp))) (by simpa [t23] using ee 23 (by simp)) (by simpa [t24] using ee 24 (by simp)) (by simp)
            · simp -implicitDefEqProofs (disch := first | assumption | (simp only [wnA]; done) | (simp only [wnA]; omega) | omega | fail) [wkA, retV, stabOk, dC, ev, fillD, pickCells, putAt, bnd, slD, List.getElem?_cons_zero, List.getElem?_cons_succ, dR.eq_20, Mem.cell, Mem.row, wmA, e3]
              refine herr ?_ m' _ _ _ ((o1.trans oM).trans oo)
              rcases hb with ⟨t', ht', hf'⟩ | ⟨hk, hG⟩
              · exact bad (chk1_not ht' hf')
              · exact badG hk hG
          · have hlb' : lb.isEmpty = false := by cases lb <;> simp at hlb ⊢
            simp -implicitDefEqProofs (disch := first | assumption | (simp only [wnA]; done) | (simp only [wnA]; omega) | omega | fail) [wkA, retV, stabOk, dC, ev, fillD, pickCells, putAt, bnd, slD, List.getElem?_cons_zero, List.getElem?_cons_succ, dR.eq_20, Mem.cell, Mem.row, wmA, gx, t0, hlb, hlb']
            refine c_Find hvM (by omega) fun m2 o2 => ?_
            have hv2 := hvM.old o2
            have g2 := (o2.2 _ nM).trans gM
            have n2 : m1.next < m2.next := Nat.lt_of_lt_of_le nM o2.1
            have o02 := (o1.trans oM).trans o2
            by_cases hf : findN lb l 0 = (j : Int)
            · simp -implicitDefEqProofs (disch := first | assumption | (simp only [wnA]; done) | (simp only [wnA]; omega) | omega | fail) [wkA, retV, stabOk, dC, ev, fillD, pickCells, putAt, bnd, slD, List.getElem?_cons_zero, List.getElem?_cons_succ, dR.eq_20, Mem.cell, Mem.row, wmA, hf, bne]
              refine w_chk (G := G) (P := P) (x := (⟨lb, kd, tx, arms, n, to, pl⟩, av)) (o02.part hp) hv2 (by omega) ((hA1.old oM).old o2) hsz.1 hof g2 n2 (by simp [t0]) (by simp) (fun hall fr' m' oo ee => ?_) fun hb fr' m' t u oo e3 => ?_
              · have e25 := (ee 25 (by simp)).trans (by simp [t25] : _ = Value.int .i64 (j : Int))
                simp -implicitDefEqProofs (disch := first | assumption | (simp only [wnA]; done) | (simp only [wnA]; omega) | omega | fail) [wkA, retV, stabOk, dC, ev, fillD, pickCells, putAt, bnd, slD, List.getElem?_cons_zero, List.getElem?_cons_succ, dR.eq_20, Mem.cell, Mem.row, wmA, e25, hjw]
                exact next (chk1_of (fun _ => hf) hall) _ m' (o02.trans oo) (by simpa [t0] using (ee 0 (by simp))) (by simpa [t23] using ee 23 (by simp)) (by simpa [t24] using ee 24 (by simp)) (by simp)
              · simp -implicitDefEqProofs (disch := first | assumption | (simp only [wnA]; done) | (simp only [wnA]; omega) | omega | fail) [wkA, retV, stabOk, dC, ev, fillD, pickCells, putAt, bnd, slD, List.getElem?_cons_zero, List.getElem?_cons_succ, dR.eq_20, Mem.cell, Mem.row, wmA, e3]
                refine herr ?_ m' _ _ _ (o02.trans oo)
                rcases hb with ⟨t', ht', hf'⟩ | ⟨hk, hG⟩
                · exact bad (chk1_not ht' hf')
                · exact badG hk hG
            · simp -implicitDefEqProofs (disch := first | assumption | (simp only [wnA]; done) | (simp only [wnA]; omega) | omega | fail) [wkA, retV, stabOk, dC, ev, fillD, pickCells, putAt, bnd, slD, List.getElem?_cons_zero, List.getElem?_cons_succ, dR.eq_20, Mem.cell, Mem.row, wmA, bneT hf]
              exact herr (bad fun hc => hf (hc.1 hlb)) m2 _ _ _ o02
        · have hjj : j = l.length := by omega
          subst hjj
          simp -implicitDefEqProofs (disch := first | assumption | (simp only [wnA]; done) | (simp only [wnA]; omega) | omega | fail) [hjl, rc32_14, wkA, retV, stabOk, dC, ev, fillD, pickCells, putAt, bnd, slD, List.getElem?_cons_zero, List.getElem?_cons_succ, dR.eq_20, Mem.cell, Mem.row, wmA]
          exact hok ⟨⟨by omega, by omega⟩, fun k x hx => hall k x (by
            rcases Nat.lt_or_ge k l.length with h' | h'
            · exact h'
            · rw [List.getElem?_eq_none h'] at hx; cases hx) hx⟩ m1 o1
end Go.Proofs.YtjlicambfepfiaaGreatDoor.Ab

set_option linter.unusedVariables false
set_option linter.unusedSimpArgs false
namespace Go.Proofs.YtjlicambfepfiaaGreatDoor.Ab
open Go Go.RowKit
set_option maxHeartbeats 4000000
set_option maxRecDepth 100000
theorem SK_mkm {P : Program} {w0 : World} {ts : Fr} {m : Mem} {R : Value → Mem → Prop} : SK P w0 (.e .mkm) ts m R = R (.map (some m.next)) (m.push (.map [] 0)) := rfl
/-- How a dialogue is at first. -/
def pl0 (im : Nat) : PlS := ⟨0, im, none, 0, 0, none, [], fun _ => 0⟩
theorem c_POf {w0 : World} {m : Mem} {v : Value} {l : List DV} {G : List (List UInt8) → Prop} {P : List (List UInt8) → List (Tab × List Bool) → Prop} {J : PlS → Prop} {Q : Value → Mem → Prop} (hp : Part L0 m) (hv : DsV m v l) (hS : StepsOk w0 G P l) (hJ : chkOk l → SafeJ G P l J ∧ ∀ im, J (pl0 im))
    (hgood : chkOk l → ∀ m' ip im sv s' out ob, RunR G P l 0 (pl0 im) [] s' out → PlayV [] m' ip sv l s' → Old m m' → (∀ i ∈ ownP ip s', m.next ≤ i) → SlO m' 5 1 ob (out.map byteV) out.length → (∀ i, ob = some i → m.next ≤ i) → Q (.tuple ⟨[.pointer (some ⟨ip, 0, none⟩), slV ob out.length 1]⟩) m')
    (hbad : ¬ (chkOk l ∧ ∀ x ∈ l, x.1.kd = 1 → G (pats x.1)) → ∀ m' ip im sv, PlayV [] m' ip sv l { pl0 im with st := 2 } → Old m m' → m.next ≤ ip → m.next ≤ im → Q (.tuple ⟨[.pointer (some ⟨ip, 0, none⟩), .slice none 0 0]⟩) m') :
    AbC Tryz.prog w0 25 [v] m Q := by
  refine AbC_fn ok25 (by simp) ?_
  have hel := hv.sl.elems
  have hlv := hv.sl.lenV
  have hll := hS.len
  have hone : (l.flatMap vC).all oneC = true := by
    rw [List.all_eq_true]
    intro c hc
    obtain ⟨x, hx, hc⟩ := List.mem_flatMap.1 hc
    have := (hv.ar x hx).sl.one.1
    simp only [vC, dsC, List.mem_cons, List.not_mem_nil, or_false] at hc
    rcases hc with rfl | rfl | rfl | rfl | rfl | rfl | rfl <;> first | rfl | exact this
  simp -implicitDefEqProofs (disch := first | assumption | (simp only [wnA]; done) | (simp only [wnA]; omega) | omega | fail) [rc25, ro25, wkA, retV, stabOk, dC, ev, fillD, pickCells, putAt, bnd, slD, List.getElem?_cons_zero, List.getElem?_cons_succ, dR.eq_20, Mem.cell, Mem.row, wmA]
  refine SK_app_new (k := l.length) (ys := l.flatMap vC) (by simp [wkA, retV, stabOk, dC, ev, fillD, pickCells, putAt, bnd, slD, List.getElem?_cons_zero, List.getElem?_cons_succ, dR.eq_20]) (by simpa [wkA, retV, stabOk, dC, ev, fillD, pickCells, putAt, bnd, slD, List.getElem?_cons_zero, List.getElem?_cons_succ, dR.eq_20] using hel) (by simpa [wkA, retV, stabOk, dC, ev, fillD, pickCells, putAt, bnd, slD, List.getElem?_cons_zero, List.getElem?_cons_succ, dR.eq_20] using hlv) hone (by omega) (by simp only [maxLen]; omega) (by rw [flat_len vC_len]) fun oc m1 sc hn1 hoc hge => ?_
  have o1 : Old m m1 := ⟨hn1, hge⟩
  simp -implicitDefEqProofs (disch := first | assumption | (simp only [wnA]; done) | (simp only [wnA]; omega) | omega | fail) [wkA, retV, stabOk, dC, ev, fillD, pickCells, putAt, bnd, slD, List.getElem?_cons_zero, List.getElem?_cons_succ, dR.eq_20, Mem.cell, Mem.row, wmA]
  rw [SK_mkm]
  simp -implicitDefEqProofs (disch := first | assumption | (simp only [wnA]; done) | (simp only [wnA]; omega) | omega | fail) [wkA, retV, stabOk, dC, ev, fillD, pickCells, putAt, bnd, slD, List.getElem?_cons_zero, List.getElem?_cons_succ, dR.eq_20, Mem.cell, Mem.row, wmA]
  obtain ⟨sv, hsv⟩ : ∃ sv, slV oc l.length 7 = sv := ⟨_, rfl⟩
  have hsv1 : oneC sv = true ∧ cellsV sv = [sv] := by subst hsv; cases oc <;> exact ⟨rfl, rfl⟩
  obtain ⟨M, hM⟩ : ∃ M, (m1.push (.map [] 0)).push (.own (plC sv (pl0 m1.next)) 105) = M := ⟨_, rfl⟩
  have oM : Old m1 M := by subst hM; exact ((Old.refl m1).push _).push _
  have gM : M.get (m1.next + 1) = .own (plC sv (pl0 m1.next)) 105 := by subst hM; rw [Mem.push_at _ _ (by simp)]
  have gm : M.get m1.next = .map [] 0 := by subst hM; rw [Mem.push_old _ _ (by simp), Mem.push_same]
  have nM : M.next = m1.next + 2 := by subst hM; simp
  have hown : ownP (m1.next + 1) (pl0 m1.next) = [m1.next + 1, m1.next] := by simp [ownP, pl0]
  have hP : PlayV [] M (m1.next + 1) sv l (pl0 m1.next) := by
    have hX : ∀ i, i < m1.next → i ∉ ownP (m1.next + 1) (pl0 m1.next) ++ [] := fun i hi hm => by
      rw [hown, List.append_nil] at hm
      simp only [List.mem_cons, List.not_mem_nil, or_false] at hm
      omega
    refine ⟨gM, ⟨⟨?_, fun b hb => ?_⟩, fun x hx => ⟨((hv.ar x hx).old (o1.trans oM)).sl, fun b hb => ?_⟩⟩, ⟨[], 0, gm, (fun e he => by cases he), fun k => rfl⟩, ⟨rfl, rfl⟩, (fun w hw => by cases hw), by rw [hown]; simp, fun i hi => ?_, (o1.trans oM).part hp, fun i hi => ?_, fun i _ hi => by cases hi⟩
    · subst hsv
      exact (sc.keep oM.1 fun b hb => oM.2 b (by subst hb; exact sc.lt)).read
    · subst hsv
      rw [blk_slV] at hb
      subst hb
      have := sc.lt
      exact ⟨by omega, hX b this⟩
    · have h1 := (hv.ar x hx).bl b hb
      exact ⟨by omega, hX b (by omega)⟩
    · rw [hown, List.append_nil] at hi
      simp only [List.mem_cons, List.not_mem_nil, or_false] at hi
      omega
    · rw [hown] at hi
      have := hp.1
      simp only [List.mem_cons, List.not_mem_nil, or_false] at hi
      omega
  have hM' : (m1.push (.map [] 0)).push (.own [slV oc l.length 7, .int .i64 0, .map (some m1.next), .pointer none, .int .i64 0, .int .i64 0, .int .i64 0, .slice none 0 0] 105) = M := by rw [hsv]; exact hM
  rw [hM']
  have o0M := o1.trans oM
  refine c_Check (G := G) (P := P) (o0M.part hp) (hv.old o0M) hS (fun hok m2 o2 => ?_) fun hb m2 k t u o2 => ?_
  · have hP2 := hP.old o2
    obtain ⟨hSJ, hJ0⟩ := hJ hok
    simp -implicitDefEqProofs (disch := first | assumption | (simp only [wnA]; done) | (simp only [wnA]; omega) | omega | fail) [rc25_0, wkA, retV, stabOk, dC, ev, fillD, pickCells, putAt, bnd, slD, List.getElem?_cons_zero, List.getElem?_cons_succ, dR.eq_20, Mem.cell, Mem.row, wmA]
    refine c_run hP2 hS hSJ (hJ0 _) (fun i hi => by cases hi) fun m3 s3 out ob hR hP3 k3 so hob how => ?_
    simp -implicitDefEqProofs (disch := first | assumption | (simp only [wnA]; done) | (simp only [wnA]; omega) | omega | fail) [wkA, retV, stabOk, dC, ev, fillD, pickCells, putAt, bnd, slD, List.getElem?_cons_zero, List.getElem?_cons_succ, dR.eq_20, Mem.cell, Mem.row, wmA]
    have o02 := o0M.trans o2
    have hbig : ∀ i ∈ ownP (m1.next + 1) (pl0 m1.next), m.next ≤ i := fun i hi => by
      rw [hown] at hi
      simp only [List.mem_cons, List.not_mem_nil, or_false] at hi
      omega
    refine hgood hok m3 (m1.next + 1) m1.next sv s3 out ob hR hP3 ⟨Nat.le_trans o02.1 k3.1, fun i hi => ?_⟩ (fun i hi => ?_) so fun i hi => Nat.le_trans o02.1 (hob i hi)
    · rw [k3.2 i (Nat.lt_of_lt_of_le hi o02.1) (fun hm => by have := hbig i hm; omega), o02.2 i hi]
    · rcases how i hi with h1 | h1
      · exact hbig i h1
      · exact Nat.le_trans o02.1 h1
  · have hP2 := hP.old o2
    simp -implicitDefEqProofs (disch := first | assumption | (simp only [wnA]; done) | (simp only [wnA]; omega) | omega | fail) [wkA, retV, stabOk, dC, ev, fillD, pickCells, putAt, bnd, slD, List.getElem?_cons_zero, List.getElem?_cons_succ, dR.eq_20, Mem.cell, Mem.row, wmA]
    refine hP2.store 0 0 2 6 (.int .i64 2) (by simp [wkA, retV, stabOk, dC, ev, fillD, pickCells, putAt, bnd, slD, List.getElem?_cons_zero, List.getElem?_cons_succ, dR.eq_20]) (by simp [wkA, retV, stabOk, dC, ev, fillD, pickCells, putAt, bnd, slD, List.getElem?_cons_zero, List.getElem?_cons_succ, dR.eq_20]) rfl (by omega) rfl fun M3 hP3 k3 => ?_
    simp -implicitDefEqProofs (disch := first | assumption | (simp only [wnA]; done) | (simp only [wnA]; omega) | omega | fail) [wkA, retV, stabOk, dC, ev, fillD, pickCells, putAt, bnd, slD, List.getElem?_cons_zero, List.getElem?_cons_succ, dR.eq_20, Mem.cell, Mem.row, wmA]
    refine hbad hb M3 (m1.next + 1) m1.next sv hP3 ⟨Nat.le_trans (o0M.trans o2).1 k3.1, fun i hi => ?_⟩ (by omega) (by omega)
    rw [k3.2 i (Nat.lt_of_lt_of_le hi (o0M.trans o2).1) (by omega), (o0M.trans o2).2 i hi]
end Go.Proofs.YtjlicambfepfiaaGreatDoor.Ab

set_option linter.unusedVariables false
set_option linter.unusedSimpArgs false
namespace Go.Proofs.YtjlicambfepfiaaGreatDoor.Ab
open Go Go.RowKit
/-- A value's ids are named anew. -/
def shV (r : Nat → Nat) : Nat → Value → Value
  | 0, v => v
  | d + 1, v => match v with
    | .pointer (some ⟨i, o, none⟩) => .pointer (some ⟨r i, o, none⟩)
    | .slice (some ⟨i, o, none⟩) n c => .slice (some ⟨r i, o, none⟩) n c
    | .map (some i) => .map (some (r i))
    | .func fn ⟨f⟩ ⟨c⟩ => .func fn ⟨f.map (shV r d)⟩ ⟨c.map (shV r d)⟩
    | .iface t v => .iface t (shV r d v)
    | .agg ⟨l⟩ => .agg ⟨l.map (shV r d)⟩
    | .tuple ⟨l⟩ => .tuple ⟨l.map (shV r d)⟩
    | v => v
/-- No deeper than so. -/
def okD : Nat → Value → Bool
  | 0, v => flatV v
  | d + 1, v => match v with
    | .func _ ⟨f⟩ ⟨c⟩ => f.all (okD d) && c.all (okD d)
    | .iface _ v => okD d v
    | .agg ⟨l⟩ => l.all (okD d)
    | .tuple ⟨l⟩ => l.all (okD d)
    | _ => true
theorem VRs.map_of {G G' : Loc} {f : Value → Value} : ∀ {l l' : List Value}, VRs G l l' → (∀ v ∈ l, ∀ v', VR G v v' → VR G' (f v) v') → VRs G' (l.map f) l'
  | _, _, .nil, _ => .nil
  | _, _, .cons v v' l l' h k, hf => .cons _ _ _ _ (hf v (by simp) v' h) (VRs.map_of k fun u hu => hf u (by simp [hu]))
theorem VR.shift {G G' : Loc} {r : Nat → Nat} (hr : ∀ i x, G i = some x → G' (r i) = some x) : ∀ (d : Nat) (v v' : Value), okD d v = true → VR G v v' → VR G' (shV r d v) v' := by
  intro d
  induction d with
  | zero =>
    intro v v' h hv
    have := VR.flat_eq h hv
    subst this
    exact VR.flat _ h
  | succ d ih =>
    intro v v' h hv
    cases hv with
    | bool b => exact .bool b
    | int k n => exact .int k n
    | float k n => exact .float k n
    | complex k n m => exact .complex k n m
    | str s => exact .str s
    | nilp => exact .nilp
    | ptr i o B b S hg => exact .ptr _ _ _ _ _ (hr _ _ hg)
    | nils => exact .nils
    | sl i o B b S n c z hg hn hc hS => exact .sl _ _ _ _ _ _ _ _ (hr _ _ hg) hn hc hS
    | empty a c hc => exact .empty a c hc
    | nilm => exact .nilm
    | map i B S hg => exact .map _ _ _ (hr _ _ hg)
    | nilf => exact .nilf
    | nili => exact .nili
    | func fn f c f' c' h1 h2 =>
      simp only [okD, Bool.and_eq_true, List.all_eq_true] at h
      exact .func _ _ _ _ _ (h1.map_of fun v hv v' k => ih v v' (h.1 v hv) k) (h2.map_of fun v hv v' k => ih v v' (h.2 v hv) k)
    | iface t v v' hv => exact .iface _ _ _ (ih _ _ h hv)
    | agg c c' hc =>
      simp only [okD, List.all_eq_true] at h
      exact .agg _ _ (hc.map_of fun v hv v' k => ih v v' (h v hv) k)
    | tuple c c' hc =>
      simp only [okD, List.all_eq_true] at h
      exact .tuple _ _ (hc.map_of fun v hv v' k => ih v v' (h v hv) k)
/-- All ids lie below k. -/
def ltW (k : Nat) : Nat → Value → Bool
  | 0, v => flatV v
  | d + 1, v => match v with
    | .pointer (some ⟨i, _, none⟩) => Nat.blt i k
    | .slice (some ⟨i, _, none⟩) _ _ => Nat.blt i k
    | .iface _ v => ltW k d v
    | .agg ⟨l⟩ => l.all (ltW k d)
    | .tuple ⟨l⟩ => l.all (ltW k d)
    | v => flatV v
theorem VRs.unmap {G G' : Loc} {f : Value → Value} : ∀ {l l' : List Value}, VRs G (l.map f) l' → (∀ v ∈ l, ∀ v', VR G (f v) v' → VR G' v v') → VRs G' l l'
  | [], _, .nil, _ => .nil
  | v :: l, _, .cons _ v' _ l' h k, hf => .cons _ _ _ _ (hf v (by simp) v' h) (VRs.unmap k fun u hu => hf u (by simp [hu]))
theorem shV_flat {r : Nat → Nat} {d : Nat} {v : Value} (h : flatV v = true) : shV r d v = v := by
  cases d with
  | zero => rfl
  | succ d =>
    unfold flatV at h
    split at h <;> first | rfl | cases h
theorem VR.unshift {G : Loc} {r : Nat → Nat} {k : Nat} : ∀ (d : Nat) (v v' : Value), ltW k d v = true → VR G (shV r d v) v' → VR (fun i => if i < k then G (r i) else none) v v' := by
  intro d
  induction d with
  | zero =>
    intro v v' h hv
    have := VR.flat_eq h hv
    subst this
    exact VR.flat _ h
  | succ d ih =>
    intro v v' h hv
    unfold ltW at h
    split at h
    · rename_i i o
      cases hv with
      | ptr _ _ B b S hg => exact .ptr _ _ _ _ _ (by rw [if_pos (blt_true.1 h)]; exact hg)
    · rename_i i o n c
      have hv : VR G (.slice (some ⟨r i, o, none⟩) n c) v' := hv
      obtain ⟨ri, hri⟩ : ∃ x, r i = x := ⟨_, rfl⟩
      rw [hri] at hv
      cases hv with
      | sl _ _ B b S _ c z hg hn hc hS => exact .sl _ _ _ _ _ _ _ _ (by rw [if_pos (blt_true.1 h), hri]; exact hg) hn hc hS
    · cases hv with
      | iface t v v' hv => exact .iface _ _ _ (ih _ _ h hv)
    · rename_i l
      cases hv with
      | agg c c' hc =>
        rw [List.all_eq_true] at h
        exact .agg _ _ (hc.unmap fun v hv v' k => ih v v' (h v hv) k)
    · rename_i l
      cases hv with
      | tuple c c' hc =>
        rw [List.all_eq_true] at h
        exact .tuple _ _ (hc.unmap fun v hv v' k => ih v v' (h v hv) k)
    · rw [shV_flat h] at hv
      have := VR.flat_eq h hv
      subst this
      exact VR.flat _ h
def shM (r : Nat → Nat) (es : List MapEntry) : List MapEntry := es.map fun e => { e with key := shV r 6 e.key, val := shV r 6 e.val }
def shE (r : Nat → Nat) : Ent → Ent
  | .own cs e => .own (cs.map (shV r 6)) e
  | .ro cs => .ro (cs.map (shV r 6))
  | .map es c => .map (shM r es) c
  | .siter s p => .siter s p
  | .miter none a b c => .miter none a b c
  | .miter (some i) a b c => .miter (some (r i)) a b c
  | .dead => .dead
def okE : Ent → Bool
  | .own cs _ => cs.all (okD 6)
  | .ro _ => false
  | .map es _ => es.all fun e => okD 6 e.key && okD 6 e.val
  | _ => true
theorem shE_mine {r : Nat → Nat} {e : Ent} : (shE r e).mine = e.mine := by
  cases e with
  | miter i a b c => cases i <;> rfl
  | _ => rfl
theorem shE_dead {r : Nat → Nat} {e : Ent} (h : shE r e ≠ .dead) : e ≠ .dead := by rintro rfl; exact h rfl
theorem ER.shift {w0 w1 w : World} {G G' : Loc} {r : Nat → Nat} {B b S : Nat} {e : Ent} (hr : ∀ i x, G i = some x → G' (r i) = some x) (hw : w0.heap.size ≤ w1.heap.size) (ho : okE e = true) (h : ER w1 w G B b S e) : ER w0 w G' B b S (shE r e) := by
  cases e with
  | own cs e =>
    obtain ⟨h0, c, fz, h1, hS, h2, h3⟩ := h
    simp only [okE, List.all_eq_true] at ho
    refine ⟨by omega, c, fz, h1, hS, h2, fun j v hj => ?_⟩
    rw [List.getElem?_map] at hj
    cases hu : cs[j]? with
    | none => rw [hu] at hj; cases hj
    | some u =>
      rw [hu] at hj
      cases hj
      obtain ⟨v', a, k⟩ := h3 j u hu
      exact ⟨v', a, VR.shift hr 6 _ _ (ho u (List.mem_of_getElem? hu)) k⟩
  | ro cs => cases ho
  | map es c =>
    obtain ⟨h0, hb, es', h1, h2, h3, h4⟩ := h
    simp only [okE, List.all_eq_true, Bool.and_eq_true] at ho
    refine ⟨by omega, hb, es', h1, ?_, ?_, ?_⟩
    · rw [h2]; simp [shM]
    · have : (shM r es).map (·.key) = (es.map (·.key)).map (shV r 6) := by simp [shM]
      rw [this]
      exact h3.map_of fun v hv v' k => by
        obtain ⟨x, hx, rfl⟩ := List.mem_map.1 hv
        exact VR.shift hr 6 _ _ (ho x hx).1 k
    · have : (shM r es).map (·.val) = (es.map (·.val)).map (shV r 6) := by simp [shM]
      rw [this]
      exact h4.map_of fun v hv v' k => by
        obtain ⟨x, hx, rfl⟩ := List.mem_map.1 hv
        exact VR.shift hr 6 _ _ (ho x hx).2 k
  | siter s p => exact ⟨by have := h.1; omega, h.2⟩
  | miter m a b c =>
    obtain ⟨h0, hb, x, h1, h2⟩ := h
    cases m with
    | none => cases h2; exact ⟨by omega, hb, _, h1, .nilm⟩
    | some i => cases h2 with
      | map _ B2 S2 hg => exact ⟨by omega, hb, _, h1, .map _ _ _ (hr _ _ hg)⟩
  | dead => trivial
/-- The blocks that a call is reckoned over are, by other names, those of a memory. -/
structure PartR (P : Program) (L : LM) (r : Nat → Nat) (m : Mem) : Prop where
  k : P.globals.size ≤ L.n
  g : ∀ i, i < P.globals.size → r i = i
  lt : ∀ i, i < L.n → r i < m.next
  e : ∀ i, i < L.n → (L.get i = .dead ∧ i < P.globals.size) ∨ ∃ cs, L.get i = .ro cs ∧ (m.get (r i)).cells? = some (cs.map (shV r 6)) ∧ cs.all (ltW L.n 6) = true
section
variable {P : Program} {w0 : World}
theorem PartR.some {w : World} {G : Loc} {m : Mem} {L : LM} {r : Nat → Nat} (h : St P w0 G m w) (hp : PartR P L r m) {i : Nat} (hi : i < L.n) : ∃ x, G (r i) = some x := by
  rcases hp.e i hi with ⟨-, hg⟩ | ⟨cs, -, h2, -⟩
  · obtain ⟨S, hS⟩ := h.glob i hg
    exact ⟨_, by rw [hp.g i hg]; exact hS⟩
  · obtain ⟨B, b, S, hg, -⟩ := h.ent (r i) (by intro e; rw [e] at h2; cases h2)
    exact ⟨_, hg⟩
theorem St.partR {w : World} {G : Loc} {m : Mem} {L : LM} {r : Nat → Nat} (h : St P w0 G m w) (hp : PartR P L r m) : St P w (fun i => if i < L.n then G (r i) else none) (toMem L) w where
  below := Below.refl _ _
  dom := fun i x hx => by
    have hx : (if i < L.n then G (r i) else none) = some x := hx
    split at hx
    · assumption
    · cases hx
  lim := fun i B b S hd hx => by
    have hx : (if i < L.n then G (r i) else none) = some (B, b, S) := hx
    split at hx
    · rename_i hi
      rcases hp.e i hi with ⟨h1, -⟩ | ⟨cs, h1, h2, -⟩
      · exact (hd h1).elim
      · exact h.lim (r i) B b S (by intro e; rw [e] at h2; cases h2) hx
    · cases hx
  ent := fun i hi => by
    have hlt : i < L.n := by
      rcases Nat.lt_or_ge i L.n with h' | h'
      · exact h'
      · exact (hi (LM.get_ge (by omega))).elim
    rcases hp.e i hlt with ⟨h1, -⟩ | ⟨cs, h1, h2, h3⟩
    · exact (hi h1).elim
    · have hnd : m.get (r i) ≠ .dead := by intro e; rw [e] at h2; cases h2
      obtain ⟨B, b, S, hg, _⟩ := h.ent (r i) hnd
      refine ⟨B, b, S, by rw [if_pos hlt]; exact hg, ?_⟩
      show ER w w _ B b S (L.get i)
      rw [h1]
      refine ⟨h.lim (r i) B b S hnd hg, fun j v hj => ?_⟩
      obtain ⟨v', c1, c2⟩ := h.cell (o := j) (v := shV r 6 v) hg (by simp only [Mem.cell, h2, List.getElem?_map, hj, Option.map_some, Option.bind])
      rw [List.all_eq_true] at h3
      exact ⟨v', c1, VR.unshift 6 _ _ (h3 v (List.mem_of_getElem? hj)) c2⟩
  inj := fun i j B x y hi => by
    have h0 : (L.get i).mine = true := hi
    rcases Nat.lt_or_ge i L.n with h' | h'
    · rcases hp.e i h' with ⟨h1, -⟩ | ⟨cs, h1, -⟩ <;> rw [h1] at h0 <;> cases h0
    · rw [LM.get_ge (by omega)] at h0; cases h0
  glob := fun g hg => by
    obtain ⟨S, hS⟩ := h.glob g hg
    refine ⟨S, ?_⟩
    show (if g < L.n then G (r g) else none) = _
    rw [if_pos (Nat.lt_of_lt_of_le hg hp.k), hp.g g hg]
    exact hS
  ali := fun i cs e B b S hi => by
    have h0 : L.get i = .own cs e := hi
    rcases Nat.lt_or_ge i L.n with h' | h'
    · rcases hp.e i h' with ⟨h1, -⟩ | ⟨cs, h1, -⟩ <;> rw [h1] at h0 <;> cases h0
    · rw [LM.get_ge (by omega)] at h0; cases h0
/-- The names behind. -/
def shN (k n : Nat) (r : Nat → Nat) (i : Nat) : Nat := if i < k then r i else n + (i - k)
/-- What a call leaves, behind a memory. -/
noncomputable def behind (m : Mem) (k : Nat) (r : Nat → Nat) (L : LM) : Mem := ⟨m.next + (L.n - k), fun j => if j < m.next then m.get j else shE (shN k m.next r) (L.get (j - m.next + k))⟩
noncomputable def okNew (L : LM) (k : Nat) : Nat → Bool := Nat.rec true fun i ih => (Nat.blt i k || okE (L.get i)) && ih
theorem okNew_at {L : LM} {k : Nat} : ∀ {n : Nat}, okNew L k n = true → ∀ i, i < n → k ≤ i → okE (L.get i) = true
  | 0, _, i, hi, _ => by omega
  | n + 1, h, i, hi, hk => by
    have h : ((Nat.blt n k || okE (L.get n)) && okNew L k n) = true := h
    simp only [Bool.and_eq_true, Bool.or_eq_true, blt_true] at h
    rcases Nat.lt_or_ge i n with hl | hl
    · exact okNew_at h.2 i hl hk
    · have : i = n := by omega
      subst this
      rcases h.1 with h | h
      · omega
      · exact h
theorem St.behind {w w' : World} {G G' : Loc} {m : Mem} {L L' : LM} {r : Nat → Nat} (h : St P w0 G m w) (hp : PartR P L r m) (h' : St P w G' (toMem L') w') (hle : Loc.le (fun i => if i < L.n then G (r i) else none) G') (hn : L.n ≤ L'.n) (ho : okNew L' L.n L'.n = true) :
    ∃ G2, Loc.le G G2 ∧ (∀ i x, G' i = some x → G2 (shN L.n m.next r i) = some x) ∧ St P w0 G2 (Ab.behind m L.n r L') w' := by
  have hg := h.grown h'.below
  let G2 : Loc := fun j => if j < m.next then G j else if j - m.next + L.n < L'.n then G' (j - m.next + L.n) else none
  have hG : Loc.le G G2 := fun i x hx => by
    show (if i < m.next then G i else _) = some x
    rw [if_pos (h.dom i x hx)]; exact hx
  have hr : ∀ i x, G' i = some x → G2 (shN L.n m.next r i) = some x := fun i x hx => by
    have hd : i < L'.n := h'.dom i x hx
    unfold shN
    split
    · rename_i hi
      obtain ⟨y, hy⟩ := hp.some h hi
      have h1 := hle i y (by show (if i < L.n then G (r i) else none) = _; rw [if_pos hi]; exact hy)
      rw [hx] at h1
      cases h1
      exact hG _ _ hy
    · rename_i hi
      show (if m.next + (i - L.n) < m.next then _ else if m.next + (i - L.n) - m.next + L.n < L'.n then G' (m.next + (i - L.n) - m.next + L.n) else none) = some x
      have e : m.next + (i - L.n) - m.next + L.n = i := by omega
      rw [if_neg (by omega), e, if_pos hd, hx]
  have G2o : ∀ {j}, j < m.next → G2 j = G j := fun hj => if_pos hj
  have G2n : ∀ {j x}, ¬ j < m.next → G2 j = some x → j - m.next + L.n < L'.n ∧ G' (j - m.next + L.n) = some x := fun {j x} hj hx => by
    have hx : (if j < m.next then G j else if j - m.next + L.n < L'.n then G' (j - m.next + L.n) else none) = some x := hx
    rw [if_neg hj] at hx
    split at hx
    · exact ⟨by assumption, hx⟩
    · cases hx
  have mo : ∀ {j}, j < m.next → (Ab.behind m L.n r L').get j = m.get j := fun hj => if_pos hj
  have mn : ∀ {j}, ¬ j < m.next → (Ab.behind m L.n r L').get j = shE (shN L.n m.next r) (L'.get (j - m.next + L.n)) := fun hj => if_neg hj
  have hlt : ∀ {j}, L'.get j ≠ .dead → j < L'.n := fun {j} hj => by
    rcases Nat.lt_or_ge j L'.n with h' | h'
    · exact h'
    · exact (hj (LM.get_ge (by omega))).elim
  refine ⟨G2, hG, hr, hg.below, ?_, ?_, ?_, ?_, ?_, ?_⟩
  · intro i x hx
    show i < m.next + (L'.n - L.n)
    by_cases hi : i < m.next
    · omega
    · have := (G2n hi hx).1; omega
  · intro i B b S hd hx
    by_cases hi : i < m.next
    · rw [mo hi] at hd; rw [G2o hi] at hx; exact hg.lim i B b S hd hx
    · rw [mn hi] at hd
      exact h'.lim _ B b S (shE_dead hd) (G2n hi hx).2
  · intro i hd
    by_cases hi : i < m.next
    · rw [mo hi] at hd ⊢
      obtain ⟨B, b, S, g, e⟩ := hg.ent i hd
      exact ⟨B, b, S, by rw [G2o hi]; exact g, e.mono hG⟩
    · rw [mn hi] at hd ⊢
      have hd2 := shE_dead hd
      obtain ⟨B, b, S, g, e⟩ := h'.ent _ hd2
      have h3 := hlt hd2
      refine ⟨B, b, S, ?_, e.shift hr h.below.size (okNew_at ho _ h3 (by omega))⟩
      show (if i < m.next then G i else if i - m.next + L.n < L'.n then G' (i - m.next + L.n) else none) = some (B, b, S)
      rw [if_neg hi, if_pos h3]; exact g
  · intro i j B x y hi hj gi gj
    have key : ∀ {i j : Nat} {x y : Nat × Nat}, i < m.next → ¬ j < m.next → (m.get i).mine = true → (shE (shN L.n m.next r) (L'.get (j - m.next + L.n))).mine = true → G i = some (B, x) → G' (j - m.next + L.n) = some (B, y) → False := by
      intro i j x y h1 h2 hi hj gi gj
      obtain ⟨x1, x2⟩ := x
      obtain ⟨y1, y2⟩ := y
      have a1 := h.lim i B x1 x2 (Ent.live hi) gi
      rw [shE_mine] at hj
      obtain ⟨B', b', S', g', e'⟩ := h'.ent _ (Ent.live hj)
      rw [show G' (j - m.next + L.n) = some (B, y1, y2) from gj] at g'
      cases g'
      have a2 := e'.size hj
      omega
    by_cases h1 : i < m.next <;> by_cases h2 : j < m.next
    · rw [mo h1] at hi; rw [mo h2] at hj; rw [G2o h1] at gi; rw [G2o h2] at gj
      exact h.inj i j B x y hi hj gi gj
    · rw [mo h1] at hi; rw [mn h2] at hj; rw [G2o h1] at gi
      exact (key h1 h2 hi hj gi (G2n h2 gj).2).elim
    · rw [mn h1] at hi; rw [mo h2] at hj; rw [G2o h2] at gj
      exact (key h2 h1 hj hi gj (G2n h1 gi).2).elim
    · rw [mn h1, shE_mine] at hi; rw [mn h2, shE_mine] at hj
      have := h'.inj _ _ B x y hi hj (G2n h1 gi).2 (G2n h2 gj).2
      omega
  · intro g hg'
    obtain ⟨S, hS⟩ := h.glob g hg'
    exact ⟨S, hG _ _ hS⟩
  · intro i cs e B b S hi hx
    by_cases h1 : i < m.next
    · rw [mo h1] at hi; rw [G2o h1] at hx; exact h.ali i cs e B b S hi hx
    · rw [mn h1] at hi
      obtain ⟨-, hx⟩ := G2n h1 hx
      cases he : L'.get (i - m.next + L.n) with
      | own cs' e' =>
        rw [he] at hi
        cases hi
        exact h'.ali _ _ _ _ _ _ he hx
      | miter a b c d => rw [he] at hi; cases a <;> cases hi
      | _ => rw [he] at hi; cases hi
theorem behind_old {m : Mem} {k : Nat} {r : Nat → Nat} {L : LM} {i : Nat} (h : i < m.next) : (Ab.behind m k r L).get i = m.get i := if_pos h
theorem behind_new {m : Mem} {k : Nat} {r : Nat → Nat} {L : LM} (i : Nat) : (Ab.behind m k r L).get (m.next + i) = shE (shN k m.next r) (L.get (i + k)) := by
  show (if m.next + i < m.next then _ else shE _ (L.get (m.next + i - m.next + k))) = _
  rw [if_neg (by omega), show m.next + i - m.next + k = i + k by omega]
def eqM : List MapEntry → List MapEntry → Bool
  | [], [] => true
  | a :: l, b :: r => eqV 6 a.key b.key && eqV 6 a.val b.val && Nat.beq a.born b.born && eqM l r
  | _, _ => false
theorem eqM_eq : ∀ {a b : List MapEntry}, eqM a b = true → a = b
  | [], [], _ => rfl
  | ⟨a1, a2, a3⟩ :: l, ⟨b1, b2, b3⟩ :: r, h => by
    simp only [eqM, Bool.and_eq_true] at h
    obtain ⟨⟨⟨h1, h2⟩, h3⟩, h4⟩ := h
    rw [eqV_eq _ _ _ h1, eqV_eq _ _ _ h2, Nat.eq_of_beq_eq_true h3, eqM_eq h4]
  | [], _ :: _, h => by cases h
  | _ :: _, [], h => by cases h
def eqE : Ent → Ent → Bool
  | .own a e, .own b e' => eqL (eqV 6) a b && decide (e = e')
  | .map a c, .map b c' => eqM a b && Nat.beq c c'
  | _, _ => false
theorem eqE_eq {a b : Ent} (h : eqE a b = true) : a = b := by
  unfold eqE at h
  split at h
  · simp only [Bool.and_eq_true, decide_eq_true_eq] at h
    rw [eqL_eq (fun a b h => eqV_eq _ a b h) h.1, h.2]
  · simp only [Bool.and_eq_true] at h
    rw [eqM_eq h.1, Nat.eq_of_beq_eq_true h.2]
  · cases h
/-- The entries that are told, from k on. -/
noncomputable def tellE (L : LM) : Nat → List (Option Ent) → Bool
  | _, [] => true
  | k, none :: l => tellE L (k + 1) l
  | k, some e :: l => eqE (L.get k) e && tellE L (k + 1) l
theorem tellE_at {L : LM} : ∀ {k : Nat} {l : List (Option Ent)}, tellE L k l = true → ∀ i e, l[i]? = some (some e) → L.get (i + k) = e
  | _, [], _, i, e, h => by simp at h
  | k, none :: l, h, 0, e, hi => by simp at hi
  | k, none :: l, h, i + 1, e, hi => by
    have := tellE_at (k := k + 1) h i e (by simpa using hi)
    rw [← this]; congr 1; omega
  | k, some x :: l, h, 0, e, hi => by
    simp only [tellE, Bool.and_eq_true] at h
    simp at hi
    subst hi
    rw [Nat.zero_add]
    exact eqE_eq h.1
  | k, some x :: l, h, i + 1, e, hi => by
    simp only [tellE, Bool.and_eq_true] at h
    have := tellE_at (k := k + 1) h.2 i e (by simpa using hi)
    rw [← this]; congr 1; omega
/-- What a reckoned call came to. -/
noncomputable def outM (k : Nat) (v : Value) (es : List (Option Ent)) : Option (Value × LM) → Bool
  | some (u, L) => eqV 6 u v && okD 6 v && Nat.beq L.n (k + es.length) && okNew L k L.n && tellE L k es
  | none => false
/-- A call that is reckoned through over blocks of its own: what it leaves lies behind the memory. -/
theorem AbC_lay {T : List TE} {X : CallE} {f : FuncId} {args : List Value} {m : Mem} {L : LM} {r : Nat → Nat} {v : Value} {es : List (Option Ent)} {Q : Value → Mem → Prop} (n : Nat) (hT : TOk P T) (hX : XOk P X) (hp : PartR P L r m) (ha : args.all (ltW L.n 6) = true)
    (h : outM L.n v es (callE T X P n f args L) = true)
    (hQ : ∀ M, M.next = m.next + es.length → (∀ i, i < m.next → M.get i = m.get i) → (∀ i e, es[i]? = some (some e) → M.get (m.next + i) = shE (shN L.n m.next r) e) → Q (shV (shN L.n m.next r) 6 v) M) : AbC P w0 f (args.map (shV r 6)) m Q := by
  intro G w args' hs hargs
  cases hc : callE T X P n f args L with
  | none => rw [hc] at h; cases h
  | some x =>
    obtain ⟨u, L'⟩ := x
    rw [hc] at h
    simp only [outM, Bool.and_eq_true] at h
    obtain ⟨⟨⟨⟨h1, h2⟩, h3⟩, h4⟩, h5⟩ := h
    have := eqV_eq _ _ _ h1
    subst this
    have h3 := Nat.eq_of_beq_eq_true h3
    have hcall := callE_ok (w0 := w) hT hX n _ _ _ _ _ hc (fun x y => x = u ∧ y = toMem L') ⟨rfl, rfl⟩
    rw [List.all_eq_true] at ha
    have := hcall _ w args' (hs.partR hp) (hargs.unmap fun v hv v' k => VR.unshift 6 _ _ (ha v hv) k)
    refine this.mono ?_
    rintro v' w' ⟨G', _, _, k1, k2, k3, rfl, rfl⟩
    obtain ⟨G2, g1, g2, g3⟩ := hs.behind hp k3 k1 (by omega) h4
    refine ⟨G2, _, _, g1, VR.shift g2 6 _ _ h2 k2, g3, hQ _ ?_ (fun i hi => behind_old hi) fun i e hi => ?_⟩
    · show m.next + (L'.n - L.n) = _
      omega
    · rw [behind_new, tellE_at h5 i e hi]
end
end Go.Proofs.YtjlicambfepfiaaGreatDoor.Ab

set_option linter.unusedVariables false
set_option linter.unusedSimpArgs false
namespace Go.Proofs.YtjlicambfepfiaaGreatDoor.Ab
open Go Go.RowKit
set_option maxHeartbeats 4000000
set_option maxRecDepth 100000
theorem RdV.blk {X : Nat → Prop} {m : Mem} {i n sz e : Nat} {cs : List Value} (g : m.get i = .own cs e) (hl : cs.length = n * sz) (hi : i < m.next) (hx : X i) : RdV X m sz (.slice (some ⟨i, 0, none⟩) n sz) cs n :=
  ⟨⟨hl, .inr ⟨i, 0, cs, rfl, by rw [g]; rfl, by omega, by rw [List.drop_zero, List.take_of_length_le (by omega)]⟩⟩, fun b hb => by cases hb; exact ⟨hi, hx⟩⟩
/-- The laid memory, and one block with a text. -/
def L1 (p : List UInt8) : LM := ⟨8, (.n (.n (.n (.n (.n .dead .dead (.ro e10) .dead .dead (.ro e32) (.ro e64) (.ro [.string ⟨⟨p⟩⟩])) .e .e .e .e .e .e .e) .e .e .e .e .e .e .e) .e .e .e .e .e .e .e) .e .e .e .e .e .e .e)⟩
theorem flat_sh {r : Nat → Nat} {cs : List Value} (h : cs.all flatV = true) : cs.map (shV r 6) = cs := by
  rw [List.all_eq_true] at h
  have : ∀ v ∈ cs, shV r 6 v = v := fun v hv => shV_flat (h v hv)
  rw [List.map_congr_left this]
  simp
theorem partR_L1 {m : Mem} {p : List UInt8} {b : Nat} (hp : Part L0 m) (hb : b < m.next) (g : m.get b = .own [.string ⟨⟨p⟩⟩] 9) : PartR Tryz.prog (L1 p) (fun j => if j = 7 then b else j) m := by
  have hk : Tryz.prog.globals.size = 7 := globals_size
  have hro : ∀ j cs, L0.get j = .ro cs → (m.get j).cells? = some cs := fun j cs h => by
    rcases hp.2 j with h1 | ⟨cs', h1, h2, -⟩
    · rw [h] at h1; cases h1
    · rw [h] at h1; cases h1; exact h2
  have hn := hp.1
  have hn7 : 7 ≤ m.next := hn
  refine ⟨by rw [hk]; show 7 ≤ 8; omega, fun i hi => by rw [hk] at hi; show (if i = 7 then b else i) = i; rw [if_neg (by omega)], fun i hi => ?_, fun i hi => ?_⟩
  · have hi : i < 8 := hi
    show (if i = 7 then b else i) < m.next
    split <;> omega
  · have hi : i < 8 := hi
    rw [hk]
    rcases (show i = 0 ∨ i = 1 ∨ i = 2 ∨ i = 3 ∨ i = 4 ∨ i = 5 ∨ i = 6 ∨ i = 7 by omega) with rfl | rfl | rfl | rfl | rfl | rfl | rfl | rfl
    · exact .inl ⟨rfl, by decide⟩
    · exact .inl ⟨rfl, by decide⟩
    · exact .inr ⟨e10, rfl, by rw [flat_sh (by decide)]; exact hro 2 e10 rfl, by show e10.all (ltW 8 6) = true; decide⟩
    · exact .inl ⟨rfl, by decide⟩
    · exact .inl ⟨rfl, by decide⟩
    · exact .inr ⟨e32, rfl, by rw [flat_sh (by decide)]; exact hro 5 e32 rfl, by show e32.all (ltW 8 6) = true; decide⟩
    · exact .inr ⟨e64, rfl, by rw [flat_sh (by decide)]; exact hro 6 e64 rfl, by show e64.all (ltW 8 6) = true; decide⟩
    · exact .inr ⟨[.string ⟨⟨p⟩⟩], rfl, by show (m.get b).cells? = _; rw [g]; rfl, rfl⟩
def es_y : List (Option Ent) := [some (.own [.slice none 0 0] 142), some (.own [.slice (some ⟨43, 0, none⟩) 1 1, .slice (some ⟨8, 0, none⟩) 1 1, .int .i64 0, .bool false] 140), none, none, none, none, none, none, none, none, none, none, none, none, none, none, none, none, none, none, none, none, some (.own [.int .u64 0, .int .u64 144115188075855872, .int .u64 0, .int .u64 0] 73), none, none, none, some (.own [.slice (some ⟨30, 0, none⟩) 1 4, .slice (some ⟨41, 0, none⟩) 1 1, .slice (some ⟨36, 0, none⟩) 1 1, .slice (some ⟨38, 0, none⟩) 1 1, .bool false] 175), none, some (.own [.bool true] 4), none, some (.own [.bool true] 4), some (.own [.bool false] 4), none, some (.own [.slice (some ⟨39, 0, none⟩) 1 1] 142), none, some (.own [.pointer (some ⟨34, 0, none⟩)] 141)]
theorem run_y : outM 8 (.tuple ⟨[.pointer (some ⟨9, 0, none⟩), .nilIface]⟩) es_y (callE tab (xCall xs) Tryz.prog 3000 45 [.slice (some ⟨7, 0, none⟩) 1 1] (L1 [121])) = true := by kernel_rfl
def T_y : Tab := ⟨[⟨0, 144115188075855872, 0, 0⟩], [[false]], [true], [true], false⟩
theorem wf_y : (∀ r ∈ T_y.next, r.length = T_y.n) ∧ T_y.n ≤ 1000 := by decide
theorem of_y {w0 : World} : OfC w0 [[121]] True (fun c => c = [(T_y, [])]) := by
  intro m ob Q hp hs hok herr
  obtain ⟨b, rfl⟩ : ∃ b, ob = some b := by
    cases ob with
    | none => have := hs.2; simp at this
    | some b => exact ⟨b, rfl⟩
  have hPR := partR_L1 (p := [121]) hp hs.lt hs.2.1
  refine AbC_lay (r := fun j => if j = 7 then b else j) (args := [.slice (some ⟨7, 0, none⟩) 1 1]) 3000 tab_ok xs_ok hPR rfl run_y fun M hn ho he => ?_
  have hn : M.next = m.next + 36 := hn
  have g8 : M.get (m.next + 0) = .own [.slice none 0 0] 142 := he 0 _ rfl
  have g9 : M.get (m.next + 1) = .own [.slice (some ⟨m.next + 35, 0, none⟩) 1 1, .slice (some ⟨m.next + 0, 0, none⟩) 1 1, .int .i64 0, .bool false] 140 := he 1 _ rfl
  have g43 : M.get (m.next + 35) = .own [.pointer (some ⟨m.next + 26, 0, none⟩)] 141 := he 35 _ rfl
  have g34 : M.get (m.next + 26) = .own [.slice (some ⟨m.next + 22, 0, none⟩) 1 4, .slice (some ⟨m.next + 33, 0, none⟩) 1 1, .slice (some ⟨m.next + 28, 0, none⟩) 1 1, .slice (some ⟨m.next + 30, 0, none⟩) 1 1, .bool false] 175 := he 26 _ rfl
  have g30 : M.get (m.next + 22) = .own [.int .u64 0, .int .u64 144115188075855872, .int .u64 0, .int .u64 0] 73 := he 22 _ rfl
  have g41 : M.get (m.next + 33) = .own [.slice (some ⟨m.next + 31, 0, none⟩) 1 1] 142 := he 33 _ rfl
  have g36 : M.get (m.next + 28) = .own [.bool true] 4 := he 28 _ rfl
  have g38 : M.get (m.next + 30) = .own [.bool true] 4 := he 30 _ rfl
  have g39 : M.get (m.next + 31) = .own [.bool false] 4 := he 31 _ rfl
  refine hok M ⟨m.next + 1, m.next + 0, [⟨m.next + 26, T_y, .slice none 0 0, []⟩], 0, false⟩ ⟨by omega, ho⟩ rfl rfl rfl ?_ (by show m.next ≤ m.next + 1; omega) (by show m.next ≤ m.next + 0; omega)
  show WatV (fun i => m.next ≤ i ∧ i ≠ m.next + 1 ∧ i ≠ m.next + 0) M (m.next + 1) (m.next + 0) [⟨m.next + 26, T_y, .slice none 0 0, []⟩] 0 false
  have hX : ∀ k : Nat, 2 ≤ k → k < 36 → m.next + k < M.next ∧ (m.next ≤ m.next + k ∧ m.next + k ≠ m.next + 1 ∧ m.next + k ≠ m.next + 0) := fun k h1 h2 => ⟨by omega, by omega, by omega, by omega⟩
  refine ⟨⟨_, g9, (RdV.blk (sz := 1) (n := 1) g43 rfl (hX 35 (by decide) (by decide)).1 (hX 35 (by decide) (by decide)).2)⟩, g8, fun w hw => ?_, ⟨fun h => h.2.1 rfl, fun h => h.2.2 rfl, by omega, by omega, by omega⟩, by simp, fun i hi => ⟨by omega, by omega, by omega⟩⟩
  rw [List.mem_singleton] at hw
  subst hw
  refine ⟨⟨⟨_, _, _, _, [(.slice (some ⟨m.next + 31, 0, none⟩) 1 1, [false])], g34, (RdV.blk (sz := 4) (n := 1) g30 rfl (hX 22 (by decide) (by decide)).1 (hX 22 (by decide) (by decide)).2), rfl, (RdV.blk (sz := 1) (n := 1) g41 rfl (hX 33 (by decide) (by decide)).1 (hX 33 (by decide) (by decide)).2), fun r hr => ?_, (RdV.blk (sz := 1) (n := 1) g36 rfl (hX 28 (by decide) (by decide)).1 (hX 28 (by decide) (by decide)).2), (RdV.blk (sz := 1) (n := 1) g38 rfl (hX 30 (by decide) (by decide)).1 (hX 30 (by decide) (by decide)).2)⟩, hX 26 (by decide) (by decide), ⟨rfl, wf_y.1, rfl, rfl, wf_y.2⟩⟩, ⟨⟨rfl, .inl ⟨rfl, .inl rfl⟩⟩, fun b hb => by cases hb⟩, by simp⟩
  simp only [List.mem_cons, List.not_mem_nil, or_false] at hr
  subst hr
  exact (RdV.blk (sz := 1) (n := 1) g39 rfl (hX 31 (by decide) (by decide)).1 (hX 31 (by decide) (by decide)).2)
end Go.Proofs.YtjlicambfepfiaaGreatDoor.Ab

set_option linter.unusedVariables false
set_option linter.unusedSimpArgs false
namespace Go.Proofs.YtjlicambfepfiaaGreatDoor.Ab
open Go Go.RowKit
set_option maxHeartbeats 4000000
set_option maxRecDepth 100000
theorem awkP : outIs (.bool true) (callE tab (xCall xs) Tryz.prog 3000 24 [] L0) = true := by kernel_rfl
theorem c_awakeP {w0 : World} {m : Mem} {Q : Value → Mem → Prop} (hp : Part L0 m) (hq : Q (.bool true) m) : AbC Tryz.prog w0 24 [] m Q :=
  AbC_run 3000 tab_ok xs_ok hp (Nat.le_of_eq globals_size) rfl awkP rfl hq
end Go.Proofs.YtjlicambfepfiaaGreatDoor.Ab

set_option linter.unusedVariables false
set_option linter.unusedSimpArgs false
namespace Go.Proofs.YtjlicambfepfiaaGreatDoor.Ab
open Go Go.RowKit
set_option maxHeartbeats 4000000
set_option maxRecDepth 100000
theorem bstr_of {m : Mem} {ob : Option Nat} {out : List UInt8} (h : SlO m 5 1 ob (out.map byteV) out.length) : bstr m (slV ob out.length 1) = some (.string ⟨⟨out⟩⟩) := by
  cases ob with
  | none =>
    have h1 : out.length = 0 := h.2
    have h2 : out = [] := List.length_eq_zero_iff.1 h1
    subst h2
    rfl
  | some b =>
    have g := h.2.1
    have hl : out.length = (out.map byteV).length := by simp
    simp only [slV, bstr, Mem.row, g, Ent.cells?]
    rw [if_pos (by simp)]
    simp only [List.drop_zero]
    rw [List.take_of_length_le (by simp), bytesOf_map]
theorem OfC.weak {w0 : World} {ps : List (List UInt8)} {G G' : Prop} {P P' : List (Tab × List Bool) → Prop} (h : OfC w0 ps G P) (hG : G' → G) (hG2 : G → G') (hP : ∀ c, P c → P' c) : OfC w0 ps G' P' := fun m ob Q hp hs hok herr =>
  h m ob Q hp hs (fun m' w o hl hPw ho hW n1 n2 => hok m' w o hl (hP _ hPw) ho hW n1 n2) fun hn m' e o hE => herr (fun h' => hn (hG h')) m' e o hE
def posJ (s : PlS) : Prop := 0 ≤ s.at_
theorem safe_of {G : List (List UInt8) → Prop} {P : List (List UInt8) → List (Tab × List Bool) → Prop} {l : List DV} (hl : l.length ≤ 1000) (hc : chkOk l) : SafeJ G P l posJ := by
  refine ⟨fun s h => h, fun s x s' o hs h0 hw hx hO => ?_⟩
  have hs : 0 ≤ s.at_ := hs
  have hlt : s.at_.toNat < l.length := by
    rcases Nat.lt_or_ge s.at_.toNat l.length with h' | h'
    · exact h'
    · rw [List.getElem?_eq_none h'] at hx; cases hx
  have hck := hc.2 _ _ hx
  unfold posJ
  cases hO with
  | send h => show 0 ≤ IntKind.i64.wrap (s.at_ + 1); rw [w64 (by omega)]; omega
  | exp w h1 h2 h3 h4 => exact hs
  | expN h1 h2 => exact hs
  | goto h => exact hck.2.1 (.inr (.inl h))
  | tryA h1 h2 => exact hck.2.1 (.inr (.inr h1))
  | tryB h1 h2 => show 0 ≤ IntKind.i64.wrap (s.at_ + 1); rw [w64 (by omega)]; omega
  | done h => exact hs
  | fail h1 h2 h3 h4 h5 => exact hs
/-- The law's dialogue. -/
def lT (w k : Int) (av : Value) : List DV := [(⟨[97], 0, [120], [], 0, [], 0⟩, .slice none 0 0), (⟨[], 1, [], [⟨[121], [98]⟩], w, [99], 0⟩, av), (⟨[99], 3, [], [], k, [97], 0⟩, .slice none 0 0), (⟨[], 5, [], [], 0, [], 0⟩, .slice none 0 0), (⟨[98], 4, [], [], 0, [], 0⟩, .slice none 0 0)]
theorem lT_chk (w k : Int) (av : Value) : chkOk (lT w k av) := by
  refine ⟨⟨by simp [lT], by simp [lT]⟩, fun j x hx => ?_⟩
  have hf : ∀ t, findN t (lT w k av) 0 = if [97] = t ∧ t ≠ [] then 0 else if [] = t ∧ t ≠ [] then 1 else if [99] = t ∧ t ≠ [] then 2 else if [] = t ∧ t ≠ [] then 3 else if [98] = t ∧ t ≠ [] then 4 else -1 := fun t => by simp [lT, findN]
  rcases (show j = 0 ∨ j = 1 ∨ j = 2 ∨ j = 3 ∨ j = 4 ∨ 5 ≤ j by omega) with rfl | rfl | rfl | rfl | rfl | h5
  · simp only [lT, List.getElem?_cons_zero, Option.some.injEq] at hx; subst hx
    exact ⟨fun _ => by rw [hf]; simp, fun h => by simp at h, fun h => by simp at h⟩
  · simp only [lT, List.getElem?_cons_zero, List.getElem?_cons_succ, Option.some.injEq] at hx; subst hx
    refine ⟨fun h => absurd rfl h, fun h => by rw [hf]; simp, fun h a ha => ?_⟩
    rw [List.mem_singleton] at ha
    subst ha
    rw [hf]; simp
  · simp only [lT, List.getElem?_cons_zero, List.getElem?_cons_succ, Option.some.injEq] at hx; subst hx
    exact ⟨fun _ => by rw [hf]; simp, fun h => by rw [hf]; simp, fun h => by simp at h⟩
  · simp only [lT, List.getElem?_cons_zero, List.getElem?_cons_succ, Option.some.injEq] at hx; subst hx
    exact ⟨fun h => absurd rfl h, fun h => by simp at h, fun h => by simp at h⟩
  · simp only [lT, List.getElem?_cons_zero, List.getElem?_cons_succ, Option.some.injEq] at hx; subst hx
    exact ⟨fun _ => by rw [hf]; simp, fun h => by simp at h, fun h => by simp at h⟩
  · rw [List.getElem?_eq_none (by simp [lT]; omega)] at hx; cases hx
abbrev gT (ps : List (List UInt8)) : Prop := True
abbrev pT (ps : List (List UInt8)) (c : List (Tab × List Bool)) : Prop := True
theorem lT_ok {w0 : World} (w k : Int) (av : Value) : StepsOk w0 gT pT (lT w k av) := by
  refine ⟨by simp [lT], fun x hx => ?_, fun x hx h1 => ?_⟩
  · simp only [lT, List.mem_cons, List.not_mem_nil, or_false] at hx
    rcases hx with rfl | rfl | rfl | rfl | rfl <;> simp
  · simp only [lT, List.mem_cons, List.not_mem_nil, or_false] at hx
    rcases hx with rfl | rfl | rfl | rfl | rfl
    · simp at h1
    · exact of_y.weak (fun h => h) (fun h => h) fun _ _ => trivial
    · simp at h1
    · simp at h1
    · simp at h1
/-- It waits. -/
structure Wt (s : PlS) (left c : Int) : Prop where
  at_ : s.at_ = 1
  st : s.st = 0
  wat : s.wat ≠ none
  left : s.left = left
  f : s.f 2 = c
theorem run_1 {w k : Int} {av : Value} {n : Nat} {s s' : PlS} {out out' : List UInt8} (hw : 1 ≤ w) (hn : n < 256) (h0 : s.st = 0) (h1 : s.wat = none) (h2 : s.at_ = 1) (h : RunR gT pT (lT w k av) n s out s' out') : Wt s' w (s.f 2) ∧ out' = out := by
  cases h with
  | stop _ _ _ h => rcases h with h | h; exact absurd h0 h; exact absurd h1 h
  | ill _ _ _ _ _ h => rcases h with h | h; omega; rw [h2] at h; simp [lT] at h
  | step _ _ s1 s2 x o out1 out2 a1 a2 a3 a4 hx hO hR =>
    rw [h2] at hx
    have hx : (lT w k av)[1]? = some x := hx
    simp only [lT, List.getElem?_cons_zero, List.getElem?_cons_succ, Option.some.injEq] at hx
    subst hx
    cases hO with
    | send h => simp at h
    | exp w1 b1 b2 b3 b4 =>
      cases hR with
      | stop => exact ⟨⟨h2, h0, by simp, by show max 1 w = w; omega, rfl⟩, by simp⟩
      | ill _ _ _ _ h => cases h
      | step _ _ _ _ _ _ _ _ _ h => cases h
    | expN b1 b2 => exact absurd trivial b2
    | goto h => simp at h
    | tryA h => simp at h
    | tryB h => simp at h
    | done h => simp at h
    | fail h1 h2 => simp at h2
theorem run_0 {w k : Int} {av : Value} {n : Nat} {s s' : PlS} {out out' : List UInt8} (hw : 1 ≤ w) (hn : n < 200) (h0 : s.st = 0) (h1 : s.wat = none) (h2 : s.at_ = 0) (h : RunR gT pT (lT w k av) n s out s' out') : Wt s' w (s.f 2) ∧ out' = out ++ [120] := by
  cases h with
  | stop _ _ _ h => rcases h with h | h; exact absurd h0 h; exact absurd h1 h
  | ill _ _ _ _ _ h => rcases h with h | h; omega; rw [h2] at h; simp [lT] at h
  | step _ _ s1 s2 x o out1 out2 a1 a2 a3 a4 hx hO hR =>
    rw [h2] at hx
    have hx : (lT w k av)[0]? = some x := hx
    simp only [lT, List.getElem?_cons_zero, Option.some.injEq] at hx
    subst hx
    cases hO with
    | send h => exact run_1 (n := n + 1) (s := { s with at_ := IntKind.i64.wrap (s.at_ + 1) }) hw (by omega) h0 h1 (by show IntKind.i64.wrap (s.at_ + 1) = 1; rw [h2]; rfl) hR
    | exp w1 b1 b2 b3 b4 => simp at b1
    | expN b1 b2 => exact absurd trivial b2
    | goto h => simp at h
    | tryA h => simp at h
    | tryB h => simp at h
    | done h => simp at h
    | fail h1 h2 => simp at h1
theorem run_3 {w k : Int} {av : Value} {n : Nat} {s s' : PlS} {out out' : List UInt8} (hn : n < 200) (h0 : s.st = 0) (h1 : s.wat = none) (h2 : s.at_ = 3) (h : RunR gT pT (lT w k av) n s out s' out') : s'.st = 2 ∧ s'.at_ = 3 ∧ out' = out := by
  cases h with
  | stop _ _ _ h => rcases h with h | h; exact absurd h0 h; exact absurd h1 h
  | ill _ _ _ _ _ h => rcases h with h | h; omega; rw [h2] at h; simp [lT] at h
  | step _ _ s1 s2 x o out1 out2 a1 a2 a3 a4 hx hO hR =>
    rw [h2] at hx
    have hx : (lT w k av)[3]? = some x := hx
    simp only [lT, List.getElem?_cons_zero, List.getElem?_cons_succ, Option.some.injEq] at hx
    subst hx
    cases hO with
    | send h => simp at h
    | exp w1 b1 b2 b3 b4 => simp at b1
    | expN b1 b2 => exact absurd trivial b2
    | goto h => simp at h
    | tryA h => simp at h
    | tryB h => simp at h
    | done h => simp at h
    | fail c1 c2 c3 c4 c5 =>
      cases hR with
      | stop => exact ⟨rfl, h2, by simp⟩
      | ill _ _ _ h => cases h
      | step _ _ _ _ _ _ _ _ h => cases h
theorem run_2 {w k : Int} {av : Value} {s s' : PlS} {out' : List UInt8} (hw : 1 ≤ w) (hk : 0 ≤ s.f 2 ∧ s.f 2 ≤ 100) (h0 : s.st = 0) (h1 : s.wat = none) (h2 : s.at_ = 2) (h : RunR gT pT (lT w k av) 0 s [] s' out') :
    (s.f 2 + 1 ≤ k ∧ Wt s' w (s.f 2 + 1) ∧ out' = [120]) ∨ (k < s.f 2 + 1 ∧ s'.st = 2 ∧ s'.at_ = 3 ∧ out' = []) := by
  have hw1 : IntKind.i64.wrap (s.f 2 + 1) = s.f 2 + 1 := w64 (by omega)
  cases h with
  | stop _ _ _ h => rcases h with h | h; exact absurd h0 h; exact absurd h1 h
  | ill _ _ _ _ _ h => rcases h with h | h; omega; rw [h2] at h; simp [lT] at h
  | step _ _ s1 s2 x o out1 out2 a1 a2 a3 a4 hx hO hR =>
    rw [h2] at hx
    have hx : (lT w k av)[2]? = some x := hx
    simp only [lT, List.getElem?_cons_zero, List.getElem?_cons_succ, Option.some.injEq] at hx
    subst hx
    cases hO with
    | send h => simp at h
    | exp w1 b1 b2 b3 b4 => simp at b1
    | expN b1 b2 => exact absurd trivial b2
    | goto h => simp at h
    | tryA h hle =>
      left
      rw [h2] at hle
      have hle : IntKind.i64.wrap (s.f 2 + 1) ≤ k := hle
      have := run_0 (n := 0 + 1) (s := { s with f := fun j => if j = s.at_ then IntKind.i64.wrap (s.f s.at_ + 1) else s.f j, at_ := findN [97] (lT w k av) 0 }) hw (by omega) h0 h1 (by show findN [97] (lT w k av) 0 = 0; simp [lT, findN]) hR
      refine ⟨by omega, ?_, by simpa using this.2⟩
      have h3 := this.1
      simp only [h2, if_true, hw1] at h3
      exact h3
    | tryB h hle =>
      right
      rw [h2] at hle
      have hle : ¬ IntKind.i64.wrap (s.f 2 + 1) ≤ k := hle
      have := run_3 (n := 0 + 1) (s := { s with f := fun j => if j = s.at_ then 0 else s.f j, at_ := IntKind.i64.wrap (s.at_ + 1) }) (by omega) h0 h1 (by show IntKind.i64.wrap (s.at_ + 1) = 3; rw [h2]; rfl) hR
      exact ⟨by omega, this.1, this.2.1, by simpa using this.2.2⟩
    | done h => simp at h
    | fail h1 h2 h3 h4 => simp at h4
theorem tick_W {w k : Int} {av : Value} {s s' : PlS} {out : List UInt8} {left c : Int} (hw : 1 ≤ w ∧ w ≤ 9) (hk : 0 ≤ c ∧ c ≤ 100) (h : Wt s left c) (hl : 1 ≤ left ∧ left ≤ 100) (hT : TickR gT pT (lT w k av) s s' out) :
    (1 < left ∧ Wt s' (left - 1) c ∧ out = []) ∨ (left = 1 ∧ c + 1 ≤ k ∧ Wt s' w (c + 1) ∧ out = [120]) ∨ (left = 1 ∧ k < c + 1 ∧ s'.st = 2 ∧ s'.at_ = 3 ∧ out = []) := by
  have hlw : IntKind.i64.wrap (s.left - 1) = left - 1 := by rw [h.left]; exact w64 (by omega)
  cases hT with
  | off h1 => rcases h1 with h1 | h1; exact absurd h.st h1; exact absurd h1 h.wat
  | wait h1 h2 h3 =>
    rw [hlw] at h3
    exact .inl ⟨by omega, ⟨h.at_, h.st, h.wat, hlw, h.f⟩, rfl⟩
  | go x _ _ h1 h2 h3 h4 hx hR =>
    rw [hlw] at h3
    rw [h.at_] at hx
    have hx : (lT w k av)[1]? = some x := hx
    simp only [lT, List.getElem?_cons_zero, List.getElem?_cons_succ, Option.some.injEq] at hx
    subst hx
    have := run_2 (s := { s with left := IntKind.i64.wrap (s.left - 1), wat := none, at_ := findN [99] (lT w k av) 0 }) hw.1 (by show 0 ≤ s.f 2 ∧ s.f 2 ≤ 100; rw [h.f]; exact hk) h.st rfl (by show findN [99] (lT w k av) 0 = 2; simp [lT, findN]) hR
    have hf : s.f 2 = c := h.f
    rcases this with ⟨b1, b2, b3⟩ | ⟨b1, b2, b3, b4⟩
    · have b1 : s.f 2 + 1 ≤ k := b1
      have b2 : Wt s' w (s.f 2 + 1) := b2
      rw [hf] at b1 b2
      exact .inr (.inl ⟨by omega, b1, b2, b3⟩)
    · have b1 : k < s.f 2 + 1 := b1
      rw [hf] at b1
      exact .inr (.inr ⟨by omega, b1, b2, b3, b4⟩)
end Go.Proofs.YtjlicambfepfiaaGreatDoor.Ab

set_option linter.unusedVariables false
set_option linter.unusedSimpArgs false
namespace Go.Proofs.YtjlicambfepfiaaGreatDoor.Ab
open Go Go.RowKit
set_option maxHeartbeats 4000000
set_option maxRecDepth 100000
theorem l_PTries {w0 : World} {m : Mem} {n t : Nat} (hn : n ≤ 255) (ht : t ≤ 255) (hp : Part L0 m) : AbC Tryz.prog w0 8 [.int .u8 (n : Int), .int .u8 (t : Int)] m fun v _ => v = .bool true := by
  refine AbC_fn ok8 (by simp) ?_
  simp -implicitDefEqProofs (disch := first | assumption | (simp only [wnA]; done) | (simp only [wnA]; omega) | omega | fail) [rc8, ro8, wkA, retV, stabOk, dC, ev, fillD, pickCells, putAt, bnd, slD, List.getElem?_cons_zero, List.getElem?_cons_succ, dR.eq_20, Mem.cell, Mem.row, wmA]
  refine c_awakeP hp ?_
  have r1 : dBin .rem (.int .u8 (n : Int)) (.int .u8 9) = some (.int .u8 ((n % 9 : Nat) : Int)) := rem_u8 (b := 9) (by omega)
  have r2 : dBin .rem (.int .u8 (t : Int)) (.int .u8 9) = some (.int .u8 ((t % 9 : Nat) : Int)) := rem_u8 (b := 9) (by omega)
  have hk9 : n % 9 < 9 := Nat.mod_lt _ (by omega)
  have hw9 : t % 9 < 9 := Nat.mod_lt _ (by omega)
  generalize n % 9 = k0 at *
  generalize t % 9 = t0 at *
  have e1 : IntKind.i64.wrap (k0 : Int) = (k0 : Int) := w64 (by omega)
  have e2 : IntKind.i64.wrap (1 + (k0 : Int)) = 1 + (k0 : Int) := w64 (by omega)
  have e3 : IntKind.i64.wrap (t0 : Int) = (t0 : Int) := w64 (by omega)
  have e4 : IntKind.i64.wrap (1 + (t0 : Int)) = 1 + (t0 : Int) := w64 (by omega)
  simp -implicitDefEqProofs (disch := first | assumption | (simp only [wnA]; done) | (simp only [wnA]; omega) | omega | fail) [rc8_6, wkA, retV, stabOk, dC, ev, fillD, pickCells, putAt, bnd, slD, List.getElem?_cons_zero, List.getElem?_cons_succ, dR.eq_20, Mem.cell, Mem.row, wmA, r1, r2, e1, e2, e3, e4]
  obtain ⟨k, hk⟩ : ∃ k : Nat, 1 + (k0 : Int) = (k : Int) := ⟨1 + k0, by omega⟩
  obtain ⟨w, hw⟩ : ∃ w : Nat, 1 + (t0 : Int) = (w : Int) := ⟨1 + t0, by omega⟩
  simp only [hk, hw]
  have hk1 : 1 ≤ k ∧ k ≤ 9 := by omega
  have hw1 : 1 ≤ w ∧ w ≤ 9 := by omega
  clear r1 r2 e1 e2 e3 e4 hk hw hk9 hw9
  rw [SK_bsl (cs := [.string ⟨#[121]⟩, .string ⟨#[98]⟩]) (by simp [wkA, retV, stabOk, dC, ev, fillD, pickCells, putAt, bnd, slD, List.getElem?_cons_zero, List.getElem?_cons_succ, dR.eq_20]) (by simp)]
  obtain ⟨M1, hM1⟩ : ∃ M, m.push (.own [.string ⟨#[121]⟩, .string ⟨#[98]⟩] 49) = M := ⟨_, rfl⟩
  have o1 : Old m M1 := by subst hM1; exact (Old.refl m).push _
  have g1 : M1.get m.next = .own [.string ⟨#[121]⟩, .string ⟨#[98]⟩] 49 := by subst hM1; rw [Mem.push_same]
  have n1 : m.next < M1.next := by subst hM1; simp
  rw [hM1]
  clear hM1
  obtain ⟨av, hav⟩ : ∃ av : Value, .slice (some ⟨m.next, 0, none⟩) 1 2 = av := ⟨_, rfl⟩
  have hav1 : oneC av = true ∧ cellsV av = [av] := by subst hav; exact ⟨rfl, rfl⟩
  simp -implicitDefEqProofs (disch := first | assumption | (simp only [wnA]; done) | (simp only [wnA]; omega) | omega | fail) [wkA, retV, stabOk, dC, ev, fillD, pickCells, putAt, bnd, slD, List.getElem?_cons_zero, List.getElem?_cons_succ, dR.eq_20, Mem.cell, Mem.row, wmA, hav, hav1.2]
  rw [SK_bsl (cs := (lT w k av).flatMap vC) (by simp [wkA, retV, stabOk, dC, ev, fillD, pickCells, putAt, bnd, slD, List.getElem?_cons_zero, List.getElem?_cons_succ, dR.eq_20, lT, vC, dsC, hav1.2]) (by simp [lT, vC, dsC])]
  obtain ⟨M2, hM2⟩ : ∃ M, M1.push (.own ((lT w k av).flatMap vC) 29) = M := ⟨_, rfl⟩
  have o2 : Old M1 M2 := by subst hM2; exact (Old.refl M1).push _
  have g2 : M2.get M1.next = .own ((lT w k av).flatMap vC) 29 := by subst hM2; rw [Mem.push_same]
  have n2 : M1.next < M2.next := by subst hM2; simp
  rw [hM2]
  clear hM2
  have o12 := o1.trans o2
  have g1' := (o2.2 _ n1).trans g1
  have hD : DsV M2 (.slice (some ⟨M1.next, 0, none⟩) 5 7) (lT w k av) := by
    refine ⟨(RdV.blk (X := fun _ => True) (n := 5) g2 (by simp [lT, vC, dsC]) n2 trivial).sl, fun b hb => by cases hb; exact n2, fun x hx => ?_⟩
    have hnil : ∀ d : DS, d.arms = [] → ArmV M2 (d, .slice none 0 0) := fun d hd => ⟨by rw [hd]; exact ⟨rfl, .inl ⟨rfl, .inl rfl⟩⟩, fun b hb => by cases hb⟩
    simp only [lT, List.mem_cons, List.not_mem_nil, or_false] at hx
    rcases hx with rfl | rfl | rfl | rfl | rfl
    · exact hnil _ rfl
    · subst hav
      exact ⟨(RdV.blk (X := fun _ => True) (n := 1) (sz := 2) g1' rfl (Nat.lt_of_lt_of_le n1 o2.1) trivial).sl, fun b hb => by cases hb; exact Nat.lt_of_lt_of_le n1 o2.1⟩
    · exact hnil _ rfl
    · exact hnil _ rfl
    · exact hnil _ rfl
  have hck := lT_chk w k av
  have hSO : StepsOk w0 gT pT (lT w k av) := lT_ok w k av
  have hSJ : SafeJ gT pT (lT w k av) posJ := safe_of (by simp [lT]) hck
  simp -implicitDefEqProofs (disch := first | assumption | (simp only [wnA]; done) | (simp only [wnA]; omega) | omega | fail) [wkA, retV, stabOk, dC, ev, fillD, pickCells, putAt, bnd, slD, List.getElem?_cons_zero, List.getElem?_cons_succ, dR.eq_20, Mem.cell, Mem.row, wmA]
  refine c_POf (G := gT) (P := pT) (J := posJ) (o12.part hp) hD hSO (fun _ => ⟨hSJ, fun im => by show (0 : Int) ≤ 0; omega⟩) (fun _ M3 ip im sv s3 out ob hR hP3 o3 hown so hob => ?_) fun hbad => absurd ⟨hck, fun _ _ _ => trivial⟩ hbad
  have hr := run_0 (by omega) (by omega) rfl rfl rfl hR
  have hb := bstr_of so
  obtain ⟨hW, hout⟩ := hr
  simp only [List.nil_append] at hout
  subst hout
  simp only [List.length_singleton] at hb
  simp -implicitDefEqProofs (disch := first | assumption | (simp only [wnA]; done) | (simp only [wnA]; omega) | omega | fail) [wkA, retV, stabOk, dC, ev, fillD, pickCells, putAt, bnd, slD, List.getElem?_cons_zero, List.getElem?_cons_succ, dR.eq_20, Mem.cell, Mem.row, wmA, hb]
  obtain ⟨N, hN⟩ : ∃ N, (k + 1) * w = N := ⟨_, rfl⟩
  have hN90 : N ≤ 90 := by rw [← hN]; exact Nat.le_trans (Nat.mul_le_mul (show k + 1 ≤ 10 by omega) hw1.2) (by decide)
  have hkw : IntKind.i64.wrap ((k : Int) + 1) = (k : Int) + 1 := w64 (by omega)
  have hNw : IntKind.i64.wrap (((k : Int) + 1) * (w : Int)) = (N : Int) := by
    have e : ((k : Int) + 1) * (w : Int) = ((N : Nat) : Int) := by rw [← hN, Int.natCast_mul]; rfl
    rw [e]; exact w64 (by omega)
  refine LoopW_of (fun q ts m' => ∃ (i : Nat) (s : PlS) (al : List UInt8), i + q = N ∧ PlayV [] m' ip sv (lT w k av) s ∧ ((i < N ∧ ∃ c d, c ≤ k ∧ d < w ∧ i = c * w + d ∧ Wt s ((w : Int) - d) c ∧ al = List.replicate (c + 1) 120) ∨ (i = N ∧ s.st = 2 ∧ s.at_ = 3 ∧ al = List.replicate (k + 1) 120)) ∧
    ts 5 = .int .i64 (k : Nat) ∧ ts 6 = .int .i64 (w : Nat) ∧ ts 8 = .pointer (some ⟨ip, 0, none⟩) ∧ ts 10 = .string ⟨⟨al⟩⟩ ∧ ts 11 = .int .i64 (i : Nat)) N ?_ ?_
  · refine ⟨0, s3, [120], by omega, hP3, .inl ⟨by rw [← hN]; exact Nat.mul_pos (by omega) (by omega), 0, 0, by omega, by omega, by omega, ?_, rfl⟩, by simp, by simp, by simp, by simp, by simp⟩
    have hf0 : (pl0 im).f 2 = 0 := rfl
    rw [hf0] at hW
    simpa using hW
  · rintro q ts m1 K ⟨i, s, al, hi, hP, hph, t5, t6, t8, t10, t11⟩ hK
    simp -implicitDefEqProofs (disch := first | assumption | (simp only [wnA]; done) | (simp only [wnA]; omega) | omega | fail) [rc8_1, wkA, retV, stabOk, dC, ev, fillD, pickCells, putAt, bnd, slD, List.getElem?_cons_zero, List.getElem?_cons_succ, dR.eq_20, Mem.cell, Mem.row, wmA, t5, t6, t11, hkw, hNw]
    by_cases hiN : i < N
    · obtain ⟨c, d, hc, hd, hicd, hWs, hal⟩ : ∃ c d, c ≤ k ∧ d < w ∧ i = c * w + d ∧ Wt s ((w : Int) - d) c ∧ al = List.replicate (c + 1) 120 := by
        rcases hph with h | h
        · exact h.2
        · omega
      have hiw : IntKind.i64.wrap ((i : Int) + 1) = ((i + 1 : Nat) : Int) := by rw [w64 (by omega)]; omega
      simp -implicitDefEqProofs (disch := first | assumption | (simp only [wnA]; done) | (simp only [wnA]; omega) | omega | fail) [hiN, rc8_0, wkA, retV, stabOk, dC, ev, fillD, pickCells, putAt, bnd, slD, List.getElem?_cons_zero, List.getElem?_cons_succ, dR.eq_20, Mem.cell, Mem.row, wmA, t8]
      refine c_State hP ?_
      have hst := hWs.st
      simp -implicitDefEqProofs (disch := first | assumption | (simp only [wnA]; done) | (simp only [wnA]; omega) | omega | fail) [wkA, retV, stabOk, dC, ev, fillD, pickCells, putAt, bnd, slD, List.getElem?_cons_zero, List.getElem?_cons_succ, dR.eq_20, Mem.cell, Mem.row, wmA, hst, t8, bne]
      refine c_Tick hP hSO hSJ (fun j hj => by cases hj) (fun _ _ => ?_) fun m2 s2 out ob2 hT hP2 k2 so2 hob2 how2 => ?_
      · refine ⟨by rw [hWs.at_]; omega, (⟨[], 1, [], [⟨[121], [98]⟩], w, [99], 0⟩, av), by rw [hWs.at_]; rfl, ?_⟩
        show 0 ≤ findN [99] (lT w k av) 0
        simp [lT, findN]
      · have hb2 := bstr_of so2
        have hcase := tick_W (w := w) (k := k) (av := av) (by omega) (by omega) hWs (by omega) hT
        have hadd : (c + 1) * w = c * w + w := by rw [Nat.add_mul, Nat.one_mul]
        have hlen : al.length ≤ 20 := by rw [hal, List.length_replicate]; omega
        have hol : out.length ≤ 1 := by rcases hcase with ⟨-, -, h⟩ | ⟨-, -, -, h⟩ | ⟨-, -, -, -, h⟩ <;> rw [h] <;> simp
        have hcat := cat2 (a := al) (b := out) (by omega)
        simp -implicitDefEqProofs (disch := first | assumption | (simp only [wnA]; done) | (simp only [wnA]; omega) | omega | fail) [wkA, retV, stabOk, dC, ev, fillD, pickCells, putAt, bnd, slD, List.getElem?_cons_zero, List.getElem?_cons_succ, dR.eq_20, Mem.cell, Mem.row, wmA, hb2, t10, hcat, t11, hiw]
        refine hK (q - 1) _ _ (by omega) ⟨i + 1, s2, al ++ out, by omega, hP2, ?_, by simp [t5], by simp [t6], by simp [t8], by simp, by simp⟩
        rcases hcase with ⟨h1, h2, h3⟩ | ⟨h1, h2, h3, h4⟩ | ⟨h1, h2, h3, h4, h5⟩
        · left
          have hcw : (c + 1) * w ≤ N := by rw [← hN]; exact Nat.mul_le_mul_right _ (by omega)
          refine ⟨by omega, c, d + 1, hc, by omega, by omega, ?_, by rw [h3, hal]; simp⟩
          have e : (w : Int) - ((d + 1 : Nat) : Int) = (w : Int) - d - 1 := by omega
          rw [e]; exact h2
        · left
          have hcw : (c + 1) * w + w ≤ N := by
            have : (c + 2) * w ≤ N := by rw [← hN]; exact Nat.mul_le_mul_right _ (by omega)
            have e : (c + 2) * w = (c + 1) * w + w := by rw [show c + 2 = (c + 1) + 1 by omega, Nat.add_mul (c + 1), Nat.one_mul]
            omega
          refine ⟨by omega, c + 1, 0, by omega, by omega, by omega, ?_, by rw [h4, hal, List.replicate_succ' (n := c + 1)]⟩
          have e : (w : Int) - ((0 : Nat) : Int) = (w : Int) := by omega
          have e2 : (((c + 1 : Nat) : Nat) : Int) = (c : Int) + 1 := by omega
          rw [e, e2]; exact h3
        · right
          have hck : c = k := by omega
          subst hck
          exact ⟨by omega, h3, h4, by rw [h5, hal]; simp⟩
    · have hiN' : i = N := by omega
      obtain ⟨-, hst, hat, hal⟩ : i = N ∧ s.st = 2 ∧ s.at_ = 3 ∧ al = List.replicate (k + 1) 120 := by
        rcases hph with h | h
        · omega
        · exact h
      simp -implicitDefEqProofs (disch := first | assumption | (simp only [wnA]; done) | (simp only [wnA]; omega) | omega | fail) [hiN, rc8_5, wkA, retV, stabOk, dC, ev, fillD, pickCells, putAt, bnd, slD, List.getElem?_cons_zero, List.getElem?_cons_succ, dR.eq_20, Mem.cell, Mem.row, wmA]
      refine LoopW_of (fun q ts' m' => ∃ j : Nat, j + q = k + 1 ∧ m' = m1 ∧ ts' 5 = .int .i64 (k : Nat) ∧ ts' 8 = .pointer (some ⟨ip, 0, none⟩) ∧ ts' 10 = .string ⟨⟨al⟩⟩ ∧ ts' 12 = .string ⟨⟨List.replicate j 120⟩⟩ ∧ ts' 13 = .int .i64 (j : Nat)) (k + 1) ?_ ?_
      · exact ⟨0, by omega, rfl, by simp [t5], by simp [t8], by simp [t10], by simp, by simp⟩
      · rintro q' ts' m2 K' ⟨j, hj, rfl, u5, u8, u10, u12, u13⟩ hK'
        simp -implicitDefEqProofs (disch := first | assumption | (simp only [wnA]; done) | (simp only [wnA]; omega) | omega | fail) [rc8_3, wkA, retV, stabOk, dC, ev, fillD, pickCells, putAt, bnd, slD, List.getElem?_cons_zero, List.getElem?_cons_succ, dR.eq_20, Mem.cell, Mem.row, wmA, u5, u13]
        by_cases hjk : j ≤ k
        · have hjk' : (j : Int) ≤ (k : Int) := by omega
          have hjw : IntKind.i64.wrap ((j : Int) + 1) = ((j + 1 : Nat) : Int) := by rw [w64 (by omega)]; omega
          have hcat := cat2 (a := List.replicate j 120) (b := [120]) (by simp; omega)
          rw [← List.replicate_succ'] at hcat
          obtain ⟨R, hR⟩ : ∃ R, List.replicate j (120 : UInt8) = R := ⟨_, rfl⟩
          obtain ⟨R', hR'⟩ : ∃ R, List.replicate (j + 1) (120 : UInt8) = R := ⟨_, rfl⟩
          rw [hR] at u12 hcat
          rw [hR'] at hcat
          simp -implicitDefEqProofs (disch := first | assumption | (simp only [wnA]; done) | (simp only [wnA]; omega) | omega | fail) [hjk, hjk', rc8_2, wkA, retV, stabOk, dC, ev, fillD, pickCells, putAt, bnd, slD, List.getElem?_cons_zero, List.getElem?_cons_succ, dR.eq_20, Mem.cell, Mem.row, wmA, u12, u13, hcat, hjw]
          exact hK' (q' - 1) _ _ (by omega) ⟨j + 1, by omega, rfl, by simp [u5], by simp [u8], by simp [u10], by rw [hR']; simp, by simp⟩
        · have hjk' : ¬ (j : Int) ≤ (k : Int) := by omega
          have hje : j = k + 1 := by omega
          subst hje
          rw [← hal] at u12
          simp -implicitDefEqProofs (disch := first | assumption | (simp only [wnA]; done) | (simp only [wnA]; omega) | omega | fail) [hjk, hjk', rc8_4, wkA, retV, stabOk, dC, ev, fillD, pickCells, putAt, bnd, slD, List.getElem?_cons_zero, List.getElem?_cons_succ, dR.eq_20, Mem.cell, Mem.row, wmA, u8]
          refine c_State hP ?_
          simp -implicitDefEqProofs (disch := first | assumption | (simp only [wnA]; done) | (simp only [wnA]; omega) | omega | fail) [wkA, retV, stabOk, dC, ev, fillD, pickCells, putAt, bnd, slD, List.getElem?_cons_zero, List.getElem?_cons_succ, dR.eq_20, Mem.cell, Mem.row, wmA, hst, u8, u10, u12]
          refine c_At hP ?_
          simp -implicitDefEqProofs (disch := first | assumption | (simp only [wnA]; done) | (simp only [wnA]; omega) | omega | fail) [wkA, retV, stabOk, dC, ev, fillD, pickCells, putAt, bnd, slD, List.getElem?_cons_zero, List.getElem?_cons_succ, dR.eq_20, Mem.cell, Mem.row, wmA, hat]
theorem l_PTriesI {w0 : World} {m : Mem} {n t : Int} (h1 : (Lit.int .u8 n).wf = true) (h2 : (Lit.int .u8 t).wf = true) (hp : Part L0 m) : AbC Tryz.prog w0 8 [.int .u8 n, .int .u8 t] m fun v _ => v = .bool true := by
  have a1 := wf_u8 h1
  have a2 := wf_u8 h2
  obtain ⟨a, rfl⟩ : ∃ a : Nat, n = (a : Int) := ⟨n.toNat, by omega⟩
  obtain ⟨b, rfl⟩ : ∃ b : Nat, t = (b : Int) := ⟨t.toNat, by omega⟩
  exact l_PTries (by omega) (by omega) hp
end Go.Proofs.YtjlicambfepfiaaGreatDoor.Ab

namespace Go.Proofs.YtjlicambfepfiaaGreatDoor.playTries
open Go Go.ChangeShapes Go.WideShapes Go.ChangeAt Go.RowKit Go.Proofs.YtjlicambfepfiaaGreatDoor.Ab
set_option linter.unusedVariables false
theorem own : ownKnob Tryz.prog.godebug = none := by kernel_rfl
theorem laidOut : laidOutB Tryz.prog = true := by kernel_rfl
set_option maxRecDepth 100000 in
theorem contract (H : Type) (enc : TypeId × Value → H) (W : World) (base : Nat) (args : Array Value) (ds gs : List (DataW H)) (before : List MemPlace)
    (hval : ∀ (j : Nat) t v, Tryz.f8.params[j]? = some t → args[j]? = some v → Value.okWide Tryz.prog W .any base t v)
    (hW : DataW.Whole enc Tryz.prog Tryz.f8.params.toList Rows.playTriesSpec.vars false W args.toList ds gs before) (hL : laidMetH Tryz.prog Rows.playTriesRow.laid W) :
    Calls Tryz.prog 8 args W fun e W' => ∃ v, e = .returned v ∧ Rows.playTriesSpec.post enc Tryz.prog Tryz.f8 false true false false W args v W' := by
  have hW' := hW
  obtain ⟨hL', hLh⟩ := (show laidMet Tryz.prog (Rows.playTriesRow.laid.filter fun x => x.2.handleName?.isNone) W ∧ handlesMet Tryz.prog (Rows.playTriesRow.laid.filter fun x => x.2.handleName?.isSome) W from hL)
  obtain ⟨p, q, hA0, hV, rfl, hfz, hnd⟩ := hW
  have hA : DataW.TrodAll enc Tryz.prog W 0 (fun _ => true) true Tryz.f8.params.toList args.toList ds p := hA0
  rw [Tryz.params8] at hA hval
  obtain ⟨v0, vs0, d0, ds0, p0, q0, hargs, rfl, rfl, h0, r0⟩ := trodAll_cons hA
  obtain ⟨v1, vs1, d1, ds1, p1, q1, rfl, rfl, rfl, h1, r1⟩ := trodAll_cons r0
  obtain ⟨rfl, rfl, rfl⟩ := trodAll_nil r1
  obtain rfl : args = #[v0, v1] := by cases args; simp_all
  obtain ⟨rfl, rfl⟩ := trodVars_none hV
  obtain ⟨a0, rfl⟩ := okWide_int Tryz.underlying5 (hval 0 5 v0 rfl rfl)
  have lt0 : ∀ x ∈ p0, x.block < W.heap.size := by obtain ⟨m, hm⟩ := h0; exact DataW.trod_lt m _ _ _ hm
  obtain ⟨a1, rfl⟩ := okWide_int Tryz.underlying5 (hval 1 5 v1 rfl rfl)
  have lt1 : ∀ x ∈ p1, x.block < W.heap.size := by obtain ⟨m, hm⟩ := h1; exact DataW.trod_lt m _ _ _ hm
  have s : St Tryz.prog W (G0 Tryz.prog) (toMem L0) W := St.laid globals_size L0_get laid_ok (laidIn hL' (List.mem_of_getElem? (i := 0) rfl) (List.mem_of_getElem? (i := 1) rfl) (List.mem_of_getElem? (i := 2) rfl))
  have hp : Part L0 (toMem L0) := Part.of L0_part (Nat.le_refl _) fun _ _ => rfl
  obtain ⟨G0, m0, x0, t0, g0, s0, u0, b0, f0, k0⟩ := arg_one (k := 5) (s := .int .u8) (by kernel_rfl) h0 rfl s
  have hp := g0.part hp
  obtain ⟨G1, m1, x1, t1, g1, s1, u1, b1, f1, k1⟩ := arg_one (k := 5) (s := .int .u8) (by kernel_rfl) h1 rfl s0
  have hp := g1.part hp
  have b0 := b0.mono g1.2.1 g1.2.2
  have u0 := u0.mono g1.1
  refine (AbC_true s1 (.cons _ _ _ _ u0 (.cons _ _ _ _ u1 .nil)) ((by obtain ⟨n1, hx1, -, w1⟩ := absT_int b0 f0; cases hx1; obtain ⟨n2, hx2, -, w2⟩ := absT_int b1 f1; cases hx2; exact l_PTriesI w1 w2 hp)) (by kernel_rfl)).mono fun e W' ⟨he, bel⟩ => ?_
  subst he
  exact ⟨_, rfl, _, _, _, [], _, [], hW', trodAll_mk1 (shut_bool Tryz.underlying4 _), (trodAll_cons_mk (Below.trod laidOut (by kernel_rfl) (of_decide_eq_true (by kernel_rfl)) h0 bel lt0) (trodAll_cons_mk (Below.trod laidOut (by kernel_rfl) (of_decide_eq_true (by kernel_rfl)) h1 bel lt1) trodAll_mk0)), rfl, bel.frame _, fun h => by cases h⟩
noncomputable def laidWorld (os : Os) : World :=
  let N := (World.settled Tryz.prog os).heap.size
  { World.holding Tryz.prog os ⟨#[.cells #[.string ⟨#[118, 97, 108, 117, 101, 32, 111, 117, 116, 32, 111, 102, 32, 114, 97, 110, 103, 101]⟩] 226, .cells #[.string ⟨#[105, 110, 118, 97, 108, 105, 100, 32, 115, 121, 110, 116, 97, 120]⟩] 226], #[], []⟩ with heap := (((((((World.holding Tryz.prog os ⟨#[.cells #[.string ⟨#[118, 97, 108, 117, 101, 32, 111, 117, 116, 32, 111, 102, 32, 114, 97, 110, 103, 101]⟩] 226, .cells #[.string ⟨#[105, 110, 118, 97, 108, 105, 100, 32, 115, 121, 110, 116, 97, 120]⟩] 226], #[], []⟩).heap.modify 5 fun | .cells _ t frozen => .cells ⟨e32⟩ t frozen | o => o).modify 6 fun | .cells _ t frozen => .cells ⟨e64⟩ t frozen | o => o).modify 2 fun | .cells _ t frozen => .cells ⟨e10⟩ t frozen | o => o).modify 4 fun | .cells _ t frozen => .cells #[.iface 224 (.pointer (some ⟨N, 0, none⟩))] t frozen | o => o).modify 3 fun | .cells _ t frozen => .cells #[.iface 224 (.pointer (some ⟨N + 1, 0, none⟩))] t frozen | o => o).modify 0 fun | .cells _ t frozen => .cells #[.iface 158 (.agg #[.pointer (some ⟨7, 36, none⟩)])] t frozen | o => o) }
theorem laid_met (os : Os) : laidMetH Tryz.prog Rows.playTriesRow.laid ((laidWorld os).forCall (fun _ _ => 0) ⟨#[], #[(.int .u8 0 : Value), (.int .u8 0 : Value)], []⟩).memory :=
  laidMetH_of_parts (laidMet_of_run' 8 (by kernel_rfl) (by kernel_rfl)) (by kernel_rfl)
theorem reads (os : Os) {H : Type} (enc : TypeId × Value → H) : ∃ places, DataW.whole enc Tryz.prog ((laidWorld os).forCall (fun _ _ => 0) ⟨#[], #[(.int .u8 0 : Value), (.int .u8 0 : Value)], []⟩).memory Tryz.f8.params.toList Rows.playTriesSpec.vars false [(.int .u8 0 : Value), (.int .u8 0 : Value)] 8 = some ([.lit (.int .u8 0), .lit (.int .u8 0)], [], places) :=
  ⟨[], by kernel_rfl⟩
set_option maxRecDepth 100000 in
theorem lifted (os : Os) (started : os.Started) (H : Type) (enc : TypeId × Value → H) (F : Stop.Interp) :
    ReturnsInHanded {} Tryz.checked os 8 .any ((OpenSpec.ofChange Rows.playTriesSpec).preRow enc Tryz.prog Tryz.f8 Rows.playTriesRow.domain false Rows.playTriesRow.laid) (((OpenSpec.ofChange Rows.playTriesSpec).at F).post enc Tryz.prog Tryz.f8 false true false false) := by
  obtain ⟨places, hx⟩ := reads os enc
  refine returnsInHanded_of_row (C := Tryz.checked) (s := (OpenSpec.ofChange Rows.playTriesSpec)) own started (by kernel_rfl) Tryz.func8
    (witness_row_atRef (enc := enc) (C := Tryz.checked) false (laidWorld os) #[(.int .u8 0 : Value), (.int .u8 0 : Value)] rfl (by kernel_rfl) (by kernel_rfl) (by kernel_rfl)
      (OpenSpec.preRow_of_cond 8 hx (by kernel_rfl) (fun k hk => by cases hk) (by kernel_rfl) (laid_met os))) ?_
  intro W base args ds gs before hval hW _ _ _ hL _ _
  exact contract H enc W base args ds gs before hval hW hL
theorem over : Rows.PlayTriesSaid :=
  OpenClaim.holds_of_cond 8 Tryz.f8 rfl rfl rfl rfl rfl rfl rfl ⟨rfl, rfl, rfl, rfl, rfl⟩ rfl rfl rfl rfl rfl (by kernel_rfl) Tryz.func8 (by kernel_rfl)
    (of_decide_eq_true (by kernel_rfl)) (by unfold Func.isWrapper; first | (rw [if_pos (by decide +kernel)]; kernel_rfl) | (rw [if_neg (by decide +kernel)]; exact ⟨rfl, rfl⟩))
    (fun os started H enc _ F => by rw [OpenClaim.pre_eq_preRow]; exact lifted os started H enc F)
theorem plain (f : FuncId) (fn : Func) (hf : Tryz.pinned.checked.prog.funcNamed "lifeline/lifelinelaw18.PlayTries" = some f) (hfn : Tryz.pinned.checked.prog.funcs[f]? = some fn) :
    true = Tryz.pinned.checked.prog.looks [] ∧ ∀ (j : Nat) t, fn.params[j]? = some t → Tryz.pinned.checked.prog.wantsStandIn t = false := by
  obtain rfl : f = 8 := Option.some.inj ((show Tryz.prog.funcNamed "lifeline/lifelinelaw18.PlayTries" = some 8 by kernel_rfl).symm.trans hf) |>.symm
  obtain rfl : fn = Tryz.f8 := (Option.some.inj (Tryz.func8.symm.trans hfn)).symm
  refine ⟨by kernel_rfl, fun j t ht => ?_⟩
  rw [Tryz.params8] at ht
  have hall : ∀ t ∈ [5, 5], Tryz.prog.wantsStandIn t = false := by
    intro t ht
    simp only [List.mem_cons, List.mem_nil_iff, or_false] at ht
    rcases ht with rfl | rfl <;> kernel_rfl
  exact hall t (by simpa using Array.mem_of_getElem? ht)
theorem proved : Rows.PlayTriesCardSaid :=
  Claim7.holds_tied_plain_at .later [] _ _ _ _ over (fun _ h => by cases h) (by kernel_rfl) (fun _ h => by cases h) playTries_row_tie rfl ⟨rfl, rfl⟩ (by kernel_rfl) rfl plain (by kernel_rfl)
#print axioms proved
end Go.Proofs.YtjlicambfepfiaaGreatDoor.playTries
