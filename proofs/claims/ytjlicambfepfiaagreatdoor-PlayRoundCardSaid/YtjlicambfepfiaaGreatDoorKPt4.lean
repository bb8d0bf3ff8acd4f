/- The law PlayRound, as its statement says it: for every input; the listed variables hold what the program's text lays. -/
import Derived.Test.YtjlicambfepfiaaGreatDoorKPt3
import Derived.Test.YtjlicambfepfiaaGreatDoorCards
import Derived.Test.YtjlicambfepfiaaGreatDoorTie
import Derived.WalkKit
import Derived.ProofKit
import Derived.OpenShut
import Derived.JoinedCond
import Derived.ChangeOld
import Derived.Deep.DeepHandedRow
import Derived.Deep.DeepWitnessRowRef
set_option linter.unusedVariables false
set_option linter.unusedSimpArgs false
namespace Go.Proofs.YtjlicambfepfiaaGreatDoor.Ab
open Go Go.RowKit
set_option maxHeartbeats 4000000
set_option maxRecDepth 100000
/-- An error that has a number. -/
def ErrI (w0 : World) (e : Value) : Prop := ∃ t u, e = .iface t u ∧ ∀ (m : Mem) (Q : Value → Mem → Prop), Part L0 m → (∀ m' n, Old m m' → Q (.int .i64 n) m') → AbC Tryz.prog w0 19 [e] m Q
/-- What expect.Of does of patterns: it makes a watch of which P holds; an error only where G does not. -/
def OfC (w0 : World) (ps : List (List UInt8)) (G : Prop) (P : List (Tab × List Bool) → Prop) : Prop := ∀ (m : Mem) (ob : Option Nat) (Q : Value → Mem → Prop), Part L0 m → SlO m 9 1 ob (ps.map fun p => .string ⟨⟨p⟩⟩) ps.length →
  (∀ m' (w : WatS), Old m m' → w.ws.length = ps.length → P (w.ws.map WaE.core) → w.over = false → WatV (fun i => m.next ≤ i ∧ i ≠ w.iw ∧ i ≠ w.ia) m' w.iw w.ia w.ws w.seen w.over → m.next ≤ w.iw → m.next ≤ w.ia → Q (.tuple ⟨[.pointer (some ⟨w.iw, 0, none⟩), .nilIface]⟩) m') →
  (¬ G → ∀ m' e, Old m m' → ErrI w0 e → Q (.tuple ⟨[.pointer none, e]⟩) m') → AbC Tryz.prog w0 45 [slV ob ps.length 1] m Q
def pats (x : DS) : List (List UInt8) := x.arms.map Arm.pat
section
variable (G : List (List UInt8) → Prop) (P : List (List UInt8) → List (Tab × List Bool) → Prop)
/-- A step is done. -/
inductive OneR (l : List DV) (x : DS) (s : PlS) : PlS → List UInt8 → Prop
  | send : x.kd = 0 → OneR l x s { s with at_ := IntKind.i64.wrap (s.at_ + 1) } x.tx
  | exp (w : WatS) : x.kd = 1 → w.ws.length = x.arms.length → P (pats x) (w.ws.map WaE.core) → w.over = false → OneR l x s { s with wat := some w, left := max 1 x.n } []
  | expN : x.kd = 1 → ¬ G (pats x) → OneR l x s { s with left := max 1 x.n } []
  | goto : x.kd = 2 → OneR l x s { s with at_ := findN x.to l 0 } []
  | tryA : x.kd = 3 → IntKind.i64.wrap (s.f s.at_ + 1) ≤ x.n → OneR l x s { s with f := fun j => if j = s.at_ then IntKind.i64.wrap (s.f s.at_ + 1) else s.f j, at_ := findN x.to l 0 } []
  | tryB : x.kd = 3 → ¬ IntKind.i64.wrap (s.f s.at_ + 1) ≤ x.n → OneR l x s { s with f := fun j => if j = s.at_ then 0 else s.f j, at_ := IntKind.i64.wrap (s.at_ + 1) } []
  | done : x.kd = 4 → OneR l x s { s with st := 1 } []
  | fail : x.kd ≠ 0 → x.kd ≠ 1 → x.kd ≠ 2 → x.kd ≠ 3 → x.kd ≠ 4 → OneR l x s { s with st := 2 } []
end
/-- Bytes that are new. -/
structure NewB (m m' : Mem) (v : Value) (o : List UInt8) : Prop where
  sl : SlR m' 1 v (o.map byteV) o.length
  bl : ∀ b, blk v = some b → m.next ≤ b ∧ b < m'.next
theorem NewB.nil (m m' : Mem) : NewB m m' (.slice none 0 0) [] := ⟨⟨rfl, .inl ⟨rfl, .inl rfl⟩⟩, fun b hb => by cases hb⟩
theorem PlayV.store {w0 : World} {fr : Fr} {R : Value → Mem → Prop} {V : List Nat} {m : Mem} {ip : Nat} {sv : Value} {l : List DV} {s : PlS} (h : PlayV V m ip sv l s) (a lf st : Int) (j : Nat) (v : Value) {p x : Operand}
    (hp : ev fr p = .pointer (some ⟨ip, j, none⟩)) (hv : cellsV (ev fr x) = [v]) (hc : putAt (plC sv s) j [v] = plC sv { s with at_ := a, left := lf, st := st }) (hj : j + 1 ≤ 8) (ho : oneC v = true)
    (hR : ∀ M, PlayV V M ip sv l { s with at_ := a, left := lf, st := st } → Keeps (fun i => i ≠ ip) m M → R undef M) : SK Tryz.prog w0 (.e (.st 1 p x)) fr m R := by
  have k : Keeps (fun i => i ≠ ip) m (m.set ip (.own (plC sv { s with at_ := a, left := lf, st := st }) 105)) := (Keeps.refl _ _).set (fun _ hn => hn rfl) _
  refine SK_stm (i := ip) (o := j) (vs := [v]) (cs := plC sv s) (e := 105) (M := m.set ip (.own (plC sv { s with at_ := a, left := lf, st := st }) 105)) hp h.g hv (by simp [plC]; omega) rfl (by simp [ho]) (by rw [hc]) (hR _ (h.upd k a lf st (by rw [Mem.set_same])) k)
theorem PlayV.setF {V : List Nat} {m M : Mem} {ip : Nat} {sv : Value} {l : List DV} {s : PlS} {f : Int → Int} (h : PlayV V m ip sv l s) (hf : MapI M s.im f) (hn : M.next = m.next) (ho : ∀ i, i ≠ s.im → M.get i = m.get i) : PlayV V M ip sv l { s with f := f } := by
  have hnd := h.nd
  simp only [ownP, List.nodup_cons, List.mem_cons, List.mem_append, not_or] at hnd
  have kX : Keeps (fun i => i ∉ ownP ip s ++ V) m M := ⟨by omega, fun i _ hi => ho i (fun e => hi (by rw [e]; simp [ownP]))⟩
  refine ⟨(ho ip hnd.1.1).trans h.g, h.ds.keep kX, hf, ?_, ?_, h.nd, fun i hi => by rw [hn]; exact h.lt i hi, h.pt.keeps (X := fun i => i ≠ s.im) ⟨by omega, fun i _ hi => ho i hi⟩ (fun i hi e => by have := h.lo s.im (by simp [ownP]); omega), h.lo, h.dj⟩
  · refine h.ot.keep (by omega) fun b hb => ho b fun e => ?_
    subst e
    exact hnd.2.1.1 (by simp [hb])
  · intro w hw
    have hw' : s.wat = some w := hw
    rw [hw'] at hnd
    refine (h.wt w hw).keep kX (ho _ fun e => ?_) (ho _ fun e => ?_)
    · exact hnd.2.1.2 (by rw [← e]; simp)
    · exact hnd.2.1.2 (by rw [← e]; simp)
theorem c_one {w0 : World} {V : List Nat} {m : Mem} {ip : Nat} {sv : Value} {l : List DV} {s : PlS} {x : DV} {G : List (List UInt8) → Prop} {P : List (List UInt8) → List (Tab × List Bool) → Prop} {Q : Value → Mem → Prop} (h : PlayV V m ip sv l s) (hl : l.length ≤ 1000000) (hw : s.wat = none) (hx : x ∈ l) (hal : x.1.arms.length ≤ 1000000) (htl : x.1.tx.length ≤ 1000000)
    (hOf : x.1.kd = 1 → OfC w0 (pats x.1) (G (pats x.1)) (P (pats x.1)))
    (hq : ∀ m' s' o v, OneR G P l x.1 s s' o → PlayV V m' ip sv l s' → Keeps (fun i => i ∉ ownP ip s) m m' → NewB m m' v o → (∀ i ∈ ownP ip s', i ∈ ownP ip s ∨ m.next ≤ i) → Q v m') : AbC Tryz.prog w0 63 [.pointer (some ⟨ip, 0, none⟩), .agg ⟨vC x⟩] m Q := by
  refine AbC_fn ok63 (by simp) ?_
  have hA := h.ds.ar x hx
  have hone := hA.sl.one
  obtain ⟨⟨lb, kd, tx, arms, n, to, pl⟩, av⟩ := x
  have e : vC (⟨lb, kd, tx, arms, n, to, pl⟩, av) = [.string ⟨⟨lb⟩⟩, .int .i64 kd, .string ⟨⟨tx⟩⟩, av, .int .i64 n, .string ⟨⟨to⟩⟩, .int .i64 pl] := rfl
  rw [e]
  simp only at hal htl hOf hq hA hone
  have hipo := h.ipo
  obtain ⟨M, hM⟩ : ∃ M, m.push (.own [.string ⟨⟨lb⟩⟩, .int .i64 kd, .string ⟨⟨tx⟩⟩, av, .int .i64 n, .string ⟨⟨to⟩⟩, .int .i64 pl] 29) = M := ⟨_, rfl⟩
  have oM : Old m M := by subst hM; exact (Old.refl m).push _
  have gM : M.get m.next = .own [.string ⟨⟨lb⟩⟩, .int .i64 kd, .string ⟨⟨tx⟩⟩, av, .int .i64 n, .string ⟨⟨to⟩⟩, .int .i64 pl] 29 := by subst hM; rw [Mem.push_same]
  have nM : m.next < M.next := by subst hM; simp
  have hP := h.old oM
  have gp : M.get ip = .own [sv, .int .i64 s.at_, .map (some s.im), watP s.wat, .int .i64 s.left, .int .i64 0, .int .i64 s.st, slV s.ot s.tr.length 1] 105 := hP.g
  simp -implicitDefEqProofs (disch := first | assumption | (simp only [wnA]; done) | (simp only [wnA]; omega) | omega | fail) [rc63, ro63, wkA, retV, stabOk, dC, ev, fillD, pickCells, putAt, bnd, slD, List.getElem?_cons_zero, List.getElem?_cons_succ, dR.eq_20, Mem.cell, Mem.row, wmA, hone.2, hM, gM]
  have kM0 : ∀ M', Keeps (fun i => i ≠ ip) M M' → Keeps (fun i => i ∉ ownP ip s) m M' := fun M' k => (oM.keeps).trans (k.mono fun i _ hi e => hi (by rw [e]; simp [ownP]))
  by_cases h0 : kd = 0
  · subst h0
    simp -implicitDefEqProofs (disch := first | assumption | (simp only [wnA]; done) | (simp only [wnA]; omega) | omega | fail) [wkA, retV, stabOk, dC, ev, fillD, pickCells, putAt, bnd, slD, List.getElem?_cons_zero, List.getElem?_cons_succ, dR.eq_20, Mem.cell, Mem.row, wmA, gp]
    refine hP.store (IntKind.i64.wrap (s.at_ + 1)) s.left s.st 1 (.int .i64 (IntKind.i64.wrap (s.at_ + 1))) (by simp [wkA, retV, stabOk, dC, ev, fillD, pickCells, putAt, bnd, slD, List.getElem?_cons_zero, List.getElem?_cons_succ, dR.eq_20]) (by simp [wkA, retV, stabOk, dC, ev, fillD, pickCells, putAt, bnd, slD, List.getElem?_cons_zero, List.getElem?_cons_succ, dR.eq_20]) rfl (by omega) rfl fun M2 hP2 k2 => ?_
    have g2 := (k2.2 m.next nM (fun e => by have := h.lt ip hipo; omega)).trans gM
    simp -implicitDefEqProofs (disch := first | assumption | (simp only [wnA]; done) | (simp only [wnA]; omega) | omega | fail) [wkA, retV, stabOk, dC, ev, fillD, pickCells, putAt, bnd, slD, List.getElem?_cons_zero, List.getElem?_cons_succ, dR.eq_20, Mem.cell, Mem.row, wmA, g2]
    rw [SK_s2b (s := ⟨⟨tx⟩⟩) (by simp [wkA, retV, stabOk, dC, ev, fillD, pickCells, putAt, bnd, slD, List.getElem?_cons_zero, List.getElem?_cons_succ, dR.eq_20]) (by simp [ByteArray.size]; omega)]
    simp -implicitDefEqProofs (disch := first | assumption | (simp only [wnA]; done) | (simp only [wnA]; omega) | omega | fail) [wkA, retV, stabOk, dC, ev, fillD, pickCells, putAt, bnd, slD, List.getElem?_cons_zero, List.getElem?_cons_succ, dR.eq_20, Mem.cell, Mem.row, wmA]
    have o3 : Old M2 (M2.push (.own (tx.map byteV) 5)) := (Old.refl M2).push _
    have := hq (M2.push (.own (tx.map byteV) 5)) _ tx (.slice (some ⟨M2.next, 0, none⟩) tx.length 1) (.send rfl) (hP2.old o3) ((kM0 _ k2).trans o3.keeps) ⟨⟨by simp, .inr ⟨M2.next, 0, tx.map byteV, rfl, by rw [Mem.push_same]; rfl, by simp, by rw [List.drop_zero, List.take_of_length_le (by simp)]⟩⟩, fun b hb => by cases hb; exact ⟨Nat.le_trans oM.1 k2.1, by simp⟩⟩ (fun i hi => .inl hi)
    simpa [ByteArray.size] using this
  · simp -implicitDefEqProofs (disch := first | assumption | (simp only [wnA]; done) | (simp only [wnA]; omega) | omega | fail) [wkA, retV, stabOk, dC, ev, fillD, pickCells, putAt, bnd, slD, List.getElem?_cons_zero, List.getElem?_cons_succ, dR.eq_20, Mem.cell, Mem.row, wmA, beqF h0]
    by_cases h1 : kd = 1
    · subst h1
      have hAM := hA.keep (oM.keeps)
      have hsl := hAM.sl.slen
      simp -implicitDefEqProofs (disch := first | assumption | (simp only [wnA]; done) | (simp only [wnA]; omega) | omega | fail) [wkA, retV, stabOk, dC, ev, fillD, pickCells, putAt, bnd, slD, List.getElem?_cons_zero, List.getElem?_cons_succ, dR.eq_20, Mem.cell, Mem.row, wmA, gM, hsl]
      refine w_pso hAM.sl (fun b hb => (hAM.bl b hb).1) hal (by simp) (by simp) (by simp) (by simp) fun fr' m1 ob o1 so e5 hf => ?_
      have e0 := (hf 0 (by simp)).trans (by simp [frA_at] : _ = Value.pointer (some ⟨ip, 0, none⟩))
      have e3 := (hf 3 (by simp)).trans (by simp : _ = Value.pointer (some ⟨m.next, 0, none⟩))
      have e4 := (hf 4 (by simp)).trans (by simp : _ = Value.slice none 0 0)
      have hP1 := hP.old o1
      simp -implicitDefEqProofs (disch := first | assumption | (simp only [wnA]; done) | (simp only [wnA]; omega) | omega | fail) [rc63_2, wkA, retV, stabOk, dC, ev, fillD, pickCells, putAt, bnd, slD, List.getElem?_cons_zero, List.getElem?_cons_succ, dR.eq_20, Mem.cell, Mem.row, wmA, e0, e5]
      have em : (arms.map Arm.pat).map (fun p => Value.string ⟨⟨p⟩⟩) = arms.map patV := by rw [List.map_map]; rfl
      have so' : SlO m1 9 1 ob ((arms.map Arm.pat).map fun p => Value.string ⟨⟨p⟩⟩) (arms.map Arm.pat).length := by rw [em, List.length_map]; exact so
      have hlp : arms.length = (arms.map Arm.pat).length := by rw [List.length_map]
      rw [hlp]
      have hmx : (if n > 1 then n else 1) = max 1 n := by split <;> omega
      refine hOf rfl m1 ob _ hP1.pt so' (fun m2 w o2 hwl hPw hov hWV n1 n2 => ?_) (fun hG m2 e o2 hE => ?_)
      · have g2 : m2.get ip = .own (plC sv s) 105 := (hP1.old o2).g
        have ho12 := oM.trans (o1.trans o2)
        have gs2 := ((o1.trans o2).2 _ nM).trans gM
        obtain ⟨M3, hM3⟩ : ∃ M3, m2.set ip (.own (plC sv { s with wat := some w }) 105) = M3 := ⟨_, rfl⟩
        have hP3 := hP1.setW hw o2 hWV n1 n2 hM3.symm
        have k3 : Keeps (fun i => i ≠ ip) m2 M3 := by subst hM3; exact (Keeps.refl _ _).set (fun _ hn => hn rfl) _
        have hip := h.lt ip hipo
        have gs3 := (k3.2 m.next (Nat.lt_of_lt_of_le nM (o1.trans o2).1) (by omega)).trans gs2
        simp -implicitDefEqProofs (disch := first | assumption | (simp only [wnA]; done) | (simp only [wnA]; omega) | omega | fail) [wkA, retV, stabOk, dC, ev, fillD, pickCells, putAt, bnd, slD, List.getElem?_cons_zero, List.getElem?_cons_succ, dR.eq_20, Mem.cell, Mem.row, wmA, e0]
        refine SK_stm (i := ip) (o := 3) (vs := [.pointer (some ⟨w.iw, 0, none⟩)]) (cs := plC sv s) (e := 105) (M := M3) (by simp [wkA, retV, stabOk, dC, ev, fillD, pickCells, putAt, bnd, slD, List.getElem?_cons_zero, List.getElem?_cons_succ, dR.eq_20, e0]) g2 (by simp [wkA, retV, stabOk, dC, ev, fillD, pickCells, putAt, bnd, slD, List.getElem?_cons_zero, List.getElem?_cons_succ, dR.eq_20]) (by simp [plC]) rfl rfl hM3 ?_
        clear hM3
        simp -implicitDefEqProofs (disch := first | assumption | (simp only [wnA]; done) | (simp only [wnA]; omega) | omega | fail) [wkA, retV, stabOk, dC, ev, fillD, pickCells, putAt, bnd, slD, List.getElem?_cons_zero, List.getElem?_cons_succ, dR.eq_20, Mem.cell, Mem.row, wmA, e0, e3, gs3]
        refine hP3.store s.at_ (max 1 n) s.st 4 (.int .i64 (max 1 n)) (by simp [wkA, retV, stabOk, dC, ev, fillD, pickCells, putAt, bnd, slD, List.getElem?_cons_zero, List.getElem?_cons_succ, dR.eq_20, e0]) (by simp [wkA, retV, stabOk, dC, ev, fillD, pickCells, putAt, bnd, slD, List.getElem?_cons_zero, List.getElem?_cons_succ, dR.eq_20, hmx]) rfl (by omega) rfl fun M4 hP4 k4 => ?_
        simp -implicitDefEqProofs (disch := first | assumption | (simp only [wnA]; done) | (simp only [wnA]; omega) | omega | fail) [rc63_3, wkA, retV, stabOk, dC, ev, fillD, pickCells, putAt, bnd, slD, List.getElem?_cons_zero, List.getElem?_cons_succ, dR.eq_20, Mem.cell, Mem.row, wmA]
        refine hq M4 _ [] _ (.exp w rfl (by rw [hwl]; simp [pats]) hPw hov) hP4 ?_ (NewB.nil _ _) fun i hi => ?_
        · exact (ho12.keeps).trans ((k3.trans k4).mono fun i _ hi e => hi (by rw [e]; simp [ownP]))
        · simp only [ownP, hw, List.mem_cons, List.mem_append, List.not_mem_nil, or_false] at hi ⊢
          have := (oM.trans o1).1
          rcases hi with hi | hi | hi | hi | hi
          · exact .inl (.inl hi)
          · exact .inl (.inr (.inl hi))
          · exact .inl (.inr (.inr hi))
          · right; omega
          · right; omega
      · obtain ⟨t, u, rfl, -⟩ := hE
        have hP2 := hP1.old o2
        have gs2 := ((o1.trans o2).2 _ nM).trans gM
        have hip := h.lt ip hipo
        simp -implicitDefEqProofs (disch := first | assumption | (simp only [wnA]; done) | (simp only [wnA]; omega) | omega | fail) [wkA, retV, stabOk, dC, ev, fillD, pickCells, putAt, bnd, slD, List.getElem?_cons_zero, List.getElem?_cons_succ, dR.eq_20, Mem.cell, Mem.row, wmA, e0]
        refine hP2.store s.at_ s.left s.st 3 (.pointer none) (by simp [wkA, retV, stabOk, dC, ev, fillD, pickCells, putAt, bnd, slD, List.getElem?_cons_zero, List.getElem?_cons_succ, dR.eq_20, e0]) (by simp [wkA, retV, stabOk, dC, ev, fillD, pickCells, putAt, bnd, slD, List.getElem?_cons_zero, List.getElem?_cons_succ, dR.eq_20]) (by simp [plC, putAt, hw, watP]) (by omega) rfl fun M3 hP3 k3 => ?_
        have gs3 := (k3.2 m.next (Nat.lt_of_lt_of_le nM (o1.trans o2).1) (by omega)).trans gs2
        simp -implicitDefEqProofs (disch := first | assumption | (simp only [wnA]; done) | (simp only [wnA]; omega) | omega | fail) [wkA, retV, stabOk, dC, ev, fillD, pickCells, putAt, bnd, slD, List.getElem?_cons_zero, List.getElem?_cons_succ, dR.eq_20, Mem.cell, Mem.row, wmA, e0, e3, gs3]
        refine hP3.store s.at_ (max 1 n) s.st 4 (.int .i64 (max 1 n)) (by simp [wkA, retV, stabOk, dC, ev, fillD, pickCells, putAt, bnd, slD, List.getElem?_cons_zero, List.getElem?_cons_succ, dR.eq_20, e0]) (by simp [wkA, retV, stabOk, dC, ev, fillD, pickCells, putAt, bnd, slD, List.getElem?_cons_zero, List.getElem?_cons_succ, dR.eq_20, hmx]) rfl (by omega) rfl fun M4 hP4 k4 => ?_
        simp -implicitDefEqProofs (disch := first | assumption | (simp only [wnA]; done) | (simp only [wnA]; omega) | omega | fail) [rc63_3, wkA, retV, stabOk, dC, ev, fillD, pickCells, putAt, bnd, slD, List.getElem?_cons_zero, List.getElem?_cons_succ, dR.eq_20, Mem.cell, Mem.row, wmA]
        refine hq M4 _ [] _ (.expN rfl hG) hP4 ?_ (NewB.nil _ _) fun i hi => .inl hi
        exact ((oM.trans (o1.trans o2)).keeps).trans ((k3.trans k4).mono fun i _ hi e => hi (by rw [e]; simp [ownP]))
    · simp -implicitDefEqProofs (disch := first | assumption | (simp only [wnA]; done) | (simp only [wnA]; omega) | omega | fail) [wkA, retV, stabOk, dC, ev, fillD, pickCells, putAt, bnd, slD, List.getElem?_cons_zero, List.getElem?_cons_succ, dR.eq_20, Mem.cell, Mem.row, wmA, beqF h1]
      by_cases h2 : kd = 2
      · subst h2
        simp -implicitDefEqProofs (disch := first | assumption | (simp only [wnA]; done) | (simp only [wnA]; omega) | omega | fail) [wkA, retV, stabOk, dC, ev, fillD, pickCells, putAt, bnd, slD, List.getElem?_cons_zero, List.getElem?_cons_succ, dR.eq_20, Mem.cell, Mem.row, wmA, gM]
        refine c_jump hP hl fun M2 k2 hP2 u => ?_
        simp -implicitDefEqProofs (disch := first | assumption | (simp only [wnA]; done) | (simp only [wnA]; omega) | omega | fail) [rc63_3, wkA, retV, stabOk, dC, ev, fillD, pickCells, putAt, bnd, slD, List.getElem?_cons_zero, List.getElem?_cons_succ, dR.eq_20, Mem.cell, Mem.row, wmA]
        exact hq M2 _ [] _ (.goto rfl) hP2 (kM0 _ k2) (NewB.nil _ _) fun i hi => .inl hi
      · simp -implicitDefEqProofs (disch := first | assumption | (simp only [wnA]; done) | (simp only [wnA]; omega) | omega | fail) [wkA, retV, stabOk, dC, ev, fillD, pickCells, putAt, bnd, slD, List.getElem?_cons_zero, List.getElem?_cons_succ, dR.eq_20, Mem.cell, Mem.row, wmA, beqF h2]
        by_cases h3 : kd = 3
        · subst h3
          simp -implicitDefEqProofs (disch := first | assumption | (simp only [wnA]; done) | (simp only [wnA]; omega) | omega | fail) [wkA, retV, stabOk, dC, ev, fillD, pickCells, putAt, bnd, slD, List.getElem?_cons_zero, List.getElem?_cons_succ, dR.eq_20, Mem.cell, Mem.row, wmA, gp]
          rw [hP.mp.lku (k := s.at_) (by simp [wkA, retV, stabOk, dC, ev, fillD, pickCells, putAt, bnd, slD, List.getElem?_cons_zero, List.getElem?_cons_succ, dR.eq_20]) (by simp [wkA, retV, stabOk, dC, ev, fillD, pickCells, putAt, bnd, slD, List.getElem?_cons_zero, List.getElem?_cons_succ, dR.eq_20])]
          simp -implicitDefEqProofs (disch := first | assumption | (simp only [wnA]; done) | (simp only [wnA]; omega) | omega | fail) [wkA, retV, stabOk, dC, ev, fillD, pickCells, putAt, bnd, slD, List.getElem?_cons_zero, List.getElem?_cons_succ, dR.eq_20, Mem.cell, Mem.row, wmA]
          refine hP.mp.mup (k := s.at_) (v := IntKind.i64.wrap (s.f s.at_ + 1)) (by simp [wkA, retV, stabOk, dC, ev, fillD, pickCells, putAt, bnd, slD, List.getElem?_cons_zero, List.getElem?_cons_succ, dR.eq_20]) (by simp [wkA, retV, stabOk, dC, ev, fillD, pickCells, putAt, bnd, slD, List.getElem?_cons_zero, List.getElem?_cons_succ, dR.eq_20]) (by simp [wkA, retV, stabOk, dC, ev, fillD, pickCells, putAt, bnd, slD, List.getElem?_cons_zero, List.getElem?_cons_succ, dR.eq_20]) fun M2 hf2 n2 o2 => ?_
          have hP2 := hP.setF hf2 n2 o2
          have k2 : Keeps (fun i => i ≠ s.im) M M2 := ⟨by omega, fun i _ hi => o2 i hi⟩
          have hip := h.lt ip hipo
          have him := h.lt s.im (by simp [ownP])
          have gs2 := (k2.2 m.next nM (by omega)).trans gM
          have gp2 : M2.get ip = .own [sv, .int .i64 s.at_, .map (some s.im), watP s.wat, .int .i64 s.left, .int .i64 0, .int .i64 s.st, slV s.ot s.tr.length 1] 105 := hP2.g
          have hlk : ∀ {ts : Fr} {x i : Operand}, ev ts x = .map (some s.im) → ev ts i = .int .i64 s.at_ → dR ts M2 (.lku 0 false (.int .i64 0) x i) = some (.int .i64 (IntKind.i64.wrap (s.f s.at_ + 1))) := fun hx hi => by have := hP2.mp.lku (k := s.at_) hx hi; simpa using this
          have kF : Keeps (fun i => i ∉ ownP ip s) M M2 := k2.mono fun i _ hi e => hi (by rw [e]; simp [ownP])
          have kM2 : Keeps (fun i => i ∉ ownP ip s) m M2 := (oM.keeps).trans kF
          simp -implicitDefEqProofs (disch := first | assumption | (simp only [wnA]; done) | (simp only [wnA]; omega) | omega | fail) [wkA, retV, stabOk, dC, ev, fillD, pickCells, putAt, bnd, slD, List.getElem?_cons_zero, List.getElem?_cons_succ, dR.eq_20, Mem.cell, Mem.row, wmA, gp2]
          rw [hlk (by simp [wkA, retV, stabOk, dC, ev, fillD, pickCells, putAt, bnd, slD, List.getElem?_cons_zero, List.getElem?_cons_succ, dR.eq_20]) (by simp [wkA, retV, stabOk, dC, ev, fillD, pickCells, putAt, bnd, slD, List.getElem?_cons_zero, List.getElem?_cons_succ, dR.eq_20])]
          simp -implicitDefEqProofs (disch := first | assumption | (simp only [wnA]; done) | (simp only [wnA]; omega) | omega | fail) [wkA, retV, stabOk, dC, ev, fillD, pickCells, putAt, bnd, slD, List.getElem?_cons_zero, List.getElem?_cons_succ, dR.eq_20, Mem.cell, Mem.row, wmA, gs2]
          by_cases hle : IntKind.i64.wrap (s.f s.at_ + 1) ≤ n
          · simp -implicitDefEqProofs (disch := first | assumption | (simp only [wnA]; done) | (simp only [wnA]; omega) | omega | fail) [wkA, retV, stabOk, dC, ev, fillD, pickCells, putAt, bnd, slD, List.getElem?_cons_zero, List.getElem?_cons_succ, dR.eq_20, Mem.cell, Mem.row, wmA, hle, gs2]
            refine c_jump hP2 hl fun M3 k3 hP3 u => ?_
            simp -implicitDefEqProofs (disch := first | assumption | (simp only [wnA]; done) | (simp only [wnA]; omega) | omega | fail) [rc63_3, wkA, retV, stabOk, dC, ev, fillD, pickCells, putAt, bnd, slD, List.getElem?_cons_zero, List.getElem?_cons_succ, dR.eq_20, Mem.cell, Mem.row, wmA]
            refine hq M3 _ [] _ (.tryA rfl hle) hP3 (kM2.trans (k3.mono fun i _ hi e => hi (by rw [e]; simp [ownP]))) (NewB.nil _ _) fun i hi => .inl hi
          · simp -implicitDefEqProofs (disch := first | assumption | (simp only [wnA]; done) | (simp only [wnA]; omega) | omega | fail) [wkA, retV, stabOk, dC, ev, fillD, pickCells, putAt, bnd, slD, List.getElem?_cons_zero, List.getElem?_cons_succ, dR.eq_20, Mem.cell, Mem.row, wmA, hle, gp2]
            refine hP2.mp.mup (k := s.at_) (v := 0) (by simp [wkA, retV, stabOk, dC, ev, fillD, pickCells, putAt, bnd, slD, List.getElem?_cons_zero, List.getElem?_cons_succ, dR.eq_20]) (by simp [wkA, retV, stabOk, dC, ev, fillD, pickCells, putAt, bnd, slD, List.getElem?_cons_zero, List.getElem?_cons_succ, dR.eq_20]) (by simp [wkA, retV, stabOk, dC, ev, fillD, pickCells, putAt, bnd, slD, List.getElem?_cons_zero, List.getElem?_cons_succ, dR.eq_20]) fun M3 hf3 n3 o3 => ?_
            have ef : (fun j => if j = s.at_ then 0 else if j = s.at_ then IntKind.i64.wrap (s.f s.at_ + 1) else s.f j) = fun j => if j = s.at_ then 0 else s.f j := by
              funext j; by_cases hj : j = s.at_ <;> simp [hj]
            rw [ef] at hf3
            have hP3 := hP2.setF hf3 n3 o3
            have k3 : Keeps (fun i => i ∉ ownP ip s) M2 M3 := ⟨by omega, fun i _ hi => o3 i (fun e => hi (by rw [e]; simp [ownP]))⟩
            have gp3 : M3.get ip = .own [sv, .int .i64 s.at_, .map (some s.im), watP s.wat, .int .i64 s.left, .int .i64 0, .int .i64 s.st, slV s.ot s.tr.length 1] 105 := hP3.g
            simp -implicitDefEqProofs (disch := first | assumption | (simp only [wnA]; done) | (simp only [wnA]; omega) | omega | fail) [wkA, retV, stabOk, dC, ev, fillD, pickCells, putAt, bnd, slD, List.getElem?_cons_zero, List.getElem?_cons_succ, dR.eq_20, Mem.cell, Mem.row, wmA, gp3]
            refine hP3.store (IntKind.i64.wrap (s.at_ + 1)) s.left s.st 1 (.int .i64 (IntKind.i64.wrap (s.at_ + 1))) (by simp [wkA, retV, stabOk, dC, ev, fillD, pickCells, putAt, bnd, slD, List.getElem?_cons_zero, List.getElem?_cons_succ, dR.eq_20]) (by simp [wkA, retV, stabOk, dC, ev, fillD, pickCells, putAt, bnd, slD, List.getElem?_cons_zero, List.getElem?_cons_succ, dR.eq_20]) rfl (by omega) rfl fun M4 hP4 k4 => ?_
            simp -implicitDefEqProofs (disch := first | assumption | (simp only [wnA]; done) | (simp only [wnA]; omega) | omega | fail) [rc63_3, wkA, retV, stabOk, dC, ev, fillD, pickCells, putAt, bnd, slD, List.getElem?_cons_zero, List.getElem?_cons_succ, dR.eq_20, Mem.cell, Mem.row, wmA]
            refine hq M4 _ [] _ (.tryB rfl hle) hP4 ((kM2.trans k3).trans (k4.mono fun i _ hi e => hi (by rw [e]; simp [ownP]))) (NewB.nil _ _) fun i hi => .inl hi
        · simp -implicitDefEqProofs (disch := first | assumption | (simp only [wnA]; done) | (simp only [wnA]; omega) | omega | fail) [wkA, retV, stabOk, dC, ev, fillD, pickCells, putAt, bnd, slD, List.getElem?_cons_zero, List.getElem?_cons_succ, dR.eq_20, Mem.cell, Mem.row, wmA, beqF h3]
          by_cases h4 : kd = 4
          · subst h4
            simp -implicitDefEqProofs (disch := first | assumption | (simp only [wnA]; done) | (simp only [wnA]; omega) | omega | fail) [wkA, retV, stabOk, dC, ev, fillD, pickCells, putAt, bnd, slD, List.getElem?_cons_zero, List.getElem?_cons_succ, dR.eq_20, Mem.cell, Mem.row, wmA]
            refine hP.store s.at_ s.left 1 6 (.int .i64 1) (by simp [wkA, retV, stabOk, dC, ev, fillD, pickCells, putAt, bnd, slD, List.getElem?_cons_zero, List.getElem?_cons_succ, dR.eq_20]) (by simp [wkA, retV, stabOk, dC, ev, fillD, pickCells, putAt, bnd, slD, List.getElem?_cons_zero, List.getElem?_cons_succ, dR.eq_20]) rfl (by omega) rfl fun M2 hP2 k2 => ?_
            simp -implicitDefEqProofs (disch := first | assumption | (simp only [wnA]; done) | (simp only [wnA]; omega) | omega | fail) [rc63_3, wkA, retV, stabOk, dC, ev, fillD, pickCells, putAt, bnd, slD, List.getElem?_cons_zero, List.getElem?_cons_succ, dR.eq_20, Mem.cell, Mem.row, wmA]
            exact hq M2 _ [] _ (.done rfl) hP2 (kM0 _ k2) (NewB.nil _ _) fun i hi => .inl hi
          · simp -implicitDefEqProofs (disch := first | assumption | (simp only [wnA]; done) | (simp only [wnA]; omega) | omega | fail) [wkA, retV, stabOk, dC, ev, fillD, pickCells, putAt, bnd, slD, List.getElem?_cons_zero, List.getElem?_cons_succ, dR.eq_20, Mem.cell, Mem.row, wmA, beqF h4]
            refine hP.store s.at_ s.left 2 6 (.int .i64 2) (by simp [wkA, retV, stabOk, dC, ev, fillD, pickCells, putAt, bnd, slD, List.getElem?_cons_zero, List.getElem?_cons_succ, dR.eq_20]) (by simp [wkA, retV, stabOk, dC, ev, fillD, pickCells, putAt, bnd, slD, List.getElem?_cons_zero, List.getElem?_cons_succ, dR.eq_20]) rfl (by omega) rfl fun M2 hP2 k2 => ?_
            simp -implicitDefEqProofs (disch := first | assumption | (simp only [wnA]; done) | (simp only [wnA]; omega) | omega | fail) [rc63_3, wkA, retV, stabOk, dC, ev, fillD, pickCells, putAt, bnd, slD, List.getElem?_cons_zero, List.getElem?_cons_succ, dR.eq_20, Mem.cell, Mem.row, wmA]
            exact hq M2 _ [] _ (.fail h0 h1 h2 h3 h4) hP2 (kM0 _ k2) (NewB.nil _ _) fun i hi => .inl hi
end Go.Proofs.YtjlicambfepfiaaGreatDoor.Ab

set_option linter.unusedVariables false
set_option linter.unusedSimpArgs false
namespace Go.Proofs.YtjlicambfepfiaaGreatDoor.Ab
open Go Go.RowKit
set_option maxHeartbeats 4000000
set_option maxRecDepth 100000
section
variable (G : List (List UInt8) → Prop) (P : List (List UInt8) → List (Tab × List Bool) → Prop)
/-- Steps are done, from the n-th on. -/
inductive RunR (l : List DV) : Nat → PlS → List UInt8 → PlS → List UInt8 → Prop
  | stop (n : Nat) (s : PlS) (out : List UInt8) : (s.st ≠ 0 ∨ s.wat ≠ none) → RunR l n s out s out
  | ill (n : Nat) (s : PlS) (out : List UInt8) : s.st = 0 → s.wat = none → (n = 256 ∨ (l.length : Int) ≤ s.at_) → RunR l n s out { s with st := 2 } out
  | step (n : Nat) (s s1 s2 : PlS) (x : DV) (o out out2 : List UInt8) : s.st = 0 → s.wat = none → n < 256 → 0 ≤ s.at_ → l[s.at_.toNat]? = some x → OneR G P l x.1 s s1 o → RunR l (n + 1) s1 (out ++ o) s2 out2 → RunR l n s out s2 out2
end
/-- What a dialogue's steps are: not too large, and what is expected can be made. -/
structure StepsOk (w0 : World) (G : List (List UInt8) → Prop) (P : List (List UInt8) → List (Tab × List Bool) → Prop) (l : List DV) : Prop where
  len : l.length ≤ 1000
  sz : ∀ x ∈ l, x.1.arms.length ≤ 1000 ∧ x.1.tx.length ≤ 1000
  of : ∀ x ∈ l, x.1.kd = 1 → OfC w0 (pats x.1) (G (pats x.1)) (P (pats x.1))
/-- What holds of a state as long as steps are done. -/
structure SafeJ (G : List (List UInt8) → Prop) (P : List (List UInt8) → List (Tab × List Bool) → Prop) (l : List DV) (J : PlS → Prop) : Prop where
  pos : ∀ s, J s → 0 ≤ s.at_
  one : ∀ s x s' o, J s → s.st = 0 → s.wat = none → l[s.at_.toNat]? = some x → OneR G P l x.1 s s' o → J s'
theorem OneR.len {G : List (List UInt8) → Prop} {P : List (List UInt8) → List (Tab × List Bool) → Prop} {l : List DV} {x : DS} {s s' : PlS} {o : List UInt8} (h : OneR G P l x s s' o) : o = [] ∨ o = x.tx := by
  cases h <;> first | exact .inl rfl | exact .inr rfl
theorem c_run {w0 : World} {V : List Nat} {m : Mem} {ip : Nat} {sv : Value} {l : List DV} {s : PlS} {G : List (List UInt8) → Prop} {P : List (List UInt8) → List (Tab × List Bool) → Prop} {J : PlS → Prop} {Q : Value → Mem → Prop} (h : PlayV V m ip sv l s) (hS : StepsOk w0 G P l) (hJ : SafeJ G P l J) (hs : J s) (hV : ∀ i ∈ V, i < L0.n → False)
    (hq : ∀ m' s' out ob, RunR G P l 0 s [] s' out → PlayV V m' ip sv l s' → Keeps (fun i => i ∉ ownP ip s) m m' → SlO m' 5 1 ob (out.map byteV) out.length → (∀ i, ob = some i → m.next ≤ i) → (∀ i ∈ ownP ip s', i ∈ ownP ip s ∨ m.next ≤ i) → Q (slV ob out.length 1) m') :
    AbC Tryz.prog w0 42 [.pointer (some ⟨ip, 0, none⟩)] m Q := by
  refine AbC_fn ok42 (by simp) ?_
  simp -implicitDefEqProofs (disch := first | assumption | (simp only [wnA]; done) | (simp only [wnA]; omega) | omega | fail) [rc42, ro42, wkA, retV, stabOk, dC, ev, fillD, pickCells, putAt, bnd, slD, List.getElem?_cons_zero, List.getElem?_cons_succ, dR.eq_20, Mem.cell, Mem.row, wmA]
  have hll := hS.len
  refine LoopW_of (fun k ts m' => ∃ (n : Nat) (s1 : PlS) (out : List UInt8) (ob : Option Nat), n + k = 257 ∧ n ≤ 256 ∧ (∀ s2 out2, RunR G P l n s1 out s2 out2 → RunR G P l 0 s [] s2 out2) ∧ J s1 ∧ PlayV (ob.toList ++ V) m' ip sv l s1 ∧ Keeps (fun i => i ∉ ownP ip s) m m' ∧ SlO m' 5 1 ob (out.map byteV) out.length ∧ (∀ i, ob = some i → m.next ≤ i) ∧ (∀ i ∈ ownP ip s1, i ∈ ownP ip s ∨ m.next ≤ i) ∧ out.length ≤ n * 1000 ∧
    ts 0 = .pointer (some ⟨ip, 0, none⟩) ∧ ts 3 = slV ob out.length 1 ∧ ts 4 = .int .i64 (n : Nat)) 257 ?_ ?_
  · exact ⟨0, s, [], none, rfl, by omega, fun _ _ h => h, hs, h, Keeps.refl _ _, ⟨rfl, rfl⟩, (fun i hi => by cases hi), (fun i hi => .inl hi), by simp, by simp [frA_at], by simp; rfl, by simp⟩
  · rintro k ts m1 K ⟨n, s1, out, ob, hk, hn, hR, hJs, hP, kk, so, hob, how, hol, t0, t3, t4⟩ hK
    have g1 : m1.get ip = .own [sv, .int .i64 s1.at_, .map (some s1.im), watP s1.wat, .int .i64 s1.left, .int .i64 0, .int .i64 s1.st, slV s1.ot s1.tr.length 1] 105 := hP.g
    have back : ∀ (s2 : PlS) (M : Mem), PlayV (ob.toList ++ V) M ip sv l s2 → PlayV V M ip sv l s2 := fun s2 M hM => hM.other (Keeps.refl _ _) (fun i hi => .inl (List.mem_append_right _ hi)) (fun i hi => hM.lt i (List.mem_append_right _ (List.mem_append_right _ hi))) fun i hi hlo => by
      rcases List.mem_append.1 hi with hi | hi
      · have : ob = some i := by simpa using hi
        have h1 := hob i this; have h2 := h.pt.1; omega
      · exact hV i hi hlo
    simp -implicitDefEqProofs (disch := first | assumption | (simp only [wnA]; done) | (simp only [wnA]; omega) | omega | fail) [rc42_1, wkA, retV, stabOk, dC, ev, fillD, pickCells, putAt, bnd, slD, List.getElem?_cons_zero, List.getElem?_cons_succ, dR.eq_20, Mem.cell, Mem.row, wmA, t0, g1]
    by_cases h0 : s1.st = 0
    · cases hw : s1.wat with
      | some w =>
        rw [hw] at g1
        simp -implicitDefEqProofs (disch := first | assumption | (simp only [wnA]; done) | (simp only [wnA]; omega) | omega | fail) [rc42_2, wkA, retV, stabOk, dC, ev, fillD, pickCells, putAt, bnd, slD, List.getElem?_cons_zero, List.getElem?_cons_succ, dR.eq_20, Mem.cell, Mem.row, wmA, h0, t0, g1, watP, t3]
        exact hq m1 s1 out ob (hR _ _ (.stop _ _ _ (.inr (by rw [hw]; simp)))) (back _ _ hP) kk so hob how
      | none =>
        rw [hw] at g1
        have hsl := hP.ds.sl.sl.slen
        have ill : (n = 256 ∨ (l.length : Int) ≤ s1.at_) → ∀ (M : Mem), PlayV (ob.toList ++ V) M ip sv l { s1 with st := 2 } → Keeps (fun i => i ≠ ip) m1 M → Q (slV ob out.length 1) M := fun hi M hM kM =>
          hq M _ out ob (hR _ _ (.ill _ _ _ h0 hw hi)) (back _ _ hM) (kk.trans (kM.mono fun i hi2 hni e => by
            have hip := h.lt ip h.ipo
            exact hni (by rw [e]; simp [ownP]))) (so.keep kM.1 fun b hb => kM.2 b (by subst hb; exact so.lt) (fun e => by have := hob b hb; have := h.lt ip h.ipo; omega)) hob how
        by_cases h256 : n = 256
        · subst h256
          simp -implicitDefEqProofs (disch := first | assumption | (simp only [wnA]; done) | (simp only [wnA]; omega) | omega | fail) [rc42_0, wkA, retV, stabOk, dC, ev, fillD, pickCells, putAt, bnd, slD, List.getElem?_cons_zero, List.getElem?_cons_succ, dR.eq_20, Mem.cell, Mem.row, wmA, h0, t0, g1, watP, t4]
          refine hP.store s1.at_ s1.left 2 6 (.int .i64 2) (by simp [wkA, retV, stabOk, dC, ev, fillD, pickCells, putAt, bnd, slD, List.getElem?_cons_zero, List.getElem?_cons_succ, dR.eq_20, t0]) (by simp [wkA, retV, stabOk, dC, ev, fillD, pickCells, putAt, bnd, slD, List.getElem?_cons_zero, List.getElem?_cons_succ, dR.eq_20]) rfl (by omega) rfl fun M2 hP2 k2 => ?_
          simp -implicitDefEqProofs (disch := first | assumption | (simp only [wnA]; done) | (simp only [wnA]; omega) | omega | fail) [rc42_2, wkA, retV, stabOk, dC, ev, fillD, pickCells, putAt, bnd, slD, List.getElem?_cons_zero, List.getElem?_cons_succ, dR.eq_20, Mem.cell, Mem.row, wmA, t3]
          exact ill (.inl rfl) M2 hP2 k2
        · have hn2 : ((n : Int) == 256) = false := beqF (by omega)
          by_cases hat : (l.length : Int) ≤ s1.at_
          · simp -implicitDefEqProofs (disch := first | assumption | (simp only [wnA]; done) | (simp only [wnA]; omega) | omega | fail) [rc42_0, wkA, retV, stabOk, dC, ev, fillD, pickCells, putAt, bnd, slD, List.getElem?_cons_zero, List.getElem?_cons_succ, dR.eq_20, Mem.cell, Mem.row, wmA, h0, t0, g1, watP, t4, hn2, hsl, hat]
            refine hP.store s1.at_ s1.left 2 6 (.int .i64 2) (by simp [wkA, retV, stabOk, dC, ev, fillD, pickCells, putAt, bnd, slD, List.getElem?_cons_zero, List.getElem?_cons_succ, dR.eq_20, t0]) (by simp [wkA, retV, stabOk, dC, ev, fillD, pickCells, putAt, bnd, slD, List.getElem?_cons_zero, List.getElem?_cons_succ, dR.eq_20]) rfl (by omega) rfl fun M2 hP2 k2 => ?_
            simp -implicitDefEqProofs (disch := first | assumption | (simp only [wnA]; done) | (simp only [wnA]; omega) | omega | fail) [rc42_2, wkA, retV, stabOk, dC, ev, fillD, pickCells, putAt, bnd, slD, List.getElem?_cons_zero, List.getElem?_cons_succ, dR.eq_20, Mem.cell, Mem.row, wmA, t3]
            exact ill (.inr hat) M2 hP2 k2
          · have hpos := hJ.pos _ hJs
            obtain ⟨j, hj⟩ : ∃ j : Nat, s1.at_ = (j : Int) := ⟨s1.at_.toNat, by omega⟩
            have hjl : j < l.length := by omega
            obtain ⟨x, hx⟩ : ∃ x, l[j] = x := ⟨_, rfl⟩
            have hxm : x ∈ l := by rw [← hx]; exact List.getElem_mem hjl
            have hxa : l[s1.at_.toNat]? = some x := by rw [hj, Int.toNat_natCast, List.getElem?_eq_getElem hjl, hx]
            obtain ⟨bi, bo, L, hvv, hL, hLl, hLt, -⟩ := hP.ds.sl.sl.at hjl
            rw [flat_at vC_len l (List.getElem?_eq_getElem hjl), hx] at hLt
            have hsx : sidx 7 sv (.int .i64 (j : Int)) = some (.pointer (some ⟨bi, bo + j * 7, none⟩)) := by rw [hvv]; exact sidx_at hjl
            have hle : bo + j * 7 + 7 ≤ L.length := by omega
            rw [hj] at g1
            have hat' : ¬ (l.length : Int) ≤ (j : Int) := by omega
            simp -implicitDefEqProofs (disch := first | assumption | (simp only [wnA]; done) | (simp only [wnA]; omega) | omega | fail) [rc42_0, wkA, retV, stabOk, dC, ev, fillD, pickCells, putAt, bnd, slD, List.getElem?_cons_zero, List.getElem?_cons_succ, dR.eq_20, Mem.cell, Mem.row, wmA, h0, t0, g1, watP, t3, t4, hn2, hsl, hat', hsx, hL, hLt, hle]
            refine c_one hP (by omega) hw hxm (by have := (hS.sz x hxm).1; omega) (by have := (hS.sz x hxm).2; omega) (hS.of x hxm) fun m2 s2 o v hO hP2 k2 hB how2 => ?_
            have k02 : Keeps (fun i => i ∉ ownP ip s) m m2 := ⟨Nat.le_trans kk.1 k2.1, fun i hi hni => by
              rw [k2.2 i (Nat.lt_of_lt_of_le hi kk.1) (fun hm => by rcases how i hm with h1 | h1; exact hni h1; omega)]
              exact kk.2 i hi hni⟩
            have hobV : ∀ b, ob = some b → b ∉ ownP ip s1 := fun b hb hm => hP.dj b hm (by simp [hb])
            have so2 : SlO m2 5 1 ob (out.map byteV) out.length := so.keep k2.1 fun b hb => k2.2 b (by subst hb; exact so.lt) (hobV b hb)
            have how' : ∀ i ∈ ownP ip s2, i ∈ ownP ip s ∨ m.next ≤ i := fun i hi => by
              rcases how2 i hi with h1 | h1
              · exact how i h1
              · right; have := kk.1; omega
            have hJ2 := hJ.one _ _ _ _ hJs h0 hw hxa hO
            have hR2 : ∀ s3 out3, RunR G P l (n + 1) s2 (out ++ o) s3 out3 → RunR G P l 0 s [] s3 out3 := fun s3 out3 hr => hR _ _ (.step n s1 s2 s3 x o out out3 h0 hw (by omega) hpos hxa hO hr)
            have hol2 : o.length ≤ 1000 := by
              rcases hO.len with rfl | rfl
              · simp
              · exact (hS.sz x hxm).2
            have hnw : IntKind.i64.wrap ((n : Int) + 1) = ((n + 1 : Nat) : Int) := by rw [w64 (by omega)]; omega
            have fin : ∀ (fr' : Fr) (M : Mem) (ob' : Option Nat), PlayV (ob'.toList ++ V) M ip sv l s2 → Keeps (fun i => i ∉ ownP ip s) m M → SlO M 5 1 ob' ((out ++ o).map byteV) (out ++ o).length → (∀ i, ob' = some i → m.next ≤ i) → fr' 0 = .pointer (some ⟨ip, 0, none⟩) → fr' 3 = slV ob' (out ++ o).length 1 → fr' 4 = .int .i64 ((n + 1 : Nat) : Int) → K fr' M := fun fr' M ob' hPM kM sM hobM e0 e3 e4 =>
              hK (k - 1) _ _ (by omega) ⟨n + 1, s2, out ++ o, ob', by omega, by omega, hR2, hJ2, hPM, kM, sM, hobM, how', by rw [List.length_append]; omega, e0, e3, e4⟩
            have hel := hB.sl.elems
            have hlv := hB.sl.lenV
            have hsm : out.length + o.length ≤ 257000 := by omega
            simp -implicitDefEqProofs (disch := first | assumption | (simp only [wnA]; done) | (simp only [wnA]; omega) | omega | fail) [wkA, retV, stabOk, dC, ev, fillD, pickCells, putAt, bnd, slD, List.getElem?_cons_zero, List.getElem?_cons_succ, dR.eq_20, Mem.cell, Mem.row, wmA]
            cases o with
            | nil =>
              refine SK_app0 (ob := ob) (n := out.length) (ys := []) (by simp [wkA, retV, stabOk, dC, ev, fillD, pickCells, putAt, bnd, slD, List.getElem?_cons_zero, List.getElem?_cons_succ, dR.eq_20, t3]) (by simpa [wkA, retV, stabOk, dC, ev, fillD, pickCells, putAt, bnd, slD, List.getElem?_cons_zero, List.getElem?_cons_succ, dR.eq_20] using hel) (by simpa [wkA, retV, stabOk, dC, ev, fillD, pickCells, putAt, bnd, slD, List.getElem?_cons_zero, List.getElem?_cons_succ, dR.eq_20] using hlv) ?_
              simp -implicitDefEqProofs (disch := first | assumption | (simp only [wnA]; done) | (simp only [wnA]; omega) | omega | fail) [wkA, retV, stabOk, dC, ev, fillD, pickCells, putAt, bnd, slD, List.getElem?_cons_zero, List.getElem?_cons_succ, dR.eq_20, Mem.cell, Mem.row, wmA, t4, hnw]
              exact fin _ m2 ob hP2 k02 (by rw [List.append_nil]; exact so2) hob (by simp [t0]) (by simp) (by simp)
            | cons o1 os =>
              refine SK_ap (ob := ob) (n := out.length) (k := (o1 :: os).length) (cs := out.map byteV) (ys := (o1 :: os).map byteV) so2 (by simp [wkA, retV, stabOk, dC, ev, fillD, pickCells, putAt, bnd, slD, List.getElem?_cons_zero, List.getElem?_cons_succ, dR.eq_20, t3]) (by simpa [wkA, retV, stabOk, dC, ev, fillD, pickCells, putAt, bnd, slD, List.getElem?_cons_zero, List.getElem?_cons_succ, dR.eq_20] using hel) (by simpa [wkA, retV, stabOk, dC, ev, fillD, pickCells, putAt, bnd, slD, List.getElem?_cons_zero, List.getElem?_cons_succ, dR.eq_20] using hlv) (by simp) (byteV_oneC _) (by simp only [Nat.mul_one]; omega) (by simp only [maxLen]; omega) (by simp) ?_
              obtain ⟨M3, hM3⟩ : ∃ M, (m2.kill ob).push (.own (out.map byteV ++ (o1 :: os).map byteV) 5) = M := ⟨_, rfl⟩
              have s3 : SlO M3 5 1 (some m2.next) ((out ++ o1 :: os).map byteV) (out ++ o1 :: os).length := by
                rw [List.map_append, ← hM3]
                exact SlO.new (by simp)
              have kO : ∀ Y : Nat → Prop, (∀ b, ob = some b → ¬ Y b) → Keeps Y m2 M3 := fun Y hY => by
                subst hM3
                refine ⟨by simp [Mem.kill_nxt], fun i hi hy => ?_⟩
                rw [Mem.push_old _ _ (by rw [Mem.kill_nxt]; exact hi), Mem.kill_other _ (fun e => hY i e hy)]
              have n3 : M3.next = m2.next + 1 := by subst hM3; simp [Mem.kill_nxt]
              have hle2 : m.next ≤ m2.next := k02.1
              have hP3 : PlayV ((some m2.next).toList ++ V) M3 ip sv l s2 := hP2.other (kO _ (fun b hb hn => hn (by simp [hb]))) (fun i hi => by
                rcases List.mem_append.1 hi with hi | hi
                · right; simp at hi; omega
                · exact .inl (List.mem_append_right _ hi)) (fun i hi => by
                rcases List.mem_append.1 hi with hi | hi
                · simp at hi; omega
                · have := h.lt i (List.mem_append_right _ hi); omega) fun i hi hlo => by
                rcases List.mem_append.1 hi with hi | hi
                · have : ob = some i := by simpa using hi
                  have h1 := hob i this; have h2 := h.pt.1; omega
                · exact hV i hi hlo
              have k03 : Keeps (fun i => i ∉ ownP ip s) m M3 := ⟨by omega, fun i hi hni => by
                have hk3 := (kO (fun i => i < m.next) (fun b hb hlt => by have := hob b hb; omega)).2 i (by omega) hi
                rw [hk3]; exact k02.2 i hi hni⟩
              rw [hM3]
              clear hM3
              simp -implicitDefEqProofs (disch := first | assumption | (simp only [wnA]; done) | (simp only [wnA]; omega) | omega | fail) [wkA, retV, stabOk, dC, ev, fillD, pickCells, putAt, bnd, slD, List.getElem?_cons_zero, List.getElem?_cons_succ, dR.eq_20, Mem.cell, Mem.row, wmA, t4, hnw]
              exact fin _ M3 (some m2.next) hP3 k03 s3 (fun i hi => by cases hi; exact hle2) (by simp [t0]) (by simp) (by simp)
    · simp -implicitDefEqProofs (disch := first | assumption | (simp only [wnA]; done) | (simp only [wnA]; omega) | omega | fail) [rc42_2, wkA, retV, stabOk, dC, ev, fillD, pickCells, putAt, bnd, slD, List.getElem?_cons_zero, List.getElem?_cons_succ, dR.eq_20, Mem.cell, Mem.row, wmA, beqF h0, t3]
      exact hq m1 s1 out ob (hR _ _ (.stop _ _ _ (.inl h0))) (back _ _ hP) kk so hob how
end Go.Proofs.YtjlicambfepfiaaGreatDoor.Ab

set_option linter.unusedVariables false
set_option linter.unusedSimpArgs false
namespace Go.Proofs.YtjlicambfepfiaaGreatDoor.Ab
open Go Go.RowKit
set_option maxHeartbeats 4000000
set_option maxRecDepth 100000
theorem c_State {w0 : World} {V : List Nat} {m : Mem} {ip : Nat} {sv : Value} {l : List DV} {s : PlS} {Q : Value → Mem → Prop} (h : PlayV V m ip sv l s) (hq : Q (.int .i64 s.st) m) : AbC Tryz.prog w0 26 [.pointer (some ⟨ip, 0, none⟩)] m Q := by
  refine AbC_fn ok26 (by simp) ?_
  have g : m.get ip = .own [sv, .int .i64 s.at_, .map (some s.im), watP s.wat, .int .i64 s.left, .int .i64 0, .int .i64 s.st, slV s.ot s.tr.length 1] 105 := h.g
  simp -implicitDefEqProofs (disch := first | assumption | (simp only [wnA]; done) | (simp only [wnA]; omega) | omega | fail) [rc26, ro26, wkA, retV, stabOk, dC, ev, fillD, pickCells, putAt, bnd, slD, List.getElem?_cons_zero, List.getElem?_cons_succ, dR.eq_20, Mem.cell, Mem.row, wmA, g]
  exact hq
theorem c_Trace {w0 : World} {V : List Nat} {m : Mem} {ip : Nat} {sv : Value} {l : List DV} {s : PlS} {Q : Value → Mem → Prop} (h : PlayV V m ip sv l s) (hl : s.tr.length ≤ 1000000000) (hq : ∀ m' ob, Old m m' → SlO m' 3 1 ob (s.tr.map (.int .i64)) s.tr.length → (∀ i, ob = some i → m.next ≤ i) → Q (slV ob s.tr.length 1) m') : AbC Tryz.prog w0 31 [.pointer (some ⟨ip, 0, none⟩)] m Q := by
  refine AbC_fn ok31 (by simp) ?_
  have g : m.get ip = .own [sv, .int .i64 s.at_, .map (some s.im), watP s.wat, .int .i64 s.left, .int .i64 0, .int .i64 s.st, slV s.ot s.tr.length 1] 105 := h.g
  simp -implicitDefEqProofs (disch := first | assumption | (simp only [wnA]; done) | (simp only [wnA]; omega) | omega | fail) [rc31, ro31, wkA, retV, stabOk, dC, ev, fillD, pickCells, putAt, bnd, slD, List.getElem?_cons_zero, List.getElem?_cons_succ, dR.eq_20, Mem.cell, Mem.row, wmA, g]
  have hel := h.ot.elems
  have hlv := h.ot.lenV
  have h1 : (s.tr.map (Value.int .i64)).all oneC = true := by
    rw [List.all_eq_true]
    intro x hx
    obtain ⟨y, -, rfl⟩ := List.mem_map.1 hx
    rfl
  refine SK_app_new (k := s.tr.length) (ys := s.tr.map (.int .i64)) (by simp [wkA, retV, stabOk, dC, ev, fillD, pickCells, putAt, bnd, slD, List.getElem?_cons_zero, List.getElem?_cons_succ, dR.eq_20]) (by simpa [wkA, retV, stabOk, dC, ev, fillD, pickCells, putAt, bnd, slD, List.getElem?_cons_zero, List.getElem?_cons_succ, dR.eq_20] using hel) (by simpa [wkA, retV, stabOk, dC, ev, fillD, pickCells, putAt, bnd, slD, List.getElem?_cons_zero, List.getElem?_cons_succ, dR.eq_20] using hlv) h1 (by omega) (by simp only [maxLen]; omega) (by simp) fun ob m' so hn hob hge => ?_
  simp -implicitDefEqProofs (disch := first | assumption | (simp only [wnA]; done) | (simp only [wnA]; omega) | omega | fail) [wkA, retV, stabOk, dC, ev, fillD, pickCells, putAt, bnd, slD, List.getElem?_cons_zero, List.getElem?_cons_succ, dR.eq_20, Mem.cell, Mem.row, wmA]
  exact hq m' ob ⟨hn, hge⟩ so hob
/-- The play's own blocks are others. -/
theorem PlayV.re {V : List Nat} {m M : Mem} {ip : Nat} {sv : Value} {l : List DV} {s s' : PlS} (h : PlayV V m ip sv l s) (k : Keeps (fun i => i ∉ ownP ip s) m M) (g : M.get ip = .own (plC sv s') 105) (hm : MapI M s'.im s'.f) (ho : SlO M 3 1 s'.ot (s'.tr.map (.int .i64)) s'.tr.length)
    (hw : ∀ w, s'.wat = some w → WatV (fun i => i ∉ ownP ip s' ++ V) M w.iw w.ia w.ws w.seen w.over) (hn : (ownP ip s').Nodup) (hi : ∀ i ∈ ownP ip s', (i ∈ ownP ip s ∨ m.next ≤ i) ∧ i < M.next) : PlayV V M ip sv l s' := by
  have hX : ∀ i, i < m.next → i ∉ ownP ip s ++ V → i ∉ ownP ip s' ++ V := fun i hl hni hm => by
    rcases List.mem_append.1 hm with hm | hm
    · rcases (hi i hm).1 with h1 | h1
      · exact hni (List.mem_append_left _ h1)
      · omega
    · exact hni (List.mem_append_right _ hm)
  have k2 : Keeps (fun i => i < m.next ∧ i ∉ ownP ip s ++ V) m M := k.mono fun i _ hx hm => hx.2 (List.mem_append_left _ hm)
  refine ⟨g, ((h.ds.mono fun i hl hx => (⟨hl, hx⟩ : i < m.next ∧ i ∉ ownP ip s ++ V)).keep k2).mono fun i _ hx => hX i hx.1 hx.2, hm, ho, hw, hn, ?_, h.pt.keeps k (fun i hl hm => by have := h.lo i hm; omega), ?_, ?_⟩
  · intro i hm
    rcases List.mem_append.1 hm with hm | hm
    · exact (hi i hm).2
    · exact Nat.lt_of_lt_of_le (h.lt i (List.mem_append_right _ hm)) k.1
  · intro i hm
    rcases (hi i hm).1 with h1 | h1
    · exact h.lo i h1
    · exact Nat.le_trans h.pt.1 h1
  · intro i hm hV
    rcases (hi i hm).1 with h1 | h1
    · exact h.dj i h1 hV
    · have := h.lt i (List.mem_append_right _ hV); omega
section
variable (G : List (List UInt8) → Prop) (P : List (List UInt8) → List (Tab × List Bool) → Prop)
end
end Go.Proofs.YtjlicambfepfiaaGreatDoor.Ab

set_option linter.unusedVariables false
set_option linter.unusedSimpArgs false
namespace Go.Proofs.YtjlicambfepfiaaGreatDoor.Ab
open Go Go.RowKit
set_option maxHeartbeats 4000000
set_option maxRecDepth 100000
theorem WatV.re {X Y : Nat → Prop} {m M : Mem} {iw ia : Nat} {ws : List WaE} {seen : Int} {over : Bool} (h : WatV X m iw ia ws seen over) (k : Keeps X m M) (k1 : M.get iw = m.get iw) (k2 : M.get ia = m.get ia) (hy : ∀ i, i < m.next → X i → Y i) (h1 : ¬ Y iw) (h2 : ¬ Y ia) (h3 : ∀ i, M.next ≤ i → Y i) : WatV Y M iw ia ws seen over := by
  obtain ⟨tv, g, r⟩ := h.g
  have kb : Keeps (fun i => i < m.next ∧ X i) m M := k.mono fun i _ hi => hi.2
  have mz : ∀ i, i < m.next → X i → (i < m.next ∧ X i) := fun i hi hx => ⟨hi, hx⟩
  have zy : ∀ i, i < M.next → (i < m.next ∧ X i) → Y i := fun i _ hi => hy i hi.1 hi.2
  exact ⟨⟨tv, k1.trans g, ((r.mono mz).keep kb).mono zy⟩, k2.trans h.ga, fun e he => ⟨(((h.es e he).1.mono mz).keep kb).mono zy, (((h.es e he).2.1.mono mz).keep kb).mono zy, (h.es e he).2.2⟩, ⟨h1, h2, h.own.2.2.1, Nat.lt_of_lt_of_le h.own.2.2.2.1 k.1, Nat.lt_of_lt_of_le h.own.2.2.2.2 k.1⟩, h.l, h3⟩
end Go.Proofs.YtjlicambfepfiaaGreatDoor.Ab

set_option linter.unusedVariables false
set_option linter.unusedSimpArgs false
namespace Go.Proofs.YtjlicambfepfiaaGreatDoor.Ab
open Go Go.RowKit
set_option maxHeartbeats 4000000
set_option maxRecDepth 100000
def strV (s : List UInt8) : Value := .string ⟨⟨s⟩⟩
/-- Two lists of texts that grow. -/
structure T2 (base m : Mem) (oa ob : Option Nat) (a b : List (List UInt8)) : Prop where
  o : Old base m
  sa : SlO m 9 1 oa (a.map strV) a.length
  sb : SlO m 9 1 ob (b.map strV) b.length
  ha : ∀ i, oa = some i → base.next ≤ i
  hb : ∀ i, ob = some i → base.next ≤ i
  d : ∀ i, oa = some i → ob ≠ some i
theorem T2.old {base m M : Mem} {oa ob : Option Nat} {a b : List (List UInt8)} (h : T2 base m oa ob a b) (o : Old m M) : T2 base M oa ob a b :=
  ⟨h.o.trans o, h.sa.keep o.1 fun i hi => o.2 i (by subst hi; exact h.sa.lt), h.sb.keep o.1 fun i hi => o.2 i (by subst hi; exact h.sb.lt), h.ha, h.hb, h.d⟩
theorem T2.appA {base m : Mem} {oa ob : Option Nat} {a b : List (List UInt8)} (h : T2 base m oa ob a b) (x : List UInt8) : T2 base ((m.kill oa).push (.own (a.map strV ++ [strV x]) 9)) (some m.next) ob (a ++ [x]) b := by
  refine ⟨(h.o.kill h.ha).push _, ?_, (h.sb.kill fun i hi e => h.d i e hi).push _, fun i hi => by cases hi; exact h.o.1, h.hb, fun i hi e => ?_⟩
  · have e : (a ++ [x]).map strV = a.map strV ++ [strV x] := by simp
    rw [e, List.length_append]
    exact SlO.new (by simp)
  · cases hi
    subst e
    exact Nat.lt_irrefl _ h.sb.lt
theorem T2.appB {base m : Mem} {oa ob : Option Nat} {a b : List (List UInt8)} (h : T2 base m oa ob a b) (x : List UInt8) : T2 base ((m.kill ob).push (.own (b.map strV ++ [strV x]) 9)) oa (some m.next) a (b ++ [x]) := by
  refine ⟨(h.o.kill h.hb).push _, (h.sa.kill fun i hi e => h.d i hi e).push _, ?_, h.ha, fun i hi => by cases hi; exact h.o.1, fun i hi e => ?_⟩
  · have e : (b ++ [x]).map strV = b.map strV ++ [strV x] := by simp
    rw [e, List.length_append]
    exact SlO.new (by simp)
  · cases e
    subst hi
    exact Nat.lt_irrefl _ h.sa.lt
/-- Where the labels lead. -/
theorem w_tos {w0 : World} {Q : AQ} {fr : Fr} {m : Mem} {v : Value} {l : List DV} {ob : Option Nat} {ts0 : List (List UInt8)} (hv : DsV m v l) (hl : l.length ≤ 1000000) (hs : SlO m 9 1 ob (ts0.map strV) ts0.length) (htl : ts0.length ≤ 1000000) (f0 : fr 0 = v) (f6 : fr 6 = slV ob ts0.length 1)
    (hq : (∀ t ∈ ts0, 0 ≤ findN t l 0) → ∀ fr' m', Old m m' → (∀ i ∈ [0, 4, 23, 24, 25], fr' i = fr i) → Q .normal fr' m')
    (he : (∃ t ∈ ts0, findN t l 0 < 0) → ∀ fr' m' u, Old m m' → fr' 2 = fr 4 → fr' 3 = .iface 39 u → Q .ret fr' m') : AbW Tryz.prog w0 rc32_9 Q fr m := by
  simp -implicitDefEqProofs (disch := first | assumption | (simp only [wnA]; done) | (simp only [wnA]; omega) | omega | fail) [rc32_9, wkA, retV, stabOk, dC, ev, fillD, pickCells, putAt, bnd, slD, List.getElem?_cons_zero, List.getElem?_cons_succ, dR.eq_20, Mem.cell, Mem.row, wmA, f6, hs.slen]
  refine LoopW_of (fun k ts m' => ∃ j, j + k = ts0.length ∧ Old m m' ∧ (∀ t ∈ ts0.take j, 0 ≤ findN t l 0) ∧ (∀ i ∈ [0, 4, 23, 24, 25], ts i = fr i) ∧ ts 93 = slV ob ts0.length 1 ∧ ts 94 = .int .i64 (ts0.length : Nat) ∧ ts 95 = .int .i64 (j : Nat)) ts0.length ?_ ?_
  · refine ⟨0, by omega, Old.refl m, (fun t ht => by simp at ht), fun i hi => ?_, by simp, by simp, by simp⟩
    simp only [List.mem_cons, List.not_mem_nil, or_false] at hi
    rcases hi with rfl | rfl | rfl | rfl | rfl <;> simp
  · rintro k ts m1 K ⟨j, hj, o1, hall, sm, t93, t94, t95⟩ hK
    have e0 := (sm 0 (by simp)).trans f0
    have e4 := sm 4 (by simp)
    simp -implicitDefEqProofs (disch := first | assumption | (simp only [wnA]; done) | (simp only [wnA]; omega) | omega | fail) [rc32_8, wkA, retV, stabOk, dC, ev, fillD, pickCells, putAt, bnd, slD, List.getElem?_cons_zero, List.getElem?_cons_succ, dR.eq_20, Mem.cell, Mem.row, wmA, t94, t95]
    by_cases hjl : j < ts0.length
    · obtain ⟨b, hb⟩ : ∃ b, ob = some b := by
        cases ob with
        | none => have := hs.2; omega
        | some b => exact ⟨b, rfl⟩
      subst hb
      have g1 := (o1.2 b hs.lt).trans hs.2.1
      have hx : (ts0.map strV)[j]? = some (.string ⟨⟨ts0[j]⟩⟩) := by rw [List.getElem?_map, List.getElem?_eq_getElem hjl]; rfl
      have hsl : slV (some b) ts0.length 1 = .slice (some ⟨b, 0, none⟩) ts0.length 1 := rfl
      have hsx : sidx 1 (.slice (some ⟨b, 0, none⟩) ts0.length 1) (.int .i64 (j : Int)) = some (.pointer (some ⟨b, j, none⟩)) := by simpa using sidx_at (b := b) (o := 0) (n := ts0.length) (c := 1) (j := j) (sz := 1) (k := .i64) hjl
      have hjw : IntKind.i64.wrap ((j : Int) + 1) = ((j + 1 : Nat) : Int) := by rw [w64 (by omega)]; omega
      obtain ⟨L, hL⟩ : ∃ L, ts0.map strV = L := ⟨_, rfl⟩
      rw [hL] at g1 hx
      have htk : ts0.take (j + 1) = ts0.take j ++ [ts0[j]] := List.take_succ_eq_append_getElem hjl
      have htm : ts0[j] ∈ ts0 := List.getElem_mem hjl
      generalize ts0[j] = t at *
      simp -implicitDefEqProofs (disch := first | assumption | (simp only [wnA]; done) | (simp only [wnA]; omega) | omega | fail) [hjl, rc32_7, wkA, retV, stabOk, dC, ev, fillD, pickCells, putAt, bnd, slD, List.getElem?_cons_zero, List.getElem?_cons_succ, dR.eq_20, Mem.cell, Mem.row, wmA, t93, t95, hsl, hsx, g1, hx, getL hx, e0]
      refine c_Find (hv.old o1) hl fun m2 o2 => ?_
      by_cases hf : findN t l 0 < 0
      · simp -implicitDefEqProofs (disch := first | assumption | (simp only [wnA]; done) | (simp only [wnA]; omega) | omega | fail) [wkA, retV, stabOk, dC, ev, fillD, pickCells, putAt, bnd, slD, List.getElem?_cons_zero, List.getElem?_cons_succ, dR.eq_20, Mem.cell, Mem.row, wmA, ltT hf, e4]
        exact he ⟨t, htm, hf⟩ _ m2 _ (o1.trans o2) (by simp) (by simp; rfl)
      · simp -implicitDefEqProofs (disch := first | assumption | (simp only [wnA]; done) | (simp only [wnA]; omega) | omega | fail) [wkA, retV, stabOk, dC, ev, fillD, pickCells, putAt, bnd, slD, List.getElem?_cons_zero, List.getElem?_cons_succ, dR.eq_20, Mem.cell, Mem.row, wmA, ltF (show (0 : Int) ≤ findN t l 0 by omega), t95, hjw]
        exact hK (k - 1) _ _ (by omega) ⟨j + 1, by omega, o1.trans o2, fun t' ht' => by
          rw [htk] at ht'
          rcases List.mem_append.1 ht' with h1 | h1
          · exact hall t' h1
          · rw [List.mem_singleton] at h1; subst h1; omega, fun i hi => by
          have := sm i hi
          simp only [List.mem_cons, List.not_mem_nil, or_false] at hi
          rcases hi with rfl | rfl | rfl | rfl | rfl <;> simp [this, e0], by simp [t93], by simp [t94], by simp⟩
    · have hjj : j = ts0.length := by omega
      subst hjj
      rw [List.take_length] at hall
      simp -implicitDefEqProofs (disch := first | assumption | (simp only [wnA]; done) | (simp only [wnA]; omega) | omega | fail) [hjl, wkA, retV, stabOk, dC, ev, fillD, pickCells, putAt, bnd, slD, List.getElem?_cons_zero, List.getElem?_cons_succ, dR.eq_20, Mem.cell, Mem.row, wmA]
      exact hq hall _ m1 o1 fun i hi => by
        have := sm i hi
        simp only [List.mem_cons, List.not_mem_nil, or_false] at hi
        rcases hi with rfl | rfl | rfl | rfl | rfl <;> simp [this]
end Go.Proofs.YtjlicambfepfiaaGreatDoor.Ab

set_option linter.unusedVariables false
set_option linter.unusedSimpArgs false
namespace Go.Proofs.YtjlicambfepfiaaGreatDoor.Ab
open Go Go.RowKit
set_option maxHeartbeats 4000000
set_option maxRecDepth 100000
theorem w_pto {w0 : World} {Q : AQ} {fr : Fr} {base m : Mem} {av : Value} {arms : List Arm} {oa : Option Nat} {t0 : List (List UInt8)} (ha : SlR m 2 av (arms.flatMap Arm.cells) arms.length) (hb : ∀ b, blk av = some b → b < m.next) (hl : arms.length ≤ 1000) (h : T2 base m oa none t0 []) (ht : t0.length ≤ 1000)
    (f6 : fr 6 = slV oa t0.length 1) (f7 : fr 7 = .slice none 0 0) (f65 : fr 65 = av) (f66 : fr 66 = .int .i64 (arms.length : Nat)) (f67 : fr 67 = .int .i64 0)
    (hq : ∀ fr' m' oa' ob', Old base m' → T2 base m' oa' ob' (t0 ++ arms.map Arm.to) (arms.map Arm.pat) → fr' 6 = slV oa' (t0 ++ arms.map Arm.to).length 1 → fr' 7 = slV ob' arms.length 1 → (∀ i ∈ [0, 4, 5, 23, 24, 25], fr' i = fr i) → Q .normal fr' m') (hav : ∀ b, blk av = some b → b < base.next) :
    LoopW (AbW Tryz.prog w0 rc32_5) (inBlockA 2 Q) fr m := by
  refine LoopW_of (fun k ts m' => ∃ j oa' ob', j + k = arms.length ∧ T2 base m' oa' ob' (t0 ++ (arms.take j).map Arm.to) ((arms.take j).map Arm.pat) ∧ (∀ i ∈ [0, 4, 5, 23, 24, 25], ts i = fr i) ∧ ts 6 = slV oa' (t0.length + j) 1 ∧ ts 7 = slV ob' j 1 ∧ ts 65 = av ∧ ts 66 = .int .i64 (arms.length : Nat) ∧ ts 67 = .int .i64 (j : Nat)) arms.length ?_ ?_
  · exact ⟨0, oa, none, by omega, by simpa using h, fun _ _ => rfl, by simpa using f6, by rw [f7]; rfl, f65, f66, f67⟩
  · rintro k ts m1 K ⟨j, oa', ob', hj, hT, sm, t6, t7, t65, t66, t67⟩ hK
    simp -implicitDefEqProofs (disch := first | assumption | (simp only [wnA]; done) | (simp only [wnA]; omega) | omega | fail) [rc32_5, wkA, retV, stabOk, dC, ev, fillD, pickCells, putAt, bnd, slD, List.getElem?_cons_zero, List.getElem?_cons_succ, dR.eq_20, Mem.cell, Mem.row, wmA, t66, t67]
    by_cases hjl : j < arms.length
    · have hsr : SlR m1 2 av (arms.flatMap Arm.cells) arms.length := ha.keep fun b hbb => by rw [hT.o.2 b (hav b hbb), h.o.2 b (hav b hbb)]
      obtain ⟨bi, bo, L, hvv, hL, hLl, hLt, -⟩ := hsr.at hjl
      rw [flat_at arm_len2 arms (List.getElem?_eq_getElem hjl)] at hLt
      obtain ⟨a, hx⟩ : ∃ a, arms[j] = a := ⟨_, rfl⟩
      rw [hx] at hLt
      have hLt : (L.drop (bo + j * 2)).take 2 = [.string ⟨⟨a.pat⟩⟩, .string ⟨⟨a.to⟩⟩] := hLt
      rw [hvv] at t65
      have hle : bo + j * 2 + 2 ≤ L.length := by omega
      have hjw : IntKind.i64.wrap ((j : Int) + 1) = ((j + 1 : Nat) : Int) := by rw [w64 (by omega)]; omega
      obtain ⟨M, hM⟩ : ∃ M, (m1.push (.own [.string ⟨#[]⟩, .string ⟨#[]⟩] 49)).set m1.next (.own (putAt [.string ⟨#[]⟩, .string ⟨#[]⟩] 0 [.string ⟨⟨a.pat⟩⟩, .string ⟨⟨a.to⟩⟩]) 49) = M := ⟨_, rfl⟩
      have oM : Old m1 M := by subst hM; exact ((Old.refl m1).push _).set (Nat.le_refl _) _
      have gM : M.get m1.next = .own [.string ⟨⟨a.pat⟩⟩, .string ⟨⟨a.to⟩⟩] 49 := by subst hM; rw [Mem.set_same]; rfl
      have nM : m1.next < M.next := by subst hM; simp
      simp -implicitDefEqProofs (disch := first | assumption | (simp only [wnA]; done) | (simp only [wnA]; omega) | omega | fail) [hjl, rc32_4, wkA, retV, stabOk, dC, ev, fillD, pickCells, putAt, bnd, slD, List.getElem?_cons_zero, List.getElem?_cons_succ, dR.eq_20, Mem.cell, Mem.row, wmA, t65, t67, sidx_at, hL, hLt, hle]
      refine SK_stm (i := m1.next) (o := 0) (vs := [.string ⟨⟨a.pat⟩⟩, .string ⟨⟨a.to⟩⟩]) (cs := [.string ⟨#[]⟩, .string ⟨#[]⟩]) (e := 49) (M := M) (by simp [wkA, retV, stabOk, dC, ev, fillD, pickCells, putAt, bnd, slD, List.getElem?_cons_zero, List.getElem?_cons_succ, dR.eq_20]) (by simp -implicitDefEqProofs (disch := first | assumption | (simp only [wnA]; done) | (simp only [wnA]; omega) | omega | fail) [wkA, retV, stabOk, dC, ev, fillD, pickCells, putAt, bnd, slD, List.getElem?_cons_zero, List.getElem?_cons_succ, dR.eq_20, Mem.cell, Mem.row, wmA]) (by simp [wkA, retV, stabOk, dC, ev, fillD, pickCells, putAt, bnd, slD, List.getElem?_cons_zero, List.getElem?_cons_succ, dR.eq_20]) (by simp) rfl rfl hM ?_
      clear hM
      have hTM := hT.old oM
      have htk : arms.take (j + 1) = arms.take j ++ [a] := by rw [List.take_succ_eq_append_getElem hjl, hx]
      have last : ∀ (fr' : Fr) (M' : Mem) (oa2 ob2 : Option Nat), T2 base M' oa2 ob2 ((t0 ++ (arms.take j).map Arm.to) ++ [a.to]) ((arms.take j).map Arm.pat ++ [a.pat]) → (∀ i ∈ [0, 4, 5, 23, 24, 25], fr' i = ts i) → fr' 6 = slV oa2 (t0.length + (j + 1)) 1 → fr' 7 = slV ob2 (j + 1) 1 → fr' 65 = ts 65 → fr' 66 = ts 66 → fr' 67 = .int .i64 ((j + 1 : Nat) : Int) → K fr' M' := fun fr' M' oa2 ob2 h2 es e6 e7 e65 e66 e67 =>
        hK (k - 1) _ _ (by omega) ⟨j + 1, oa2, ob2, by omega, by rw [htk]; simpa using h2, fun i hi => (es i hi).trans (sm i hi), e6, e7, by rw [e65, t65, hvv], by rw [e66, t66], e67⟩
      have la : (t0 ++ (arms.take j).map Arm.to).length = t0.length + j := by simp; omega
      have lb : ((arms.take j).map Arm.pat).length = j := by simp; omega
      obtain ⟨A, hA⟩ : ∃ A, t0 ++ (arms.take j).map Arm.to = A := ⟨_, rfl⟩
      obtain ⟨B, hB⟩ : ∃ B, (arms.take j).map Arm.pat = B := ⟨_, rfl⟩
      rw [hA] at hTM last la
      rw [hB] at hTM last lb
      simp -implicitDefEqProofs (disch := first | assumption | (simp only [wnA]; done) | (simp only [wnA]; omega) | omega | fail) [wkA, retV, stabOk, dC, ev, fillD, pickCells, putAt, bnd, slD, List.getElem?_cons_zero, List.getElem?_cons_succ, dR.eq_20, Mem.cell, Mem.row, wmA]
      refine AbW_sem_of ?_
      simp -implicitDefEqProofs (disch := first | assumption | (simp only [wnA]; done) | (simp only [wnA]; omega) | omega | fail) [wkA, retV, stabOk, dC, ev, fillD, pickCells, putAt, bnd, slD, List.getElem?_cons_zero, List.getElem?_cons_succ, dR.eq_20, Mem.cell, Mem.row, wmA, gM, t6, t7, rc32_2]
      have oldA : ∀ i, oa' = some i → i < m1.next := fun i hi => by subst hi; exact hT.sa.lt
      have oldB : ∀ i, ob' = some i → i < m1.next := fun i hi => by subst hi; exact hT.sb.lt
      constructor
      · rw [SK_bsl (cs := [.string ⟨⟨a.to⟩⟩]) (by simp [wkA, retV, stabOk, dC, ev, fillD, pickCells, putAt, bnd, slD, List.getElem?_cons_zero, List.getElem?_cons_succ, dR.eq_20]) (by simp)]
        obtain ⟨P1, hP1⟩ : ∃ X, M.push (.own [.string ⟨⟨a.to⟩⟩] 9) = X := ⟨_, rfl⟩
        have oP1 : Old M P1 := by subst hP1; exact (Old.refl _).push _
        have bP1 : P1.get M.next = .own [.string ⟨⟨a.to⟩⟩] 9 := by subst hP1; rw [Mem.push_same]
        have lP1 : M.next < P1.next := by subst hP1; simp
        have TP1 := hTM.old oP1
        have gP1 := (oP1.2 _ nM).trans gM
        have nP1 : m1.next < P1.next := Nat.lt_of_lt_of_le nM oP1.1
        rw [hP1]
        simp -implicitDefEqProofs (disch := first | assumption | (simp only [wnA]; done) | (simp only [wnA]; omega) | omega | fail) [wkA, retV, stabOk, dC, ev, fillD, pickCells, putAt, bnd, slD, List.getElem?_cons_zero, List.getElem?_cons_succ, dR.eq_20, Mem.cell, Mem.row, wmA, gP1]
        constructor
        · simp -implicitDefEqProofs (disch := first | assumption | (simp only [wnA]; done) | (simp only [wnA]; omega) | omega | fail) [rc32_0, wkA, retV, stabOk, dC, ev, fillD, pickCells, putAt, bnd, slD, List.getElem?_cons_zero, List.getElem?_cons_succ, dR.eq_20, Mem.cell, Mem.row, wmA, gP1]
          refine SK_ap (ob := oa') (n := (t0.length + j)) (k := 1) (cs := A.map strV) (ys := [strV a.to]) (by rw [← la]; exact TP1.sa) (by simp [wkA, retV, stabOk, dC, ev, fillD, pickCells, putAt, bnd, slD, List.getElem?_cons_zero, List.getElem?_cons_succ, dR.eq_20]) (by simp -implicitDefEqProofs (disch := first | assumption | (simp only [wnA]; done) | (simp only [wnA]; omega) | omega | fail) [wkA, retV, stabOk, dC, ev, fillD, pickCells, putAt, bnd, slD, List.getElem?_cons_zero, List.getElem?_cons_succ, dR.eq_20, elemsV, Mem.cell, Mem.row, wmA, bP1, strV]) (by simp [wkA, retV, stabOk, dC, ev, fillD, pickCells, putAt, bnd, slD, List.getElem?_cons_zero, List.getElem?_cons_succ, dR.eq_20]) (by omega) rfl (by omega) (by simp only [maxLen]; omega) rfl ?_
          obtain ⟨P2, hP2⟩ : ∃ X, (P1.kill oa').push (.own (A.map strV ++ [strV a.to]) 9) = X := ⟨_, rfl⟩
          have TP2 := TP1.appA a.to
          rw [hP2] at TP2
          have kP2 : ∀ i, i < P1.next → oa' ≠ some i → P2.get i = P1.get i := fun i hi hne => by subst hP2; rw [Mem.push_old _ _ (by rw [Mem.kill_nxt]; exact hi), Mem.kill_other _ hne]
          have zP2 : P1.next < P2.next := by subst hP2; simp [Mem.kill_nxt]
          have gP2 : P2.get m1.next = _ := (kP2 _ nP1 (by intro e; have := oldA _ e; omega)).trans gP1
          have nP2 : m1.next < P2.next := Nat.lt_trans nP1 zP2
          rw [hP2]
          clear hP2
          simp -implicitDefEqProofs (disch := first | assumption | (simp only [wnA]; done) | (simp only [wnA]; omega) | omega | fail) [wkA, retV, stabOk, dC, ev, fillD, pickCells, putAt, bnd, slD, List.getElem?_cons_zero, List.getElem?_cons_succ, dR.eq_20, Mem.cell, Mem.row, wmA, gP2, t67, hjw]
          rw [SK_bsl (cs := [.string ⟨⟨a.pat⟩⟩]) (by simp [wkA, retV, stabOk, dC, ev, fillD, pickCells, putAt, bnd, slD, List.getElem?_cons_zero, List.getElem?_cons_succ, dR.eq_20]) (by simp)]
          obtain ⟨P3, hP3⟩ : ∃ X, P2.push (.own [.string ⟨⟨a.pat⟩⟩] 9) = X := ⟨_, rfl⟩
          have oP3 : Old P2 P3 := by subst hP3; exact (Old.refl _).push _
          have bP3 : P3.get P2.next = .own [.string ⟨⟨a.pat⟩⟩] 9 := by subst hP3; rw [Mem.push_same]
          have lP3 : P2.next < P3.next := by subst hP3; simp
          have TP3 := TP2.old oP3
          have gP3 := (oP3.2 _ nP2).trans gP2
          have nP3 : m1.next < P3.next := Nat.lt_of_lt_of_le nP2 oP3.1
          rw [hP3]
          simp -implicitDefEqProofs (disch := first | assumption | (simp only [wnA]; done) | (simp only [wnA]; omega) | omega | fail) [wkA, retV, stabOk, dC, ev, fillD, pickCells, putAt, bnd, slD, List.getElem?_cons_zero, List.getElem?_cons_succ, dR.eq_20, Mem.cell, Mem.row, wmA, gP3]
          refine SK_ap (ob := ob') (n := j) (k := 1) (cs := B.map strV) (ys := [strV a.pat]) (by rw [← lb]; exact TP3.sb) (by simp [wkA, retV, stabOk, dC, ev, fillD, pickCells, putAt, bnd, slD, List.getElem?_cons_zero, List.getElem?_cons_succ, dR.eq_20]) (by simp -implicitDefEqProofs (disch := first | assumption | (simp only [wnA]; done) | (simp only [wnA]; omega) | omega | fail) [wkA, retV, stabOk, dC, ev, fillD, pickCells, putAt, bnd, slD, List.getElem?_cons_zero, List.getElem?_cons_succ, dR.eq_20, elemsV, Mem.cell, Mem.row, wmA, bP3, strV]) (by simp [wkA, retV, stabOk, dC, ev, fillD, pickCells, putAt, bnd, slD, List.getElem?_cons_zero, List.getElem?_cons_succ, dR.eq_20]) (by omega) rfl (by omega) (by simp only [maxLen]; omega) rfl ?_
          obtain ⟨P4, hP4⟩ : ∃ X, (P3.kill ob').push (.own (B.map strV ++ [strV a.pat]) 9) = X := ⟨_, rfl⟩
          have TP4 := TP3.appB a.pat
          rw [hP4] at TP4
          have kP4 : ∀ i, i < P3.next → ob' ≠ some i → P4.get i = P3.get i := fun i hi hne => by subst hP4; rw [Mem.push_old _ _ (by rw [Mem.kill_nxt]; exact hi), Mem.kill_other _ hne]
          have zP4 : P3.next < P4.next := by subst hP4; simp [Mem.kill_nxt]
          have gP4 : P4.get m1.next = _ := (kP4 _ nP3 (by intro e; have := oldB _ e; omega)).trans gP3
          have nP4 : m1.next < P4.next := Nat.lt_trans nP3 zP4
          rw [hP4]
          clear hP4
          simp -implicitDefEqProofs (disch := first | assumption | (simp only [wnA]; done) | (simp only [wnA]; omega) | omega | fail) [wkA, retV, stabOk, dC, ev, fillD, pickCells, putAt, bnd, slD, List.getElem?_cons_zero, List.getElem?_cons_succ, dR.eq_20, Mem.cell, Mem.row, wmA, gP4, t67, hjw]
          refine last _ _ _ _ TP4 (fun i hi => ?_) (by simp [Nat.add_assoc]) (by simp) (by simp) (by simp) (by simp)
          simp only [List.mem_cons, List.not_mem_nil, or_false] at hi
          rcases hi with rfl | rfl | rfl | rfl | rfl | rfl <;> simp
        · simp -implicitDefEqProofs (disch := first | assumption | (simp only [wnA]; done) | (simp only [wnA]; omega) | omega | fail) [rc32_1, wkA, retV, stabOk, dC, ev, fillD, pickCells, putAt, bnd, slD, List.getElem?_cons_zero, List.getElem?_cons_succ, dR.eq_20, Mem.cell, Mem.row, wmA, gP1]
          rw [SK_bsl (cs := [.string ⟨⟨a.pat⟩⟩]) (by simp [wkA, retV, stabOk, dC, ev, fillD, pickCells, putAt, bnd, slD, List.getElem?_cons_zero, List.getElem?_cons_succ, dR.eq_20]) (by simp)]
          obtain ⟨P2, hP2⟩ : ∃ X, P1.push (.own [.string ⟨⟨a.pat⟩⟩] 9) = X := ⟨_, rfl⟩
          have oP2 : Old P1 P2 := by subst hP2; exact (Old.refl _).push _
          have bP2 : P2.get P1.next = .own [.string ⟨⟨a.pat⟩⟩] 9 := by subst hP2; rw [Mem.push_same]
          have lP2 : P1.next < P2.next := by subst hP2; simp
          have TP2 := TP1.old oP2
          have gP2 := (oP2.2 _ nP1).trans gP1
          have nP2 : m1.next < P2.next := Nat.lt_of_lt_of_le nP1 oP2.1
          have ctoP2 := (oP2.2 _ lP1).trans bP1
          have mtoP2 := Nat.lt_of_lt_of_le lP1 oP2.1
          rw [hP2]
          simp -implicitDefEqProofs (disch := first | assumption | (simp only [wnA]; done) | (simp only [wnA]; omega) | omega | fail) [wkA, retV, stabOk, dC, ev, fillD, pickCells, putAt, bnd, slD, List.getElem?_cons_zero, List.getElem?_cons_succ, dR.eq_20, Mem.cell, Mem.row, wmA, gP2]
          refine SK_ap (ob := oa') (n := (t0.length + j)) (k := 1) (cs := A.map strV) (ys := [strV a.to]) (by rw [← la]; exact TP2.sa) (by simp [wkA, retV, stabOk, dC, ev, fillD, pickCells, putAt, bnd, slD, List.getElem?_cons_zero, List.getElem?_cons_succ, dR.eq_20]) (by simp -implicitDefEqProofs (disch := first | assumption | (simp only [wnA]; done) | (simp only [wnA]; omega) | omega | fail) [wkA, retV, stabOk, dC, ev, fillD, pickCells, putAt, bnd, slD, List.getElem?_cons_zero, List.getElem?_cons_succ, dR.eq_20, elemsV, Mem.cell, Mem.row, wmA, ctoP2, strV]) (by simp [wkA, retV, stabOk, dC, ev, fillD, pickCells, putAt, bnd, slD, List.getElem?_cons_zero, List.getElem?_cons_succ, dR.eq_20]) (by omega) rfl (by omega) (by simp only [maxLen]; omega) rfl ?_
          obtain ⟨P3, hP3⟩ : ∃ X, (P2.kill oa').push (.own (A.map strV ++ [strV a.to]) 9) = X := ⟨_, rfl⟩
          have TP3 := TP2.appA a.to
          rw [hP3] at TP3
          have kP3 : ∀ i, i < P2.next → oa' ≠ some i → P3.get i = P2.get i := fun i hi hne => by subst hP3; rw [Mem.push_old _ _ (by rw [Mem.kill_nxt]; exact hi), Mem.kill_other _ hne]
          have zP3 : P2.next < P3.next := by subst hP3; simp [Mem.kill_nxt]
          have gP3 : P3.get m1.next = _ := (kP3 _ nP2 (by intro e; have := oldA _ e; omega)).trans gP2
          have nP3 : m1.next < P3.next := Nat.lt_trans nP2 zP3
          have cpatP3 : P3.get P1.next = _ := (kP3 _ lP2 (by intro e; have := oldA _ e; omega)).trans bP2
          have mpatP3 := Nat.lt_trans lP2 zP3
          rw [hP3]
          clear hP3
          simp -implicitDefEqProofs (disch := first | assumption | (simp only [wnA]; done) | (simp only [wnA]; omega) | omega | fail) [wkA, retV, stabOk, dC, ev, fillD, pickCells, putAt, bnd, slD, List.getElem?_cons_zero, List.getElem?_cons_succ, dR.eq_20, Mem.cell, Mem.row, wmA, gP3, t67, hjw]
          refine SK_ap (ob := ob') (n := j) (k := 1) (cs := B.map strV) (ys := [strV a.pat]) (by rw [← lb]; exact TP3.sb) (by simp [wkA, retV, stabOk, dC, ev, fillD, pickCells, putAt, bnd, slD, List.getElem?_cons_zero, List.getElem?_cons_succ, dR.eq_20]) (by simp -implicitDefEqProofs (disch := first | assumption | (simp only [wnA]; done) | (simp only [wnA]; omega) | omega | fail) [wkA, retV, stabOk, dC, ev, fillD, pickCells, putAt, bnd, slD, List.getElem?_cons_zero, List.getElem?_cons_succ, dR.eq_20, elemsV, Mem.cell, Mem.row, wmA, cpatP3, strV]) (by simp [wkA, retV, stabOk, dC, ev, fillD, pickCells, putAt, bnd, slD, List.getElem?_cons_zero, List.getElem?_cons_succ, dR.eq_20]) (by omega) rfl (by omega) (by simp only [maxLen]; omega) rfl ?_
          obtain ⟨P4, hP4⟩ : ∃ X, (P3.kill ob').push (.own (B.map strV ++ [strV a.pat]) 9) = X := ⟨_, rfl⟩
          have TP4 := TP3.appB a.pat
          rw [hP4] at TP4
          have kP4 : ∀ i, i < P3.next → ob' ≠ some i → P4.get i = P3.get i := fun i hi hne => by subst hP4; rw [Mem.push_old _ _ (by rw [Mem.kill_nxt]; exact hi), Mem.kill_other _ hne]
          have zP4 : P3.next < P4.next := by subst hP4; simp [Mem.kill_nxt]
          have gP4 : P4.get m1.next = _ := (kP4 _ nP3 (by intro e; have := oldB _ e; omega)).trans gP3
          have nP4 : m1.next < P4.next := Nat.lt_trans nP3 zP4
          rw [hP4]
          clear hP4
          simp -implicitDefEqProofs (disch := first | assumption | (simp only [wnA]; done) | (simp only [wnA]; omega) | omega | fail) [wkA, retV, stabOk, dC, ev, fillD, pickCells, putAt, bnd, slD, List.getElem?_cons_zero, List.getElem?_cons_succ, dR.eq_20, Mem.cell, Mem.row, wmA, gP4, t67, hjw]
          refine last _ _ _ _ TP4 (fun i hi => ?_) (by simp [Nat.add_assoc]) (by simp) (by simp) (by simp) (by simp)
          simp only [List.mem_cons, List.not_mem_nil, or_false] at hi
          rcases hi with rfl | rfl | rfl | rfl | rfl | rfl <;> simp
      · simp -implicitDefEqProofs (disch := first | assumption | (simp only [wnA]; done) | (simp only [wnA]; omega) | omega | fail) [rc32_3, wkA, retV, stabOk, dC, ev, fillD, pickCells, putAt, bnd, slD, List.getElem?_cons_zero, List.getElem?_cons_succ, dR.eq_20, Mem.cell, Mem.row, wmA, gM]
        rw [SK_bsl (cs := [.string ⟨⟨a.pat⟩⟩]) (by simp [wkA, retV, stabOk, dC, ev, fillD, pickCells, putAt, bnd, slD, List.getElem?_cons_zero, List.getElem?_cons_succ, dR.eq_20]) (by simp)]
        obtain ⟨R1, hR1⟩ : ∃ X, M.push (.own [.string ⟨⟨a.pat⟩⟩] 9) = X := ⟨_, rfl⟩
        have oR1 : Old M R1 := by subst hR1; exact (Old.refl _).push _
        have bR1 : R1.get M.next = .own [.string ⟨⟨a.pat⟩⟩] 9 := by subst hR1; rw [Mem.push_same]
        have lR1 : M.next < R1.next := by subst hR1; simp
        have TR1 := hTM.old oR1
        have gR1 := (oR1.2 _ nM).trans gM
        have nR1 : m1.next < R1.next := Nat.lt_of_lt_of_le nM oR1.1
        rw [hR1]
        simp -implicitDefEqProofs (disch := first | assumption | (simp only [wnA]; done) | (simp only [wnA]; omega) | omega | fail) [wkA, retV, stabOk, dC, ev, fillD, pickCells, putAt, bnd, slD, List.getElem?_cons_zero, List.getElem?_cons_succ, dR.eq_20, Mem.cell, Mem.row, wmA, gR1]
        rw [SK_bsl (cs := [.string ⟨⟨a.to⟩⟩]) (by simp [wkA, retV, stabOk, dC, ev, fillD, pickCells, putAt, bnd, slD, List.getElem?_cons_zero, List.getElem?_cons_succ, dR.eq_20]) (by simp)]
        obtain ⟨R2, hR2⟩ : ∃ X, R1.push (.own [.string ⟨⟨a.to⟩⟩] 9) = X := ⟨_, rfl⟩
        have oR2 : Old R1 R2 := by subst hR2; exact (Old.refl _).push _
        have bR2 : R2.get R1.next = .own [.string ⟨⟨a.to⟩⟩] 9 := by subst hR2; rw [Mem.push_same]
        have lR2 : R1.next < R2.next := by subst hR2; simp
        have TR2 := TR1.old oR2
        have gR2 := (oR2.2 _ nR1).trans gR1
        have nR2 : m1.next < R2.next := Nat.lt_of_lt_of_le nR1 oR2.1
        have cpatR2 := (oR2.2 _ lR1).trans bR1
        have mpatR2 := Nat.lt_of_lt_of_le lR1 oR2.1
        rw [hR2]
        simp -implicitDefEqProofs (disch := first | assumption | (simp only [wnA]; done) | (simp only [wnA]; omega) | omega | fail) [wkA, retV, stabOk, dC, ev, fillD, pickCells, putAt, bnd, slD, List.getElem?_cons_zero, List.getElem?_cons_succ, dR.eq_20, Mem.cell, Mem.row, wmA, gR2]
        refine SK_ap (ob := oa') (n := (t0.length + j)) (k := 1) (cs := A.map strV) (ys := [strV a.to]) (by rw [← la]; exact TR2.sa) (by simp [wkA, retV, stabOk, dC, ev, fillD, pickCells, putAt, bnd, slD, List.getElem?_cons_zero, List.getElem?_cons_succ, dR.eq_20]) (by simp -implicitDefEqProofs (disch := first | assumption | (simp only [wnA]; done) | (simp only [wnA]; omega) | omega | fail) [wkA, retV, stabOk, dC, ev, fillD, pickCells, putAt, bnd, slD, List.getElem?_cons_zero, List.getElem?_cons_succ, dR.eq_20, elemsV, Mem.cell, Mem.row, wmA, bR2, strV]) (by simp [wkA, retV, stabOk, dC, ev, fillD, pickCells, putAt, bnd, slD, List.getElem?_cons_zero, List.getElem?_cons_succ, dR.eq_20]) (by omega) rfl (by omega) (by simp only [maxLen]; omega) rfl ?_
        obtain ⟨R3, hR3⟩ : ∃ X, (R2.kill oa').push (.own (A.map strV ++ [strV a.to]) 9) = X := ⟨_, rfl⟩
        have TR3 := TR2.appA a.to
        rw [hR3] at TR3
        have kR3 : ∀ i, i < R2.next → oa' ≠ some i → R3.get i = R2.get i := fun i hi hne => by subst hR3; rw [Mem.push_old _ _ (by rw [Mem.kill_nxt]; exact hi), Mem.kill_other _ hne]
        have zR3 : R2.next < R3.next := by subst hR3; simp [Mem.kill_nxt]
        have gR3 : R3.get m1.next = _ := (kR3 _ nR2 (by intro e; have := oldA _ e; omega)).trans gR2
        have nR3 : m1.next < R3.next := Nat.lt_trans nR2 zR3
        have cpatR3 : R3.get M.next = _ := (kR3 _ mpatR2 (by intro e; have := oldA _ e; omega)).trans cpatR2
        have mpatR3 := Nat.lt_trans mpatR2 zR3
        rw [hR3]
        clear hR3
        simp -implicitDefEqProofs (disch := first | assumption | (simp only [wnA]; done) | (simp only [wnA]; omega) | omega | fail) [wkA, retV, stabOk, dC, ev, fillD, pickCells, putAt, bnd, slD, List.getElem?_cons_zero, List.getElem?_cons_succ, dR.eq_20, Mem.cell, Mem.row, wmA, gR3, t67, hjw]
        refine SK_ap (ob := ob') (n := j) (k := 1) (cs := B.map strV) (ys := [strV a.pat]) (by rw [← lb]; exact TR3.sb) (by simp [wkA, retV, stabOk, dC, ev, fillD, pickCells, putAt, bnd, slD, List.getElem?_cons_zero, List.getElem?_cons_succ, dR.eq_20]) (by simp -implicitDefEqProofs (disch := first | assumption | (simp only [wnA]; done) | (simp only [wnA]; omega) | omega | fail) [wkA, retV, stabOk, dC, ev, fillD, pickCells, putAt, bnd, slD, List.getElem?_cons_zero, List.getElem?_cons_succ, dR.eq_20, elemsV, Mem.cell, Mem.row, wmA, cpatR3, strV]) (by simp [wkA, retV, stabOk, dC, ev, fillD, pickCells, putAt, bnd, slD, List.getElem?_cons_zero, List.getElem?_cons_succ, dR.eq_20]) (by omega) rfl (by omega) (by simp only [maxLen]; omega) rfl ?_
        obtain ⟨R4, hR4⟩ : ∃ X, (R3.kill ob').push (.own (B.map strV ++ [strV a.pat]) 9) = X := ⟨_, rfl⟩
        have TR4 := TR3.appB a.pat
        rw [hR4] at TR4
        have kR4 : ∀ i, i < R3.next → ob' ≠ some i → R4.get i = R3.get i := fun i hi hne => by subst hR4; rw [Mem.push_old _ _ (by rw [Mem.kill_nxt]; exact hi), Mem.kill_other _ hne]
        have zR4 : R3.next < R4.next := by subst hR4; simp [Mem.kill_nxt]
        have gR4 : R4.get m1.next = _ := (kR4 _ nR3 (by intro e; have := oldB _ e; omega)).trans gR3
        have nR4 : m1.next < R4.next := Nat.lt_trans nR3 zR4
        rw [hR4]
        clear hR4
        simp -implicitDefEqProofs (disch := first | assumption | (simp only [wnA]; done) | (simp only [wnA]; omega) | omega | fail) [wkA, retV, stabOk, dC, ev, fillD, pickCells, putAt, bnd, slD, List.getElem?_cons_zero, List.getElem?_cons_succ, dR.eq_20, Mem.cell, Mem.row, wmA, gR4, t67, hjw]
        refine last _ _ _ _ TR4 (fun i hi => ?_) (by simp [Nat.add_assoc]) (by simp) (by simp) (by simp) (by simp)
        simp only [List.mem_cons, List.not_mem_nil, or_false] at hi
        rcases hi with rfl | rfl | rfl | rfl | rfl | rfl <;> simp
    · have hjj : j = arms.length := by omega
      subst hjj
      rw [List.take_length] at hT
      simp -implicitDefEqProofs (disch := first | assumption | (simp only [wnA]; done) | (simp only [wnA]; omega) | omega | fail) [hjl, wkA, retV, stabOk, dC, ev, fillD, pickCells, putAt, bnd, slD, List.getElem?_cons_zero, List.getElem?_cons_succ, dR.eq_20, Mem.cell, Mem.row, wmA]
      exact hq _ m1 oa' ob' hT.o hT (by simp [t6]) (by simp [t7]) fun i hi => by
        have := sm i hi
        simp only [List.mem_cons, List.not_mem_nil, or_false] at hi
        rcases hi with rfl | rfl | rfl | rfl | rfl | rfl <;> simp [this]
end Go.Proofs.YtjlicambfepfiaaGreatDoor.Ab

set_option linter.unusedVariables false
set_option linter.unusedSimpArgs false
namespace Go.Proofs.YtjlicambfepfiaaGreatDoor.Ab
open Go Go.RowKit
set_option maxHeartbeats 4000000
set_option maxRecDepth 100000
/-- One step's labels are all there. -/
def chk1 (l : List DV) (k : Nat) (x : DS) : Prop := (x.lb ≠ [] → findN x.lb l 0 = k) ∧ ((x.kd = 1 ∨ x.kd = 2 ∨ x.kd = 3) → 0 ≤ findN x.to l 0) ∧ (x.kd = 1 → ∀ a ∈ x.arms, 0 ≤ findN a.to l 0)
/-- Nothing is wrong of a dialogue's labels. -/
def chkOk (l : List DV) : Prop := (0 < l.length ∧ l.length ≤ 64) ∧ ∀ k x, l[k]? = some x → chk1 l k x.1
/-- The labels that a step names, in order. -/
def tosOf (x : DS) : List (List UInt8) := if x.kd = 1 then x.to :: x.arms.map Arm.to else if x.kd = 2 ∨ x.kd = 3 then [x.to] else []
theorem chk1_of {l : List DV} {k : Nat} {x : DS} (h1 : x.lb ≠ [] → findN x.lb l 0 = k) (h2 : ∀ t ∈ tosOf x, 0 ≤ findN t l 0) : chk1 l k x := by
  refine ⟨h1, fun h => h2 _ ?_, fun h a ha => h2 _ ?_⟩
  · unfold tosOf
    rcases h with h | h | h
    · rw [if_pos h]; simp
    · rw [if_neg (by omega), if_pos (.inl h)]; simp
    · rw [if_neg (by omega), if_pos (.inr h)]; simp
  · unfold tosOf
    rw [if_pos h]
    exact List.mem_cons_of_mem _ (List.mem_map.2 ⟨a, ha, rfl⟩)
theorem chk1_not {l : List DV} {k : Nat} {x : DS} {t : List UInt8} (ht : t ∈ tosOf x) (h : findN t l 0 < 0) : ¬ chk1 l k x := fun hc => by
  unfold tosOf at ht
  by_cases h1 : x.kd = 1
  · rw [if_pos h1] at ht
    rcases List.mem_cons.1 ht with rfl | ht
    · have := hc.2.1 (.inl h1); omega
    · obtain ⟨a, ha, rfl⟩ := List.mem_map.1 ht
      have := hc.2.2 h1 a ha; omega
  · rw [if_neg h1] at ht
    by_cases h2 : x.kd = 2 ∨ x.kd = 3
    · rw [if_pos h2, List.mem_singleton] at ht
      subst ht
      have := hc.2.1 (.inr h2); omega
    · rw [if_neg h2] at ht; cases ht
theorem T2.nil (m : Mem) : T2 m m none none [] [] := ⟨Old.refl m, ⟨rfl, rfl⟩, ⟨rfl, rfl⟩, (fun i hi => by cases hi), (fun i hi => by cases hi), fun i hi => by cases hi⟩
theorem w_chk {w0 : World} {Q' : AQ} {fr : Fr} {m : Mem} {v : Value} {l : List DV} {G : List (List UInt8) → Prop} {P : List (List UInt8) → List (Tab × List Bool) → Prop} {i5 : Nat} {x : DV} (hp : Part L0 m) (hv : DsV m v l) (hl : l.length ≤ 1000000) (hA : ArmV m x) (hsz : x.1.arms.length ≤ 1000) (hof : x.1.kd = 1 → OfC w0 (pats x.1) (G (pats x.1)) (P (pats x.1)))
    (gx : m.get i5 = .own (vC x) 29) (n5 : i5 < m.next) (f0 : fr 0 = v) (f5 : fr 5 = .pointer (some ⟨i5, 0, none⟩))
    (hq : (∀ t ∈ tosOf x.1, 0 ≤ findN t l 0) → ∀ fr' m', Old m m' → (∀ i ∈ [0, 23, 24, 25], fr' i = fr i) → Q' .normal fr' m')
    (he : (∃ t ∈ tosOf x.1, findN t l 0 < 0) ∨ (x.1.kd = 1 ∧ ¬ G (pats x.1)) → ∀ fr' m' t u, Old m m' → fr' 3 = .iface t u → Q' .ret fr' m') : AbW Tryz.prog w0 rc32_11 Q' fr m := by
  have hA0 := hA
  obtain ⟨⟨lb, kd, tx, arms, n, to, pl⟩, av⟩ := x
  have gx : m.get i5 = .own [.string ⟨⟨lb⟩⟩, .int .i64 kd, .string ⟨⟨tx⟩⟩, av, .int .i64 n, .string ⟨⟨to⟩⟩, .int .i64 pl] 29 := gx
  simp only at hsz hof hq he hA
  have app1 : ∀ (fr1 : Fr), True := fun _ => trivial
  obtain ⟨M1, hM1⟩ : ∃ M1, m.push (.own [.string ⟨⟨to⟩⟩] 9) = M1 := ⟨_, rfl⟩
  have o1 : Old m M1 := by subst hM1; exact (Old.refl m).push _
  have g1 : M1.get m.next = .own [.string ⟨⟨to⟩⟩] 9 := by subst hM1; rw [Mem.push_same]
  have hT1 := ((T2.nil m).old o1).appA to
  obtain ⟨M2, hM2⟩ : ∃ M2, (M1.kill none).push (.own (([] : List (List UInt8)).map strV ++ [strV to]) 9) = M2 := ⟨_, rfl⟩
  rw [hM2] at hT1
  have o2 : Old m M2 := hT1.o
  have gx2 := (o2.2 _ n5).trans gx
  have tos1 : ∀ (fr' : Fr), fr' 0 = v → fr' 6 = slV (some M1.next) 1 1 → (∀ i ∈ [0, 23, 24, 25], fr' i = fr i) → tosOf ⟨lb, kd, tx, arms, n, to, pl⟩ = [to] → AbW Tryz.prog w0 rc32_9 Q' fr' M2 := fun fr' e0 e6 es ht =>
    w_tos (ts0 := [to]) (hv.old o2) hl hT1.sa (by simp) e0 e6 (fun hall fr2 m2 oo ee => hq (by rw [ht]; exact hall) fr2 m2 (o2.trans oo) fun i hi => (ee i (by simp only [List.mem_cons, List.not_mem_nil, or_false] at hi ⊢; omega)).trans (es i hi)) (fun hex fr2 m2 u oo _ e3 => he (.inl (by rw [ht]; exact hex)) fr2 m2 _ u (o2.trans oo) e3)
  by_cases h1 : kd = 1
  · subst h1
    have hsla := (hA.old o2).sl.slen
    have hsla' : slen av = some (.int .i64 (arms.length : Nat)) := hsla
    simp -implicitDefEqProofs (disch := first | assumption | (simp only [wnA]; done) | (simp only [wnA]; omega) | omega | fail) [rc32_11, wkA, retV, stabOk, dC, ev, fillD, pickCells, putAt, bnd, slD, List.getElem?_cons_zero, List.getElem?_cons_succ, dR.eq_20, Mem.cell, Mem.row, wmA, f5, gx]
    rw [SK_bsl (cs := [.string ⟨⟨to⟩⟩]) (by simp [wkA, retV, stabOk, dC, ev, fillD, pickCells, putAt, bnd, slD, List.getElem?_cons_zero, List.getElem?_cons_succ, dR.eq_20]) (by simp)]
    rw [hM1]
    simp -implicitDefEqProofs (disch := first | assumption | (simp only [wnA]; done) | (simp only [wnA]; omega) | omega | fail) [wkA, retV, stabOk, dC, ev, fillD, pickCells, putAt, bnd, slD, List.getElem?_cons_zero, List.getElem?_cons_succ, dR.eq_20, Mem.cell, Mem.row, wmA]
    refine SK_ap (ob := none) (n := 0) (k := 1) (cs := ([] : List (List UInt8)).map strV) (ys := [.string ⟨⟨to⟩⟩]) ⟨rfl, rfl⟩ (by simp [wkA, retV, stabOk, dC, ev, fillD, pickCells, putAt, bnd, slD, List.getElem?_cons_zero, List.getElem?_cons_succ, dR.eq_20]; rfl) (by simp -implicitDefEqProofs (disch := first | assumption | (simp only [wnA]; done) | (simp only [wnA]; omega) | omega | fail) [wkA, retV, stabOk, dC, ev, fillD, pickCells, putAt, bnd, slD, List.getElem?_cons_zero, List.getElem?_cons_succ, dR.eq_20, elemsV, Mem.cell, Mem.row, wmA, g1]) (by simp [wkA, retV, stabOk, dC, ev, fillD, pickCells, putAt, bnd, slD, List.getElem?_cons_zero, List.getElem?_cons_succ, dR.eq_20]) (by omega) rfl (by omega) (by simp only [maxLen]; omega) rfl ?_
    have hM2' : (M1.kill none).push (.own (([] : List (List UInt8)).map strV ++ [.string ⟨⟨to⟩⟩]) 9) = M2 := hM2
    rw [hM2']
    simp -implicitDefEqProofs (disch := first | assumption | (simp only [wnA]; done) | (simp only [wnA]; omega) | omega | fail) [rc32_10, wkA, retV, stabOk, dC, ev, fillD, pickCells, putAt, bnd, slD, List.getElem?_cons_zero, List.getElem?_cons_succ, dR.eq_20, Mem.cell, Mem.row, wmA, f5, gx2, hsla']
    refine w_pto (t0 := [to]) (hA.old o2).sl (fun b hb => Nat.lt_of_lt_of_le (hA.bl b hb) o2.1) hsz hT1 (by simp) (by simp) (by simp) (by simp) (by simp) (by simp) ?_ (fun b hb => hA.bl b hb)
    intro fr3 m3 oa ob o3 hT3 e6 e7 es
    simp -implicitDefEqProofs (disch := first | assumption | (simp only [wnA]; done) | (simp only [wnA]; omega) | omega | fail) [rc32_6, wkA, retV, stabOk, dC, ev, fillD, pickCells, putAt, bnd, slD, List.getElem?_cons_zero, List.getElem?_cons_succ, dR.eq_20, Mem.cell, Mem.row, wmA, e7]
    have em : (arms.map Arm.pat).map (fun p => Value.string ⟨⟨p⟩⟩) = (arms.map Arm.pat).map strV := rfl
    have so' : SlO m3 9 1 ob ((arms.map Arm.pat).map fun p => Value.string ⟨⟨p⟩⟩) (arms.map Arm.pat).length := hT3.sb
    have hlp : arms.length = (arms.map Arm.pat).length := by rw [List.length_map]
    rw [hlp]
    have f0' := (es 0 (by simp)).trans (by simp [f0] : _ = v)
    refine hof rfl m3 ob _ (o3.part hp) so' (fun m4 w o4 _ _ _ _ _ _ => ?_) fun hG m4 e o4 hE => ?_
    · simp -implicitDefEqProofs (disch := first | assumption | (simp only [wnA]; done) | (simp only [wnA]; omega) | omega | fail) [wkA, retV, stabOk, dC, ev, fillD, pickCells, putAt, bnd, slD, List.getElem?_cons_zero, List.getElem?_cons_succ, dR.eq_20, Mem.cell, Mem.row, wmA]
      have hTos : tosOf ⟨lb, 1, tx, arms, n, to, pl⟩ = to :: arms.map Arm.to := by simp [tosOf]
      refine w_tos (ts0 := to :: arms.map Arm.to) (hv.old (o3.trans o4)) hl (hT3.old o4).sa (by simp; omega) (by simp [f0']) (by simp [e6]) (fun hall fr2 m2 oo ee => hq (by rw [hTos]; exact hall) fr2 m2 ((o3.trans o4).trans oo) fun i hi => ?_) (fun hex fr2 m2 u oo _ e3 => he (.inl (by rw [hTos]; exact hex)) fr2 m2 _ u ((o3.trans o4).trans oo) e3)
      have h1 := ee i (by simp only [List.mem_cons, List.not_mem_nil, or_false] at hi ⊢; omega)
      have h2 := es i (by simp only [List.mem_cons, List.not_mem_nil, or_false] at hi ⊢; omega)
      simp only [List.mem_cons, List.not_mem_nil, or_false] at hi
      rcases hi with rfl | rfl | rfl | rfl <;> (rw [h1]; simp [h2])
    · obtain ⟨t, u, rfl, hnum⟩ := hE
      simp -implicitDefEqProofs (disch := first | assumption | (simp only [wnA]; done) | (simp only [wnA]; omega) | omega | fail) [wkA, retV, stabOk, dC, ev, fillD, pickCells, putAt, bnd, slD, List.getElem?_cons_zero, List.getElem?_cons_succ, dR.eq_20, Mem.cell, Mem.row, wmA]
      refine hnum m4 _ ((o3.trans o4).part hp) fun m5 nn o5 => ?_
      simp -implicitDefEqProofs (disch := first | assumption | (simp only [wnA]; done) | (simp only [wnA]; omega) | omega | fail) [wkA, retV, stabOk, dC, ev, fillD, pickCells, putAt, bnd, slD, List.getElem?_cons_zero, List.getElem?_cons_succ, dR.eq_20, Mem.cell, Mem.row, wmA]
      exact he (.inr ⟨rfl, hG⟩) _ m5 _ _ ((o3.trans o4).trans o5) (by simp; exact ⟨rfl, rfl⟩)
  · by_cases h2 : kd = 2
    · subst h2
      simp -implicitDefEqProofs (disch := first | assumption | (simp only [wnA]; done) | (simp only [wnA]; omega) | omega | fail) [rc32_11, wkA, retV, stabOk, dC, ev, fillD, pickCells, putAt, bnd, slD, List.getElem?_cons_zero, List.getElem?_cons_succ, dR.eq_20, Mem.cell, Mem.row, wmA, f5, gx]
      rw [SK_bsl (cs := [.string ⟨⟨to⟩⟩]) (by simp [wkA, retV, stabOk, dC, ev, fillD, pickCells, putAt, bnd, slD, List.getElem?_cons_zero, List.getElem?_cons_succ, dR.eq_20]) (by simp)]
      rw [hM1]
      simp -implicitDefEqProofs (disch := first | assumption | (simp only [wnA]; done) | (simp only [wnA]; omega) | omega | fail) [wkA, retV, stabOk, dC, ev, fillD, pickCells, putAt, bnd, slD, List.getElem?_cons_zero, List.getElem?_cons_succ, dR.eq_20, Mem.cell, Mem.row, wmA]
      refine SK_ap (ob := none) (n := 0) (k := 1) (cs := ([] : List (List UInt8)).map strV) (ys := [.string ⟨⟨to⟩⟩]) ⟨rfl, rfl⟩ (by simp [wkA, retV, stabOk, dC, ev, fillD, pickCells, putAt, bnd, slD, List.getElem?_cons_zero, List.getElem?_cons_succ, dR.eq_20]; rfl) (by simp -implicitDefEqProofs (disch := first | assumption | (simp only [wnA]; done) | (simp only [wnA]; omega) | omega | fail) [wkA, retV, stabOk, dC, ev, fillD, pickCells, putAt, bnd, slD, List.getElem?_cons_zero, List.getElem?_cons_succ, dR.eq_20, elemsV, Mem.cell, Mem.row, wmA, g1]) (by simp [wkA, retV, stabOk, dC, ev, fillD, pickCells, putAt, bnd, slD, List.getElem?_cons_zero, List.getElem?_cons_succ, dR.eq_20]) (by omega) rfl (by omega) (by simp only [maxLen]; omega) rfl ?_
      have hM2' : (M1.kill none).push (.own (([] : List (List UInt8)).map strV ++ [.string ⟨⟨to⟩⟩]) 9) = M2 := hM2
      rw [hM2']
      simp -implicitDefEqProofs (disch := first | assumption | (simp only [wnA]; done) | (simp only [wnA]; omega) | omega | fail) [rc32_10, wkA, retV, stabOk, dC, ev, fillD, pickCells, putAt, bnd, slD, List.getElem?_cons_zero, List.getElem?_cons_succ, dR.eq_20, Mem.cell, Mem.row, wmA, f5, gx2]
      refine tos1 _ (by simp [f0]) (by simp) (fun i hi => ?_) (by simp [tosOf])
      simp only [List.mem_cons, List.not_mem_nil, or_false] at hi
      rcases hi with rfl | rfl | rfl | rfl <;> simp
    · by_cases h3 : kd = 3
      · subst h3
        simp -implicitDefEqProofs (disch := first | assumption | (simp only [wnA]; done) | (simp only [wnA]; omega) | omega | fail) [rc32_11, wkA, retV, stabOk, dC, ev, fillD, pickCells, putAt, bnd, slD, List.getElem?_cons_zero, List.getElem?_cons_succ, dR.eq_20, Mem.cell, Mem.row, wmA, f5, gx]
        rw [SK_bsl (cs := [.string ⟨⟨to⟩⟩]) (by simp [wkA, retV, stabOk, dC, ev, fillD, pickCells, putAt, bnd, slD, List.getElem?_cons_zero, List.getElem?_cons_succ, dR.eq_20]) (by simp)]
        rw [hM1]
        simp -implicitDefEqProofs (disch := first | assumption | (simp only [wnA]; done) | (simp only [wnA]; omega) | omega | fail) [wkA, retV, stabOk, dC, ev, fillD, pickCells, putAt, bnd, slD, List.getElem?_cons_zero, List.getElem?_cons_succ, dR.eq_20, Mem.cell, Mem.row, wmA]
        refine SK_ap (ob := none) (n := 0) (k := 1) (cs := ([] : List (List UInt8)).map strV) (ys := [.string ⟨⟨to⟩⟩]) ⟨rfl, rfl⟩ (by simp [wkA, retV, stabOk, dC, ev, fillD, pickCells, putAt, bnd, slD, List.getElem?_cons_zero, List.getElem?_cons_succ, dR.eq_20]; rfl) (by simp -implicitDefEqProofs (disch := first | assumption | (simp only [wnA]; done) | (simp only [wnA]; omega) | omega | fail) [wkA, retV, stabOk, dC, ev, fillD, pickCells, putAt, bnd, slD, List.getElem?_cons_zero, List.getElem?_cons_succ, dR.eq_20, elemsV, Mem.cell, Mem.row, wmA, g1]) (by simp [wkA, retV, stabOk, dC, ev, fillD, pickCells, putAt, bnd, slD, List.getElem?_cons_zero, List.getElem?_cons_succ, dR.eq_20]) (by omega) rfl (by omega) (by simp only [maxLen]; omega) rfl ?_
        have hM2' : (M1.kill none).push (.own (([] : List (List UInt8)).map strV ++ [.string ⟨⟨to⟩⟩]) 9) = M2 := hM2
        rw [hM2']
        simp -implicitDefEqProofs (disch := first | assumption | (simp only [wnA]; done) | (simp only [wnA]; omega) | omega | fail) [rc32_10, wkA, retV, stabOk, dC, ev, fillD, pickCells, putAt, bnd, slD, List.getElem?_cons_zero, List.getElem?_cons_succ, dR.eq_20, Mem.cell, Mem.row, wmA, f5, gx2]
        refine tos1 _ (by simp [f0]) (by simp) (fun i hi => ?_) (by simp [tosOf])
        simp only [List.mem_cons, List.not_mem_nil, or_false] at hi
        rcases hi with rfl | rfl | rfl | rfl <;> simp
      · simp -implicitDefEqProofs (disch := first | assumption | (simp only [wnA]; done) | (simp only [wnA]; omega) | omega | fail) [rc32_11, rc32_10, wkA, retV, stabOk, dC, ev, fillD, pickCells, putAt, bnd, slD, List.getElem?_cons_zero, List.getElem?_cons_succ, dR.eq_20, Mem.cell, Mem.row, wmA, f5, gx, beqF h1, beqF h2, beqF h3]
        have hTos : tosOf ⟨lb, kd, tx, arms, n, to, pl⟩ = [] := by simp [tosOf, h1, h2, h3]
        refine w_tos (ob := none) (ts0 := []) hv hl ⟨rfl, rfl⟩ (by simp) (by simp [f0]) (by simp; rfl) (fun hall fr2 m2 oo ee => hq (by rw [hTos]; exact hall) fr2 m2 oo fun i hi => ?_) (fun hex fr2 m2 u oo _ e3 => by obtain ⟨t, ht, -⟩ := hex; cases ht)
        have h1 := ee i (by simp only [List.mem_cons, List.not_mem_nil, or_false] at hi ⊢; omega)
        simp only [List.mem_cons, List.not_mem_nil, or_false] at hi
        rcases hi with rfl | rfl | rfl | rfl <;> (rw [h1]; simp)
theorem c_Check {w0 : World} {m : Mem} {v : Value} {l : List DV} {G : List (List UInt8) → Prop} {P : List (List UInt8) → List (Tab × List Bool) → Prop} {Q : Value → Mem → Prop} (hp : Part L0 m) (hv : DsV m v l) (hS : StepsOk w0 G P l)
    (hok : chkOk l → ∀ m', Old m m' → Q (.tuple ⟨[.int .i64 0, .nilIface]⟩) m')
    (herr : ¬ (chkOk l ∧ ∀ x ∈ l, x.1.kd = 1 → G (pats x.1)) → ∀ m' k t u, Old m m' → Q (.tuple ⟨[k, .iface t u]⟩) m') : AbC Tryz.prog w0 32 [v] m Q := by
  refine AbC_fn ok32 (by simp) ?_
  have hsl := hv.sl.slen
  have hll := hS.len
  by_cases hz : l.length = 0
  · have hz' : (l.length : Int) = 0 := by omega
    simp -implicitDefEqProofs (disch := first | assumption | (simp only [wnA]; done) | (simp only [wnA]; omega) | omega | fail) [rc32, ro32, wkA, retV, stabOk, dC, ev, fillD, pickCells, putAt, bnd, slD, List.getElem?_cons_zero, List.getElem?_cons_succ, dR.eq_20, Mem.cell, Mem.row, wmA, hsl, hz]
    exact herr (fun h => by have := h.1.1.1; omega) m _ _ _ (Old.refl m)
  · have hz' : ((l.length : Int) == 0) = false := beqF (by omega)
    by_cases h64 : 64 < l.length
    · have h64' : (64 : Int) < (l.length : Int) := by omega
      simp -implicitDefEqProofs (disch := first | assumption | (simp only [wnA]; done) | (simp only [wnA]; omega) | omega | fail) [rc32, ro32, wkA, retV, stabOk, dC, ev, fillD, pickCells, putAt, bnd, slD, List.getElem?_cons_zero, List.getElem?_cons_succ, dR.eq_20, Mem.cell, Mem.row, wmA, hsl, hz', gtT h64']
      exact herr (fun h => by have := h.1.1.2; omega) m _ _ _ (Old.refl m)
    · simp -implicitDefEqProofs (disch := first | assumption | (simp only [wnA]; done) | (simp only [wnA]; omega) | omega | fail) [rc32, ro32, rc32_15, wkA, retV, stabOk, dC, ev, fillD, pickCells, putAt, bnd, slD, List.getElem?_cons_zero, List.getElem?_cons_succ, dR.eq_20, Mem.cell, Mem.row, wmA, hsl, hz', gtF (show (l.length : Int) ≤ 64 by omega)]
      refine LoopW_of (fun q ts m' => ∃ j, j + q = l.length ∧ Old m m' ∧ (∀ k x, k < j → l[k]? = some x → chk1 l k x.1) ∧ ts 0 = v ∧ ts 23 = v ∧ ts 24 = .int .i64 (l.length : Nat) ∧ ts 25 = .int .i64 (j : Nat)) l.length ?_ ?_
      · exact ⟨0, by omega, Old.refl m, (fun k x hk => by omega), by simp [frA_at], by simp, by simp, by simp⟩
      · rintro q ts m1 K ⟨j, hj, o1, hall, t0, t23, t24, t25⟩ hK
        simp -implicitDefEqProofs (disch := first | assumption | (simp only [wnA]; done) | (simp only [wnA]; omega) | omega | fail) [rc32_13, wkA, retV, stabOk, dC, ev, fillD, pickCells, putAt, bnd, slD, List.getElem?_cons_zero, List.getElem?_cons_succ, dR.eq_20, Mem.cell, Mem.row, wmA, t24, t25]
        by_cases hjl : j < l.length
        · have hv1 := hv.old o1
          obtain ⟨bi, bo, L, hvv, hL, hLl, hLt, -⟩ := hv1.sl.at hjl
          rw [flat_at vC_len l (List.getElem?_eq_getElem hjl)] at hLt
          obtain ⟨x, hx⟩ : ∃ x, l[j] = x := ⟨_, rfl⟩
          have hxj : l[j]? = some x := by rw [List.getElem?_eq_getElem hjl, hx]
          have hxm : x ∈ l := by rw [← hx]; exact List.getElem_mem hjl
          have hA1 := hv1.ar x hxm
          have hone := hA1.sl.one
          have hsz := hS.sz x hxm
          have hof := hS.of x hxm
          rw [hx] at hLt
          have hsx : sidx 7 v (.int .i64 (j : Int)) = some (.pointer (some ⟨bi, bo + j * 7, none⟩)) := by rw [hvv]; exact sidx_at hjl
          have hle : bo + j * 7 + 7 ≤ L.length := by omega
          have hjw : IntKind.i64.wrap ((j : Int) + 1) = ((j + 1 : Nat) : Int) := by rw [w64 (by omega)]; omega
          obtain ⟨M, hM⟩ : ∃ M, (m1.push (.own [.string ⟨#[]⟩, .int .i64 0, .string ⟨#[]⟩, .slice none 0 0, .int .i64 0, .string ⟨#[]⟩, .int .i64 0] 29)).set m1.next (.own (putAt [.string ⟨#[]⟩, .int .i64 0, .string ⟨#[]⟩, .slice none 0 0, .int .i64 0, .string ⟨#[]⟩, .int .i64 0] 0 (vC x)) 29) = M := ⟨_, rfl⟩
          have oM : Old m1 M := by subst hM; exact ((Old.refl m1).push _).set (Nat.le_refl _) _
          have gM : M.get m1.next = .own (dsC x.1 x.2) 29 := by subst hM; rw [Mem.set_same]; rfl
          have nM : m1.next < M.next := by subst hM; simp
          have next : chk1 l j x.1 → ∀ (fr' : Fr) (M' : Mem), Old m M' → fr' 0 = ts 0 → fr' 23 = ts 23 → fr' 24 = ts 24 → fr' 25 = .int .i64 ((j + 1 : Nat) : Int) → K fr' M' := fun hc fr' M' oM' e0 e23 e24 e25 =>
            hK (q - 1) _ _ (by omega) ⟨j + 1, by omega, oM', fun k y hk hy => by
              by_cases hkj : k = j
              · subst hkj; rw [hxj] at hy; cases hy; exact hc
              · exact hall k y (by omega) hy, by rw [e0, t0], by rw [e23, t23], by rw [e24, t24], e25⟩
          have bad : ¬ chk1 l j x.1 → ¬ (chkOk l ∧ ∀ x ∈ l, x.1.kd = 1 → G (pats x.1)) := fun h hc => h (hc.1.2 j x hxj)
          have badG : x.1.kd = 1 → ¬ G (pats x.1) → ¬ (chkOk l ∧ ∀ x ∈ l, x.1.kd = 1 → G (pats x.1)) := fun hk h hc => h (hc.2 x hxm hk)
          obtain ⟨⟨lb, kd, tx, arms, n, to, pl⟩, av⟩ := x
          have gx : M.get m1.next = .own [.string ⟨⟨lb⟩⟩, .int .i64 kd, .string ⟨⟨tx⟩⟩, av, .int .i64 n, .string ⟨⟨to⟩⟩, .int .i64 pl] 29 := gM
          have hLt : (L.drop (bo + j * 7)).take 7 = [.string ⟨⟨lb⟩⟩, .int .i64 kd, .string ⟨⟨tx⟩⟩, av, .int .i64 n, .string ⟨⟨to⟩⟩, .int .i64 pl] := hLt
          simp only at hsz hof next bad badG hA1
          simp -implicitDefEqProofs (disch := first | assumption | (simp only [wnA]; done) | (simp only [wnA]; omega) | omega | fail) [hjl, rc32_12, wkA, retV, stabOk, dC, ev, fillD, pickCells, putAt, bnd, slD, List.getElem?_cons_zero, List.getElem?_cons_succ, dR.eq_20, Mem.cell, Mem.row, wmA, t0, t23, t25, hsx, hL, hLt, hle]
          refine SK_stm (i := m1.next) (o := 0) (vs := vC (⟨lb, kd, tx, arms, n, to, pl⟩, av)) (cs := [.string ⟨#[]⟩, .int .i64 0, .string ⟨#[]⟩, .slice none 0 0, .int .i64 0, .string ⟨#[]⟩, .int .i64 0]) (e := 29) (M := M) (by simp [wkA, retV, stabOk, dC, ev, fillD, pickCells, putAt, bnd, slD, List.getElem?_cons_zero, List.getElem?_cons_succ, dR.eq_20]) (by simp -implicitDefEqProofs (disch := first | assumption | (simp only [wnA]; done) | (simp only [wnA]; omega) | omega | fail) [wkA, retV, stabOk, dC, ev, fillD, pickCells, putAt, bnd, slD, List.getElem?_cons_zero, List.getElem?_cons_succ, dR.eq_20, Mem.cell, Mem.row, wmA]) (by simp [wkA, retV, stabOk, dC, ev, fillD, pickCells, putAt, bnd, slD, List.getElem?_cons_zero, List.getElem?_cons_succ, dR.eq_20, vC, dsC]) (by simp) rfl (by simp only [vC, dsC, List.all_cons, List.all_nil, hone.1]; rfl) hM ?_
          clear hM
          have hvM := hv1.old oM
          by_cases hlb : lb = []
          · subst hlb
            simp -implicitDefEqProofs (disch := first | assumption | (simp only [wnA]; done) | (simp only [wnA]; omega) | omega | fail) [wkA, retV, stabOk, dC, ev, fillD, pickCells, putAt, bnd, slD, List.getElem?_cons_zero, List.getElem?_cons_succ, dR.eq_20, Mem.cell, Mem.row, wmA, gx, t0]
            refine w_chk (G := G) (P := P) (x := (⟨[], kd, tx, arms, n, to, pl⟩, av)) ((o1.trans oM).part hp) hvM (by omega) (hA1.old oM) hsz.1 hof gM nM (by simp [t0]) (by simp) (fun hall fr' m' oo ee => ?_) fun hb fr' m' t u oo e3 => ?_
            · have e25 := (ee 25 (by simp)).trans (by simp [t25] : _ = Value.int .i64 (j : Int))
              simp -implicitDefEqProofs (disch := first | assumption | (simp only [wnA]; done) | (simp only [wnA]; omega) | omega | fail) [wkA, retV, stabOk, dC, ev, fillD, pickCells, putAt, bnd, slD, List.getElem?_cons_zero, List.getElem?_cons_succ, dR.eq_20, Mem.cell, Mem.row, wmA, e25, hjw]
              exact next (chk1_of (fun h => absurd rfl h) hall) _ m' ((o1.trans oM).trans oo) (by simpa [t0] using (ee 0 (by simp))) (by simpa [t23] using ee 23 (by simp)) (by simpa [t24] using ee 24 (by simp)) (by simp)
            · simp -implicitDefEqProofs (disch := first | assumption | (simp only [wnA]; done) | (simp only [wnA]; omega) | omega | fail) [wkA, retV, stabOk, dC, ev, fillD, pickCells, putAt, bnd, slD, List.getElem?_cons_zero, List.getElem?_cons_succ, dR.eq_20, Mem.cell, Mem.row, wmA, e3]
              refine herr ?_ m' _ _ _ ((o1.trans oM).trans oo)
              rcases hb with ⟨t', ht', hf'⟩ | ⟨hk, hG⟩
              · exact bad (chk1_not ht' hf')
              · exact badG hk hG
          · have hlb' : lb.isEmpty = false := by cases lb <;> simp at hlb ⊢
            simp -implicitDefEqProofs (disch := first | assumption | (simp only [wnA]; done) | (simp only [wnA]; omega) | omega | fail) [wkA, retV, stabOk, dC, ev, fillD, pickCells, putAt, bnd, slD, List.getElem?_cons_zero, List.getElem?_cons_succ, dR.eq_20, Mem.cell, Mem.row, wmA, gx, t0, hlb, hlb']
            refine c_Find hvM (by omega) fun m2 o2 => ?_
            have hv2 := hvM.old o2
            have g2 := (o2.2 _ nM).trans gM
            have n2 : m1.next < m2.next := Nat.lt_of_lt_of_le nM o2.1
            have o02 := (o1.trans oM).trans o2
            by_cases hf : findN lb l 0 = (j : Int)
            · simp -implicitDefEqProofs (disch := first | assumption | (simp only [wnA]; done) | (simp only [wnA]; omega) | omega | fail) [wkA, retV, stabOk, dC, ev, fillD, pickCells, putAt, bnd, slD, List.getElem?_cons_zero, List.getElem?_cons_succ, dR.eq_20, Mem.cell, Mem.row, wmA, hf, bne]
              refine w_chk (G := G) (P := P) (x := (⟨lb, kd, tx, arms, n, to, pl⟩, av)) (o02.part hp) hv2 (by omega) ((hA1.old oM).old o2) hsz.1 hof g2 n2 (by simp [t0]) (by simp) (fun hall fr' m' oo ee => ?_) fun hb fr' m' t u oo e3 => ?_
              · have e25 := (ee 25 (by simp)).trans (by simp [t25] : _ = Value.int .i64 (j : Int))
                simp -implicitDefEqProofs (disch := first | assumption | (simp only [wnA]; done) | (simp only [wnA]; omega) | omega | fail) [wkA, retV, stabOk, dC, ev, fillD, pickCells, putAt, bnd, slD, List.getElem?_cons_zero, List.getElem?_cons_succ, dR.eq_20, Mem.cell, Mem.row, wmA, e25, hjw]
                exact next (chk1_of (fun _ => hf) hall) _ m' (o02.trans oo) (by simpa [t0] using (ee 0 (by simp))) (by simpa [t23] using ee 23 (by simp)) (by simpa [t24] using ee 24 (by simp)) (by simp)
              · simp -implicitDefEqProofs (disch := first | assumption | (simp only [wnA]; done) | (simp only [wnA]; omega) | omega | fail) [wkA, retV, stabOk, dC, ev, fillD, pickCells, putAt, bnd, slD, List.getElem?_cons_zero, List.getElem?_cons_succ, dR.eq_20, Mem.cell, Mem.row, wmA, e3]
                refine herr ?_ m' _ _ _ (o02.trans oo)
                rcases hb with ⟨t', ht', hf'⟩ | ⟨hk, hG⟩
                · exact bad (chk1_not ht' hf')
                · exact badG hk hG
            · simp -implicitDefEqProofs (disch := first | assumption | (simp only [wnA]; done) | (simp only [wnA]; omega) | omega | fail) [wkA, retV, stabOk, dC, ev, fillD, pickCells, putAt, bnd, slD, List.getElem?_cons_zero, List.getElem?_cons_succ, dR.eq_20, Mem.cell, Mem.row, wmA, bneT hf]
              exact herr (bad fun hc => hf (hc.1 hlb)) m2 _ _ _ o02
        · have hjj : j = l.length := by omega
          subst hjj
          simp -implicitDefEqProofs (disch := first | assumption | (simp only [wnA]; done) | (simp only [wnA]; omega) | omega | fail) [hjl, rc32_14, wkA, retV, stabOk, dC, ev, fillD, pickCells, putAt, bnd, slD, List.getElem?_cons_zero, List.getElem?_cons_succ, dR.eq_20, Mem.cell, Mem.row, wmA]
          exact hok ⟨⟨by omega, by omega⟩, fun k x hx => hall k x (by
            rcases Nat.lt_or_ge k l.length with h' | h'
            · exact h'
            · rw [List.getElem?_eq_none h'] at hx; cases hx) hx⟩ m1 o1
end Go.Proofs.YtjlicambfepfiaaGreatDoor.Ab

set_option linter.unusedVariables false
set_option linter.unusedSimpArgs false
namespace Go.Proofs.YtjlicambfepfiaaGreatDoor.Ab
open Go Go.RowKit
set_option maxHeartbeats 4000000
set_option maxRecDepth 100000
theorem SK_mkm {P : Program} {w0 : World} {ts : Fr} {m : Mem} {R : Value → Mem → Prop} : SK P w0 (.e .mkm) ts m R = R (.map (some m.next)) (m.push (.map [] 0)) := rfl
/-- How a dialogue is at first. -/
def pl0 (im : Nat) : PlS := ⟨0, im, none, 0, 0, none, [], fun _ => 0⟩
theorem c_POf {w0 : World} {m : Mem} {v : Value} {l : List DV} {G : List (List UInt8) → Prop} {P : List (List UInt8) → List (Tab × List Bool) → Prop} {J : PlS → Prop} {Q : Value → Mem → Prop} (hp : Part L0 m) (hv : DsV m v l) (hS : StepsOk w0 G P l) (hJ : chkOk l → SafeJ G P l J ∧ ∀ im, J (pl0 im))
    (hgood : chkOk l → ∀ m' ip im sv s' out ob, RunR G P l 0 (pl0 im) [] s' out → PlayV [] m' ip sv l s' → Old m m' → (∀ i ∈ ownP ip s', m.next ≤ i) → SlO m' 5 1 ob (out.map byteV) out.length → (∀ i, ob = some i → m.next ≤ i) → Q (.tuple ⟨[.pointer (some ⟨ip, 0, none⟩), slV ob out.length 1]⟩) m')
    (hbad : ¬ (chkOk l ∧ ∀ x ∈ l, x.1.kd = 1 → G (pats x.1)) → ∀ m' ip im sv, PlayV [] m' ip sv l { pl0 im with st := 2 } → Old m m' → m.next ≤ ip → m.next ≤ im → Q (.tuple ⟨[.pointer (some ⟨ip, 0, none⟩), .slice none 0 0]⟩) m') :
    AbC Tryz.prog w0 25 [v] m Q := by
  refine AbC_fn ok25 (by simp) ?_
  have hel := hv.sl.elems
  have hlv := hv.sl.lenV
  have hll := hS.len
  have hone : (l.flatMap vC).all oneC = true := by
    rw [List.all_eq_true]
    intro c hc
    obtain ⟨x, hx, hc⟩ := List.mem_flatMap.1 hc
    have := (hv.ar x hx).sl.one.1
    simp only [vC, dsC, List.mem_cons, List.not_mem_nil, or_false] at hc
    rcases hc with rfl | rfl | rfl | rfl | rfl | rfl | rfl <;> first | rfl | exact this
  simp -implicitDefEqProofs (disch := first | assumption | (simp only [wnA]; done) | (simp only [wnA]; omega) | omega | fail) [rc25, ro25, wkA, retV, stabOk, dC, ev, fillD, pickCells, putAt, bnd, slD, List.getElem?_cons_zero, List.getElem?_cons_succ, dR.eq_20, Mem.cell, Mem.row, wmA]
  refine SK_app_new (k := l.length) (ys := l.flatMap vC) (by simp [wkA, retV, stabOk, dC, ev, fillD, pickCells, putAt, bnd, slD, List.getElem?_cons_zero, List.getElem?_cons_succ, dR.eq_20]) (by simpa [wkA, retV, stabOk, dC, ev, fillD, pickCells, putAt, bnd, slD, List.getElem?_cons_zero, List.getElem?_cons_succ, dR.eq_20] using hel) (by simpa [wkA, retV, stabOk, dC, ev, fillD, pickCells, putAt, bnd, slD, List.getElem?_cons_zero, List.getElem?_cons_succ, dR.eq_20] using hlv) hone (by omega) (by simp only [maxLen]; omega) (by rw [flat_len vC_len]) fun oc m1 sc hn1 hoc hge => ?_
  have o1 : Old m m1 := ⟨hn1, hge⟩
  simp -implicitDefEqProofs (disch := first | assumption | (simp only [wnA]; done) | (simp only [wnA]; omega) | omega | fail) [wkA, retV, stabOk, dC, ev, fillD, pickCells, putAt, bnd, slD, List.getElem?_cons_zero, List.getElem?_cons_succ, dR.eq_20, Mem.cell, Mem.row, wmA]
  rw [SK_mkm]
  simp -implicitDefEqProofs (disch := first | assumption | (simp only [wnA]; done) | (simp only [wnA]; omega) | omega | fail) [wkA, retV, stabOk, dC, ev, fillD, pickCells, putAt, bnd, slD, List.getElem?_cons_zero, List.getElem?_cons_succ, dR.eq_20, Mem.cell, Mem.row, wmA]
  obtain ⟨sv, hsv⟩ : ∃ sv, slV oc l.length 7 = sv := ⟨_, rfl⟩
  have hsv1 : oneC sv = true ∧ cellsV sv = [sv] := by subst hsv; cases oc <;> exact ⟨rfl, rfl⟩
  obtain ⟨M, hM⟩ : ∃ M, (m1.push (.map [] 0)).push (.own (plC sv (pl0 m1.next)) 105) = M := ⟨_, rfl⟩
  have oM : Old m1 M := by subst hM; exact ((Old.refl m1).push _).push _
  have gM : M.get (m1.next + 1) = .own (plC sv (pl0 m1.next)) 105 := by subst hM; rw [Mem.push_at _ _ (by simp)]
  have gm : M.get m1.next = .map [] 0 := by subst hM; rw [Mem.push_old _ _ (by simp), Mem.push_same]
  have nM : M.next = m1.next + 2 := by subst hM; simp
  have hown : ownP (m1.next + 1) (pl0 m1.next) = [m1.next + 1, m1.next] := by simp [ownP, pl0]
  have hP : PlayV [] M (m1.next + 1) sv l (pl0 m1.next) := by
    have hX : ∀ i, i < m1.next → i ∉ ownP (m1.next + 1) (pl0 m1.next) ++ [] := fun i hi hm => by
      rw [hown, List.append_nil] at hm
      simp only [List.mem_cons, List.not_mem_nil, or_false] at hm
      omega
    refine ⟨gM, ⟨⟨?_, fun b hb => ?_⟩, fun x hx => ⟨((hv.ar x hx).old (o1.trans oM)).sl, fun b hb => ?_⟩⟩, ⟨[], 0, gm, (fun e he => by cases he), fun k => rfl⟩, ⟨rfl, rfl⟩, (fun w hw => by cases hw), by rw [hown]; simp, fun i hi => ?_, (o1.trans oM).part hp, fun i hi => ?_, fun i _ hi => by cases hi⟩
    · subst hsv
      exact (sc.keep oM.1 fun b hb => oM.2 b (by subst hb; exact sc.lt)).read
    · subst hsv
      rw [blk_slV] at hb
      subst hb
      have := sc.lt
      exact ⟨by omega, hX b this⟩
    · have h1 := (hv.ar x hx).bl b hb
      exact ⟨by omega, hX b (by omega)⟩
    · rw [hown, List.append_nil] at hi
      simp only [List.mem_cons, List.not_mem_nil, or_false] at hi
      omega
    · rw [hown] at hi
      have := hp.1
      simp only [List.mem_cons, List.not_mem_nil, or_false] at hi
      omega
  have hM' : (m1.push (.map [] 0)).push (.own [slV oc l.length 7, .int .i64 0, .map (some m1.next), .pointer none, .int .i64 0, .int .i64 0, .int .i64 0, .slice none 0 0] 105) = M := by rw [hsv]; exact hM
  rw [hM']
  have o0M := o1.trans oM
  refine c_Check (G := G) (P := P) (o0M.part hp) (hv.old o0M) hS (fun hok m2 o2 => ?_) fun hb m2 k t u o2 => ?_
  · have hP2 := hP.old o2
    obtain ⟨hSJ, hJ0⟩ := hJ hok
    simp -implicitDefEqProofs (disch := first | assumption | (simp only [wnA]; done) | (simp only [wnA]; omega) | omega | fail) [rc25_0, wkA, retV, stabOk, dC, ev, fillD, pickCells, putAt, bnd, slD, List.getElem?_cons_zero, List.getElem?_cons_succ, dR.eq_20, Mem.cell, Mem.row, wmA]
    refine c_run hP2 hS hSJ (hJ0 _) (fun i hi => by cases hi) fun m3 s3 out ob hR hP3 k3 so hob how => ?_
    simp -implicitDefEqProofs (disch := first | assumption | (simp only [wnA]; done) | (simp only [wnA]; omega) | omega | fail) [wkA, retV, stabOk, dC, ev, fillD, pickCells, putAt, bnd, slD, List.getElem?_cons_zero, List.getElem?_cons_succ, dR.eq_20, Mem.cell, Mem.row, wmA]
    have o02 := o0M.trans o2
    have hbig : ∀ i ∈ ownP (m1.next + 1) (pl0 m1.next), m.next ≤ i := fun i hi => by
      rw [hown] at hi
      simp only [List.mem_cons, List.not_mem_nil, or_false] at hi
      omega
    refine hgood hok m3 (m1.next + 1) m1.next sv s3 out ob hR hP3 ⟨Nat.le_trans o02.1 k3.1, fun i hi => ?_⟩ (fun i hi => ?_) so fun i hi => Nat.le_trans o02.1 (hob i hi)
    · rw [k3.2 i (Nat.lt_of_lt_of_le hi o02.1) (fun hm => by have := hbig i hm; omega), o02.2 i hi]
    · rcases how i hi with h1 | h1
      · exact hbig i h1
      · exact Nat.le_trans o02.1 h1
  · have hP2 := hP.old o2
    simp -implicitDefEqProofs (disch := first | assumption | (simp only [wnA]; done) | (simp only [wnA]; omega) | omega | fail) [wkA, retV, stabOk, dC, ev, fillD, pickCells, putAt, bnd, slD, List.getElem?_cons_zero, List.getElem?_cons_succ, dR.eq_20, Mem.cell, Mem.row, wmA]
    refine hP2.store 0 0 2 6 (.int .i64 2) (by simp [wkA, retV, stabOk, dC, ev, fillD, pickCells, putAt, bnd, slD, List.getElem?_cons_zero, List.getElem?_cons_succ, dR.eq_20]) (by simp [wkA, retV, stabOk, dC, ev, fillD, pickCells, putAt, bnd, slD, List.getElem?_cons_zero, List.getElem?_cons_succ, dR.eq_20]) rfl (by omega) rfl fun M3 hP3 k3 => ?_
    simp -implicitDefEqProofs (disch := first | assumption | (simp only [wnA]; done) | (simp only [wnA]; omega) | omega | fail) [wkA, retV, stabOk, dC, ev, fillD, pickCells, putAt, bnd, slD, List.getElem?_cons_zero, List.getElem?_cons_succ, dR.eq_20, Mem.cell, Mem.row, wmA]
    refine hbad hb M3 (m1.next + 1) m1.next sv hP3 ⟨Nat.le_trans (o0M.trans o2).1 k3.1, fun i hi => ?_⟩ (by omega) (by omega)
    rw [k3.2 i (Nat.lt_of_lt_of_le hi (o0M.trans o2).1) (by omega), (o0M.trans o2).2 i hi]
end Go.Proofs.YtjlicambfepfiaaGreatDoor.Ab

set_option linter.unusedVariables false
set_option linter.unusedSimpArgs false
namespace Go.Proofs.YtjlicambfepfiaaGreatDoor.Ab
open Go Go.RowKit
set_option maxHeartbeats 4000000
set_option maxRecDepth 100000
theorem awkP : outIs (.bool true) (callE tab (xCall xs) Tryz.prog 3000 24 [] L0) = true := by kernel_rfl
theorem c_awakeP {w0 : World} {m : Mem} {Q : Value → Mem → Prop} (hp : Part L0 m) (hq : Q (.bool true) m) : AbC Tryz.prog w0 24 [] m Q :=
  AbC_run 3000 tab_ok xs_ok hp (Nat.le_of_eq globals_size) rfl awkP rfl hq
end Go.Proofs.YtjlicambfepfiaaGreatDoor.Ab

set_option linter.unusedVariables false
set_option linter.unusedSimpArgs false
namespace Go.Proofs.YtjlicambfepfiaaGreatDoor.Ab
open Go Go.RowKit
set_option maxHeartbeats 4000000
set_option maxRecDepth 100000
def sndS : DV := (⟨[], 0, [120], [], 0, [], 0⟩, .slice none 0 0)
def labS : DV := (⟨[97], 0, [120], [], 0, [], 0⟩, .slice none 0 0)
def gotoS : DV := (⟨[], 2, [], [], 0, [97], 0⟩, .slice none 0 0)
def lR (k : Nat) : List DV := labS :: (List.replicate (k - 1) sndS ++ [gotoS])
theorem lR_len {k : Nat} (hk : 1 ≤ k) : (lR k).length = k + 1 := by simp [lR]; omega
theorem lR_at {k r : Nat} (hk : 1 ≤ k) (hr : r ≤ k) : ∃ x, (lR k)[r]? = some x ∧ ((r < k ∧ (x = labS ∨ x = sndS)) ∨ (r = k ∧ x = gotoS)) := by
  unfold lR
  cases r with
  | zero => exact ⟨labS, rfl, .inl ⟨by omega, .inl rfl⟩⟩
  | succ r =>
    rw [List.getElem?_cons_succ]
    by_cases h : r < k - 1
    · refine ⟨sndS, ?_, .inl ⟨by omega, .inr rfl⟩⟩
      rw [List.getElem?_append_left (by simpa using h), List.getElem?_replicate, if_pos h]
    · have e : r = k - 1 := by omega
      refine ⟨gotoS, ?_, .inr ⟨by omega, rfl⟩⟩
      rw [List.getElem?_append_right (by simp; omega)]
      simp [e]
theorem lR_find (k : Nat) : findN [97] (lR k) 0 = 0 := by simp [lR, findN, labS]
theorem lR_mem {k : Nat} {x : DV} (h : x ∈ lR k) : x = labS ∨ x = sndS ∨ x = gotoS := by
  simp only [lR, List.mem_cons, List.mem_append, List.not_mem_nil, or_false] at h
  rcases h with h | h | h
  · exact .inl h
  · exact .inr (.inl (List.eq_of_mem_replicate h))
  · exact .inr (.inr h)
theorem lR_chk {k : Nat} (hk : 1 ≤ k ∧ k ≤ 20) : chkOk (lR k) := by
  refine ⟨⟨by rw [lR_len hk.1]; omega, by rw [lR_len hk.1]; omega⟩, fun j x hx => ?_⟩
  cases j with
  | zero =>
    have : x = labS := by simp only [lR, List.getElem?_cons_zero, Option.some.injEq] at hx; exact hx.symm
    subst this
    exact ⟨fun _ => lR_find k, fun h => by simp [labS] at h, fun h => by simp [labS] at h⟩
  | succ j =>
    have hm := List.mem_of_getElem? hx
    simp only [lR, List.getElem?_cons_succ] at hx
    have hm := List.mem_of_getElem? hx
    rcases List.mem_append.1 hm with hm | hm
    · have := List.eq_of_mem_replicate hm
      subst this
      exact ⟨fun h => absurd rfl h, fun h => by simp [sndS] at h, fun h => by simp [sndS] at h⟩
    · rw [List.mem_singleton] at hm
      subst hm
      exact ⟨fun h => absurd rfl h, fun h => by show 0 ≤ findN [97] (lR k) 0; rw [lR_find]; omega, fun h => by simp [gotoS] at h⟩
abbrev gR (ps : List (List UInt8)) : Prop := True
abbrev pR (ps : List (List UInt8)) (c : List (Tab × List Bool)) : Prop := True
theorem lR_ok {w0 : World} {k : Nat} (hk : 1 ≤ k ∧ k ≤ 20) : StepsOk w0 gR pR (lR k) := by
  refine ⟨by rw [lR_len hk.1]; omega, fun x hx => ?_, fun x hx h1 => ?_⟩
  · rcases lR_mem hx with rfl | rfl | rfl <;> simp [labS, sndS, gotoS]
  · rcases lR_mem hx with rfl | rfl | rfl <;> simp [labS, sndS, gotoS] at h1
theorem run_R {k : Nat} (hk : 1 ≤ k ∧ k ≤ 20) : ∀ {n : Nat} {s s' : PlS} {out out' : List UInt8}, RunR gR pR (lR k) n s out s' out' → ∀ q r, n = (k + 1) * q + r → r ≤ k → n ≤ 256 → s.st = 0 → s.wat = none → s.at_ = (r : Int) → out.length = k * q + r →
    s'.st = 2 ∧ s'.tr = s.tr ∧ ∃ q r, 256 = (k + 1) * q + r ∧ r ≤ k ∧ out'.length = k * q + r := by
  intro n s s' out out' h
  induction h with
  | stop n s out h => intro q r _ _ _ h0 h1 _ _; rcases h with h | h; exact absurd h0 h; exact absurd h1 h
  | ill n s out a1 a2 a3 =>
    intro q r hn hr hn2 h0 h1 hat hlen
    refine ⟨rfl, rfl, q, r, ?_, hr, hlen⟩
    rcases a3 with h | h
    · omega
    · rw [lR_len hk.1, hat] at h; omega
  | step n s s1 s2 x o out out2 a1 a2 a3 a4 hx hO hR ih =>
    intro q r hn hr hn2 h0 h1 hat hlen
    rw [hat, Int.toNat_natCast] at hx
    obtain ⟨y, hy, hcase⟩ := lR_at (r := r) hk.1 hr
    rw [hx] at hy
    cases hy
    rcases hcase with ⟨hrk, hxx⟩ | ⟨hrk, rfl⟩
    · have hkd : x.1.kd = 0 ∧ x.1.tx = [120] := by rcases hxx with rfl | rfl <;> exact ⟨rfl, rfl⟩
      cases hO with
      | send h =>
        refine ih q (r + 1) (by omega) (by omega) (by omega) h0 h1 ?_ ?_
        · show IntKind.i64.wrap (s.at_ + 1) = _
          rw [hat, w64 (by omega)]; omega
        · rw [List.length_append, hlen, hkd.2]; rfl
      | exp w b1 => rw [hkd.1] at b1; simp at b1
      | expN b1 => rw [hkd.1] at b1; simp at b1
      | goto h => rw [hkd.1] at h; simp at h
      | tryA h => rw [hkd.1] at h; simp at h
      | tryB h => rw [hkd.1] at h; simp at h
      | done h => rw [hkd.1] at h; simp at h
      | fail h => rw [hkd.1] at h; simp at h
    · subst hrk
      cases hO with
      | send h => simp [gotoS] at h
      | exp w b1 => simp [gotoS] at b1
      | expN b1 => simp [gotoS] at b1
      | goto h =>
        refine ih (q + 1) 0 (by rw [Nat.mul_add]; omega) (by omega) (by omega) h0 h1 (lR_find r) ?_
        rw [List.length_append, hlen, Nat.mul_add]; simp
      | tryA h => simp [gotoS] at h
      | tryB h => simp [gotoS] at h
      | done h => simp [gotoS] at h
      | fail b0 b1 b2 => simp [gotoS] at b2
theorem posR {k : Nat} (hk : 1 ≤ k ∧ k ≤ 20) : SafeJ gR pR (lR k) (fun s => 0 ≤ s.at_) := by
  refine ⟨fun s h => h, fun s x s' o hs h0 hw hx hO => ?_⟩
  have hs : 0 ≤ s.at_ := hs
  have hlt : s.at_.toNat < (lR k).length := by
    rcases Nat.lt_or_ge s.at_.toNat (lR k).length with h' | h'
    · exact h'
    · rw [List.getElem?_eq_none h'] at hx; cases hx
  rw [lR_len hk.1] at hlt
  have hxx := lR_mem (List.mem_of_getElem? hx)
  have hgo : x = labS ∨ x = sndS ∨ x = gotoS := hxx
  cases hO with
  | send h => show 0 ≤ IntKind.i64.wrap (s.at_ + 1); rw [w64 (by omega)]; omega
  | exp w b1 => rcases hgo with rfl | rfl | rfl <;> simp [labS, sndS, gotoS] at b1
  | expN b1 => rcases hgo with rfl | rfl | rfl <;> simp [labS, sndS, gotoS] at b1
  | goto h =>
    rcases hgo with rfl | rfl | rfl
    · simp [labS] at h
    · simp [sndS] at h
    · show 0 ≤ findN [97] (lR k) 0
      rw [lR_find]; omega
  | tryA h => rcases hgo with rfl | rfl | rfl <;> simp [labS, sndS, gotoS] at h
  | tryB h => rcases hgo with rfl | rfl | rfl <;> simp [labS, sndS, gotoS] at h
  | done h => exact hs
  | fail h => exact hs
end Go.Proofs.YtjlicambfepfiaaGreatDoor.Ab

set_option linter.unusedVariables false
set_option linter.unusedSimpArgs false
namespace Go.Proofs.YtjlicambfepfiaaGreatDoor.Ab
open Go Go.RowKit
set_option maxHeartbeats 4000000
set_option maxRecDepth 100000
theorem l_PRound {w0 : World} {m : Mem} {n : Nat} (hn : n ≤ 255) (hp : Part L0 m) : AbC Tryz.prog w0 10 [.int .u8 (n : Int)] m fun v _ => v = .bool true := by
  refine AbC_fn ok10 (by simp) ?_
  simp -implicitDefEqProofs (disch := first | assumption | (simp only [wnA]; done) | (simp only [wnA]; omega) | omega | fail) [rc10, ro10, wkA, retV, stabOk, dC, ev, fillD, pickCells, putAt, bnd, slD, List.getElem?_cons_zero, List.getElem?_cons_succ, dR.eq_20, Mem.cell, Mem.row, wmA]
  refine c_awakeP hp ?_
  have r1 : dBin .rem (.int .u8 (n : Int)) (.int .u8 20) = some (.int .u8 ((n % 20 : Nat) : Int)) := rem_u8 (b := 20) (by omega)
  have hk9 : n % 20 < 20 := Nat.mod_lt _ (by omega)
  generalize n % 20 = k0 at *
  have e1 : IntKind.i64.wrap (k0 : Int) = (k0 : Int) := w64 (by omega)
  have e2 : IntKind.i64.wrap (1 + (k0 : Int)) = 1 + (k0 : Int) := w64 (by omega)
  simp -implicitDefEqProofs (disch := first | assumption | (simp only [wnA]; done) | (simp only [wnA]; omega) | omega | fail) [rc10_3, wkA, retV, stabOk, dC, ev, fillD, pickCells, putAt, bnd, slD, List.getElem?_cons_zero, List.getElem?_cons_succ, dR.eq_20, Mem.cell, Mem.row, wmA, r1, e1, e2]
  obtain ⟨k, hk⟩ : ∃ k : Nat, 1 + (k0 : Int) = (k : Int) := ⟨1 + k0, by omega⟩
  simp only [hk]
  have hk1 : 1 ≤ k ∧ k ≤ 20 := by omega
  clear r1 e1 e2 hk hk9
  refine LoopW_of (fun q ts m' => ∃ (j : Nat) (ob : Option Nat), j + q = k ∧ Old m m' ∧ SlO m' 29 7 ob ((List.replicate j sndS).flatMap vC) j ∧ (∀ i, ob = some i → m.next ≤ i) ∧ ts 3 = .int .i64 (k : Nat) ∧ ts 4 = slV ob j 7 ∧ ts 5 = .int .i64 (j : Nat)) k ?_ ?_
  · exact ⟨0, none, by omega, Old.refl m, ⟨rfl, rfl⟩, (fun i hi => by cases hi), by simp, by simp; rfl, by simp⟩
  · rintro q ts m1 K ⟨j, ob, hj, o1, so, hob, t3, t4, t5⟩ hK
    simp -implicitDefEqProofs (disch := first | assumption | (simp only [wnA]; done) | (simp only [wnA]; omega) | omega | fail) [rc10_1, wkA, retV, stabOk, dC, ev, fillD, pickCells, putAt, bnd, slD, List.getElem?_cons_zero, List.getElem?_cons_succ, dR.eq_20, Mem.cell, Mem.row, wmA, t3, t5]
    by_cases hjk : j < k
    · have hjw : IntKind.i64.wrap ((j : Int) + 1) = ((j + 1 : Nat) : Int) := by rw [w64 (by omega)]; omega
      simp -implicitDefEqProofs (disch := first | assumption | (simp only [wnA]; done) | (simp only [wnA]; omega) | omega | fail) [hjk, rc10_0, wkA, retV, stabOk, dC, ev, fillD, pickCells, putAt, bnd, slD, List.getElem?_cons_zero, List.getElem?_cons_succ, dR.eq_20, Mem.cell, Mem.row, wmA, t4]
      rw [SK_bsl (cs := vC sndS) (by simp [wkA, retV, stabOk, dC, ev, fillD, pickCells, putAt, bnd, slD, List.getElem?_cons_zero, List.getElem?_cons_succ, dR.eq_20, vC, dsC, sndS]) (by simp [vC, dsC, sndS])]
      obtain ⟨M2, hM2⟩ : ∃ M, m1.push (.own (vC sndS) 29) = M := ⟨_, rfl⟩
      have o2 : Old m1 M2 := by subst hM2; exact (Old.refl m1).push _
      have g2 : M2.get m1.next = .own (vC sndS) 29 := by subst hM2; rw [Mem.push_same]
      have g2' : M2.get m1.next = .own [.string ⟨⟨[]⟩⟩, .int .i64 0, .string ⟨⟨[120]⟩⟩, .slice none 0 0, .int .i64 0, .string ⟨⟨[]⟩⟩, .int .i64 0] 29 := g2
      have so2 : SlO M2 29 7 ob ((List.replicate j sndS).flatMap vC) j := so.keep o2.1 fun b hb => o2.2 b (by subst hb; exact so.lt)
      rw [hM2]
      clear hM2
      simp -implicitDefEqProofs (disch := first | assumption | (simp only [wnA]; done) | (simp only [wnA]; omega) | omega | fail) [wkA, retV, stabOk, dC, ev, fillD, pickCells, putAt, bnd, slD, List.getElem?_cons_zero, List.getElem?_cons_succ, dR.eq_20, Mem.cell, Mem.row, wmA, t4]
      refine SK_ap (ob := ob) (n := j) (k := 1) (cs := (List.replicate j sndS).flatMap vC) (ys := vC sndS) so2 (by simp [wkA, retV, stabOk, dC, ev, fillD, pickCells, putAt, bnd, slD, List.getElem?_cons_zero, List.getElem?_cons_succ, dR.eq_20, t4]) (by simp -implicitDefEqProofs (disch := first | assumption | (simp only [wnA]; done) | (simp only [wnA]; omega) | omega | fail) [wkA, retV, stabOk, dC, ev, fillD, pickCells, putAt, bnd, slD, List.getElem?_cons_zero, List.getElem?_cons_succ, dR.eq_20, elemsV, Mem.cell, Mem.row, wmA, g2', vC, dsC, sndS]) (by simp [wkA, retV, stabOk, dC, ev, fillD, pickCells, putAt, bnd, slD, List.getElem?_cons_zero, List.getElem?_cons_succ, dR.eq_20]) (by omega) rfl (by omega) (by simp only [maxLen]; omega) rfl ?_
      obtain ⟨M3, hM3⟩ : ∃ M, (M2.kill ob).push (.own ((List.replicate j sndS).flatMap vC ++ vC sndS) 29) = M := ⟨_, rfl⟩
      have o3 : Old m M3 := by subst hM3; exact ((o1.trans o2).kill hob).push _
      have s3 : SlO M3 29 7 (some M2.next) ((List.replicate (j + 1) sndS).flatMap vC) (j + 1) := by
        have e : (List.replicate (j + 1) sndS).flatMap vC = (List.replicate j sndS).flatMap vC ++ vC sndS := by rw [List.replicate_succ', List.flatMap_append]; simp
        rw [e]; subst hM3
        exact SlO.new (by rw [List.length_append, so.1]; show j * 7 + 7 = _; omega)
      have hle : m.next ≤ M2.next := (o1.trans o2).1
      rw [hM3]
      clear hM3
      simp -implicitDefEqProofs (disch := first | assumption | (simp only [wnA]; done) | (simp only [wnA]; omega) | omega | fail) [wkA, retV, stabOk, dC, ev, fillD, pickCells, putAt, bnd, slD, List.getElem?_cons_zero, List.getElem?_cons_succ, dR.eq_20, Mem.cell, Mem.row, wmA, t5, hjw]
      exact hK (q - 1) _ _ (by omega) ⟨j + 1, some M2.next, by omega, o3, s3, fun i hi => by cases hi; exact hle, by simp [t3], by simp, by simp⟩
    · have hjk' : j = k := by omega
      subst hjk'
      obtain ⟨b, rfl⟩ : ∃ b, ob = some b := by
        cases ob with
        | none => have := so.2; omega
        | some b => exact ⟨b, rfl⟩
      have gb := so.2.1
      have hlb := so.lt
      have hsl : slV (some b) j 7 = .slice (some ⟨b, 0, none⟩) j 7 := rfl
      have i0 : sidx 7 (.slice (some ⟨b, 0, none⟩) j 7) (.int .i64 0) = some (.pointer (some ⟨b, 0, none⟩)) := by simpa using sidx_at (b := b) (o := 0) (n := j) (c := 7) (j := 0) (sz := 7) (k := .i64) (by omega)
      obtain ⟨M2, hM2⟩ : ∃ M, m1.set b (.own (putAt ((List.replicate j sndS).flatMap vC) 0 [.string ⟨⟨[97]⟩⟩]) 29) = M := ⟨_, rfl⟩
      have hput : putAt ((List.replicate j sndS).flatMap vC) 0 [.string ⟨⟨[97]⟩⟩] = (labS :: List.replicate (j - 1) sndS).flatMap vC := by
        have e : List.replicate j sndS = sndS :: List.replicate (j - 1) sndS := by
          rw [← List.replicate_succ]; congr 1; omega
        rw [e]
        simp [putAt, vC, dsC, sndS, labS]
      have hlen1 : (labS :: List.replicate (j - 1) sndS).length = j := by simp; omega
      have g2 : M2.get b = .own ((labS :: List.replicate (j - 1) sndS).flatMap vC) 29 := by rw [← hM2, Mem.set_same, hput]
      have o2 : Old m M2 := by subst hM2; exact o1.set (hob b rfl) _
      have s2 : SlO M2 29 7 (some b) ((labS :: List.replicate (j - 1) sndS).flatMap vC) j := ⟨by rw [flat_len vC_len, hlen1], g2, by subst hM2; exact hlb⟩
      simp -implicitDefEqProofs (disch := first | assumption | (simp only [wnA]; done) | (simp only [wnA]; omega) | omega | fail) [hjk, rc10_2, wkA, retV, stabOk, dC, ev, fillD, pickCells, putAt, bnd, slD, List.getElem?_cons_zero, List.getElem?_cons_succ, dR.eq_20, Mem.cell, Mem.row, wmA, t4, hsl, i0]
      refine SK_stm (i := b) (o := 0) (vs := [.string ⟨⟨[97]⟩⟩]) (cs := (List.replicate j sndS).flatMap vC) (e := 29) (M := M2) (by simp [wkA, retV, stabOk, dC, ev, fillD, pickCells, putAt, bnd, slD, List.getElem?_cons_zero, List.getElem?_cons_succ, dR.eq_20]) gb (by simp [wkA, retV, stabOk, dC, ev, fillD, pickCells, putAt, bnd, slD, List.getElem?_cons_zero, List.getElem?_cons_succ, dR.eq_20]) (by rw [so.1]; omega) rfl rfl hM2 ?_
      clear hM2
      simp -implicitDefEqProofs (disch := first | assumption | (simp only [wnA]; done) | (simp only [wnA]; omega) | omega | fail) [wkA, retV, stabOk, dC, ev, fillD, pickCells, putAt, bnd, slD, List.getElem?_cons_zero, List.getElem?_cons_succ, dR.eq_20, Mem.cell, Mem.row, wmA, t4]
      rw [SK_bsl (cs := vC gotoS) (by simp [wkA, retV, stabOk, dC, ev, fillD, pickCells, putAt, bnd, slD, List.getElem?_cons_zero, List.getElem?_cons_succ, dR.eq_20, vC, dsC, gotoS]) (by simp [vC, dsC, gotoS])]
      obtain ⟨M3, hM3⟩ : ∃ M, M2.push (.own (vC gotoS) 29) = M := ⟨_, rfl⟩
      have o3 : Old M2 M3 := by subst hM3; exact (Old.refl M2).push _
      have g3' : M3.get M2.next = .own [.string ⟨⟨[]⟩⟩, .int .i64 2, .string ⟨⟨[]⟩⟩, .slice none 0 0, .int .i64 0, .string ⟨⟨[97]⟩⟩, .int .i64 0] 29 := by subst hM3; rw [Mem.push_same]; rfl
      have s3 : SlO M3 29 7 (some b) ((labS :: List.replicate (j - 1) sndS).flatMap vC) j := s2.keep o3.1 fun b' hb => o3.2 b' (by cases hb; exact s2.lt)
      rw [hM3]
      clear hM3
      simp -implicitDefEqProofs (disch := first | assumption | (simp only [wnA]; done) | (simp only [wnA]; omega) | omega | fail) [wkA, retV, stabOk, dC, ev, fillD, pickCells, putAt, bnd, slD, List.getElem?_cons_zero, List.getElem?_cons_succ, dR.eq_20, Mem.cell, Mem.row, wmA, t4]
      refine SK_ap (ob := some b) (n := j) (k := 1) (cs := (labS :: List.replicate (j - 1) sndS).flatMap vC) (ys := vC gotoS) s3 (by simp [wkA, retV, stabOk, dC, ev, fillD, pickCells, putAt, bnd, slD, List.getElem?_cons_zero, List.getElem?_cons_succ, dR.eq_20, hsl]) (by simp -implicitDefEqProofs (disch := first | assumption | (simp only [wnA]; done) | (simp only [wnA]; omega) | omega | fail) [wkA, retV, stabOk, dC, ev, fillD, pickCells, putAt, bnd, slD, List.getElem?_cons_zero, List.getElem?_cons_succ, dR.eq_20, elemsV, Mem.cell, Mem.row, wmA, g3', vC, dsC, gotoS]) (by simp [wkA, retV, stabOk, dC, ev, fillD, pickCells, putAt, bnd, slD, List.getElem?_cons_zero, List.getElem?_cons_succ, dR.eq_20]) (by omega) rfl (by omega) (by simp only [maxLen]; omega) rfl ?_
      obtain ⟨M4, hM4⟩ : ∃ M, (M3.kill (some b)).push (.own ((labS :: List.replicate (j - 1) sndS).flatMap vC ++ vC gotoS) 29) = M := ⟨_, rfl⟩
      have o4 : Old m M4 := by subst hM4; exact ((o2.trans o3).kill hob).push _
      have hall : (labS :: List.replicate (j - 1) sndS).flatMap vC ++ vC gotoS = (lR j).flatMap vC := by simp [lR]
      have s4 : SlO M4 29 7 (some M3.next) ((lR j).flatMap vC) (lR j).length := by
        rw [← hall]; subst hM4
        exact SlO.new (by rw [List.length_append, s3.1, lR_len hk1.1]; show j * 7 + 7 = _; omega)
      have hv4 : slV (some M3.next) (j + 1) 7 = slV (some M3.next) (lR j).length 7 := by rw [lR_len hk1.1]
      have hD : DsV M4 (slV (some M3.next) (lR j).length 7) (lR j) := by
        refine ⟨s4.read, fun b' hb => by rw [blk_slV] at hb; cases hb; exact s4.lt, fun x hx => ?_⟩
        rcases lR_mem hx with rfl | rfl | rfl <;> exact ⟨⟨rfl, .inl ⟨rfl, .inl rfl⟩⟩, fun b' hb => by cases hb⟩
      rw [hM4]
      clear hM4
      simp only [hv4]
      generalize slV (some M3.next) (lR j).length 7 = v4 at *
      simp -implicitDefEqProofs (disch := first | assumption | (simp only [wnA]; done) | (simp only [wnA]; omega) | omega | fail) [wkA, retV, stabOk, dC, ev, fillD, pickCells, putAt, bnd, slD, List.getElem?_cons_zero, List.getElem?_cons_succ, dR.eq_20, Mem.cell, Mem.row, wmA]
      refine c_POf (G := gR) (P := pR) (J := fun s => 0 ≤ s.at_) (o4.part hp) hD (lR_ok hk1) (fun _ => ⟨posR hk1, fun im => by show (0 : Int) ≤ 0; omega⟩) (fun _ M5 ip im sv s5 out ob5 hR hP5 o5 hown so5 hob5 => ?_) fun hbad => absurd ⟨lR_chk hk1, fun _ _ _ => trivial⟩ hbad
      obtain ⟨hst, htr, q2, r2, h256, hr2, hlen⟩ := run_R hk1 hR 0 0 (by omega) (by omega) (by omega) rfl rfl rfl (by simp)
      have hsl5 := so5.slen
      have hL : out.length ≤ 256 := by
        have : j * q2 ≤ (j + 1) * q2 := Nat.mul_le_mul_right _ (by omega)
        omega
      have hX : (256 * j) / (j + 1) ≤ out.length := by
        rw [hlen]
        refine Nat.div_le_of_le_mul ?_
        have e1 : ((j + 1) * q2 + r2) * j = (j + 1) * (j * q2) + r2 * j := by rw [Nat.add_mul, Nat.mul_assoc, Nat.mul_comm q2 j]
        have e2 : r2 * j ≤ (j + 1) * r2 := by rw [Nat.mul_comm r2 j]; exact Nat.mul_le_mul_right _ (by omega)
        rw [Nat.mul_add]
        have e3 : 256 * j = ((j + 1) * q2 + r2) * j := by rw [← h256]
        omega
      generalize out.length = L at *
      obtain ⟨D, hD2⟩ : ∃ D, (256 * j) / (j + 1) = D := ⟨_, rfl⟩
      rw [hD2] at hX
      have w1 : IntKind.i64.wrap (256 * (j : Int)) = ((256 * j : Nat) : Int) := by rw [w64 (by omega)]; omega
      have w2 : IntKind.i64.wrap ((j : Int) + 1) = ((j + 1 : Nat) : Int) := by rw [w64 (by omega)]; omega
      have w3 : dBin .quo (.int .i64 ((256 * j : Nat) : Int)) (.int .i64 ((j + 1 : Nat) : Int)) = some (.int .i64 (D : Int)) := by
        have e : ((256 * j : Nat) : Int).tdiv ((j + 1 : Nat) : Int) = (D : Int) := by rw [Int.tdiv_eq_ediv_of_nonneg (by omega), ← hD2]; rfl
        show (if (IntKind.i64 = IntKind.i64) then (if ((j + 1 : Nat) : Int) = 0 then none else some (Value.int .i64 (IntKind.i64.wrap (((256 * j : Nat) : Int).tdiv ((j + 1 : Nat) : Int))))) else none) = _
        rw [if_pos rfl, if_neg (by omega), e, w64 (by omega)]
      have w4 : IntKind.i64.wrap ((D : Int) - 1) = (D : Int) - 1 := w64 (by omega)
      have hL' : (L : Int) ≤ 256 := by omega
      have hX' : (D : Int) - 1 ≤ (L : Int) := by omega
      have w3' : dBin .quo (.int .i64 (256 * (j : Int))) (.int .i64 ((j : Int) + 1)) = some (.int .i64 (D : Int)) := by
        have : (256 * (j : Int)) = ((256 * j : Nat) : Int) := by omega
        rw [this]; exact w3
      have w1' : IntKind.i64.wrap (256 * (j : Int)) = 256 * (j : Int) := w64 (by omega)
      have w2' : IntKind.i64.wrap ((j : Int) + 1) = (j : Int) + 1 := w64 (by omega)
      simp -implicitDefEqProofs (disch := first | assumption | (simp only [wnA]; done) | (simp only [wnA]; omega) | omega | fail) [wkA, retV, stabOk, dC, ev, fillD, pickCells, putAt, bnd, slD, List.getElem?_cons_zero, List.getElem?_cons_succ, dR.eq_20, Mem.cell, Mem.row, wmA]
      refine c_State hP5 ?_
      simp -implicitDefEqProofs (disch := first | assumption | (simp only [wnA]; done) | (simp only [wnA]; omega) | omega | fail) [wkA, retV, stabOk, dC, ev, fillD, pickCells, putAt, bnd, slD, List.getElem?_cons_zero, List.getElem?_cons_succ, dR.eq_20, Mem.cell, Mem.row, wmA, hst, hsl5, hL', t3, w1', w2', w3', w4, hX']
      have htl : s5.tr.length = 0 := by rw [htr]; rfl
      refine c_Trace hP5 (by omega) fun M6 ob6 o6 so6 _ => ?_
      have hs6 := so6.slen
      rw [htl] at hs6 ⊢
      simp -implicitDefEqProofs (disch := first | assumption | (simp only [wnA]; done) | (simp only [wnA]; omega) | omega | fail) [wkA, retV, stabOk, dC, ev, fillD, pickCells, putAt, bnd, slD, List.getElem?_cons_zero, List.getElem?_cons_succ, dR.eq_20, Mem.cell, Mem.row, wmA, hs6]
theorem l_PRoundI {w0 : World} {m : Mem} {n : Int} (h1 : (Lit.int .u8 n).wf = true) (hp : Part L0 m) : AbC Tryz.prog w0 10 [.int .u8 n] m fun v _ => v = .bool true := by
  have a1 := wf_u8 h1
  obtain ⟨a, rfl⟩ : ∃ a : Nat, n = (a : Int) := ⟨n.toNat, by omega⟩
  exact l_PRound (by omega) hp
end Go.Proofs.YtjlicambfepfiaaGreatDoor.Ab

namespace Go.Proofs.YtjlicambfepfiaaGreatDoor.playRound
open Go Go.ChangeShapes Go.WideShapes Go.ChangeAt Go.RowKit Go.Proofs.YtjlicambfepfiaaGreatDoor.Ab
set_option linter.unusedVariables false
theorem own : ownKnob Tryz.prog.godebug = none := by kernel_rfl
theorem laidOut : laidOutB Tryz.prog = true := by kernel_rfl
set_option maxRecDepth 100000 in
theorem contract (H : Type) (enc : TypeId × Value → H) (W : World) (base : Nat) (args : Array Value) (ds gs : List (DataW H)) (before : List MemPlace)
    (hval : ∀ (j : Nat) t v, Tryz.f10.params[j]? = some t → args[j]? = some v → Value.okWide Tryz.prog W .any base t v)
    (hW : DataW.Whole enc Tryz.prog Tryz.f10.params.toList Rows.playRoundSpec.vars false W args.toList ds gs before) (hL : laidMetH Tryz.prog Rows.playRoundRow.laid W) :
    Calls Tryz.prog 10 args W fun e W' => ∃ v, e = .returned v ∧ Rows.playRoundSpec.post enc Tryz.prog Tryz.f10 false true false false W args v W' := by
  have hW' := hW
  obtain ⟨hL', hLh⟩ := (show laidMet Tryz.prog (Rows.playRoundRow.laid.filter fun x => x.2.handleName?.isNone) W ∧ handlesMet Tryz.prog (Rows.playRoundRow.laid.filter fun x => x.2.handleName?.isSome) W from hL)
  obtain ⟨p, q, hA0, hV, rfl, hfz, hnd⟩ := hW
  have hA : DataW.TrodAll enc Tryz.prog W 0 (fun _ => true) true Tryz.f10.params.toList args.toList ds p := hA0
  rw [Tryz.params10] at hA hval
  obtain ⟨v0, vs0, d0, ds0, p0, q0, hargs, rfl, rfl, h0, r0⟩ := trodAll_cons hA
  obtain ⟨rfl, rfl, rfl⟩ := trodAll_nil r0
  obtain rfl : args = #[v0] := by cases args; simp_all
  obtain ⟨rfl, rfl⟩ := trodVars_none hV
  obtain ⟨a0, rfl⟩ := okWide_int Tryz.underlying5 (hval 0 5 v0 rfl rfl)
  have lt0 : ∀ x ∈ p0, x.block < W.heap.size := by obtain ⟨m, hm⟩ := h0; exact DataW.trod_lt m _ _ _ hm
  have s : St Tryz.prog W (G0 Tryz.prog) (toMem L0) W := St.laid globals_size L0_get laid_ok (laidIn hL' (List.mem_of_getElem? (i := 0) rfl) (List.mem_of_getElem? (i := 1) rfl) (List.mem_of_getElem? (i := 2) rfl))
  have hp : Part L0 (toMem L0) := Part.of L0_part (Nat.le_refl _) fun _ _ => rfl
  obtain ⟨G0, m0, x0, t0, g0, s0, u0, b0, f0, k0⟩ := arg_one (k := 5) (s := .int .u8) (by kernel_rfl) h0 rfl s
  have hp := g0.part hp
  refine (AbC_true s0 (.cons _ _ _ _ u0 .nil) ((by obtain ⟨n1, hx1, -, w1⟩ := absT_int b0 f0; cases hx1; exact l_PRoundI w1 hp)) (by kernel_rfl)).mono fun e W' ⟨he, bel⟩ => ?_
  subst he
  exact ⟨_, rfl, _, _, _, [], _, [], hW', trodAll_mk1 (shut_bool Tryz.underlying4 _), (trodAll_cons_mk (Below.trod laidOut (by kernel_rfl) (of_decide_eq_true (by kernel_rfl)) h0 bel lt0) trodAll_mk0), rfl, bel.frame _, fun h => by cases h⟩
noncomputable def laidWorld (os : Os) : World :=
  let N := (World.settled Tryz.prog os).heap.size
  { World.holding Tryz.prog os ⟨#[.cells #[.string ⟨#[118, 97, 108, 117, 101, 32, 111, 117, 116, 32, 111, 102, 32, 114, 97, 110, 103, 101]⟩] 226, .cells #[.string ⟨#[105, 110, 118, 97, 108, 105, 100, 32, 115, 121, 110, 116, 97, 120]⟩] 226], #[], []⟩ with heap := (((((((World.holding Tryz.prog os ⟨#[.cells #[.string ⟨#[118, 97, 108, 117, 101, 32, 111, 117, 116, 32, 111, 102, 32, 114, 97, 110, 103, 101]⟩] 226, .cells #[.string ⟨#[105, 110, 118, 97, 108, 105, 100, 32, 115, 121, 110, 116, 97, 120]⟩] 226], #[], []⟩).heap.modify 5 fun | .cells _ t frozen => .cells ⟨e32⟩ t frozen | o => o).modify 6 fun | .cells _ t frozen => .cells ⟨e64⟩ t frozen | o => o).modify 2 fun | .cells _ t frozen => .cells ⟨e10⟩ t frozen | o => o).modify 4 fun | .cells _ t frozen => .cells #[.iface 224 (.pointer (some ⟨N, 0, none⟩))] t frozen | o => o).modify 3 fun | .cells _ t frozen => .cells #[.iface 224 (.pointer (some ⟨N + 1, 0, none⟩))] t frozen | o => o).modify 0 fun | .cells _ t frozen => .cells #[.iface 158 (.agg #[.pointer (some ⟨7, 36, none⟩)])] t frozen | o => o) }
theorem laid_met (os : Os) : laidMetH Tryz.prog Rows.playRoundRow.laid ((laidWorld os).forCall (fun _ _ => 0) ⟨#[], #[(.int .u8 0 : Value)], []⟩).memory :=
  laidMetH_of_parts (laidMet_of_run' 8 (by kernel_rfl) (by kernel_rfl)) (by kernel_rfl)
theorem reads (os : Os) {H : Type} (enc : TypeId × Value → H) : ∃ places, DataW.whole enc Tryz.prog ((laidWorld os).forCall (fun _ _ => 0) ⟨#[], #[(.int .u8 0 : Value)], []⟩).memory Tryz.f10.params.toList Rows.playRoundSpec.vars false [(.int .u8 0 : Value)] 8 = some ([.lit (.int .u8 0)], [], places) :=
  ⟨[], by kernel_rfl⟩
set_option maxRecDepth 100000 in
theorem lifted (os : Os) (started : os.Started) (H : Type) (enc : TypeId × Value → H) (F : Stop.Interp) :
    ReturnsInHanded {} Tryz.checked os 10 .any ((OpenSpec.ofChange Rows.playRoundSpec).preRow enc Tryz.prog Tryz.f10 Rows.playRoundRow.domain false Rows.playRoundRow.laid) (((OpenSpec.ofChange Rows.playRoundSpec).at F).post enc Tryz.prog Tryz.f10 false true false false) := by
  obtain ⟨places, hx⟩ := reads os enc
  refine returnsInHanded_of_row (C := Tryz.checked) (s := (OpenSpec.ofChange Rows.playRoundSpec)) own started (by kernel_rfl) Tryz.func10
    (witness_row_atRef (enc := enc) (C := Tryz.checked) false (laidWorld os) #[(.int .u8 0 : Value)] rfl (by kernel_rfl) (by kernel_rfl) (by kernel_rfl)
      (OpenSpec.preRow_of_cond 8 hx (by kernel_rfl) (fun k hk => by cases hk) (by kernel_rfl) (laid_met os))) ?_
  intro W base args ds gs before hval hW _ _ _ hL _ _
  exact contract H enc W base args ds gs before hval hW hL
theorem over : Rows.PlayRoundSaid :=
  OpenClaim.holds_of_cond 10 Tryz.f10 rfl rfl rfl rfl rfl rfl rfl ⟨rfl, rfl, rfl, rfl, rfl⟩ rfl rfl rfl rfl rfl (by kernel_rfl) Tryz.func10 (by kernel_rfl)
    (of_decide_eq_true (by kernel_rfl)) (by unfold Func.isWrapper; first | (rw [if_pos (by decide +kernel)]; kernel_rfl) | (rw [if_neg (by decide +kernel)]; exact ⟨rfl, rfl⟩))
    (fun os started H enc _ F => by rw [OpenClaim.pre_eq_preRow]; exact lifted os started H enc F)
theorem plain (f : FuncId) (fn : Func) (hf : Tryz.pinned.checked.prog.funcNamed "lifeline/lifelinelaw18.PlayRound" = some f) (hfn : Tryz.pinned.checked.prog.funcs[f]? = some fn) :
    true = Tryz.pinned.checked.prog.looks [] ∧ ∀ (j : Nat) t, fn.params[j]? = some t → Tryz.pinned.checked.prog.wantsStandIn t = false := by
  obtain rfl : f = 10 := Option.some.inj ((show Tryz.prog.funcNamed "lifeline/lifelinelaw18.PlayRound" = some 10 by kernel_rfl).symm.trans hf) |>.symm
  obtain rfl : fn = Tryz.f10 := (Option.some.inj (Tryz.func10.symm.trans hfn)).symm
  refine ⟨by kernel_rfl, fun j t ht => ?_⟩
  rw [Tryz.params10] at ht
  have hall : ∀ t ∈ [5], Tryz.prog.wantsStandIn t = false := by
    intro t ht
    simp only [List.mem_cons, List.mem_nil_iff, or_false] at ht
    rcases ht with rfl <;> kernel_rfl
  exact hall t (by simpa using Array.mem_of_getElem? ht)
theorem proved : Rows.PlayRoundCardSaid :=
  Claim7.holds_tied_plain_at .later [] _ _ _ _ over (fun _ h => by cases h) (by kernel_rfl) (fun _ h => by cases h) playRound_row_tie rfl ⟨rfl, rfl⟩ (by kernel_rfl) rfl plain (by kernel_rfl)
#print axioms proved
end Go.Proofs.YtjlicambfepfiaaGreatDoor.playRound
