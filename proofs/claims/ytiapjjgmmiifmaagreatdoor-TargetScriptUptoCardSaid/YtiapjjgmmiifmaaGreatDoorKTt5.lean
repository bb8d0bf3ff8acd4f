/- Parts of a proof, put together: A file's receiver: bytes that come, a tick; a new one. -/
import Derived.Test.YtiapjjgmmiifmaaGreatDoorKTt4
import Derived.Lib.ItoaMem
import Derived.KernelRfl
set_option linter.unusedVariables false
set_option linter.unusedSimpArgs false
namespace Go.Proofs.YtiapjjgmmiifmaaGreatDoor.Ab
open Go Go.RowKit
set_option maxHeartbeats 4000000
set_option maxRecDepth 100000
theorem Sep.rot2 {m0 m : Mem} {V : Nat → Prop} {L : HL} {a b : Option Nat × Ent} (h : Sep m0 V m (a :: b :: L)) : Sep m0 V m (L ++ [a, b]) := h.perm (List.perm_append_comm (l₁ := [a, b]) (l₂ := L))
theorem Sep.rot1 {m0 m : Mem} {V : Nat → Prop} {L : HL} {a : Option Nat × Ent} (h : Sep m0 V m (a :: L)) : Sep m0 V m (L ++ [a]) := h.perm (List.perm_append_comm (l₁ := [a]) (l₂ := L))
theorem takeF_data (s : Rc) (n : UInt8) (d : List UInt8) : (takeF s n d).1.data.length ≤ s.data.length + d.length := by
  unfold takeF
  split
  · rw [finF_data]; simp
  · split
    · simp
    · rw [finF_data]; simp
theorem scaF_data (s : Rc) : (scaF s).1.data.length ≤ s.data.length + 1024 ∧ (scaF s).1.buffer.length ≤ s.buffer.length := by
  unfold scaF
  split
  · exact ⟨by simp, Nat.le_refl _⟩
  · split
    · exact ⟨by simp, by simp⟩
    · refine ⟨?_, ?_⟩
      · refine Nat.le_trans (takeF_data _ _ _) ?_
        have := (scanF_len s.buffer s.crc).1
        show s.data.length + _ ≤ _
        omega
      · rw [takeF_buf]; simp
theorem rPut1_data (s : Rc) : (rPut1 s).1.data.length ≤ s.data.length + 1024 ∧ (rPut1 s).1.buffer.length ≤ s.buffer.length := by
  unfold rPut1
  split
  · exact ⟨by simp, Nat.le_refl _⟩
  · split
    · exact ⟨by simp, Nat.le_refl _⟩
    · split
      · exact ⟨by simp, Nat.le_refl _⟩
      · exact scaF_data s
theorem rPutF_data (s : Rc) (b : List UInt8) : (rPutF s b).1.data.length ≤ s.data.length + 1024 ∧ (rPutF s b).1.buffer.length ≤ s.buffer.length + b.length := by
  unfold rPutF
  split
  · exact ⟨by simp, by simp⟩
  · have := rPut1_data { s with left := s.wait, buffer := s.buffer ++ b }
    simpa using this
theorem rTickF_data (s : Rc) : (rTickF s).1.data = s.data ∧ (rTickF s).1.buffer.length ≤ s.buffer.length := by
  unfold rTickF
  split
  · simp
  · split
    · simp
    · split
      · simp
      · split <;> simp
noncomputable def bPutF (s : Br) (b : List UInt8) : Br × List UInt8 := if s.over = true then (s, []) else (aftF { s with part := (rPutF s.part b).1 }, (rPutF s.part b).2)
noncomputable def bTickF (s : Br) : Br × List UInt8 := if s.over = true then (s, []) else (aftF { s with part := (rTickF s.part).1 }, (rTickF s.part).2)
def BrQ (V : Nat → Prop) (m : Mem) (ib : Nat) (r : Br × List UInt8) (Q : Value → Mem → Prop) : Prop :=
  ∀ oo H' M, Sep m V M (byH oo r.2 :: H') → BrR H' ib r.1 → (oo = none → r.2.length = 0) → Q (slV oo r.2.length 1) M
theorem c_bGo {w0 : World} {V : Nat → Prop} {m M : Mem} {ib ip : Nat} {od oo : Option Nat} {dl o : List UInt8} {HP : HL} {s : Br} {p : Rc} {Q : Value → Mem → Prop} (ht : Ten w0) (hE : ErrV w0)
    (h : Sep m V M ((byH oo o :: HP) ++ [(some ib, .own (brC s ip (slV od s.data.length 1)) 104), byH od dl])) (hP : RcR HP ip p) (hoo : oo = none → o.length = 0) (hdt : s.data = dl.take s.data.length) (hod : od = none → s.data.length = 0) (hw : BrW s) (hno : s.over = false) (hbig : p.data.length ≤ 140737488355328)
    (hq : BrQ V m ib (aftF { s with part := p }, o) Q) : AbC Tryz.prog w0 53 [.pointer (some ⟨ib, 0, none⟩), slV oo o.length 1] M Q := by
  have h1 : Sep m V M (((some ib, .own (brC s ip (slV od s.data.length 1)) 104) :: byH od dl :: HP) ++ [byH oo o]) := h.perm (by
    have e : ((byH oo o :: HP) ++ [(some ib, .own (brC s ip (slV od s.data.length 1)) 104), byH od dl]).Perm ([(some ib, .own (brC s ip (slV od s.data.length 1)) 104), byH od dl] ++ (byH oo o :: HP)) := List.perm_append_comm
    refine e.trans (((List.Perm.cons _ (List.Perm.cons _ ?_))))
    exact (List.perm_append_comm (l₁ := [byH oo o]) (l₂ := HP)))
  refine c_bAfter ht hE (s := { s with part := p }) h1.fr ⟨⟨ip, HP, od, dl, rfl, hP, hdt, hod⟩, ⟨hw.1, hw.2, hw.3, hw.4, hw.5, hw.6⟩⟩ hno hbig fun M2 H2 h2 hR2 => ?_
  exact hq oo H2 M2 ((h1.un h2).perm List.perm_append_comm) hR2 hoo
theorem c_bPut {w0 : World} {V : Nat → Prop} {m : Mem} {H : HL} {ib : Nat} {s : Br} {v : Value} {b : List UInt8} {Q : Value → Mem → Prop} (ht : Ten w0) (hE : ErrV w0) (h : Sep m V m H) (hR : BrR H ib s) (hr : RdV V m 1 v (b.map byteV) b.length)
    (hbig : s.part.data.length + 1024 ≤ 140737488355328) (hbb : s.part.buffer.length + b.length ≤ 140737488355328) (hq : BrQ V m ib (bPutF s b) Q) :
    AbC Tryz.prog w0 42 [.pointer (some ⟨ib, 0, none⟩), v] m Q := by
  refine AbC_fn ok42 (by simp) ?_
  have hR0 := hR
  obtain ⟨⟨ip, HP, od, dl, rfl, hP, hdt, hod⟩, hw⟩ := hR
  have g0 := h.get 0 rfl
  simp only [brC] at g0
  unfold bPutF at hq
  cases hov : s.over with
  | true =>
    rw [if_pos hov] at hq
    rw [hov] at g0
    simp -implicitDefEqProofs (disch := first | assumption | omega | fail) [rc42, ro42, wkB, retV, stabOk, dC, ev, fillD, pickCells, putAt, bnd, slD, List.getElem?_cons_zero, List.getElem?_cons_succ, Mem.cell, Mem.row, cells_own, cells_ro, g0]
    exact hq none _ m (h.non _) hR0 fun _ => rfl
  | false =>
    rw [if_neg (by rw [hov]; simp)] at hq
    rw [hov] at g0
    simp -implicitDefEqProofs (disch := first | assumption | omega | fail) [rc42, ro42, wkB, retV, stabOk, dC, ev, fillD, pickCells, putAt, bnd, slD, List.getElem?_cons_zero, List.getElem?_cons_succ, Mem.cell, Mem.row, cells_own, cells_ro, g0, rc42_0]
    have h' : Sep m V m (HP ++ [(some ib, .own (brC s ip (slV od s.data.length 1)) 104), byH od dl]) := h.rot2
    refine c_rPut h'.fr hP (hr.mono fun i _ hi => .inl hi) hbig hbb fun oo HP2 M hM hP2 hoo => ?_
    simp -implicitDefEqProofs (disch := first | assumption | omega | fail) [wkB, retV, stabOk, dC, ev, fillD, pickCells, putAt, bnd, slD, List.getElem?_cons_zero, List.getElem?_cons_succ, Mem.cell, Mem.row, cells_own, cells_ro]
    have hd := (rPutF_data s.part b).1
    refine c_bGo ht hE (h'.un hM) hP2 hoo hdt hod hw hov (by omega) fun oo2 H2 M2 h2 hR2 hoo2 => ?_
    simp -implicitDefEqProofs (disch := first | assumption | omega | fail) [wkB, retV, stabOk, dC, ev, fillD, pickCells, putAt, bnd, slD, List.getElem?_cons_zero, List.getElem?_cons_succ, Mem.cell, Mem.row, cells_own, cells_ro]
    exact hq oo2 H2 M2 h2 hR2 hoo2
theorem c_bTick {w0 : World} {V : Nat → Prop} {m : Mem} {H : HL} {ib : Nat} {s : Br} {Q : Value → Mem → Prop} (ht : Ten w0) (hE : ErrV w0) (h : Sep m V m H) (hR : BrR H ib s)
    (hbig : s.part.data.length ≤ 140737488355328) (hq : BrQ V m ib (bTickF s) Q) :
    AbC Tryz.prog w0 40 [.pointer (some ⟨ib, 0, none⟩)] m Q := by
  refine AbC_fn ok40 (by simp) ?_
  have hR0 := hR
  obtain ⟨⟨ip, HP, od, dl, rfl, hP, hdt, hod⟩, hw⟩ := hR
  have g0 := h.get 0 rfl
  simp only [brC] at g0
  unfold bTickF at hq
  cases hov : s.over with
  | true =>
    rw [if_pos hov] at hq
    rw [hov] at g0
    simp -implicitDefEqProofs (disch := first | assumption | omega | fail) [rc40, ro40, wkB, retV, stabOk, dC, ev, fillD, pickCells, putAt, bnd, slD, List.getElem?_cons_zero, List.getElem?_cons_succ, Mem.cell, Mem.row, cells_own, cells_ro, g0]
    exact hq none _ m (h.non _) hR0 fun _ => rfl
  | false =>
    rw [if_neg (by rw [hov]; simp)] at hq
    rw [hov] at g0
    simp -implicitDefEqProofs (disch := first | assumption | omega | fail) [rc40, ro40, wkB, retV, stabOk, dC, ev, fillD, pickCells, putAt, bnd, slD, List.getElem?_cons_zero, List.getElem?_cons_succ, Mem.cell, Mem.row, cells_own, cells_ro, g0, rc40_0]
    have h' : Sep m V m (HP ++ [(some ib, .own (brC s ip (slV od s.data.length 1)) 104), byH od dl]) := h.rot2
    refine c_rTick h'.fr hP fun oo HP2 M hM hP2 hoo => ?_
    simp -implicitDefEqProofs (disch := first | assumption | omega | fail) [wkB, retV, stabOk, dC, ev, fillD, pickCells, putAt, bnd, slD, List.getElem?_cons_zero, List.getElem?_cons_succ, Mem.cell, Mem.row, cells_own, cells_ro]
    have hd := (rTickF_data s.part).1
    refine c_bGo ht hE (h'.un hM) hP2 hoo hdt hod hw hov (by rw [hd]; omega) fun oo2 H2 M2 h2 hR2 hoo2 => ?_
    simp -implicitDefEqProofs (disch := first | assumption | omega | fail) [wkB, retV, stabOk, dC, ev, fillD, pickCells, putAt, bnd, slD, List.getElem?_cons_zero, List.getElem?_cons_succ, Mem.cell, Mem.row, cells_own, cells_ro]
    exact hq oo2 H2 M2 h2 hR2 hoo2
theorem c_bDone {w0 : World} {V : Nat → Prop} {m0 m : Mem} {l H : HL} {ib : Nat} {s : Br} {Q : Value → Mem → Prop} (h : Sep m0 V m l) (hR : BrR H ib s) (hs : ∀ p ∈ H, p ∈ l)
    (hq : Q (.tuple ⟨[.bool s.over, errV s.err]⟩) m) : AbC Tryz.prog w0 49 [.pointer (some ⟨ib, 0, none⟩)] m Q := by
  refine AbC_fn ok49 (by simp) ?_
  obtain ⟨⟨ip, HP, od, dl, rfl, hP, hdt, hod⟩, hw⟩ := hR
  have g0 := h.mem (hs _ (List.mem_cons_self ..))
  simp only [brC] at g0
  simp -implicitDefEqProofs (disch := first | assumption | omega | fail) [rc49, ro49, wkB, retV, stabOk, dC, ev, fillD, pickCells, putAt, bnd, slD, List.getElem?_cons_zero, List.getElem?_cons_succ, Mem.cell, Mem.row, cells_own, cells_ro, g0]
  exact hq
theorem c_bData {w0 : World} {V : Nat → Prop} {m : Mem} {H : HL} {ib : Nat} {s : Br} {Q : Value → Mem → Prop} (h : Sep m V m H) (hR : BrR H ib s)
    (hq : ∀ oo M, Sep m V M (byH oo s.data :: H) → (oo = none → s.data.length = 0) → Q (slV oo s.data.length 1) M) : AbC Tryz.prog w0 50 [.pointer (some ⟨ib, 0, none⟩)] m Q := by
  refine AbC_fn ok50 (by simp) ?_
  obtain ⟨⟨ip, HP, od, dl, rfl, hP, hdt, hod⟩, hw⟩ := hR
  have g0 := h.get 0 rfl
  simp only [brC] at g0
  have hle : s.data.length ≤ dl.length := by
    have := congrArg List.length hdt
    rw [List.length_take] at this
    omega
  have hr : SlR m 1 (slV od s.data.length 1) (s.data.map byteV) s.data.length := by
    refine ⟨by simp, ?_⟩
    cases od with
    | none => exact .inl ⟨hod rfl, .inl (by rw [hod rfl]; rfl)⟩
    | some k =>
      have gk := h.get 1 rfl
      exact .inr ⟨k, 0, dl.map byteV, rfl, by rw [gk]; rfl, by simp; exact hle, by rw [Nat.mul_one, List.drop_zero, ← List.map_take, ← hdt]⟩
  have hbig := hw.dl
  simp -implicitDefEqProofs (disch := first | assumption | omega | fail) [rc50, ro50, wkB, retV, stabOk, dC, ev, fillD, pickCells, putAt, bnd, slD, List.getElem?_cons_zero, List.getElem?_cons_succ, Mem.cell, Mem.row, cells_own, cells_ro, g0]
  refine SK_nwS h (k := s.data.length) (ys := s.data.map byteV) (by simp [wkB, retV, stabOk, dC, ev, fillD, pickCells, putAt, bnd, slD, List.getElem?_cons_zero, List.getElem?_cons_succ, Mem.cell, Mem.row, cells_own, cells_ro]) (by simp [wkB, retV, stabOk, dC, ev, fillD, pickCells, putAt, bnd, slD, List.getElem?_cons_zero, List.getElem?_cons_succ, Mem.cell, Mem.row, cells_own, cells_ro]; exact hr.elems) (by simp [wkB, retV, stabOk, dC, ev, fillD, pickCells, putAt, bnd, slD, List.getElem?_cons_zero, List.getElem?_cons_succ, Mem.cell, Mem.row, cells_own, cells_ro]; exact hr.lenV) (byteV_oneC _) (by omega) (by unfold maxLen; omega) (by simp) fun oo m1 h1 hn1 _ => ?_
  simp -implicitDefEqProofs (disch := first | assumption | omega | fail) [wkB, retV, stabOk, dC, ev, fillD, pickCells, putAt, bnd, slD, List.getElem?_cons_zero, List.getElem?_cons_succ, Mem.cell, Mem.row, cells_own, cells_ro]
  exact hq oo m1 h1 hn1
def bTake (tr wt : Int) : Br := ⟨tr, wt, rOf tr wt 0 true false 1, 0, zFl, [], false, 0⟩
theorem c_bTake {w0 : World} {V : Nat → Prop} {m0 m : Mem} {l : HL} {tr wt : Int} {Q : Value → Mem → Prop} (h : Sep m0 V m l)
    (hq : ∀ ib H M, Sep m0 V M (H ++ l) → BrR H ib (bTake tr wt) → Q (.pointer (some ⟨ib, 0, none⟩)) M) :
    AbC Tryz.prog w0 60 [.agg ⟨[.int .i64 tr, .int .i64 wt]⟩] m Q := by
  refine AbC_fn ok60 (by simp) ?_
  simp -implicitDefEqProofs (disch := first | assumption | omega | fail) [rc60, ro60, wkB, retV, stabOk, dC, ev, fillD, pickCells, putAt, bnd, slD, List.getElem?_cons_zero, List.getElem?_cons_succ, Mem.cell, Mem.row, cells_own, cells_ro]
  refine SK_bxS h (cs := [.int .i64 tr, .int .i64 wt]) (by simp [wkB, retV, stabOk, dC, ev, fillD, pickCells, putAt, bnd, slD, List.getElem?_cons_zero, List.getElem?_cons_succ, Mem.cell, Mem.row, cells_own, cells_ro]) fun B m1 h1 _ _ => ?_
  have g1 := h1.get 0 rfl
  simp -implicitDefEqProofs (disch := first | assumption | omega | fail) [wkB, retV, stabOk, dC, ev, fillD, pickCells, putAt, bnd, slD, List.getElem?_cons_zero, List.getElem?_cons_succ, Mem.cell, Mem.row, cells_own, cells_ro, g1]
  refine c_rOf (n := 0) h1 fun ir2 H2 m8 h8 hR8 => ?_
  have h8 := h8.perm List.perm_append_comm
  have g8 := h8.get 0 rfl
  simp -implicitDefEqProofs (disch := first | assumption | omega | fail) [wkB, retV, stabOk, dC, ev, fillD, pickCells, putAt, bnd, slD, List.getElem?_cons_zero, List.getElem?_cons_succ, Mem.cell, Mem.row, cells_own, cells_ro, g8]
  refine SK_bxS h8 (cs := brC (bTake tr wt) ir2 (.slice none 0 0)) (by simp [wkB, retV, stabOk, dC, ev, fillD, pickCells, putAt, bnd, slD, List.getElem?_cons_zero, List.getElem?_cons_succ, Mem.cell, Mem.row, cells_own, cells_ro, brC, bTake, zFl]; rfl) fun ib m2 h2 _ _ => ?_
  simp -implicitDefEqProofs (disch := first | assumption | omega | fail) [wkB, retV, stabOk, dC, ev, fillD, pickCells, putAt, bnd, slD, List.getElem?_cons_zero, List.getElem?_cons_succ, Mem.cell, Mem.row, cells_own, cells_ro]
  refine hq ib ((some ib, .own (brC (bTake tr wt) ir2 (.slice none 0 0)) 104) :: (none, .own [] 5) :: H2) m2 ?_ ⟨⟨ir2, H2, none, [], rfl, hR8, rfl, fun _ => rfl⟩, ⟨by show (0 : Int) ≤ 0; omega, by show (0 : Int) ≤ 3; omega, by show (0 : Int) ≤ 0; omega, (fun _ => by show (0 : Int) ≤ 2; omega), by show (0 : Int) ≤ 8192; omega, by show (0 : Nat) ≤ 8192; omega⟩⟩
  have h3 := ((h2.del 1).non (.own [] 5))
  refine h3.perm ?_
  show List.Perm ((none, .own [] 5) :: (some ib, .own (brC (bTake tr wt) ir2 (.slice none 0 0)) 104) :: (l ++ H2)) ((some ib, .own (brC (bTake tr wt) ir2 (.slice none 0 0)) 104) :: (none, .own [] 5) :: (H2 ++ l))
  exact (List.Perm.swap _ _ _).trans ((List.perm_append_comm.cons _).cons _)
end Go.Proofs.YtiapjjgmmiifmaaGreatDoor.Ab

set_option linter.unusedVariables false
set_option linter.unusedSimpArgs false
namespace Go.Proofs.YtiapjjgmmiifmaaGreatDoor.Ab
open Go Go.RowKit
set_option maxHeartbeats 4000000
set_option maxRecDepth 100000
def prStep (r : Nat × Nat) (c : UInt8) : Nat × Nat := ((r.1 + c.toNat) % 65521, (r.2 + (r.1 + c.toNat) % 65521 + 1) % 65521)
def prL (l : List UInt8) : Nat × Nat := l.foldl prStep (0, 0)
def prN (l : List UInt8) : Nat := Nat.lor ((prL l).2 * 65536) (prL l).1
theorem prL_take {l : List UInt8} {j : Nat} (hj : j < l.length) : prL (l.take (j + 1)) = prStep (prL (l.take j)) l[j] := by
  unfold prL
  rw [List.take_add_one, List.getElem?_eq_getElem hj, List.foldl_append]; rfl
theorem prS_lt : ∀ (l : List UInt8) (r : Nat × Nat), r.1 < 65521 → r.2 < 65521 → (l.foldl prStep r).1 < 65521 ∧ (l.foldl prStep r).2 < 65521
  | [], r, h, k => ⟨h, k⟩
  | c :: l, r, h, k => prS_lt l (prStep r c) (Nat.mod_lt _ (by omega)) (Nat.mod_lt _ (by omega))
theorem prL_lt (l : List UInt8) : (prL l).1 < 65521 ∧ (prL l).2 < 65521 := prS_lt l (0, 0) (by omega) (by omega)
theorem prN_lt (l : List UInt8) : prN l < 4294967296 := by
  have h := prL_lt l
  exact Nat.or_lt_two_pow (n := 32) (by omega) (by omega)
theorem w32 {z : Nat} (h : z < 4294967296) : IntKind.u32.wrap (z : Int) = (z : Int) := by
  simp only [IntKind.wrap, IntKind.bits, IntKind.signed]
  simp
  omega
theorem rem32 {z : Nat} : dBin .rem (.int .u32 (z : Int)) (.int .u32 65521) = some (.int .u32 ((z % 65521 : Nat) : Int)) := by
  rw [dBin_rem (by omega), Int.tmod_eq_emod_of_nonneg (by omega)]; rfl
theorem c_prW {w0 : World} {V : Nat → Prop} {m : Mem} {ip : Nat} {v : Value} {b : List UInt8} {Q : Value → Mem → Prop} (h : Sep m V m [(some ip, .own [.int .u32 0, .int .u32 0] 81)]) (hr : RdV V m 1 v (b.map byteV) b.length) (hb : b.length ≤ 9223372036854775806)
    (hq : ∀ M, Sep m V M [(some ip, .own [.int .u32 ((prL b).1 : Nat), .int .u32 ((prL b).2 : Nat)] 81)] → Q (.tuple ⟨[]⟩) M) :
    AbC Tryz.prog w0 32 [.pointer (some ⟨ip, 0, none⟩), v] m Q := by
  refine AbC_fn ok32 (by simp) ?_
  have hsl := hr.sl.slen
  simp -implicitDefEqProofs (disch := first | assumption | omega | fail) [rc32, ro32, wkB, retV, stabOk, dC, ev, fillD, pickCells, putAt, bnd, slD, List.getElem?_cons_zero, List.getElem?_cons_succ, Mem.cell, Mem.row, cells_own, cells_ro, hsl]
  refine LoopW_of (fun k ts m' => ∃ j, j + k = b.length ∧ Sep m V m' [(some ip, .own [.int .u32 ((prL (b.take j)).1 : Nat), .int .u32 ((prL (b.take j)).2 : Nat)] 81)] ∧ ts 0 = .pointer (some ⟨ip, 0, none⟩) ∧ ts 6 = v ∧ ts 7 = .int .i64 (b.length : Nat) ∧ ts 8 = .int .i64 (j : Nat)) b.length ?_ ?_
  · exact ⟨0, by omega, by simpa [prL] using h, by simp [frA_at], by simp [frA_at], by simp, by simp⟩
  · rintro k ts m1 K ⟨j, hj, h1, t0, t6, t7, t8⟩ hK
    by_cases hjl : j < b.length
    · have hj8 : (j : Int) < (b.length : Nat) := by omega
      obtain ⟨i, o, L, e1, e2, e3, e4, e5, e6⟩ := (hr.sep h1).ex (by omega)
      have hc : L[o + j]? = some (byteV (b.getD j 0)) := (e4 j hjl).trans (byte_at hjl)
      simp only [byteV] at hc
      have hidx : sidx 1 v (.int .i64 (j : Int)) = some (.pointer (some ⟨i, o + j, none⟩)) := by rw [e1]; simpa using sidx_at (b := i) (o := o) (n := b.length) (c := 1) (j := j) (sz := 1) (k := .i64) hjl
      have w1 : IntKind.i64.wrap ((j : Int) + 1) = (j : Int) + 1 := w64 (by omega)
      have htk := prL_take hjl
      have hlt := prL_lt (b.take j)
      have hgd : b[j] = b.getD j 0 := by rw [List.getD_eq_getElem?_getD, List.getElem?_eq_getElem hjl]; rfl
      rw [hgd] at htk
      generalize b.getD j 0 = c at *
      have hcl := c.toNat_lt
      have g1 := h1.get 0 rfl
      generalize hP : prL (b.take j) = P at *
      obtain ⟨p, q⟩ := P
      simp only [prStep] at htk hlt g1 h1
      have wc : IntKind.u32.wrap (c.toNat : Int) = (c.toNat : Int) := w32 (by omega)
      obtain ⟨z, hz⟩ : ∃ z, p + c.toNat = z := ⟨_, rfl⟩
      have wp : IntKind.u32.wrap ((p : Int) + (c.toNat : Int)) = (z : Int) := by have := w32 (z := z) (by omega); rw [← this, ← hz]; simp
      have r1 := rem32 (z := z)
      rw [hz] at htk
      obtain ⟨p', hp'⟩ : ∃ p', z % 65521 = p' := ⟨_, rfl⟩
      rw [hp'] at r1 htk
      have hp2 : p' < 65521 := by rw [← hp']; exact Nat.mod_lt _ (by omega)
      obtain ⟨y, hy⟩ : ∃ y, q + p' = y := ⟨_, rfl⟩
      obtain ⟨y1, hy1⟩ : ∃ y1, y + 1 = y1 := ⟨_, rfl⟩
      have wq : IntKind.u32.wrap ((q : Int) + (p' : Int)) = (y : Int) := by have := w32 (z := y) (by omega); rw [← this, ← hy]; simp
      have wy : IntKind.u32.wrap ((y : Int) + 1) = (y1 : Int) := by have := w32 (z := y1) (by omega); rw [← this, ← hy1]; simp
      have r2 := rem32 (z := y1)
      rw [hy, hy1] at htk
      obtain ⟨q', hq'⟩ : ∃ q', y1 % 65521 = q' := ⟨_, rfl⟩
      rw [hq'] at r2 htk
      simp -implicitDefEqProofs (disch := first | assumption | omega | fail) [rc32_1, rc32_0, wkB, retV, stabOk, dC, ev, fillD, pickCells, putAt, bnd, slD, List.getElem?_cons_zero, List.getElem?_cons_succ, Mem.cell, Mem.row, cells_own, cells_ro, t0, t6, t7, t8, hj8, hidx, e2, hc, getL1 hc, g1, wc, wp, r1]
      refine SK_stS h1 0 rfl (o := 0) (vs := [.int .u32 (p' : Nat)]) (cs' := [.int .u32 (p' : Nat), .int .u32 (q : Nat)]) (by simp [wkB, retV, stabOk, dC, ev, fillD, pickCells, putAt, bnd, slD, List.getElem?_cons_zero, List.getElem?_cons_succ, Mem.cell, Mem.row, cells_own, cells_ro]) (by simp [wkB, retV, stabOk, dC, ev, fillD, pickCells, putAt, bnd, slD, List.getElem?_cons_zero, List.getElem?_cons_succ, Mem.cell, Mem.row, cells_own, cells_ro]) (by simp) rfl rfl rfl fun m2 h2 n2 => ?_
      have g2 := h2.get 0 rfl
      simp -implicitDefEqProofs (disch := first | assumption | omega | fail) [wkB, retV, stabOk, dC, ev, fillD, pickCells, putAt, bnd, slD, List.getElem?_cons_zero, List.getElem?_cons_succ, Mem.cell, Mem.row, cells_own, cells_ro, t0, g2, wq, wy, r2]
      refine SK_stS h2 0 rfl (o := 1) (vs := [.int .u32 (q' : Nat)]) (cs' := [.int .u32 (p' : Nat), .int .u32 (q' : Nat)]) (by simp [wkB, retV, stabOk, dC, ev, fillD, pickCells, putAt, bnd, slD, List.getElem?_cons_zero, List.getElem?_cons_succ, Mem.cell, Mem.row, cells_own, cells_ro]) (by simp [wkB, retV, stabOk, dC, ev, fillD, pickCells, putAt, bnd, slD, List.getElem?_cons_zero, List.getElem?_cons_succ, Mem.cell, Mem.row, cells_own, cells_ro]) (by simp) rfl rfl rfl fun m3 h3 n3 => ?_
      simp -implicitDefEqProofs (disch := first | assumption | omega | fail) [wkB, retV, stabOk, dC, ev, fillD, pickCells, putAt, bnd, slD, List.getElem?_cons_zero, List.getElem?_cons_succ, Mem.cell, Mem.row, cells_own, cells_ro, t8, w1]
      refine hK (k - 1) _ _ (by omega) ⟨j + 1, by omega, by rw [htk]; exact h3, by simp [t0], by simp [t6], by simp [t7], by simp⟩
    · have hjj : j = b.length := by omega
      subst hjj
      have hj8 : ¬ ((b.length : Nat) : Int) < (b.length : Nat) := by omega
      rw [List.take_length] at h1
      simp -implicitDefEqProofs (disch := first | assumption | omega | fail) [rc32_1, wkB, retV, stabOk, dC, ev, fillD, pickCells, putAt, bnd, slD, List.getElem?_cons_zero, List.getElem?_cons_succ, Mem.cell, Mem.row, cells_own, cells_ro, t7, t8, hj8]
      exact hq m1 h1
theorem c_Print {w0 : World} {X : Nat → Prop} {m : Mem} {v : Value} {b : List UInt8} {Q : Value → Mem → Prop} (hp : Part L0 m) (hr : RdV X m 1 v (b.map byteV) b.length) (hb : b.length ≤ 9223372036854775806)
    (hq : ∀ M, Old m M → Q (.int .u32 (prN b : Nat)) M) : AbC Tryz.prog w0 16 [v] m Q := by
  refine AbC_fn ok16 (by simp) ?_
  simp -implicitDefEqProofs (disch := first | assumption | omega | fail) [rc16, ro16, wkB, retV, stabOk, dC, ev, fillD, pickCells, putAt, bnd, slD, List.getElem?_cons_zero, List.getElem?_cons_succ, Mem.cell, Mem.row, cells_own, cells_ro]
  refine SK_bxS (Sep.ofOld hp) (cs := [.int .u32 0, .int .u32 0]) (by simp [wkB, retV, stabOk, dC, ev, fillD, pickCells, putAt, bnd, slD, List.getElem?_cons_zero, List.getElem?_cons_succ, Mem.cell, Mem.row, cells_own, cells_ro]) fun ip m1 h1 _ _ => ?_
  simp -implicitDefEqProofs (disch := first | assumption | omega | fail) [wkB, retV, stabOk, dC, ev, fillD, pickCells, putAt, bnd, slD, List.getElem?_cons_zero, List.getElem?_cons_succ, Mem.cell, Mem.row, cells_own, cells_ro]
  refine c_prW h1.self (hr.o.sep h1) hb fun m2 h2 => ?_
  have g2 := h2.get 0 rfl
  simp -implicitDefEqProofs (disch := first | assumption | omega | fail) [wkB, retV, stabOk, dC, ev, fillD, pickCells, putAt, bnd, slD, List.getElem?_cons_zero, List.getElem?_cons_succ, Mem.cell, Mem.row, cells_own, cells_ro]
  refine AbC.mono (Q := fun v M => v = .int .u32 (prN b : Nat) ∧ M = m2) ?_ fun v M ⟨e1, e2⟩ => by subst e1 e2; simp -implicitDefEqProofs (disch := first | assumption | omega | fail) [wkB, retV, stabOk, dC, ev, fillD, pickCells, putAt, bnd, slD, List.getElem?_cons_zero, List.getElem?_cons_succ, Mem.cell, Mem.row, cells_own, cells_ro]; exact hq M (h1.tr h2).toOld
  refine AbC_fn ok33 (by simp) ?_
  have hlt := prL_lt b
  unfold prN
  clear h2
  generalize prL b = P at *
  obtain ⟨p, q⟩ := P
  simp only at hlt g2 ⊢
  have s1 : dBin .shl (.int .u32 (q : Int)) (.int .u64 16) = some (.int .u32 ((q * 65536 : Nat) : Int)) := by
    have := w32 (z := q * 65536) (by omega)
    simp [dBin, IntKind.bits]
    simpa using this
  have s2 : dBin .or (.int .u32 ((q * 65536 : Nat) : Int)) (.int .u32 (p : Int)) = some (.int .u32 ((Nat.lor (q * 65536) p : Nat) : Int)) := by
    have h := binI_eq (op := .or) (k := .u32) (a := Int.ofNat (q * 65536)) (b := Int.ofNat p) (v := .int .u32 (IntKind.u32.wrap (Int.ofNat (Nat.lor (q * 65536) p)))) (by
      simp only [binI, bitI]
      rw [blt_true.2 (show q * 65536 < kTop .u32 by simp [kTop]; omega), blt_true.2 (show p < kTop .u32 by simp [kTop]; omega)]
      simp only [wrapF_eq])
    have w : IntKind.u32.wrap (Int.ofNat (Nat.lor (q * 65536) p)) = ((Nat.lor (q * 65536) p : Nat) : Int) := w32 (Nat.or_lt_two_pow (n := 32) (by omega) (by omega))
    rw [w] at h
    exact h
  generalize Nat.lor (q * 65536) p = r at *
  generalize q * 65536 = q1 at *
  simp -implicitDefEqProofs (disch := first | assumption | omega | fail) [rc33, ro33, wkB, retV, stabOk, dC, ev, fillD, pickCells, putAt, bnd, slD, List.getElem?_cons_zero, List.getElem?_cons_succ, Mem.cell, Mem.row, cells_own, cells_ro, g2, s1, s2]
def fitsF (a n : Int) : Bool := decide (0 ≤ a ∧ 0 ≤ n ∧ a ≤ 16384 ∧ n ≤ 16384 - a)
theorem c_fits {w0 : World} {m : Mem} {a n : Int} {Q : Value → Mem → Prop} (hq : Q (.bool (fitsF a n)) m) : AbC Tryz.prog w0 28 [.int .i64 a, .int .i64 n] m Q := by
  refine AbC_fn ok28 (by simp) ?_
  unfold fitsF at hq
  by_cases h1 : 0 ≤ a
  · by_cases h2 : 0 ≤ n
    · by_cases h3 : a ≤ 16384
      · have w1 : IntKind.i64.wrap (16384 - a) = 16384 - a := w64 (by omega)
        simp -implicitDefEqProofs (disch := first | assumption | omega | fail) [rc28, ro28, wkB, retV, stabOk, dC, ev, fillD, pickCells, putAt, bnd, slD, List.getElem?_cons_zero, List.getElem?_cons_succ, Mem.cell, Mem.row, cells_own, cells_ro, h1, h2, h3, w1]
        simpa [h1, h2, h3] using hq
      · simp -implicitDefEqProofs (disch := first | assumption | omega | fail) [rc28, ro28, wkB, retV, stabOk, dC, ev, fillD, pickCells, putAt, bnd, slD, List.getElem?_cons_zero, List.getElem?_cons_succ, Mem.cell, Mem.row, cells_own, cells_ro, h1, h2, h3]
        simpa [h1, h2, h3] using hq
    · simp -implicitDefEqProofs (disch := first | assumption | omega | fail) [rc28, ro28, wkB, retV, stabOk, dC, ev, fillD, pickCells, putAt, bnd, slD, List.getElem?_cons_zero, List.getElem?_cons_succ, Mem.cell, Mem.row, cells_own, cells_ro, h1, h2]
      simpa [h1, h2] using hq
  · simp -implicitDefEqProofs (disch := first | assumption | omega | fail) [rc28, ro28, wkB, retV, stabOk, dC, ev, fillD, pickCells, putAt, bnd, slD, List.getElem?_cons_zero, List.getElem?_cons_succ, Mem.cell, Mem.row, cells_own, cells_ro, h1]
    simpa [h1] using hq
def stH (sp : Nat) (s : List UInt8) : Option Nat × Ent := (some sp, .own (s.map byteV) 75)
def wrF (s : List UInt8) (a : Nat) (b : List UInt8) : List UInt8 := s.take a ++ b ++ s.drop (a + b.length)
theorem wrF_len {s b : List UInt8} {a : Nat} (h : a + b.length ≤ s.length) : (wrF s a b).length = s.length := by
  simp [wrF]; omega
/-- The bytes of a memory from a on, n of them: where they are read. -/
theorem st_part {V : Nat → Prop} {m0 m : Mem} {l : HL} {sp : Nat} {s : List UInt8} (h : Sep m0 V m l) (q : Nat) (hl : l[q]? = some (stH sp s)) (hs : s.length = 16384) {a n : Nat} (han : a + n ≤ 16384) :
    ∃ v, slaW m 16384 1 (.pointer (some ⟨sp, 0, none⟩)) (some (.int .i64 (a : Nat))) (some (.int .i64 ((a + n : Nat) : Int))) = some v ∧ RdV (fun i => i < m.next) m 1 v (((s.drop a).take n).map byteV) n := by
  have g := h.get q hl
  have hR : SlR m 1 (.slice (some ⟨sp, 0, none⟩) 16384 1) (s.map byteV) 16384 := ⟨by simp [hs], .inr ⟨sp, 0, s.map byteV, rfl, by rw [g]; rfl, by simp [hs], by rw [Nat.mul_one, List.drop_zero, List.take_of_length_le (by simp [hs])]⟩⟩
  obtain ⟨v, h1, h2, h3⟩ := hR.btw (a := a) (b := a + n) (by omega) han
  rw [← List.map_drop, ← List.map_take, show a + n - a = n by omega] at h2
  refine ⟨v, ?_, h2, fun b hb => ?_⟩
  · simp only [slaW, g]
    rw [if_pos (by simp [hs])]
    exact h1
  · have := h3 b hb
    cases this
    exact ⟨h.lt q hl, h.lt q hl⟩
theorem c_sRead {w0 : World} {V : Nat → Prop} {m0 m : Mem} {l : HL} {sp : Nat} {s : List UInt8} {a n : Int} {Q : Value → Mem → Prop} (h : Sep m0 V m l) (q : Nat) (hl : l[q]? = some (stH sp s)) (hs : s.length = 16384)
    (hq : fitsF a n = true → ∀ oo M, Sep m0 V M (byH oo ((s.drop a.toNat).take n.toNat) :: l) → (oo = none → n.toNat = 0) → Q (.tuple ⟨[slV oo n.toNat 1, .bool true]⟩) M)
    (hz : fitsF a n = false → Q (.tuple ⟨[.slice none 0 0, .bool false]⟩) m) : AbC Tryz.prog w0 14 [.pointer (some ⟨sp, 0, none⟩), .int .i64 a, .int .i64 n] m Q := by
  refine AbC_fn ok14 (by simp) ?_
  simp -implicitDefEqProofs (disch := first | assumption | omega | fail) [rc14, ro14, wkB, retV, stabOk, dC, ev, fillD, pickCells, putAt, bnd, slD, List.getElem?_cons_zero, List.getElem?_cons_succ, Mem.cell, Mem.row, cells_own, cells_ro]
  refine c_fits ?_
  cases hf : fitsF a n with
  | false =>
    simp -implicitDefEqProofs (disch := first | assumption | omega | fail) [wkB, retV, stabOk, dC, ev, fillD, pickCells, putAt, bnd, slD, List.getElem?_cons_zero, List.getElem?_cons_succ, Mem.cell, Mem.row, cells_own, cells_ro]
    exact hz hf
  | true =>
    have hf2 := hf
    simp only [fitsF, decide_eq_true_eq] at hf2
    obtain ⟨a, rfl⟩ : ∃ k : Nat, a = (k : Int) := ⟨a.toNat, by omega⟩
    obtain ⟨n, rfl⟩ : ∃ k : Nat, n = (k : Int) := ⟨n.toNat, by omega⟩
    obtain ⟨v, hv, hr⟩ := st_part h q hl hs (a := a) (n := n) (by omega)
    have w1 : IntKind.i64.wrap ((a : Int) + (n : Int)) = ((a + n : Nat) : Int) := by rw [w64 (by omega)]; omega
    generalize hz : a + n = z at *
    have hq := hq hf
    simp only [Int.toNat_natCast] at hq
    have hlen : ((s.drop a).take n).length = n := by simp [hs]; omega
    generalize (s.drop a).take n = D at *
    simp -implicitDefEqProofs (disch := first | assumption | omega | fail) [wkB, retV, stabOk, dC, ev, fillD, pickCells, putAt, bnd, slD, List.getElem?_cons_zero, List.getElem?_cons_succ, Mem.cell, Mem.row, cells_own, cells_ro, rc14_0, w1, hv]
    refine SK_nwS h (k := n) (ys := D.map byteV) (by simp [wkB, retV, stabOk, dC, ev, fillD, pickCells, putAt, bnd, slD, List.getElem?_cons_zero, List.getElem?_cons_succ, Mem.cell, Mem.row, cells_own, cells_ro]) (by simp [wkB, retV, stabOk, dC, ev, fillD, pickCells, putAt, bnd, slD, List.getElem?_cons_zero, List.getElem?_cons_succ, Mem.cell, Mem.row, cells_own, cells_ro]; exact hr.sl.elems) (by simp [wkB, retV, stabOk, dC, ev, fillD, pickCells, putAt, bnd, slD, List.getElem?_cons_zero, List.getElem?_cons_succ, Mem.cell, Mem.row, cells_own, cells_ro]; exact hr.sl.lenV) (byteV_oneC _) (by omega) (by unfold maxLen; omega) (by simpa using hlen) fun oo m1 h1 hn1 _ => ?_
    simp -implicitDefEqProofs (disch := first | assumption | omega | fail) [wkB, retV, stabOk, dC, ev, fillD, pickCells, putAt, bnd, slD, List.getElem?_cons_zero, List.getElem?_cons_succ, Mem.cell, Mem.row, cells_own, cells_ro]
    exact hq oo m1 h1 hn1
theorem c_sPrint {w0 : World} {V : Nat → Prop} {m0 m : Mem} {l : HL} {sp : Nat} {s : List UInt8} {a n : Int} {Q : Value → Mem → Prop} (h : Sep m0 V m l) (q : Nat) (hl : l[q]? = some (stH sp s)) (hs : s.length = 16384)
    (hq : fitsF a n = true → ∀ M, Sep m0 V M l → Q (.tuple ⟨[.int .u32 (prN ((s.drop a.toNat).take n.toNat) : Nat), .bool true]⟩) M)
    (hz : fitsF a n = false → Q (.tuple ⟨[.int .u32 0, .bool false]⟩) m) : AbC Tryz.prog w0 65 [.pointer (some ⟨sp, 0, none⟩), .int .i64 a, .int .i64 n] m Q := by
  refine AbC_fn ok65 (by simp) ?_
  simp -implicitDefEqProofs (disch := first | assumption | omega | fail) [rc65, ro65, wkB, retV, stabOk, dC, ev, fillD, pickCells, putAt, bnd, slD, List.getElem?_cons_zero, List.getElem?_cons_succ, Mem.cell, Mem.row, cells_own, cells_ro]
  refine c_fits ?_
  cases hf : fitsF a n with
  | false =>
    simp -implicitDefEqProofs (disch := first | assumption | omega | fail) [wkB, retV, stabOk, dC, ev, fillD, pickCells, putAt, bnd, slD, List.getElem?_cons_zero, List.getElem?_cons_succ, Mem.cell, Mem.row, cells_own, cells_ro]
    exact hz hf
  | true =>
    have hf2 := hf
    simp only [fitsF, decide_eq_true_eq] at hf2
    obtain ⟨a, rfl⟩ : ∃ k : Nat, a = (k : Int) := ⟨a.toNat, by omega⟩
    obtain ⟨n, rfl⟩ : ∃ k : Nat, n = (k : Int) := ⟨n.toNat, by omega⟩
    obtain ⟨v, hv, hr⟩ := st_part h q hl hs (a := a) (n := n) (by omega)
    have w1 : IntKind.i64.wrap ((a : Int) + (n : Int)) = ((a + n : Nat) : Int) := by rw [w64 (by omega)]; omega
    generalize hz : a + n = z at *
    have hq := hq hf
    simp only [Int.toNat_natCast] at hq
    have hlen : ((s.drop a).take n).length = n := by simp [hs]; omega
    simp -implicitDefEqProofs (disch := first | assumption | omega | fail) [wkB, retV, stabOk, dC, ev, fillD, pickCells, putAt, bnd, slD, List.getElem?_cons_zero, List.getElem?_cons_succ, Mem.cell, Mem.row, cells_own, cells_ro, rc65_0, w1, hv]
    refine c_Print h.pt (b := (s.drop a).take n) (by rw [hlen]; exact hr) (by omega) fun M o => ?_
    simp -implicitDefEqProofs (disch := first | assumption | omega | fail) [wkB, retV, stabOk, dC, ev, fillD, pickCells, putAt, bnd, slD, List.getElem?_cons_zero, List.getElem?_cons_succ, Mem.cell, Mem.row, cells_own, cells_ro]
    exact hq M (h.old o)
theorem c_sWrite {w0 : World} {V X : Nat → Prop} {m0 m : Mem} {l : HL} {sp : Nat} {s b : List UInt8} {v : Value} {a : Int} {Q : Value → Mem → Prop} (h : Sep m0 V m l) (q : Nat) (hl : l[q]? = some (stH sp s)) (hs : s.length = 16384) (hr : RdV X m 1 v (b.map byteV) b.length)
    (hq : fitsF a b.length = true → ∀ M, Sep m0 V M (l.set q (stH sp (wrF s a.toNat b))) → Q (.bool true) M)
    (hz : fitsF a b.length = false → Q (.bool false) m) : AbC Tryz.prog w0 11 [.pointer (some ⟨sp, 0, none⟩), .int .i64 a, v] m Q := by
  refine AbC_fn ok11 (by simp) ?_
  have hsl := hr.sl.slen
  simp -implicitDefEqProofs (disch := first | assumption | omega | fail) [rc11, ro11, wkB, retV, stabOk, dC, ev, fillD, pickCells, putAt, bnd, slD, List.getElem?_cons_zero, List.getElem?_cons_succ, Mem.cell, Mem.row, cells_own, cells_ro, hsl]
  refine c_fits ?_
  cases hf : fitsF a b.length with
  | false =>
    simp -implicitDefEqProofs (disch := first | assumption | omega | fail) [wkB, retV, stabOk, dC, ev, fillD, pickCells, putAt, bnd, slD, List.getElem?_cons_zero, List.getElem?_cons_succ, Mem.cell, Mem.row, cells_own, cells_ro]
    exact hz hf
  | true =>
    have hf2 := hf
    simp only [fitsF, decide_eq_true_eq] at hf2
    obtain ⟨a, rfl⟩ : ∃ k : Nat, a = (k : Int) := ⟨a.toNat, by omega⟩
    have hq := hq hf
    simp only [Int.toNat_natCast] at hq
    have g := h.get q hl
    have sw : ∀ w, slW 1 (.slice (some ⟨sp, 0, none⟩) 16384 1) (some (.int .i64 (a : Nat))) none = some w → slaW m 16384 1 (.pointer (some ⟨sp, 0, none⟩)) (some (.int .i64 (a : Nat))) none = some w := fun w hw => by
      simp only [slaW, g]
      rw [if_pos (by simp [hs])]
      exact hw
    by_cases ha : a = 16384
    · subst ha
      have hb : b = [] := List.length_eq_zero_iff.1 (by omega)
      subst hb
      have e1 : wrF s 16384 [] = s := by simp [wrF]
      rw [e1] at hq
      have e2 : l.set q (stH sp s) = l := by
        apply List.ext_getElem?
        intro j
        rw [List.getElem?_set]
        split
        · rename_i hj
          subst hj
          rw [hl, if_pos (List.getElem?_eq_some_iff.1 hl).1]
        · rfl
      rw [e2] at hq
      have hv := sw (.slice (some ⟨0, 0, some 0⟩) 0 0) (by simp [slW, dR, ev, bnd, slD])
      have hv : slaW m 16384 1 (.pointer (some ⟨sp, 0, none⟩)) (some (.int .i64 16384)) none = some (.slice (some ⟨0, 0, some 0⟩) 0 0) := hv
      simp -implicitDefEqProofs (disch := first | assumption | omega | fail) [wkB, retV, stabOk, dC, ev, fillD, pickCells, putAt, bnd, slD, List.getElem?_cons_zero, List.getElem?_cons_succ, Mem.cell, Mem.row, cells_own, cells_ro, rc11_0, hv]
      have hel := hr.sl.elems
      have : ∀ R : Value → Mem → Prop, ∀ fr : Fr, fr 16 = .slice (some ⟨0, 0, some 0⟩) 0 0 → fr 17 = v → R (.int .i64 0) m → SK Tryz.prog w0 (.e (.cpy 1 (.tmp 16) (.tmp 17))) fr m R := fun R fr h1 h2 hR => by
        simp only [SK, dE, ev, h1, h2, hel]
        exact hR
      refine this _ _ (by simp) (by simp) ?_
      simp -implicitDefEqProofs (disch := first | assumption | omega | fail) [wkB, retV, stabOk, dC, ev, fillD, pickCells, putAt, bnd, slD, List.getElem?_cons_zero, List.getElem?_cons_succ, Mem.cell, Mem.row, cells_own, cells_ro]
      exact hq m h
    · have hv := sw (.slice (some ⟨sp, a, none⟩) (16384 - a) 1) (by
        have h1 : (a : Int) ≤ 16384 := by omega
        by_cases h0 : a = 0
        · subst h0; simp [slW, dR, ev, bnd, slD]
        · simp [slW, dR, ev, bnd, slD, h0, ha, h1])
      simp -implicitDefEqProofs (disch := first | assumption | omega | fail) [wkB, retV, stabOk, dC, ev, fillD, pickCells, putAt, bnd, slD, List.getElem?_cons_zero, List.getElem?_cons_succ, Mem.cell, Mem.row, cells_own, cells_ro, rc11_0, hv]
      refine SK_cpS h q (i := sp) (o := a) (n := 16384 - a) (z := 1) (k := b.length) (cs' := (wrF s a b).map byteV) hl (by simp [wkB, retV, stabOk, dC, ev, fillD, pickCells, putAt, bnd, slD, List.getElem?_cons_zero, List.getElem?_cons_succ, Mem.cell, Mem.row, cells_own, cells_ro]) (by simp [wkB, retV, stabOk, dC, ev, fillD, pickCells, putAt, bnd, slD, List.getElem?_cons_zero, List.getElem?_cons_succ, Mem.cell, Mem.row, cells_own, cells_ro]; exact hr.sl.elems) (by simp [wkB, retV, stabOk, dC, ev, fillD, pickCells, putAt, bnd, slD, List.getElem?_cons_zero, List.getElem?_cons_succ, Mem.cell, Mem.row, cells_own, cells_ro]; exact hr.sl.lenV) (by omega) (by simp [hs]; omega) (byteV_oneC _) (by simp) (by simp [putAt, wrF]) fun M hM _ => ?_
      simp -implicitDefEqProofs (disch := first | assumption | omega | fail) [wkB, retV, stabOk, dC, ev, fillD, pickCells, putAt, bnd, slD, List.getElem?_cons_zero, List.getElem?_cons_succ, Mem.cell, Mem.row, cells_own, cells_ro]
      exact hq M hM
end Go.Proofs.YtiapjjgmmiifmaaGreatDoor.Ab

set_option linter.unusedVariables false
set_option linter.unusedSimpArgs false
namespace Go.Proofs.YtiapjjgmmiifmaaGreatDoor.Ab
open Go Go.RowKit
open Go.Sort (Holds putRow putCells onCells)
set_option maxHeartbeats 4000000
set_option maxRecDepth 100000
/-- The numeral is written into a row of zeros. -/
theorem c_fmtB10 {w0 : World} {m : Mem} {i n u : Nat} {cs : List Value} {E : TypeId} {Q : Value → Mem → Prop} (hg : m.get i = .own cs E) (hn : n = Lib.nDigits u) (hl : n ≤ cs.length) (hz : ∀ j, j < n → cs[j]? = some (.int .u8 0)) (hu : 1 ≤ u ∧ u < 18446744073709551616)
    (hq : Q (.tuple ⟨[]⟩) (m.set i (.own ((digs 10 u).map byteV ++ cs.drop n) E))) : AbC Tryz.prog w0 68 [.slice (some ⟨i, 0, none⟩) n 1, .int .u64 (u : Int)] m Q := by
  intro G w args' hs hargs
  have hnd : n ≤ 20 := by have := Lib.numDigits_eq u hu.1 hu.2; split at this <;> omega
  have hn1 : 1 ≤ n := by rw [hn, ← Lib.decDigits_length, dec_digs]; exact digs_pos _ _
  cases hargs with
  | cons _ a1 _ r1 h1 hr =>
  cases hr with
  | cons _ a2 _ r2 h2 hr =>
  cases hr
  cases h2
  cases h1 with
  | sl _ _ B b S _ cp _ hgi hnc hcm hS =>
  rw [run_callFunc_enter (by kernel_rfl)]
  show Calls _ _ _ _ _
  obtain ⟨hB, c, fz, hw, hcS, hop, hcell, hlen⟩ := own_get hs hgi hg
  have hlen := hlen (by omega)
  simp only [Nat.add_zero]
  have hH : Holds (fun (b : UInt8) => Value.int .u8 (b.toNat : Int)) w B b (Array.replicate n 0) := by
    intro j hj
    rw [Array.size_replicate] at hj
    obtain ⟨v', hv1, hv2⟩ := hcell j _ (hz j hj)
    cases hv2
    refine ⟨?_, cells_frozen hw hop _ (by omega)⟩
    simp only [World.cell?, hw, Option.isSome_none, Bool.false_eq_true, if_false, hv1]
    rw [getElem!_pos _ j (by simpa using hj), Array.getElem_replicate]; rfl
  have key := Tryz.internal_strconv_formatBase10 B b cp u (Array.replicate n 0) w hH (by rw [Array.size_replicate, hn]; exact Lib.lt_pow_nDigits u) hu.2 (by rw [Array.size_replicate]; omega)
  rw [Array.size_replicate] at key
  refine key.mono ?_
  rintro e w' ⟨rfl, k, v', dk, rfl, hF⟩
  have hdk : dk.size = n := hF.size
  have hst : St Tryz.prog w0 G (m.set i (.own ((digs 10 u).map byteV ++ cs.drop n) E)) ((putRow (fun (b : UInt8) => Value.int .u8 (b.toNat : Int)) w B b dk).drewN k) := by
    have hw' : ((putRow (fun (b : UInt8) => Value.int .u8 (b.toNat : Int)) w B b dk).drewN k).heap[B]? = some (.cells (putCells (fun (b : UInt8) => Value.int .u8 (b.toNat : Int)) b dk c) E fz) := by
      show (w.heap.modify B _)[B]? = _
      rw [Array.getElem?_modify]
      simp [hw, onCells]
    refine hs.write (e := .own ((digs 10 u).map byteV ++ cs.drop n) E) (by rw [hg]; rfl) hgi rfl rfl rfl (by simp [World.drewN]) (fun q hq => ?_) ⟨hB, _, fz, hw', by simp [putCells, hcS], by simpa [putCells] using hop, fun j v hj => ?_⟩ (fun cs' e' he => by cases he; exact ⟨cs, hg⟩)
    · show (w.heap.modify B _)[q]? = _
      rw [Array.getElem?_modify, if_neg (fun e => hq e.symm)]
    · have hdl : (digs 10 u).length = n := by rw [← dec_digs, Lib.decDigits_length, hn]
      rw [List.getElem?_append] at hj
      by_cases hjn : j < n
      · rw [if_pos (by simpa [hdl] using hjn), List.getElem?_map] at hj
        have hjd : j < (digs 10 u).length := by omega
        rw [List.getElem?_eq_getElem hjd] at hj
        simp at hj; subst hj
        refine ⟨_, ?_, .int _ _⟩
        have hjc : b + j < c.size := by omega
        have hnum := Lib.row_is_numeral (u := u) (v' := v') (dk := dk) (by rw [← hn]; exact hF) j (by rw [Lib.decDigits_length, ← hn]; exact hjn)
        have hd2 : (digs 10 u)[j] = dk[j]! := by rw [← hnum]; congr 1; exact (dec_digs u).symm
        simp only [putCells, Array.getElem?_mapIdx]
        rw [Array.getElem?_eq_getElem hjc]
        simp only [Option.map_some]
        rw [if_pos (by omega), Nat.add_sub_cancel_left, hd2]
      · rw [if_neg (by simpa [hdl] using hjn), List.length_map, hdl, List.getElem?_drop, show n + (j - n) = j from by omega] at hj
        obtain ⟨v2, hv1, hv2⟩ := hcell j v hj
        refine ⟨v2, ?_, hv2⟩
        simp only [putCells, Array.getElem?_mapIdx, hv1, Option.map_some]
        rw [if_neg (by omega)]
  exact ⟨_, rfl, G, _, _, Loc.le_refl G, .tuple _ _ .nil, hst, hq⟩
theorem bstr_pre {m : Mem} {i n : Nat} {E : TypeId} {l : List UInt8} {r : List Value} (h : m.get i = .own (l.map byteV ++ r) E) (hl : l.length = n) : bstr m (.slice (some ⟨i, 0, none⟩) n 1) = some (.string ⟨⟨l⟩⟩) := by
  subst hl
  have h1 : (l.map byteV ++ r).take l.length = l.map byteV := by
    rw [List.take_append_of_le_length (by simp)]; exact List.take_of_length_le (by simp)
  simp only [bstr, Mem.row_own h, Nat.zero_add, List.drop_zero, h1]
  rw [if_pos (by simp)]
  simp only [bytesOf_mapN]
theorem c_FormatUint {w0 : World} {m : Mem} {B u : Nat} {Q : Value → Mem → Prop} (hp : Part L0 m) (ht : Ten w0) (hB : B = 10 ∨ B = 16) (hu : u < 18446744073709551616) (hq : ∀ m', Old m m' → Q (.string ⟨⟨digs B u⟩⟩) m') : AbC Tryz.prog w0 34 [.int .u64 (u : Int), .int .i64 (B : Int)] m Q := by
  refine AbC_fn ok34 (by simp) ?_
  simp -implicitDefEqProofs (disch := first | assumption | (simp only [wnA]; done) | (simp only [wnA]; omega) | omega | fail) [rc34, ro34, wkA, retV, stabOk, dC, ev, fillD, pickCells, putAt, bnd, slD, List.getElem?_cons_zero, List.getElem?_cons_succ, dR_sl, Mem.cell, Mem.row, wmA]
  refine AbC_fn ok47 (by simp) ?_
  rcases hB with rfl | rfl
  · by_cases h100 : u < 100
    · have h1 : (u : Int) < 100 := by omega
      have w1 : IntKind.i64.wrap (u : Int) = (u : Int) := w64 (by omega)
      simp -implicitDefEqProofs (disch := first | assumption | (simp only [wnA]; done) | (simp only [wnA]; omega) | omega | fail) [rc47, ro47, wkA, retV, stabOk, dC, ev, fillD, pickCells, putAt, bnd, slD, List.getElem?_cons_zero, List.getElem?_cons_succ, dR_sl, Mem.cell, Mem.row, wmA, h1, w1]
      refine c_calls (v := .string ⟨⟨digs 10 u⟩⟩) (by kernel_rfl) rfl rfl (fun G w hs => ?_) ?_
      · refine (Tryz.internal_strconv_small u h100 w).mono ?_
        rintro e w' ⟨rfl, rfl⟩
        exact ⟨by rw [dec_digs], Below.refl _ _⟩
      · simp -implicitDefEqProofs (disch := first | assumption | (simp only [wnA]; done) | (simp only [wnA]; omega) | omega | fail) [wkA, retV, stabOk, dC, ev, fillD, pickCells, putAt, bnd, slD, List.getElem?_cons_zero, List.getElem?_cons_succ, dR_sl, Mem.cell, Mem.row, wmA]
        exact hq m (Old.refl m)
    · have h1 : ¬ (u : Int) < 100 := by omega
      have hnd : Lib.nDigits u ≤ 20 := by have := Lib.numDigits_eq u (by omega) hu; split at this <;> omega
      have hdl : (digs 10 u).length = Lib.nDigits u := by rw [← dec_digs, Lib.decDigits_length]
      have hn1 := digs_pos 10 u
      simp -implicitDefEqProofs (disch := first | assumption | (simp only [wnA]; done) | (simp only [wnA]; omega) | omega | fail) [rc47, ro47, rc47_0, wkA, retV, stabOk, dC, ev, fillD, pickCells, putAt, bnd, slD, List.getElem?_cons_zero, List.getElem?_cons_succ, dR_sl, Mem.cell, Mem.row, wmA, h1]
      refine c_calls (v := .int .i64 (Lib.nDigits u)) (by kernel_rfl) rfl rfl (fun G w hs => ?_) ?_
      · refine (Tryz.internal_strconv_numDigits u (by omega) hu w (tab_at ht hs)).mono ?_
        rintro e w' ⟨rfl, rfl⟩
        exact ⟨rfl, Below.refl _ _⟩
      · generalize hN : Lib.nDigits u = n at *
        have hi : (0 : Int) ≤ (n : Int) ∧ (n : Int) ≤ 24 := by omega
        have hn0 : n ≠ 0 := by omega
        have hn24 : n ≤ 24 := by omega
        simp -implicitDefEqProofs (disch := first | assumption | (simp only [wnA]; done) | (simp only [wnA]; omega) | omega | fail) [wkA, retV, stabOk, dC, ev, fillD, pickCells, putAt, bnd, slD, List.getElem?_cons_zero, List.getElem?_cons_succ, dR_sl, Mem.cell, Mem.row, wmA, hi, hn24]
        refine c_fmtB10 (Mem.push_same m _) hN.symm (by simp; omega) (fun j hj => ?_) ⟨by omega, hu⟩ ?_
        · have hj24 : j < 24 := by omega
          have : ∀ k : Fin 24, (List.replicate 24 (Value.int .u8 0))[k.val]? = some (Value.int .u8 0) := fun k => by rw [List.getElem?_replicate, if_pos k.isLt]
          exact this ⟨j, hj24⟩
        · have hgo : ∀ (M : Mem), M.get m.next = .own ((digs 10 u).map byteV ++ (List.replicate 24 (Value.int .u8 0)).drop n) 123 → (((digs 10 u).map byteV ++ (List.replicate 24 (Value.int .u8 0)).drop n).length = 24) → True := fun _ _ _ => trivial
          have hlen24 : ((digs 10 u).map byteV ++ (List.replicate 24 (Value.int .u8 0)).drop n).length = 24 := by
            rw [List.length_append, List.length_map, List.length_drop, List.length_replicate, hdl]; omega
          have ho : ∀ E1 E2, Old m ((m.push E1).set m.next E2) := fun E1 E2 => ((Old.refl m).push E1).set (Nat.le_refl _) E2
          have hbs : ∀ E1, bstr ((m.push E1).set m.next (.own ((digs 10 u).map byteV ++ (List.replicate 24 (Value.int .u8 0)).drop n) 123)) (.slice (some ⟨m.next, 0, none⟩) n 1) = some (.string ⟨⟨digs 10 u⟩⟩) := fun E1 => bstr_pre (Mem.set_same _ _ _) hdl
          have hrep : (List.replicate 24 (Value.int .u8 0)) = [.int .u8 0, .int .u8 0, .int .u8 0, .int .u8 0, .int .u8 0, .int .u8 0, .int .u8 0, .int .u8 0, .int .u8 0, .int .u8 0, .int .u8 0, .int .u8 0, .int .u8 0, .int .u8 0, .int .u8 0, .int .u8 0, .int .u8 0, .int .u8 0, .int .u8 0, .int .u8 0, .int .u8 0, .int .u8 0, .int .u8 0, .int .u8 0] := rfl
          rw [hrep] at hlen24 hbs
          generalize hR : (digs 10 u).map byteV ++ List.drop n [.int .u8 0, .int .u8 0, .int .u8 0, .int .u8 0, .int .u8 0, .int .u8 0, .int .u8 0, .int .u8 0, .int .u8 0, .int .u8 0, .int .u8 0, .int .u8 0, .int .u8 0, .int .u8 0, .int .u8 0, .int .u8 0, .int .u8 0, .int .u8 0, .int .u8 0, .int .u8 0, .int .u8 0, .int .u8 0, .int .u8 0, .int .u8 0] = R at *
          simp -implicitDefEqProofs (disch := first | assumption | (simp only [wnA]; done) | (simp only [wnA]; omega) | omega | fail) [wkA, retV, stabOk, dC, ev, fillD, pickCells, putAt, bnd, slD, List.getElem?_cons_zero, List.getElem?_cons_succ, dR_sl, Mem.cell, Mem.row, wmA, hi, hn24, hlen24, hbs]
          exact hq _ (ho _ _)
  · simp -implicitDefEqProofs (disch := first | assumption | (simp only [wnA]; done) | (simp only [wnA]; omega) | omega | fail) [rc47, ro47, wkA, retV, stabOk, dC, ev, fillD, pickCells, putAt, bnd, slD, List.getElem?_cons_zero, List.getElem?_cons_succ, dR_sl, Mem.cell, Mem.row, wmA, rc47_1]
    refine c_fmtBits (B := 16) (k := 4) (a := u) (neg := false) hp rfl (by omega) (by omega) hu (by simp) pow16 tz16 fun m' ho => ?_
    simp -implicitDefEqProofs (disch := first | assumption | (simp only [wnA]; done) | (simp only [wnA]; omega) | omega | fail) [wkA, retV, stabOk, dC, ev, fillD, pickCells, putAt, bnd, slD, List.getElem?_cons_zero, List.getElem?_cons_succ, dR_sl, Mem.cell, Mem.row, wmA]
    exact hq m' ho
end Go.Proofs.YtiapjjgmmiifmaaGreatDoor.Ab

set_option linter.unusedVariables false
set_option linter.unusedSimpArgs false
namespace Go.Proofs.YtiapjjgmmiifmaaGreatDoor.Ab
open Go Go.RowKit
set_option maxHeartbeats 4000000
set_option maxRecDepth 100000
theorem catB (a b : List UInt8) (h : a.length + b.length ≤ 9223372036854775807) : dBin .add (.string ⟨⟨a⟩⟩) (.string ⟨⟨b⟩⟩) = some (.string ⟨⟨a ++ b⟩⟩) := by
  have e : (ByteArray.mk ⟨a⟩) ++ (ByteArray.mk ⟨b⟩) = ⟨⟨a ++ b⟩⟩ := by
    apply ByteArray.ext
    simp
  rw [dBin_sadd (by show a.length + b.length ≤ _; omega), e]
theorem catE (a b : List UInt8) (h : a.length + b.length ≤ 9223372036854775807) : ∃ e : List UInt8, a ++ b = e ∧ e.length = a.length + b.length ∧ dBin .add (.string ⟨⟨a⟩⟩) (.string ⟨⟨b⟩⟩) = some (.string ⟨⟨e⟩⟩) := ⟨_, rfl, by simp, catB a b h⟩
theorem hex_sub : ∀ k : Fin 16, (ByteArray.mk #[48, 49, 50, 51, 52, 53, 54, 55, 56, 57, 97, 98, 99, 100, 101, 102]).extract k.val (k.val + 1) = ⟨⟨[digC k.val]⟩⟩ := by decide +kernel
theorem numS_nat (B n : Nat) : numS B (n : Int) = digs B n := by
  unfold numS sgn
  rw [if_neg (by simp)]
  simp
theorem c_hexN {w0 : World} {m : Mem} : ∀ (n : Nat), n ≤ 9223372036854775807 → ∀ {Q : Value → Mem → Prop}, Q (.string ⟨⟨digs 16 n⟩⟩) m → AbC Tryz.prog w0 21 [.int .i64 (n : Int)] m Q := by
  intro n
  induction n using Nat.strongRecOn with
  | _ n ih =>
    intro hn Q hq
    refine AbC_fn ok21 (by simp) ?_
    have f0 : (0 : Int) ≤ (n : Int) := by omega
    simp -implicitDefEqProofs (disch := first | assumption | (simp only [wnA]; done) | (simp only [wnA]; omega) | omega | fail) [rc21, ro21, wkA, retV, stabOk, dC, ev, fillD, pickCells, putAt, bnd, slD, List.getElem?_cons_zero, List.getElem?_cons_succ, dR.eq_20, Mem.cell, Mem.row, wmA]
    by_cases hb : n < 16
    · have hb' : (n : Int) < (16 : Int) := by omega
      have hs := hex_sub ⟨n, hb⟩
      simp only at hs
      have hw : IntKind.i64.wrap ((n : Int) + 1) = ((n + 1 : Nat) : Int) := by rw [w64 (by omega)]; omega
      have hsz : (ByteArray.mk #[48, 49, 50, 51, 52, 53, 54, 55, 56, 57, 97, 98, 99, 100, 101, 102]).size = 16 := rfl
      have p1 : (0 : Int) ≤ (n : Int) + 1 ∧ (n : Int) + 1 ≤ 16 := by omega
      have p3 : (n : Int) ≤ (n : Int) + 1 := by omega
      rw [digs_lt hb] at hq
      generalize digC n = c at *
      simp -implicitDefEqProofs (disch := first | assumption | (simp only [wnA]; done) | (simp only [wnA]; omega) | omega | fail) [wkA, retV, stabOk, dC, ev, fillD, pickCells, putAt, bnd, slD, List.getElem?_cons_zero, List.getElem?_cons_succ, dR.eq_20, Mem.cell, Mem.row, wmA, ltT hb', hb, hw, hsz, p1, p3, hs]
      exact hq
    · have hb' : ¬ (n : Int) < (16 : Int) := by omega
      have hB0 : (16 : Int) ≠ 0 := by omega
      have hd : (n : Int).tdiv (16 : Int) = ((n / 16 : Nat) : Int) := by rw [Int.tdiv_eq_ediv_of_nonneg (by omega)]; rfl
      have hm : (n : Int).tmod (16 : Int) = ((n % 16 : Nat) : Int) := by rw [Int.tmod_eq_emod_of_nonneg (by omega)]; rfl
      have h1 : n / 16 < n := Nat.div_lt_self (by omega) (by omega)
      have h2 : n % 16 < 16 := Nat.mod_lt _ (by omega)
      have hDle : n / 16 ≤ n := Nat.div_le_self _ _
      have hwd : IntKind.i64.wrap ((n / 16 : Nat) : Int) = ((n / 16 : Nat) : Int) := by
        generalize n / 16 = D at hDle ⊢
        exact w64 (by omega)
      have l1 := digs_64 (b := 16) (by omega) (show n / 16 < 18446744073709551616 by omega)
      have hdl : (digs 16 (n % 16)).length = 1 := by rw [digs_lt h2]; rfl
      have hcat := catB (digs 16 (n / 16)) (digs 16 (n % 16)) (by omega)
      have q1 : dBin .quo (.int .i64 (n : Int)) (.int .i64 (16 : Int)) = some (.int .i64 ((n / 16 : Nat) : Int)) := by rw [dBin_quo hB0, hd, hwd]
      have q2 : dBin .rem (.int .i64 (n : Int)) (.int .i64 (16 : Int)) = some (.int .i64 ((n % 16 : Nat) : Int)) := by rw [dBin_rem hB0, hm]
      have hge : digs 16 n = digs 16 (n / 16) ++ digs 16 (n % 16) := by rw [digs_ge (by omega) (by omega), digs_lt h2]
      rw [hge] at hq
      generalize hD : n / 16 = D at *
      generalize hM : n % 16 = M at *
      simp -implicitDefEqProofs (disch := first | assumption | (simp only [wnA]; done) | (simp only [wnA]; omega) | omega | fail) [wkA, retV, stabOk, dC, ev, fillD, pickCells, putAt, bnd, slD, List.getElem?_cons_zero, List.getElem?_cons_succ, dR.eq_20, Mem.cell, Mem.row, wmA, hb, hb', q1, q2, rc21_0]
      refine ih D h1 (by omega) ?_
      simp -implicitDefEqProofs (disch := first | assumption | (simp only [wnA]; done) | (simp only [wnA]; omega) | omega | fail) [wkA, retV, stabOk, dC, ev, fillD, pickCells, putAt, bnd, slD, List.getElem?_cons_zero, List.getElem?_cons_succ, dR.eq_20, Mem.cell, Mem.row, wmA, q2]
      refine ih M (by omega) (by omega) ?_
      simp -implicitDefEqProofs (disch := first | assumption | (simp only [wnA]; done) | (simp only [wnA]; omega) | omega | fail) [wkA, retV, stabOk, dC, ev, fillD, pickCells, putAt, bnd, slD, List.getElem?_cons_zero, List.getElem?_cons_succ, dR.eq_20, Mem.cell, Mem.row, wmA, hcat]
      exact hq
def sumW : List UInt8 := [115, 117, 109, 32]
def loadW : List UInt8 := [108, 111, 97, 100, 32]
def lineL (a n : Int) (p : Nat) : List UInt8 := sumW ++ numS 16 a ++ [32] ++ numS 16 n ++ [32] ++ digs 16 p ++ [13, 10]
def askL (a n : Int) : List UInt8 := sumW ++ numS 16 a ++ [32] ++ numS 16 n ++ [13]
def wayL (k : Nat) : List UInt8 := if k = 0 then [99, 104, 101, 99, 107] else if k = 1 then [99, 114, 99] else if k = 2 then [108, 97, 114, 103, 101] else [98, 97, 116, 99, 104]
def wayN (w : Int) : Nat := if w ≤ 0 then 0 else if w = 1 then 1 else if w = 2 then 2 else 3
def loadL (k : Nat) (a : Int) : List UInt8 := loadW ++ wayL k ++ [32] ++ numS 16 a ++ [13]
theorem num16 {i : Int} (hi : -9223372036854775808 ≤ i ∧ i ≤ 9223372036854775807) : (numS 16 i).length ≤ 17 := numS_len (by omega) (L := 16) (by omega) (by omega)
theorem c_Ask {w0 : World} {m : Mem} {a n : Int} {Q : Value → Mem → Prop} (hp : Part L0 m) (ht : Ten w0) (ha : -9223372036854775808 ≤ a ∧ a ≤ 9223372036854775807) (hn : -9223372036854775808 ≤ n ∧ n ≤ 9223372036854775807)
    (hq : ∀ m', Old m m' → Q (.string ⟨⟨askL a n⟩⟩) m') : AbC Tryz.prog w0 13 [.int .i64 a, .int .i64 n] m Q := by
  refine AbC_fn ok13 (by simp) ?_
  have la := num16 ha
  have ln := num16 hn
  unfold askL sumW at hq
  simp -implicitDefEqProofs (disch := first | assumption | (simp only [wnA]; done) | (simp only [wnA]; omega) | omega | fail) [rc13, ro13, wkA, retV, stabOk, dC, ev, fillD, pickCells, putAt, bnd, slD, List.getElem?_cons_zero, List.getElem?_cons_succ, dR.eq_20, Mem.cell, Mem.row, wmA]
  refine c_FormatInt (B := 16) hp ht (by omega) ha fun m1 o1 => ?_
  generalize numS 16 a = A at *
  obtain ⟨E1, hE1, l1, k1⟩ := catE [115, 117, 109, 32] A (by simp; omega)
  simp only [List.length_cons, List.length_nil] at l1
  obtain ⟨E2, hE2, l2, k2⟩ := catE E1 [32] (by simp; omega)
  simp only [List.length_cons, List.length_nil] at l2
  have k1 : dBin .add (.string ⟨#[115, 117, 109, 32]⟩) (.string ⟨⟨A⟩⟩) = some (.string ⟨⟨E1⟩⟩) := k1
  have k2 : dBin .add (.string ⟨⟨E1⟩⟩) (.string ⟨#[32]⟩) = some (.string ⟨⟨E2⟩⟩) := k2
  rw [hE1, hE2] at hq
  simp -implicitDefEqProofs (disch := first | assumption | (simp only [wnA]; done) | (simp only [wnA]; omega) | omega | fail) [wkA, retV, stabOk, dC, ev, fillD, pickCells, putAt, bnd, slD, List.getElem?_cons_zero, List.getElem?_cons_succ, dR.eq_20, Mem.cell, Mem.row, wmA, k1, k2]
  refine c_FormatInt (B := 16) (Old.part hp o1) ht (by omega) hn fun m2 o2 => ?_
  generalize numS 16 n = Z at *
  obtain ⟨E3, hE3, l3, k3⟩ := catE E2 Z (by omega)
  obtain ⟨E4, hE4, l4, k4⟩ := catE E3 [13] (by simp; omega)
  have k4 : dBin .add (.string ⟨⟨E3⟩⟩) (.string ⟨#[13]⟩) = some (.string ⟨⟨E4⟩⟩) := k4
  rw [hE3, hE4] at hq
  simp -implicitDefEqProofs (disch := first | assumption | (simp only [wnA]; done) | (simp only [wnA]; omega) | omega | fail) [wkA, retV, stabOk, dC, ev, fillD, pickCells, putAt, bnd, slD, List.getElem?_cons_zero, List.getElem?_cons_succ, dR.eq_20, Mem.cell, Mem.row, wmA, k3, k4]
  exact hq _ (o1.trans o2)
theorem c_Line {w0 : World} {m : Mem} {a n : Int} {p : Nat} {Q : Value → Mem → Prop} (hp : Part L0 m) (ht : Ten w0) (ha : -9223372036854775808 ≤ a ∧ a ≤ 9223372036854775807) (hn : -9223372036854775808 ≤ n ∧ n ≤ 9223372036854775807) (hpp : p < 4294967296)
    (hq : ∀ m', Old m m' → Q (.string ⟨⟨lineL a n p⟩⟩) m') : AbC Tryz.prog w0 17 [.agg ⟨[.int .i64 a, .int .i64 n, .int .u32 (p : Int)]⟩] m Q := by
  refine AbC_fn ok17 (by simp) ?_
  have la := num16 ha
  have ln := num16 hn
  have lp := digs_64 (b := 16) (by omega) (show p < 18446744073709551616 by omega)
  unfold lineL sumW at hq
  have w1 : IntKind.u64.wrap (p : Int) = (p : Int) := by rw [IntWalk.u64_in]; omega
  have hp1 : Part L0 (m.push (.own [.int .i64 a, .int .i64 n, .int .u32 (p : Int)] 44)) := Old.part hp ((Old.refl m).push _)
  simp -implicitDefEqProofs (disch := first | assumption | (simp only [wnA]; done) | (simp only [wnA]; omega) | omega | fail) [rc17, ro17, wkA, retV, stabOk, dC, ev, fillD, pickCells, putAt, bnd, slD, List.getElem?_cons_zero, List.getElem?_cons_succ, dR.eq_20, Mem.cell, Mem.row, wmA, w1]
  refine c_FormatInt (B := 16) hp1 ht (by omega) ha fun m1 o1 => ?_
  have g1 : m1.get m.next = .own [.int .i64 a, .int .i64 n, .int .u32 (p : Int)] 44 := by rw [o1.2 _ (by simp)]; simp
  generalize numS 16 a = A at *
  obtain ⟨E1, hE1, l1, k1⟩ := catE [115, 117, 109, 32] A (by simp; omega)
  simp only [List.length_cons, List.length_nil] at l1
  obtain ⟨E2, hE2, l2, k2⟩ := catE E1 [32] (by simp; omega)
  simp only [List.length_cons, List.length_nil] at l2
  have k1 : dBin .add (.string ⟨#[115, 117, 109, 32]⟩) (.string ⟨⟨A⟩⟩) = some (.string ⟨⟨E1⟩⟩) := k1
  have k2 : dBin .add (.string ⟨⟨E1⟩⟩) (.string ⟨#[32]⟩) = some (.string ⟨⟨E2⟩⟩) := k2
  rw [hE1, hE2] at hq
  simp -implicitDefEqProofs (disch := first | assumption | (simp only [wnA]; done) | (simp only [wnA]; omega) | omega | fail) [wkA, retV, stabOk, dC, ev, fillD, pickCells, putAt, bnd, slD, List.getElem?_cons_zero, List.getElem?_cons_succ, dR.eq_20, Mem.cell, Mem.row, wmA, k1, k2, g1]
  refine c_FormatInt (B := 16) (Old.part hp1 o1) ht (by omega) hn fun m2 o2 => ?_
  have g2 : m2.get m.next = .own [.int .i64 a, .int .i64 n, .int .u32 (p : Int)] 44 := by
    have : m.next < m1.next := Nat.lt_of_lt_of_le (by simp) o1.1
    rw [o2.2 _ this]; exact g1
  generalize numS 16 n = Z at *
  obtain ⟨E3, hE3, l3, k3⟩ := catE E2 Z (by omega)
  obtain ⟨E4, hE4, l4, k4⟩ := catE E3 [32] (by simp; omega)
  simp only [List.length_cons, List.length_nil] at l4
  have k4 : dBin .add (.string ⟨⟨E3⟩⟩) (.string ⟨#[32]⟩) = some (.string ⟨⟨E4⟩⟩) := k4
  rw [hE3, hE4] at hq
  simp -implicitDefEqProofs (disch := first | assumption | (simp only [wnA]; done) | (simp only [wnA]; omega) | omega | fail) [wkA, retV, stabOk, dC, ev, fillD, pickCells, putAt, bnd, slD, List.getElem?_cons_zero, List.getElem?_cons_succ, dR.eq_20, Mem.cell, Mem.row, wmA, k3, k4, g2, w1]
  refine c_FormatUint (B := 16) (Old.part (Old.part hp1 o1) o2) ht (by omega) (by omega) fun m3 o3 => ?_
  generalize digs 16 p = Y at *
  obtain ⟨E5, hE5, l5, k5⟩ := catE E4 Y (by omega)
  obtain ⟨E6, hE6, l6, k6⟩ := catE E5 [13, 10] (by simp; omega)
  have k6 : dBin .add (.string ⟨⟨E5⟩⟩) (.string ⟨#[13, 10]⟩) = some (.string ⟨⟨E6⟩⟩) := k6
  rw [hE5, hE6] at hq
  simp -implicitDefEqProofs (disch := first | assumption | (simp only [wnA]; done) | (simp only [wnA]; omega) | omega | fail) [wkA, retV, stabOk, dC, ev, fillD, pickCells, putAt, bnd, slD, List.getElem?_cons_zero, List.getElem?_cons_succ, dR.eq_20, Mem.cell, Mem.row, wmA, k5, k6]
  exact hq _ ((((Old.refl m).push _).trans o1).trans (o2.trans o3))
theorem way_k (w : Int) : ∃ k : Nat, k < 4 ∧ wayN w = k ∧ (if (0 : Int) < (if (3 : Int) < w then 3 else w) then (if (3 : Int) < w then 3 else w) else 0) = (k : Int) := by
  unfold wayN
  by_cases h0 : w ≤ 0
  · exact ⟨0, by omega, by rw [if_pos h0], by split <;> split <;> omega⟩
  by_cases h1 : w = 1
  · subst h1; exact ⟨1, by omega, by simp, by simp⟩
  by_cases h2 : w = 2
  · subst h2; exact ⟨2, by omega, by simp, by simp⟩
  · exact ⟨3, by omega, by rw [if_neg h0, if_neg h1, if_neg h2], by split <;> split <;> omega⟩
def waysC : List Value := [.string ⟨⟨wayL 0⟩⟩, .string ⟨⟨wayL 1⟩⟩, .string ⟨⟨wayL 2⟩⟩, .string ⟨⟨wayL 3⟩⟩]
theorem ways_at {k : Nat} (hk : k < 4) : waysC[k]? = some (.string ⟨⟨wayL k⟩⟩) := by
  rcases (show k = 0 ∨ k = 1 ∨ k = 2 ∨ k = 3 by omega) with rfl | rfl | rfl | rfl <;> rfl
theorem c_Ways {w0 : World} {m : Mem} {Q : Value → Mem → Prop} (hq : Q (.slice (some ⟨m.next, 0, none⟩) 4 1) (m.push (.own waysC 9))) : AbC Tryz.prog w0 35 [] m Q := by
  refine AbC_fn ok35 (by simp) ?_
  simp -implicitDefEqProofs (disch := first | assumption | (simp only [wnA]; done) | (simp only [wnA]; omega) | omega | fail) [rc35, ro35, wkA, retV, stabOk, dC, ev, fillD, pickCells, putAt, bnd, slD, List.getElem?_cons_zero, List.getElem?_cons_succ, dR.eq_20, Mem.cell, Mem.row, wmA]
  rw [SK_bsl (cs := waysC) (by simp [fillD, pickCells, wkA, retV, stabOk, dC, ev, fillD, pickCells, putAt, bnd, slD, List.getElem?_cons_zero, List.getElem?_cons_succ, dR.eq_20, waysC, wayL]) rfl]
  simp -implicitDefEqProofs (disch := first | assumption | (simp only [wnA]; done) | (simp only [wnA]; omega) | omega | fail) [wkA, retV, stabOk, dC, ev, fillD, pickCells, putAt, bnd, slD, List.getElem?_cons_zero, List.getElem?_cons_succ, dR.eq_20, Mem.cell, Mem.row, wmA]
  exact hq
theorem c_Load {w0 : World} {m : Mem} {w a : Int} {Q : Value → Mem → Prop} (hp : Part L0 m) (ht : Ten w0) (ha : -9223372036854775808 ≤ a ∧ a ≤ 9223372036854775807)
    (hq : ∀ m', Old m m' → Q (.string ⟨⟨loadL (wayN w) a⟩⟩) m') : AbC Tryz.prog w0 18 [.int .i64 w, .int .i64 a] m Q := by
  refine AbC_fn ok18 (by simp) ?_
  have la := num16 ha
  unfold loadL loadW at hq
  obtain ⟨k, hk, hk1, hk2⟩ := way_k w
  rw [hk1] at hq
  simp -implicitDefEqProofs (disch := first | assumption | (simp only [wnA]; done) | (simp only [wnA]; omega) | omega | fail) [rc18, ro18, wkA, retV, stabOk, dC, ev, fillD, pickCells, putAt, bnd, slD, List.getElem?_cons_zero, List.getElem?_cons_succ, dR.eq_20, Mem.cell, Mem.row, wmA, hk2]
  refine c_Ways ?_
  have hidx : sidx 1 (.slice (some ⟨m.next, 0, none⟩) 4 1) (.int .i64 (k : Int)) = some (.pointer (some ⟨m.next, 0 + k * 1, none⟩)) := sidx_at hk
  have hat := ways_at hk
  have hw : (wayL k).length ≤ 5 := by rcases (show k = 0 ∨ k = 1 ∨ k = 2 ∨ k = 3 by omega) with rfl | rfl | rfl | rfl <;> decide
  have hg : (m.push (.own waysC 9)).get m.next = .own waysC 9 := by simp
  have hp1 : Part L0 (m.push (.own waysC 9)) := Old.part hp ((Old.refl m).push _)
  have o0 : Old m (m.push (.own waysC 9)) := (Old.refl m).push _
  have hm : m.next < (m.push (.own waysC 9)).next := by simp
  generalize m.push (.own waysC 9) = m0 at *
  generalize wayL k = W at *
  generalize waysC = C at *
  obtain ⟨E1, hE1, l1, k1⟩ := catE [108, 111, 97, 100, 32] W (by simp; omega)
  simp only [List.length_cons, List.length_nil] at l1
  obtain ⟨E2, hE2, l2, k2⟩ := catE E1 [32] (by simp; omega)
  simp only [List.length_cons, List.length_nil] at l2
  have k1 : dBin .add (.string ⟨#[108, 111, 97, 100, 32]⟩) (.string ⟨⟨W⟩⟩) = some (.string ⟨⟨E1⟩⟩) := k1
  have k2 : dBin .add (.string ⟨⟨E1⟩⟩) (.string ⟨#[32]⟩) = some (.string ⟨⟨E2⟩⟩) := k2
  rw [hE1, hE2] at hq
  have hidx : sidx 1 (.slice (some ⟨m.next, 0, none⟩) 4 1) (.int .i64 (k : Int)) = some (.pointer (some ⟨m.next, k, none⟩)) := by rw [hidx]; simp
  obtain ⟨hlt, hat'⟩ := List.getElem?_eq_some_iff.1 hat
  simp -implicitDefEqProofs (disch := first | assumption | (simp only [wnA]; done) | (simp only [wnA]; omega) | omega | fail) [wkA, retV, stabOk, dC, ev, fillD, pickCells, putAt, bnd, slD, List.getElem?_cons_zero, List.getElem?_cons_succ, dR.eq_20, Mem.cell, Mem.row, wmA, hk2, hidx, hg, hat, hat', hlt, k1, k2]
  refine c_FormatInt (B := 16) hp1 ht (by omega) ha fun m1 o1 => ?_
  have g1 : m1.get m.next = .own C 9 := by rw [o1.2 _ hm]; exact hg
  generalize numS 16 a = A at *
  obtain ⟨E3, hE3, l3, k3⟩ := catE E2 A (by omega)
  obtain ⟨E4, hE4, l4, k4⟩ := catE E3 [13] (by simp; omega)
  have k4 : dBin .add (.string ⟨⟨E3⟩⟩) (.string ⟨#[13]⟩) = some (.string ⟨⟨E4⟩⟩) := k4
  rw [hE3, hE4] at hq
  simp -implicitDefEqProofs (disch := first | assumption | (simp only [wnA]; done) | (simp only [wnA]; omega) | omega | fail) [wkA, retV, stabOk, dC, ev, fillD, pickCells, putAt, bnd, slD, List.getElem?_cons_zero, List.getElem?_cons_succ, dR.eq_20, Mem.cell, Mem.row, wmA, k3, k4, g1, hat, hat', hlt]
  exact hq _ (o0.trans o1)
end Go.Proofs.YtiapjjgmmiifmaaGreatDoor.Ab

set_option linter.unusedVariables false
set_option linter.unusedSimpArgs false
namespace Go.Proofs.YtiapjjgmmiifmaaGreatDoor.Ab
open Go Go.RowKit
set_option maxHeartbeats 4000000
set_option maxRecDepth 100000
inductive Tak where
  | no
  | plain (r : Rc)
  | files (b : Br)
noncomputable def Tak.put : Tak → List UInt8 → Tak × List UInt8
  | .no, _ => (.no, [])
  | .plain r, b => (.plain (rPutF r b).1, (rPutF r b).2)
  | .files r, b => (.files (bPutF r b).1, (bPutF r b).2)
noncomputable def Tak.tick : Tak → Tak × List UInt8
  | .no => (.no, [])
  | .plain r => (.plain (rTickF r).1, (rTickF r).2)
  | .files r => (.files (bTickF r).1, (bTickF r).2)
def Tak.over : Tak → Bool
  | .no => false
  | .plain r => r.over
  | .files r => r.over
def Tak.err : Tak → Nat
  | .no => 0
  | .plain r => r.err
  | .files r => r.err
def Tak.data : Tak → List UInt8
  | .no => []
  | .plain r => r.data
  | .files r => r.data
/-- How many bytes it holds at most. -/
def Tak.sz : Tak → Nat
  | .no => 0
  | .plain r => r.data.length + r.buffer.length
  | .files r => r.part.data.length + r.part.buffer.length
def TakR (H : HL) (v : Value) : Tak → Prop
  | .no => H = [] ∧ v = .nilIface
  | .plain r => ∃ ir, v = .iface 91 (.pointer (some ⟨ir, 0, none⟩)) ∧ RcR H ir r
  | .files r => ∃ ib, v = .iface 92 (.pointer (some ⟨ib, 0, none⟩)) ∧ BrR H ib r
structure TgS where
  mem : List UInt8
  tr : Int
  wt : Int
  asleep : Bool
  line : List UInt8
  tak : Tak
  addr : Int
  reps : List (Int × Int × Nat)
def repC (r : Int × Int × Nat) : List Value := [.int .i64 r.1, .int .i64 r.2.1, .int .u32 (r.2.2 : Int)]
theorem repC_len (r : Int × Int × Nat) : (repC r).length = 3 := rfl
theorem rep_one : ∀ (l : List (Int × Int × Nat)), (l.flatMap repC).all oneC = true
  | [] => rfl
  | r :: l => by rw [List.flatMap_cons, List.all_append, rep_one l]; rfl
def tgC (s : TgS) (sp : Nat) (vl tv vr : Value) : List Value := [.pointer (some ⟨sp, 0, none⟩), .int .i64 s.tr, .int .i64 s.wt, .bool s.asleep, vl, tv, .int .i64 s.addr, vr]
def reH (ob : Option Nat) (l : List (Int × Int × Nat)) : Option Nat × Ent := (ob, .own (l.flatMap repC) 44)
def tgH (it sp : Nat) (ol orr : Option Nat) (tv : Value) (s : TgS) : HL := [(some it, .own (tgC s sp (slV ol s.line.length 1) tv (slV orr s.reps.length 3)) 34), stH sp s.mem, byH ol s.line, reH orr s.reps]
structure TgR (H : HL) (it : Nat) (s : TgS) : Prop where
  ex : ∃ sp ol orr tv HT, H = tgH it sp ol orr tv s ++ HT ∧ TakR HT tv s.tak ∧ (ol = none → s.line.length = 0) ∧ (orr = none → s.reps.length = 0)
  ml : s.mem.length = 16384
  ll : s.line.length ≤ 80
theorem m_rPut : methOf Tryz.prog 91 "Put" = some 43 := by kernel_rfl
theorem m_rTick : methOf Tryz.prog 91 "Tick" = some 41 := by kernel_rfl
theorem m_rDone : methOf Tryz.prog 91 "Done" = some 51 := by kernel_rfl
theorem m_rData : methOf Tryz.prog 91 "Data" = some 52 := by kernel_rfl
theorem m_bPut : methOf Tryz.prog 92 "Put" = some 42 := by kernel_rfl
theorem m_bTick : methOf Tryz.prog 92 "Tick" = some 40 := by kernel_rfl
theorem m_bDone : methOf Tryz.prog 92 "Done" = some 49 := by kernel_rfl
theorem m_bData : methOf Tryz.prog 92 "Data" = some 50 := by kernel_rfl
/-- What takes is told of by its name: one call for both kinds. -/
theorem call_takPut {w0 : World} {V : Nat → Prop} {m : Mem} {H : HL} {tv v : Value} {k : Tak} {b : List UInt8} {ts : Fr} {x y : Operand} {R : Value → Mem → Prop} (ht : Ten w0) (hE : ErrV w0) (h : Sep m V m H) (hk : TakR H tv k) (hne : k ≠ .no) (hr : RdV V m 1 v (b.map byteV) b.length)
    (hbig : k.sz + b.length + 1024 ≤ 140737488355328) (hx : ev ts x = tv) (hy : ev ts y = v)
    (hq : ∀ oo H' M, Sep m V M (byH oo (k.put b).2 :: H') → TakR H' tv (k.put b).1 → (oo = none → (k.put b).2.length = 0) → R (slV oo (k.put b).2.length 1) M) :
    SK Tryz.prog w0 (.c (.inv x "Put" [y])) ts m R := by
  cases k with
  | no => exact absurd rfl hne
  | plain r =>
    obtain ⟨ir, rfl, hR⟩ := hk
    simp only [SK, dC, hx, m_rPut, List.map_cons, List.map_nil, hy]
    simp only [Tak.sz] at hbig
    exact c_rPut h hR hr (by omega) (by omega) fun oo H' M h1 h2 h3 => hq oo H' M h1 ⟨ir, rfl, h2⟩ h3
  | files r =>
    obtain ⟨ib, rfl, hR⟩ := hk
    simp only [SK, dC, hx, m_bPut, List.map_cons, List.map_nil, hy]
    simp only [Tak.sz] at hbig
    exact c_bPut ht hE h hR hr (by omega) (by omega) fun oo H' M h1 h2 h3 => hq oo H' M h1 ⟨ib, rfl, h2⟩ h3
theorem call_takTick {w0 : World} {V : Nat → Prop} {m : Mem} {H : HL} {tv : Value} {k : Tak} {ts : Fr} {x : Operand} {R : Value → Mem → Prop} (ht : Ten w0) (hE : ErrV w0) (h : Sep m V m H) (hk : TakR H tv k) (hne : k ≠ .no)
    (hbig : k.sz ≤ 140737488355328) (hx : ev ts x = tv)
    (hq : ∀ oo H' M, Sep m V M (byH oo (k.tick).2 :: H') → TakR H' tv (k.tick).1 → (oo = none → (k.tick).2.length = 0) → R (slV oo (k.tick).2.length 1) M) :
    SK Tryz.prog w0 (.c (.inv x "Tick" [])) ts m R := by
  cases k with
  | no => exact absurd rfl hne
  | plain r =>
    obtain ⟨ir, rfl, hR⟩ := hk
    simp only [SK, dC, hx, m_rTick, List.map_nil]
    exact c_rTick h hR fun oo H' M h1 h2 h3 => hq oo H' M h1 ⟨ir, rfl, h2⟩ h3
  | files r =>
    obtain ⟨ib, rfl, hR⟩ := hk
    simp only [SK, dC, hx, m_bTick, List.map_nil]
    simp only [Tak.sz] at hbig
    exact c_bTick ht hE h hR (by omega) fun oo H' M h1 h2 h3 => hq oo H' M h1 ⟨ib, rfl, h2⟩ h3
theorem call_takDone {w0 : World} {V : Nat → Prop} {m0 m : Mem} {l H : HL} {tv : Value} {k : Tak} {ts : Fr} {x : Operand} {R : Value → Mem → Prop} (h : Sep m0 V m l) (hk : TakR H tv k) (hs : ∀ p ∈ H, p ∈ l) (hne : k ≠ .no) (hx : ev ts x = tv)
    (hq : R (.tuple ⟨[.bool k.over, errV k.err]⟩) m) : SK Tryz.prog w0 (.c (.inv x "Done" [])) ts m R := by
  cases k with
  | no => exact absurd rfl hne
  | plain r =>
    obtain ⟨ir, rfl, hR⟩ := hk
    obtain ⟨⟨ob, od, rfl, hb, hd⟩, hw⟩ := hR
    simp only [SK, dC, hx, m_rDone, List.map_nil]
    obtain ⟨q, hq'⟩ := List.mem_iff_getElem?.1 (hs _ (List.mem_cons_self ..))
    exact c_rDone h q hq' hq
  | files r =>
    obtain ⟨ib, rfl, hR⟩ := hk
    simp only [SK, dC, hx, m_bDone, List.map_nil]
    exact c_bDone h hR hs hq
theorem call_takData {w0 : World} {V : Nat → Prop} {m : Mem} {H : HL} {tv : Value} {k : Tak} {ts : Fr} {x : Operand} {R : Value → Mem → Prop} (h : Sep m V m H) (hk : TakR H tv k) (hne : k ≠ .no) (hbig : k.sz ≤ 140737488355328) (hx : ev ts x = tv)
    (hq : ∀ oo M, Sep m V M (byH oo k.data :: H) → (oo = none → k.data.length = 0) → R (slV oo k.data.length 1) M) : SK Tryz.prog w0 (.c (.inv x "Data" [])) ts m R := by
  cases k with
  | no => exact absurd rfl hne
  | plain r =>
    obtain ⟨ir, rfl, hR⟩ := hk
    simp only [SK, dC, hx, m_rData, List.map_nil]
    simp only [Tak.sz] at hbig
    exact c_rData h hR (by omega) hq
  | files r =>
    obtain ⟨ib, rfl, hR⟩ := hk
    simp only [SK, dC, hx, m_bData, List.map_nil]
    exact c_bData h hR hq
end Go.Proofs.YtiapjjgmmiifmaaGreatDoor.Ab

set_option linter.unusedVariables false
set_option linter.unusedSimpArgs false
namespace Go.Proofs.YtiapjjgmmiifmaaGreatDoor.Ab
open Go Go.RowKit
set_option maxHeartbeats 4000000
set_option maxRecDepth 100000
def hexN (l : List UInt8) : Option Nat := match puL 16 4294967295 0 l with
  | some v => if digs 16 v = l then some v else none
  | none => none
theorem puL_le {B M : Nat} : ∀ (l : List UInt8) (n v : Nat), n ≤ M → puL B M n l = some v → v ≤ M
  | [], n, v, h, e => by cases e; exact h
  | c :: l, n, v, h, e => by
    simp only [puL] at e
    split at e
    · rename_i n' hn
      refine puL_le l n' v ?_ e
      unfold puStep at hn
      split at hn
      · split at hn
        · rename_i hh; cases hn; exact hh.2
        · cases hn
      · cases hn
    · cases e
theorem hexN_lt {l : List UInt8} {n : Nat} (h : hexN l = some n) : n < 4294967296 := by
  unfold hexN at h
  split at h
  · rename_i v hv
    have := puL_le l 0 v (by omega) hv
    split at h
    · cases h; omega
    · cases h
  · cases h
theorem hexN_digs {n : Nat} (h : n < 4294967296) : hexN (digs 16 n) = some n := by
  unfold hexN
  rw [puL_digs (by omega) n (by omega)]
  simp
theorem hexN_eq {l : List UInt8} {n : Nat} (h : hexN l = some n) : digs 16 n = l := by
  unfold hexN at h
  split at h
  · split at h
    · rename_i hh; cases h; exact hh
    · cases h
  · cases h
theorem c_hex {w0 : World} {m : Mem} {s : List UInt8} {Q : Value → Mem → Prop} (hp : Part L0 m) (ht : Ten w0) (hE : ErrV w0) (hs : s.length ≤ 1000000)
    (h1 : ∀ M (n : Nat), Old m M → hexN s = some n → Q (.tuple ⟨[.int .i64 (n : Int), .bool true]⟩) M) (h0 : ∀ M (z : Int), Old m M → hexN s = none → Q (.tuple ⟨[.int .i64 z, .bool false]⟩) M) :
    AbC Tryz.prog w0 63 [.string ⟨⟨s⟩⟩] m Q := by
  refine AbC_fn ok63 (by simp) ?_
  simp -implicitDefEqProofs (disch := first | assumption | omega | fail) [rc63, ro63, wkB, retV, stabOk, dC, ev, fillD, pickCells, putAt, bnd, slD, List.getElem?_cons_zero, List.getElem?_cons_succ, Mem.cell, Mem.row, cells_own, cells_ro]
  refine c_ParseUint (B := 16) (M := 4294967295) (bits := 32) hE (by omega) (.inl ⟨rfl, rfl⟩) (by show s.length ≤ _; omega) (fun M v p o he => ?_) fun M v o hs0 hv => ?_
  · simp -implicitDefEqProofs (disch := first | assumption | omega | fail) [wkB, retV, stabOk, dC, ev, fillD, pickCells, putAt, bnd, slD, List.getElem?_cons_zero, List.getElem?_cons_succ, Mem.cell, Mem.row, cells_own, cells_ro]
    refine h0 M _ o ?_
    unfold hexN
    rcases he with he | he
    · have : s = [] := List.length_eq_zero_iff.1 he
      subst this
      simp only [puL]
      rw [digs_lt (by omega)]
      simp
    · have he : puL 16 4294967295 0 s = none := he
      rw [he]
  · have hv : puL 16 4294967295 0 s = some v := hv
    have hle := puL_le s 0 v (by omega) hv
    have w1 : IntKind.i64.wrap (v : Int) = (v : Int) := w64 (by omega)
    simp -implicitDefEqProofs (disch := first | assumption | omega | fail) [wkB, retV, stabOk, dC, ev, fillD, pickCells, putAt, bnd, slD, List.getElem?_cons_zero, List.getElem?_cons_succ, Mem.cell, Mem.row, cells_own, cells_ro, w1]
    refine c_FormatUint (B := 16) (Old.part hp o) ht (by omega) (by omega) fun M2 o2 => ?_
    by_cases he : digs 16 v = s
    · have e2 : (digs 16 v == s) = true := by simp [he]
      simp -implicitDefEqProofs (disch := first | assumption | omega | fail) [wkB, retV, stabOk, dC, ev, fillD, pickCells, putAt, bnd, slD, List.getElem?_cons_zero, List.getElem?_cons_succ, Mem.cell, Mem.row, cells_own, cells_ro, e2]
      exact h1 M2 v (o.trans o2) (by unfold hexN; rw [hv]; simp [he])
    · have e2 : (digs 16 v == s) = false := by simp [he]
      simp -implicitDefEqProofs (disch := first | assumption | omega | fail) [wkB, retV, stabOk, dC, ev, fillD, pickCells, putAt, bnd, slD, List.getElem?_cons_zero, List.getElem?_cons_succ, Mem.cell, Mem.row, cells_own, cells_ro, e2]
      exact h0 M2 _ (o.trans o2) (by unfold hexN; rw [hv]; simp [he])
def wayIx (l : List UInt8) : Option Nat := if l = wayL 0 then some 0 else if l = wayL 1 then some 1 else if l = wayL 2 then some 2 else if l = wayL 3 then some 3 else none
def begF (s : TgS) (k : Nat) (a : Int) : TgS := { s with addr := a, tak := if k = 3 then .files (bTake s.tr s.wt) else .plain (rOf s.tr s.wt 1 (decide (k ≠ 0)) true 1) }
def wayCs : List Value := [.string ⟨⟨wayL 0⟩⟩, .string ⟨⟨wayL 1⟩⟩, .string ⟨⟨wayL 2⟩⟩, .string ⟨⟨wayL 3⟩⟩]
theorem wayCs_at {j : Nat} (h : j < 4) : wayCs[j]? = some (.string ⟨⟨wayL j⟩⟩) := by
  rcases (show j = 0 ∨ j = 1 ∨ j = 2 ∨ j = 3 by omega) with rfl | rfl | rfl | rfl <;> rfl
theorem c_begin {w0 : World} {V : Nat → Prop} {m0 m : Mem} {it sp : Nat} {ol orr : Option Nat} {s : TgS} {way : List UInt8} {a : Int} {Q : Value → Mem → Prop} (h : Sep m0 V m (tgH it sp ol orr .nilIface s))
    (h1 : ∀ M k tv HT, wayIx way = some k → Sep m0 V M (tgH it sp ol orr tv (begF s k a) ++ HT) → TakR HT tv (begF s k a).tak → Q (.bool true) M)
    (h0 : ∀ M, wayIx way = none → Sep m0 V M (tgH it sp ol orr .nilIface s) → Q (.bool false) M) :
    AbC Tryz.prog w0 64 [.pointer (some ⟨it, 0, none⟩), .string ⟨⟨way⟩⟩, .int .i64 a] m Q := by
  refine AbC_fn ok64 (by simp) ?_
  simp -implicitDefEqProofs (disch := first | assumption | omega | fail) [rc64, ro64, wkB, retV, stabOk, dC, ev, fillD, pickCells, putAt, bnd, slD, List.getElem?_cons_zero, List.getElem?_cons_succ, Mem.cell, Mem.row, cells_own, cells_ro]
  refine AbC_fn ok35 (by simp) ?_
  simp -implicitDefEqProofs (disch := first | assumption | omega | fail) [rc35, ro35, wkB, retV, stabOk, dC, ev, fillD, pickCells, putAt, bnd, slD, List.getElem?_cons_zero, List.getElem?_cons_succ, Mem.cell, Mem.row, cells_own, cells_ro]
  refine SK_bslS h (cs := wayCs) (by simp [fillD, pickCells, wkB, retV, stabOk, dC, ev, fillD, pickCells, putAt, bnd, slD, List.getElem?_cons_zero, List.getElem?_cons_succ, Mem.cell, Mem.row, cells_own, cells_ro, wayCs, wayL]) rfl fun bw m1 hh1 _ _ => ?_
  simp -implicitDefEqProofs (disch := first | assumption | omega | fail) [wkB, retV, stabOk, dC, ev, fillD, pickCells, putAt, bnd, slD, List.getElem?_cons_zero, List.getElem?_cons_succ, Mem.cell, Mem.row, cells_own, cells_ro]
  refine LoopW_of (fun k ts m' => ∃ j, j + k = 4 ∧ m' = m1 ∧ (∀ i, i < j → way ≠ wayL i) ∧ ts 0 = .pointer (some ⟨it, 0, none⟩) ∧ ts 1 = .string ⟨⟨way⟩⟩ ∧ ts 2 = .int .i64 a ∧ ts 9 = .slice (some ⟨bw, 0, none⟩) 4 1 ∧ ts 10 = .int .i64 4 ∧ ts 11 = .int .i64 (j : Nat)) 4 ?_ ?_
  · exact ⟨0, by omega, rfl, fun i hi => by omega, by simp [frA_at], by simp [frA_at], by simp [frA_at], by simp, by simp, by simp⟩
  · rintro k ts m' K ⟨j, hj, rfl, hne, t0, t1, t2, t9, t10, t11⟩ hK
    by_cases hj4 : j < 4
    · have hj8 : (j : Int) < 4 := by omega
      have hidx : sidx 1 (.slice (some ⟨bw, 0, none⟩) 4 1) (.int .i64 (j : Int)) = some (.pointer (some ⟨bw, j, none⟩)) := by simpa using sidx_at (b := bw) (o := 0) (n := 4) (c := 1) (j := j) (sz := 1) (k := .i64) hj4
      have gw := hh1.get 0 rfl
      have hc := wayCs_at hj4
      have w1 : IntKind.i64.wrap ((j : Int) + 1) = (j : Int) + 1 := w64 (by omega)
      obtain ⟨C, hC⟩ : ∃ C, wayCs = C := ⟨_, rfl⟩
      rw [hC] at gw hc
      by_cases hw : way = wayL j
      · have hw2 : (!(wayL j == way)) = false := by simp [hw]
        have hix : wayIx way = some j := by
          subst hw
          rcases (show j = 0 ∨ j = 1 ∨ j = 2 ∨ j = 3 by omega) with rfl | rfl | rfl | rfl <;> decide
        have hh2 := hh1.tl
        simp -implicitDefEqProofs (disch := first | assumption | omega | fail) [rc64_3, rc64_2, wkB, retV, stabOk, dC, ev, fillD, pickCells, putAt, bnd, slD, List.getElem?_cons_zero, List.getElem?_cons_succ, Mem.cell, Mem.row, cells_own, cells_ro, t0, t1, t2, t9, t10, t11, hj8, hidx, gw, hc, getL1 hc, hw2, rc64_1]
        refine SK_stS hh2 0 rfl (o := 6) (vs := [.int .i64 a]) (cs' := tgC { s with addr := a } sp (slV ol s.line.length 1) .nilIface (slV orr s.reps.length 3)) (by simp [wkB, retV, stabOk, dC, ev, fillD, pickCells, putAt, bnd, slD, List.getElem?_cons_zero, List.getElem?_cons_succ, Mem.cell, Mem.row, cells_own, cells_ro]) (by simp [wkB, retV, stabOk, dC, ev, fillD, pickCells, putAt, bnd, slD, List.getElem?_cons_zero, List.getElem?_cons_succ, Mem.cell, Mem.row, cells_own, cells_ro]) (by simp [tgC]) rfl rfl (by simp [tgC, putAt]) fun m2 h2 _ => ?_
        have g2 := h2.get 0 rfl
        simp only [tgC] at g2
        by_cases h3 : j = 3
        · subst h3
          simp -implicitDefEqProofs (disch := first | assumption | omega | fail) [wkB, retV, stabOk, dC, ev, fillD, pickCells, putAt, bnd, slD, List.getElem?_cons_zero, List.getElem?_cons_succ, Mem.cell, Mem.row, cells_own, cells_ro, t0, t11, g2]
          refine c_bTake h2 fun ib H M hM hR => ?_
          simp -implicitDefEqProofs (disch := first | assumption | omega | fail) [wkB, retV, stabOk, dC, ev, fillD, pickCells, putAt, bnd, slD, List.getElem?_cons_zero, List.getElem?_cons_succ, Mem.cell, Mem.row, cells_own, cells_ro]
          have hM := hM.perm List.perm_append_comm
          refine SK_stS hM 0 rfl (o := 5) (vs := [.iface 92 (.pointer (some ⟨ib, 0, none⟩))]) (cs' := tgC (begF s 3 a) sp (slV ol s.line.length 1) (.iface 92 (.pointer (some ⟨ib, 0, none⟩))) (slV orr s.reps.length 3)) (by simp [wkB, retV, stabOk, dC, ev, fillD, pickCells, putAt, bnd, slD, List.getElem?_cons_zero, List.getElem?_cons_succ, Mem.cell, Mem.row, cells_own, cells_ro]) (by simp [wkB, retV, stabOk, dC, ev, fillD, pickCells, putAt, bnd, slD, List.getElem?_cons_zero, List.getElem?_cons_succ, Mem.cell, Mem.row, cells_own, cells_ro]) (by simp [tgC]) rfl rfl (by simp [tgC, putAt, begF]) fun m4 h4 _ => ?_
          simp -implicitDefEqProofs (disch := first | assumption | omega | fail) [wkB, retV, stabOk, dC, ev, fillD, pickCells, putAt, bnd, slD, List.getElem?_cons_zero, List.getElem?_cons_succ, Mem.cell, Mem.row, cells_own, cells_ro, rc64_0]
          exact h1 m4 3 _ H hix h4 ⟨ib, rfl, hR⟩
        · have h3' : ((j : Int) == 3) = false := beq_eq_false_iff_ne.2 (by omega)
          have e0 : ((j : Int) != 0) = decide (j ≠ 0) := by by_cases hh : j = 0 <;> simp [hh]
          simp -implicitDefEqProofs (disch := first | assumption | omega | fail) [wkB, retV, stabOk, dC, ev, fillD, pickCells, putAt, bnd, slD, List.getElem?_cons_zero, List.getElem?_cons_succ, Mem.cell, Mem.row, cells_own, cells_ro, t0, t11, g2, h3', e0]
          refine c_rOf (n := 1) h2 fun ir H M hM hR => ?_
          simp -implicitDefEqProofs (disch := first | assumption | omega | fail) [wkB, retV, stabOk, dC, ev, fillD, pickCells, putAt, bnd, slD, List.getElem?_cons_zero, List.getElem?_cons_succ, Mem.cell, Mem.row, cells_own, cells_ro]
          have hM := hM.perm List.perm_append_comm
          refine SK_stS hM 0 rfl (o := 5) (vs := [.iface 91 (.pointer (some ⟨ir, 0, none⟩))]) (cs' := tgC (begF s j a) sp (slV ol s.line.length 1) (.iface 91 (.pointer (some ⟨ir, 0, none⟩))) (slV orr s.reps.length 3)) (by simp [wkB, retV, stabOk, dC, ev, fillD, pickCells, putAt, bnd, slD, List.getElem?_cons_zero, List.getElem?_cons_succ, Mem.cell, Mem.row, cells_own, cells_ro]) (by simp [wkB, retV, stabOk, dC, ev, fillD, pickCells, putAt, bnd, slD, List.getElem?_cons_zero, List.getElem?_cons_succ, Mem.cell, Mem.row, cells_own, cells_ro]) (by simp [tgC]) rfl rfl (by simp [tgC, putAt, begF]) fun m4 h4 _ => ?_
          simp -implicitDefEqProofs (disch := first | assumption | omega | fail) [wkB, retV, stabOk, dC, ev, fillD, pickCells, putAt, bnd, slD, List.getElem?_cons_zero, List.getElem?_cons_succ, Mem.cell, Mem.row, cells_own, cells_ro, rc64_0]
          refine h1 m4 j _ H hix h4 ?_
          simp only [begF, if_neg h3]
          exact ⟨ir, rfl, by simpa using hR⟩
      · have hw2 : (!(wayL j == way)) = true := by simp; exact fun e => hw e.symm
        simp -implicitDefEqProofs (disch := first | assumption | omega | fail) [rc64_3, rc64_2, wkB, retV, stabOk, dC, ev, fillD, pickCells, putAt, bnd, slD, List.getElem?_cons_zero, List.getElem?_cons_succ, Mem.cell, Mem.row, cells_own, cells_ro, t0, t1, t2, t9, t10, t11, hj8, hidx, gw, hc, getL1 hc, hw2, w1]
        exact hK (k - 1) _ _ (by omega) ⟨j + 1, by omega, rfl, fun i hi => by
          by_cases e : i = j
          · subst e; exact hw
          · exact hne i (by omega), by simp [t0], by simp [t1], by simp [t2], by simp [t9], by simp [t10], by simp⟩
    · have hjj : j = 4 := by omega
      subst hjj
      have hix : wayIx way = none := by
        unfold wayIx
        rw [if_neg (hne 0 (by omega)), if_neg (hne 1 (by omega)), if_neg (hne 2 (by omega)), if_neg (hne 3 (by omega))]
      simp -implicitDefEqProofs (disch := first | assumption | omega | fail) [rc64_3, rc64_4, wkB, retV, stabOk, dC, ev, fillD, pickCells, putAt, bnd, slD, List.getElem?_cons_zero, List.getElem?_cons_succ, Mem.cell, Mem.row, cells_own, cells_ro, t10, t11]
      exact h0 m' hix hh1.tl
end Go.Proofs.YtiapjjgmmiifmaaGreatDoor.Ab

set_option linter.unusedVariables false
set_option linter.unusedSimpArgs false
namespace Go.Proofs.YtiapjjgmmiifmaaGreatDoor.Ab
open Go Go.RowKit
set_option maxHeartbeats 4000000
set_option maxRecDepth 100000
def proL : List UInt8 := [13, 10, 61, 62, 32]
def qryL : List UInt8 := 63 :: proL
def load4 : List UInt8 := [108, 111, 97, 100]
def sum3 : List UInt8 := [115, 117, 109]
def loadR (s : TgS) (w b c : List UInt8) : Option TgS := if w = load4 then (match hexN c, wayIx b with | some a, some k => some (begF s k a) | _, _ => none) else none
def sumR (s : TgS) (w b c : List UInt8) : Option (Int × Int × Nat) := if w = sum3 then (match hexN b, hexN c with | some x, some y => if fitsF x y = true then some ((x : Int), (y : Int), prN ((s.mem.drop x).take y)) else none | _, _ => none) else none
def elseF (line : List UInt8) : List UInt8 := if line = [] then proL else qryL
def doesF (s : TgS) (line : List UInt8) : TgS × List UInt8 := match words 32 line with
  | [w, b, c] => match loadR s w b c with
    | some s' => (s', [])
    | none => match sumR s w b c with
      | some r => ({ s with reps := s.reps ++ [r] }, lineL r.1 r.2.1 r.2.2 ++ [61, 62, 32])
      | none => (s, elseF line)
  | _ => (s, elseF line)
theorem words3 {line w b c : List UInt8} (h : words 32 line = [w, b, c]) : w.length ≤ line.length ∧ b.length ≤ line.length ∧ c.length ≤ line.length := by
  have hj := splitK_join (c := 32) (line.count 32) line
  rw [show Lib.splitK [32] 0 (line.count 32) line = words 32 line from rfl, h] at hj
  simp only [joinC] at hj
  have := congrArg List.length hj
  simp at this
  omega
theorem c_hexQ {w0 : World} {m : Mem} {s : List UInt8} {Q : Value → Mem → Prop} (hp : Part L0 m) (ht : Ten w0) (hE : ErrV w0) (hs : s.length ≤ 1000000)
    (hq : ∀ M (z : Int) (b : Bool), Old m M → (b = true → ∃ n : Nat, hexN s = some n ∧ z = n) → (b = false → hexN s = none) → Q (.tuple ⟨[.int .i64 z, .bool b]⟩) M) :
    AbC Tryz.prog w0 63 [.string ⟨⟨s⟩⟩] m Q :=
  c_hex hp ht hE hs (fun M n o h => hq M n true o (fun _ => ⟨n, h, rfl⟩) fun e => by cases e) fun M z o h => hq M z false o (fun e => by cases e) fun _ => h
theorem c_tdoes {w0 : World} {V : Nat → Prop} {m : Mem} {H : HL} {it : Nat} {s : TgS} {line : List UInt8} {Q : Value → Mem → Prop} (ht : Ten w0) (hE : ErrV w0) (h : Sep m V m H) (hR : TgR H it s) (hno : s.tak = .no) (hl : line.length ≤ 80) (hrl : s.reps.length ≤ 5000000000000)
    (hq : ∀ M H', Sep m V M H' → TgR H' it (doesF s line).1 → Q (.string ⟨⟨(doesF s line).2⟩⟩) M) :
    AbC Tryz.prog w0 45 [.pointer (some ⟨it, 0, none⟩), .string ⟨⟨line⟩⟩] m Q := by
  refine AbC_fn ok45 (by simp) ?_
  obtain ⟨⟨sp, ol, orr, tv, HT, rfl, hT, hol, hor⟩, hml, hll⟩ := hR
  rw [hno] at hT
  obtain ⟨rfl, rfl⟩ := hT
  have hR0 : TgR (tgH it sp ol orr .nilIface s ++ []) it s := ⟨⟨sp, ol, orr, .nilIface, [], rfl, by rw [hno]; exact ⟨rfl, rfl⟩, hol, hor⟩, hml, hll⟩
  have fin : ∀ fr M, Sep m V M (tgH it sp ol orr .nilIface s) → fr 1 = .string ⟨⟨line⟩⟩ → doesF s line = (s, elseF line) → AbW Tryz.prog w0 rc45_1 (bodyA [.mv (.tmp 4)] Q) fr M := by
    intro fr M hM t1 hd
    rw [hd] at hq
    by_cases hn : line = []
    · subst hn
      simp -implicitDefEqProofs (disch := first | assumption | omega | fail) [rc45_1, wkB, retV, stabOk, dC, ev, fillD, pickCells, putAt, bnd, slD, List.getElem?_cons_zero, List.getElem?_cons_succ, Mem.cell, Mem.row, cells_own, cells_ro, t1]
      exact hq M _ (by simpa using hM) hR0
    · have hn2 : (line == []) = false := by simpa using hn
      have e1 : elseF line = qryL := by unfold elseF; rw [if_neg hn]
      rw [e1] at hq
      simp -implicitDefEqProofs (disch := first | assumption | omega | fail) [rc45_1, rc45_0, wkB, retV, stabOk, dC, ev, fillD, pickCells, putAt, bnd, slD, List.getElem?_cons_zero, List.getElem?_cons_succ, Mem.cell, Mem.row, cells_own, cells_ro, t1, hn2]
      exact hq M _ (by simpa using hM) hR0
  simp -implicitDefEqProofs (disch := first | assumption | omega | fail) [rc45, ro45, wkB, retV, stabOk, dC, ev, fillD, pickCells, putAt, bnd, slD, List.getElem?_cons_zero, List.getElem?_cons_succ, Mem.cell, Mem.row, cells_own, cells_ro]
  refine c_Split (c := 32) (by show line.length < _; omega) ?_
  have h1 := h.push (.own ((words 32 line).map fun l => .string ⟨⟨l⟩⟩) 9)
  rw [show (ByteArray.mk ⟨line⟩).data.toList = line from rfl]
  obtain ⟨m1, hm1⟩ : ∃ m1, m.push (.own ((words 32 line).map fun l => .string ⟨⟨l⟩⟩) 9) = m1 := ⟨_, rfl⟩
  obtain ⟨bw, hbw⟩ : ∃ bw, m.next = bw := ⟨_, rfl⟩
  rw [hm1, hbw] at h1
  rw [hm1, hbw]
  clear hm1
  unfold doesF at hq fin
  generalize hwd : words 32 line = ws at *
  by_cases h3 : ws.length = 3
  · obtain ⟨w, b, c, rfl⟩ : ∃ w b c, ws = [w, b, c] := by
      match ws, h3 with
      | [w, b, c], _ => exact ⟨w, b, c, rfl⟩
    have g1 := h1.get 0 rfl
    have i0 : sidx 1 (.slice (some ⟨bw, 0, none⟩) 3 1) (.int .i64 0) = some (.pointer (some ⟨bw, 0, none⟩)) := rfl
    have i1 : sidx 1 (.slice (some ⟨bw, 0, none⟩) 3 1) (.int .i64 1) = some (.pointer (some ⟨bw, 1, none⟩)) := rfl
    have i2 : sidx 1 (.slice (some ⟨bw, 0, none⟩) 3 1) (.int .i64 2) = some (.pointer (some ⟨bw, 2, none⟩)) := rfl
    have hcl : c.length ≤ 1000000 ∧ b.length ≤ 1000000 := by have := words3 hwd; omega
    have sums : ∀ fr M, Sep m V M ((some bw, .own [.string ⟨⟨w⟩⟩, .string ⟨⟨b⟩⟩, .string ⟨⟨c⟩⟩] 9) :: tgH it sp ol orr .nilIface s) → fr 0 = .pointer (some ⟨it, 0, none⟩) → fr 1 = .string ⟨⟨line⟩⟩ → fr 5 = .slice (some ⟨bw, 0, none⟩) 3 1 → loadR s w b c = none → AbW Tryz.prog w0 rc45_2 (bodyA [.mv (.tmp 4)] Q) fr M := by
      intro fr M hM t0 t1 t5 hlr
      have gM := hM.get 0 rfl
      simp only [hlr] at hq fin
      by_cases hw : w = sum3
      · have hw2 : (w == ([115, 117, 109] : List UInt8)) = true := by simp [hw, sum3]
        simp -implicitDefEqProofs (disch := first | assumption | omega | fail) [rc45_2, wkB, retV, stabOk, dC, ev, fillD, pickCells, putAt, bnd, slD, List.getElem?_cons_zero, List.getElem?_cons_succ, Mem.cell, Mem.row, cells_own, cells_ro, t0, t1, t5, i0, i1, i2, gM, hw2]
        refine c_hexQ hM.pt ht hE hcl.2 fun M1 z1 b1 o1 et1 ef1 => ?_
        have hM1 := hM.old o1
        have gM1 := hM1.get 0 rfl
        simp -implicitDefEqProofs (disch := first | assumption | omega | fail) [wkB, retV, stabOk, dC, ev, fillD, pickCells, putAt, bnd, slD, List.getElem?_cons_zero, List.getElem?_cons_succ, Mem.cell, Mem.row, cells_own, cells_ro, t0, t1, t5, i2, gM1]
        refine c_hexQ hM1.pt ht hE hcl.1 fun M2 z2 b2 o2 et2 ef2 => ?_
        have hM2 := hM1.old o2
        have gM2 := hM2.get 1 rfl
        simp only [tgC] at gM2
        simp -implicitDefEqProofs (disch := first | assumption | omega | fail) [wkB, retV, stabOk, dC, ev, fillD, pickCells, putAt, bnd, slD, List.getElem?_cons_zero, List.getElem?_cons_succ, Mem.cell, Mem.row, cells_own, cells_ro, t0, t1, t5, gM2]
        have hsn : (b1 = false ∨ b2 = false ∨ fitsF z1 z2 = false) → sumR s w b c = none := fun hh => by
          unfold sumR
          rw [if_pos hw]
          cases b1 with
          | false => rw [ef1 rfl]
          | true =>
            obtain ⟨n1, e1, rfl⟩ := et1 rfl
            rw [e1]
            cases b2 with
            | false => rw [ef2 rfl]
            | true =>
              obtain ⟨n2, e2, rfl⟩ := et2 rfl
              rw [e2]
              simp only
              rw [if_neg]
              rcases hh with hh | hh | hh
              · cases hh
              · cases hh
              · rw [hh]; simp
        refine c_sPrint (s := s.mem) hM2 2 rfl hml (fun hf M3 h3 => ?_) fun hf => ?_
        · cases b1 with
          | false =>
            simp -implicitDefEqProofs (disch := first | assumption | omega | fail) [wkB, retV, stabOk, dC, ev, fillD, pickCells, putAt, bnd, slD, List.getElem?_cons_zero, List.getElem?_cons_succ, Mem.cell, Mem.row, cells_own, cells_ro, t0, t1, t5]
            exact fin _ M3 h3.tl (by simp [t1]) (by rw [hsn (.inl rfl)])
          | true =>
            cases b2 with
            | false =>
              simp -implicitDefEqProofs (disch := first | assumption | omega | fail) [wkB, retV, stabOk, dC, ev, fillD, pickCells, putAt, bnd, slD, List.getElem?_cons_zero, List.getElem?_cons_succ, Mem.cell, Mem.row, cells_own, cells_ro, t0, t1, t5]
              exact fin _ M3 h3.tl (by simp [t1]) (by rw [hsn (.inr (.inl rfl))])
            | true =>
              obtain ⟨n1, e1, rfl⟩ := et1 rfl
              obtain ⟨n2, e2, rfl⟩ := et2 rfl
              have hsr : sumR s w b c = some ((n1 : Int), (n2 : Int), prN ((s.mem.drop n1).take n2)) := by
                unfold sumR
                rw [if_pos hw, e1, e2]
                simp only
                rw [if_pos hf]
              simp only [hsr] at hq
              simp only [Int.toNat_natCast]
              have hpl := prN_lt ((s.mem.drop n1).take n2)
              generalize prN ((s.mem.drop n1).take n2) = pr at *
              have hl1 := hexN_lt e1
              have hl2 := hexN_lt e2
              simp -implicitDefEqProofs (disch := first | assumption | omega | fail) [wkB, retV, stabOk, dC, ev, fillD, pickCells, putAt, bnd, slD, List.getElem?_cons_zero, List.getElem?_cons_succ, Mem.cell, Mem.row, cells_own, cells_ro, t0, t1, t5]
              refine SK_alS h3 fun br m4 h4 _ _ => ?_
              simp -implicitDefEqProofs (disch := first | assumption | omega | fail) [wkB, retV, stabOk, dC, ev, fillD, pickCells, putAt, bnd, slD, List.getElem?_cons_zero, List.getElem?_cons_succ, Mem.cell, Mem.row, cells_own, cells_ro]
              refine SK_stS h4 0 rfl (o := 0) (vs := repC ((n1 : Int), (n2 : Int), pr)) (cs' := repC ((n1 : Int), (n2 : Int), pr)) (by simp [wkB, retV, stabOk, dC, ev, fillD, pickCells, putAt, bnd, slD, List.getElem?_cons_zero, List.getElem?_cons_succ, Mem.cell, Mem.row, cells_own, cells_ro]) (by simp [wkB, retV, stabOk, dC, ev, fillD, pickCells, putAt, bnd, slD, List.getElem?_cons_zero, List.getElem?_cons_succ, Mem.cell, Mem.row, cells_own, cells_ro, repC]) (by simp) rfl rfl rfl fun m5 h5 _ => ?_
              have g50 := h5.get 0 rfl
              have g52 := h5.get 2 rfl
              simp only [tgC] at g52
              simp only [repC] at g50
              simp -implicitDefEqProofs (disch := first | assumption | omega | fail) [wkB, retV, stabOk, dC, ev, fillD, pickCells, putAt, bnd, slD, List.getElem?_cons_zero, List.getElem?_cons_succ, Mem.cell, Mem.row, cells_own, cells_ro, t0, g50, g52]
              refine SK_bslS h5 (cs := repC ((n1 : Int), (n2 : Int), pr)) (by simp [fillD, pickCells, wkB, retV, stabOk, dC, ev, fillD, pickCells, putAt, bnd, slD, List.getElem?_cons_zero, List.getElem?_cons_succ, Mem.cell, Mem.row, cells_own, cells_ro, repC, g50]) rfl fun bs m6 h6 _ _ => ?_
              have g60 := h6.get 1 rfl
              have g62 := h6.get 3 rfl
              simp only [tgC] at g62
              simp only [repC] at g60
              have hO6 := (h6.slO 0 (k := 1) (sz := 3) rfl rfl (fun e => by cases e)).read
              simp -implicitDefEqProofs (disch := first | assumption | omega | fail) [wkB, retV, stabOk, dC, ev, fillD, pickCells, putAt, bnd, slD, List.getElem?_cons_zero, List.getElem?_cons_succ, Mem.cell, Mem.row, cells_own, cells_ro, t0, g60, g62]
              refine SK_apS h6 6 (n := s.reps.length) (k := 1) (ys := repC ((n1 : Int), (n2 : Int), pr)) rfl (by simp [wkB, retV, stabOk, dC, ev, fillD, pickCells, putAt, bnd, slD, List.getElem?_cons_zero, List.getElem?_cons_succ, Mem.cell, Mem.row, cells_own, cells_ro]) (flat_len repC_len s.reps) hor (by simp [wkB, retV, stabOk, dC, ev, fillD, pickCells, putAt, bnd, slD, List.getElem?_cons_zero, List.getElem?_cons_succ, Mem.cell, Mem.row, cells_own, cells_ro]; exact hO6.elems) (by simp [wkB, retV, stabOk, dC, ev, fillD, pickCells, putAt, bnd, slD, List.getElem?_cons_zero, List.getElem?_cons_succ, Mem.cell, Mem.row, cells_own, cells_ro]) rfl (by omega) (by unfold maxLen; omega) rfl fun or7 m7 h7 hn7 _ => ?_
              simp -implicitDefEqProofs (disch := first | assumption | omega | fail) [wkB, retV, stabOk, dC, ev, fillD, pickCells, putAt, bnd, slD, List.getElem?_cons_zero, List.getElem?_cons_succ, Mem.cell, Mem.row, cells_own, cells_ro, t0]
              refine SK_stS h7 3 rfl (o := 7) (vs := [slV or7 (s.reps.length + 1) 3]) (cs' := tgC { s with reps := s.reps ++ [((n1 : Int), (n2 : Int), pr)] } sp (slV ol s.line.length 1) .nilIface (slV or7 (s.reps.length + 1) 3)) (by simp [wkB, retV, stabOk, dC, ev, fillD, pickCells, putAt, bnd, slD, List.getElem?_cons_zero, List.getElem?_cons_succ, Mem.cell, Mem.row, cells_own, cells_ro]) (by simp [wkB, retV, stabOk, dC, ev, fillD, pickCells, putAt, bnd, slD, List.getElem?_cons_zero, List.getElem?_cons_succ, Mem.cell, Mem.row, cells_own, cells_ro]) (by simp [tgC]) rfl (by simp [oneC_slV]) (by simp [tgC, putAt]) fun m8 h8 _ => ?_
              have g8 := h8.get 1 rfl
              simp only [repC] at g8
              simp -implicitDefEqProofs (disch := first | assumption | omega | fail) [wkB, retV, stabOk, dC, ev, fillD, pickCells, putAt, bnd, slD, List.getElem?_cons_zero, List.getElem?_cons_succ, Mem.cell, Mem.row, cells_own, cells_ro, g8]
              refine c_Line h8.pt ht (by omega) (by omega) hpl fun m9 o9 => ?_
              have h9 := h8.old o9
              have e10 : s.reps.flatMap repC ++ repC ((n1 : Int), (n2 : Int), pr) = (s.reps ++ [((n1 : Int), (n2 : Int), pr)]).flatMap repC := by simp
              rw [e10] at h9
              have hlen := catB (lineL n1 n2 pr) [61, 62, 32] (by
                have la := num16 (i := n1) (by omega)
                have ln := num16 (i := n2) (by omega)
                have lp := digs_64 (b := 16) (by omega) (show pr < 18446744073709551616 by omega)
                simp [lineL, sumW]; omega)
              have hlen : dBin .add (.string ⟨⟨lineL n1 n2 pr⟩⟩) (.string ⟨#[61, 62, 32]⟩) = some (.string ⟨⟨lineL n1 n2 pr ++ [61, 62, 32]⟩⟩) := hlen
              simp -implicitDefEqProofs (disch := first | assumption | omega | fail) [wkB, retV, stabOk, dC, ev, fillD, pickCells, putAt, bnd, slD, List.getElem?_cons_zero, List.getElem?_cons_succ, Mem.cell, Mem.row, cells_own, cells_ro, hlen]
              refine hq m9 (tgH it sp ol or7 .nilIface { s with reps := s.reps ++ [((n1 : Int), (n2 : Int), pr)] } ++ []) ?_ ⟨⟨sp, ol, or7, .nilIface, [], rfl, by rw [hno]; exact ⟨rfl, rfl⟩, hol, fun e => by have := hn7 e; omega⟩, hml, hll⟩
              have h11 := h9.sel [3, 4, 5, 6] (by decide)
              have e12 : (s.reps ++ [((n1 : Int), (n2 : Int), pr)]).length = s.reps.length + 1 := by simp
              simp only [tgH, reH, List.append_nil]
              rw [e12]
              exact h11
        · have hn := hsn (.inr (.inr hf))
          cases b1 <;> cases b2
          all_goals
            simp -implicitDefEqProofs (disch := first | assumption | omega | fail) [wkB, retV, stabOk, dC, ev, fillD, pickCells, putAt, bnd, slD, List.getElem?_cons_zero, List.getElem?_cons_succ, Mem.cell, Mem.row, cells_own, cells_ro, t0, t1, t5]
            exact fin _ M2 hM2.tl (by simp [t1]) (by rw [hn])
      · have hw2 : (w == ([115, 117, 109] : List UInt8)) = false := by simpa [sum3] using hw
        simp -implicitDefEqProofs (disch := first | assumption | omega | fail) [rc45_2, wkB, retV, stabOk, dC, ev, fillD, pickCells, putAt, bnd, slD, List.getElem?_cons_zero, List.getElem?_cons_succ, Mem.cell, Mem.row, cells_own, cells_ro, t0, t1, t5, i0, i1, i2, gM, hw2]
        exact fin _ M hM.tl (by simp [t1]) (by unfold sumR; rw [if_neg hw])
    by_cases hw : w = load4
    · have hw2 : (w == ([108, 111, 97, 100] : List UInt8)) = true := by simp [hw, load4]
      simp -implicitDefEqProofs (disch := first | assumption | omega | fail) [wkB, retV, stabOk, dC, ev, fillD, pickCells, putAt, bnd, slD, List.getElem?_cons_zero, List.getElem?_cons_succ, Mem.cell, Mem.row, cells_own, cells_ro, i0, i1, i2, g1, hw2]
      refine c_hex h1.pt ht hE hcl.1 (fun M n o hn => ?_) fun M z o hn => ?_
      · have h2 := h1.old o
        have g2 := h2.get 0 rfl
        simp -implicitDefEqProofs (disch := first | assumption | omega | fail) [wkB, retV, stabOk, dC, ev, fillD, pickCells, putAt, bnd, slD, List.getElem?_cons_zero, List.getElem?_cons_succ, Mem.cell, Mem.row, cells_own, cells_ro, i1, g2]
        have h2' := h2.rot1
        refine c_begin h2'.fr (fun M2 k tv HT hk hM hT => ?_) fun M2 hk hM => ?_
        · have hlr : loadR s w b c = some (begF s k n) := by unfold loadR; rw [if_pos hw, hn, hk]
          simp only [hlr] at hq
          simp -implicitDefEqProofs (disch := first | assumption | omega | fail) [wkB, retV, stabOk, dC, ev, fillD, pickCells, putAt, bnd, slD, List.getElem?_cons_zero, List.getElem?_cons_succ, Mem.cell, Mem.row, cells_own, cells_ro]
          exact hq M2 _ ((h2'.un hM).sub (List.sublist_append_left _ _)) ⟨⟨sp, ol, orr, tv, HT, rfl, hT, hol, hor⟩, hml, hll⟩
        · have hM := (h2'.un hM).perm List.perm_append_comm
          simp -implicitDefEqProofs (disch := first | assumption | omega | fail) [wkB, retV, stabOk, dC, ev, fillD, pickCells, putAt, bnd, slD, List.getElem?_cons_zero, List.getElem?_cons_succ, Mem.cell, Mem.row, cells_own, cells_ro]
          exact sums _ M2 hM (by simp [frA_at]) (by simp [frA_at]) (by simp) (by unfold loadR; rw [if_pos hw, hn, hk])
      · have h2 := h1.old o
        simp -implicitDefEqProofs (disch := first | assumption | omega | fail) [wkB, retV, stabOk, dC, ev, fillD, pickCells, putAt, bnd, slD, List.getElem?_cons_zero, List.getElem?_cons_succ, Mem.cell, Mem.row, cells_own, cells_ro]
        exact sums _ M h2 (by simp [frA_at]) (by simp [frA_at]) (by simp) (by unfold loadR; rw [if_pos hw, hn])
    · have hw2 : (w == ([108, 111, 97, 100] : List UInt8)) = false := by simpa [load4] using hw
      simp -implicitDefEqProofs (disch := first | assumption | omega | fail) [wkB, retV, stabOk, dC, ev, fillD, pickCells, putAt, bnd, slD, List.getElem?_cons_zero, List.getElem?_cons_succ, Mem.cell, Mem.row, cells_own, cells_ro, i0, i1, i2, g1, hw2]
      exact sums _ m1 h1 (by simp [frA_at]) (by simp [frA_at]) (by simp) (by unfold loadR; rw [if_neg hw])
  · have h3' : ((ws.length : Int) == 3) = false := beq_eq_false_iff_ne.2 (by omega)
    simp -implicitDefEqProofs (disch := first | assumption | omega | fail) [wkB, retV, stabOk, dC, ev, fillD, pickCells, putAt, bnd, slD, List.getElem?_cons_zero, List.getElem?_cons_succ, Mem.cell, Mem.row, cells_own, cells_ro, h3', rc45_2]
    refine fin _ m1 h1.tl (by simp [frA_at]) ?_
    split
    · simp at h3
    · rfl
end Go.Proofs.YtiapjjgmmiifmaaGreatDoor.Ab

set_option linter.unusedVariables false
set_option linter.unusedSimpArgs false
namespace Go.Proofs.YtiapjjgmmiifmaaGreatDoor.Ab
open Go Go.RowKit
set_option maxHeartbeats 4000000
set_option maxRecDepth 100000
def pushL (l : List UInt8) (c : UInt8) : List UInt8 := if l.length < 80 then l ++ [c] else l
def putCF (s : TgS) (c : UInt8) : TgS × List UInt8 :=
  if s.asleep = true then ({ s with asleep := false }, proL)
  else if c = 13 then doesF { s with line := [] } s.line
  else ({ s with line := pushL s.line c }, [])
/-- Told: what is told of a board by a byte, or by bytes. -/
def TgQ (V : Nat → Prop) (m : Mem) (it : Nat) (r : TgS × List UInt8) (Q : Value → Mem → Prop) : Prop :=
  ∀ oo H' M, Sep m V M (byH oo r.2 :: H') → TgR H' it r.1 → (oo = none → r.2.length = 0) → Q (slV oo r.2.length 1) M
theorem line_len {a n : Nat} {p : Nat} (ha : a < 4294967296) (hn : n < 4294967296) (hp : p < 4294967296) : (lineL a n p).length ≤ 100 := by
  have la := num16 (i := a) (by omega)
  have ln := num16 (i := n) (by omega)
  have lp := digs_64 (b := 16) (by omega) (show p < 18446744073709551616 by omega)
  simp [lineL, sumW]; omega
theorem sumR_lt {s : TgS} {w b c : List UInt8} {r : Int × Int × Nat} (h : sumR s w b c = some r) : ∃ x y : Nat, r = ((x : Int), (y : Int), prN ((s.mem.drop x).take y)) ∧ x < 4294967296 ∧ y < 4294967296 ∧ fitsF x y = true ∧ hexN b = some x ∧ hexN c = some y ∧ w = sum3 := by
  unfold sumR at h
  split at h
  · rename_i hw
    split at h
    · rename_i x y hx hy
      split at h
      · rename_i hf
        cases h
        exact ⟨x, y, rfl, hexN_lt hx, hexN_lt hy, hf, hx, hy, hw⟩
      · cases h
    · cases h
  · cases h
theorem doesF_len (s : TgS) (line : List UInt8) : (doesF s line).2.length ≤ 200 := by
  unfold doesF
  have he : (elseF line).length ≤ 6 := by unfold elseF; split <;> simp [proL, qryL]
  split
  · split
    · simp
    · split
      · rename_i r hr
        obtain ⟨x, y, rfl, hx, hy, -⟩ := sumR_lt hr
        have := line_len hx hy (prN_lt ((s.mem.drop x).take y))
        simp only [List.length_append, List.length_cons, List.length_nil]
        omega
      · simp only; omega
  · simp only; omega
theorem c_tput {w0 : World} {V : Nat → Prop} {m : Mem} {H : HL} {it : Nat} {s : TgS} {c : UInt8} {Q : Value → Mem → Prop} (ht : Ten w0) (hE : ErrV w0) (h : Sep m V m H) (hR : TgR H it s) (hno : s.tak = .no) (hrl : s.reps.length ≤ 5000000000000)
    (hq : TgQ V m it (putCF s c) Q) : AbC Tryz.prog w0 30 [.pointer (some ⟨it, 0, none⟩), .int .u8 (c.toNat : Int)] m Q := by
  refine AbC_fn ok30 (by simp) ?_
  obtain ⟨⟨sp, ol, orr, tv, HT, rfl, hT, hol, hor⟩, hml, hll⟩ := hR
  rw [hno] at hT
  obtain ⟨rfl, rfl⟩ := hT
  have g0 := h.get 0 rfl
  simp only [tgC] at g0
  unfold putCF at hq
  cases has : s.asleep with
  | true =>
    rw [if_pos has] at hq
    rw [has] at g0
    simp -implicitDefEqProofs (disch := first | assumption | omega | fail) [rc30, ro30, wkB, retV, stabOk, dC, ev, fillD, pickCells, putAt, bnd, slD, List.getElem?_cons_zero, List.getElem?_cons_succ, Mem.cell, Mem.row, cells_own, cells_ro, g0]
    refine SK_stS h 0 rfl (o := 3) (vs := [.bool false]) (cs' := tgC { s with asleep := false } sp (slV ol s.line.length 1) .nilIface (slV orr s.reps.length 3)) (by simp [wkB, retV, stabOk, dC, ev, fillD, pickCells, putAt, bnd, slD, List.getElem?_cons_zero, List.getElem?_cons_succ, Mem.cell, Mem.row, cells_own, cells_ro]) (by simp [wkB, retV, stabOk, dC, ev, fillD, pickCells, putAt, bnd, slD, List.getElem?_cons_zero, List.getElem?_cons_succ, Mem.cell, Mem.row, cells_own, cells_ro]) (by simp [tgC]) rfl rfl (by simp [tgC, putAt]) fun m1 h1 _ => ?_
    simp -implicitDefEqProofs (disch := first | assumption | omega | fail) [wkB, retV, stabOk, dC, ev, fillD, pickCells, putAt, bnd, slD, List.getElem?_cons_zero, List.getElem?_cons_succ, Mem.cell, Mem.row, cells_own, cells_ro]
    refine SK_bslS h1 (cs := proL.map byteV) (by simp [fillD, pickCells, wkB, retV, stabOk, dC, ev, fillD, pickCells, putAt, bnd, slD, List.getElem?_cons_zero, List.getElem?_cons_succ, Mem.cell, Mem.row, cells_own, cells_ro, byteV, proL]) rfl fun b m2 h2 _ _ => ?_
    have g2 := h2.get 0 rfl
    simp -implicitDefEqProofs (disch := first | assumption | omega | fail) [wkB, retV, stabOk, dC, ev, fillD, pickCells, putAt, bnd, slD, List.getElem?_cons_zero, List.getElem?_cons_succ, Mem.cell, Mem.row, cells_own, cells_ro]
    refine SK_cvm (i := b) (o := 0) (n := 5) (z := 1) (cs := proL.map byteV) (by simp [wkB, retV, stabOk, dC, ev, fillD, pickCells, putAt, bnd, slD, List.getElem?_cons_zero, List.getElem?_cons_succ, Mem.cell, Mem.row, cells_own, cells_ro]) g2 ?_
    simp -implicitDefEqProofs (disch := first | assumption | omega | fail) [wkB, retV, stabOk, dC, ev, fillD, pickCells, putAt, bnd, slD, List.getElem?_cons_zero, List.getElem?_cons_succ, Mem.cell, Mem.row, cells_own, cells_ro]
    exact hq (some b) _ m2 h2 ⟨⟨sp, ol, orr, .nilIface, [], rfl, by rw [hno]; exact ⟨rfl, rfl⟩, hol, hor⟩, hml, hll⟩ (fun e => by cases e)
  | false =>
    rw [if_neg (by rw [has]; simp)] at hq
    rw [has] at g0
    by_cases hc : c = 13
    · subst hc
      rw [if_pos rfl] at hq
      have hO := (h.slO 2 (k := s.line.length) (sz := 1) rfl (by simp) hol).read
      have hbs : bstr m (slV ol s.line.length 1) = some (.string ⟨⟨s.line⟩⟩) := SlR.txt hO
      have e13 : (((13 : UInt8).toNat : Int) == 13) = true := rfl
      simp -implicitDefEqProofs (disch := first | assumption | omega | fail) [rc30, ro30, wkB, retV, stabOk, dC, ev, fillD, pickCells, putAt, bnd, slD, List.getElem?_cons_zero, List.getElem?_cons_succ, Mem.cell, Mem.row, cells_own, cells_ro, g0, rc30_2, e13, hbs]
      refine SK_stS h 0 rfl (o := 4) (vs := [.slice none 0 0]) (cs' := tgC { s with line := [] } sp (.slice none 0 0) .nilIface (slV orr s.reps.length 3)) (by simp [wkB, retV, stabOk, dC, ev, fillD, pickCells, putAt, bnd, slD, List.getElem?_cons_zero, List.getElem?_cons_succ, Mem.cell, Mem.row, cells_own, cells_ro]) (by simp [wkB, retV, stabOk, dC, ev, fillD, pickCells, putAt, bnd, slD, List.getElem?_cons_zero, List.getElem?_cons_succ, Mem.cell, Mem.row, cells_own, cells_ro]) (by simp [tgC]) rfl rfl (by simp [tgC, putAt]) fun m1 h1 _ => ?_
      have h1 : Sep m V m1 (tgH it sp none orr .nilIface { s with line := [] } ++ []) := h1.nul 2 (.own [] 5)
      simp -implicitDefEqProofs (disch := first | assumption | omega | fail) [wkB, retV, stabOk, dC, ev, fillD, pickCells, putAt, bnd, slD, List.getElem?_cons_zero, List.getElem?_cons_succ, Mem.cell, Mem.row, cells_own, cells_ro]
      have hdl := doesF_len { s with line := [] } s.line
      refine c_tdoes ht hE h1.self ⟨⟨sp, none, orr, .nilIface, [], rfl, by simp only [hno]; exact ⟨rfl, rfl⟩, fun _ => rfl, hor⟩, hml, by simp⟩ hno hll hrl fun M H2 h2 hR2 => ?_
      generalize doesF { s with line := [] } s.line = r at *
      have h3 := h1.tr h2
      simp -implicitDefEqProofs (disch := first | assumption | omega | fail) [wkB, retV, stabOk, dC, ev, fillD, pickCells, putAt, bnd, slD, List.getElem?_cons_zero, List.getElem?_cons_succ, Mem.cell, Mem.row, cells_own, cells_ro]
      refine SK_s2bS h3 (s := r.2) (by simp [wkB, retV, stabOk, dC, ev, fillD, pickCells, putAt, bnd, slD, List.getElem?_cons_zero, List.getElem?_cons_succ, Mem.cell, Mem.row, cells_own, cells_ro]) (by omega) fun b m4 h4 _ _ => ?_
      simp -implicitDefEqProofs (disch := first | assumption | omega | fail) [wkB, retV, stabOk, dC, ev, fillD, pickCells, putAt, bnd, slD, List.getElem?_cons_zero, List.getElem?_cons_succ, Mem.cell, Mem.row, cells_own, cells_ro]
      exact hq (some b) _ m4 h4 hR2 (fun e => by cases e)
    · rw [if_neg hc] at hq
      have e13 : ((c.toNat : Int) == 13) = false := by have := b8 c 13 (by omega); rw [show ((13 : Int)) = ((13 : Nat) : Int) from rfl, this]; simp; exact hc
      have hsl := (h.slO 2 (k := s.line.length) (sz := 1) rfl (by simp) hol).slen
      unfold pushL at hq
      by_cases hlt : s.line.length < 80
      · have hlt' : (s.line.length : Int) < 80 := by omega
        rw [if_pos hlt] at hq
        simp -implicitDefEqProofs (disch := first | assumption | omega | fail) [rc30, ro30, wkB, retV, stabOk, dC, ev, fillD, pickCells, putAt, bnd, slD, List.getElem?_cons_zero, List.getElem?_cons_succ, Mem.cell, Mem.row, cells_own, cells_ro, g0, rc30_2, e13, rc30_1, hsl, hlt']
        refine SK_bslS h (cs := ([c] : List UInt8).map byteV) (by simp [fillD, pickCells, wkB, retV, stabOk, dC, ev, fillD, pickCells, putAt, bnd, slD, List.getElem?_cons_zero, List.getElem?_cons_succ, Mem.cell, Mem.row, cells_own, cells_ro, byteV]) rfl fun b m2 h2 _ _ => ?_
        have hO2 := (h2.slO 0 (k := 1) (sz := 1) rfl rfl (fun e => by cases e)).read
        simp -implicitDefEqProofs (disch := first | assumption | omega | fail) [wkB, retV, stabOk, dC, ev, fillD, pickCells, putAt, bnd, slD, List.getElem?_cons_zero, List.getElem?_cons_succ, Mem.cell, Mem.row, cells_own, cells_ro]
        refine SK_apS h2 3 (n := s.line.length) (k := 1) (ys := ([c] : List UInt8).map byteV) rfl (by simp [wkB, retV, stabOk, dC, ev, fillD, pickCells, putAt, bnd, slD, List.getElem?_cons_zero, List.getElem?_cons_succ, Mem.cell, Mem.row, cells_own, cells_ro]) (by simp) hol (by simp [wkB, retV, stabOk, dC, ev, fillD, pickCells, putAt, bnd, slD, List.getElem?_cons_zero, List.getElem?_cons_succ, Mem.cell, Mem.row, cells_own, cells_ro]; exact hO2.elems) (by simp [wkB, retV, stabOk, dC, ev, fillD, pickCells, putAt, bnd, slD, List.getElem?_cons_zero, List.getElem?_cons_succ, Mem.cell, Mem.row, cells_own, cells_ro]) (byteV_oneC _) (by omega) (by unfold maxLen; omega) rfl fun ol3 m3 h3 hn3 _ => ?_
        simp -implicitDefEqProofs (disch := first | assumption | omega | fail) [wkB, retV, stabOk, dC, ev, fillD, pickCells, putAt, bnd, slD, List.getElem?_cons_zero, List.getElem?_cons_succ, Mem.cell, Mem.row, cells_own, cells_ro]
        refine SK_stS h3 1 rfl (o := 4) (vs := [slV ol3 (s.line.length + 1) 1]) (cs' := tgC { s with line := s.line ++ [c] } sp (slV ol3 (s.line.length + 1) 1) .nilIface (slV orr s.reps.length 3)) (by simp [wkB, retV, stabOk, dC, ev, fillD, pickCells, putAt, bnd, slD, List.getElem?_cons_zero, List.getElem?_cons_succ, Mem.cell, Mem.row, cells_own, cells_ro]) (by simp [wkB, retV, stabOk, dC, ev, fillD, pickCells, putAt, bnd, slD, List.getElem?_cons_zero, List.getElem?_cons_succ, Mem.cell, Mem.row, cells_own, cells_ro]) (by simp [tgC]) rfl (by simp [oneC_slV]) (by simp [tgC, putAt]) fun m4 h4 _ => ?_
        simp -implicitDefEqProofs (disch := first | assumption | omega | fail) [wkB, retV, stabOk, dC, ev, fillD, pickCells, putAt, bnd, slD, List.getElem?_cons_zero, List.getElem?_cons_succ, Mem.cell, Mem.row, cells_own, cells_ro, rc30_0]
        have e6 : s.line.map byteV ++ ([c] : List UInt8).map byteV = (s.line ++ [c]).map byteV := by simp
        rw [e6] at h4
        have h5 := (h4.tl).non (.own [] 5)
        refine hq none (tgH it sp ol3 orr .nilIface { s with line := s.line ++ [c] } ++ []) m4 ?_ ⟨⟨sp, ol3, orr, .nilIface, [], rfl, by simp only [hno]; exact ⟨rfl, rfl⟩, fun e => by have := hn3 e; omega, hor⟩, hml, by simp; omega⟩ (fun _ => rfl)
        have e7 : (s.line ++ [c]).length = s.line.length + 1 := by simp
        simp only [tgH, List.append_nil]
        rw [e7]
        exact h5
      · have hlt' : ¬ (s.line.length : Int) < 80 := by omega
        rw [if_neg hlt] at hq
        simp -implicitDefEqProofs (disch := first | assumption | omega | fail) [rc30, ro30, wkB, retV, stabOk, dC, ev, fillD, pickCells, putAt, bnd, slD, List.getElem?_cons_zero, List.getElem?_cons_succ, Mem.cell, Mem.row, cells_own, cells_ro, g0, rc30_2, e13, rc30_1, hsl, hlt', rc30_0]
        exact hq none _ m (h.non _) ⟨⟨sp, ol, orr, .nilIface, [], rfl, by rw [hno]; exact ⟨rfl, rfl⟩, hol, hor⟩, hml, hll⟩ (fun _ => rfl)
end Go.Proofs.YtiapjjgmmiifmaaGreatDoor.Ab

set_option linter.unusedVariables false
set_option linter.unusedSimpArgs false
namespace Go.Proofs.YtiapjjgmmiifmaaGreatDoor.Ab
open Go Go.RowKit
set_option maxHeartbeats 4000000
set_option maxRecDepth 100000
def ldF (s : TgS) (o : List UInt8) : TgS × List UInt8 :=
  if s.tak.over = false then (s, o)
  else if s.tak.err = 0 ∧ fitsF s.addr s.tak.data.length = true then ({ s with tak := .no, mem := wrF s.mem s.addr.toNat s.tak.data }, o ++ proL)
  else ({ s with tak := .no }, o ++ 33 :: proL)
theorem elems_str {m : Mem} {l : List UInt8} : elemsV m 1 (.string ⟨⟨l⟩⟩) = some (l.map byteV) := rfl
theorem c_tloaded {w0 : World} {V : Nat → Prop} {m0 m : Mem} {H : HL} {it : Nat} {s : TgS} {oo : Option Nat} {o : List UInt8} {Q : Value → Mem → Prop} (h : Sep m0 V m (byH oo o :: H)) (hoo : oo = none → o.length = 0) (hR : TgR H it s) (hne : s.tak ≠ .no)
    (hbig : s.tak.sz ≤ 140737488355328) (hol9 : o.length ≤ 1000000000) (hq : TgQ V m0 it (ldF s o) Q) : AbC Tryz.prog w0 29 [.pointer (some ⟨it, 0, none⟩), slV oo o.length 1] m Q := by
  refine AbC_fn ok29 (by simp) ?_
  have hR0 := hR
  obtain ⟨⟨sp, ol, orr, tv, HT, rfl, hT, hol, hor⟩, hml, hll⟩ := hR
  have g0 := h.get 1 rfl
  simp only [tgC] at g0
  unfold ldF at hq
  have cat1 : dBin .add (.string ⟨#[13, 10]⟩) (.string ⟨#[61, 62, 32]⟩) = some (.string ⟨⟨proL⟩⟩) := catB [13, 10] [61, 62, 32] (by simp)
  have cat2 : dBin .add (.string ⟨#[33, 13, 10]⟩) (.string ⟨#[61, 62, 32]⟩) = some (.string ⟨⟨33 :: proL⟩⟩) := catB [33, 13, 10] [61, 62, 32] (by simp)
  /- the end: the taker is let go, and it is told -/
  have fin : ∀ (fr : Fr) (M : Mem) (mem' : List UInt8) (B : HL) (say tl : List UInt8), Sep m0 V M ((byH oo o :: tgH it sp ol orr tv { s with mem := mem' }) ++ B) → mem'.length = 16384 → fr 0 = .pointer (some ⟨it, 0, none⟩) → fr 1 = slV oo o.length 1 → fr 7 = .string ⟨⟨say⟩⟩ → dBin .add (.string ⟨⟨say⟩⟩) (.string ⟨#[61, 62, 32]⟩) = some (.string ⟨⟨tl⟩⟩) → tl.length ≤ 6 →
      TgQ V m0 it ({ s with tak := .no, mem := mem' }, o ++ tl) Q → AbW Tryz.prog w0 rc29_0 (bodyA [.mv (.tmp 4)] Q) fr M := by
    intro fr M mem' B say tl hM hm' t0 t1 t7 hcat htl hq
    have gM := hM.get 1 rfl
    simp only [tgC] at gM
    simp -implicitDefEqProofs (disch := first | assumption | omega | fail) [rc29_0, wkB, retV, stabOk, dC, ev, fillD, pickCells, putAt, bnd, slD, List.getElem?_cons_zero, List.getElem?_cons_succ, Mem.cell, Mem.row, cells_own, cells_ro, t0, t1, t7, gM]
    refine SK_stS hM 1 rfl (o := 5) (vs := [.nilIface]) (cs' := tgC { s with tak := .no, mem := mem' } sp (slV ol s.line.length 1) .nilIface (slV orr s.reps.length 3)) (by simp [wkB, retV, stabOk, dC, ev, fillD, pickCells, putAt, bnd, slD, List.getElem?_cons_zero, List.getElem?_cons_succ, Mem.cell, Mem.row, cells_own, cells_ro]) (by simp [wkB, retV, stabOk, dC, ev, fillD, pickCells, putAt, bnd, slD, List.getElem?_cons_zero, List.getElem?_cons_succ, Mem.cell, Mem.row, cells_own, cells_ro]) (by simp [tgC]) rfl rfl (by simp [tgC, putAt]) fun m1 h1 _ => ?_
    simp -implicitDefEqProofs (disch := first | assumption | omega | fail) [wkB, retV, stabOk, dC, ev, fillD, pickCells, putAt, bnd, slD, List.getElem?_cons_zero, List.getElem?_cons_succ, Mem.cell, Mem.row, cells_own, cells_ro, t0, t1, t7, hcat]
    refine SK_apS h1 0 (n := o.length) (k := tl.length) (ys := tl.map byteV) rfl (by simp [wkB, retV, stabOk, dC, ev, fillD, pickCells, putAt, bnd, slD, List.getElem?_cons_zero, List.getElem?_cons_succ, Mem.cell, Mem.row, cells_own, cells_ro, t1]) (by simp) hoo (by simp [wkB, retV, stabOk, dC, ev, fillD, pickCells, putAt, bnd, slD, List.getElem?_cons_zero, List.getElem?_cons_succ, Mem.cell, Mem.row, cells_own, cells_ro, elems_str]) (by simp [wkB, retV, stabOk, dC, ev, fillD, pickCells, putAt, bnd, slD, List.getElem?_cons_zero, List.getElem?_cons_succ, Mem.cell, Mem.row, cells_own, cells_ro]; rfl) (byteV_oneC _) (by omega) (by unfold maxLen; omega) (by simp) fun oo2 m2 h2 hn2 _ => ?_
    simp -implicitDefEqProofs (disch := first | assumption | omega | fail) [wkB, retV, stabOk, dC, ev, fillD, pickCells, putAt, bnd, slD, List.getElem?_cons_zero, List.getElem?_cons_succ, Mem.cell, Mem.row, cells_own, cells_ro]
    have e6 : o.map byteV ++ tl.map byteV = (o ++ tl).map byteV := by simp
    rw [e6] at h2
    have e7 : (o ++ tl).length = o.length + tl.length := by simp
    have := hq oo2 (tgH it sp ol orr .nilIface { s with tak := .no, mem := mem' } ++ []) m2 (by
      rw [List.append_nil]
      exact h2.sub (List.sublist_append_left (byH oo2 (o ++ tl) :: tgH it sp ol orr .nilIface { s with tak := .no, mem := mem' }) B)) ⟨⟨sp, ol, orr, .nilIface, [], rfl, ⟨rfl, rfl⟩, hol, hor⟩, hm', hll⟩ (fun e => by rw [e7]; exact hn2 e)
    rw [e7] at this
    exact this
  simp -implicitDefEqProofs (disch := first | assumption | omega | fail) [rc29, ro29, wkB, retV, stabOk, dC, ev, fillD, pickCells, putAt, bnd, slD, List.getElem?_cons_zero, List.getElem?_cons_succ, Mem.cell, Mem.row, cells_own, cells_ro, g0]
  refine call_takDone h hT (fun p hp => List.mem_cons_of_mem _ (List.mem_append_right _ hp)) hne (by simp [wkB, retV, stabOk, dC, ev, fillD, pickCells, putAt, bnd, slD, List.getElem?_cons_zero, List.getElem?_cons_succ, Mem.cell, Mem.row, cells_own, cells_ro]) ?_
  cases hov : s.tak.over with
  | false =>
    rw [if_pos hov] at hq
    simp -implicitDefEqProofs (disch := first | assumption | omega | fail) [wkB, retV, stabOk, dC, ev, fillD, pickCells, putAt, bnd, slD, List.getElem?_cons_zero, List.getElem?_cons_succ, Mem.cell, Mem.row, cells_own, cells_ro]
    exact hq oo _ m h hR0 hoo
  | true =>
    rw [if_neg (by rw [hov]; simp)] at hq
    have h0 : Sep m0 V m ((byH oo o :: tgH it sp ol orr tv s) ++ HT) := h
    cases her : s.tak.err with
    | succ k =>
      rw [if_neg (fun hh => by rw [her] at hh; cases hh.1)] at hq
      simp -implicitDefEqProofs (disch := first | assumption | omega | fail) [wkB, retV, stabOk, dC, ev, fillD, pickCells, putAt, bnd, slD, List.getElem?_cons_zero, List.getElem?_cons_succ, Mem.cell, Mem.row, cells_own, cells_ro, errV, rc29_1]
      exact fin _ m s.mem HT [33, 13, 10] (33 :: proL) h0 hml (by simp [frA_at]) (by simp [frA_at]) (by simp) cat2 (by simp [proL]) hq
    | zero =>
      simp -implicitDefEqProofs (disch := first | assumption | omega | fail) [wkB, retV, stabOk, dC, ev, fillD, pickCells, putAt, bnd, slD, List.getElem?_cons_zero, List.getElem?_cons_succ, Mem.cell, Mem.row, cells_own, cells_ro, errV, rc29_1, g0]
      have h1 := h0.perm List.perm_append_comm
      refine call_takData h1.fr hT hne hbig (by simp [wkB, retV, stabOk, dC, ev, fillD, pickCells, putAt, bnd, slD, List.getElem?_cons_zero, List.getElem?_cons_succ, Mem.cell, Mem.row, cells_own, cells_ro]) fun od m2 hM hod => ?_
      have h2 := (h1.un hM).perm List.perm_append_comm
      have g2 := h2.get 1 rfl
      simp only [tgC] at g2
      have hrd : RdV (fun i => i < m2.next) m2 1 (slV od s.tak.data.length 1) (s.tak.data.map byteV) s.tak.data.length := h2.rd 5 rfl (by simp) hod (fun i hi => by subst hi; exact h2.lt 5 rfl)
      simp -implicitDefEqProofs (disch := first | assumption | omega | fail) [wkB, retV, stabOk, dC, ev, fillD, pickCells, putAt, bnd, slD, List.getElem?_cons_zero, List.getElem?_cons_succ, Mem.cell, Mem.row, cells_own, cells_ro, g2]
      refine c_sWrite h2 2 rfl hml hrd (fun hf m3 h3 => ?_) fun hf => ?_
      · rw [if_pos ⟨her, hf⟩] at hq
        have hf2 := hf
        simp only [fitsF, decide_eq_true_eq] at hf2
        simp -implicitDefEqProofs (disch := first | assumption | omega | fail) [wkB, retV, stabOk, dC, ev, fillD, pickCells, putAt, bnd, slD, List.getElem?_cons_zero, List.getElem?_cons_succ, Mem.cell, Mem.row, cells_own, cells_ro]
        exact fin _ m3 (wrF s.mem s.addr.toNat s.tak.data) (byH od s.tak.data :: HT) [13, 10] proL h3 (by rw [wrF_len (by rw [hml]; omega)]; exact hml) (by simp [frA_at]) (by simp [frA_at]) (by simp) cat1 (by simp [proL]) hq
      · rw [if_neg (fun hh => by rw [hf] at hh; cases hh.2)] at hq
        simp -implicitDefEqProofs (disch := first | assumption | omega | fail) [wkB, retV, stabOk, dC, ev, fillD, pickCells, putAt, bnd, slD, List.getElem?_cons_zero, List.getElem?_cons_succ, Mem.cell, Mem.row, cells_own, cells_ro]
        exact fin _ m2 s.mem (byH od s.tak.data :: HT) [33, 13, 10] (33 :: proL) h2 hml (by simp [frA_at]) (by simp [frA_at]) (by simp) cat2 (by simp [proL]) hq
end Go.Proofs.YtiapjjgmmiifmaaGreatDoor.Ab

set_option linter.unusedVariables false
set_option linter.unusedSimpArgs false
namespace Go.Proofs.YtiapjjgmmiifmaaGreatDoor.Ab
open Go Go.RowKit
set_option maxHeartbeats 4000000
set_option maxRecDepth 100000
def Tak.isNo : Tak → Bool
  | .no => true
  | _ => false
theorem Tak.isNo_iff {k : Tak} : k.isNo = true ↔ k = .no := by cases k <;> simp [Tak.isNo]
noncomputable def tPutL : TgS → List UInt8 → List UInt8 → TgS × List UInt8
  | s, out, [] => (s, out)
  | s, out, c :: r => if s.tak.isNo = true then tPutL (putCF s c).1 (out ++ (putCF s c).2) r
    else ((ldF { s with tak := (s.tak.put (c :: r)).1 } (s.tak.put (c :: r)).2).1, out ++ (ldF { s with tak := (s.tak.put (c :: r)).1 } (s.tak.put (c :: r)).2).2)
noncomputable def tPutF (s : TgS) (b : List UInt8) : TgS × List UInt8 :=
  if s.tak.isNo = true then tPutL s [] b else ldF { s with tak := (s.tak.put b).1 } (s.tak.put b).2
noncomputable def tTickF (s : TgS) : TgS × List UInt8 :=
  if s.tak.isNo = true then (s, []) else ldF { s with tak := s.tak.tick.1 } s.tak.tick.2
theorem begF_sz (s : TgS) (k : Nat) (a : Int) : (begF s k a).tak.sz = 0 ∧ (begF s k a).reps = s.reps := by
  refine ⟨?_, rfl⟩
  unfold begF
  simp only
  split <;> rfl
theorem doesF_keep (s : TgS) (line : List UInt8) (hno : s.tak = .no) : (doesF s line).1.tak.sz = 0 ∧ (doesF s line).1.reps.length ≤ s.reps.length + 1 := by
  have h0 : s.tak.sz = 0 ∧ s.reps.length ≤ s.reps.length + 1 := ⟨by rw [hno]; rfl, by omega⟩
  unfold doesF
  split
  · rename_i w b c _
    split
    · rename_i s' hs
      unfold loadR at hs
      split at hs
      · split at hs
        · cases hs
          have := begF_sz s
          exact ⟨(this _ _).1, by rw [(this _ _).2]; omega⟩
        · cases hs
      · cases hs
    · split
      · exact ⟨h0.1, by simp⟩
      · exact h0
  · exact h0
theorem putCF_keep (s : TgS) (c : UInt8) (hno : s.tak = .no) : (putCF s c).1.tak.sz = 0 ∧ (putCF s c).1.reps.length ≤ s.reps.length + 1 ∧ (putCF s c).2.length ≤ 200 := by
  unfold putCF
  split
  · exact ⟨by simp [hno, Tak.sz], by simp, by simp [proL]⟩
  · split
    · have := doesF_keep { s with line := [] } s.line hno
      exact ⟨this.1, this.2, doesF_len _ _⟩
    · exact ⟨by simp [hno, Tak.sz], by simp, by simp⟩
theorem takPut_no {k : Tak} {b : List UInt8} (h : k ≠ .no) : (k.put b).1 ≠ .no := by
  cases k
  · exact absurd rfl h
  · simp [Tak.put]
  · simp [Tak.put]
theorem takTick_no {k : Tak} (h : k ≠ .no) : k.tick.1 ≠ .no := by
  cases k
  · exact absurd rfl h
  · simp [Tak.tick]
  · simp [Tak.tick]
theorem rOut (s : Rc) (b : List UInt8) : (rPutF s b).2.length ≤ 2 := by
  have hf : ∀ s, (finF s).2.length ≤ 2 := fun s => by unfold finF; split <;> simp
  have ht : ∀ s n d, (takeF s n d).2.length ≤ 2 := fun s n d => by
    unfold takeF
    split
    · exact hf _
    · split
      · simp
      · exact hf _
  unfold rPutF
  split
  · simp
  · unfold rPut1
    split
    · simp
    · split
      · simp
      · split
        · simp
        · unfold scaF
          split
          · simp
          · split
            · simp
            · exact ht _ _ _
theorem rTickOut (s : Rc) : (rTickF s).2.length ≤ 2 := by
  unfold rTickF
  split
  · simp
  · split
    · simp
    · split
      · simp
      · split <;> simp
theorem takPut_out (k : Tak) (b : List UInt8) : (k.put b).2.length ≤ 2 := by
  cases k with
  | no => simp [Tak.put]
  | plain r => exact rOut r b
  | files r =>
    simp only [Tak.put]
    unfold bPutF
    split
    · simp
    · exact rOut _ _
theorem takTick_out (k : Tak) : k.tick.2.length ≤ 2 := by
  cases k with
  | no => simp [Tak.tick]
  | plain r => exact rTickOut r
  | files r =>
    simp only [Tak.tick]
    unfold bTickF
    split
    · simp
    · exact rTickOut _
theorem aft_sz (s : Br) : (aftF s).part.data.length + (aftF s).part.buffer.length ≤ s.part.data.length + s.part.buffer.length := by
  unfold aftF
  split
  · exact Nat.le_refl _
  · split
    · exact Nat.le_refl _
    · split
      · split
        · exact Nat.le_refl _
        · simp [rOf]
      · split
        · split
          · exact Nat.le_refl _
          · simp [rOf]
        · split
          · exact Nat.le_refl _
          · exact Nat.le_refl _
theorem takPut_sz (k : Tak) (b : List UInt8) : (k.put b).1.sz ≤ k.sz + 1024 + b.length := by
  cases k with
  | no => simp [Tak.put, Tak.sz]
  | plain r =>
    have := rPutF_data r b
    simp only [Tak.put, Tak.sz]
    omega
  | files r =>
    simp only [Tak.put, Tak.sz]
    unfold bPutF
    split
    · simp only; omega
    · have h1 := aft_sz { r with part := (rPutF r.part b).1 }
      have h2 := rPutF_data r.part b
      simp only at h1 ⊢
      omega
theorem takTick_sz (k : Tak) : k.tick.1.sz ≤ k.sz := by
  cases k with
  | no => simp [Tak.tick, Tak.sz]
  | plain r =>
    have := rTickF_data r
    simp only [Tak.tick, Tak.sz]
    rw [this.1]
    omega
  | files r =>
    simp only [Tak.tick, Tak.sz]
    unfold bTickF
    split
    · simp only; omega
    · have h1 := aft_sz { r with part := (rTickF r.part).1 }
      have h2 := rTickF_data r.part
      simp only at h1 ⊢
      rw [h2.1] at h1
      omega
theorem c_tgo {w0 : World} {V : Nat → Prop} {m0 M : Mem} {HT : HL} {it sp : Nat} {ol orr oo : Option Nat} {tv : Value} {s : TgS} {k : Tak} {o : List UInt8} {Q : Value → Mem → Prop} (h : Sep m0 V M ((byH oo o :: HT) ++ tgH it sp ol orr tv s)) (hT : TakR HT tv k) (hoo : oo = none → o.length = 0) (hne : k ≠ .no)
    (hol : ol = none → s.line.length = 0) (hor : orr = none → s.reps.length = 0) (hml : s.mem.length = 16384) (hll : s.line.length ≤ 80) (hbig : k.sz ≤ 140737488355328) (hol9 : o.length ≤ 1000000000) (hq : TgQ V m0 it (ldF { s with tak := k } o) Q) :
    AbC Tryz.prog w0 29 [.pointer (some ⟨it, 0, none⟩), slV oo o.length 1] M Q :=
  c_tloaded (s := { s with tak := k }) (h.perm (List.Perm.cons _ List.perm_append_comm)) hoo ⟨⟨sp, ol, orr, tv, HT, rfl, hT, hol, hor⟩, hml, hll⟩ hne hbig hol9 hq
theorem c_tTick {w0 : World} {V : Nat → Prop} {m : Mem} {H : HL} {it : Nat} {s : TgS} {Q : Value → Mem → Prop} (ht : Ten w0) (hE : ErrV w0) (h : Sep m V m H) (hR : TgR H it s) (hbig : s.tak.sz ≤ 140737488355328)
    (hq : TgQ V m it (tTickF s) Q) : AbC Tryz.prog w0 22 [.pointer (some ⟨it, 0, none⟩)] m Q := by
  refine AbC_fn ok22 (by simp) ?_
  have hR0 := hR
  obtain ⟨⟨sp, ol, orr, tv, HT, rfl, hT, hol, hor⟩, hml, hll⟩ := hR
  have g0 := h.get 0 rfl
  simp only [tgC] at g0
  unfold tTickF at hq
  cases hno : s.tak.isNo with
  | true =>
    rw [if_pos hno] at hq
    have hk := Tak.isNo_iff.1 hno
    rw [hk] at hT
    obtain ⟨rfl, rfl⟩ := hT
    simp -implicitDefEqProofs (disch := first | assumption | omega | fail) [rc22, ro22, wkB, retV, stabOk, dC, ev, fillD, pickCells, putAt, bnd, slD, List.getElem?_cons_zero, List.getElem?_cons_succ, Mem.cell, Mem.row, cells_own, cells_ro, g0]
    exact hq none _ m (h.non _) hR0 fun _ => rfl
  | false =>
    rw [if_neg (by rw [hno]; simp)] at hq
    have hk : s.tak ≠ .no := fun e => by rw [e] at hno; cases hno
    have htv : ∃ t x, tv = .iface t x := by
      cases hs : s.tak with
      | no => exact absurd hs hk
      | plain r => rw [hs] at hT; obtain ⟨ir, rfl, -⟩ := hT; exact ⟨_, _, rfl⟩
      | files r => rw [hs] at hT; obtain ⟨ir, rfl, -⟩ := hT; exact ⟨_, _, rfl⟩
    obtain ⟨tt, tx, rfl⟩ := htv
    simp -implicitDefEqProofs (disch := first | assumption | omega | fail) [rc22, ro22, wkB, retV, stabOk, dC, ev, fillD, pickCells, putAt, bnd, slD, List.getElem?_cons_zero, List.getElem?_cons_succ, Mem.cell, Mem.row, cells_own, cells_ro, g0, rc22_0]
    have h1 : Sep m V m (HT ++ tgH it sp ol orr (.iface tt tx) s) := h.perm List.perm_append_comm
    refine call_takTick ht hE h1.fr hT hk hbig (by simp [wkB, retV, stabOk, dC, ev, fillD, pickCells, putAt, bnd, slD, List.getElem?_cons_zero, List.getElem?_cons_succ, Mem.cell, Mem.row, cells_own, cells_ro]) fun oo HT2 M hM hT2 hoo => ?_
    simp -implicitDefEqProofs (disch := first | assumption | omega | fail) [wkB, retV, stabOk, dC, ev, fillD, pickCells, putAt, bnd, slD, List.getElem?_cons_zero, List.getElem?_cons_succ, Mem.cell, Mem.row, cells_own, cells_ro]
    have hz := takTick_sz s.tak
    have hz2 := takTick_out s.tak
    refine c_tgo (h1.un hM) hT2 hoo (takTick_no hk) hol hor hml hll (by omega) (by omega) fun oo2 H2 M2 h2 hR2 hoo2 => ?_
    simp -implicitDefEqProofs (disch := first | assumption | omega | fail) [wkB, retV, stabOk, dC, ev, fillD, pickCells, putAt, bnd, slD, List.getElem?_cons_zero, List.getElem?_cons_succ, Mem.cell, Mem.row, cells_own, cells_ro]
    exact hq oo2 H2 M2 h2 hR2 hoo2
theorem c_tLoads {w0 : World} {V : Nat → Prop} {m0 m : Mem} {l H : HL} {it : Nat} {s : TgS} {Q : Value → Mem → Prop} (h : Sep m0 V m l) (hR : TgR H it s) (hs : ∀ p ∈ H, p ∈ l) (hq : Q (.bool (!s.tak.isNo)) m) : AbC Tryz.prog w0 19 [.pointer (some ⟨it, 0, none⟩)] m Q := by
  refine AbC_fn ok19 (by simp) ?_
  obtain ⟨⟨sp, ol, orr, tv, HT, rfl, hT, hol, hor⟩, hml, hll⟩ := hR
  have g0 := h.mem (hs _ (List.mem_cons_self ..))
  simp only [tgC] at g0
  cases hk : s.tak with
  | no =>
    rw [hk] at hT hq
    obtain ⟨rfl, rfl⟩ := hT
    simp -implicitDefEqProofs (disch := first | assumption | omega | fail) [rc19, ro19, wkB, retV, stabOk, dC, ev, fillD, pickCells, putAt, bnd, slD, List.getElem?_cons_zero, List.getElem?_cons_succ, Mem.cell, Mem.row, cells_own, cells_ro, g0]
    exact hq
  | plain r =>
    rw [hk] at hT hq
    obtain ⟨ir, rfl, -⟩ := hT
    simp -implicitDefEqProofs (disch := first | assumption | omega | fail) [rc19, ro19, wkB, retV, stabOk, dC, ev, fillD, pickCells, putAt, bnd, slD, List.getElem?_cons_zero, List.getElem?_cons_succ, Mem.cell, Mem.row, cells_own, cells_ro, g0]
    exact hq
  | files r =>
    rw [hk] at hT hq
    obtain ⟨ir, rfl, -⟩ := hT
    simp -implicitDefEqProofs (disch := first | assumption | omega | fail) [rc19, ro19, wkB, retV, stabOk, dC, ev, fillD, pickCells, putAt, bnd, slD, List.getElem?_cons_zero, List.getElem?_cons_succ, Mem.cell, Mem.row, cells_own, cells_ro, g0]
    exact hq
theorem c_tReplies {w0 : World} {V : Nat → Prop} {m : Mem} {H : HL} {it : Nat} {s : TgS} {Q : Value → Mem → Prop} (h : Sep m V m H) (hR : TgR H it s) (hrl : s.reps.length ≤ 5000000000000)
    (hq : ∀ oo M, Sep m V M (reH oo s.reps :: H) → (oo = none → s.reps.length = 0) → Q (slV oo s.reps.length 3) M) : AbC Tryz.prog w0 15 [.pointer (some ⟨it, 0, none⟩)] m Q := by
  refine AbC_fn ok15 (by simp) ?_
  obtain ⟨⟨sp, ol, orr, tv, HT, rfl, hT, hol, hor⟩, hml, hll⟩ := hR
  have g0 := h.get 0 rfl
  simp only [tgC] at g0
  have hO := (h.slO 3 (k := s.reps.length) (sz := 3) rfl (flat_len repC_len s.reps) hor).read
  simp -implicitDefEqProofs (disch := first | assumption | omega | fail) [rc15, ro15, wkB, retV, stabOk, dC, ev, fillD, pickCells, putAt, bnd, slD, List.getElem?_cons_zero, List.getElem?_cons_succ, Mem.cell, Mem.row, cells_own, cells_ro, g0]
  refine SK_nwS h (k := s.reps.length) (ys := s.reps.flatMap repC) (by simp [wkB, retV, stabOk, dC, ev, fillD, pickCells, putAt, bnd, slD, List.getElem?_cons_zero, List.getElem?_cons_succ, Mem.cell, Mem.row, cells_own, cells_ro]) (by simp [wkB, retV, stabOk, dC, ev, fillD, pickCells, putAt, bnd, slD, List.getElem?_cons_zero, List.getElem?_cons_succ, Mem.cell, Mem.row, cells_own, cells_ro]; exact hO.elems) (by simp [wkB, retV, stabOk, dC, ev, fillD, pickCells, putAt, bnd, slD, List.getElem?_cons_zero, List.getElem?_cons_succ, Mem.cell, Mem.row, cells_own, cells_ro]; exact hO.lenV) (rep_one s.reps) (by omega) (by unfold maxLen; omega) (flat_len repC_len s.reps) fun oo m1 h1 hn1 _ => ?_
  simp -implicitDefEqProofs (disch := first | assumption | omega | fail) [wkB, retV, stabOk, dC, ev, fillD, pickCells, putAt, bnd, slD, List.getElem?_cons_zero, List.getElem?_cons_succ, Mem.cell, Mem.row, cells_own, cells_ro]
  exact hq oo m1 h1 hn1
end Go.Proofs.YtiapjjgmmiifmaaGreatDoor.Ab

set_option linter.unusedVariables false
set_option maxRecDepth 100000
namespace Go.Proofs.YtiapjjgmmiifmaaGreatDoor.Ab
open Go Go.RowKit
theorem zst_eq : zst = List.replicate 16384 (.int .u8 0) := by kernel_rfl
end Go.Proofs.YtiapjjgmmiifmaaGreatDoor.Ab

set_option linter.unusedVariables false
set_option linter.unusedSimpArgs false
namespace Go.Proofs.YtiapjjgmmiifmaaGreatDoor.Ab
open Go Go.RowKit
set_option maxHeartbeats 4000000
set_option maxRecDepth 100000
def zmem : List UInt8 := List.replicate 16384 0
theorem zst_map : zst = zmem.map byteV := by
  rw [zst_eq, zmem, List.map_replicate]; rfl
theorem zmem_len : zmem.length = 16384 := by simp [zmem]
def tg0S (tr wt : Int) : TgS := ⟨zmem, tr, wt, true, [], .no, 0, []⟩
theorem c_tOf {w0 : World} {V : Nat → Prop} {m0 m : Mem} {l : HL} {tr wt : Int} {Q : Value → Mem → Prop} (h : Sep m0 V m l)
    (hq : ∀ it H M, Sep m0 V M (H ++ l) → TgR H it (tg0S tr wt) → Q (.pointer (some ⟨it, 0, none⟩)) M) : AbC Tryz.prog w0 10 [.agg ⟨[.int .i64 tr, .int .i64 wt]⟩] m Q := by
  refine AbC_fn ok10 (by simp) ?_
  have hz : ∀ ts : Fr, ∀ m' : Mem, dR ts m' (.bld zst []) = some (.agg ⟨zst⟩) := fun ts m' => by simp [dR, fillD]
  simp -implicitDefEqProofs (disch := first | assumption | omega | fail) [rc10, ro10, wkB, retV, stabOk, dC, ev, fillD, pickCells, putAt, bnd, slD, List.getElem?_cons_zero, List.getElem?_cons_succ, Mem.cell, Mem.row, cells_own, cells_ro, hz]
  refine SK_bxS h (cs := [.int .i64 tr, .int .i64 wt]) (by simp [wkB, retV, stabOk, dC, ev, fillD, pickCells, putAt, bnd, slD, List.getElem?_cons_zero, List.getElem?_cons_succ, Mem.cell, Mem.row, cells_own, cells_ro]) fun B m1 h1 _ _ => ?_
  have g1 := h1.get 0 rfl
  simp -implicitDefEqProofs (disch := first | assumption | omega | fail) [wkB, retV, stabOk, dC, ev, fillD, pickCells, putAt, bnd, slD, List.getElem?_cons_zero, List.getElem?_cons_succ, Mem.cell, Mem.row, cells_own, cells_ro, hz]
  refine SK_bxS h1 (cs := zmem.map byteV) (by simp [wkB, retV, stabOk, dC, ev, fillD, pickCells, putAt, bnd, slD, List.getElem?_cons_zero, List.getElem?_cons_succ, Mem.cell, Mem.row, cells_own, cells_ro]; exact zst_map) fun sp m2 h2 _ _ => ?_
  have g2 := h2.get 1 rfl
  simp -implicitDefEqProofs (disch := first | assumption | omega | fail) [wkB, retV, stabOk, dC, ev, fillD, pickCells, putAt, bnd, slD, List.getElem?_cons_zero, List.getElem?_cons_succ, Mem.cell, Mem.row, cells_own, cells_ro, g2]
  refine SK_bxS h2 (cs := tgC (tg0S tr wt) sp (.slice none 0 0) .nilIface (.slice none 0 0)) (by simp [wkB, retV, stabOk, dC, ev, fillD, pickCells, putAt, bnd, slD, List.getElem?_cons_zero, List.getElem?_cons_succ, Mem.cell, Mem.row, cells_own, cells_ro, tgC, tg0S]) fun it m3 h3 _ _ => ?_
  simp -implicitDefEqProofs (disch := first | assumption | omega | fail) [wkB, retV, stabOk, dC, ev, fillD, pickCells, putAt, bnd, slD, List.getElem?_cons_zero, List.getElem?_cons_succ, Mem.cell, Mem.row, cells_own, cells_ro]
  have h4 := ((h3.del 2).non (.own [] 44)).non (.own [] 5)
  refine hq it (tgH it sp none none .nilIface (tg0S tr wt) ++ []) m3 ?_ ⟨⟨sp, none, none, .nilIface, [], rfl, ⟨rfl, rfl⟩, fun _ => rfl, fun _ => rfl⟩, zmem_len, by simp [tg0S]⟩
  rw [List.append_nil]
  refine h4.perm ?_
  exact (List.perm_append_comm (l₁ := [(none, Ent.own [] 5), (none, Ent.own [] 44)]) (l₂ := [(some it, Ent.own (tgC (tg0S tr wt) sp (.slice none 0 0) .nilIface (.slice none 0 0)) 34), stH sp zmem])).append_right l
theorem c_tPutIn {w0 : World} {V : Nat → Prop} {m : Mem} {it : Nat} {v : Value} {b : List UInt8} {s0 : TgS} {fr : Fr} {Q : Value → Mem → Prop} (ht : Ten w0) (hE : ErrV w0) {H : HL} (h : Sep m V m H) (hR : TgR H it s0) (hno : s0.tak = .no) (hr : RdV V m 1 v (b.map byteV) b.length)
    (hb : b.length ≤ 4000000) (hrl : s0.reps.length + b.length ≤ 5000000000000) (hq : TgQ V m it (tPutL s0 [] b) Q) (t0 : fr 0 = .pointer (some ⟨it, 0, none⟩)) (t1 : fr 1 = v) :
    AbW Tryz.prog w0 rc12_3 (bodyA [.mv (.tmp 4)] Q) fr m := by
  have hsl := hr.sl.slen
  simp -implicitDefEqProofs (disch := first | assumption | omega | fail) [rc12_3, wkB, retV, stabOk, dC, ev, fillD, pickCells, putAt, bnd, slD, List.getElem?_cons_zero, List.getElem?_cons_succ, Mem.cell, Mem.row, cells_own, cells_ro, t0, t1, hsl]
  refine LoopW_of (fun k ts m' => ∃ j sj oj obj Hj, j + k = b.length ∧ Sep m V m' (byH obj oj :: Hj) ∧ TgR Hj it sj ∧ (obj = none → oj.length = 0) ∧ oj.length ≤ 200 * j ∧ sj.reps.length ≤ s0.reps.length + j ∧ sj.tak.sz = 0 ∧ tPutL s0 [] b = tPutL sj oj (b.drop j) ∧
    ts 0 = .pointer (some ⟨it, 0, none⟩) ∧ ts 1 = v ∧ ts 5 = slV obj oj.length 1 ∧ ts 21 = v ∧ ts 22 = .int .i64 (b.length : Nat) ∧ ts 23 = .int .i64 (j : Nat)) b.length ?_ ?_
  · exact ⟨0, s0, [], none, H, by omega, h.non _, hR, fun _ => rfl, by simp, by omega, by rw [hno]; rfl, by simp, by simp [t0], by simp [t1], by simp [slV], by simp, by simp, by simp⟩
  · rintro k ts m1 K ⟨j, sj, oj, obj, Hj, hj, h1, hRj, hobj, holj, hrlj, hszj, heq, t0, t1, t5, t21, t22, t23⟩ hK
    by_cases hjl : j < b.length
    · have hj8 : (j : Int) < (b.length : Nat) := by omega
      have hrv := hr.sep h1
      obtain ⟨i, o, L, e1, e2, e3, e4, e5, e6⟩ := hrv.ex (by omega)
      have hc : L[o + j]? = some (byteV (b.getD j 0)) := (e4 j hjl).trans (byte_at hjl)
      simp only [byteV] at hc
      have hidx : sidx 1 v (.int .i64 (j : Int)) = some (.pointer (some ⟨i, o + j, none⟩)) := by rw [e1]; simpa using sidx_at (b := i) (o := o) (n := b.length) (c := 1) (j := j) (sz := 1) (k := .i64) hjl
      have w1 : IntKind.i64.wrap ((j : Int) + 1) = (j : Int) + 1 := w64 (by omega)
      have hdrop : b.drop j = b.getD j 0 :: b.drop (j + 1) := by
        rw [List.drop_eq_getElem_cons hjl, List.getD_eq_getElem?_getD, List.getElem?_eq_getElem hjl]; rfl
      have hRj0 := hRj
      obtain ⟨⟨sp, ol, orr, tv, HT, rfl, hT, hol, hor⟩, hml, hll⟩ := hRj
      have g1 := h1.get 1 rfl
      simp only [tgC] at g1
      cases hnk : sj.tak.isNo with
      | true =>
        have hkn := Tak.isNo_iff.1 hnk
        rw [hdrop, tPutL, if_pos hnk] at heq
        rw [hkn] at hT
        obtain ⟨rfl, rfl⟩ := hT
        generalize b.getD j 0 = c at *
        simp -implicitDefEqProofs (disch := first | assumption | omega | fail) [rc12_1, rc12_0, wkB, retV, stabOk, dC, ev, fillD, pickCells, putAt, bnd, slD, List.getElem?_cons_zero, List.getElem?_cons_succ, Mem.cell, Mem.row, cells_own, cells_ro, t0, t1, t5, t21, t22, t23, hj8, hidx, e2, hc, getL1 hc, g1]
        have hkeep := putCF_keep sj c hkn
        have h1' := h1.rot1
        refine c_tput ht hE h1'.fr hRj0 hkn (by omega) fun oo H2 M2 hM hR2 hoo => ?_
        have h2 := h1'.un hM
        generalize putCF sj c = r at *
        have hO := (h2.slO 0 (k := r.2.length) (sz := 1) rfl (by simp) hoo).read
        simp -implicitDefEqProofs (disch := first | assumption | omega | fail) [wkB, retV, stabOk, dC, ev, fillD, pickCells, putAt, bnd, slD, List.getElem?_cons_zero, List.getElem?_cons_succ, Mem.cell, Mem.row, cells_own, cells_ro, t5, t23]
        have h3 : Sep m V M2 (byH obj oj :: (byH oo r.2 :: H2)) := h2.perm (List.perm_append_comm (l₁ := byH oo r.2 :: H2) (l₂ := [byH obj oj]))
        refine SK_apS h3 0 (n := oj.length) (k := r.2.length) (ys := r.2.map byteV) rfl (by simp [wkB, retV, stabOk, dC, ev, fillD, pickCells, putAt, bnd, slD, List.getElem?_cons_zero, List.getElem?_cons_succ, Mem.cell, Mem.row, cells_own, cells_ro, t5]) (by simp) hobj (by simp [wkB, retV, stabOk, dC, ev, fillD, pickCells, putAt, bnd, slD, List.getElem?_cons_zero, List.getElem?_cons_succ, Mem.cell, Mem.row, cells_own, cells_ro]; exact hO.elems) (by simp [wkB, retV, stabOk, dC, ev, fillD, pickCells, putAt, bnd, slD, List.getElem?_cons_zero, List.getElem?_cons_succ, Mem.cell, Mem.row, cells_own, cells_ro]; exact hO.lenV) (byteV_oneC _) (by omega) (by unfold maxLen; omega) (by simp) fun ob4 m4 h4 hn4 _ => ?_
        simp -implicitDefEqProofs (disch := first | assumption | omega | fail) [wkB, retV, stabOk, dC, ev, fillD, pickCells, putAt, bnd, slD, List.getElem?_cons_zero, List.getElem?_cons_succ, Mem.cell, Mem.row, cells_own, cells_ro, t23, w1]
        have e7 : oj.map byteV ++ r.2.map byteV = (oj ++ r.2).map byteV := by simp
        rw [e7] at h4
        refine hK (k - 1) _ _ (by omega) ⟨j + 1, r.1, oj ++ r.2, ob4, H2, by omega, h4.del 1, hR2, fun e => by have := hn4 e; simp only [List.length_append]; omega, by simp only [List.length_append]; omega, by omega, hkeep.1, heq, by simp [t0], by simp [t1], by simp, by simp [t21], by simp [t22], by simp⟩
      | false =>
        have hkn : sj.tak ≠ .no := fun e => by rw [e] at hnk; cases hnk
        rw [hdrop, tPutL, if_neg (by rw [hnk]; simp), ← hdrop] at heq
        rw [heq] at hq
        have htv : ∃ t x, tv = .iface t x := by
          cases hs : sj.tak with
          | no => exact absurd hs hkn
          | plain r => rw [hs] at hT; obtain ⟨ir, rfl, -⟩ := hT; exact ⟨_, _, rfl⟩
          | files r => rw [hs] at hT; obtain ⟨ir, rfl, -⟩ := hT; exact ⟨_, _, rfl⟩
        obtain ⟨tt, tx, rfl⟩ := htv
        obtain ⟨v2, hv2, hr2, hb2⟩ := hrv.sl.behind (k := j) (by omega)
        rw [Nat.mul_one, ← List.map_drop] at hr2
        have hdl : (b.drop j).length = b.length - j := by simp
        rw [← hdl] at hr2
        have hrv2 : RdV V m1 1 v2 ((b.drop j).map byteV) (b.drop j).length := ⟨hr2, fun x hx => hrv.bl x (hb2 x hx)⟩
        generalize b.getD j 0 = c at *
        generalize b.drop j = bj at *
        simp -implicitDefEqProofs (disch := first | assumption | omega | fail) [rc12_1, rc12_0, wkB, retV, stabOk, dC, ev, fillD, pickCells, putAt, bnd, slD, List.getElem?_cons_zero, List.getElem?_cons_succ, Mem.cell, Mem.row, cells_own, cells_ro, t0, t1, t5, t21, t22, t23, hj8, hidx, e2, hc, getL1 hc, g1, hv2]
        have h1' : Sep m V m1 (HT ++ (byH obj oj :: tgH it sp ol orr (.iface tt tx) sj)) := h1.perm (List.perm_append_comm (l₁ := byH obj oj :: tgH it sp ol orr (.iface tt tx) sj) (l₂ := HT))
        have hsz := takPut_sz sj.tak bj
        have hso := takPut_out sj.tak bj
        refine call_takPut ht hE h1'.fr hT hkn (hrv2.mono fun _ _ hx => .inl hx) (by omega) (by simp [wkB, retV, stabOk, dC, ev, fillD, pickCells, putAt, bnd, slD, List.getElem?_cons_zero, List.getElem?_cons_succ, Mem.cell, Mem.row, cells_own, cells_ro]) (by simp [wkB, retV, stabOk, dC, ev, fillD, pickCells, putAt, bnd, slD, List.getElem?_cons_zero, List.getElem?_cons_succ, Mem.cell, Mem.row, cells_own, cells_ro]) fun oo HT2 M hM hT2 hoo => ?_
        have h2 := h1'.un hM
        have h3 : Sep m V M (((byH oo (sj.tak.put bj).2 :: HT2) ++ tgH it sp ol orr (.iface tt tx) sj) ++ [byH obj oj]) := h2.perm (by
          rw [List.append_assoc]
          exact List.Perm.append_left _ (List.perm_append_comm (l₁ := [byH obj oj]) (l₂ := tgH it sp ol orr (.iface tt tx) sj)))
        simp -implicitDefEqProofs (disch := first | assumption | omega | fail) [wkB, retV, stabOk, dC, ev, fillD, pickCells, putAt, bnd, slD, List.getElem?_cons_zero, List.getElem?_cons_succ, Mem.cell, Mem.row, cells_own, cells_ro]
        refine c_tgo h3.fr hT2 hoo (takPut_no hkn) hol hor hml hll (by omega) (by omega) fun oo3 H3 M3 hM3 hR3 hoo3 => ?_
        have h4 : Sep m V M3 (byH obj oj :: (byH oo3 _ :: H3)) := (h3.un hM3).perm (List.perm_append_comm (l₂ := [byH obj oj]))
        have hldl : ∀ s o, (ldF s o).2.length ≤ o.length + 6 := fun s o => by
          unfold ldF
          split
          · simp
          · split
            · simp [proL]
            · simp [proL]
        have hld := hldl { sj with tak := (sj.tak.put bj).1 } (sj.tak.put bj).2
        generalize ldF { sj with tak := (sj.tak.put bj).1 } (sj.tak.put bj).2 = r at *
        have hO := (h4.slO 1 (k := r.2.length) (sz := 1) rfl (by simp) hoo3).read
        simp -implicitDefEqProofs (disch := first | assumption | omega | fail) [wkB, retV, stabOk, dC, ev, fillD, pickCells, putAt, bnd, slD, List.getElem?_cons_zero, List.getElem?_cons_succ, Mem.cell, Mem.row, cells_own, cells_ro]
        refine SK_apS h4 0 (n := oj.length) (k := r.2.length) (ys := r.2.map byteV) rfl (by simp [wkB, retV, stabOk, dC, ev, fillD, pickCells, putAt, bnd, slD, List.getElem?_cons_zero, List.getElem?_cons_succ, Mem.cell, Mem.row, cells_own, cells_ro]) (by simp) hobj (by simp [wkB, retV, stabOk, dC, ev, fillD, pickCells, putAt, bnd, slD, List.getElem?_cons_zero, List.getElem?_cons_succ, Mem.cell, Mem.row, cells_own, cells_ro]; exact hO.elems) (by simp [wkB, retV, stabOk, dC, ev, fillD, pickCells, putAt, bnd, slD, List.getElem?_cons_zero, List.getElem?_cons_succ, Mem.cell, Mem.row, cells_own, cells_ro]; exact hO.lenV) (byteV_oneC _) (by omega) (by unfold maxLen; omega) (by simp) fun ob5 m5 h5 hn5 _ => ?_
        simp -implicitDefEqProofs (disch := first | assumption | omega | fail) [wkB, retV, stabOk, dC, ev, fillD, pickCells, putAt, bnd, slD, List.getElem?_cons_zero, List.getElem?_cons_succ, Mem.cell, Mem.row, cells_own, cells_ro]
        have e7 : oj.map byteV ++ r.2.map byteV = (oj ++ r.2).map byteV := by simp
        rw [e7] at h5
        have := hq ob5 H3 m5 (h5.del 1) hR3 (fun e => by simp only [List.length_append]; exact hn5 e)
        simp only [List.length_append] at this
        exact this
    · have hjj : j = b.length := by omega
      subst hjj
      have hj8 : ¬ ((b.length : Nat) : Int) < (b.length : Nat) := by omega
      rw [List.drop_length, tPutL] at heq
      rw [heq] at hq
      simp -implicitDefEqProofs (disch := first | assumption | omega | fail) [rc12_1, rc12_2, wkB, retV, stabOk, dC, ev, fillD, pickCells, putAt, bnd, slD, List.getElem?_cons_zero, List.getElem?_cons_succ, Mem.cell, Mem.row, cells_own, cells_ro, t5, t22, t23, hj8]
      exact hq obj Hj m1 h1 hRj hobj
theorem c_tPut {w0 : World} {V : Nat → Prop} {m : Mem} {H : HL} {it : Nat} {v : Value} {b : List UInt8} {s : TgS} {Q : Value → Mem → Prop} (ht : Ten w0) (hE : ErrV w0) (h : Sep m V m H) (hR : TgR H it s) (hr : RdV V m 1 v (b.map byteV) b.length)
    (hb : b.length ≤ 4000000) (hrl : s.reps.length + b.length ≤ 5000000000000) (hbig : s.tak.sz ≤ 100000000000000) (hq : TgQ V m it (tPutF s b) Q) :
    AbC Tryz.prog w0 12 [.pointer (some ⟨it, 0, none⟩), v] m Q := by
  refine AbC_fn ok12 (by simp) ?_
  have hR0 := hR
  obtain ⟨⟨sp, ol, orr, tv, HT, rfl, hT, hol, hor⟩, hml, hll⟩ := hR
  have g0 := h.get 0 rfl
  simp only [tgC] at g0
  unfold tPutF at hq
  cases hnk : s.tak.isNo with
  | true =>
    rw [if_pos hnk] at hq
    have hkn := Tak.isNo_iff.1 hnk
    rw [hkn] at hT
    obtain ⟨rfl, rfl⟩ := hT
    simp -implicitDefEqProofs (disch := first | assumption | omega | fail) [rc12, ro12, wkB, retV, stabOk, dC, ev, fillD, pickCells, putAt, bnd, slD, List.getElem?_cons_zero, List.getElem?_cons_succ, Mem.cell, Mem.row, cells_own, cells_ro, g0]
    exact c_tPutIn ht hE h hR0 hkn hr hb hrl hq (by simp [frA_at]) (by simp [frA_at])
  | false =>
    rw [if_neg (by rw [hnk]; simp)] at hq
    have hkn : s.tak ≠ .no := fun e => by rw [e] at hnk; cases hnk
    have htv : ∃ t x, tv = .iface t x := by
      cases hs : s.tak with
      | no => exact absurd hs hkn
      | plain r => rw [hs] at hT; obtain ⟨ir, rfl, -⟩ := hT; exact ⟨_, _, rfl⟩
      | files r => rw [hs] at hT; obtain ⟨ir, rfl, -⟩ := hT; exact ⟨_, _, rfl⟩
    obtain ⟨tt, tx, rfl⟩ := htv
    have h1' : Sep m V m (HT ++ tgH it sp ol orr (.iface tt tx) s) := h.perm List.perm_append_comm
    have hsz := takPut_sz s.tak b
    have hso := takPut_out s.tak b
    simp -implicitDefEqProofs (disch := first | assumption | omega | fail) [rc12, ro12, wkB, retV, stabOk, dC, ev, fillD, pickCells, putAt, bnd, slD, List.getElem?_cons_zero, List.getElem?_cons_succ, Mem.cell, Mem.row, cells_own, cells_ro, g0]
    refine call_takPut ht hE h1'.fr hT hkn (hr.mono fun _ _ hx => .inl hx) (by omega) (by simp [wkB, retV, stabOk, dC, ev, fillD, pickCells, putAt, bnd, slD, List.getElem?_cons_zero, List.getElem?_cons_succ, Mem.cell, Mem.row, cells_own, cells_ro]) (by simp [wkB, retV, stabOk, dC, ev, fillD, pickCells, putAt, bnd, slD, List.getElem?_cons_zero, List.getElem?_cons_succ, Mem.cell, Mem.row, cells_own, cells_ro, frA_at]) fun oo HT2 M hM hT2 hoo => ?_
    simp -implicitDefEqProofs (disch := first | assumption | omega | fail) [wkB, retV, stabOk, dC, ev, fillD, pickCells, putAt, bnd, slD, List.getElem?_cons_zero, List.getElem?_cons_succ, Mem.cell, Mem.row, cells_own, cells_ro]
    refine c_tgo (h1'.un hM) hT2 hoo (takPut_no hkn) hol hor hml hll (by omega) (by omega) fun oo2 H2 M2 h2 hR2 hoo2 => ?_
    simp -implicitDefEqProofs (disch := first | assumption | omega | fail) [wkB, retV, stabOk, dC, ev, fillD, pickCells, putAt, bnd, slD, List.getElem?_cons_zero, List.getElem?_cons_succ, Mem.cell, Mem.row, cells_own, cells_ro]
    exact hq oo2 H2 M2 h2 hR2 hoo2
end Go.Proofs.YtiapjjgmmiifmaaGreatDoor.Ab

set_option linter.unusedVariables false
set_option linter.unusedSimpArgs false
namespace Go.Proofs.YtiapjjgmmiifmaaGreatDoor.Ab
open Go Go.RowKit
set_option maxHeartbeats 4000000
set_option maxRecDepth 100000
theorem hex_len {n : Nat} (h : n < 4294967296) : (digs 16 n).length ≤ 17 := by
  have := num16 (i := n) (by omega)
  rwa [numS_nat] at this
end Go.Proofs.YtiapjjgmmiifmaaGreatDoor.Ab

set_option linter.unusedVariables false
set_option linter.unusedSimpArgs false
namespace Go.Proofs.YtiapjjgmmiifmaaGreatDoor.Ab
open Go Go.RowKit
set_option maxHeartbeats 4000000
set_option maxRecDepth 100000
def mdC (s : TgS) (sp : Nat) (vp vf vr : Value) : List Value := [.pointer (some ⟨sp, 0, none⟩), .int .i64 s.tr, .int .i64 s.wt, .bool (!s.asleep), .string ⟨⟨s.line⟩⟩, vp, vf, .int .i64 s.addr, vr]
def TkM (H : HL) (vp vf : Value) : Tak → Prop
  | .no => H = [] ∧ vp = .pointer none ∧ vf = .pointer none
  | .plain r => ∃ ir, vp = .pointer (some ⟨ir, 0, none⟩) ∧ vf = .pointer none ∧ RcR H ir r
  | .files r => ∃ ib, vp = .pointer none ∧ vf = .pointer (some ⟨ib, 0, none⟩) ∧ BrR H ib r
def mdH (it sp : Nat) (orr : Option Nat) (vp vf : Value) (s : TgS) : HL := [(some it, .own (mdC s sp vp vf (slV orr s.reps.length 3)) 94), stH sp s.mem, reH orr s.reps]
structure MdR (H : HL) (it : Nat) (s : TgS) : Prop where
  ex : ∃ sp orr vp vf HT, H = mdH it sp orr vp vf s ++ HT ∧ TkM HT vp vf s.tak ∧ (orr = none → s.reps.length = 0)
  ml : s.mem.length = 16384
  ll : s.line.length ≤ 80
theorem c_NewModel {w0 : World} {V : Nat → Prop} {m0 m : Mem} {l : HL} {tr wt : Int} {Q : Value → Mem → Prop} (h : Sep m0 V m l)
    (hq : ∀ it H M, Sep m0 V M (H ++ l) → MdR H it (tg0S tr wt) → Q (.pointer (some ⟨it, 0, none⟩)) M) : AbC Tryz.prog w0 24 [.agg ⟨[.int .i64 tr, .int .i64 wt]⟩] m Q := by
  refine AbC_fn ok24 (by simp) ?_
  have hz : ∀ ts : Fr, ∀ m' : Mem, dR ts m' (.bld zst []) = some (.agg ⟨zst⟩) := fun ts m' => by simp [dR, fillD]
  simp -implicitDefEqProofs (disch := first | assumption | omega | fail) [rc24, ro24, wkB, retV, stabOk, dC, ev, fillD, pickCells, putAt, bnd, slD, List.getElem?_cons_zero, List.getElem?_cons_succ, Mem.cell, Mem.row, cells_own, cells_ro, hz]
  refine SK_bxS h (cs := [.int .i64 tr, .int .i64 wt]) (by simp [wkB, retV, stabOk, dC, ev, fillD, pickCells, putAt, bnd, slD, List.getElem?_cons_zero, List.getElem?_cons_succ, Mem.cell, Mem.row, cells_own, cells_ro]) fun B m1 h1 _ _ => ?_
  have g1 := h1.get 0 rfl
  simp -implicitDefEqProofs (disch := first | assumption | omega | fail) [wkB, retV, stabOk, dC, ev, fillD, pickCells, putAt, bnd, slD, List.getElem?_cons_zero, List.getElem?_cons_succ, Mem.cell, Mem.row, cells_own, cells_ro, hz]
  refine SK_bxS h1 (cs := zmem.map byteV) (by simp [wkB, retV, stabOk, dC, ev, fillD, pickCells, putAt, bnd, slD, List.getElem?_cons_zero, List.getElem?_cons_succ, Mem.cell, Mem.row, cells_own, cells_ro]; exact zst_map) fun sp m2 h2 _ _ => ?_
  have g2 := h2.get 1 rfl
  simp -implicitDefEqProofs (disch := first | assumption | omega | fail) [wkB, retV, stabOk, dC, ev, fillD, pickCells, putAt, bnd, slD, List.getElem?_cons_zero, List.getElem?_cons_succ, Mem.cell, Mem.row, cells_own, cells_ro, g2]
  refine SK_bxS h2 (cs := mdC (tg0S tr wt) sp (.pointer none) (.pointer none) (.slice none 0 0)) (by simp [wkB, retV, stabOk, dC, ev, fillD, pickCells, putAt, bnd, slD, List.getElem?_cons_zero, List.getElem?_cons_succ, Mem.cell, Mem.row, cells_own, cells_ro, mdC, tg0S]) fun it m3 h3 _ _ => ?_
  simp -implicitDefEqProofs (disch := first | assumption | omega | fail) [wkB, retV, stabOk, dC, ev, fillD, pickCells, putAt, bnd, slD, List.getElem?_cons_zero, List.getElem?_cons_succ, Mem.cell, Mem.row, cells_own, cells_ro]
  have h4 := (h3.del 2).non (.own [] 44)
  refine hq it (mdH it sp none (.pointer none) (.pointer none) (tg0S tr wt) ++ []) m3 ?_ ⟨⟨sp, none, .pointer none, .pointer none, [], rfl, ⟨rfl, rfl, rfl⟩, fun _ => rfl⟩, zmem_len, by simp [tg0S]⟩
  rw [List.append_nil]
  refine h4.perm ?_
  exact (List.perm_append_comm (l₁ := [(none, Ent.own [] 44)]) (l₂ := [(some it, Ent.own (mdC (tg0S tr wt) sp (.pointer none) (.pointer none) (.slice none 0 0)) 94), stH sp zmem])).append_right l
theorem c_mLoads {w0 : World} {V : Nat → Prop} {m0 m : Mem} {l H : HL} {it : Nat} {s : TgS} {Q : Value → Mem → Prop} (h : Sep m0 V m l) (hR : MdR H it s) (hs : ∀ p ∈ H, p ∈ l) (hq : Q (.bool (!s.tak.isNo)) m) : AbC Tryz.prog w0 38 [.pointer (some ⟨it, 0, none⟩)] m Q := by
  refine AbC_fn ok38 (by simp) ?_
  obtain ⟨⟨sp, orr, vp, vf, HT, rfl, hT, hor⟩, hml, hll⟩ := hR
  have g0 := h.mem (hs _ (List.mem_cons_self ..))
  simp only [mdC] at g0
  cases hk : s.tak with
  | no =>
    rw [hk] at hT hq
    obtain ⟨rfl, rfl, rfl⟩ := hT
    simp -implicitDefEqProofs (disch := first | assumption | omega | fail) [rc38, ro38, wkB, retV, stabOk, dC, ev, fillD, pickCells, putAt, bnd, slD, List.getElem?_cons_zero, List.getElem?_cons_succ, Mem.cell, Mem.row, cells_own, cells_ro, g0]
    exact hq
  | plain r =>
    rw [hk] at hT hq
    obtain ⟨ir, rfl, rfl, -⟩ := hT
    simp -implicitDefEqProofs (disch := first | assumption | omega | fail) [rc38, ro38, wkB, retV, stabOk, dC, ev, fillD, pickCells, putAt, bnd, slD, List.getElem?_cons_zero, List.getElem?_cons_succ, Mem.cell, Mem.row, cells_own, cells_ro, g0]
    exact hq
  | files r =>
    rw [hk] at hT hq
    obtain ⟨ib, rfl, rfl, -⟩ := hT
    simp -implicitDefEqProofs (disch := first | assumption | omega | fail) [rc38, ro38, wkB, retV, stabOk, dC, ev, fillD, pickCells, putAt, bnd, slD, List.getElem?_cons_zero, List.getElem?_cons_succ, Mem.cell, Mem.row, cells_own, cells_ro, g0]
    exact hq
theorem words_nil : words 32 [] = [[]] := rfl
theorem words_sp (l : List UInt8) : words 32 (32 :: l) = [] :: words 32 l := by
  unfold words
  rw [List.count_cons_self]
  exact splitK_hit (a := []) (by simp)
theorem words_ch {c : UInt8} {l h : List UInt8} {t : List (List UInt8)} (hc : c ≠ 32) (e : words 32 l = h :: t) : words 32 (c :: l) = (c :: h) :: t := by
  unfold words at e ⊢
  rw [List.count_cons_of_ne hc]
  by_cases hm : (32 : UInt8) ∈ l
  · obtain ⟨a, r, rfl, ha⟩ := List.eq_append_cons_of_mem hm
    have ec : (a ++ 32 :: r).count 32 = r.count 32 + 1 := by rw [List.count_append, List.count_cons_self, List.count_eq_zero.2 ha, Nat.zero_add]
    rw [ec] at e ⊢
    rw [splitK_hit ha] at e
    rw [← List.cons_append, splitK_hit (by simp [ha, Ne.symm hc])]
    cases e
    rfl
  · rw [List.count_eq_zero.2 hm, splitK_zero] at e ⊢
    cases e
    rfl
theorem words_ne (l : List UInt8) : ∃ h t, words 32 l = h :: t := by
  unfold words
  exact splitK_ne
/-- What is behind a word that is begun. -/
def goW (w : List UInt8) (l : List UInt8) : List (List UInt8) := match words 32 l with
  | h :: t => (w ++ h) :: t
  | [] => [w]
theorem goW_nil (w : List UInt8) : goW w [] = [w] := by unfold goW; rw [words_nil]; simp
theorem goW_sp (w l : List UInt8) : goW w (32 :: l) = w :: goW [] l := by
  unfold goW
  rw [words_sp]
  obtain ⟨h, t, e⟩ := words_ne l
  rw [e]
  simp
theorem goW_ch {c : UInt8} (hc : c ≠ 32) (w l : List UInt8) : goW w (c :: l) = goW (w ++ [c]) l := by
  unfold goW
  obtain ⟨h, t, e⟩ := words_ne l
  rw [words_ch hc e, e]
  simp
theorem goW_all (l : List UInt8) : goW [] l = words 32 l := by
  unfold goW
  obtain ⟨h, t, e⟩ := words_ne l
  rw [e]
  rfl
def strV (l : List UInt8) : Value := .string ⟨⟨l⟩⟩
theorem bya_at {l : List UInt8} {j : Nat} (hj : j < l.length) : (⟨⟨l⟩⟩ : ByteArray)[j]? = some (l.getD j 0) := by
  have h : j < (⟨⟨l⟩⟩ : ByteArray).size := hj
  rw [getElem?_pos (⟨⟨l⟩⟩ : ByteArray) j h, List.getD_eq_getElem?_getD, List.getElem?_eq_getElem hj]
  rfl
theorem bya_get {l : List UInt8} {j : Nat} (h : j < (⟨⟨l⟩⟩ : ByteArray).size) : (⟨⟨l⟩⟩ : ByteArray)[j]'h = l.getD j 0 := by
  have hj : j < l.length := h
  rw [List.getD_eq_getElem?_getD, List.getElem?_eq_getElem hj]
  rfl
theorem catS (a b : List UInt8) (h : a.length + b.length ≤ 9223372036854775807) : dBin .add (.string ⟨⟨a⟩⟩) (.string ⟨⟨b⟩⟩) = some (.string ⟨⟨a ++ b⟩⟩) := catB a b h
theorem c_words {w0 : World} {V : Nat → Prop} {m0 m : Mem} {l : HL} {line : List UInt8} {Q : Value → Mem → Prop} (h : Sep m0 V m l) (hl : line.length ≤ 80)
    (hq : ∀ ow M, Sep m0 V M ((some ow, .own ((words 32 line).map strV) 9) :: l) → Q (.slice (some ⟨ow, 0, none⟩) (words 32 line).length 1) M) :
    AbC Tryz.prog w0 58 [.string ⟨⟨line⟩⟩] m Q := by
  refine AbC_fn ok58 (by simp) ?_
  simp -implicitDefEqProofs (disch := first | assumption | omega | fail) [rc58, ro58, wkB, retV, stabOk, dC, ev, fillD, pickCells, putAt, bnd, slD, List.getElem?_cons_zero, List.getElem?_cons_succ, Mem.cell, Mem.row, cells_own, cells_ro]
  refine SK_bslS h (cs := ([[]] : List (List UInt8)).map strV) (by simp [fillD, pickCells, wkB, retV, stabOk, dC, ev, fillD, pickCells, putAt, bnd, slD, List.getElem?_cons_zero, List.getElem?_cons_succ, Mem.cell, Mem.row, cells_own, cells_ro, strV]) rfl fun b m1 h1 _ _ => ?_
  simp -implicitDefEqProofs (disch := first | assumption | omega | fail) [wkB, retV, stabOk, dC, ev, fillD, pickCells, putAt, bnd, slD, List.getElem?_cons_zero, List.getElem?_cons_succ, Mem.cell, Mem.row, cells_own, cells_ro]
  have hsz : (ByteArray.mk ⟨line⟩).size = line.length := rfl
  refine LoopW_of (fun k ts m' => ∃ (j : Nat) (pre : List (List UInt8)) (w : List UInt8) (ow : Option Nat), j + k = line.length ∧ Sep m0 V m' ((ow, .own ((pre ++ [w]).map strV) 9) :: l) ∧ (ow = none → False) ∧ pre.length ≤ j ∧ w.length ≤ j ∧ words 32 line = pre ++ goW w (line.drop j) ∧
    ts 0 = .string ⟨⟨line⟩⟩ ∧ ts 3 = slV ow (pre.length + 1) 1 ∧ ts 4 = .int .i64 (j : Nat)) line.length ?_ ?_
  · exact ⟨0, [], [], some b, by omega, h1, by simp, by simp, by simp, by simp [goW_all], by simp [frA_at], by simp [slV], by simp⟩
  rintro k ts m2 K ⟨j, pre, w, ow, hj, h2, how, hpl, hwl, hwd, t0, t3, t4⟩ hK
  obtain ⟨ow, rfl⟩ : ∃ i, ow = some i := by cases ow with
    | none => exact (how rfl).elim
    | some i => exact ⟨i, rfl⟩
  by_cases hjl : j < line.length
  · have hj8 : (j : Int) < (line.length : Nat) := by omega
    have hc := bya_get (l := line) hjl
    have w1 : IntKind.i64.wrap ((j : Int) + 1) = ((j + 1 : Nat) : Int) := by rw [w64 (by omega)]; omega
    have hdrop : line.drop j = line.getD j 0 :: line.drop (j + 1) := by
      rw [List.drop_eq_getElem_cons hjl, List.getD_eq_getElem?_getD, List.getElem?_eq_getElem hjl]; rfl
    have hs1 := slsW_at (l := line) (a := j) (b := j + 1) (by omega) (by omega)
    rw [show j + 1 - j = 1 by omega, hdrop, List.take_succ_cons, List.take_zero] at hs1
    rw [hdrop] at hwd
    generalize line.getD j 0 = c at *
    obtain ⟨J1, hJ1⟩ : ∃ J1, j + 1 = J1 := ⟨_, rfl⟩
    rw [hJ1] at w1 hs1 hwd
    by_cases hc32 : c = 32
    · subst hc32
      have e32 : (((32 : UInt8).toNat : Int) == 32) = true := rfl
      rw [goW_sp] at hwd
      simp -implicitDefEqProofs (disch := first | assumption | omega | fail) [rc58_1, rc58_0, wkB, retV, stabOk, dC, ev, fillD, pickCells, putAt, bnd, slD, List.getElem?_cons_zero, List.getElem?_cons_succ, Mem.cell, Mem.row, cells_own, cells_ro, t0, t3, t4, hsz, hj8, hc, e32]
      refine SK_bslS h2 (cs := ([[]] : List (List UInt8)).map strV) (by simp [fillD, pickCells, wkB, retV, stabOk, dC, ev, fillD, pickCells, putAt, bnd, slD, List.getElem?_cons_zero, List.getElem?_cons_succ, Mem.cell, Mem.row, cells_own, cells_ro, strV]) rfl fun b3 m3 h3 _ _ => ?_
      have hO := (h3.slO 0 (k := 1) (sz := 1) rfl rfl (fun e => by cases e)).read
      simp -implicitDefEqProofs (disch := first | assumption | omega | fail) [wkB, retV, stabOk, dC, ev, fillD, pickCells, putAt, bnd, slD, List.getElem?_cons_zero, List.getElem?_cons_succ, Mem.cell, Mem.row, cells_own, cells_ro]
      refine SK_apS h3 1 (n := pre.length + 1) (k := 1) (ys := ([[]] : List (List UInt8)).map strV) rfl (by simp [wkB, retV, stabOk, dC, ev, fillD, pickCells, putAt, bnd, slD, List.getElem?_cons_zero, List.getElem?_cons_succ, Mem.cell, Mem.row, cells_own, cells_ro]) (by simp) (fun e => by cases e) (by simp [wkB, retV, stabOk, dC, ev, fillD, pickCells, putAt, bnd, slD, List.getElem?_cons_zero, List.getElem?_cons_succ, Mem.cell, Mem.row, cells_own, cells_ro]; exact hO.elems) (by simp [wkB, retV, stabOk, dC, ev, fillD, pickCells, putAt, bnd, slD, List.getElem?_cons_zero, List.getElem?_cons_succ, Mem.cell, Mem.row, cells_own, cells_ro]) rfl (by omega) (by unfold maxLen; omega) rfl fun ow4 m4 h4 hn4 _ => ?_
      simp -implicitDefEqProofs (disch := first | assumption | omega | fail) [wkB, retV, stabOk, dC, ev, fillD, pickCells, putAt, bnd, slD, List.getElem?_cons_zero, List.getElem?_cons_succ, Mem.cell, Mem.row, cells_own, cells_ro, t4, w1]
      have e6 : (pre ++ [w]).map strV ++ ([[]] : List (List UInt8)).map strV = (pre ++ [w] ++ [[]]).map strV := by simp
      rw [e6] at h4
      exact hK (k - 1) _ _ (by omega) ⟨J1, pre ++ [w], [], ow4, by omega, h4.tl, fun e => by have := hn4 e; omega, by simp; omega, by simp, by rw [hwd]; simp, by simp [t0], by simp, by simp⟩
    · have e32 : ((c.toNat : Int) == 32) = false := by have := b8 c 32 (by omega); rw [show ((32 : Int)) = ((32 : Nat) : Int) from rfl, this]; simp; exact hc32
      rw [goW_ch hc32] at hwd
      have g2 := h2.get 0 rfl
      have wl : IntKind.i64.wrap (pre.length : Int) = (pre.length : Int) := by rw [w64 (by omega)]
      have hidx : sidx 1 (slV (some ow) (pre.length + 1) 1) (.int .i64 (pre.length : Int)) = some (.pointer (some ⟨ow, pre.length, none⟩)) := by simpa [slV] using sidx_at (b := ow) (o := 0) (n := pre.length + 1) (c := 1) (j := pre.length) (sz := 1) (k := .i64) (by omega)
      have hat : ((pre ++ [w]).map strV)[pre.length]? = some (.string ⟨⟨w⟩⟩) := by simp [strV]
      have hcat := catS w [c] (by simp; omega)
      have hput : putAt ((pre ++ [w]).map strV) pre.length [strV (w ++ [c])] = (pre ++ [w ++ [c]]).map strV := by simp [putAt]
      have hl2 : ((pre ++ [w]).map strV).length = pre.length + 1 := by simp
      have hsl := (h2.slO 0 (k := pre.length + 1) (sz := 1) rfl (by simp) (fun e => by cases e)).slen
      generalize (pre ++ [w]).map strV = C at *
      simp -implicitDefEqProofs (disch := first | assumption | omega | fail) [rc58_1, rc58_0, wkB, retV, stabOk, dC, ev, fillD, pickCells, putAt, bnd, slD, List.getElem?_cons_zero, List.getElem?_cons_succ, Mem.cell, Mem.row, cells_own, cells_ro, t0, t3, t4, hsz, hj8, hc, e32, hsl, wl, hidx, g2, hat, getL1 hat, w1, hs1, hcat]
      refine SK_stS h2 0 rfl (o := pre.length) (vs := [strV (w ++ [c])]) (cs' := (pre ++ [w ++ [c]]).map strV) (by simp [wkB, retV, stabOk, dC, ev, fillD, pickCells, putAt, bnd, slD, List.getElem?_cons_zero, List.getElem?_cons_succ, Mem.cell, Mem.row, cells_own, cells_ro]) (by simp [wkB, retV, stabOk, dC, ev, fillD, pickCells, putAt, bnd, slD, List.getElem?_cons_zero, List.getElem?_cons_succ, Mem.cell, Mem.row, cells_own, cells_ro, strV]) (by rw [hl2]; simp) rfl rfl hput fun m4 h4 _ => ?_
      simp -implicitDefEqProofs (disch := first | assumption | omega | fail) [wkB, retV, stabOk, dC, ev, fillD, pickCells, putAt, bnd, slD, List.getElem?_cons_zero, List.getElem?_cons_succ, Mem.cell, Mem.row, cells_own, cells_ro, t4, w1]
      exact hK (k - 1) _ _ (by omega) ⟨J1, pre, w ++ [c], some ow, by omega, h4, by simp, by omega, by simp; omega, hwd, by simp [t0], by simp [t3], by simp⟩
  · have hjj : j = line.length := by omega
    subst hjj
    rw [List.drop_length, goW_nil] at hwd
    simp -implicitDefEqProofs (disch := first | assumption | omega | fail) [rc58_1, rc58_2, wkB, retV, stabOk, dC, ev, fillD, pickCells, putAt, bnd, slD, List.getElem?_cons_zero, List.getElem?_cons_succ, Mem.cell, Mem.row, cells_own, cells_ro, t0, t3, t4, hsz]
    rw [← hwd] at h2
    have := hq ow m2 h2
    rw [hwd, List.length_append] at this
    exact this
end Go.Proofs.YtiapjjgmmiifmaaGreatDoor.Ab

set_option linter.unusedVariables false
set_option linter.unusedSimpArgs false
namespace Go.Proofs.YtiapjjgmmiifmaaGreatDoor.Ab
open Go Go.RowKit
set_option maxHeartbeats 4000000
set_option maxRecDepth 100000
def hexL : List UInt8 := [48, 49, 50, 51, 52, 53, 54, 55, 56, 57, 97, 98, 99, 100, 101, 102]
/-- The last place of a byte among the first ones, or -1. -/
def vI (c : UInt8) : Nat → Int
  | 0 => -1
  | i + 1 => if hexL.getD i 0 = c then (i : Int) else vI c i
theorem vI_lt (c : UInt8) : ∀ i, -1 ≤ vI c i ∧ vI c i < i
  | 0 => by simp [vI]
  | i + 1 => by
    have := vI_lt c i
    unfold vI
    split <;> omega
theorem vI_dig : ∀ d : Fin 16, vI (digC d.val) 16 = (d.val : Int) := by decide +kernel
def numG : List UInt8 → Nat → Nat → Option Nat
  | [], _, n => some n
  | c :: l, k, n => if vI c 16 < 0 ∨ k = 8 then none else numG l (k + 1) (n * 16 + (vI c 16).toNat)
theorem numG_app : ∀ (l r : List UInt8) (k n : Nat), numG (l ++ r) k n = (numG l k n).bind fun n' => numG r (k + l.length) n'
  | [], r, k, n => by simp [numG]
  | c :: l, r, k, n => by
    rw [List.cons_append]
    simp only [numG]
    split
    · rfl
    · rw [numG_app l r]
      rw [List.length_cons, show k + 1 + l.length = k + (l.length + 1) by omega]
theorem numG_dig : ∀ v, (digs 16 v).length ≤ 8 → numG (digs 16 v) 0 0 = some v := by
  intro v
  induction v using Nat.strongRecOn with
  | _ v ih =>
    intro hl
    by_cases h : v < 16
    · rw [digs_lt h]
      have := vI_dig ⟨v, h⟩
      simp only at this
      simp only [numG, this]
      rw [if_neg (by omega)]
      simp
    · rw [digs_ge (by omega) (by omega)] at hl ⊢
      rw [List.length_append, List.length_singleton] at hl
      rw [numG_app, ih (v / 16) (Nat.div_lt_self (by omega) (by omega)) (by omega)]
      have hm : v % 16 < 16 := Nat.mod_lt _ (by omega)
      have := vI_dig ⟨v % 16, hm⟩
      simp only at this
      simp only [Option.bind_some, numG, this]
      rw [if_neg (by omega)]
      congr 1
      omega
theorem digs_8 {v : Nat} (h : v < 4294967296) : (digs 16 v).length ≤ 8 := by
  have := digs_len (b := 16) (by omega) 8 v (by omega)
  omega
theorem num_yes {s : List UInt8} {n : Nat} (h1 : numG s 0 0 = some n) (hn : n < 4294967296) (h2 : digs 16 n = s) : hexN s = some n := by
  subst h2
  exact hexN_digs hn
theorem num_no {s : List UInt8} (h : ∀ n, numG s 0 0 = some n → digs 16 n ≠ s) : hexN s = none := by
  cases hh : hexN s with
  | none => rfl
  | some v =>
    have e := hexN_eq hh
    have hv := hexN_lt hh
    exact absurd e (h v (by rw [← e]; exact numG_dig v (digs_8 hv)))
theorem c_number {w0 : World} {m : Mem} {s : List UInt8} {Q : Value → Mem → Prop} (hs : s.length ≤ 1000000)
    (hq : ∀ (z : Int) (b : Bool), (b = true → ∃ n : Nat, hexN s = some n ∧ z = n) → (b = false → hexN s = none) → Q (.tuple ⟨[.int .i64 z, .bool b]⟩) m) :
    AbC Tryz.prog w0 59 [.string ⟨⟨s⟩⟩] m Q := by
  refine AbC_fn ok59 (by simp) ?_
  have hsz : (ByteArray.mk ⟨s⟩).size = s.length := rfl
  simp -implicitDefEqProofs (disch := first | assumption | omega | fail) [rc59, ro59, wkB, retV, stabOk, dC, ev, fillD, pickCells, putAt, bnd, slD, List.getElem?_cons_zero, List.getElem?_cons_succ, Mem.cell, Mem.row, cells_own, cells_ro]
  refine LoopW_of (fun k ts m' => ∃ (j n : Nat), j + k = s.length ∧ m' = m ∧ j ≤ 8 ∧ n < 16 ^ j ∧ numG s 0 0 = numG (s.drop j) j n ∧
    ts 0 = .string ⟨⟨s⟩⟩ ∧ ts 4 = .int .i64 (n : Nat) ∧ ts 5 = .int .i64 (j : Nat)) s.length ?_ ?_
  · exact ⟨0, 0, by omega, rfl, by omega, by simp, by simp, by simp [frA_at], by simp, by simp⟩
  rintro k ts m' K ⟨j, n, hj, rfl, hj8, hn, hnum, t0, t4, t5⟩ hK
  have hn8 : n < 4294967296 := Nat.lt_of_lt_of_le hn (Nat.pow_le_pow_right (by omega) hj8)
  by_cases hjl : j < s.length
  · have hjl' : (j : Int) < (s.length : Nat) := by omega
    have hc := bya_get (l := s) hjl
    have w1 : IntKind.i64.wrap ((j : Int) + 1) = ((j + 1 : Nat) : Int) := by rw [w64 (by omega)]; omega
    have hdrop : s.drop j = s.getD j 0 :: s.drop (j + 1) := by
      rw [List.drop_eq_getElem_cons hjl, List.getD_eq_getElem?_getD, List.getElem?_eq_getElem hjl]; rfl
    rw [hdrop] at hnum
    generalize s.getD j 0 = c at *
    have hv16 := vI_lt c 16
    simp -implicitDefEqProofs (disch := first | assumption | omega | fail) [rc59_4, rc59_3, wkB, retV, stabOk, dC, ev, fillD, pickCells, putAt, bnd, slD, List.getElem?_cons_zero, List.getElem?_cons_succ, Mem.cell, Mem.row, cells_own, cells_ro, t0, t4, t5, hsz, hjl']
    refine LoopW_of (fun k2 ts2 m2 => ∃ (i : Nat), i + k2 = 16 ∧ m2 = m' ∧ ts2 0 = .string ⟨⟨s⟩⟩ ∧ ts2 4 = .int .i64 (n : Nat) ∧ ts2 5 = .int .i64 (j : Nat) ∧ ts2 6 = .int .i64 (vI c i) ∧ ts2 7 = .int .i64 (i : Nat)) 16 ?_ ?_
    · exact ⟨0, by omega, rfl, by simp [t0], by simp [t4], by simp [t5], by simp [vI], by simp⟩
    rintro k2 ts2 m2 K2 ⟨i, hi, rfl, u0, u4, u5, u6, u7⟩ hK2
    by_cases hi16 : i < 16
    · have hi' : (i : Int) < 16 := by omega
      have w2 : IntKind.i64.wrap ((i : Int) + 1) = ((i + 1 : Nat) : Int) := by rw [w64 (by omega)]; omega
      have hg : (⟨#[48, 49, 50, 51, 52, 53, 54, 55, 56, 57, 97, 98, 99, 100, 101, 102]⟩ : ByteArray)[i]? = some (hexL.getD i 0) := bya_at (l := hexL) hi16
      obtain ⟨g, hgg⟩ : ∃ g, hexL.getD i 0 = g := ⟨_, rfl⟩
      rw [hgg] at hg
      have w3 : IntKind.i64.wrap (i : Int) = (i : Int) := w64 (by omega)
      by_cases he : g = c
      · have e1 : (((g.toNat : Int) == (c.toNat : Int))) = true := by rw [he]; simp
        have hve : vI c (i + 1) = i := by rw [vI, if_pos (by rw [hgg, he])]
        simp -implicitDefEqProofs (disch := first | assumption | omega | fail) [rc59_1, rc59_0, wkB, retV, stabOk, dC, ev, fillD, pickCells, putAt, bnd, slD, List.getElem?_cons_zero, List.getElem?_cons_succ, Mem.cell, Mem.row, cells_own, cells_ro, u0, u4, u5, u6, u7, hi', hg, hc, e1, w2]
        exact hK2 (k2 - 1) _ _ (by omega) ⟨i + 1, by omega, rfl, by simp [u0], by simp [u4], by simp [u5], by rw [hve]; simp, by simp⟩
      · have e1 : (((g.toNat : Int) == (c.toNat : Int))) = false := by
          rw [beq_eq_false_iff_ne]
          intro h
          exact he (UInt8.toNat_inj.1 (by omega))
        have hve : vI c (i + 1) = vI c i := by rw [vI, if_neg (by rw [hgg]; exact he)]
        simp -implicitDefEqProofs (disch := first | assumption | omega | fail) [rc59_1, rc59_0, wkB, retV, stabOk, dC, ev, fillD, pickCells, putAt, bnd, slD, List.getElem?_cons_zero, List.getElem?_cons_succ, Mem.cell, Mem.row, cells_own, cells_ro, u0, u4, u5, u6, u7, hi', hg, hc, e1, w2]
        exact hK2 (k2 - 1) _ _ (by omega) ⟨i + 1, by omega, rfl, by simp [u0], by simp [u4], by simp [u5], by rw [hve]; simp [u6], by simp⟩
    · have hii : i = 16 := by omega
      subst hii
      by_cases hbad : vI c 16 < 0 ∨ j = 8
      · have hnone : numG s 0 0 = none := by rw [hnum, numG, if_pos hbad]
        have hno := num_no (s := s) (fun n hn => by rw [hnone] at hn; cases hn)
        by_cases hv : vI c 16 < 0
        · simp -implicitDefEqProofs (disch := first | assumption | omega | fail) [rc59_1, rc59_2, wkB, retV, stabOk, dC, ev, fillD, pickCells, putAt, bnd, slD, List.getElem?_cons_zero, List.getElem?_cons_succ, Mem.cell, Mem.row, cells_own, cells_ro, u0, u4, u5, u6, u7, hv]
          exact hq 0 false (fun e => by cases e) fun _ => hno
        · have hj9 : ((j : Int) == 8) = true := by have : j = 8 := by omega
                                                   subst this; rfl
          simp -implicitDefEqProofs (disch := first | assumption | omega | fail) [rc59_1, rc59_2, wkB, retV, stabOk, dC, ev, fillD, pickCells, putAt, bnd, slD, List.getElem?_cons_zero, List.getElem?_cons_succ, Mem.cell, Mem.row, cells_own, cells_ro, u0, u4, u5, u6, u7, hv, hj9]
          exact hq 0 false (fun e => by cases e) fun _ => hno
      · have hv : ¬ vI c 16 < 0 := fun h => hbad (.inl h)
        have hj9 : ((j : Int) == 8) = false := beq_eq_false_iff_ne.2 (by omega)
        rw [numG, if_neg hbad] at hnum
        obtain ⟨d, hd⟩ : ∃ d : Nat, vI c 16 = d := ⟨(vI c 16).toNat, by omega⟩
        rw [hd] at hv16 u6 hv hnum
        simp only [Int.toNat_natCast] at hnum
        have wm : IntKind.i64.wrap ((n : Int) * 16) = ((n * 16 : Nat) : Int) := by rw [w64 (by omega)]; omega
        have wa : IntKind.i64.wrap (((n * 16 : Nat) : Int) + (d : Int)) = ((n * 16 + d : Nat) : Int) := by rw [w64 (by omega)]; omega
        have hpow : n * 16 + d < 16 ^ (j + 1) := by rw [Nat.pow_succ]; omega
        obtain ⟨N2, hN2⟩ : ∃ N2, n * 16 + d = N2 := ⟨_, rfl⟩
        obtain ⟨N3, hN3⟩ : ∃ N3, n * 16 = N3 := ⟨_, rfl⟩
        rw [hN2] at wa hnum hpow
        rw [hN3] at wm wa
        simp -implicitDefEqProofs (disch := first | assumption | omega | fail) [rc59_1, rc59_2, wkB, retV, stabOk, dC, ev, fillD, pickCells, putAt, bnd, slD, List.getElem?_cons_zero, List.getElem?_cons_succ, Mem.cell, Mem.row, cells_own, cells_ro, u0, u4, u5, u6, u7, hv, hj9, wm, wa, w1]
        exact hK (k - 1) _ _ (by omega) ⟨j + 1, N2, by omega, rfl, by omega, hpow, hnum, by simp [u0], by simp, by simp⟩
  · have hjj : j = s.length := by omega
    subst hjj
    rw [List.drop_length, numG] at hnum
    by_cases hs0 : s.length = 0
    · have : s = [] := List.length_eq_zero_iff.1 hs0
      subst this
      have hno : hexN [] = none := num_no (fun n hn e => by have := digs_pos 16 n; rw [e] at this; simp at this)
      have hz0 : (⟨⟨([] : List UInt8)⟩⟩ : ByteArray).size = 0 := rfl
      simp -implicitDefEqProofs (disch := first | assumption | omega | fail) [rc59_4, rc59_5, wkB, retV, stabOk, dC, ev, fillD, pickCells, putAt, bnd, slD, List.getElem?_cons_zero, List.getElem?_cons_succ, Mem.cell, Mem.row, cells_own, cells_ro, t0, t4, t5, hz0]
      exact hq _ false (fun e => by cases e) fun _ => hno
    · have hpos : 0 < s.length := by omega
      simp -implicitDefEqProofs (disch := first | assumption | omega | fail) [rc59_4, rc59_5, wkB, retV, stabOk, dC, ev, fillD, pickCells, putAt, bnd, slD, List.getElem?_cons_zero, List.getElem?_cons_succ, Mem.cell, Mem.row, cells_own, cells_ro, t0, t4, t5, hsz, hpos]
      refine c_hexN n (by omega) ?_
      by_cases he : digs 16 n = s
      · have e2 : (digs 16 n == s) = true := by simp [he]
        simp -implicitDefEqProofs (disch := first | assumption | omega | fail) [wkB, retV, stabOk, dC, ev, fillD, pickCells, putAt, bnd, slD, List.getElem?_cons_zero, List.getElem?_cons_succ, Mem.cell, Mem.row, cells_own, cells_ro, t0, t4, e2]
        exact hq _ true (fun _ => ⟨n, num_yes hnum hn8 he, rfl⟩) fun e => by cases e
      · have e2 : (digs 16 n == s) = false := by simp [he]
        simp -implicitDefEqProofs (disch := first | assumption | omega | fail) [wkB, retV, stabOk, dC, ev, fillD, pickCells, putAt, bnd, slD, List.getElem?_cons_zero, List.getElem?_cons_succ, Mem.cell, Mem.row, cells_own, cells_ro, t0, t4, e2]
        exact hq _ false (fun e => by cases e) fun _ => num_no fun n' hn' e => by
          rw [hnum] at hn'
          cases hn'
          exact he e
end Go.Proofs.YtiapjjgmmiifmaaGreatDoor.Ab

set_option linter.unusedVariables false
set_option linter.unusedSimpArgs false
namespace Go.Proofs.YtiapjjgmmiifmaaGreatDoor.Ab
open Go Go.RowKit
set_option maxHeartbeats 4000000
set_option maxRecDepth 100000
theorem line_tail (x y p : Nat) : lineL x y p ++ [61, 62, 32] = [115, 117, 109, 32] ++ digs 16 x ++ [32] ++ digs 16 y ++ [32] ++ digs 16 p ++ [13, 10, 61, 62, 32] := by
  simp [lineL, numS_nat, sumW]
theorem c_mdoes {w0 : World} {V : Nat → Prop} {m : Mem} {H : HL} {it : Nat} {s : TgS} {line : List UInt8} {Q : Value → Mem → Prop} (h : Sep m V m H) (hR : MdR H it s) (hno : s.tak = .no) (hl : line.length ≤ 80) (hrl : s.reps.length ≤ 5000000000000)
    (hq : ∀ M H', Sep m V M H' → MdR H' it (doesF s line).1 → Q (.string ⟨⟨(doesF s line).2⟩⟩) M) :
    AbC Tryz.prog w0 44 [.pointer (some ⟨it, 0, none⟩), .string ⟨⟨line⟩⟩] m Q := by
  refine AbC_fn ok44 (by simp) ?_
  obtain ⟨⟨sp, orr, vp, vf, HT, rfl, hT, hor⟩, hml, hll⟩ := hR
  rw [hno] at hT
  obtain ⟨rfl, rfl, rfl⟩ := hT
  have hR0 : MdR (mdH it sp orr (.pointer none) (.pointer none) s ++ []) it s := ⟨⟨sp, orr, .pointer none, .pointer none, [], rfl, by rw [hno]; exact ⟨rfl, rfl, rfl⟩, hor⟩, hml, hll⟩
  have fin : ∀ fr M, Sep m V M (mdH it sp orr (.pointer none) (.pointer none) s) → fr 1 = .string ⟨⟨line⟩⟩ → doesF s line = (s, elseF line) → AbW Tryz.prog w0 rc44_5 (bodyA [.mv (.tmp 4)] Q) fr M := by
    intro fr M hM t1 hd
    rw [hd] at hq
    by_cases hn : line = []
    · subst hn
      simp -implicitDefEqProofs (disch := first | assumption | omega | fail) [rc44_5, wkB, retV, stabOk, dC, ev, fillD, pickCells, putAt, bnd, slD, List.getElem?_cons_zero, List.getElem?_cons_succ, Mem.cell, Mem.row, cells_own, cells_ro, t1]
      exact hq M _ (by simpa using hM) hR0
    · have hn2 : (line == []) = false := by simpa using hn
      have e1 : elseF line = qryL := by unfold elseF; rw [if_neg hn]
      rw [e1] at hq
      simp -implicitDefEqProofs (disch := first | assumption | omega | fail) [rc44_5, rc44_4, wkB, retV, stabOk, dC, ev, fillD, pickCells, putAt, bnd, slD, List.getElem?_cons_zero, List.getElem?_cons_succ, Mem.cell, Mem.row, cells_own, cells_ro, t1, hn2]
      exact hq M _ (by simpa using hM) hR0
  rw [List.append_nil] at h
  simp -implicitDefEqProofs (disch := first | assumption | omega | fail) [rc44, ro44, wkB, retV, stabOk, dC, ev, fillD, pickCells, putAt, bnd, slD, List.getElem?_cons_zero, List.getElem?_cons_succ, Mem.cell, Mem.row, cells_own, cells_ro]
  refine c_words h hl fun ow m1 h1 => ?_
  unfold doesF at hq fin
  generalize hwd : words 32 line = ws at *
  by_cases h3 : ws.length = 3
  · obtain ⟨w, b, c, rfl⟩ : ∃ w b c, ws = [w, b, c] := by
      match ws, h3 with
      | [w, b, c], _ => exact ⟨w, b, c, rfl⟩
    have h1 : Sep m V m1 ((some ow, .own [.string ⟨⟨w⟩⟩, .string ⟨⟨b⟩⟩, .string ⟨⟨c⟩⟩] 9) :: mdH it sp orr (.pointer none) (.pointer none) s) := h1
    have g1 := h1.get 0 rfl
    have i0 : sidx 1 (.slice (some ⟨ow, 0, none⟩) 3 1) (.int .i64 0) = some (.pointer (some ⟨ow, 0, none⟩)) := rfl
    have i1 : sidx 1 (.slice (some ⟨ow, 0, none⟩) 3 1) (.int .i64 1) = some (.pointer (some ⟨ow, 1, none⟩)) := rfl
    have i2 : sidx 1 (.slice (some ⟨ow, 0, none⟩) 3 1) (.int .i64 2) = some (.pointer (some ⟨ow, 2, none⟩)) := rfl
    have hcl : c.length ≤ 1000000 ∧ b.length ≤ 1000000 := by have := words3 hwd; omega
    simp -implicitDefEqProofs (disch := first | assumption | omega | fail) [wkB, retV, stabOk, dC, ev, fillD, pickCells, putAt, bnd, slD, List.getElem?_cons_zero, List.getElem?_cons_succ, Mem.cell, Mem.row, cells_own, cells_ro, i1, g1]
    refine c_number hcl.2 fun z1 b1 et1 ef1 => ?_
    simp -implicitDefEqProofs (disch := first | assumption | omega | fail) [wkB, retV, stabOk, dC, ev, fillD, pickCells, putAt, bnd, slD, List.getElem?_cons_zero, List.getElem?_cons_succ, Mem.cell, Mem.row, cells_own, cells_ro, i2, g1]
    refine c_number hcl.1 fun z2 b2 et2 ef2 => ?_
    simp -implicitDefEqProofs (disch := first | assumption | omega | fail) [wkB, retV, stabOk, dC, ev, fillD, pickCells, putAt, bnd, slD, List.getElem?_cons_zero, List.getElem?_cons_succ, Mem.cell, Mem.row, cells_own, cells_ro]
    refine AbC_fn ok35 (by simp) ?_
    simp -implicitDefEqProofs (disch := first | assumption | omega | fail) [rc35, ro35, wkB, retV, stabOk, dC, ev, fillD, pickCells, putAt, bnd, slD, List.getElem?_cons_zero, List.getElem?_cons_succ, Mem.cell, Mem.row, cells_own, cells_ro]
    refine SK_bslS h1 (cs := wayCs) (by simp [fillD, pickCells, wkB, retV, stabOk, dC, ev, fillD, pickCells, putAt, bnd, slD, List.getElem?_cons_zero, List.getElem?_cons_succ, Mem.cell, Mem.row, cells_own, cells_ro, wayCs, wayL]) rfl fun bw m2 h2 _ _ => ?_
    simp -implicitDefEqProofs (disch := first | assumption | omega | fail) [wkB, retV, stabOk, dC, ev, fillD, pickCells, putAt, bnd, slD, List.getElem?_cons_zero, List.getElem?_cons_succ, Mem.cell, Mem.row, cells_own, cells_ro]
    have g2w := h2.get 0 rfl
    have g2 := h2.get 1 rfl
    have g2t := h2.get 2 rfl
    simp only [mdC] at g2t
    refine LoopW_of (fun k ts m' => ∃ j, j + k = 4 ∧ m' = m2 ∧ (∀ i, i < j → ¬ (w = load4 ∧ b = wayL i ∧ b2 = true)) ∧ ts 0 = .pointer (some ⟨it, 0, none⟩) ∧ ts 1 = .string ⟨⟨line⟩⟩ ∧ ts 5 = .slice (some ⟨ow, 0, none⟩) 3 1 ∧ ts 6 = .int .i64 z1 ∧ ts 7 = .bool b1 ∧ ts 8 = .int .i64 z2 ∧ ts 9 = .bool b2 ∧
      ts 34 = .slice (some ⟨bw, 0, none⟩) 4 1 ∧ ts 35 = .int .i64 4 ∧ ts 36 = .int .i64 (j : Nat)) 4 ?_ ?_
    · exact ⟨0, by omega, rfl, fun i hi => by omega, by simp [frA_at], by simp [frA_at], by simp, by simp, by simp, by simp, by simp, by simp, by simp, by simp⟩
    rintro k ts m' K ⟨j, hj, rfl, hne, t0, t1, t5, t6, t7, t8, t9, t34, t35, t36⟩ hK
    by_cases hj4 : j < 4
    · have hj8 : (j : Int) < 4 := by omega
      have hidx : sidx 1 (.slice (some ⟨bw, 0, none⟩) 4 1) (.int .i64 (j : Int)) = some (.pointer (some ⟨bw, j, none⟩)) := by simpa using sidx_at (b := bw) (o := 0) (n := 4) (c := 1) (j := j) (sz := 1) (k := .i64) hj4
      have hc := wayCs_at hj4
      have w1 : IntKind.i64.wrap ((j : Int) + 1) = (j : Int) + 1 := w64 (by omega)
      have again : ∀ fr, fr 0 = ts 0 → fr 1 = ts 1 → fr 5 = ts 5 → fr 6 = ts 6 → fr 7 = ts 7 → fr 8 = ts 8 → fr 9 = ts 9 → fr 34 = ts 34 → fr 35 = ts 35 → fr 36 = .int .i64 ((j : Int) + 1) → ¬ (w = load4 ∧ b = wayL j ∧ b2 = true) → K fr m' := fun fr e0 e1 e5 e6 e7 e8 e9 e34 e35 e36 hn =>
        hK (k - 1) _ _ (by omega) ⟨j + 1, by omega, rfl, fun i hi => by
          by_cases e : i = j
          · subst e; exact hn
          · exact hne i (by omega), by rw [e0, t0], by rw [e1, t1], by rw [e5, t5], by rw [e6, t6], by rw [e7, t7], by rw [e8, t8], by rw [e9, t9], by rw [e34, t34], by rw [e35, t35], by rw [e36]; simp⟩
      obtain ⟨C, hC⟩ : ∃ C, wayCs = C := ⟨_, rfl⟩
      rw [hC] at g2w hc
      obtain ⟨wj, hwj⟩ : ∃ wj, wayL j = wj := ⟨_, rfl⟩
      rw [hwj] at hc again
      by_cases hw : w = load4
      · have hw2 : (w == ([108, 111, 97, 100] : List UInt8)) = true := by simp [hw, load4]
        by_cases hb : b = wj
        · have hb2 : (b == wj) = true := by simp [hb]
          cases b2 with
          | false =>
            simp -implicitDefEqProofs (disch := first | assumption | omega | fail) [rc44_2, rc44_1, wkB, retV, stabOk, dC, ev, fillD, pickCells, putAt, bnd, slD, List.getElem?_cons_zero, List.getElem?_cons_succ, Mem.cell, Mem.row, cells_own, cells_ro, t0, t1, t5, t9, t34, t35, t36, hj8, hidx, g2w, hc, getL1 hc, i0, i1, g2, hw2, hb2, w1]
            exact again _ (by simp) (by simp) (by simp) (by simp) (by simp) (by simp) (by simp) (by simp) (by simp) (by simp) (fun hh => by cases hh.2.2)
          | true =>
            obtain ⟨n2, e2, rfl⟩ := et2 rfl
            have hix : wayIx b = some j := by
              rw [hb, ← hwj]
              rcases (show j = 0 ∨ j = 1 ∨ j = 2 ∨ j = 3 by omega) with rfl | rfl | rfl | rfl <;> decide
            have hlr : loadR s w b c = some (begF s j n2) := by unfold loadR; rw [if_pos hw, e2, hix]
            simp only [hlr] at hq
            have h4 := h2.tl.tl
            simp -implicitDefEqProofs (disch := first | assumption | omega | fail) [rc44_2, rc44_1, wkB, retV, stabOk, dC, ev, fillD, pickCells, putAt, bnd, slD, List.getElem?_cons_zero, List.getElem?_cons_succ, Mem.cell, Mem.row, cells_own, cells_ro, t0, t1, t5, t8, t9, t34, t35, t36, hj8, hidx, g2w, hc, getL1 hc, i0, i1, g2, hw2, hb2]
            refine SK_stS h4 0 rfl (o := 7) (vs := [.int .i64 (n2 : Int)]) (cs' := mdC { s with addr := n2 } sp (.pointer none) (.pointer none) (slV orr s.reps.length 3)) (by simp [wkB, retV, stabOk, dC, ev, fillD, pickCells, putAt, bnd, slD, List.getElem?_cons_zero, List.getElem?_cons_succ, Mem.cell, Mem.row, cells_own, cells_ro]) (by simp [wkB, retV, stabOk, dC, ev, fillD, pickCells, putAt, bnd, slD, List.getElem?_cons_zero, List.getElem?_cons_succ, Mem.cell, Mem.row, cells_own, cells_ro]) (by simp [mdC]) rfl rfl (by simp [mdC, putAt]) fun m5 h5 _ => ?_
            have g5 := h5.get 0 rfl
            simp only [mdC] at g5
            by_cases h3 : j = 3
            · subst h3
              simp -implicitDefEqProofs (disch := first | assumption | omega | fail) [wkB, retV, stabOk, dC, ev, fillD, pickCells, putAt, bnd, slD, List.getElem?_cons_zero, List.getElem?_cons_succ, Mem.cell, Mem.row, cells_own, cells_ro, t0, t36, g5]
              refine c_bTake h5 fun ib H M hM hR => ?_
              simp -implicitDefEqProofs (disch := first | assumption | omega | fail) [wkB, retV, stabOk, dC, ev, fillD, pickCells, putAt, bnd, slD, List.getElem?_cons_zero, List.getElem?_cons_succ, Mem.cell, Mem.row, cells_own, cells_ro]
              have hM := hM.perm List.perm_append_comm
              refine SK_stS hM 0 rfl (o := 6) (vs := [.pointer (some ⟨ib, 0, none⟩)]) (cs' := mdC (begF s 3 n2) sp (.pointer none) (.pointer (some ⟨ib, 0, none⟩)) (slV orr s.reps.length 3)) (by simp [wkB, retV, stabOk, dC, ev, fillD, pickCells, putAt, bnd, slD, List.getElem?_cons_zero, List.getElem?_cons_succ, Mem.cell, Mem.row, cells_own, cells_ro]) (by simp [wkB, retV, stabOk, dC, ev, fillD, pickCells, putAt, bnd, slD, List.getElem?_cons_zero, List.getElem?_cons_succ, Mem.cell, Mem.row, cells_own, cells_ro]) (by simp [mdC]) rfl rfl (by simp [mdC, putAt, begF]) fun m6 h6 _ => ?_
              simp -implicitDefEqProofs (disch := first | assumption | omega | fail) [wkB, retV, stabOk, dC, ev, fillD, pickCells, putAt, bnd, slD, List.getElem?_cons_zero, List.getElem?_cons_succ, Mem.cell, Mem.row, cells_own, cells_ro, rc44_0]
              exact hq m6 (mdH it sp orr (.pointer none) (.pointer (some ⟨ib, 0, none⟩)) (begF s 3 n2) ++ H) h6 ⟨⟨sp, orr, _, _, H, rfl, ⟨ib, rfl, rfl, hR⟩, hor⟩, hml, hll⟩
            · have h3' : ((j : Int) == 3) = false := beq_eq_false_iff_ne.2 (by omega)
              have e0 : decide (0 < (j : Int)) = decide (j ≠ 0) := by by_cases hh : j = 0 <;> simp [hh]; omega
              simp -implicitDefEqProofs (disch := first | assumption | omega | fail) [wkB, retV, stabOk, dC, ev, fillD, pickCells, putAt, bnd, slD, List.getElem?_cons_zero, List.getElem?_cons_succ, Mem.cell, Mem.row, cells_own, cells_ro, t0, t36, g5, h3', e0]
              refine c_rOf (n := 1) h5 fun ir H M hM hR => ?_
              simp -implicitDefEqProofs (disch := first | assumption | omega | fail) [wkB, retV, stabOk, dC, ev, fillD, pickCells, putAt, bnd, slD, List.getElem?_cons_zero, List.getElem?_cons_succ, Mem.cell, Mem.row, cells_own, cells_ro]
              have hM := hM.perm List.perm_append_comm
              refine SK_stS hM 0 rfl (o := 5) (vs := [.pointer (some ⟨ir, 0, none⟩)]) (cs' := mdC (begF s j n2) sp (.pointer (some ⟨ir, 0, none⟩)) (.pointer none) (slV orr s.reps.length 3)) (by simp [wkB, retV, stabOk, dC, ev, fillD, pickCells, putAt, bnd, slD, List.getElem?_cons_zero, List.getElem?_cons_succ, Mem.cell, Mem.row, cells_own, cells_ro]) (by simp [wkB, retV, stabOk, dC, ev, fillD, pickCells, putAt, bnd, slD, List.getElem?_cons_zero, List.getElem?_cons_succ, Mem.cell, Mem.row, cells_own, cells_ro]) (by simp [mdC]) rfl rfl (by simp [mdC, putAt, begF]) fun m6 h6 _ => ?_
              simp -implicitDefEqProofs (disch := first | assumption | omega | fail) [wkB, retV, stabOk, dC, ev, fillD, pickCells, putAt, bnd, slD, List.getElem?_cons_zero, List.getElem?_cons_succ, Mem.cell, Mem.row, cells_own, cells_ro, rc44_0]
              refine hq m6 (mdH it sp orr (.pointer (some ⟨ir, 0, none⟩)) (.pointer none) (begF s j n2) ++ H) h6 ⟨⟨sp, orr, _, _, H, rfl, ?_, hor⟩, hml, hll⟩
              simp only [begF, if_neg h3]
              have e9 : decide (0 < j) = decide (j ≠ 0) := decide_eq_decide.2 (by omega)
              exact ⟨ir, rfl, rfl, by rw [← e9]; simpa using hR⟩
        · have hb2 : (b == wj) = false := by simpa using hb
          simp -implicitDefEqProofs (disch := first | assumption | omega | fail) [rc44_2, rc44_1, wkB, retV, stabOk, dC, ev, fillD, pickCells, putAt, bnd, slD, List.getElem?_cons_zero, List.getElem?_cons_succ, Mem.cell, Mem.row, cells_own, cells_ro, t0, t1, t5, t9, t34, t35, t36, hj8, hidx, g2w, hc, getL1 hc, i0, i1, g2, hw2, hb2, w1]
          exact again _ (by simp) (by simp) (by simp) (by simp) (by simp) (by simp) (by simp) (by simp) (by simp) (by simp) (fun hh => hb hh.2.1)
      · have hw2 : (w == ([108, 111, 97, 100] : List UInt8)) = false := by simpa [load4] using hw
        simp -implicitDefEqProofs (disch := first | assumption | omega | fail) [rc44_2, rc44_1, wkB, retV, stabOk, dC, ev, fillD, pickCells, putAt, bnd, slD, List.getElem?_cons_zero, List.getElem?_cons_succ, Mem.cell, Mem.row, cells_own, cells_ro, t0, t1, t5, t9, t34, t35, t36, hj8, hidx, g2w, hc, getL1 hc, i0, i1, g2, hw2, w1]
        exact again _ (by simp) (by simp) (by simp) (by simp) (by simp) (by simp) (by simp) (by simp) (by simp) (by simp) (fun hh => hw hh.1)
    · have hjj : j = 4 := by omega
      subst hjj
      have hlr : loadR s w b c = none := by
        unfold loadR
        by_cases hw : w = load4
        · rw [if_pos hw]
          cases b2 with
          | false => rw [ef2 rfl]
          | true =>
            obtain ⟨n2, e2, -⟩ := et2 rfl
            have hix : wayIx b = none := by
              unfold wayIx
              rw [if_neg (fun e => hne 0 (by omega) ⟨hw, e, rfl⟩), if_neg (fun e => hne 1 (by omega) ⟨hw, e, rfl⟩), if_neg (fun e => hne 2 (by omega) ⟨hw, e, rfl⟩), if_neg (fun e => hne 3 (by omega) ⟨hw, e, rfl⟩)]
            rw [e2, hix]
        · rw [if_neg hw]
      simp only [hlr] at hq fin
      simp -implicitDefEqProofs (disch := first | assumption | omega | fail) [rc44_2, rc44_3, wkB, retV, stabOk, dC, ev, fillD, pickCells, putAt, bnd, slD, List.getElem?_cons_zero, List.getElem?_cons_succ, Mem.cell, Mem.row, cells_own, cells_ro, t0, t35, t36, g2t, t6, t8]
      have hsn : (w ≠ sum3 ∨ b1 = false ∨ b2 = false ∨ fitsF z1 z2 = false) → sumR s w b c = none := fun hh => by
        unfold sumR
        by_cases hw : w = sum3
        · rw [if_pos hw]
          cases b1 with
          | false => rw [ef1 rfl]
          | true =>
            obtain ⟨n1, e1, rfl⟩ := et1 rfl
            rw [e1]
            cases b2 with
            | false => rw [ef2 rfl]
            | true =>
              obtain ⟨n2, e2, rfl⟩ := et2 rfl
              rw [e2]
              simp only
              rw [if_neg]
              rcases hh with hh | hh | hh | hh
              · exact absurd hw hh
              · cases hh
              · cases hh
              · rw [hh]; simp
        · rw [if_neg hw]
      refine c_sRead h2 3 rfl hml (fun hf orb m3 h3 hn3 => ?_) fun hf => ?_
      · have h3w := h3.get 2 rfl
        by_cases hw : w = sum3
        · have hw2 : (w == ([115, 117, 109] : List UInt8)) = true := by simp [hw, sum3]
          cases b1 with
          | false =>
            simp -implicitDefEqProofs (disch := first | assumption | omega | fail) [wkB, retV, stabOk, dC, ev, fillD, pickCells, putAt, bnd, slD, List.getElem?_cons_zero, List.getElem?_cons_succ, Mem.cell, Mem.row, cells_own, cells_ro, t0, t1, t5, t7, t9, i0, h3w, hw2]
            exact fin _ m3 h3.tl.tl.tl (by simp [t1]) (by rw [hsn (.inr (.inl rfl))])
          | true =>
            cases b2 with
            | false =>
              simp -implicitDefEqProofs (disch := first | assumption | omega | fail) [wkB, retV, stabOk, dC, ev, fillD, pickCells, putAt, bnd, slD, List.getElem?_cons_zero, List.getElem?_cons_succ, Mem.cell, Mem.row, cells_own, cells_ro, t0, t1, t5, t7, t9, i0, h3w, hw2]
              exact fin _ m3 h3.tl.tl.tl (by simp [t1]) (by rw [hsn (.inr (.inr (.inl rfl)))])
            | true =>
              obtain ⟨n1, e1, rfl⟩ := et1 rfl
              obtain ⟨n2, e2, rfl⟩ := et2 rfl
              have hsr : sumR s w b c = some ((n1 : Int), (n2 : Int), prN ((s.mem.drop n1).take n2)) := by
                unfold sumR
                rw [if_pos hw, e1, e2]
                simp only
                rw [if_pos hf]
              simp only [hsr] at hq
              have hl1 := hexN_lt e1
              have hl2 := hexN_lt e2
              have hdl : ((s.mem.drop n1).take n2).length = n2 := by
                simp only [fitsF, decide_eq_true_eq] at hf
                rw [List.length_take, List.length_drop, hml]; omega
              have hrd : RdV (fun i => i < m3.next) m3 1 (slV orb n2 1) (((s.mem.drop n1).take n2).map byteV) ((s.mem.drop n1).take n2).length := by
                rw [hdl]
                exact h3.rd 0 rfl (by simp only [List.length_map, Int.toNat_natCast]; rw [hdl]; omega) (fun e => by simpa using hn3 e) (fun i hi => by subst hi; exact h3.lt 0 rfl)
              have hpl := prN_lt ((s.mem.drop n1).take n2)
              simp -implicitDefEqProofs (disch := first | assumption | omega | fail) [wkB, retV, stabOk, dC, ev, fillD, pickCells, putAt, bnd, slD, List.getElem?_cons_zero, List.getElem?_cons_succ, Mem.cell, Mem.row, cells_own, cells_ro, t0, t1, t5, t6, t7, t8, t9, i0, h3w, hw2]
              refine c_Print h3.pt hrd (by rw [hdl]; omega) fun m4 o4 => ?_
              have h4 := (h3.old o4).tl.tl.tl
              generalize prN ((s.mem.drop n1).take n2) = pr at *
              simp -implicitDefEqProofs (disch := first | assumption | omega | fail) [wkB, retV, stabOk, dC, ev, fillD, pickCells, putAt, bnd, slD, List.getElem?_cons_zero, List.getElem?_cons_succ, Mem.cell, Mem.row, cells_own, cells_ro, t0, t1, t5, t6, t8]
              refine SK_alS h4 fun br m5 h5 _ _ => ?_
              simp -implicitDefEqProofs (disch := first | assumption | omega | fail) [wkB, retV, stabOk, dC, ev, fillD, pickCells, putAt, bnd, slD, List.getElem?_cons_zero, List.getElem?_cons_succ, Mem.cell, Mem.row, cells_own, cells_ro]
              refine SK_stS h5 0 rfl (o := 0) (vs := repC ((n1 : Int), (n2 : Int), pr)) (cs' := repC ((n1 : Int), (n2 : Int), pr)) (by simp [wkB, retV, stabOk, dC, ev, fillD, pickCells, putAt, bnd, slD, List.getElem?_cons_zero, List.getElem?_cons_succ, Mem.cell, Mem.row, cells_own, cells_ro]) (by simp [wkB, retV, stabOk, dC, ev, fillD, pickCells, putAt, bnd, slD, List.getElem?_cons_zero, List.getElem?_cons_succ, Mem.cell, Mem.row, cells_own, cells_ro, repC]) (by simp) rfl rfl rfl fun m6 h6 _ => ?_
              have g60 := h6.get 0 rfl
              have g61 := h6.get 1 rfl
              simp only [mdC] at g61
              simp only [repC] at g60
              simp -implicitDefEqProofs (disch := first | assumption | omega | fail) [wkB, retV, stabOk, dC, ev, fillD, pickCells, putAt, bnd, slD, List.getElem?_cons_zero, List.getElem?_cons_succ, Mem.cell, Mem.row, cells_own, cells_ro, t0, g60, g61]
              refine SK_bslS h6 (cs := repC ((n1 : Int), (n2 : Int), pr)) (by simp [fillD, pickCells, wkB, retV, stabOk, dC, ev, fillD, pickCells, putAt, bnd, slD, List.getElem?_cons_zero, List.getElem?_cons_succ, Mem.cell, Mem.row, cells_own, cells_ro, repC, g60]) rfl fun bs m7 h7 _ _ => ?_
              have g70 := h7.get 1 rfl
              have g71 := h7.get 2 rfl
              simp only [mdC] at g71
              simp only [repC] at g70
              have hO7 := (h7.slO 0 (k := 1) (sz := 3) rfl rfl (fun e => by cases e)).read
              simp -implicitDefEqProofs (disch := first | assumption | omega | fail) [wkB, retV, stabOk, dC, ev, fillD, pickCells, putAt, bnd, slD, List.getElem?_cons_zero, List.getElem?_cons_succ, Mem.cell, Mem.row, cells_own, cells_ro, t0, g70, g71]
              refine SK_apS h7 4 (n := s.reps.length) (k := 1) (ys := repC ((n1 : Int), (n2 : Int), pr)) rfl (by simp [wkB, retV, stabOk, dC, ev, fillD, pickCells, putAt, bnd, slD, List.getElem?_cons_zero, List.getElem?_cons_succ, Mem.cell, Mem.row, cells_own, cells_ro]) (flat_len repC_len s.reps) hor (by simp [wkB, retV, stabOk, dC, ev, fillD, pickCells, putAt, bnd, slD, List.getElem?_cons_zero, List.getElem?_cons_succ, Mem.cell, Mem.row, cells_own, cells_ro]; exact hO7.elems) (by simp [wkB, retV, stabOk, dC, ev, fillD, pickCells, putAt, bnd, slD, List.getElem?_cons_zero, List.getElem?_cons_succ, Mem.cell, Mem.row, cells_own, cells_ro]) rfl (by omega) (by unfold maxLen; omega) rfl fun or8 m8 h8 hn8 _ => ?_
              simp -implicitDefEqProofs (disch := first | assumption | omega | fail) [wkB, retV, stabOk, dC, ev, fillD, pickCells, putAt, bnd, slD, List.getElem?_cons_zero, List.getElem?_cons_succ, Mem.cell, Mem.row, cells_own, cells_ro, t0]
              refine SK_stS h8 2 rfl (o := 8) (vs := [slV or8 (s.reps.length + 1) 3]) (cs' := mdC { s with reps := s.reps ++ [((n1 : Int), (n2 : Int), pr)] } sp (.pointer none) (.pointer none) (slV or8 (s.reps.length + 1) 3)) (by simp [wkB, retV, stabOk, dC, ev, fillD, pickCells, putAt, bnd, slD, List.getElem?_cons_zero, List.getElem?_cons_succ, Mem.cell, Mem.row, cells_own, cells_ro]) (by simp [wkB, retV, stabOk, dC, ev, fillD, pickCells, putAt, bnd, slD, List.getElem?_cons_zero, List.getElem?_cons_succ, Mem.cell, Mem.row, cells_own, cells_ro]) (by simp [mdC]) rfl (by simp [oneC_slV]) (by simp [mdC, putAt]) fun m9 h9 _ => ?_
              have g9 := h9.get 1 rfl
              simp only [repC] at g9
              have wp : IntKind.i64.wrap (pr : Int) = (pr : Int) := w64 (by omega)
              have lA := hex_len hl1
              have lB := hex_len hl2
              have lP := hex_len hpl
              have htl := line_tail n1 n2 pr
              have x1 : dBin .add (.string ⟨#[115, 117, 109, 32]⟩) (.string ⟨⟨digs 16 n1⟩⟩) = some (.string ⟨⟨[115, 117, 109, 32] ++ digs 16 n1⟩⟩) := catS [115, 117, 109, 32] (digs 16 n1) (by simp; omega)
              have x2 : dBin .add (.string ⟨⟨[115, 117, 109, 32] ++ digs 16 n1⟩⟩) (.string ⟨#[32]⟩) = some (.string ⟨⟨[115, 117, 109, 32] ++ digs 16 n1 ++ [32]⟩⟩) := catS _ [32] (by simp; omega)
              have x3 : dBin .add (.string ⟨⟨[115, 117, 109, 32] ++ digs 16 n1 ++ [32]⟩⟩) (.string ⟨⟨digs 16 n2⟩⟩) = some (.string ⟨⟨[115, 117, 109, 32] ++ digs 16 n1 ++ [32] ++ digs 16 n2⟩⟩) := catS _ _ (by simp; omega)
              have x4 : dBin .add (.string ⟨⟨[115, 117, 109, 32] ++ digs 16 n1 ++ [32] ++ digs 16 n2⟩⟩) (.string ⟨#[32]⟩) = some (.string ⟨⟨[115, 117, 109, 32] ++ digs 16 n1 ++ [32] ++ digs 16 n2 ++ [32]⟩⟩) := catS _ [32] (by simp; omega)
              have x5 : dBin .add (.string ⟨⟨[115, 117, 109, 32] ++ digs 16 n1 ++ [32] ++ digs 16 n2 ++ [32]⟩⟩) (.string ⟨⟨digs 16 pr⟩⟩) = some (.string ⟨⟨[115, 117, 109, 32] ++ digs 16 n1 ++ [32] ++ digs 16 n2 ++ [32] ++ digs 16 pr⟩⟩) := catS _ _ (by simp; omega)
              have x6 : dBin .add (.string ⟨⟨[115, 117, 109, 32] ++ digs 16 n1 ++ [32] ++ digs 16 n2 ++ [32] ++ digs 16 pr⟩⟩) (.string ⟨#[13, 10, 61, 62, 32]⟩) = some (.string ⟨⟨[115, 117, 109, 32] ++ digs 16 n1 ++ [32] ++ digs 16 n2 ++ [32] ++ digs 16 pr ++ [13, 10, 61, 62, 32]⟩⟩) := catS _ [13, 10, 61, 62, 32] (by simp; omega)
              rw [htl] at hq
              clear htl lA lB lP
              generalize [115, 117, 109, 32] ++ digs 16 n1 ++ [32] ++ digs 16 n2 ++ [32] ++ digs 16 pr ++ [13, 10, 61, 62, 32] = S6 at *
              generalize [115, 117, 109, 32] ++ digs 16 n1 ++ [32] ++ digs 16 n2 ++ [32] ++ digs 16 pr = S5 at *
              generalize [115, 117, 109, 32] ++ digs 16 n1 ++ [32] ++ digs 16 n2 ++ [32] = S4 at *
              generalize [115, 117, 109, 32] ++ digs 16 n1 ++ [32] ++ digs 16 n2 = S3 at *
              generalize [115, 117, 109, 32] ++ digs 16 n1 ++ [32] = S2 at *
              generalize [115, 117, 109, 32] ++ digs 16 n1 = S1 at *
              simp -implicitDefEqProofs (disch := first | assumption | omega | fail) [wkB, retV, stabOk, dC, ev, fillD, pickCells, putAt, bnd, slD, List.getElem?_cons_zero, List.getElem?_cons_succ, Mem.cell, Mem.row, cells_own, cells_ro, t6, t8, g9, wp]
              refine c_hexN n1 (by omega) ?_
              simp -implicitDefEqProofs (disch := first | assumption | omega | fail) [wkB, retV, stabOk, dC, ev, fillD, pickCells, putAt, bnd, slD, List.getElem?_cons_zero, List.getElem?_cons_succ, Mem.cell, Mem.row, cells_own, cells_ro, g9, x1, x2]
              refine c_hexN n2 (by omega) ?_
              simp -implicitDefEqProofs (disch := first | assumption | omega | fail) [wkB, retV, stabOk, dC, ev, fillD, pickCells, putAt, bnd, slD, List.getElem?_cons_zero, List.getElem?_cons_succ, Mem.cell, Mem.row, cells_own, cells_ro, g9, x3, x4]
              refine c_hexN pr (by omega) ?_
              simp -implicitDefEqProofs (disch := first | assumption | omega | fail) [wkB, retV, stabOk, dC, ev, fillD, pickCells, putAt, bnd, slD, List.getElem?_cons_zero, List.getElem?_cons_succ, Mem.cell, Mem.row, cells_own, cells_ro, x5, x6]
              have e10 : s.reps.flatMap repC ++ repC ((n1 : Int), (n2 : Int), pr) = (s.reps ++ [((n1 : Int), (n2 : Int), pr)]).flatMap repC := by simp
              rw [e10] at h9
              refine hq m9 (mdH it sp or8 (.pointer none) (.pointer none) { s with reps := s.reps ++ [((n1 : Int), (n2 : Int), pr)] } ++ []) ?_ ⟨⟨sp, or8, _, _, [], rfl, by simp only [hno]; exact ⟨rfl, rfl, rfl⟩, fun e => by have := hn8 e; omega⟩, hml, hll⟩
              have h11 := h9.sel [2, 3, 4] (by decide)
              have e12 : (s.reps ++ [((n1 : Int), (n2 : Int), pr)]).length = s.reps.length + 1 := by simp
              simp only [mdH, reH, List.append_nil]
              rw [e12]
              exact h11
        · have hw2 : (w == ([115, 117, 109] : List UInt8)) = false := by simpa [sum3] using hw
          simp -implicitDefEqProofs (disch := first | assumption | omega | fail) [wkB, retV, stabOk, dC, ev, fillD, pickCells, putAt, bnd, slD, List.getElem?_cons_zero, List.getElem?_cons_succ, Mem.cell, Mem.row, cells_own, cells_ro, t0, t1, t5, t7, t9, i0, h3w, hw2]
          exact fin _ m3 h3.tl.tl.tl (by simp [t1]) (by rw [hsn (.inl hw)])
      · have hn := hsn (.inr (.inr (.inr hf)))
        by_cases hw : w = sum3
        · have hw2 : (w == ([115, 117, 109] : List UInt8)) = true := by simp [hw, sum3]
          cases b1 <;> cases b2
          all_goals
            simp -implicitDefEqProofs (disch := first | assumption | omega | fail) [wkB, retV, stabOk, dC, ev, fillD, pickCells, putAt, bnd, slD, List.getElem?_cons_zero, List.getElem?_cons_succ, Mem.cell, Mem.row, cells_own, cells_ro, t0, t1, t5, t7, t9, i0, g2, hw2]
            exact fin _ _ h2.tl.tl (by simp [t1]) (by rw [hn])
        · have hw2 : (w == ([115, 117, 109] : List UInt8)) = false := by simpa [sum3] using hw
          simp -implicitDefEqProofs (disch := first | assumption | omega | fail) [wkB, retV, stabOk, dC, ev, fillD, pickCells, putAt, bnd, slD, List.getElem?_cons_zero, List.getElem?_cons_succ, Mem.cell, Mem.row, cells_own, cells_ro, t0, t1, t5, t7, t9, i0, g2, hw2]
          exact fin _ _ h2.tl.tl (by simp [t1]) (by rw [hn])
  · have h3' : ((ws.length : Int) == 3) = false := beq_eq_false_iff_ne.2 (by omega)
    have hsl := (h1.slO 0 (k := ws.length) (sz := 1) rfl (by simp) (fun e => by cases e)).slen
    simp -implicitDefEqProofs (disch := first | assumption | omega | fail) [wkB, retV, stabOk, dC, ev, fillD, pickCells, putAt, bnd, slD, List.getElem?_cons_zero, List.getElem?_cons_succ, Mem.cell, Mem.row, cells_own, cells_ro, h3']
    refine fin _ m1 h1.tl (by simp [frA_at]) ?_
    match ws, h3 with
    | [], _ => rfl
    | [_], _ => rfl
    | [_, _], _ => rfl
    | [_, _, _], hh => exact absurd rfl hh
    | _ :: _ :: _ :: _ :: _, _ => rfl
end Go.Proofs.YtiapjjgmmiifmaaGreatDoor.Ab

set_option linter.unusedVariables false
set_option linter.unusedSimpArgs false
namespace Go.Proofs.YtiapjjgmmiifmaaGreatDoor.Ab
open Go Go.RowKit
set_option maxHeartbeats 4000000
set_option maxRecDepth 100000
def MdQ (m0 : Mem) (V : Nat → Prop) (it : Nat) (r : TgS × List UInt8) (Q : Value → Mem → Prop) : Prop := ∀ M H', Sep m0 V M H' → MdR H' it r.1 → Q (.string ⟨⟨r.2⟩⟩) M
theorem c_mAfter {w0 : World} {V : Nat → Prop} {m0 m : Mem} {H : HL} {it : Nat} {s : TgS} {o : List UInt8} {Q : Value → Mem → Prop} (h : Sep m0 V m H) (hR : MdR H it s) (hne : s.tak ≠ .no)
    (hbig : s.tak.sz ≤ 140737488355328) (hol9 : o.length ≤ 1000000000) (hq : MdQ m0 V it (ldF s o) Q) : AbC Tryz.prog w0 39 [.pointer (some ⟨it, 0, none⟩), .string ⟨⟨o⟩⟩] m Q := by
  refine AbC_fn ok39 (by simp) ?_
  obtain ⟨⟨sp, orr, vp, vf, HT, rfl, hT, hor⟩, hml, hll⟩ := hR
  have g0 := h.get 0 rfl
  simp only [mdC] at g0
  unfold ldF at hq
  have cat1 : dBin .add (.string ⟨⟨o⟩⟩) (.string ⟨#[13, 10, 61, 62, 32]⟩) = some (.string ⟨⟨o ++ proL⟩⟩) := catS o [13, 10, 61, 62, 32] (by simp; omega)
  have cat2 : dBin .add (.string ⟨⟨o⟩⟩) (.string ⟨#[33, 13, 10, 61, 62, 32]⟩) = some (.string ⟨⟨o ++ 33 :: proL⟩⟩) := catS o [33, 13, 10, 61, 62, 32] (by simp; omega)
  have tail : ∀ (fr : Fr) (M : Mem) (od : Option Nat), Sep m0 V M (mdH it sp orr vp vf s ++ (byH od s.tak.data :: HT)) → (od = none → s.tak.data.length = 0) → fr 0 = .pointer (some ⟨it, 0, none⟩) → fr 1 = .string ⟨⟨o⟩⟩ → fr 5 = slV od s.tak.data.length 1 → fr 6 = .bool s.tak.over → fr 7 = errV s.tak.err →
      AbW Tryz.prog w0 rc39_2 (bodyA [.mv (.tmp 4)] Q) fr M := by
    intro fr M od hM hod t0 t1 t5 t6 t7
    have gM := hM.get 0 rfl
    simp only [mdC] at gM
    cases hov : s.tak.over with
    | false =>
      rw [if_pos hov] at hq
      rw [hov] at t6
      simp -implicitDefEqProofs (disch := first | assumption | omega | fail) [rc39_2, wkB, retV, stabOk, dC, ev, fillD, pickCells, putAt, bnd, slD, List.getElem?_cons_zero, List.getElem?_cons_succ, Mem.cell, Mem.row, cells_own, cells_ro, t1, t6]
      exact hq M _ (hM.sub (List.Sublist.append_left (List.sublist_cons_self _ _) _)) ⟨⟨sp, orr, vp, vf, HT, rfl, hT, hor⟩, hml, hll⟩
    | true =>
      rw [if_neg (by rw [hov]; simp)] at hq
      rw [hov] at t6
      simp -implicitDefEqProofs (disch := first | assumption | omega | fail) [rc39_2, rc39_1, wkB, retV, stabOk, dC, ev, fillD, pickCells, putAt, bnd, slD, List.getElem?_cons_zero, List.getElem?_cons_succ, Mem.cell, Mem.row, cells_own, cells_ro, t0, t1, t6]
      refine SK_stS hM 0 rfl (o := 6) (vs := [.pointer none]) (cs' := mdC s sp vp (.pointer none) (slV orr s.reps.length 3)) (by simp [wkB, retV, stabOk, dC, ev, fillD, pickCells, putAt, bnd, slD, List.getElem?_cons_zero, List.getElem?_cons_succ, Mem.cell, Mem.row, cells_own, cells_ro]) (by simp [wkB, retV, stabOk, dC, ev, fillD, pickCells, putAt, bnd, slD, List.getElem?_cons_zero, List.getElem?_cons_succ, Mem.cell, Mem.row, cells_own, cells_ro]) (by simp [mdC]) rfl rfl (by simp [mdC, putAt]) fun m1 h1 _ => ?_
      simp -implicitDefEqProofs (disch := first | assumption | omega | fail) [wkB, retV, stabOk, dC, ev, fillD, pickCells, putAt, bnd, slD, List.getElem?_cons_zero, List.getElem?_cons_succ, Mem.cell, Mem.row, cells_own, cells_ro]
      refine SK_stS h1 0 rfl (o := 5) (vs := [.pointer none]) (cs' := mdC s sp (.pointer none) (.pointer none) (slV orr s.reps.length 3)) (by simp [wkB, retV, stabOk, dC, ev, fillD, pickCells, putAt, bnd, slD, List.getElem?_cons_zero, List.getElem?_cons_succ, Mem.cell, Mem.row, cells_own, cells_ro]) (by simp [wkB, retV, stabOk, dC, ev, fillD, pickCells, putAt, bnd, slD, List.getElem?_cons_zero, List.getElem?_cons_succ, Mem.cell, Mem.row, cells_own, cells_ro]) (by simp [mdC]) rfl rfl (by simp [mdC, putAt]) fun m2 h2 _ => ?_
      have h2 : Sep m0 V m2 (mdH it sp orr (.pointer none) (.pointer none) s ++ (byH od s.tak.data :: HT)) := h2
      have g2 := h2.get 0 rfl
      simp only [mdC] at g2
      have fin : ∀ (M : Mem) (mem' : List UInt8), Sep m0 V M (mdH it sp orr (.pointer none) (.pointer none) { s with mem := mem' } ++ (byH od s.tak.data :: HT)) → mem'.length = 16384 → Sep m0 V M (mdH it sp orr (.pointer none) (.pointer none) { s with tak := .no, mem := mem' } ++ []) ∧ MdR (mdH it sp orr (.pointer none) (.pointer none) { s with tak := .no, mem := mem' } ++ []) it { s with tak := .no, mem := mem' } := fun M mem' hM hm' =>
        ⟨by rw [List.append_nil]; exact hM.sub (List.sublist_append_left _ _), ⟨⟨sp, orr, _, _, [], rfl, ⟨rfl, rfl, rfl⟩, hor⟩, hm', hll⟩⟩
      cases her : s.tak.err with
      | succ k =>
        rw [if_neg (fun hh => by rw [her] at hh; cases hh.1)] at hq
        rw [her] at t7
        simp -implicitDefEqProofs (disch := first | assumption | omega | fail) [wkB, retV, stabOk, dC, ev, fillD, pickCells, putAt, bnd, slD, List.getElem?_cons_zero, List.getElem?_cons_succ, Mem.cell, Mem.row, cells_own, cells_ro, t0, t1, t7, errV, rc39_0, cat2]
        exact hq m2 _ (fin m2 s.mem h2 hml).1 (fin m2 s.mem h2 hml).2
      | zero =>
        rw [her] at t7
        have hrd : RdV (fun i => i < m2.next) m2 1 (slV od s.tak.data.length 1) (s.tak.data.map byteV) s.tak.data.length := h2.rd 3 rfl (by simp) hod (fun i hi => by subst hi; exact h2.lt 3 rfl)
        simp -implicitDefEqProofs (disch := first | assumption | omega | fail) [wkB, retV, stabOk, dC, ev, fillD, pickCells, putAt, bnd, slD, List.getElem?_cons_zero, List.getElem?_cons_succ, Mem.cell, Mem.row, cells_own, cells_ro, t0, t1, t5, t7, errV, g2]
        refine c_sWrite h2 1 rfl hml hrd (fun hf m3 h3 => ?_) fun hf => ?_
        · rw [if_pos ⟨her, hf⟩] at hq
          have hf2 := hf
          simp only [fitsF, decide_eq_true_eq] at hf2
          simp -implicitDefEqProofs (disch := first | assumption | omega | fail) [wkB, retV, stabOk, dC, ev, fillD, pickCells, putAt, bnd, slD, List.getElem?_cons_zero, List.getElem?_cons_succ, Mem.cell, Mem.row, cells_own, cells_ro, t1, cat1]
          have := fin m3 (wrF s.mem s.addr.toNat s.tak.data) h3 (by rw [wrF_len (by rw [hml]; omega)]; exact hml)
          exact hq m3 _ this.1 this.2
        · rw [if_neg (fun hh => by rw [hf] at hh; cases hh.2)] at hq
          simp -implicitDefEqProofs (disch := first | assumption | omega | fail) [wkB, retV, stabOk, dC, ev, fillD, pickCells, putAt, bnd, slD, List.getElem?_cons_zero, List.getElem?_cons_succ, Mem.cell, Mem.row, cells_own, cells_ro, t1, rc39_0, cat2]
          exact hq m2 _ (fin m2 s.mem h2 hml).1 (fin m2 s.mem h2 hml).2
  have h1 := h.perm List.perm_append_comm
  cases hk : s.tak with
  | no => exact absurd hk hne
  | plain r =>
    have hT0 := hT
    rw [hk] at hT hbig
    obtain ⟨ir, rfl, rfl, hRr⟩ := hT
    have hRr0 := hRr
    obtain ⟨⟨ob, odr, rfl, hb, hd⟩, hw⟩ := hRr
    simp only [Tak.sz] at hbig
    simp -implicitDefEqProofs (disch := first | assumption | omega | fail) [rc39, ro39, wkB, retV, stabOk, dC, ev, fillD, pickCells, putAt, bnd, slD, List.getElem?_cons_zero, List.getElem?_cons_succ, Mem.cell, Mem.row, cells_own, cells_ro, g0]
    refine c_rDone h 3 rfl ?_
    simp -implicitDefEqProofs (disch := first | assumption | omega | fail) [wkB, retV, stabOk, dC, ev, fillD, pickCells, putAt, bnd, slD, List.getElem?_cons_zero, List.getElem?_cons_succ, Mem.cell, Mem.row, cells_own, cells_ro, g0]
    refine c_rData h1.fr hRr0 (by omega) fun od m2 hM hod => ?_
    have h2 := (h1.un hM).perm List.perm_append_comm
    simp -implicitDefEqProofs (disch := first | assumption | omega | fail) [wkB, retV, stabOk, dC, ev, fillD, pickCells, putAt, bnd, slD, List.getElem?_cons_zero, List.getElem?_cons_succ, Mem.cell, Mem.row, cells_own, cells_ro]
    exact tail _ m2 od (by rw [hk]; exact h2) (by rw [hk]; exact hod) (by simp [frA_at]) (by simp [frA_at]) (by rw [hk]; simp [Tak.data]) (by rw [hk]; simp [Tak.over]) (by rw [hk]; simp [Tak.err])
  | files r =>
    rw [hk] at hT hbig
    obtain ⟨ib, rfl, rfl, hRr⟩ := hT
    simp -implicitDefEqProofs (disch := first | assumption | omega | fail) [rc39, ro39, wkB, retV, stabOk, dC, ev, fillD, pickCells, putAt, bnd, slD, List.getElem?_cons_zero, List.getElem?_cons_succ, Mem.cell, Mem.row, cells_own, cells_ro, g0]
    refine c_bDone h hRr (fun p hp => List.mem_append_right _ hp) ?_
    simp -implicitDefEqProofs (disch := first | assumption | omega | fail) [wkB, retV, stabOk, dC, ev, fillD, pickCells, putAt, bnd, slD, List.getElem?_cons_zero, List.getElem?_cons_succ, Mem.cell, Mem.row, cells_own, cells_ro, g0]
    refine c_bData h1.fr hRr fun od m2 hM hod => ?_
    have h2 := (h1.un hM).perm List.perm_append_comm
    simp -implicitDefEqProofs (disch := first | assumption | omega | fail) [wkB, retV, stabOk, dC, ev, fillD, pickCells, putAt, bnd, slD, List.getElem?_cons_zero, List.getElem?_cons_succ, Mem.cell, Mem.row, cells_own, cells_ro]
    exact tail _ m2 od (by rw [hk]; exact h2) (by rw [hk]; exact hod) (by simp [frA_at]) (by simp [frA_at]) (by rw [hk]; simp [Tak.data]) (by rw [hk]; simp [Tak.over]) (by rw [hk]; simp [Tak.err])
/-- Behind what is taken: what takes has changed, and what it told lies before it. -/
theorem c_mGo {w0 : World} {V : Nat → Prop} {m0 M : Mem} {HT : HL} {it sp : Nat} {orr oo : Option Nat} {vp vf : Value} {s : TgS} {k : Tak} {o : List UInt8} {Q : Value → Mem → Prop} (h : Sep m0 V M ((byH oo o :: HT) ++ mdH it sp orr vp vf s)) (hT : TkM HT vp vf k) (hne : k ≠ .no)
    (hor : orr = none → s.reps.length = 0) (hml : s.mem.length = 16384) (hll : s.line.length ≤ 80) (hbig : k.sz ≤ 140737488355328) (hol9 : o.length ≤ 1000000000) (hq : MdQ m0 V it (ldF { s with tak := k } o) Q) :
    AbC Tryz.prog w0 39 [.pointer (some ⟨it, 0, none⟩), .string ⟨⟨o⟩⟩] M Q :=
  c_mAfter (s := { s with tak := k }) ((h.tl).perm List.perm_append_comm) ⟨⟨sp, orr, vp, vf, HT, rfl, hT, hor⟩, hml, hll⟩ hne hbig hol9 hq
theorem c_mTick {w0 : World} {V : Nat → Prop} {m : Mem} {H : HL} {it : Nat} {s : TgS} {Q : Value → Mem → Prop} (ht : Ten w0) (hE : ErrV w0) (h : Sep m V m H) (hR : MdR H it s) (hbig : s.tak.sz ≤ 140737488355328)
    (hq : MdQ m V it (tTickF s) Q) : AbC Tryz.prog w0 26 [.pointer (some ⟨it, 0, none⟩)] m Q := by
  refine AbC_fn ok26 (by simp) ?_
  have hR0 := hR
  obtain ⟨⟨sp, orr, vp, vf, HT, rfl, hT, hor⟩, hml, hll⟩ := hR
  have g0 := h.get 0 rfl
  simp only [mdC] at g0
  unfold tTickF at hq
  have hz := takTick_sz s.tak
  have hz2 := takTick_out s.tak
  have hno := takTick_no (k := s.tak)
  have h1 := h.perm List.perm_append_comm
  cases hk : s.tak with
  | no =>
    rw [hk] at hT
    rw [if_pos (by rw [hk]; rfl)] at hq
    obtain ⟨rfl, rfl, rfl⟩ := hT
    simp -implicitDefEqProofs (disch := first | assumption | omega | fail) [rc26, ro26, wkB, retV, stabOk, dC, ev, fillD, pickCells, putAt, bnd, slD, List.getElem?_cons_zero, List.getElem?_cons_succ, Mem.cell, Mem.row, cells_own, cells_ro, g0, rc26_0]
    exact hq m _ h hR0
  | plain r =>
    rw [if_neg (by rw [hk]; simp [Tak.isNo])] at hq
    rw [hk] at hT hz hz2 hno hq hbig
    obtain ⟨ir, rfl, rfl, hRr⟩ := hT
    simp only [Tak.tick] at hz hz2 hno hq
    simp -implicitDefEqProofs (disch := first | assumption | omega | fail) [rc26, ro26, wkB, retV, stabOk, dC, ev, fillD, pickCells, putAt, bnd, slD, List.getElem?_cons_zero, List.getElem?_cons_succ, Mem.cell, Mem.row, cells_own, cells_ro, g0]
    refine c_rTick h1.fr hRr fun oo HT2 M hM hT2 hoo => ?_
    have h2 := h1.un hM
    have hb : bstr M (slV oo (rTickF r).2.length 1) = some (.string ⟨⟨(rTickF r).2⟩⟩) := SlR.txt (h2.slO 0 (k := (rTickF r).2.length) (sz := 1) rfl (by simp) hoo).read
    generalize rTickF r = q at *
    simp -implicitDefEqProofs (disch := first | assumption | omega | fail) [wkB, retV, stabOk, dC, ev, fillD, pickCells, putAt, bnd, slD, List.getElem?_cons_zero, List.getElem?_cons_succ, Mem.cell, Mem.row, cells_own, cells_ro, hb]
    refine c_mGo h2 (k := .plain q.1) ⟨ir, rfl, rfl, hT2⟩ (by simp) hor hml hll (by omega) (by omega) fun M3 H3 h3 hR3 => ?_
    simp -implicitDefEqProofs (disch := first | assumption | omega | fail) [wkB, retV, stabOk, dC, ev, fillD, pickCells, putAt, bnd, slD, List.getElem?_cons_zero, List.getElem?_cons_succ, Mem.cell, Mem.row, cells_own, cells_ro]
    exact hq M3 H3 h3 hR3
  | files r =>
    rw [if_neg (by rw [hk]; simp [Tak.isNo])] at hq
    rw [hk] at hT hz hz2 hno hq hbig
    obtain ⟨ib, rfl, rfl, hRr⟩ := hT
    simp only [Tak.tick] at hz hz2 hno hq
    simp only [Tak.sz] at hbig
    simp -implicitDefEqProofs (disch := first | assumption | omega | fail) [rc26, ro26, wkB, retV, stabOk, dC, ev, fillD, pickCells, putAt, bnd, slD, List.getElem?_cons_zero, List.getElem?_cons_succ, Mem.cell, Mem.row, cells_own, cells_ro, g0]
    refine c_bTick ht hE h1.fr hRr (by omega) fun oo HT2 M hM hT2 hoo => ?_
    have h2 := h1.un hM
    have hb : bstr M (slV oo (bTickF r).2.length 1) = some (.string ⟨⟨(bTickF r).2⟩⟩) := SlR.txt (h2.slO 0 (k := (bTickF r).2.length) (sz := 1) rfl (by simp) hoo).read
    simp only [Tak.sz] at hz
    generalize bTickF r = q at *
    simp -implicitDefEqProofs (disch := first | assumption | omega | fail) [wkB, retV, stabOk, dC, ev, fillD, pickCells, putAt, bnd, slD, List.getElem?_cons_zero, List.getElem?_cons_succ, Mem.cell, Mem.row, cells_own, cells_ro, hb]
    refine c_mGo h2 (k := .files q.1) ⟨ib, rfl, rfl, hT2⟩ (by simp) hor hml hll (by simp only [Tak.sz]; omega) (by omega) fun M3 H3 h3 hR3 => ?_
    simp -implicitDefEqProofs (disch := first | assumption | omega | fail) [wkB, retV, stabOk, dC, ev, fillD, pickCells, putAt, bnd, slD, List.getElem?_cons_zero, List.getElem?_cons_succ, Mem.cell, Mem.row, cells_own, cells_ro]
    exact hq M3 H3 h3 hR3
end Go.Proofs.YtiapjjgmmiifmaaGreatDoor.Ab

set_option linter.unusedVariables false
set_option linter.unusedSimpArgs false
namespace Go.Proofs.YtiapjjgmmiifmaaGreatDoor.Ab
open Go Go.RowKit
set_option maxHeartbeats 4000000
set_option maxRecDepth 100000
theorem ld_len (s : TgS) (o : List UInt8) : (ldF s o).2.length ≤ o.length + 6 := by
  unfold ldF
  split
  · simp
  · split
    · simp [proL]
    · simp [proL]
theorem c_mPut {w0 : World} {V : Nat → Prop} {m : Mem} {H : HL} {it : Nat} {v : Value} {b : List UInt8} {s0 : TgS} {Q : Value → Mem → Prop} (ht : Ten w0) (hE : ErrV w0) (h : Sep m V m H) (hR : MdR H it s0) (hr : RdV V m 1 v (b.map byteV) b.length)
    (hb : b.length ≤ 4000000) (hrl : s0.reps.length + b.length ≤ 5000000000000) (hbig : s0.tak.sz ≤ 100000000000000) (hq : MdQ m V it (tPutL s0 [] b) Q) :
    AbC Tryz.prog w0 27 [.pointer (some ⟨it, 0, none⟩), v] m Q := by
  refine AbC_fn ok27 (by simp) ?_
  have hsl := hr.sl.slen
  simp -implicitDefEqProofs (disch := first | assumption | omega | fail) [rc27, ro27, wkB, retV, stabOk, dC, ev, fillD, pickCells, putAt, bnd, slD, List.getElem?_cons_zero, List.getElem?_cons_succ, Mem.cell, Mem.row, cells_own, cells_ro]
  refine LoopW_of (fun k ts m' => ∃ (j : Nat) (sj : TgS) (oj : List UInt8) (Hj : HL), j + k = b.length ∧ Sep m V m' Hj ∧ MdR Hj it sj ∧ oj.length ≤ 200 * j ∧ sj.reps.length ≤ s0.reps.length + j ∧ sj.tak.sz ≤ 100000000000000 ∧ tPutL s0 [] b = tPutL sj oj (b.drop j) ∧
    ts 0 = .pointer (some ⟨it, 0, none⟩) ∧ ts 1 = v ∧ ts 5 = .string ⟨⟨oj⟩⟩ ∧ ts 6 = .int .i64 (j : Nat)) b.length ?_ ?_
  · exact ⟨0, s0, [], H, by omega, h, hR, by simp, by omega, hbig, by simp, by simp [frA_at], by simp [frA_at], by simp, by simp⟩
  · rintro k ts m1 K ⟨j, sj, oj, Hj, hj, h1, hRj, holj, hrlj, hszj, heq, t0, t1, t5, t6⟩ hK
    by_cases hjl : j < b.length
    · have hj8 : (j : Int) < (b.length : Nat) := by omega
      have hrv := hr.sep h1
      obtain ⟨i, o, L, e1, e2, e3, e4, e5, e6⟩ := hrv.ex (by omega)
      have hc : L[o + j]? = some (byteV (b.getD j 0)) := (e4 j hjl).trans (byte_at hjl)
      simp only [byteV] at hc
      have hidx : sidx 1 v (.int .i64 (j : Int)) = some (.pointer (some ⟨i, o + j, none⟩)) := by rw [e1]; simpa using sidx_at (b := i) (o := o) (n := b.length) (c := 1) (j := j) (sz := 1) (k := .i64) hjl
      have w1 : IntKind.i64.wrap ((j : Int) + 1) = ((j + 1 : Nat) : Int) := by rw [w64 (by omega)]; omega
      have hdrop : b.drop j = b.getD j 0 :: b.drop (j + 1) := by
        rw [List.drop_eq_getElem_cons hjl, List.getD_eq_getElem?_getD, List.getElem?_eq_getElem hjl]; rfl
      have hsv := hrv.sl.slen
      have hRj0 := hRj
      obtain ⟨⟨sp, orr, vp, vf, HT, rfl, hT, hor⟩, hml, hll⟩ := hRj
      have g1 := h1.get 0 rfl
      simp only [mdC] at g1
      have h1' : Sep m V m1 (HT ++ mdH it sp orr vp vf sj) := h1.perm List.perm_append_comm
      cases hk : sj.tak with
      | no =>
        have hnk : sj.tak.isNo = true := by rw [hk]; rfl
        rw [hdrop, tPutL, if_pos hnk] at heq
        rw [hk] at hT
        obtain ⟨rfl, rfl, rfl⟩ := hT
        obtain ⟨v1, hv1, hr1, hb1⟩ := hrv.sl.btw (a := j) (b := j + 1) (by omega) (by omega)
        have e1c : ((b.map byteV).drop j).take (j + 1 - j) = ([b.getD j 0] : List UInt8).map byteV := by
          rw [← List.map_drop, hdrop, show j + 1 - j = 1 by omega, List.map_cons, List.take_succ_cons, List.take_zero]; rfl
        rw [e1c, show j + 1 - j = 1 by omega] at hr1
        have hbs : bstr m1 v1 = some (.string ⟨⟨[b.getD j 0]⟩⟩) := SlR.txt (l := [b.getD j 0]) hr1
        generalize b.getD j 0 = c at *
        have hkeep := putCF_keep sj c hk
        obtain ⟨J1, hJ1⟩ : ∃ J1, j + 1 = J1 := ⟨_, rfl⟩
        rw [hJ1] at w1 hv1 heq
        rw [List.append_nil] at h1
        have again : ∀ (fr : Fr) (M : Mem) (H2 : HL), fr 0 = ts 0 → fr 1 = ts 1 → fr 5 = .string ⟨⟨oj ++ (putCF sj c).2⟩⟩ → fr 6 = .int .i64 (J1 : Int) → Sep m V M H2 → MdR H2 it (putCF sj c).1 → K fr M := fun fr M H2 q0 q1 q5 q6 hM hR2 =>
          hK (k - 1) _ _ (by omega) ⟨J1, (putCF sj c).1, oj ++ (putCF sj c).2, H2, by omega, hM, hR2, by simp only [List.length_append]; omega, by omega, by omega, heq, by rw [q0, t0], by rw [q1, t1], q5, q6⟩
        unfold putCF at again
        cases has : sj.asleep with
        | true =>
          rw [if_pos has] at again
          rw [has] at g1
          have hcat : dBin .add (.string ⟨⟨oj⟩⟩) (.string ⟨#[13, 10, 61, 62, 32]⟩) = some (.string ⟨⟨oj ++ proL⟩⟩) := catS oj [13, 10, 61, 62, 32] (by simp; omega)
          simp -implicitDefEqProofs (disch := first | assumption | omega | fail) [rc27_1, rc27_0, wkB, retV, stabOk, dC, ev, fillD, pickCells, putAt, bnd, slD, List.getElem?_cons_zero, List.getElem?_cons_succ, Mem.cell, Mem.row, cells_own, cells_ro, t0, t1, t5, t6, hsv, hj8, g1]
          refine SK_stS h1 0 rfl (o := 3) (vs := [.bool true]) (cs' := mdC { sj with asleep := false } sp (.pointer none) (.pointer none) (slV orr sj.reps.length 3)) (by simp [wkB, retV, stabOk, dC, ev, fillD, pickCells, putAt, bnd, slD, List.getElem?_cons_zero, List.getElem?_cons_succ, Mem.cell, Mem.row, cells_own, cells_ro]) (by simp [wkB, retV, stabOk, dC, ev, fillD, pickCells, putAt, bnd, slD, List.getElem?_cons_zero, List.getElem?_cons_succ, Mem.cell, Mem.row, cells_own, cells_ro]) (by simp [mdC]) rfl rfl (by simp [mdC, putAt]) fun m2 h2 _ => ?_
          simp -implicitDefEqProofs (disch := first | assumption | omega | fail) [wkB, retV, stabOk, dC, ev, fillD, pickCells, putAt, bnd, slD, List.getElem?_cons_zero, List.getElem?_cons_succ, Mem.cell, Mem.row, cells_own, cells_ro, t5, t6, hcat, w1]
          exact again _ m2 (mdH it sp orr (.pointer none) (.pointer none) { sj with asleep := false } ++ []) (by simp) (by simp) (by simp) (by simp) (by rw [List.append_nil]; exact h2) ⟨⟨sp, orr, _, _, [], rfl, by simp only [hk]; exact ⟨rfl, rfl, rfl⟩, hor⟩, hml, hll⟩
        | false =>
          rw [if_neg (by rw [has]; simp)] at again
          rw [has] at g1
          by_cases hc13 : c = 13
          · subst hc13
            rw [if_pos rfl] at again
            have e13 : (((13 : UInt8).toNat : Int) == 13) = true := rfl
            simp -implicitDefEqProofs (disch := first | assumption | omega | fail) [rc27_1, rc27_0, wkB, retV, stabOk, dC, ev, fillD, pickCells, putAt, bnd, slD, List.getElem?_cons_zero, List.getElem?_cons_succ, Mem.cell, Mem.row, cells_own, cells_ro, t0, t1, t5, t6, hsv, hj8, g1, hidx, e2, hc, getL1 hc, e13]
            refine SK_stS h1 0 rfl (o := 4) (vs := [.string ⟨⟨[]⟩⟩]) (cs' := mdC { sj with line := [] } sp (.pointer none) (.pointer none) (slV orr sj.reps.length 3)) (by simp [wkB, retV, stabOk, dC, ev, fillD, pickCells, putAt, bnd, slD, List.getElem?_cons_zero, List.getElem?_cons_succ, Mem.cell, Mem.row, cells_own, cells_ro]) (by simp [wkB, retV, stabOk, dC, ev, fillD, pickCells, putAt, bnd, slD, List.getElem?_cons_zero, List.getElem?_cons_succ, Mem.cell, Mem.row, cells_own, cells_ro]) (by simp [mdC]) rfl rfl (by simp [mdC, putAt]) fun m2 h2 _ => ?_
            simp -implicitDefEqProofs (disch := first | assumption | omega | fail) [wkB, retV, stabOk, dC, ev, fillD, pickCells, putAt, bnd, slD, List.getElem?_cons_zero, List.getElem?_cons_succ, Mem.cell, Mem.row, cells_own, cells_ro, t0, t5]
            have hdl := doesF_len { sj with line := [] } sj.line
            refine c_mdoes (H := mdH it sp orr (.pointer none) (.pointer none) { sj with line := [] } ++ []) (s := { sj with line := [] }) (by rw [List.append_nil]; exact h2.self) ⟨⟨sp, orr, _, _, [], rfl, by simp only [hk]; exact ⟨rfl, rfl, rfl⟩, hor⟩, hml, by simp⟩ hk hll (by simp only; omega) fun M H2 hM hR2 => ?_
            have hM := h2.tr hM
            generalize doesF { sj with line := [] } sj.line = r at *
            have hcat := catS oj r.2 (by omega)
            simp -implicitDefEqProofs (disch := first | assumption | omega | fail) [wkB, retV, stabOk, dC, ev, fillD, pickCells, putAt, bnd, slD, List.getElem?_cons_zero, List.getElem?_cons_succ, Mem.cell, Mem.row, cells_own, cells_ro, t5, t6, hcat, w1]
            exact again _ M H2 (by simp) (by simp) (by simp) (by simp) hM hR2
          · rw [if_neg hc13] at again
            have e13 : ((c.toNat : Int) == 13) = false := by have := b8 c 13 (by omega); rw [show ((13 : Int)) = ((13 : Nat) : Int) from rfl, this]; simp; exact hc13
            have hlsz : (ByteArray.mk ⟨sj.line⟩).size = sj.line.length := rfl
            unfold pushL at again
            by_cases hlt : sj.line.length < 80
            · have hlt' : (sj.line.length : Int) < 80 := by omega
              rw [if_pos hlt] at again
              have hcat := catS sj.line [c] (by simp; omega)
              simp -implicitDefEqProofs (disch := first | assumption | omega | fail) [rc27_1, rc27_0, wkB, retV, stabOk, dC, ev, fillD, pickCells, putAt, bnd, slD, List.getElem?_cons_zero, List.getElem?_cons_succ, Mem.cell, Mem.row, cells_own, cells_ro, t0, t1, t5, t6, hsv, hj8, g1, hidx, e2, hc, getL1 hc, e13, hlsz, hlt', w1, hv1, hbs, hcat]
              refine SK_stS h1 0 rfl (o := 4) (vs := [.string ⟨⟨sj.line ++ [c]⟩⟩]) (cs' := mdC { sj with line := sj.line ++ [c] } sp (.pointer none) (.pointer none) (slV orr sj.reps.length 3)) (by simp [wkB, retV, stabOk, dC, ev, fillD, pickCells, putAt, bnd, slD, List.getElem?_cons_zero, List.getElem?_cons_succ, Mem.cell, Mem.row, cells_own, cells_ro]) (by simp [wkB, retV, stabOk, dC, ev, fillD, pickCells, putAt, bnd, slD, List.getElem?_cons_zero, List.getElem?_cons_succ, Mem.cell, Mem.row, cells_own, cells_ro]) (by simp [mdC]) rfl rfl (by simp [mdC, putAt]) fun m2 h2 _ => ?_
              simp -implicitDefEqProofs (disch := first | assumption | omega | fail) [wkB, retV, stabOk, dC, ev, fillD, pickCells, putAt, bnd, slD, List.getElem?_cons_zero, List.getElem?_cons_succ, Mem.cell, Mem.row, cells_own, cells_ro, t5, t6, w1]
              exact again _ m2 (mdH it sp orr (.pointer none) (.pointer none) { sj with line := sj.line ++ [c] } ++ []) (by simp) (by simp) (by simp [t5]) (by simp) (by rw [List.append_nil]; exact h2) ⟨⟨sp, orr, _, _, [], rfl, by simp only [hk]; exact ⟨rfl, rfl, rfl⟩, hor⟩, hml, by simp; omega⟩
            · have hlt' : ¬ (sj.line.length : Int) < 80 := by omega
              rw [if_neg hlt] at again
              simp -implicitDefEqProofs (disch := first | assumption | omega | fail) [rc27_1, rc27_0, wkB, retV, stabOk, dC, ev, fillD, pickCells, putAt, bnd, slD, List.getElem?_cons_zero, List.getElem?_cons_succ, Mem.cell, Mem.row, cells_own, cells_ro, t0, t1, t5, t6, hsv, hj8, g1, hidx, e2, hc, getL1 hc, e13, hlsz, hlt', w1]
              exact again _ m1 _ (by simp) (by simp) (by simp [t5]) (by simp) (by simpa using h1) hRj0
      | plain r =>
        have hnk : ¬ sj.tak.isNo = true := by rw [hk]; simp [Tak.isNo]
        rw [hdrop, tPutL, if_neg hnk, ← hdrop] at heq
        rw [heq] at hq
        have hsz := takPut_sz sj.tak (b.drop j)
        have hso := takPut_out sj.tak (b.drop j)
        rw [hk] at hT hszj hq hsz hso
        obtain ⟨ir, rfl, rfl, hRr⟩ := hT
        obtain ⟨v2, hv2, hr2, hb2⟩ := hrv.sl.behind (k := j) (by omega)
        rw [Nat.mul_one, ← List.map_drop] at hr2
        have hdl : (b.drop j).length = b.length - j := by simp
        rw [← hdl] at hr2
        have hrv2 : RdV V m1 1 v2 ((b.drop j).map byteV) (b.drop j).length := ⟨hr2, fun x hx => hrv.bl x (hb2 x hx)⟩
        generalize b.drop j = bj at *
        simp only [Tak.put, Tak.sz] at hszj hsz hso hq
        simp -implicitDefEqProofs (disch := first | assumption | omega | fail) [rc27_1, rc27_0, wkB, retV, stabOk, dC, ev, fillD, pickCells, putAt, bnd, slD, List.getElem?_cons_zero, List.getElem?_cons_succ, Mem.cell, Mem.row, cells_own, cells_ro, t0, t1, t5, t6, hsv, hj8, g1, hv2]
        refine c_rPut h1'.fr hRr (hrv2.mono fun _ _ hx => .inl hx) (by omega) (by omega) fun oo HT2 M hM hT2 hoo => ?_
        have h2 := h1'.un hM
        have hbs : bstr M (slV oo (rPutF r bj).2.length 1) = some (.string ⟨⟨(rPutF r bj).2⟩⟩) := SlR.txt (h2.slO 0 (k := (rPutF r bj).2.length) (sz := 1) rfl (by simp) hoo).read
        generalize rPutF r bj = q at *
        simp -implicitDefEqProofs (disch := first | assumption | omega | fail) [wkB, retV, stabOk, dC, ev, fillD, pickCells, putAt, bnd, slD, List.getElem?_cons_zero, List.getElem?_cons_succ, Mem.cell, Mem.row, cells_own, cells_ro, hbs]
        refine c_mGo h2 (k := .plain q.1) ⟨ir, rfl, rfl, hT2⟩ (by simp) hor hml hll (by simp only [Tak.sz]; omega) (by omega) fun M3 H3 h3 hR3 => ?_
        have hld := ld_len { sj with tak := .plain q.1 } q.2
        generalize ldF { sj with tak := .plain q.1 } q.2 = z at *
        have hcat := catS oj z.2 (by omega)
        simp -implicitDefEqProofs (disch := first | assumption | omega | fail) [wkB, retV, stabOk, dC, ev, fillD, pickCells, putAt, bnd, slD, List.getElem?_cons_zero, List.getElem?_cons_succ, Mem.cell, Mem.row, cells_own, cells_ro, t5, hcat]
        exact hq M3 H3 h3 hR3
      | files r =>
        have hnk : ¬ sj.tak.isNo = true := by rw [hk]; simp [Tak.isNo]
        rw [hdrop, tPutL, if_neg hnk, ← hdrop] at heq
        rw [heq] at hq
        have hsz := takPut_sz sj.tak (b.drop j)
        have hso := takPut_out sj.tak (b.drop j)
        rw [hk] at hT hszj hq hsz hso
        obtain ⟨ir, rfl, rfl, hRr⟩ := hT
        obtain ⟨v2, hv2, hr2, hb2⟩ := hrv.sl.behind (k := j) (by omega)
        rw [Nat.mul_one, ← List.map_drop] at hr2
        have hdl : (b.drop j).length = b.length - j := by simp
        rw [← hdl] at hr2
        have hrv2 : RdV V m1 1 v2 ((b.drop j).map byteV) (b.drop j).length := ⟨hr2, fun x hx => hrv.bl x (hb2 x hx)⟩
        generalize b.drop j = bj at *
        simp only [Tak.put, Tak.sz] at hszj hsz hso hq
        simp -implicitDefEqProofs (disch := first | assumption | omega | fail) [rc27_1, rc27_0, wkB, retV, stabOk, dC, ev, fillD, pickCells, putAt, bnd, slD, List.getElem?_cons_zero, List.getElem?_cons_succ, Mem.cell, Mem.row, cells_own, cells_ro, t0, t1, t5, t6, hsv, hj8, g1, hv2]
        refine c_bPut ht hE h1'.fr hRr (hrv2.mono fun _ _ hx => .inl hx) (by omega) (by omega) fun oo HT2 M hM hT2 hoo => ?_
        have h2 := h1'.un hM
        have hbs : bstr M (slV oo (bPutF r bj).2.length 1) = some (.string ⟨⟨(bPutF r bj).2⟩⟩) := SlR.txt (h2.slO 0 (k := (bPutF r bj).2.length) (sz := 1) rfl (by simp) hoo).read
        generalize bPutF r bj = q at *
        simp -implicitDefEqProofs (disch := first | assumption | omega | fail) [wkB, retV, stabOk, dC, ev, fillD, pickCells, putAt, bnd, slD, List.getElem?_cons_zero, List.getElem?_cons_succ, Mem.cell, Mem.row, cells_own, cells_ro, hbs]
        refine c_mGo h2 (k := .files q.1) ⟨ir, rfl, rfl, hT2⟩ (by simp) hor hml hll (by simp only [Tak.sz]; omega) (by omega) fun M3 H3 h3 hR3 => ?_
        have hld := ld_len { sj with tak := .files q.1 } q.2
        generalize ldF { sj with tak := .files q.1 } q.2 = z at *
        have hcat := catS oj z.2 (by omega)
        simp -implicitDefEqProofs (disch := first | assumption | omega | fail) [wkB, retV, stabOk, dC, ev, fillD, pickCells, putAt, bnd, slD, List.getElem?_cons_zero, List.getElem?_cons_succ, Mem.cell, Mem.row, cells_own, cells_ro, t5, hcat]
        exact hq M3 H3 h3 hR3
    · have hjj : j = b.length := by omega
      subst hjj
      have hj8 : ¬ ((b.length : Nat) : Int) < (b.length : Nat) := by omega
      have hsv := (hr.sep h1).sl.slen
      rw [List.drop_length, tPutL] at heq
      rw [heq] at hq
      simp -implicitDefEqProofs (disch := first | assumption | omega | fail) [rc27_1, rc27_2, wkB, retV, stabOk, dC, ev, fillD, pickCells, putAt, bnd, slD, List.getElem?_cons_zero, List.getElem?_cons_succ, Mem.cell, Mem.row, cells_own, cells_ro, t1, t5, t6, hsv, hj8]
      exact hq m1 Hj h1 hRj
end Go.Proofs.YtiapjjgmmiifmaaGreatDoor.Ab

set_option linter.unusedVariables false
set_option linter.unusedSimpArgs false
namespace Go.Proofs.YtiapjjgmmiifmaaGreatDoor.Ab
open Go Go.RowKit
set_option maxHeartbeats 4000000
set_option maxRecDepth 100000
abbrev Rep := Int × Int × Nat
def repL (r : Rep) : List UInt8 := lineL r.1 r.2.1 r.2.2
/-- A text that tells some replies, in order, and no other print. -/
inductive Sfx : List UInt8 → List Rep → Prop
  | nil : Sfx [] []
  | skip {c : UInt8} {S : List UInt8} {rs : List Rep} (hc : c ≠ 115) (h : Sfx S rs) : Sfx (c :: S) rs
  | line {r : Rep} {S : List UInt8} {rs : List Rep} (hr : ∃ x y : Nat, r.1 = x ∧ r.2.1 = y ∧ x < 4294967296 ∧ y < 4294967296 ∧ r.2.2 < 4294967296) (h : Sfx S rs) : Sfx (repL r ++ S) (r :: rs)
theorem Sfx.plain : ∀ {l : List UInt8}, (∀ c ∈ l, c ≠ 115) → Sfx l []
  | [], _ => .nil
  | c :: l, h => .skip (h c (by simp)) (Sfx.plain fun x hx => h x (by simp [hx]))
theorem Sfx.app {S T : List UInt8} {rs qs : List Rep} (h : Sfx S rs) (k : Sfx T qs) : Sfx (S ++ T) (rs ++ qs) := by
  induction h with
  | nil => exact k
  | skip hc _ ih => exact .skip hc ih
  | line hr _ ih => rw [List.append_assoc, List.cons_append]; exact .line hr ih
/-- What is told is told of the replies that are new. -/
def Tells (s : TgS) (r : TgS × List UInt8) : Prop := ∃ new, r.1.reps = s.reps ++ new ∧ Sfx r.2 new
theorem Tells.no {s : TgS} {r : TgS × List UInt8} (h1 : r.1.reps = s.reps) (h2 : ∀ c ∈ r.2, c ≠ 115) : Tells s r := ⟨[], by rw [h1]; simp, Sfx.plain h2⟩
theorem pro_no : ∀ c ∈ proL, c ≠ 115 := by decide
theorem else_no (line : List UInt8) : ∀ c ∈ elseF line, c ≠ 115 := by
  unfold elseF
  split
  · decide
  · decide
theorem does_tells (s : TgS) (line : List UInt8) : Tells s (doesF s line) := by
  unfold doesF
  split
  · rename_i w b c _
    split
    · rename_i s' hs
      refine Tells.no ?_ (fun c hc => by cases hc)
      unfold loadR at hs
      split at hs
      · split at hs
        · cases hs; rfl
        · cases hs
      · cases hs
    · split
      · rename_i r hr
        obtain ⟨x, y, rfl, hx, hy, -⟩ := sumR_lt hr
        refine ⟨[_], rfl, ?_⟩
        have h0 : Sfx [61, 62, 32] [] := Sfx.plain (by decide)
        exact Sfx.line (r := ((x : Int), (y : Int), prN ((s.mem.drop x).take y))) ⟨x, y, rfl, rfl, hx, hy, prN_lt _⟩ h0
      · exact Tells.no rfl (else_no line)
  · exact Tells.no rfl (else_no line)
theorem putC_tells (s : TgS) (c : UInt8) : Tells s (putCF s c) := by
  unfold putCF
  split
  · exact Tells.no rfl pro_no
  · split
    · exact does_tells { s with line := [] } s.line
    · exact Tells.no rfl (fun c hc => by cases hc)
theorem n00 : ∀ c ∈ ([] : List UInt8), c ≠ 115 := by decide
theorem n06 : ∀ c ∈ ([6] : List UInt8), c ≠ 115 := by decide
theorem n21 : ∀ c ∈ ([21] : List UInt8), c ≠ 115 := by decide
theorem n24 : ∀ c ∈ ([24, 24] : List UInt8), c ≠ 115 := by decide
theorem n67 : ∀ c ∈ ([67] : List UInt8), c ≠ 115 := by decide
theorem rPut_no (s : Rc) (b : List UInt8) : ∀ c ∈ (rPutF s b).2, c ≠ 115 := by
  have hf : ∀ s, ∀ c ∈ (finF s).2, c ≠ 115 := fun s => by unfold finF; split <;> first | exact n00 | exact n06 | exact n21 | exact n24 | exact n67
  have ht : ∀ s n d, ∀ c ∈ (takeF s n d).2, c ≠ 115 := fun s n d => by
    unfold takeF
    split
    · exact hf _
    · split
      · first | exact n00 | exact n06 | exact n21 | exact n24 | exact n67
      · exact hf _
  unfold rPutF
  split
  · first | exact n00 | exact n06 | exact n21 | exact n24 | exact n67
  · unfold rPut1
    split
    · first | exact n00 | exact n06 | exact n21 | exact n24 | exact n67
    · split
      · first | exact n00 | exact n06 | exact n21 | exact n24 | exact n67
      · split
        · first | exact n00 | exact n06 | exact n21 | exact n24 | exact n67
        · unfold scaF
          split
          · first | exact n00 | exact n06 | exact n21 | exact n24 | exact n67
          · split
            · first | exact n00 | exact n06 | exact n21 | exact n24 | exact n67
            · exact ht _ _ _
theorem rTick_no (s : Rc) : ∀ c ∈ (rTickF s).2, c ≠ 115 := by
  unfold rTickF
  split
  · first | exact n00 | exact n06 | exact n21 | exact n24 | exact n67
  · split
    · first | exact n00 | exact n06 | exact n21 | exact n24 | exact n67
    · split
      · first | exact n00 | exact n06 | exact n21 | exact n24 | exact n67
      · split
        · first | exact n00 | exact n06 | exact n21 | exact n24 | exact n67
        · split <;> first | exact n00 | exact n06 | exact n21 | exact n24 | exact n67
theorem takPut_nos (k : Tak) (b : List UInt8) : ∀ c ∈ (k.put b).2, c ≠ 115 := by
  cases k with
  | no => exact fun c hc => by cases hc
  | plain r => exact rPut_no r b
  | files r =>
    simp only [Tak.put]
    unfold bPutF
    split
    · exact fun c hc => by cases hc
    · exact rPut_no _ _
theorem takTick_nos (k : Tak) : ∀ c ∈ k.tick.2, c ≠ 115 := by
  cases k with
  | no => exact fun c hc => by cases hc
  | plain r => exact rTick_no r
  | files r =>
    simp only [Tak.tick]
    unfold bTickF
    split
    · exact fun c hc => by cases hc
    · exact rTick_no _
theorem ld_tells {s : TgS} {o : List UInt8} (ho : ∀ c ∈ o, c ≠ 115) : Tells s (ldF s o) := by
  unfold ldF
  split
  · exact Tells.no rfl ho
  · split
    · refine Tells.no rfl fun c hc => ?_
      rcases List.mem_append.1 hc with h | h
      · exact ho c h
      · exact pro_no c h
    · refine Tells.no rfl fun c hc => ?_
      rcases List.mem_append.1 hc with h | h
      · exact ho c h
      · rcases List.mem_cons.1 h with h | h
        · subst h; decide
        · exact pro_no c h
theorem putL_tells : ∀ (b : List UInt8) (s0 s : TgS) (out : List UInt8), Tells s0 (s, out) → Tells s0 (tPutL s out b)
  | [], s0, s, out, h => h
  | c :: r, s0, s, out, h => by
    obtain ⟨new, h1, h2⟩ := h
    rw [tPutL]
    split
    · obtain ⟨new2, k1, k2⟩ := putC_tells s c
      exact putL_tells r s0 _ _ ⟨new ++ new2, by rw [k1]; simp only at h1; rw [h1]; simp, h2.app k2⟩
    · obtain ⟨new2, k1, k2⟩ := ld_tells (s := { s with tak := (s.tak.put (c :: r)).1 }) (takPut_nos s.tak (c :: r))
      exact ⟨new ++ new2, by rw [k1]; simp only at h1 ⊢; rw [h1]; simp, h2.app k2⟩
theorem tPut_tells (s : TgS) (b : List UInt8) : Tells s (tPutF s b) := by
  unfold tPutF
  split
  · exact putL_tells b s s [] ⟨[], by simp, .nil⟩
  · exact ld_tells (s := { s with tak := (s.tak.put b).1 }) (takPut_nos s.tak b)
theorem tTick_tells (s : TgS) : Tells s (tTickF s) := by
  unfold tTickF
  split
  · exact ⟨[], by simp, .nil⟩
  · exact ld_tells (s := { s with tak := s.tak.tick.1 }) (takTick_nos s.tak)
theorem ld_sz {s : TgS} {o : List UInt8} : (ldF s o).1.tak.sz ≤ s.tak.sz ∧ (ldF s o).1.reps = s.reps ∧ (ldF s o).2.length ≤ o.length + 6 := by
  unfold ldF
  split
  · exact ⟨Nat.le_refl _, rfl, by simp⟩
  · split
    · exact ⟨by simp [Tak.sz], rfl, by simp [proL]⟩
    · exact ⟨by simp [Tak.sz], rfl, by simp [proL]⟩
theorem putL_sz : ∀ (b : List UInt8) (s : TgS) (out : List UInt8), s.tak.sz = 0 → (tPutL s out b).1.tak.sz ≤ 1024 + b.length ∧ (tPutL s out b).1.reps.length ≤ s.reps.length + b.length ∧ (tPutL s out b).2.length ≤ out.length + 200 * b.length
  | [], s, out, h => by simp [tPutL, h]
  | c :: r, s, out, h => by
    rw [tPutL]
    split
    · rename_i hn
      have hk := putCF_keep s c (Tak.isNo_iff.1 hn)
      have := putL_sz r (putCF s c).1 (out ++ (putCF s c).2) hk.1
      simp only [List.length_append, List.length_cons] at this ⊢
      omega
    · have h1 := takPut_sz s.tak (c :: r)
      have h2 := takPut_out s.tak (c :: r)
      have h3 := ld_sz (s := { s with tak := (s.tak.put (c :: r)).1 }) (o := (s.tak.put (c :: r)).2)
      simp only [List.length_append] at h3 ⊢
      rw [h] at h1
      simp only [List.length_cons] at h1 h2 ⊢
      refine ⟨by omega, by rw [h3.2.1]; omega, by omega⟩
theorem tPut_sz (s : TgS) (b : List UInt8) : (tPutF s b).1.tak.sz ≤ s.tak.sz + 1024 + b.length ∧ (tPutF s b).1.reps.length ≤ s.reps.length + b.length ∧ (tPutF s b).2.length ≤ 200 * b.length + 200 := by
  unfold tPutF
  split
  · rename_i hn
    have hz : s.tak.sz = 0 := by rw [Tak.isNo_iff.1 hn]; rfl
    have := putL_sz b s [] hz
    simp only [List.length_nil] at this
    omega
  · have h1 := takPut_sz s.tak b
    have h2 := takPut_out s.tak b
    have h3 := ld_sz (s := { s with tak := (s.tak.put b).1 }) (o := (s.tak.put b).2)
    simp only at h3
    refine ⟨by omega, by rw [h3.2.1]; omega, by omega⟩
theorem tTick_sz (s : TgS) : (tTickF s).1.tak.sz ≤ s.tak.sz ∧ (tTickF s).1.reps = s.reps ∧ (tTickF s).2.length ≤ 10 := by
  unfold tTickF
  split
  · simp
  · have h1 := takTick_sz s.tak
    have h2 := takTick_out s.tak
    have h3 := ld_sz (s := { s with tak := s.tak.tick.1 }) (o := s.tak.tick.2)
    simp only at h3
    refine ⟨by omega, h3.2.1, by omega⟩
end Go.Proofs.YtiapjjgmmiifmaaGreatDoor.Ab

set_option linter.unusedVariables false
set_option linter.unusedSimpArgs false
namespace Go.Proofs.YtiapjjgmmiifmaaGreatDoor.Ab
open Go Go.RowKit
set_option maxHeartbeats 4000000
set_option maxRecDepth 100000
theorem u8any (z : Int) : ∃ c : UInt8, IntKind.u8.wrap z = (c.toNat : Int) := by
  have h1 : IntKind.u8.wrap z = z % 256 := by
    simp only [IntKind.wrap, IntKind.bits, IntKind.signed]; simp
  refine ⟨UInt8.ofNat (z % 256).toNat, ?_⟩
  rw [h1]
  simp
  omega
theorem xor8 (a b : Int) : ∃ c : UInt8, xorK .u8 a b = (c.toNat : Int) := u8any _
theorem c_Data {w0 : World} {X : Nat → Prop} {m : Mem} {v : Value} {b : List UInt8} {long : Bool} {Q : Value → Mem → Prop} (hp : Part L0 m) (hr : RdV X m 1 v (b.map byteV) b.length) (hb : b.length ≤ 9223372036854775807)
    (hq : ∀ (d : List UInt8) x M, Old m M → m.next ≤ x → x < M.next → M.get x = .own (d.map byteV) 5 → d.length = (if long then 1024 else 128) → Q (.slice (some ⟨x, 0, none⟩) d.length 1) M) :
    AbC Tryz.prog w0 37 [v, .bool long] m Q := by
  refine AbC_fn ok37 (by simp) ?_
  obtain ⟨n, hn⟩ : ∃ n : Nat, n = if long then 1024 else 128 := ⟨_, rfl⟩
  have hn2 : n = 1024 ∨ n = 128 := by rw [hn]; cases long <;> simp
  have key : ∀ fr, fr 0 = v → fr 5 = .int .i64 (n : Int) → AbW Tryz.prog w0 rc37_3 (bodyA [.mv (.tmp 4)] Q) fr m := by
    intro fr t0 t5
    have hrr := hr.o
    simp -implicitDefEqProofs (disch := first | assumption | omega | fail) [rc37_3, wkB, retV, stabOk, dC, ev, fillD, pickCells, putAt, bnd, slD, List.getElem?_cons_zero, List.getElem?_cons_succ, Mem.cell, Mem.row, cells_own, cells_ro, t0, t5]
    refine SK_mkS (Sep.ofOld hp) (n := n) (by simp [wkB, retV, stabOk, dC, ev, fillD, pickCells, putAt, bnd, slD, List.getElem?_cons_zero, List.getElem?_cons_succ, Mem.cell, Mem.row, cells_own, cells_ro, t5]) (by simp [wkB, retV, stabOk, dC, ev, fillD, pickCells, putAt, bnd, slD, List.getElem?_cons_zero, List.getElem?_cons_succ, Mem.cell, Mem.row, cells_own, cells_ro, t5]) (by omega) (by unfold maxLen; omega) fun x m1 h1 _ _ => ?_
    simp -implicitDefEqProofs (disch := first | assumption | omega | fail) [wkB, retV, stabOk, dC, ev, fillD, pickCells, putAt, bnd, slD, List.getElem?_cons_zero, List.getElem?_cons_succ, Mem.cell, Mem.row, cells_own, cells_ro, t0, t5]
    refine LoopW_of (fun k ts m' => ∃ j, ∃ l : List UInt8, j + k = n ∧ l.length = n ∧ Sep m (fun i => i < m.next) m' [(some x, .own (l.map byteV) 5)] ∧ ts 0 = v ∧ ts 6 = .slice (some ⟨x, 0, none⟩) n 1 ∧ ts 12 = .int .i64 (n : Int) ∧ ts 13 = .int .i64 (j : Nat)) n ?_ ?_
    · exact ⟨0, List.replicate n 0, by omega, by simp, by rw [List.map_replicate]; exact h1, by simp [t0], by simp, by simp, by simp⟩
    · rintro k ts m' K ⟨j, l, hj, hl, h2, t0, t6, t12, t13⟩ hK
      have hsl := hrr.sl.slen
      by_cases hjl : j < n
      · have hj8 : (j : Int) < (n : Int) := by omega
        have w1 : IntKind.i64.wrap ((j : Int) + 1) = (j : Int) + 1 := w64 (by omega)
        by_cases hb0 : 0 < b.length
        · have hb8 : (0 : Int) < (b.length : Int) := by omega
          have r1 : dBin .rem (.int .i64 (j : Int)) (.int .i64 (b.length : Int)) = some (.int .i64 ((j % b.length : Nat) : Int)) := by
            rw [dBin_rem (by omega), Int.tmod_eq_emod_of_nonneg (by omega)]; rfl
          have q1 : dBin .quo (.int .i64 (j : Int)) (.int .i64 (b.length : Int)) = some (.int .i64 ((j / b.length : Nat) : Int)) := by
            have hle : j / b.length ≤ j := Nat.div_le_self _ _
            rw [dBin_quo (by omega), Int.tdiv_eq_ediv_of_nonneg (by omega)]
            rw [show (j : Int) / (b.length : Int) = ((j / b.length : Nat) : Int) from rfl]
            generalize j / b.length = z at *
            rw [w64 (by omega)]
          have hlt : j % b.length < b.length := Nat.mod_lt _ hb0
          generalize j % b.length = p at *
          generalize j / b.length = q at *
          obtain ⟨i, o, L, e1, e2, e3, e4, e5, e6⟩ := (hrr.sep h2).ex hb0
          have hc : L[o + p]? = some (byteV (b.getD p 0)) := (e4 p hlt).trans (byte_at hlt)
          simp only [byteV] at hc
          have hidx : sidx 1 v (.int .i64 (p : Int)) = some (.pointer (some ⟨i, o + p, none⟩)) := by rw [e1]; simpa using sidx_at (b := i) (o := o) (n := b.length) (c := 1) (j := p) (sz := 1) (k := .i64) hlt
          have hidj : sidx 1 (.slice (some ⟨x, 0, none⟩) n 1) (.int .i64 (j : Int)) = some (.pointer (some ⟨x, j, none⟩)) := by simpa using sidx_at (b := x) (o := 0) (n := n) (c := 1) (j := j) (sz := 1) (k := .i64) hjl
          generalize b.getD p 0 = c at *
          obtain ⟨c2, hc2⟩ := u8any ((q : Nat) : Int)
          obtain ⟨c3, hc3⟩ := u8any ((c.toNat : Int) + (c2.toNat : Int))
          simp -implicitDefEqProofs (disch := first | assumption | omega | fail) [rc37_1, rc37_0, wkB, retV, stabOk, dC, ev, fillD, pickCells, putAt, bnd, slD, List.getElem?_cons_zero, List.getElem?_cons_succ, Mem.cell, Mem.row, cells_own, cells_ro, t0, t6, t12, t13, hj8, hsl, hb0, hb8, r1, q1, hidx, hidj, e2, hc, getL1 hc, hc2, hc3]
          refine SK_stS h2 0 rfl (o := j) (vs := [byteV c3]) (cs' := (l.set j c3).map byteV) (by simp [wkB, retV, stabOk, dC, ev, fillD, pickCells, putAt, bnd, slD, List.getElem?_cons_zero, List.getElem?_cons_succ, Mem.cell, Mem.row, cells_own, cells_ro]) (by simp [wkB, retV, stabOk, dC, ev, fillD, pickCells, putAt, bnd, slD, List.getElem?_cons_zero, List.getElem?_cons_succ, Mem.cell, Mem.row, cells_own, cells_ro, byteV, hc3]) (by simp; omega) rfl rfl (by
            rw [List.map_set, List.set_eq_take_append_cons_drop, if_pos (by simp; omega)]
            simp [putAt]) fun m3 h3 _ => ?_
          simp -implicitDefEqProofs (disch := first | assumption | omega | fail) [wkB, retV, stabOk, dC, ev, fillD, pickCells, putAt, bnd, slD, List.getElem?_cons_zero, List.getElem?_cons_succ, Mem.cell, Mem.row, cells_own, cells_ro, t13, w1]
          exact hK (k - 1) _ _ (by omega) ⟨j + 1, l.set j c3, by omega, by simpa using hl, h3, by simp [t0], by simp [t6], by simp [t12], by simp⟩
        · have hb8 : ¬ (0 : Int) < (b.length : Int) := by omega
          simp -implicitDefEqProofs (disch := first | assumption | omega | fail) [rc37_1, rc37_0, wkB, retV, stabOk, dC, ev, fillD, pickCells, putAt, bnd, slD, List.getElem?_cons_zero, List.getElem?_cons_succ, Mem.cell, Mem.row, cells_own, cells_ro, t0, t6, t12, t13, hj8, hsl, hb0, hb8, w1]
          exact hK (k - 1) _ _ (by omega) ⟨j + 1, l, by omega, hl, h2, by simp [t0], by simp [t6], by simp [t12], by simp⟩
      · have hj8 : ¬ (j : Int) < (n : Int) := by omega
        simp -implicitDefEqProofs (disch := first | assumption | omega | fail) [rc37_1, rc37_2, wkB, retV, stabOk, dC, ev, fillD, pickCells, putAt, bnd, slD, List.getElem?_cons_zero, List.getElem?_cons_succ, Mem.cell, Mem.row, cells_own, cells_ro, t6, t12, t13, hj8]
        have := hq l x m' h2.toOld (by have := h2.nv 0 rfl; omega) (h2.lt 0 rfl) (h2.get 0 rfl) (by rw [hl, hn])
        rw [hl] at this
        exact this
  cases long with
  | true =>
    simp only [if_true] at hn
    subst hn
    simp -implicitDefEqProofs (disch := first | assumption | omega | fail) [rc37, ro37, wkB, retV, stabOk, dC, ev, fillD, pickCells, putAt, bnd, slD, List.getElem?_cons_zero, List.getElem?_cons_succ, Mem.cell, Mem.row, cells_own, cells_ro]
    exact key _ (by simp [frA_at]) (by first | rfl | simp)
  | false =>
    simp only [Bool.false_eq_true, if_false] at hn
    subst hn
    simp -implicitDefEqProofs (disch := first | assumption | omega | fail) [rc37, ro37, wkB, retV, stabOk, dC, ev, fillD, pickCells, putAt, bnd, slD, List.getElem?_cons_zero, List.getElem?_cons_succ, Mem.cell, Mem.row, cells_own, cells_ro]
    exact key _ (by simp [frA_at]) (by first | rfl | simp)
end Go.Proofs.YtiapjjgmmiifmaaGreatDoor.Ab

set_option linter.unusedVariables false
set_option linter.unusedSimpArgs false
namespace Go.Proofs.YtiapjjgmmiifmaaGreatDoor.Ab
open Go Go.RowKit
set_option maxHeartbeats 4000000
set_option maxRecDepth 100000
theorem rem8 {a b : Nat} (hb : 0 < b) : dBin .rem (.int .u8 (a : Int)) (.int .u8 (b : Int)) = some (.int .u8 ((a % b : Nat) : Int)) := by
  rw [dBin_rem (by omega), Int.tmod_eq_emod_of_nonneg (by omega)]; rfl
theorem w16i {z : Nat} (h : z < 65536) : IntKind.i64.wrap (z : Int) = (z : Int) := w64 (by omega)
theorem slW_upto' {ob : Option Nat} {n k : Nat} (hp : ob = none → n = 0) (hk : k ≤ n) : slW 1 (slV ob n 1) none (some (.int .i64 (k : Int))) = some (slV ob k 1) := by
  cases ob with
  | none =>
    have := hp rfl
    subst this
    have hk0 : k = 0 := by omega
    subst hk0
    simp [slW, dR, ev, bnd, slV]
  | some b => simp [slW, dR, ev, bnd, slV, slD, hk]
theorem own_upto {m : Mem} {x n k : Nat} {l : List UInt8} (h : m.get x = .own (l.map byteV) 5) (hl : l.length = n) (hk : k ≤ n) : SlR m 1 (.slice (some ⟨x, 0, none⟩) k 1) ((l.take k).map byteV) (l.take k).length := by
  have hk2 : (l.take k).length = k := by simp; omega
  refine ⟨by simp, .inr ⟨x, 0, l.map byteV, by rw [hk2], by rw [h]; rfl, by simp; exact Nat.min_le_right _ _, ?_⟩⟩
  rw [hk2, Nat.mul_one, List.drop_zero, List.map_take]
theorem c_aPut {w0 : World} {X : Nat → Prop} {m : Mem} {v : Value} {b : List UInt8} {op no at_ : Nat} {by_ : Int} {next : UInt8} {crc : Bool} {Q : Value → Mem → Prop} (hp : Part L0 m) (hr : RdV X m 1 v (b.map byteV) b.length) (hb : b.length ≤ 9223372036854775807) (hno : no < 256) (hat : at_ < 65536)
    (hq : ∀ u (l : List UInt8) M, Old m M → SlR M 1 u (l.map byteV) l.length → (∀ i, blk u = some i → (m.next ≤ i ∧ i < M.next) ∨ blk v = some i) → l.length ≤ b.length + 1100 → (op = 4 → no = 0 → ∃ d : List UInt8, d.length = 128 ∧ l = blkL next d crc) → Q u M) :
    AbC Tryz.prog w0 20 [.agg ⟨[.int .u8 (op : Int), .int .u8 (no : Int), v, .int .u16 (at_ : Int), .int .u8 by_]⟩, .int .u8 (next.toNat : Int), .bool crc] m Q := by
  refine AbC_fn ok20 (by simp) ?_
  have hrr := hr.o
  have hov : cellsV v = [v] ∧ oneC v = true := by
    rcases hr.sl.2 with ⟨_, rfl | rfl⟩ | ⟨i, o, L, rfl, _⟩ <;> exact ⟨rfl, rfl⟩
  have r8 : ∀ k : Nat, dBin .rem (.int .u8 (k : Int)) (.int .u8 8) = some (.int .u8 ((k % 8 : Nat) : Int)) := fun k => rem8 (b := 8) (by omega)
  have r5 : dBin .rem (.int .u8 (no : Int)) (.int .u8 5) = some (.int .u8 ((no % 5 : Nat) : Int)) := rem8 (b := 5) (by omega)
  have r16 : dBin .rem (.int .u8 (op : Int)) (.int .u8 16) = some (.int .u8 ((op % 16 : Nat) : Int)) := rem8 (b := 16) (by omega)
  have ro := r8 op
  have rn := r8 no
  have hop4 : op = 4 → op % 8 = 4 ∧ op % 16 = 4 := fun h => by subst h; decide
  have hno0 : no = 0 → no % 8 = 0 ∧ no % 5 = 0 := fun h => by subst h; decide
  have l5 : no % 5 < 5 := Nat.mod_lt _ (by omega)
  generalize op % 8 = r at *
  generalize op % 16 = q16 at *
  generalize no % 8 = q8 at *
  generalize no % 5 = j5 at *
  simp -implicitDefEqProofs (disch := first | assumption | omega | fail) [rc20, ro20, wkB, retV, stabOk, dC, ev, fillD, pickCells, putAt, bnd, slD, List.getElem?_cons_zero, List.getElem?_cons_succ, Mem.cell, Mem.row, cells_own, cells_ro]
  refine SK_bxS (Sep.ofOld hp) (cs := [.int .u8 (op : Int), .int .u8 (no : Int), v, .int .u16 (at_ : Int), .int .u8 by_]) (by simp [wkB, retV, stabOk, dC, ev, fillD, pickCells, putAt, bnd, slD, List.getElem?_cons_zero, List.getElem?_cons_succ, Mem.cell, Mem.row, cells_own, cells_ro]) fun x0 m1 h1 _ _ => ?_
  have g1 := h1.get 0 rfl
  simp -implicitDefEqProofs (disch := first | assumption | omega | fail) [wkB, retV, stabOk, dC, ev, fillD, pickCells, putAt, bnd, slD, List.getElem?_cons_zero, List.getElem?_cons_succ, Mem.cell, Mem.row, cells_own, cells_ro, g1, ro]
  by_cases e0 : r = 0
  · have f0 : ((r : Int) == 0) = true := by rw [e0]; rfl
    simp -implicitDefEqProofs (disch := first | assumption | omega | fail) [wkB, retV, stabOk, dC, ev, fillD, pickCells, putAt, bnd, slD, List.getElem?_cons_zero, List.getElem?_cons_succ, Mem.cell, Mem.row, cells_own, cells_ro, f0, g1]
    refine SK_bslS h1 (cs := ([4, 24, 6, 21, 1] : List UInt8).map byteV) (by simp [fillD, pickCells, wkB, retV, stabOk, dC, ev, fillD, pickCells, putAt, bnd, slD, List.getElem?_cons_zero, List.getElem?_cons_succ, Mem.cell, Mem.row, cells_own, cells_ro, byteV]) rfl fun x1 m2 h2 _ _ => ?_
    have g2 := h2.get 1 rfl
    have g20 := h2.get 0 rfl
    have hidx : sidx 1 (.slice (some ⟨x1, 0, none⟩) 5 1) (.int .u8 (j5 : Int)) = some (.pointer (some ⟨x1, j5, none⟩)) := by simpa using sidx_at (b := x1) (o := 0) (n := 5) (c := 1) (j := j5) (sz := 1) (k := .u8) l5
    have hc := byte_at (b := [4, 24, 6, 21, 1]) (k := j5) l5
    simp only [byteV] at hc
    obtain ⟨C, hC⟩ : ∃ C, ([4, 24, 6, 21, 1] : List UInt8).map byteV = C := ⟨_, rfl⟩
    have hc : C[j5]? = some (.int .u8 ((([4, 24, 6, 21, 1] : List UInt8).getD j5 0).toNat : Int)) := by rw [← hC]; exact hc
    rw [hC] at g20
    generalize ([4, 24, 6, 21, 1] : List UInt8).getD j5 0 = c at *
    simp -implicitDefEqProofs (disch := first | assumption | omega | fail) [wkB, retV, stabOk, dC, ev, fillD, pickCells, putAt, bnd, slD, List.getElem?_cons_zero, List.getElem?_cons_succ, Mem.cell, Mem.row, cells_own, cells_ro, g2, r5, hidx, g20, hc, getL1 hc]
    refine SK_bslS h2 (cs := ([c] : List UInt8).map byteV) (by simp [fillD, pickCells, wkB, retV, stabOk, dC, ev, fillD, pickCells, putAt, bnd, slD, List.getElem?_cons_zero, List.getElem?_cons_succ, Mem.cell, Mem.row, cells_own, cells_ro, byteV, g20, hc, getL1 hc]) rfl fun x3 m3 h3 _ _ => ?_
    simp -implicitDefEqProofs (disch := first | assumption | omega | fail) [wkB, retV, stabOk, dC, ev, fillD, pickCells, putAt, bnd, slD, List.getElem?_cons_zero, List.getElem?_cons_succ, Mem.cell, Mem.row, cells_own, cells_ro]
    have := hq (.slice (some ⟨x3, 0, none⟩) 1 1) [c] m3 h3.toOld (h3.slO 0 (k := 1) (sz := 1) (ob := some x3) rfl rfl (fun e => by cases e)).read (fun i hi => by cases hi; exact .inl ⟨by have := h3.nv 0 rfl; omega, h3.lt 0 rfl⟩) (by simp) (fun h _ => by have := (hop4 h).1; omega)
    exact this
  · have f0 : ((r : Int) == 0) = false := beq_eq_false_iff_ne.2 (by omega)
    by_cases e1 : r = 1
    · have f1 : ((r : Int) == 1) = true := by rw [e1]; rfl
      simp -implicitDefEqProofs (disch := first | assumption | omega | fail) [wkB, retV, stabOk, dC, ev, fillD, pickCells, putAt, bnd, slD, List.getElem?_cons_zero, List.getElem?_cons_succ, Mem.cell, Mem.row, cells_own, cells_ro, f0, f1, g1]
      refine SK_bslS h1 (cs := ([24, 24] : List UInt8).map byteV) (by simp [fillD, pickCells, wkB, retV, stabOk, dC, ev, fillD, pickCells, putAt, bnd, slD, List.getElem?_cons_zero, List.getElem?_cons_succ, Mem.cell, Mem.row, cells_own, cells_ro, byteV]) rfl fun x1 m2 h2 _ _ => ?_
      simp -implicitDefEqProofs (disch := first | assumption | omega | fail) [wkB, retV, stabOk, dC, ev, fillD, pickCells, putAt, bnd, slD, List.getElem?_cons_zero, List.getElem?_cons_succ, Mem.cell, Mem.row, cells_own, cells_ro]
      exact hq (.slice (some ⟨x1, 0, none⟩) 2 1) [24, 24] m2 h2.toOld (h2.slO 0 (k := 2) (sz := 1) (ob := some x1) rfl rfl (fun e => by cases e)).read (fun i hi => by cases hi; exact .inl ⟨by have := h2.nv 0 rfl; omega, h2.lt 0 rfl⟩) (by simp) (fun h _ => by have := (hop4 h).1; omega)
    · have f1 : ((r : Int) == 1) = false := beq_eq_false_iff_ne.2 (by omega)
      by_cases e2 : r = 2
      · have f2 : ((r : Int) == 2) = true := by rw [e2]; rfl
        simp -implicitDefEqProofs (disch := first | assumption | omega | fail) [wkB, retV, stabOk, dC, ev, fillD, pickCells, putAt, bnd, slD, List.getElem?_cons_zero, List.getElem?_cons_succ, Mem.cell, Mem.row, cells_own, cells_ro, f0, f1, f2, g1]
        exact hq v b m1 h1.toOld (hrr.sep h1).sl (fun i hi => .inr hi) (by omega) (fun h _ => by have := (hop4 h).1; omega)
      · have f2 : ((r : Int) == 2) = false := beq_eq_false_iff_ne.2 (by omega)
        /- the last cut -/
        have key1 : ∀ fr M (l : List UInt8) x, Sep m (fun i => i < m.next) M ((some x, .own (l.map byteV) 5) :: [(some x0, .own [.int .u8 (op : Int), .int .u8 (no : Int), v, .int .u16 (at_ : Int), .int .u8 by_] 53)]) → fr 3 = .pointer (some ⟨x0, 0, none⟩) → fr 8 = .slice (some ⟨x, 0, none⟩) l.length 1 → 1 ≤ l.length → l.length ≤ 1100 → (op = 4 → no = 0 → ∃ d : List UInt8, d.length = 128 ∧ l = blkL next d crc) →
            AbW Tryz.prog w0 rc20_1 (bodyA [.mv (.tmp 6)] Q) fr M := by
          intro fr M l x hM t3 t8 hl1 hl2 h4
          have gM := hM.get 1 rfl
          have wa : IntKind.i64.wrap (at_ : Int) = (at_ : Int) := w16i hat
          by_cases e12 : q16 = 12
          · have f12 : ((q16 : Int) == 12) = true := by rw [e12]; rfl
            have rl : dBin .rem (.int .i64 (at_ : Int)) (.int .i64 (l.length : Int)) = some (.int .i64 ((at_ % l.length : Nat) : Int)) := by
              rw [dBin_rem (by omega), Int.tmod_eq_emod_of_nonneg (by omega)]; rfl
            have hlt : at_ % l.length < l.length := Nat.mod_lt _ hl1
            have hsu := slW_upto' (ob := some x) (n := l.length) (k := at_ % l.length) (by intro e; cases e) (by omega)
            generalize at_ % l.length = k at *
            have hsu : slW 1 (.slice (some ⟨x, 0, none⟩) l.length 1) none (some (.int .i64 (k : Int))) = some (.slice (some ⟨x, 0, none⟩) k 1) := hsu
            simp -implicitDefEqProofs (disch := first | assumption | omega | fail) [rc20_1, rc20_0, wkB, retV, stabOk, dC, ev, fillD, pickCells, putAt, bnd, slD, List.getElem?_cons_zero, List.getElem?_cons_succ, Mem.cell, Mem.row, cells_own, cells_ro, t3, t8, gM, r16, f12, wa, rl, hsu]
            have hu := own_upto (hM.get 0 rfl) rfl (show k ≤ l.length by omega)
            exact hq (.slice (some ⟨x, 0, none⟩) k 1) (l.take k) M hM.toOld hu (fun i hi => by cases hi; exact .inl ⟨by have := hM.nv 0 rfl; omega, hM.lt 0 rfl⟩) (by simp; omega) (fun h => absurd e12 (by have := (hop4 h).2; omega))
          · have f12 : ((q16 : Int) == 12) = false := beq_eq_false_iff_ne.2 (by omega)
            simp -implicitDefEqProofs (disch := first | assumption | omega | fail) [rc20_1, rc20_0, wkB, retV, stabOk, dC, ev, fillD, pickCells, putAt, bnd, slD, List.getElem?_cons_zero, List.getElem?_cons_succ, Mem.cell, Mem.row, cells_own, cells_ro, t3, t8, gM, r16, f12]
            exact hq (.slice (some ⟨x, 0, none⟩) l.length 1) l M hM.toOld (hM.slO 0 (k := l.length) (sz := 1) (ob := some x) rfl (by simp) (fun e => by cases e)).read (fun i hi => by cases hi; exact .inl ⟨by have := hM.nv 0 rfl; omega, hM.lt 0 rfl⟩) (by omega) h4
        /- the block -/
        have key2 : ∀ fr (n : UInt8), fr 3 = .pointer (some ⟨x0, 0, none⟩) → fr 2 = .bool crc → fr 7 = .int .u8 (n.toNat : Int) → (op = 4 → no = 0 → n = next) → AbW Tryz.prog w0 rc20_2 (bodyA [.mv (.tmp 6)] Q) fr m1 := by
          intro fr n t3 t2 t7 hn4
          obtain ⟨lg, hlg⟩ : ∃ lg : Bool, ((j5 : Int) == 4) = lg := ⟨_, rfl⟩
          have hlg0 : no = 0 → lg = false := fun h => by rw [← hlg, (hno0 h).2]; rfl
          simp -implicitDefEqProofs (disch := first | assumption | omega | fail) [rc20_2, wkB, retV, stabOk, dC, ev, fillD, pickCells, putAt, bnd, slD, List.getElem?_cons_zero, List.getElem?_cons_succ, Mem.cell, Mem.row, cells_own, cells_ro, t3, t2, t7, g1, r5, hlg]
          refine c_Data h1.pt (hrr.sep h1) hb fun d x M o1 hx1 hx2 hx3 hdl => ?_
          have h2 := h1.new (ob := some x) (E := .own (d.map byteV) 5) o1 (fun i hi => by cases hi; exact ⟨hx1, hx2, hx3⟩)
          have hdl2 : d.length = 128 ∨ d.length = 1024 := by rw [hdl]; cases lg <;> simp
          have hrd : RdV (fun i => i < M.next) M 1 (.slice (some ⟨x, 0, none⟩) d.length 1) (d.map byteV) d.length := h2.rd 0 (ob := some x) rfl (by simp) (fun e => by cases e) (fun i hi => by cases hi; exact hx2)
          simp -implicitDefEqProofs (disch := first | assumption | omega | fail) [wkB, retV, stabOk, dC, ev, fillD, pickCells, putAt, bnd, slD, List.getElem?_cons_zero, List.getElem?_cons_succ, Mem.cell, Mem.row, cells_own, cells_ro, t2]
          refine c_bMake h2.pt hrd hdl2 fun M3 y o3 hy1 hy2 hy3 => ?_
          have h3 := (h2.new (ob := some y) (E := .own ((blkL n d crc).map byteV) 5) o3 (fun i hi => by cases hi; exact ⟨hy1, hy2, hy3⟩)).del 1
          have hbl := blk_len n d crc
          have htr : 1 ≤ trN crc ∧ trN crc ≤ 2 := by cases crc <;> decide
          have h44 : op = 4 → no = 0 → ∃ d' : List UInt8, d'.length = 128 ∧ blkL n d crc = blkL next d' crc := fun h h' => ⟨d, by rw [hdl, hlg0 h']; rfl, by rw [hn4 h h']⟩
          clear hdl
          generalize blkL n d crc = l at *
          have hlb : 1 ≤ l.length ∧ l.length ≤ 1100 := by clear h44; omega
          have g3 := h3.get 1 rfl
          have wa : IntKind.i64.wrap (at_ : Int) = (at_ : Int) := w16i hat
          by_cases e3 : r = 3
          · have f3 : ((r : Int) == 3) = true := by rw [e3]; rfl
            have rl : dBin .rem (.int .i64 (at_ : Int)) (.int .i64 (l.length : Int)) = some (.int .i64 ((at_ % l.length : Nat) : Int)) := by
              rw [dBin_rem (by omega), Int.tmod_eq_emod_of_nonneg (by omega)]; rfl
            have hlt : at_ % l.length < l.length := Nat.mod_lt _ (by omega)
            generalize at_ % l.length = k at *
            have hidx : sidx 1 (.slice (some ⟨y, 0, none⟩) l.length 1) (.int .i64 (k : Int)) = some (.pointer (some ⟨y, k, none⟩)) := by simpa using sidx_at (b := y) (o := 0) (n := l.length) (c := 1) (j := k) (sz := 1) (k := .i64) hlt
            have hc := byte_at (b := l) (k := k) hlt
            simp only [byteV] at hc
            generalize l.getD k 0 = c at *
            obtain ⟨c2, hc2⟩ := xor8 (c.toNat : Int) by_
            have g30 := h3.get 0 rfl
            obtain ⟨L, hL⟩ : ∃ L, l.map byteV = L := ⟨_, rfl⟩
            rw [hL] at g30
            have hc : L[k]? = some (.int .u8 (c.toNat : Int)) := by rw [← hL]; exact hc
            simp -implicitDefEqProofs (disch := first | assumption | omega | fail) [wkB, retV, stabOk, dC, ev, fillD, pickCells, putAt, bnd, slD, List.getElem?_cons_zero, List.getElem?_cons_succ, Mem.cell, Mem.row, cells_own, cells_ro, t3, g3, ro, f3, wa, rl, hidx, g30, hc, getL1 hc, hc2]
            refine SK_stS h3 0 rfl (o := k) (vs := [byteV c2]) (cs' := (l.set k c2).map byteV) (by simp [wkB, retV, stabOk, dC, ev, fillD, pickCells, putAt, bnd, slD, List.getElem?_cons_zero, List.getElem?_cons_succ, Mem.cell, Mem.row, cells_own, cells_ro]) (by simp [wkB, retV, stabOk, dC, ev, fillD, pickCells, putAt, bnd, slD, List.getElem?_cons_zero, List.getElem?_cons_succ, Mem.cell, Mem.row, cells_own, cells_ro, byteV, hc2]) (by simp; omega) rfl rfl (by
              rw [List.map_set, List.set_eq_take_append_cons_drop, if_pos (by simp; omega)]
              simp [putAt]) fun m4 h4 _ => ?_
            simp -implicitDefEqProofs (disch := first | assumption | omega | fail) [wkB, retV, stabOk, dC, ev, fillD, pickCells, putAt, bnd, slD, List.getElem?_cons_zero, List.getElem?_cons_succ, Mem.cell, Mem.row, cells_own, cells_ro]
            exact key1 _ m4 (l.set k c2) y h4 (by simp [t3]) (by simp) (by rw [List.length_set]; exact hlb.1) (by rw [List.length_set]; exact hlb.2) (fun h => absurd e3 (by have := (hop4 h).1; omega))
          · have f3 : ((r : Int) == 3) = false := beq_eq_false_iff_ne.2 (by omega)
            simp -implicitDefEqProofs (disch := first | assumption | omega | fail) [wkB, retV, stabOk, dC, ev, fillD, pickCells, putAt, bnd, slD, List.getElem?_cons_zero, List.getElem?_cons_succ, Mem.cell, Mem.row, cells_own, cells_ro, t3, g3, ro, f3]
            exact key1 _ M3 l y h3 (by simp [t3]) (by simp) hlb.1 hlb.2 h44
        /- its number -/
        have key3 : ∀ fr (n : UInt8), fr 3 = .pointer (some ⟨x0, 0, none⟩) → fr 2 = .bool crc → fr 7 = .int .u8 (n.toNat : Int) → (op = 4 → no = 0 → n = next) → AbW Tryz.prog w0 rc20_3 (bodyA [.mv (.tmp 6)] Q) fr m1 := by
          intro fr n t3 t2 t7 hn4
          by_cases e250 : no = 250
          · have f250 : ((no : Int) == 250) = true := by rw [e250]; rfl
            obtain ⟨c, hc⟩ := u8any (at_ : Int)
            simp -implicitDefEqProofs (disch := first | assumption | omega | fail) [rc20_3, wkB, retV, stabOk, dC, ev, fillD, pickCells, putAt, bnd, slD, List.getElem?_cons_zero, List.getElem?_cons_succ, Mem.cell, Mem.row, cells_own, cells_ro, t3, g1, f250, hc]
            exact key2 _ c (by simp [t3]) (by simp [t2]) (by simp) (fun _ h => by omega)
          · have f250 : ((no : Int) == 250) = false := beq_eq_false_iff_ne.2 (by omega)
            simp -implicitDefEqProofs (disch := first | assumption | omega | fail) [rc20_3, wkB, retV, stabOk, dC, ev, fillD, pickCells, putAt, bnd, slD, List.getElem?_cons_zero, List.getElem?_cons_succ, Mem.cell, Mem.row, cells_own, cells_ro, t3, g1, f250]
            exact key2 _ n (by simp [t3]) (by simp [t2]) (by simp [t7]) hn4
        have s8 := sub8 next
        by_cases e7 : q8 = 7
        · have f7 : ((q8 : Int) == 7) = true := by rw [e7]; rfl
          simp -implicitDefEqProofs (disch := first | assumption | omega | fail) [wkB, retV, stabOk, dC, ev, fillD, pickCells, putAt, bnd, slD, List.getElem?_cons_zero, List.getElem?_cons_succ, Mem.cell, Mem.row, cells_own, cells_ro, f0, f1, f2, rc20_4, g1, rn, f7, s8]
          exact key3 _ (next - 1) (by simp) (by simp [frA_at]) (by simp) (fun _ h => by have := (hno0 h).1; omega)
        · have f7 : ((q8 : Int) == 7) = false := beq_eq_false_iff_ne.2 (by omega)
          simp -implicitDefEqProofs (disch := first | assumption | omega | fail) [wkB, retV, stabOk, dC, ev, fillD, pickCells, putAt, bnd, slD, List.getElem?_cons_zero, List.getElem?_cons_succ, Mem.cell, Mem.row, cells_own, cells_ro, f0, f1, f2, rc20_4, g1, rn, f7]
          exact key3 _ next (by simp) (by simp [frA_at]) (by simp) (fun _ _ => rfl)
end Go.Proofs.YtiapjjgmmiifmaaGreatDoor.Ab
