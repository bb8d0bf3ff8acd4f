/- What is turned twice is as it was. -/
import Derived.Test.YtebgffkiahmhfaaAbw8
set_option linter.unusedVariables false
set_option linter.unusedSimpArgs false
namespace Go.Proofs.Ytebgffkiahmhfaa.Ab
open Go Go.RowKit
set_option maxHeartbeats 2000000

theorem xorK_eq (a b : Int) : xorK .u8 a b = ((BitVec.ofInt 8 a ^^^ BitVec.ofInt 8 b).toNat : Int) := by
  unfold xorK
  rw [IntKind.wrap_u8]
  have : ((BitVec.ofInt 8 a ^^^ BitVec.ofInt 8 b).toNat : Int) < 256 := by
    have := (BitVec.ofInt 8 a ^^^ BitVec.ofInt 8 b).isLt
    omega
  show ((BitVec.ofInt 8 a ^^^ BitVec.ofInt 8 b).toNat : Int) % 256 = _
  omega
theorem ofInt_toNat (x : BitVec 8) : BitVec.ofInt 8 (x.toNat : Int) = x := by
  rw [BitVec.ofInt_natCast, BitVec.ofNat_toNat, BitVec.setWidth_eq]
theorem toNat_ofInt_B {c : Int} (h : isB c) : ((BitVec.ofInt 8 c).toNat : Int) = c := by
  obtain ⟨h1, h2⟩ := h
  rw [BitVec.toNat_ofInt]
  omega
theorem xor_back {c : Int} (t : Int) (h : isB c) : xorK .u8 (xorK .u8 c t) t = c := by
  rw [xorK_eq, xorK_eq, ofInt_toNat, BitVec.xor_assoc, BitVec.xor_self, BitVec.xor_zero, toNat_ofInt_B h]
theorem xor_same {c t : Int} (h : isB c) (ht : isB t) : xorK .u8 c t = c ↔ t = 0 := by
  constructor
  · intro e
    rw [xorK_eq] at e
    have e2 : BitVec.ofInt 8 c ^^^ BitVec.ofInt 8 t = BitVec.ofInt 8 c := by
      have := congrArg (BitVec.ofInt 8) e
      rwa [ofInt_toNat] at this
    have e3 : BitVec.ofInt 8 t = 0#8 := by
      have := congrArg (fun x => BitVec.ofInt 8 c ^^^ x) e2
      simp only [← BitVec.xor_assoc, BitVec.xor_self, BitVec.zero_xor] at this
      exact this
    have := toNat_ofInt_B ht
    rw [e3] at this
    simpa using this.symm
  · rintro rfl
    exact xor_zero h

def turnA (t : Int) : Ac := ⟨false, t, false, 0⟩
def tnAt (ts : List Int) (k : Nat) : Int := ts.getD k 0
theorem actAt_turn (ts : List Int) (k : Nat) : actAt (ts.map turnA) k = turnA (tnAt ts k) := by
  unfold actAt tnAt
  rw [List.getD_eq_getElem?_getD, List.getD_eq_getElem?_getD, List.getElem?_map]
  cases ts[k]? <;> rfl
def tM (ts : List Int) : Nat → List Int → List Mk
  | _, [] => []
  | n, c :: cs => ⟨xorK .u8 c (tnAt ts n), n, tnAt ts n == 0⟩ :: tM ts (n + 1) cs
theorem runM_turn (ts : List Int) : ∀ (n : Nat) (bs : List Int), runM (ts.map turnA) n bs = tM ts n bs
  | _, [] => rfl
  | n, c :: cs => by simp [runM, stepM, actAt_turn, turnA, tM, runM_turn ts (n + 1) cs]
theorem tM_len (ts : List Int) : ∀ (n : Nat) (bs : List Int), (tM ts n bs).length = bs.length
  | _, [] => rfl
  | n, c :: cs => by simp [tM, tM_len ts (n + 1) cs]
theorem tM_back (ts : List Int) : ∀ (n : Nat) (bs : List Int), (∀ c ∈ bs, isB c) → (tM ts n ((tM ts n bs).map Mk.byte)).map Mk.byte = bs
  | _, [], _ => rfl
  | n, c :: cs, h => by
    have := tM_back ts (n + 1) cs fun x hx => h x (by simp [hx])
    simp [tM, xor_back _ (h c (by simp))] at this ⊢
    exact this
theorem tM_B (ts : List Int) : ∀ (n : Nat) (bs : List Int), ∀ c ∈ (tM ts n bs).map Mk.byte, isB c
  | _, [], c, h => by simp [tM] at h
  | n, b :: bs, c, h => by
    simp [tM] at h
    rcases h with rfl | h
    · exact xor_isB _ _
    · exact tM_B ts (n + 1) bs c (by simpa using h)
def allZ (ts : List Int) : Nat → List Int → Bool
  | _, [] => true
  | n, _ :: cs => (tnAt ts n == 0) && allZ ts (n + 1) cs
theorem tM_mid {ts : List Int} (ht : ∀ t ∈ ts, isB t) : ∀ (n : Nat) (bs : List Int), (∀ c ∈ bs, isB c) → ((tM ts n bs).map Mk.byte = bs ↔ allZ ts n bs = true)
  | _, [], _ => by simp [tM, allZ]
  | n, c :: cs, h => by
    have ih := tM_mid ht (n + 1) cs fun x hx => h x (by simp [hx])
    have h0 : isB (tnAt ts n) := by
      unfold tnAt
      rw [List.getD_eq_getElem?_getD]
      cases hx : ts[n]? with
      | none => exact ⟨by simp, by simp⟩
      | some t => exact ht t (List.mem_of_getElem? hx)
    simp only [tM, List.map_cons, List.cons.injEq, allZ, Bool.and_eq_true, beq_iff_eq, ih, xor_same (h c (by simp)) h0]
def orgs : Nat → List Mk → Bool
  | _, [] => true
  | k, x :: xs => (x.own && x.org == (k : Int)) && orgs (k + 1) xs
theorem orgs_tM (ts : List Int) : ∀ (n : Nat) (bs : List Int), orgs n (tM ts n bs) = allZ ts n bs
  | _, [] => rfl
  | n, c :: cs => by simp [tM, orgs, allZ, orgs_tM ts (n + 1) cs]
theorem orgs_iff : ∀ (l : List Mk) (n : Nat), orgs n l = true ↔ ∀ (k : Nat) (x : Mk), l[k]? = some x → (x.own && x.org == ((n + k : Nat) : Int)) = true
  | [], n => by simp [orgs]
  | x :: xs, n => by
    have ih := orgs_iff xs (n + 1)
    simp only [orgs, Bool.and_eq_true (b := orgs (n + 1) xs), ih]
    constructor
    · rintro ⟨h1, h2⟩ k y hk
      cases k with
      | zero => simp at hk; subst hk; simpa using h1
      | succ k =>
        have := h2 k y (by simpa using hk)
        rwa [show n + 1 + k = n + (k + 1) from by omega] at this
    · intro h
      refine ⟨by simpa using h 0 x (by simp), fun k y hk => ?_⟩
      have := h (k + 1) y (by simpa using hk)
      rwa [show n + (k + 1) = n + 1 + k from by omega] at this
theorem clean_tM (ts : List Int) (bs : List Int) : cleanB (tM ts 0 bs) bs.length = allZ ts 0 bs := by
  rw [← orgs_tM]
  simp only [cleanB, tM_len, beq_self_eq_true, Bool.and_true]
  rw [Bool.eq_iff_iff, orgs_iff, List.all_eq_true]
  constructor
  · intro h k x hx
    have hk := (List.getElem?_eq_some_iff.1 hx).1
    rw [tM_len] at hk
    have := h k (by simpa using hk)
    rw [hx] at this
    simpa using this
  · intro h k hk
    split
    · rename_i x hx
      simpa using h k x hx
    · rfl
theorem clean_mid {ts : List Int} {bs : List Int} (ht : ∀ t ∈ ts, isB t) (hB : ∀ c ∈ bs, isB c) : cleanB (tM ts 0 bs) bs.length = (((tM ts 0 bs).map Mk.byte).map toB == bs.map toB) := by
  rw [clean_tM, Bool.eq_iff_iff, ← tM_mid ht 0 bs hB, beq_iff_eq]
  exact ⟨fun h => by rw [h], fun h => map_toB_inj (tM_B ts 0 bs) hB h⟩

theorem l_Back {w0 : World} {m : Mem} {v1 v2 : Value} {bs tn : List Int} (h1 : SlR m 1 v1 (bs.flatMap u8c) bs.length) (b1 : ∀ b, blk v1 = some b → b < m.next) (h2 : SlR m 1 v2 (tn.flatMap u8c) tn.length) (b2 : ∀ b, blk v2 = some b → b < m.next) (hB : ∀ c ∈ bs, isB c) (hT : ∀ c ∈ tn, isB c) (hl1 : bs.length ≤ 1048576) (hl2 : tn.length ≤ 1048576) :
    AbC Try.prog w0 8 [v1, v2] m fun v _ => v = .bool true := by
  refine AbC_fn ok8 (by simp) ?_
  simp -implicitDefEqProofs (disch := first | assumption | (simp only [Mem.push_nxt, Mem.set_nxt, Mem.kill_nxt]; done) | (simp only [Mem.push_nxt, Mem.set_nxt, Mem.kill_nxt]; omega) | omega | fail) [rc8, ro8, AbW_skip, AbW_run, AbW_seq, AbW_condR, condR_true, condR_false, AbW_block, AbW_loop, AbW_exit, AbW_ret, thenA_normal, thenA_exit, thenA_ret, inBlockA_normal, inBlockA_exit, inBlockA_ret, bodyA_normalR, bodyA_retR, retV, RS_nil, RS_consG, guardR_true, guardR_false, contK_at, SK_rr, bindR_some, SK_a, SK_cc, callR_some, SK_al, SK_bx, wantD_none, wantD_some, wantB_bool, wantB_undef, stabOk, dR_lenl, dR_ia, dR_b2s, slen_sl, dR.eq_1, dR.eq_2, dR.eq_3, dR.eq_4, dR.eq_5, dR.eq_6, dR.eq_7, dR.eq_8, dR.eq_9, dR.eq_10, dR.eq_11, dR.eq_12, dR.eq_13, dR.eq_14, dR.eq_16, dR.eq_17, dR.eq_18, dR.eq_19, dR.eq_21, dR.eq_22, dR.eq_24, dR.eq_25, dR.eq_26, dR.eq_27, dR.eq_28, dR.eq_29, dR.eq_30, dC, ev, frA_at, fillD, pickCells, cellsV_agg, cellsV_bool, cellsV_int, cellsV_str, cellsV_ptr, cellsV_sl, cellsV_slV, cellsV_map, cellsV_iface, cellsV_nili, cellsV_func, cellsV_nilf, lenV_sl, lenV_str, oneC_slV, putAt, bnd, slD, List.getElem?_cons_zero, List.getElem?_cons_succ, dR_sl, Mem.cell, Mem.row, cells_own, cells_ro, natNe, Mem.push_get, Mem.set_get, Mem.kill_other, Mem.push_nxt, Mem.set_nxt, Mem.kill_nxt]
  refine c_awake fun m1 n1 k1 => ?_
  have hv2 := h2.keep (m' := m1) fun b hb => k1 b (b2 b hb)
  simp -implicitDefEqProofs (disch := first | assumption | (simp only [Mem.push_nxt, Mem.set_nxt, Mem.kill_nxt]; done) | (simp only [Mem.push_nxt, Mem.set_nxt, Mem.kill_nxt]; omega) | omega | fail) [rc8_3, AbW_skip, AbW_run, AbW_seq, AbW_condR, condR_true, condR_false, AbW_block, AbW_loop, AbW_exit, AbW_ret, thenA_normal, thenA_exit, thenA_ret, inBlockA_normal, inBlockA_exit, inBlockA_ret, bodyA_normalR, bodyA_retR, retV, RS_nil, RS_consG, guardR_true, guardR_false, contK_at, SK_rr, bindR_some, SK_a, SK_cc, callR_some, SK_al, SK_bx, wantD_none, wantD_some, wantB_bool, wantB_undef, stabOk, dR_lenl, dR_ia, dR_b2s, slen_sl, dR.eq_1, dR.eq_2, dR.eq_3, dR.eq_4, dR.eq_5, dR.eq_6, dR.eq_7, dR.eq_8, dR.eq_9, dR.eq_10, dR.eq_11, dR.eq_12, dR.eq_13, dR.eq_14, dR.eq_16, dR.eq_17, dR.eq_18, dR.eq_19, dR.eq_21, dR.eq_22, dR.eq_24, dR.eq_25, dR.eq_26, dR.eq_27, dR.eq_28, dR.eq_29, dR.eq_30, dC, ev, frA_at, fillD, pickCells, cellsV_agg, cellsV_bool, cellsV_int, cellsV_str, cellsV_ptr, cellsV_sl, cellsV_slV, cellsV_map, cellsV_iface, cellsV_nili, cellsV_func, cellsV_nilf, lenV_sl, lenV_str, oneC_slV, putAt, bnd, slD, List.getElem?_cons_zero, List.getElem?_cons_succ, dR_sl, Mem.cell, Mem.row, cells_own, cells_ro, natNe, Mem.push_get, Mem.set_get, Mem.kill_other, Mem.push_nxt, Mem.set_nxt, Mem.kill_nxt, hv2.slen]
  refine LoopW_of (fun k ts m' => ∃ j oba, j + k = tn.length ∧ ts 0 = v1 ∧ ts 14 = v2 ∧ ts 15 = .int .i64 (tn.length : Nat) ∧ ts 16 = .int .i64 (j : Nat) ∧ ts 5 = slV oba j 4 ∧ SlO m' 30 4 oba (((tn.take j).map turnA).flatMap Ac.cells) j ∧ m.next ≤ m'.next ∧ (∀ b, oba = some b → m.next ≤ b) ∧ (∀ i, i < m.next → m'.get i = m.get i)) tn.length ?_ ?_
  · exact ⟨0, none, by omega, by simp [frA_at], by simp [frA_at], by simp, by simp, by simp [slV], ⟨by simp, rfl⟩, n1, (fun b hb => by cases hb), k1⟩
  · rintro k ts m2 K ⟨j, oba, hj, t0, t14, t15, t16, t5, hs, n2, hob, k2⟩ hK
    simp -implicitDefEqProofs (disch := first | assumption | (simp only [Mem.push_nxt, Mem.set_nxt, Mem.kill_nxt]; done) | (simp only [Mem.push_nxt, Mem.set_nxt, Mem.kill_nxt]; omega) | omega | fail) [rc8_1, AbW_skip, AbW_run, AbW_seq, AbW_condR, condR_true, condR_false, AbW_block, AbW_loop, AbW_exit, AbW_ret, thenA_normal, thenA_exit, thenA_ret, inBlockA_normal, inBlockA_exit, inBlockA_ret, bodyA_normalR, bodyA_retR, retV, RS_nil, RS_consG, guardR_true, guardR_false, contK_at, SK_rr, bindR_some, SK_a, SK_cc, callR_some, SK_al, SK_bx, wantD_none, wantD_some, wantB_bool, wantB_undef, stabOk, dR_lenl, dR_ia, dR_b2s, slen_sl, dR.eq_1, dR.eq_2, dR.eq_3, dR.eq_4, dR.eq_5, dR.eq_6, dR.eq_7, dR.eq_8, dR.eq_9, dR.eq_10, dR.eq_11, dR.eq_12, dR.eq_13, dR.eq_14, dR.eq_16, dR.eq_17, dR.eq_18, dR.eq_19, dR.eq_21, dR.eq_22, dR.eq_24, dR.eq_25, dR.eq_26, dR.eq_27, dR.eq_28, dR.eq_29, dR.eq_30, dC, ev, frA_at, fillD, pickCells, cellsV_agg, cellsV_bool, cellsV_int, cellsV_str, cellsV_ptr, cellsV_sl, cellsV_slV, cellsV_map, cellsV_iface, cellsV_nili, cellsV_func, cellsV_nilf, lenV_sl, lenV_str, oneC_slV, putAt, bnd, slD, List.getElem?_cons_zero, List.getElem?_cons_succ, dR_sl, Mem.cell, Mem.row, cells_own, cells_ro, natNe, Mem.push_get, Mem.set_get, Mem.kill_other, Mem.push_nxt, Mem.set_nxt, Mem.kill_nxt, t15, t16]
    by_cases hjl : j < tn.length
    · have hv2 := h2.keep (m' := m2) fun b hb => k2 b (b2 b hb)
      obtain ⟨bi, bo, L, hv, hL, hLl, -, hLc⟩ := hv2.at hjl
      have hc := hLc 0 (by omega)
      rw [flat_at' (k := 1) (i := 0) u8l tn (List.getElem?_eq_getElem hjl) (by omega)] at hc
      simp only [Nat.mul_one, Nat.add_zero, u8c, List.getElem?_cons_zero] at hc
      obtain ⟨hlt', hc'⟩ := List.getElem?_eq_some_iff.1 hc
      have hbi : bi < m2.next := Nat.lt_of_lt_of_le (b2 bi (by rw [hv]; rfl)) n2
      obtain ⟨t, htj⟩ : ∃ t, tn[j] = t := ⟨_, rfl⟩
      rw [htj] at hc hc'
      rw [hv] at t14
      have e : (tn.take (j + 1)).map turnA = (tn.take j).map turnA ++ [turnA t] := by
        rw [List.take_succ_eq_append_getElem hjl, htj]; simp
      generalize (tn.take j).map turnA = X at *
      simp -implicitDefEqProofs (disch := first | assumption | (simp only [Mem.push_nxt, Mem.set_nxt, Mem.kill_nxt]; done) | (simp only [Mem.push_nxt, Mem.set_nxt, Mem.kill_nxt]; omega) | omega | fail) [hjl, rc8_0, AbW_skip, AbW_run, AbW_seq, AbW_condR, condR_true, condR_false, AbW_block, AbW_loop, AbW_exit, AbW_ret, thenA_normal, thenA_exit, thenA_ret, inBlockA_normal, inBlockA_exit, inBlockA_ret, bodyA_normalR, bodyA_retR, retV, RS_nil, RS_consG, guardR_true, guardR_false, contK_at, SK_rr, bindR_some, SK_a, SK_cc, callR_some, SK_al, SK_bx, wantD_none, wantD_some, wantB_bool, wantB_undef, stabOk, dR_lenl, dR_ia, dR_b2s, slen_sl, dR.eq_1, dR.eq_2, dR.eq_3, dR.eq_4, dR.eq_5, dR.eq_6, dR.eq_7, dR.eq_8, dR.eq_9, dR.eq_10, dR.eq_11, dR.eq_12, dR.eq_13, dR.eq_14, dR.eq_16, dR.eq_17, dR.eq_18, dR.eq_19, dR.eq_21, dR.eq_22, dR.eq_24, dR.eq_25, dR.eq_26, dR.eq_27, dR.eq_28, dR.eq_29, dR.eq_30, dC, ev, frA_at, fillD, pickCells, cellsV_agg, cellsV_bool, cellsV_int, cellsV_str, cellsV_ptr, cellsV_sl, cellsV_slV, cellsV_map, cellsV_iface, cellsV_nili, cellsV_func, cellsV_nilf, lenV_sl, lenV_str, oneC_slV, putAt, bnd, slD, List.getElem?_cons_zero, List.getElem?_cons_succ, dR_sl, Mem.cell, Mem.row, cells_own, cells_ro, natNe, Mem.push_get, Mem.set_get, Mem.kill_other, Mem.push_nxt, Mem.set_nxt, Mem.kill_nxt, t5, t14, t16, sidx_at, hL, hc, hc']
      rw [SK_bsl (cs := (turnA t).cells) (by simp [AbW_skip, AbW_run, AbW_seq, AbW_condR, condR_true, condR_false, AbW_block, AbW_loop, AbW_exit, AbW_ret, thenA_normal, thenA_exit, thenA_ret, inBlockA_normal, inBlockA_exit, inBlockA_ret, bodyA_normalR, bodyA_retR, retV, RS_nil, RS_consG, guardR_true, guardR_false, contK_at, SK_rr, bindR_some, SK_a, SK_cc, callR_some, SK_al, SK_bx, wantD_none, wantD_some, wantB_bool, wantB_undef, stabOk, dR_lenl, dR_ia, dR_b2s, slen_sl, dR.eq_1, dR.eq_2, dR.eq_3, dR.eq_4, dR.eq_5, dR.eq_6, dR.eq_7, dR.eq_8, dR.eq_9, dR.eq_10, dR.eq_11, dR.eq_12, dR.eq_13, dR.eq_14, dR.eq_16, dR.eq_17, dR.eq_18, dR.eq_19, dR.eq_21, dR.eq_22, dR.eq_24, dR.eq_25, dR.eq_26, dR.eq_27, dR.eq_28, dR.eq_29, dR.eq_30, dC, ev, frA_at, fillD, pickCells, cellsV_agg, cellsV_bool, cellsV_int, cellsV_str, cellsV_ptr, cellsV_sl, cellsV_slV, cellsV_map, cellsV_iface, cellsV_nili, cellsV_func, cellsV_nilf, lenV_sl, lenV_str, oneC_slV, putAt, bnd, slD, List.getElem?_cons_zero, List.getElem?_cons_succ, dR_sl, turnA, Ac.cells]) (by simp [Ac.cells])]
      simp -implicitDefEqProofs (disch := first | assumption | (simp only [Mem.push_nxt, Mem.set_nxt, Mem.kill_nxt]; done) | (simp only [Mem.push_nxt, Mem.set_nxt, Mem.kill_nxt]; omega) | omega | fail) [AbW_skip, AbW_run, AbW_seq, AbW_condR, condR_true, condR_false, AbW_block, AbW_loop, AbW_exit, AbW_ret, thenA_normal, thenA_exit, thenA_ret, inBlockA_normal, inBlockA_exit, inBlockA_ret, bodyA_normalR, bodyA_retR, retV, RS_nil, RS_consG, guardR_true, guardR_false, contK_at, SK_rr, bindR_some, SK_a, SK_cc, callR_some, SK_al, SK_bx, wantD_none, wantD_some, wantB_bool, wantB_undef, stabOk, dR_lenl, dR_ia, dR_b2s, slen_sl, dR.eq_1, dR.eq_2, dR.eq_3, dR.eq_4, dR.eq_5, dR.eq_6, dR.eq_7, dR.eq_8, dR.eq_9, dR.eq_10, dR.eq_11, dR.eq_12, dR.eq_13, dR.eq_14, dR.eq_16, dR.eq_17, dR.eq_18, dR.eq_19, dR.eq_21, dR.eq_22, dR.eq_24, dR.eq_25, dR.eq_26, dR.eq_27, dR.eq_28, dR.eq_29, dR.eq_30, dC, ev, frA_at, fillD, pickCells, cellsV_agg, cellsV_bool, cellsV_int, cellsV_str, cellsV_ptr, cellsV_sl, cellsV_slV, cellsV_map, cellsV_iface, cellsV_nili, cellsV_func, cellsV_nilf, lenV_sl, lenV_str, oneC_slV, putAt, bnd, slD, List.getElem?_cons_zero, List.getElem?_cons_succ, dR_sl, Mem.cell, Mem.row, cells_own, cells_ro, natNe, Mem.push_get, Mem.set_get, Mem.kill_other, Mem.push_nxt, Mem.set_nxt, Mem.kill_nxt]
      refine SK_ap (hs.push _) (by simp [AbW_skip, AbW_run, AbW_seq, AbW_condR, condR_true, condR_false, AbW_block, AbW_loop, AbW_exit, AbW_ret, thenA_normal, thenA_exit, thenA_ret, inBlockA_normal, inBlockA_exit, inBlockA_ret, bodyA_normalR, bodyA_retR, retV, RS_nil, RS_consG, guardR_true, guardR_false, contK_at, SK_rr, bindR_some, SK_a, SK_cc, callR_some, SK_al, SK_bx, wantD_none, wantD_some, wantB_bool, wantB_undef, stabOk, dR_lenl, dR_ia, dR_b2s, slen_sl, dR.eq_1, dR.eq_2, dR.eq_3, dR.eq_4, dR.eq_5, dR.eq_6, dR.eq_7, dR.eq_8, dR.eq_9, dR.eq_10, dR.eq_11, dR.eq_12, dR.eq_13, dR.eq_14, dR.eq_16, dR.eq_17, dR.eq_18, dR.eq_19, dR.eq_21, dR.eq_22, dR.eq_24, dR.eq_25, dR.eq_26, dR.eq_27, dR.eq_28, dR.eq_29, dR.eq_30, dC, ev, frA_at, fillD, pickCells, cellsV_agg, cellsV_bool, cellsV_int, cellsV_str, cellsV_ptr, cellsV_sl, cellsV_slV, cellsV_map, cellsV_iface, cellsV_nili, cellsV_func, cellsV_nilf, lenV_sl, lenV_str, oneC_slV, putAt, bnd, slD, List.getElem?_cons_zero, List.getElem?_cons_succ, dR_sl]) (ys := (turnA t).cells) (by simp -implicitDefEqProofs (disch := first | assumption | (simp only [Mem.push_nxt, Mem.set_nxt, Mem.kill_nxt]; done) | (simp only [Mem.push_nxt, Mem.set_nxt, Mem.kill_nxt]; omega) | omega | fail) [AbW_skip, AbW_run, AbW_seq, AbW_condR, condR_true, condR_false, AbW_block, AbW_loop, AbW_exit, AbW_ret, thenA_normal, thenA_exit, thenA_ret, inBlockA_normal, inBlockA_exit, inBlockA_ret, bodyA_normalR, bodyA_retR, retV, RS_nil, RS_consG, guardR_true, guardR_false, contK_at, SK_rr, bindR_some, SK_a, SK_cc, callR_some, SK_al, SK_bx, wantD_none, wantD_some, wantB_bool, wantB_undef, stabOk, dR_lenl, dR_ia, dR_b2s, slen_sl, dR.eq_1, dR.eq_2, dR.eq_3, dR.eq_4, dR.eq_5, dR.eq_6, dR.eq_7, dR.eq_8, dR.eq_9, dR.eq_10, dR.eq_11, dR.eq_12, dR.eq_13, dR.eq_14, dR.eq_16, dR.eq_17, dR.eq_18, dR.eq_19, dR.eq_21, dR.eq_22, dR.eq_24, dR.eq_25, dR.eq_26, dR.eq_27, dR.eq_28, dR.eq_29, dR.eq_30, dC, ev, frA_at, fillD, pickCells, cellsV_agg, cellsV_bool, cellsV_int, cellsV_str, cellsV_ptr, cellsV_sl, cellsV_slV, cellsV_map, cellsV_iface, cellsV_nili, cellsV_func, cellsV_nilf, lenV_sl, lenV_str, oneC_slV, putAt, bnd, slD, List.getElem?_cons_zero, List.getElem?_cons_succ, dR_sl, elemsV, Mem.cell, Mem.row, cells_own, cells_ro, natNe, Mem.push_get, Mem.set_get, Mem.kill_other, Mem.push_nxt, Mem.set_nxt, Mem.kill_nxt, turnA, Ac.cells]) (k := 1) (by simp [AbW_skip, AbW_run, AbW_seq, AbW_condR, condR_true, condR_false, AbW_block, AbW_loop, AbW_exit, AbW_ret, thenA_normal, thenA_exit, thenA_ret, inBlockA_normal, inBlockA_exit, inBlockA_ret, bodyA_normalR, bodyA_retR, retV, RS_nil, RS_consG, guardR_true, guardR_false, contK_at, SK_rr, bindR_some, SK_a, SK_cc, callR_some, SK_al, SK_bx, wantD_none, wantD_some, wantB_bool, wantB_undef, stabOk, dR_lenl, dR_ia, dR_b2s, slen_sl, dR.eq_1, dR.eq_2, dR.eq_3, dR.eq_4, dR.eq_5, dR.eq_6, dR.eq_7, dR.eq_8, dR.eq_9, dR.eq_10, dR.eq_11, dR.eq_12, dR.eq_13, dR.eq_14, dR.eq_16, dR.eq_17, dR.eq_18, dR.eq_19, dR.eq_21, dR.eq_22, dR.eq_24, dR.eq_25, dR.eq_26, dR.eq_27, dR.eq_28, dR.eq_29, dR.eq_30, dC, ev, frA_at, fillD, pickCells, cellsV_agg, cellsV_bool, cellsV_int, cellsV_str, cellsV_ptr, cellsV_sl, cellsV_slV, cellsV_map, cellsV_iface, cellsV_nili, cellsV_func, cellsV_nilf, lenV_sl, lenV_str, oneC_slV, putAt, bnd, slD, List.getElem?_cons_zero, List.getElem?_cons_succ, dR_sl]) (by simp) (by simp [oneC, turnA, Ac.cells]) (by omega) (by simp only [maxLen]; omega) (by simp [Ac.cells]) ?_
      simp -implicitDefEqProofs (disch := first | assumption | (simp only [Mem.push_nxt, Mem.set_nxt, Mem.kill_nxt]; done) | (simp only [Mem.push_nxt, Mem.set_nxt, Mem.kill_nxt]; omega) | omega | fail) [AbW_skip, AbW_run, AbW_seq, AbW_condR, condR_true, condR_false, AbW_block, AbW_loop, AbW_exit, AbW_ret, thenA_normal, thenA_exit, thenA_ret, inBlockA_normal, inBlockA_exit, inBlockA_ret, bodyA_normalR, bodyA_retR, retV, RS_nil, RS_consG, guardR_true, guardR_false, contK_at, SK_rr, bindR_some, SK_a, SK_cc, callR_some, SK_al, SK_bx, wantD_none, wantD_some, wantB_bool, wantB_undef, stabOk, dR_lenl, dR_ia, dR_b2s, slen_sl, dR.eq_1, dR.eq_2, dR.eq_3, dR.eq_4, dR.eq_5, dR.eq_6, dR.eq_7, dR.eq_8, dR.eq_9, dR.eq_10, dR.eq_11, dR.eq_12, dR.eq_13, dR.eq_14, dR.eq_16, dR.eq_17, dR.eq_18, dR.eq_19, dR.eq_21, dR.eq_22, dR.eq_24, dR.eq_25, dR.eq_26, dR.eq_27, dR.eq_28, dR.eq_29, dR.eq_30, dC, ev, frA_at, fillD, pickCells, cellsV_agg, cellsV_bool, cellsV_int, cellsV_str, cellsV_ptr, cellsV_sl, cellsV_slV, cellsV_map, cellsV_iface, cellsV_nili, cellsV_func, cellsV_nilf, lenV_sl, lenV_str, oneC_slV, putAt, bnd, slD, List.getElem?_cons_zero, List.getElem?_cons_succ, dR_sl, Mem.cell, Mem.row, cells_own, cells_ro, natNe, Mem.push_get, Mem.set_get, Mem.kill_other, Mem.push_nxt, Mem.set_nxt, Mem.kill_nxt, t16]
      rw [w64 (by omega)]
      have hnew := SlO.new (m := (m2.push (Ent.own (turnA t).cells 30)).kill oba) (e := 30) (sz := 4) (n := j + 1) (cs := X.flatMap Ac.cells ++ (turnA t).cells) (by rw [List.length_append, hs.1, acl]; omega)
      refine hK (k - 1) _ _ (by omega) ⟨j + 1, some (m2.next + 1), by omega, by simp [t0], by simp [t14, hv], by simp [t15], by simp, by simp, ?_, by simp [Mem.kill_nxt]; omega, ?_, ?_⟩
      · have e' : ((tn.take (j + 1)).map turnA).flatMap Ac.cells = X.flatMap Ac.cells ++ (turnA t).cells := by
          rw [e]; simp
        rw [e']
        exact hnew
      · intro b hb
        cases hb
        omega
      · intro i hi
        have h5 : oba ≠ some i := fun e => by have := hob i e; omega
        simp -implicitDefEqProofs (disch := first | assumption | (simp only [Mem.push_nxt, Mem.set_nxt, Mem.kill_nxt]; done) | (simp only [Mem.push_nxt, Mem.set_nxt, Mem.kill_nxt]; omega) | omega | fail) [Mem.cell, Mem.row, cells_own, cells_ro, natNe, Mem.push_get, Mem.set_get, Mem.kill_other, Mem.push_nxt, Mem.set_nxt, Mem.kill_nxt]
        exact k2 i hi
    · have hjj : j = tn.length := by omega
      subst hjj
      rw [List.take_length] at hs
      have hv1 := h1.keep (m' := m2) fun b hb => k2 b (b1 b hb)
      have hr : SlR m2 4 (slV oba tn.length 4) ((tn.map turnA).flatMap Ac.cells) (tn.map turnA).length := by simpa using hs.read
      simp -implicitDefEqProofs (disch := first | assumption | (simp only [Mem.push_nxt, Mem.set_nxt, Mem.kill_nxt]; done) | (simp only [Mem.push_nxt, Mem.set_nxt, Mem.kill_nxt]; omega) | omega | fail) [rc8_2, AbW_skip, AbW_run, AbW_seq, AbW_condR, condR_true, condR_false, AbW_block, AbW_loop, AbW_exit, AbW_ret, thenA_normal, thenA_exit, thenA_ret, inBlockA_normal, inBlockA_exit, inBlockA_ret, bodyA_normalR, bodyA_retR, retV, RS_nil, RS_consG, guardR_true, guardR_false, contK_at, SK_rr, bindR_some, SK_a, SK_cc, callR_some, SK_al, SK_bx, wantD_none, wantD_some, wantB_bool, wantB_undef, stabOk, dR_lenl, dR_ia, dR_b2s, slen_sl, dR.eq_1, dR.eq_2, dR.eq_3, dR.eq_4, dR.eq_5, dR.eq_6, dR.eq_7, dR.eq_8, dR.eq_9, dR.eq_10, dR.eq_11, dR.eq_12, dR.eq_13, dR.eq_14, dR.eq_16, dR.eq_17, dR.eq_18, dR.eq_19, dR.eq_21, dR.eq_22, dR.eq_24, dR.eq_25, dR.eq_26, dR.eq_27, dR.eq_28, dR.eq_29, dR.eq_30, dC, ev, frA_at, fillD, pickCells, cellsV_agg, cellsV_bool, cellsV_int, cellsV_str, cellsV_ptr, cellsV_sl, cellsV_slV, cellsV_map, cellsV_iface, cellsV_nili, cellsV_func, cellsV_nilf, lenV_sl, lenV_str, oneC_slV, putAt, bnd, slD, List.getElem?_cons_zero, List.getElem?_cons_succ, dR_sl, Mem.cell, Mem.row, cells_own, cells_ro, natNe, Mem.push_get, Mem.set_get, Mem.kill_other, Mem.push_nxt, Mem.set_nxt, Mem.kill_nxt, t0, t5]
      refine c_Of hr (by simp; omega) fun m3 W1 hW1 n3 w1 k3 => ?_
      simp -implicitDefEqProofs (disch := first | assumption | (simp only [Mem.push_nxt, Mem.set_nxt, Mem.kill_nxt]; done) | (simp only [Mem.push_nxt, Mem.set_nxt, Mem.kill_nxt]; omega) | omega | fail) [AbW_skip, AbW_run, AbW_seq, AbW_condR, condR_true, condR_false, AbW_block, AbW_loop, AbW_exit, AbW_ret, thenA_normal, thenA_exit, thenA_ret, inBlockA_normal, inBlockA_exit, inBlockA_ret, bodyA_normalR, bodyA_retR, retV, RS_nil, RS_consG, guardR_true, guardR_false, contK_at, SK_rr, bindR_some, SK_a, SK_cc, callR_some, SK_al, SK_bx, wantD_none, wantD_some, wantB_bool, wantB_undef, stabOk, dR_lenl, dR_ia, dR_b2s, slen_sl, dR.eq_1, dR.eq_2, dR.eq_3, dR.eq_4, dR.eq_5, dR.eq_6, dR.eq_7, dR.eq_8, dR.eq_9, dR.eq_10, dR.eq_11, dR.eq_12, dR.eq_13, dR.eq_14, dR.eq_16, dR.eq_17, dR.eq_18, dR.eq_19, dR.eq_21, dR.eq_22, dR.eq_24, dR.eq_25, dR.eq_26, dR.eq_27, dR.eq_28, dR.eq_29, dR.eq_30, dC, ev, frA_at, fillD, pickCells, cellsV_agg, cellsV_bool, cellsV_int, cellsV_str, cellsV_ptr, cellsV_sl, cellsV_slV, cellsV_map, cellsV_iface, cellsV_nili, cellsV_func, cellsV_nilf, lenV_sl, lenV_str, oneC_slV, putAt, bnd, slD, List.getElem?_cons_zero, List.getElem?_cons_succ, dR_sl, Mem.cell, Mem.row, cells_own, cells_ro, natNe, Mem.push_get, Mem.set_get, Mem.kill_other, Mem.push_nxt, Mem.set_nxt, Mem.kill_nxt, t0, t5]
      have hob3 : ∀ b, blk (slV oba tn.length 4) = some b → m3.get b = m2.get b := fun b hb => by
        rw [blk_slV] at hb; subst hb; exact k3 b hs.lt
      refine c_Of (hr.keep hob3) (by simp; omega) fun m4 W2 hW2 n4 w2 k4 => ?_
      have hW12 : W1 < m3.next := by obtain ⟨_, _, _, _, h⟩ := w1; exact h
      have w1 := w1.step n4 k4
      have km : ∀ i, i < m.next → m4.get i = m.get i := fun i hi => by rw [k4 i (by omega), k3 i (by omega), k2 i hi]
      have hv4 := h1.keep (m' := m4) fun b hb => km b (b1 b hb)
      simp -implicitDefEqProofs (disch := first | assumption | (simp only [Mem.push_nxt, Mem.set_nxt, Mem.kill_nxt]; done) | (simp only [Mem.push_nxt, Mem.set_nxt, Mem.kill_nxt]; omega) | omega | fail) [AbW_skip, AbW_run, AbW_seq, AbW_condR, condR_true, condR_false, AbW_block, AbW_loop, AbW_exit, AbW_ret, thenA_normal, thenA_exit, thenA_ret, inBlockA_normal, inBlockA_exit, inBlockA_ret, bodyA_normalR, bodyA_retR, retV, RS_nil, RS_consG, guardR_true, guardR_false, contK_at, SK_rr, bindR_some, SK_a, SK_cc, callR_some, SK_al, SK_bx, wantD_none, wantD_some, wantB_bool, wantB_undef, stabOk, dR_lenl, dR_ia, dR_b2s, slen_sl, dR.eq_1, dR.eq_2, dR.eq_3, dR.eq_4, dR.eq_5, dR.eq_6, dR.eq_7, dR.eq_8, dR.eq_9, dR.eq_10, dR.eq_11, dR.eq_12, dR.eq_13, dR.eq_14, dR.eq_16, dR.eq_17, dR.eq_18, dR.eq_19, dR.eq_21, dR.eq_22, dR.eq_24, dR.eq_25, dR.eq_26, dR.eq_27, dR.eq_28, dR.eq_29, dR.eq_30, dC, ev, frA_at, fillD, pickCells, cellsV_agg, cellsV_bool, cellsV_int, cellsV_str, cellsV_ptr, cellsV_sl, cellsV_slV, cellsV_map, cellsV_iface, cellsV_nili, cellsV_func, cellsV_nilf, lenV_sl, lenV_str, oneC_slV, putAt, bnd, slD, List.getElem?_cons_zero, List.getElem?_cons_succ, dR_sl, Mem.cell, Mem.row, cells_own, cells_ro, natNe, Mem.push_get, Mem.set_get, Mem.kill_other, Mem.push_nxt, Mem.set_nxt, Mem.kill_nxt, t0]
      refine c_PassS w1 hv4 (fun e => by have := b1 _ e; omega) (fun b hb => ⟨by simp, by have := b1 b hb; omega⟩) (by simp; omega) (by omega) fun m5 ob1 oo1 p1 p2 p3 p4 p5 p6 p7 => ?_
      have w2 := w2.keep w1 (by omega) (by simp) p4 p7
      rw [runM_turn] at p1 p2 p3 ⊢
      rw [List.nil_append, Nat.zero_add] at p1
      have hmB := tM_B tn 0 bs
      have hmid := clean_mid hT hB
      have hback := tM_back tn 0 bs hB
      rw [tM_len] at p2 p3 ⊢
      have p2r : SlR m5 1 (slV oo1 bs.length 1) (((tM tn 0 bs).map Mk.byte).flatMap u8c) ((tM tn 0 bs).map Mk.byte).length := by rw [List.length_map, tM_len]; exact p2.read
      have hml : ((tM tn 0 bs).map Mk.byte).length = bs.length := by rw [List.length_map, tM_len]
      simp -implicitDefEqProofs (disch := first | assumption | (simp only [Mem.push_nxt, Mem.set_nxt, Mem.kill_nxt]; done) | (simp only [Mem.push_nxt, Mem.set_nxt, Mem.kill_nxt]; omega) | omega | fail) [AbW_skip, AbW_run, AbW_seq, AbW_condR, condR_true, condR_false, AbW_block, AbW_loop, AbW_exit, AbW_ret, thenA_normal, thenA_exit, thenA_ret, inBlockA_normal, inBlockA_exit, inBlockA_ret, bodyA_normalR, bodyA_retR, retV, RS_nil, RS_consG, guardR_true, guardR_false, contK_at, SK_rr, bindR_some, SK_a, SK_cc, callR_some, SK_al, SK_bx, wantD_none, wantD_some, wantB_bool, wantB_undef, stabOk, dR_lenl, dR_ia, dR_b2s, slen_sl, dR.eq_1, dR.eq_2, dR.eq_3, dR.eq_4, dR.eq_5, dR.eq_6, dR.eq_7, dR.eq_8, dR.eq_9, dR.eq_10, dR.eq_11, dR.eq_12, dR.eq_13, dR.eq_14, dR.eq_16, dR.eq_17, dR.eq_18, dR.eq_19, dR.eq_21, dR.eq_22, dR.eq_24, dR.eq_25, dR.eq_26, dR.eq_27, dR.eq_28, dR.eq_29, dR.eq_30, dC, ev, frA_at, fillD, pickCells, cellsV_agg, cellsV_bool, cellsV_int, cellsV_str, cellsV_ptr, cellsV_sl, cellsV_slV, cellsV_map, cellsV_iface, cellsV_nili, cellsV_func, cellsV_nilf, lenV_sl, lenV_str, oneC_slV, putAt, bnd, slD, List.getElem?_cons_zero, List.getElem?_cons_succ, dR_sl, Mem.cell, Mem.row, cells_own, cells_ro, natNe, Mem.push_get, Mem.set_get, Mem.kill_other, Mem.push_nxt, Mem.set_nxt, Mem.kill_nxt]
      have hob1 : ∀ b, ob1 = some b → m4.next ≤ b := fun b hb => by rcases p5 b hb with h | h; cases h; exact h
      have hW2 : W2 < m4.next := by
        obtain ⟨_, x3, x4, x5, x9⟩ := ‹WS m4 W2 _ 0 [] none›
        exact x9
      refine c_PassS w2 p2r (fun e => by rw [blk_slV] at e; have := p6 _ e; omega) (fun b hb => ⟨by simp, by rw [blk_slV] at hb; subst hb; exact p2.lt⟩) (by rw [hml]; simp; omega) (by rw [hml]; omega) fun m6 ob2 oo2 q1 q2 q3 q4 q5 q6 q7 => ?_
      rw [runM_turn] at q2 q3 ⊢
      rw [hback] at q3
      have hl6 : (tM tn 0 ((tM tn 0 bs).map Mk.byte)).length = bs.length := by rw [tM_len, hml]
      rw [hl6] at q3 ⊢
      have p1 := p1.keep w2 (by omega) (by simp) q4 q7
      have hv6 := hv4.keep (m' := m6) fun b hb => by rw [q7 b (by have := b1 b hb; omega) (by have := b1 b hb; omega) (by simp), p7 b (by have := b1 b hb; omega) (by have := b1 b hb; omega) (by simp)]
      have p2r6 := p2r.keep (m' := m6) fun b hb => by
        rw [blk_slV] at hb
        subst hb
        have := p6 b rfl
        exact q7 b p2.lt (by omega) (by simp)
      have hs6 := p2r6.bstr
      have hsl := p2r6.slen
      have hcl : (tM tn 0 bs).length ≤ 1048576 := by rw [tM_len]; exact hl1
      rw [hml] at hsl
      generalize (tM tn 0 bs).map Mk.byte = Y at *
      generalize tM tn 0 bs = R at *
      simp -implicitDefEqProofs (disch := first | assumption | (simp only [Mem.push_nxt, Mem.set_nxt, Mem.kill_nxt]; done) | (simp only [Mem.push_nxt, Mem.set_nxt, Mem.kill_nxt]; omega) | omega | fail) [AbW_skip, AbW_run, AbW_seq, AbW_condR, condR_true, condR_false, AbW_block, AbW_loop, AbW_exit, AbW_ret, thenA_normal, thenA_exit, thenA_ret, inBlockA_normal, inBlockA_exit, inBlockA_ret, bodyA_normalR, bodyA_retR, retV, RS_nil, RS_consG, guardR_true, guardR_false, contK_at, SK_rr, bindR_some, SK_a, SK_cc, callR_some, SK_al, SK_bx, wantD_none, wantD_some, wantB_bool, wantB_undef, stabOk, dR_lenl, dR_ia, dR_b2s, slen_sl, dR.eq_1, dR.eq_2, dR.eq_3, dR.eq_4, dR.eq_5, dR.eq_6, dR.eq_7, dR.eq_8, dR.eq_9, dR.eq_10, dR.eq_11, dR.eq_12, dR.eq_13, dR.eq_14, dR.eq_16, dR.eq_17, dR.eq_18, dR.eq_19, dR.eq_21, dR.eq_22, dR.eq_24, dR.eq_25, dR.eq_26, dR.eq_27, dR.eq_28, dR.eq_29, dR.eq_30, dC, ev, frA_at, fillD, pickCells, cellsV_agg, cellsV_bool, cellsV_int, cellsV_str, cellsV_ptr, cellsV_sl, cellsV_slV, cellsV_map, cellsV_iface, cellsV_nili, cellsV_func, cellsV_nilf, lenV_sl, lenV_str, oneC_slV, putAt, bnd, slD, List.getElem?_cons_zero, List.getElem?_cons_succ, dR_sl, Mem.cell, Mem.row, cells_own, cells_ro, natNe, Mem.push_get, Mem.set_get, Mem.kill_other, Mem.push_nxt, Mem.set_nxt, Mem.kill_nxt, t0, hsl, hv6.slen, q3, hv6.bstr, hs6, strB_toList]
      refine c_Clean p1 (by omega) fun m7 a1 a2 => ?_
      rw [hmid]
      have hv7 := (hv6.keep (m' := m7) fun b hb => a2 b (by have := b1 b hb; omega)).bstr
      have hs7 := (p2r6.keep (m' := m7) fun b hb => by
        rw [blk_slV] at hb
        subst hb
        have := p2.lt
        exact a2 b (by omega)).bstr
      simp -implicitDefEqProofs (disch := first | assumption | (simp only [Mem.push_nxt, Mem.set_nxt, Mem.kill_nxt]; done) | (simp only [Mem.push_nxt, Mem.set_nxt, Mem.kill_nxt]; omega) | omega | fail) [AbW_skip, AbW_run, AbW_seq, AbW_condR, condR_true, condR_false, AbW_block, AbW_loop, AbW_exit, AbW_ret, thenA_normal, thenA_exit, thenA_ret, inBlockA_normal, inBlockA_exit, inBlockA_ret, bodyA_normalR, bodyA_retR, retV, RS_nil, RS_consG, guardR_true, guardR_false, contK_at, SK_rr, bindR_some, SK_a, SK_cc, callR_some, SK_al, SK_bx, wantD_none, wantD_some, wantB_bool, wantB_undef, stabOk, dR_lenl, dR_ia, dR_b2s, slen_sl, dR.eq_1, dR.eq_2, dR.eq_3, dR.eq_4, dR.eq_5, dR.eq_6, dR.eq_7, dR.eq_8, dR.eq_9, dR.eq_10, dR.eq_11, dR.eq_12, dR.eq_13, dR.eq_14, dR.eq_16, dR.eq_17, dR.eq_18, dR.eq_19, dR.eq_21, dR.eq_22, dR.eq_24, dR.eq_25, dR.eq_26, dR.eq_27, dR.eq_28, dR.eq_29, dR.eq_30, dC, ev, frA_at, fillD, pickCells, cellsV_agg, cellsV_bool, cellsV_int, cellsV_str, cellsV_ptr, cellsV_sl, cellsV_slV, cellsV_map, cellsV_iface, cellsV_nili, cellsV_func, cellsV_nilf, lenV_sl, lenV_str, oneC_slV, putAt, bnd, slD, List.getElem?_cons_zero, List.getElem?_cons_succ, dR_sl, Mem.cell, Mem.row, cells_own, cells_ro, natNe, Mem.push_get, Mem.set_get, Mem.kill_other, Mem.push_nxt, Mem.set_nxt, Mem.kill_nxt, t0, hv7, hs7, dEq]
end Go.Proofs.Ytebgffkiahmhfaa.Ab
