/- A wire without acts. -/
import Derived.Test.YtebgffkiahmhfaaAbw5
import Derived.Test.YtebgffkiahmhfaaAb20
set_option linter.unusedVariables false
set_option linter.unusedSimpArgs false
namespace Go.Proofs.Ytebgffkiahmhfaa.Ab
open Go Go.RowKit
set_option maxHeartbeats 1000000

theorem xor_zero {c : Int} (h : isB c) : xorK .u8 c 0 = c := by
  obtain ⟨h1, h2⟩ := h
  unfold xorK
  rw [IntKind.wrap_u8]
  have e : (BitVec.ofInt IntKind.u8.bits c ^^^ BitVec.ofInt IntKind.u8.bits 0).toNat = (BitVec.ofInt 8 c).toNat := by
    show (BitVec.ofInt 8 c ^^^ BitVec.ofInt 8 0).toNat = _
    simp
  rw [e, BitVec.toNat_ofInt]
  omega

def plainM : Nat → List Int → List Mk
  | _, [] => []
  | n, c :: cs => ⟨c, n, true⟩ :: plainM (n + 1) cs
theorem plainM_len : ∀ (n : Nat) (bs : List Int), (plainM n bs).length = bs.length
  | _, [] => rfl
  | n, c :: cs => by simp [plainM, plainM_len (n + 1) cs]
theorem plainM_bytes : ∀ (n : Nat) (bs : List Int), (plainM n bs).flatMap (fun k => u8c k.byte) = bs.flatMap u8c
  | _, [] => rfl
  | n, c :: cs => by simp [plainM, plainM_bytes (n + 1) cs]
theorem plainM_append : ∀ (n : Nat) (a b : List Int), plainM n (a ++ b) = plainM n a ++ plainM (n + a.length) b
  | n, [], b => by simp [plainM]
  | n, c :: cs, b => by simp [plainM, plainM_append (n + 1) cs b, Nat.add_assoc, Nat.add_comm 1]
theorem plainM_at : ∀ (n : Nat) (bs : List Int) (k : Nat) (x : Mk), (plainM n bs)[k]? = some x → x.own = true ∧ x.org = ((n + k : Nat) : Int)
  | n, [], k, x, h => by simp [plainM] at h
  | n, c :: cs, 0, x, h => by simp [plainM] at h; subst h; simp
  | n, c :: cs, k + 1, x, h => by
    have := plainM_at (n + 1) cs k x (by simpa [plainM] using h)
    rwa [show n + 1 + k = n + (k + 1) from by omega] at this
theorem runM_nil : ∀ (n : Nat) (bs : List Int), (∀ c ∈ bs, isB c) → runM [] n bs = plainM n bs
  | n, [], _ => rfl
  | n, c :: cs, h => by
    have h1 := xor_zero (h c (by simp))
    have h2 := runM_nil (n + 1) cs fun x hx => h x (by simp [hx])
    simp [runM, stepM, actAt, plainM, h1, h2]
theorem clean_plain (bs : List Int) : cleanB (plainM 0 bs) bs.length = true := by
  simp only [cleanB, plainM_len, beq_self_eq_true, Bool.and_true]
  rw [List.all_eq_true]
  intro k hk
  split
  · rename_i x hx
    obtain ⟨h1, h2⟩ := plainM_at 0 bs k x hx
    simp [h1, h2]
  · rfl

/-- Slices of bytes, and the bytes in them. -/
def RowsOk (m : Mem) (xs : List (Value × List Int)) : Prop := ∀ x ∈ xs, SlR m 1 x.1 (x.2.flatMap u8c) x.2.length ∧ (∀ c ∈ x.2, isB c) ∧ ∀ b, blk x.1 = some b → b < m.next
theorem sum_take {xs : List (Value × List Int)} (j : Nat) : ((xs.take j).flatMap (·.2)).length ≤ (xs.map fun x => x.2.length).sum := by
  induction xs generalizing j with
  | nil => simp
  | cons x xs ih =>
    cases j with
    | zero => simp
    | succ j => have := ih j; simp at this ⊢; omega

theorem l_None {w0 : World} {m : Mem} {v : Value} {xs : List (Value × List Int)} (hv : SlR m 1 v (xs.flatMap fun x => [x.1]) xs.length) (hvb : ∀ b, blk v = some b → b < m.next) (hx : RowsOk m xs) (hl : xs.length ≤ 1048576) (hs : (xs.map fun x => x.2.length).sum ≤ 1048576) :
    AbC Try.prog w0 4 [v] m fun v _ => v = .bool true := by
  refine AbC_fn ok4 (by simp) ?_
  simp -implicitDefEqProofs (disch := first | assumption | (simp only [Mem.push_nxt, Mem.set_nxt, Mem.kill_nxt]; done) | (simp only [Mem.push_nxt, Mem.set_nxt, Mem.kill_nxt]; omega) | omega | fail) [rc4, ro4, AbW_skip, AbW_run, AbW_seq, AbW_condR, condR_true, condR_false, AbW_block, AbW_loop, AbW_exit, AbW_ret, thenA_normal, thenA_exit, thenA_ret, inBlockA_normal, inBlockA_exit, inBlockA_ret, bodyA_normalR, bodyA_retR, retV, RS_nil, RS_consG, guardR_true, guardR_false, contK_at, SK_rr, bindR_some, SK_a, SK_cc, callR_some, SK_al, SK_bx, wantD_none, wantD_some, wantB_bool, wantB_undef, stabOk, dR_lenl, dR_ia, dR_b2s, slen_sl, dR.eq_1, dR.eq_2, dR.eq_3, dR.eq_4, dR.eq_5, dR.eq_6, dR.eq_7, dR.eq_8, dR.eq_9, dR.eq_10, dR.eq_11, dR.eq_12, dR.eq_13, dR.eq_14, dR.eq_16, dR.eq_17, dR.eq_18, dR.eq_19, dR.eq_21, dR.eq_22, dR.eq_24, dR.eq_25, dR.eq_26, dR.eq_27, dR.eq_28, dR.eq_29, dR.eq_30, dC, ev, frA_at, fillD, pickCells, cellsV_agg, cellsV_bool, cellsV_int, cellsV_str, cellsV_ptr, cellsV_sl, cellsV_slV, cellsV_map, cellsV_iface, cellsV_nili, cellsV_func, cellsV_nilf, lenV_sl, lenV_str, oneC_slV, putAt, bnd, slD, List.getElem?_cons_zero, List.getElem?_cons_succ, dR.eq_20, Mem.cell, Mem.row, cells_own, cells_ro, natNe, Mem.push_get, Mem.set_get, Mem.kill_other, Mem.push_nxt, Mem.set_nxt, Mem.kill_nxt]
  refine c_awake fun m1 n1 k1 => ?_
  simp -implicitDefEqProofs (disch := first | assumption | (simp only [Mem.push_nxt, Mem.set_nxt, Mem.kill_nxt]; done) | (simp only [Mem.push_nxt, Mem.set_nxt, Mem.kill_nxt]; omega) | omega | fail) [rc4_3, AbW_skip, AbW_run, AbW_seq, AbW_condR, condR_true, condR_false, AbW_block, AbW_loop, AbW_exit, AbW_ret, thenA_normal, thenA_exit, thenA_ret, inBlockA_normal, inBlockA_exit, inBlockA_ret, bodyA_normalR, bodyA_retR, retV, RS_nil, RS_consG, guardR_true, guardR_false, contK_at, SK_rr, bindR_some, SK_a, SK_cc, callR_some, SK_al, SK_bx, wantD_none, wantD_some, wantB_bool, wantB_undef, stabOk, dR_lenl, dR_ia, dR_b2s, slen_sl, dR.eq_1, dR.eq_2, dR.eq_3, dR.eq_4, dR.eq_5, dR.eq_6, dR.eq_7, dR.eq_8, dR.eq_9, dR.eq_10, dR.eq_11, dR.eq_12, dR.eq_13, dR.eq_14, dR.eq_16, dR.eq_17, dR.eq_18, dR.eq_19, dR.eq_21, dR.eq_22, dR.eq_24, dR.eq_25, dR.eq_26, dR.eq_27, dR.eq_28, dR.eq_29, dR.eq_30, dC, ev, frA_at, fillD, pickCells, cellsV_agg, cellsV_bool, cellsV_int, cellsV_str, cellsV_ptr, cellsV_sl, cellsV_slV, cellsV_map, cellsV_iface, cellsV_nili, cellsV_func, cellsV_nilf, lenV_sl, lenV_str, oneC_slV, putAt, bnd, slD, List.getElem?_cons_zero, List.getElem?_cons_succ, dR.eq_20, Mem.cell, Mem.row, cells_own, cells_ro, natNe, Mem.push_get, Mem.set_get, Mem.kill_other, Mem.push_nxt, Mem.set_nxt, Mem.kill_nxt]
  refine c_Of (acts := []) ⟨by simp, .inl ⟨rfl, .inl rfl⟩⟩ (by simp) fun m2 W hW n2 hw k2 => ?_
  simp -implicitDefEqProofs (disch := first | assumption | (simp only [Mem.push_nxt, Mem.set_nxt, Mem.kill_nxt]; done) | (simp only [Mem.push_nxt, Mem.set_nxt, Mem.kill_nxt]; omega) | omega | fail) [AbW_skip, AbW_run, AbW_seq, AbW_condR, condR_true, condR_false, AbW_block, AbW_loop, AbW_exit, AbW_ret, thenA_normal, thenA_exit, thenA_ret, inBlockA_normal, inBlockA_exit, inBlockA_ret, bodyA_normalR, bodyA_retR, retV, RS_nil, RS_consG, guardR_true, guardR_false, contK_at, SK_rr, bindR_some, SK_a, SK_cc, callR_some, SK_al, SK_bx, wantD_none, wantD_some, wantB_bool, wantB_undef, stabOk, dR_lenl, dR_ia, dR_b2s, slen_sl, dR.eq_1, dR.eq_2, dR.eq_3, dR.eq_4, dR.eq_5, dR.eq_6, dR.eq_7, dR.eq_8, dR.eq_9, dR.eq_10, dR.eq_11, dR.eq_12, dR.eq_13, dR.eq_14, dR.eq_16, dR.eq_17, dR.eq_18, dR.eq_19, dR.eq_21, dR.eq_22, dR.eq_24, dR.eq_25, dR.eq_26, dR.eq_27, dR.eq_28, dR.eq_29, dR.eq_30, dC, ev, frA_at, fillD, pickCells, cellsV_agg, cellsV_bool, cellsV_int, cellsV_str, cellsV_ptr, cellsV_sl, cellsV_slV, cellsV_map, cellsV_iface, cellsV_nili, cellsV_func, cellsV_nilf, lenV_sl, lenV_str, oneC_slV, putAt, bnd, slD, List.getElem?_cons_zero, List.getElem?_cons_succ, dR.eq_20, Mem.cell, Mem.row, cells_own, cells_ro, natNe, Mem.push_get, Mem.set_get, Mem.kill_other, Mem.push_nxt, Mem.set_nxt, Mem.kill_nxt, hv.slen]
  refine LoopW_of (fun k ts m' => ∃ j obm, j + k = xs.length ∧ ts 0 = v ∧ ts 3 = .pointer (some ⟨W, 0, none⟩) ∧ ts 4 = .int .i64 (((xs.take j).flatMap (·.2)).length : Nat) ∧ ts 10 = v ∧ ts 11 = .int .i64 (xs.length : Nat) ∧ ts 12 = .int .i64 (j : Nat) ∧
    WS m' W [] ((xs.take j).flatMap (·.2)).length (plainM 0 ((xs.take j).flatMap (·.2))) obm ∧ m.next ≤ m'.next ∧ (∀ b, obm = some b → m.next ≤ b) ∧ (∀ i, i < m.next → m'.get i = m.get i)) xs.length ?_ ?_
  · refine ⟨0, none, by omega, by simp [frA_at], by simp, by simp, by simp [frA_at], by simp, by simp, by simpa [plainM] using hw, by omega, by simp, fun i hi => by rw [k2 i (by omega), k1 i hi]⟩
  · rintro k ts m3 K ⟨j, obm, hj, t0, t3, t4, t10, t11, t12, hw3, n3, hob, k3⟩ hK
    have hsum := sum_take (xs := xs) j
    simp -implicitDefEqProofs (disch := first | assumption | (simp only [Mem.push_nxt, Mem.set_nxt, Mem.kill_nxt]; done) | (simp only [Mem.push_nxt, Mem.set_nxt, Mem.kill_nxt]; omega) | omega | fail) [rc4_1, AbW_skip, AbW_run, AbW_seq, AbW_condR, condR_true, condR_false, AbW_block, AbW_loop, AbW_exit, AbW_ret, thenA_normal, thenA_exit, thenA_ret, inBlockA_normal, inBlockA_exit, inBlockA_ret, bodyA_normalR, bodyA_retR, retV, RS_nil, RS_consG, guardR_true, guardR_false, contK_at, SK_rr, bindR_some, SK_a, SK_cc, callR_some, SK_al, SK_bx, wantD_none, wantD_some, wantB_bool, wantB_undef, stabOk, dR_lenl, dR_ia, dR_b2s, slen_sl, dR.eq_1, dR.eq_2, dR.eq_3, dR.eq_4, dR.eq_5, dR.eq_6, dR.eq_7, dR.eq_8, dR.eq_9, dR.eq_10, dR.eq_11, dR.eq_12, dR.eq_13, dR.eq_14, dR.eq_16, dR.eq_17, dR.eq_18, dR.eq_19, dR.eq_21, dR.eq_22, dR.eq_24, dR.eq_25, dR.eq_26, dR.eq_27, dR.eq_28, dR.eq_29, dR.eq_30, dC, ev, frA_at, fillD, pickCells, cellsV_agg, cellsV_bool, cellsV_int, cellsV_str, cellsV_ptr, cellsV_sl, cellsV_slV, cellsV_map, cellsV_iface, cellsV_nili, cellsV_func, cellsV_nilf, lenV_sl, lenV_str, oneC_slV, putAt, bnd, slD, List.getElem?_cons_zero, List.getElem?_cons_succ, dR.eq_20, Mem.cell, Mem.row, cells_own, cells_ro, natNe, Mem.push_get, Mem.set_get, Mem.kill_other, Mem.push_nxt, Mem.set_nxt, Mem.kill_nxt, t11, t12]
    by_cases hjl : j < xs.length
    · have hv3 : SlR m3 1 v (xs.flatMap fun x => [x.1]) xs.length := hv.keep fun b hb => k3 b (hvb b hb)
      obtain ⟨bi, bo, L, hvv, hL, hLl, -, hLc⟩ := hv3.at hjl
      have hc := hLc 0 (by omega)
      rw [flat_at' (f := fun x : Value × List Int => [x.1]) (k := 1) (fun _ => rfl) xs (List.getElem?_eq_getElem hjl) (by omega)] at hc
      simp only [Nat.mul_one, Nat.add_zero, List.getElem?_cons_zero] at hc
      obtain ⟨hlt', hc'⟩ := List.getElem?_eq_some_iff.1 hc
      obtain ⟨x, hxj⟩ : ∃ x, xs[j] = x := ⟨_, rfl⟩
      rw [hxj] at hc hc'
      obtain ⟨r1, r2, r3⟩ := hx x (by rw [← hxj]; exact List.getElem_mem hjl)
      have r1' : SlR m3 1 x.1 (x.2.flatMap u8c) x.2.length := r1.keep fun b hb => k3 b (r3 b hb)
      have hvbi : bi < m3.next := Nat.lt_of_lt_of_le (hvb bi (by rw [hvv]; rfl)) n3
      rw [hvv] at t10
      have htk : (xs.take (j + 1)).flatMap (·.2) = (xs.take j).flatMap (·.2) ++ x.2 := by
        rw [List.take_succ_eq_append_getElem hjl, List.flatMap_append, hxj]; simp
      have hsum1 := sum_take (xs := xs) (j + 1)
      rw [htk, List.length_append] at hsum1
      generalize (xs.take j).flatMap (·.2) = B at *
      simp -implicitDefEqProofs (disch := first | assumption | (simp only [Mem.push_nxt, Mem.set_nxt, Mem.kill_nxt]; done) | (simp only [Mem.push_nxt, Mem.set_nxt, Mem.kill_nxt]; omega) | omega | fail) [hjl, rc4_0, AbW_skip, AbW_run, AbW_seq, AbW_condR, condR_true, condR_false, AbW_block, AbW_loop, AbW_exit, AbW_ret, thenA_normal, thenA_exit, thenA_ret, inBlockA_normal, inBlockA_exit, inBlockA_ret, bodyA_normalR, bodyA_retR, retV, RS_nil, RS_consG, guardR_true, guardR_false, contK_at, SK_rr, bindR_some, SK_a, SK_cc, callR_some, SK_al, SK_bx, wantD_none, wantD_some, wantB_bool, wantB_undef, stabOk, dR_lenl, dR_ia, dR_b2s, slen_sl, dR.eq_1, dR.eq_2, dR.eq_3, dR.eq_4, dR.eq_5, dR.eq_6, dR.eq_7, dR.eq_8, dR.eq_9, dR.eq_10, dR.eq_11, dR.eq_12, dR.eq_13, dR.eq_14, dR.eq_16, dR.eq_17, dR.eq_18, dR.eq_19, dR.eq_21, dR.eq_22, dR.eq_24, dR.eq_25, dR.eq_26, dR.eq_27, dR.eq_28, dR.eq_29, dR.eq_30, dC, ev, frA_at, fillD, pickCells, cellsV_agg, cellsV_bool, cellsV_int, cellsV_str, cellsV_ptr, cellsV_sl, cellsV_slV, cellsV_map, cellsV_iface, cellsV_nili, cellsV_func, cellsV_nilf, lenV_sl, lenV_str, oneC_slV, putAt, bnd, slD, List.getElem?_cons_zero, List.getElem?_cons_succ, dR.eq_20, Mem.cell, Mem.row, cells_own, cells_ro, natNe, Mem.push_get, Mem.set_get, Mem.kill_other, Mem.push_nxt, Mem.set_nxt, Mem.kill_nxt, t3, t10, t12, sidx_at, hL, hc, hc', r1'.bstr]
      refine c_Pass hw3 r1' ?_ ?_ (by rw [plainM_len]; omega) (by omega) fun m4 obm' obo p1 p2 p3 p4 p5 p6 => ?_
      · intro hb
        have := r3 _ hb
        omega
      · intro b hb
        have := r3 b hb
        refine ⟨fun e => ?_, by omega⟩
        have := hob b e
        omega
      rw [runM_nil _ _ r2] at p1 p2 ⊢
      rw [plainM_len] at p2 ⊢
      rw [plainM_bytes] at p2
      have k4 : ∀ i, i < m.next → m4.get i = m.get i := fun i hi => by
        rw [p6 i (by omega) (by omega) (fun e => by have := hob i e; omega), k3 i hi]
      have r1'' : SlR m4 1 x.1 (x.2.flatMap u8c) x.2.length := r1.keep fun b hb => k4 b (r3 b hb)
      simp -implicitDefEqProofs (disch := first | assumption | (simp only [Mem.push_nxt, Mem.set_nxt, Mem.kill_nxt]; done) | (simp only [Mem.push_nxt, Mem.set_nxt, Mem.kill_nxt]; omega) | omega | fail) [AbW_skip, AbW_run, AbW_seq, AbW_condR, condR_true, condR_false, AbW_block, AbW_loop, AbW_exit, AbW_ret, thenA_normal, thenA_exit, thenA_ret, inBlockA_normal, inBlockA_exit, inBlockA_ret, bodyA_normalR, bodyA_retR, retV, RS_nil, RS_consG, guardR_true, guardR_false, contK_at, SK_rr, bindR_some, SK_a, SK_cc, callR_some, SK_al, SK_bx, wantD_none, wantD_some, wantB_bool, wantB_undef, stabOk, dR_lenl, dR_ia, dR_b2s, slen_sl, dR.eq_1, dR.eq_2, dR.eq_3, dR.eq_4, dR.eq_5, dR.eq_6, dR.eq_7, dR.eq_8, dR.eq_9, dR.eq_10, dR.eq_11, dR.eq_12, dR.eq_13, dR.eq_14, dR.eq_16, dR.eq_17, dR.eq_18, dR.eq_19, dR.eq_21, dR.eq_22, dR.eq_24, dR.eq_25, dR.eq_26, dR.eq_27, dR.eq_28, dR.eq_29, dR.eq_30, dC, ev, frA_at, fillD, pickCells, cellsV_agg, cellsV_bool, cellsV_int, cellsV_str, cellsV_ptr, cellsV_sl, cellsV_slV, cellsV_map, cellsV_iface, cellsV_nili, cellsV_func, cellsV_nilf, lenV_sl, lenV_str, oneC_slV, putAt, bnd, slD, List.getElem?_cons_zero, List.getElem?_cons_succ, dR.eq_20, Mem.cell, Mem.row, cells_own, cells_ro, natNe, Mem.push_get, Mem.set_get, Mem.kill_other, Mem.push_nxt, Mem.set_nxt, Mem.kill_nxt, r1''.bstr, p2.read.bstr, t4, r1.slen]
      rw [w64 (by omega)]
      simp -implicitDefEqProofs (disch := first | assumption | (simp only [Mem.push_nxt, Mem.set_nxt, Mem.kill_nxt]; done) | (simp only [Mem.push_nxt, Mem.set_nxt, Mem.kill_nxt]; omega) | omega | fail) [AbW_skip, AbW_run, AbW_seq, AbW_condR, condR_true, condR_false, AbW_block, AbW_loop, AbW_exit, AbW_ret, thenA_normal, thenA_exit, thenA_ret, inBlockA_normal, inBlockA_exit, inBlockA_ret, bodyA_normalR, bodyA_retR, retV, RS_nil, RS_consG, guardR_true, guardR_false, contK_at, SK_rr, bindR_some, SK_a, SK_cc, callR_some, SK_al, SK_bx, wantD_none, wantD_some, wantB_bool, wantB_undef, stabOk, dR_lenl, dR_ia, dR_b2s, slen_sl, dR.eq_1, dR.eq_2, dR.eq_3, dR.eq_4, dR.eq_5, dR.eq_6, dR.eq_7, dR.eq_8, dR.eq_9, dR.eq_10, dR.eq_11, dR.eq_12, dR.eq_13, dR.eq_14, dR.eq_16, dR.eq_17, dR.eq_18, dR.eq_19, dR.eq_21, dR.eq_22, dR.eq_24, dR.eq_25, dR.eq_26, dR.eq_27, dR.eq_28, dR.eq_29, dR.eq_30, dC, ev, frA_at, fillD, pickCells, cellsV_agg, cellsV_bool, cellsV_int, cellsV_str, cellsV_ptr, cellsV_sl, cellsV_slV, cellsV_map, cellsV_iface, cellsV_nili, cellsV_func, cellsV_nilf, lenV_sl, lenV_str, oneC_slV, putAt, bnd, slD, List.getElem?_cons_zero, List.getElem?_cons_succ, dR.eq_20, Mem.cell, Mem.row, cells_own, cells_ro, natNe, Mem.push_get, Mem.set_get, Mem.kill_other, Mem.push_nxt, Mem.set_nxt, Mem.kill_nxt, t12]
      rw [w64 (by omega)]
      refine hK (k - 1) _ m4 (by omega) ⟨j + 1, obm', by omega, by simp [t0], by simp [t3], ?_, by simp [t10, hvv], by simp [t11], by simp, ?_, by omega, ?_, k4⟩
      · simp only [htk, List.length_append]; simp
      · rw [htk, plainM_append, List.length_append]
        simpa using p1
      · intro b hb
        rcases p4 b hb with h | h
        · exact hob b h
        · omega
    · have hjj : j = xs.length := by omega
      subst hjj
      rw [List.take_length] at hw3 t4 hsum
      generalize xs.flatMap (·.2) = B at *
      have hcl := clean_plain B
      obtain ⟨oba, s3, s4, s5, s9⟩ := hw3
      have hw3 : WS m3 W [] B.length (plainM 0 B) obm := ⟨oba, s3, s4, s5, s9⟩
      simp -implicitDefEqProofs (disch := first | assumption | (simp only [Mem.push_nxt, Mem.set_nxt, Mem.kill_nxt]; done) | (simp only [Mem.push_nxt, Mem.set_nxt, Mem.kill_nxt]; omega) | omega | fail) [rc4_2, AbW_skip, AbW_run, AbW_seq, AbW_condR, condR_true, condR_false, AbW_block, AbW_loop, AbW_exit, AbW_ret, thenA_normal, thenA_exit, thenA_ret, inBlockA_normal, inBlockA_exit, inBlockA_ret, bodyA_normalR, bodyA_retR, retV, RS_nil, RS_consG, guardR_true, guardR_false, contK_at, SK_rr, bindR_some, SK_a, SK_cc, callR_some, SK_al, SK_bx, wantD_none, wantD_some, wantB_bool, wantB_undef, stabOk, dR_lenl, dR_ia, dR_b2s, slen_sl, dR.eq_1, dR.eq_2, dR.eq_3, dR.eq_4, dR.eq_5, dR.eq_6, dR.eq_7, dR.eq_8, dR.eq_9, dR.eq_10, dR.eq_11, dR.eq_12, dR.eq_13, dR.eq_14, dR.eq_16, dR.eq_17, dR.eq_18, dR.eq_19, dR.eq_21, dR.eq_22, dR.eq_24, dR.eq_25, dR.eq_26, dR.eq_27, dR.eq_28, dR.eq_29, dR.eq_30, dC, ev, frA_at, fillD, pickCells, cellsV_agg, cellsV_bool, cellsV_int, cellsV_str, cellsV_ptr, cellsV_sl, cellsV_slV, cellsV_map, cellsV_iface, cellsV_nili, cellsV_func, cellsV_nilf, lenV_sl, lenV_str, oneC_slV, putAt, bnd, slD, List.getElem?_cons_zero, List.getElem?_cons_succ, dR.eq_20, Mem.cell, Mem.row, cells_own, cells_ro, natNe, Mem.push_get, Mem.set_get, Mem.kill_other, Mem.push_nxt, Mem.set_nxt, Mem.kill_nxt, t3, t4]
      refine c_Clean hw3 (by rw [plainM_len]; omega) fun m4 a1 a2 => ?_
      rw [hcl]
      simp -implicitDefEqProofs (disch := first | assumption | (simp only [Mem.push_nxt, Mem.set_nxt, Mem.kill_nxt]; done) | (simp only [Mem.push_nxt, Mem.set_nxt, Mem.kill_nxt]; omega) | omega | fail) [AbW_skip, AbW_run, AbW_seq, AbW_condR, condR_true, condR_false, AbW_block, AbW_loop, AbW_exit, AbW_ret, thenA_normal, thenA_exit, thenA_ret, inBlockA_normal, inBlockA_exit, inBlockA_ret, bodyA_normalR, bodyA_retR, retV, RS_nil, RS_consG, guardR_true, guardR_false, contK_at, SK_rr, bindR_some, SK_a, SK_cc, callR_some, SK_al, SK_bx, wantD_none, wantD_some, wantB_bool, wantB_undef, stabOk, dR_lenl, dR_ia, dR_b2s, slen_sl, dR.eq_1, dR.eq_2, dR.eq_3, dR.eq_4, dR.eq_5, dR.eq_6, dR.eq_7, dR.eq_8, dR.eq_9, dR.eq_10, dR.eq_11, dR.eq_12, dR.eq_13, dR.eq_14, dR.eq_16, dR.eq_17, dR.eq_18, dR.eq_19, dR.eq_21, dR.eq_22, dR.eq_24, dR.eq_25, dR.eq_26, dR.eq_27, dR.eq_28, dR.eq_29, dR.eq_30, dC, ev, frA_at, fillD, pickCells, cellsV_agg, cellsV_bool, cellsV_int, cellsV_str, cellsV_ptr, cellsV_sl, cellsV_slV, cellsV_map, cellsV_iface, cellsV_nili, cellsV_func, cellsV_nilf, lenV_sl, lenV_str, oneC_slV, putAt, bnd, slD, List.getElem?_cons_zero, List.getElem?_cons_succ, dR.eq_20, Mem.cell, Mem.row, cells_own, cells_ro, natNe, Mem.push_get, Mem.set_get, Mem.kill_other, Mem.push_nxt, Mem.set_nxt, Mem.kill_nxt, t3, t4]
      have hw4 := hw3.step a1 a2
      obtain ⟨oba, s3, s4, s5, s9⟩ := hw4
      have hw4 : WS m4 W [] B.length (plainM 0 B) obm := ⟨oba, s3, s4, s5, s9⟩
      refine c_Sent s3 ?_
      simp -implicitDefEqProofs (disch := first | assumption | (simp only [Mem.push_nxt, Mem.set_nxt, Mem.kill_nxt]; done) | (simp only [Mem.push_nxt, Mem.set_nxt, Mem.kill_nxt]; omega) | omega | fail) [AbW_skip, AbW_run, AbW_seq, AbW_condR, condR_true, condR_false, AbW_block, AbW_loop, AbW_exit, AbW_ret, thenA_normal, thenA_exit, thenA_ret, inBlockA_normal, inBlockA_exit, inBlockA_ret, bodyA_normalR, bodyA_retR, retV, RS_nil, RS_consG, guardR_true, guardR_false, contK_at, SK_rr, bindR_some, SK_a, SK_cc, callR_some, SK_al, SK_bx, wantD_none, wantD_some, wantB_bool, wantB_undef, stabOk, dR_lenl, dR_ia, dR_b2s, slen_sl, dR.eq_1, dR.eq_2, dR.eq_3, dR.eq_4, dR.eq_5, dR.eq_6, dR.eq_7, dR.eq_8, dR.eq_9, dR.eq_10, dR.eq_11, dR.eq_12, dR.eq_13, dR.eq_14, dR.eq_16, dR.eq_17, dR.eq_18, dR.eq_19, dR.eq_21, dR.eq_22, dR.eq_24, dR.eq_25, dR.eq_26, dR.eq_27, dR.eq_28, dR.eq_29, dR.eq_30, dC, ev, frA_at, fillD, pickCells, cellsV_agg, cellsV_bool, cellsV_int, cellsV_str, cellsV_ptr, cellsV_sl, cellsV_slV, cellsV_map, cellsV_iface, cellsV_nili, cellsV_func, cellsV_nilf, lenV_sl, lenV_str, oneC_slV, putAt, bnd, slD, List.getElem?_cons_zero, List.getElem?_cons_succ, dR.eq_20, Mem.cell, Mem.row, cells_own, cells_ro, natNe, Mem.push_get, Mem.set_get, Mem.kill_other, Mem.push_nxt, Mem.set_nxt, Mem.kill_nxt, t3, t4]
      refine c_Marks hw4 (by rw [plainM_len]; omega) fun m5 ob b1 b2 b3 b4 => ?_
      have e5 := b1.slen
      rw [plainM_len] at e5 ⊢
      simp -implicitDefEqProofs (disch := first | assumption | (simp only [Mem.push_nxt, Mem.set_nxt, Mem.kill_nxt]; done) | (simp only [Mem.push_nxt, Mem.set_nxt, Mem.kill_nxt]; omega) | omega | fail) [AbW_skip, AbW_run, AbW_seq, AbW_condR, condR_true, condR_false, AbW_block, AbW_loop, AbW_exit, AbW_ret, thenA_normal, thenA_exit, thenA_ret, inBlockA_normal, inBlockA_exit, inBlockA_ret, bodyA_normalR, bodyA_retR, retV, RS_nil, RS_consG, guardR_true, guardR_false, contK_at, SK_rr, bindR_some, SK_a, SK_cc, callR_some, SK_al, SK_bx, wantD_none, wantD_some, wantB_bool, wantB_undef, stabOk, dR_lenl, dR_ia, dR_b2s, slen_sl, dR.eq_1, dR.eq_2, dR.eq_3, dR.eq_4, dR.eq_5, dR.eq_6, dR.eq_7, dR.eq_8, dR.eq_9, dR.eq_10, dR.eq_11, dR.eq_12, dR.eq_13, dR.eq_14, dR.eq_16, dR.eq_17, dR.eq_18, dR.eq_19, dR.eq_21, dR.eq_22, dR.eq_24, dR.eq_25, dR.eq_26, dR.eq_27, dR.eq_28, dR.eq_29, dR.eq_30, dC, ev, frA_at, fillD, pickCells, cellsV_agg, cellsV_bool, cellsV_int, cellsV_str, cellsV_ptr, cellsV_sl, cellsV_slV, cellsV_map, cellsV_iface, cellsV_nili, cellsV_func, cellsV_nilf, lenV_sl, lenV_str, oneC_slV, putAt, bnd, slD, List.getElem?_cons_zero, List.getElem?_cons_succ, dR.eq_20, Mem.cell, Mem.row, cells_own, cells_ro, natNe, Mem.push_get, Mem.set_get, Mem.kill_other, Mem.push_nxt, Mem.set_nxt, Mem.kill_nxt, t3, t4, e5, plainM_len]
end Go.Proofs.Ytebgffkiahmhfaa.Ab
