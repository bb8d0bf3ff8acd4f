/- Bytes and texts; the document's examples. -/
import Derived.Test.YtebgffkiahmhfaaAbw4
set_option linter.unusedVariables false
set_option linter.unusedSimpArgs false
namespace Go.Proofs.Ytebgffkiahmhfaa.Ab
open Go Go.RowKit
set_option maxHeartbeats 1000000

def isB (c : Int) : Prop := 0 ≤ c ∧ c < 256
def toB (c : Int) : UInt8 := UInt8.ofNat c.toNat
def strB (bs : List Int) : ByteArray := ⟨(bs.map toB).toArray⟩
theorem bytesOf_u8 : ∀ (bs : List Int), bytesOf (bs.flatMap u8c) = some (bs.map toB)
  | [] => rfl
  | c :: bs => by
    have h1 := bytesOf_u8 bs
    show (bytesOf (bs.flatMap u8c)).map _ = _
    rw [h1]; rfl
theorem SlR.bstr {m : Mem} {v : Value} {bs : List Int} (h : SlR m 1 v (bs.flatMap u8c) bs.length) : bstr m v = some (.string (strB bs)) := by
  obtain ⟨h1, ⟨h0, h2⟩ | ⟨i, o, L, rfl, h2, h3, h4⟩⟩ := h
  · have : bs = [] := by simpa using h0
    subst this
    rcases h2 with rfl | rfl <;> rfl
  · simp only [Ab.bstr, Mem.row, h2]
    rw [Nat.mul_one] at h3 h4
    rw [if_pos h3, h4]
    simp only [bytesOf_u8 bs]
    rfl
theorem xor_isB (a b : Int) : isB (xorK .u8 a b) := by
  unfold isB xorK
  rw [IntKind.wrap_u8]
  omega
theorem toB_toNat {c : Int} (h : isB c) : ((toB c).toNat : Int) = c := by
  obtain ⟨h1, h2⟩ := h
  simp [toB]; omega
theorem toB_inj {a b : Int} (ha : isB a) (hb : isB b) (h : toB a = toB b) : a = b := by rw [← toB_toNat ha, ← toB_toNat hb, h]
theorem map_toB_inj : ∀ {a b : List Int}, (∀ c ∈ a, isB c) → (∀ c ∈ b, isB c) → a.map toB = b.map toB → a = b
  | [], [], _, _, _ => rfl
  | [], _ :: _, _, _, h => by simp at h
  | _ :: _, [], _, _, h => by simp at h
  | x :: a, y :: b, ha, hb, h => by
    simp only [List.map_cons, List.cons.injEq] at h
    rw [toB_inj (ha x (by simp)) (hb y (by simp)) h.1, map_toB_inj (fun c hc => ha c (by simp [hc])) (fun c hc => hb c (by simp [hc])) h.2]
theorem strB_toList (bs : List Int) : (strB bs).toList = bs.map toB := by
  simp [strB, ByteArray.toList_eq]

theorem c_awake {w0 : World} {m : Mem} {Q : Value → Mem → Prop} (hq : ∀ m', m.next ≤ m'.next → (∀ i, i < m.next → m'.get i = m.get i) → Q (.bool true) m') : AbC Try.prog w0 9 [] m Q := by
  refine AbC_fn ok9 (by simp) ?_
  simp -implicitDefEqProofs (disch := first | assumption | (simp only [Mem.push_nxt, Mem.set_nxt, Mem.kill_nxt]; done) | (simp only [Mem.push_nxt, Mem.set_nxt, Mem.kill_nxt]; omega) | omega | fail) [rc9, ro9, AbW_skip, AbW_run, AbW_seq, AbW_condR, condR_true, condR_false, AbW_block, AbW_loop, AbW_exit, AbW_ret, thenA_normal, thenA_exit, thenA_ret, inBlockA_normal, inBlockA_exit, inBlockA_ret, bodyA_normalR, bodyA_retR, retV, RS_nil, RS_consG, guardR_true, guardR_false, contK_at, SK_rr, bindR_some, SK_a, SK_cc, callR_some, SK_al, SK_bx, wantD_none, wantD_some, wantB_bool, wantB_undef, stabOk, dR_lenl, dR_ia, dR_b2s, slen_sl, dR.eq_1, dR.eq_2, dR.eq_3, dR.eq_4, dR.eq_5, dR.eq_6, dR.eq_7, dR.eq_8, dR.eq_9, dR.eq_10, dR.eq_11, dR.eq_12, dR.eq_13, dR.eq_14, dR.eq_16, dR.eq_17, dR.eq_18, dR.eq_19, dR.eq_21, dR.eq_22, dR.eq_24, dR.eq_25, dR.eq_26, dR.eq_27, dR.eq_28, dR.eq_29, dR.eq_30, dC, ev, frA_at, fillD, pickCells, cellsV_agg, cellsV_bool, cellsV_int, cellsV_str, cellsV_ptr, cellsV_sl, cellsV_slV, cellsV_map, cellsV_iface, cellsV_nili, cellsV_func, cellsV_nilf, lenV_sl, lenV_str, oneC_slV, putAt, bnd, slD, List.getElem?_cons_zero, List.getElem?_cons_succ, dR.eq_20, Mem.cell, Mem.row, cells_own, cells_ro, natNe, Mem.push_get, Mem.set_get, Mem.kill_other, Mem.push_nxt, Mem.set_nxt, Mem.kill_nxt]
  rw [SK_bsl (cs := [⟨false, 0, false, 0⟩, ⟨true, 0, false, 0⟩].flatMap Ac.cells) (by simp [AbW_skip, AbW_run, AbW_seq, AbW_condR, condR_true, condR_false, AbW_block, AbW_loop, AbW_exit, AbW_ret, thenA_normal, thenA_exit, thenA_ret, inBlockA_normal, inBlockA_exit, inBlockA_ret, bodyA_normalR, bodyA_retR, retV, RS_nil, RS_consG, guardR_true, guardR_false, contK_at, SK_rr, bindR_some, SK_a, SK_cc, callR_some, SK_al, SK_bx, wantD_none, wantD_some, wantB_bool, wantB_undef, stabOk, dR_lenl, dR_ia, dR_b2s, slen_sl, dR.eq_1, dR.eq_2, dR.eq_3, dR.eq_4, dR.eq_5, dR.eq_6, dR.eq_7, dR.eq_8, dR.eq_9, dR.eq_10, dR.eq_11, dR.eq_12, dR.eq_13, dR.eq_14, dR.eq_16, dR.eq_17, dR.eq_18, dR.eq_19, dR.eq_21, dR.eq_22, dR.eq_24, dR.eq_25, dR.eq_26, dR.eq_27, dR.eq_28, dR.eq_29, dR.eq_30, dC, ev, frA_at, fillD, pickCells, cellsV_agg, cellsV_bool, cellsV_int, cellsV_str, cellsV_ptr, cellsV_sl, cellsV_slV, cellsV_map, cellsV_iface, cellsV_nili, cellsV_func, cellsV_nilf, lenV_sl, lenV_str, oneC_slV, putAt, bnd, slD, List.getElem?_cons_zero, List.getElem?_cons_succ, dR.eq_20, Ac.cells]) (by simp [Ac.cells])]
  simp -implicitDefEqProofs (disch := first | assumption | (simp only [Mem.push_nxt, Mem.set_nxt, Mem.kill_nxt]; done) | (simp only [Mem.push_nxt, Mem.set_nxt, Mem.kill_nxt]; omega) | omega | fail) [AbW_skip, AbW_run, AbW_seq, AbW_condR, condR_true, condR_false, AbW_block, AbW_loop, AbW_exit, AbW_ret, thenA_normal, thenA_exit, thenA_ret, inBlockA_normal, inBlockA_exit, inBlockA_ret, bodyA_normalR, bodyA_retR, retV, RS_nil, RS_consG, guardR_true, guardR_false, contK_at, SK_rr, bindR_some, SK_a, SK_cc, callR_some, SK_al, SK_bx, wantD_none, wantD_some, wantB_bool, wantB_undef, stabOk, dR_lenl, dR_ia, dR_b2s, slen_sl, dR.eq_1, dR.eq_2, dR.eq_3, dR.eq_4, dR.eq_5, dR.eq_6, dR.eq_7, dR.eq_8, dR.eq_9, dR.eq_10, dR.eq_11, dR.eq_12, dR.eq_13, dR.eq_14, dR.eq_16, dR.eq_17, dR.eq_18, dR.eq_19, dR.eq_21, dR.eq_22, dR.eq_24, dR.eq_25, dR.eq_26, dR.eq_27, dR.eq_28, dR.eq_29, dR.eq_30, dC, ev, frA_at, fillD, pickCells, cellsV_agg, cellsV_bool, cellsV_int, cellsV_str, cellsV_ptr, cellsV_sl, cellsV_slV, cellsV_map, cellsV_iface, cellsV_nili, cellsV_func, cellsV_nilf, lenV_sl, lenV_str, oneC_slV, putAt, bnd, slD, List.getElem?_cons_zero, List.getElem?_cons_succ, dR.eq_20, Mem.cell, Mem.row, cells_own, cells_ro, natNe, Mem.push_get, Mem.set_get, Mem.kill_other, Mem.push_nxt, Mem.set_nxt, Mem.kill_nxt]
  refine c_Of (acts := [⟨false, 0, false, 0⟩, ⟨true, 0, false, 0⟩]) ?_ (by simp) fun m1 W q1 q2 q3 q4 => ?_
  · exact SlO.read (ob := some m.next) (SlO.new (by simp [Ac.cells]))
  simp at q1 q2
  simp -implicitDefEqProofs (disch := first | assumption | (simp only [Mem.push_nxt, Mem.set_nxt, Mem.kill_nxt]; done) | (simp only [Mem.push_nxt, Mem.set_nxt, Mem.kill_nxt]; omega) | omega | fail) [AbW_skip, AbW_run, AbW_seq, AbW_condR, condR_true, condR_false, AbW_block, AbW_loop, AbW_exit, AbW_ret, thenA_normal, thenA_exit, thenA_ret, inBlockA_normal, inBlockA_exit, inBlockA_ret, bodyA_normalR, bodyA_retR, retV, RS_nil, RS_consG, guardR_true, guardR_false, contK_at, SK_rr, bindR_some, SK_a, SK_cc, callR_some, SK_al, SK_bx, wantD_none, wantD_some, wantB_bool, wantB_undef, stabOk, dR_lenl, dR_ia, dR_b2s, slen_sl, dR.eq_1, dR.eq_2, dR.eq_3, dR.eq_4, dR.eq_5, dR.eq_6, dR.eq_7, dR.eq_8, dR.eq_9, dR.eq_10, dR.eq_11, dR.eq_12, dR.eq_13, dR.eq_14, dR.eq_16, dR.eq_17, dR.eq_18, dR.eq_19, dR.eq_21, dR.eq_22, dR.eq_24, dR.eq_25, dR.eq_26, dR.eq_27, dR.eq_28, dR.eq_29, dR.eq_30, dC, ev, frA_at, fillD, pickCells, cellsV_agg, cellsV_bool, cellsV_int, cellsV_str, cellsV_ptr, cellsV_sl, cellsV_slV, cellsV_map, cellsV_iface, cellsV_nili, cellsV_func, cellsV_nilf, lenV_sl, lenV_str, oneC_slV, putAt, bnd, slD, List.getElem?_cons_zero, List.getElem?_cons_succ, dR.eq_20, dEq]
  simp -implicitDefEqProofs (disch := first | assumption | (simp only [Mem.push_nxt, Mem.set_nxt, Mem.kill_nxt]; done) | (simp only [Mem.push_nxt, Mem.set_nxt, Mem.kill_nxt]; omega) | omega | fail) [rc9_0, AbW_skip, AbW_run, AbW_seq, AbW_condR, condR_true, condR_false, AbW_block, AbW_loop, AbW_exit, AbW_ret, thenA_normal, thenA_exit, thenA_ret, inBlockA_normal, inBlockA_exit, inBlockA_ret, bodyA_normalR, bodyA_retR, retV, RS_nil, RS_consG, guardR_true, guardR_false, contK_at, SK_rr, bindR_some, SK_a, SK_cc, callR_some, SK_al, SK_bx, wantD_none, wantD_some, wantB_bool, wantB_undef, stabOk, dR_lenl, dR_ia, dR_b2s, slen_sl, dR.eq_1, dR.eq_2, dR.eq_3, dR.eq_4, dR.eq_5, dR.eq_6, dR.eq_7, dR.eq_8, dR.eq_9, dR.eq_10, dR.eq_11, dR.eq_12, dR.eq_13, dR.eq_14, dR.eq_16, dR.eq_17, dR.eq_18, dR.eq_19, dR.eq_21, dR.eq_22, dR.eq_24, dR.eq_25, dR.eq_26, dR.eq_27, dR.eq_28, dR.eq_29, dR.eq_30, dC, ev, frA_at, fillD, pickCells, cellsV_agg, cellsV_bool, cellsV_int, cellsV_str, cellsV_ptr, cellsV_sl, cellsV_slV, cellsV_map, cellsV_iface, cellsV_nili, cellsV_func, cellsV_nilf, lenV_sl, lenV_str, oneC_slV, putAt, bnd, slD, List.getElem?_cons_zero, List.getElem?_cons_succ, dR.eq_20]
  rw [SK_bsl (cs := [1, 2, 3].flatMap u8c) (by simp [AbW_skip, AbW_run, AbW_seq, AbW_condR, condR_true, condR_false, AbW_block, AbW_loop, AbW_exit, AbW_ret, thenA_normal, thenA_exit, thenA_ret, inBlockA_normal, inBlockA_exit, inBlockA_ret, bodyA_normalR, bodyA_retR, retV, RS_nil, RS_consG, guardR_true, guardR_false, contK_at, SK_rr, bindR_some, SK_a, SK_cc, callR_some, SK_al, SK_bx, wantD_none, wantD_some, wantB_bool, wantB_undef, stabOk, dR_lenl, dR_ia, dR_b2s, slen_sl, dR.eq_1, dR.eq_2, dR.eq_3, dR.eq_4, dR.eq_5, dR.eq_6, dR.eq_7, dR.eq_8, dR.eq_9, dR.eq_10, dR.eq_11, dR.eq_12, dR.eq_13, dR.eq_14, dR.eq_16, dR.eq_17, dR.eq_18, dR.eq_19, dR.eq_21, dR.eq_22, dR.eq_24, dR.eq_25, dR.eq_26, dR.eq_27, dR.eq_28, dR.eq_29, dR.eq_30, dC, ev, frA_at, fillD, pickCells, cellsV_agg, cellsV_bool, cellsV_int, cellsV_str, cellsV_ptr, cellsV_sl, cellsV_slV, cellsV_map, cellsV_iface, cellsV_nili, cellsV_func, cellsV_nilf, lenV_sl, lenV_str, oneC_slV, putAt, bnd, slD, List.getElem?_cons_zero, List.getElem?_cons_succ, dR.eq_20, u8c]) (by simp [u8c])]
  simp -implicitDefEqProofs (disch := first | assumption | (simp only [Mem.push_nxt, Mem.set_nxt, Mem.kill_nxt]; done) | (simp only [Mem.push_nxt, Mem.set_nxt, Mem.kill_nxt]; omega) | omega | fail) [AbW_skip, AbW_run, AbW_seq, AbW_condR, condR_true, condR_false, AbW_block, AbW_loop, AbW_exit, AbW_ret, thenA_normal, thenA_exit, thenA_ret, inBlockA_normal, inBlockA_exit, inBlockA_ret, bodyA_normalR, bodyA_retR, retV, RS_nil, RS_consG, guardR_true, guardR_false, contK_at, SK_rr, bindR_some, SK_a, SK_cc, callR_some, SK_al, SK_bx, wantD_none, wantD_some, wantB_bool, wantB_undef, stabOk, dR_lenl, dR_ia, dR_b2s, slen_sl, dR.eq_1, dR.eq_2, dR.eq_3, dR.eq_4, dR.eq_5, dR.eq_6, dR.eq_7, dR.eq_8, dR.eq_9, dR.eq_10, dR.eq_11, dR.eq_12, dR.eq_13, dR.eq_14, dR.eq_16, dR.eq_17, dR.eq_18, dR.eq_19, dR.eq_21, dR.eq_22, dR.eq_24, dR.eq_25, dR.eq_26, dR.eq_27, dR.eq_28, dR.eq_29, dR.eq_30, dC, ev, frA_at, fillD, pickCells, cellsV_agg, cellsV_bool, cellsV_int, cellsV_str, cellsV_ptr, cellsV_sl, cellsV_slV, cellsV_map, cellsV_iface, cellsV_nili, cellsV_func, cellsV_nilf, lenV_sl, lenV_str, oneC_slV, putAt, bnd, slD, List.getElem?_cons_zero, List.getElem?_cons_succ, dR.eq_20, Mem.cell, Mem.row, cells_own, cells_ro, natNe, Mem.push_get, Mem.set_get, Mem.kill_other, Mem.push_nxt, Mem.set_nxt, Mem.kill_nxt]
  refine c_Pass (bs := [1, 2, 3]) (q3.step (m' := m1.push (.own ([1, 2, 3].flatMap u8c) 5)) (by simp) fun i hi => Mem.push_old _ _ hi) ?_ ?_ ?_ (by simp) (by simp) fun m2 obm obo p1 p2 p3 p4 p5 p6 => ?_
  · exact SlO.read (ob := some m1.next) (SlO.new (by simp [u8c]))
  · have := q3.choose_spec.2.2.2
    simp [blk]; omega
  · intro b hb
    simp [blk] at hb
    subst hb
    simp
  have hr : runM [⟨false, 0, false, 0⟩, ⟨true, 0, false, 0⟩] 0 [1, 2, 3] = [⟨1, 0, true⟩, ⟨3, 2, true⟩] := by rfl
  rw [hr] at p1 p2
  rw [hr]
  have hbs := SlR.bstr (bs := [1, 3]) (m := m2) (v := slV obo 2 1) (by simpa [u8c] using p2.read)
  obtain ⟨oba, s1, s2, s3, s4⟩ := p1
  have p1 : WS m2 W [⟨false, 0, false, 0⟩, ⟨true, 0, false, 0⟩] 3 [⟨1, 0, true⟩, ⟨3, 2, true⟩] obm := ⟨oba, s1, s2, s3, s4⟩
  have hs : (strB [1, 3]).toList = [1, 3] := by rw [strB_toList]; rfl
  simp -implicitDefEqProofs (disch := first | assumption | (simp only [Mem.push_nxt, Mem.set_nxt, Mem.kill_nxt]; done) | (simp only [Mem.push_nxt, Mem.set_nxt, Mem.kill_nxt]; omega) | omega | fail) [AbW_skip, AbW_run, AbW_seq, AbW_condR, condR_true, condR_false, AbW_block, AbW_loop, AbW_exit, AbW_ret, thenA_normal, thenA_exit, thenA_ret, inBlockA_normal, inBlockA_exit, inBlockA_ret, bodyA_normalR, bodyA_retR, retV, RS_nil, RS_consG, guardR_true, guardR_false, contK_at, SK_rr, bindR_some, SK_a, SK_cc, callR_some, SK_al, SK_bx, wantD_none, wantD_some, wantB_bool, wantB_undef, stabOk, dR_lenl, dR_ia, dR_b2s, slen_sl, dR.eq_1, dR.eq_2, dR.eq_3, dR.eq_4, dR.eq_5, dR.eq_6, dR.eq_7, dR.eq_8, dR.eq_9, dR.eq_10, dR.eq_11, dR.eq_12, dR.eq_13, dR.eq_14, dR.eq_16, dR.eq_17, dR.eq_18, dR.eq_19, dR.eq_21, dR.eq_22, dR.eq_24, dR.eq_25, dR.eq_26, dR.eq_27, dR.eq_28, dR.eq_29, dR.eq_30, dC, ev, frA_at, fillD, pickCells, cellsV_agg, cellsV_bool, cellsV_int, cellsV_str, cellsV_ptr, cellsV_sl, cellsV_slV, cellsV_map, cellsV_iface, cellsV_nili, cellsV_func, cellsV_nilf, lenV_sl, lenV_str, oneC_slV, putAt, bnd, slD, List.getElem?_cons_zero, List.getElem?_cons_succ, dR.eq_20, hbs, hs]
  refine c_Sent (n := 3) s1 ?_
  simp -implicitDefEqProofs (disch := first | assumption | (simp only [Mem.push_nxt, Mem.set_nxt, Mem.kill_nxt]; done) | (simp only [Mem.push_nxt, Mem.set_nxt, Mem.kill_nxt]; omega) | omega | fail) [AbW_skip, AbW_run, AbW_seq, AbW_condR, condR_true, condR_false, AbW_block, AbW_loop, AbW_exit, AbW_ret, thenA_normal, thenA_exit, thenA_ret, inBlockA_normal, inBlockA_exit, inBlockA_ret, bodyA_normalR, bodyA_retR, retV, RS_nil, RS_consG, guardR_true, guardR_false, contK_at, SK_rr, bindR_some, SK_a, SK_cc, callR_some, SK_al, SK_bx, wantD_none, wantD_some, wantB_bool, wantB_undef, stabOk, dR_lenl, dR_ia, dR_b2s, slen_sl, dR.eq_1, dR.eq_2, dR.eq_3, dR.eq_4, dR.eq_5, dR.eq_6, dR.eq_7, dR.eq_8, dR.eq_9, dR.eq_10, dR.eq_11, dR.eq_12, dR.eq_13, dR.eq_14, dR.eq_16, dR.eq_17, dR.eq_18, dR.eq_19, dR.eq_21, dR.eq_22, dR.eq_24, dR.eq_25, dR.eq_26, dR.eq_27, dR.eq_28, dR.eq_29, dR.eq_30, dC, ev, frA_at, fillD, pickCells, cellsV_agg, cellsV_bool, cellsV_int, cellsV_str, cellsV_ptr, cellsV_sl, cellsV_slV, cellsV_map, cellsV_iface, cellsV_nili, cellsV_func, cellsV_nilf, lenV_sl, lenV_str, oneC_slV, putAt, bnd, slD, List.getElem?_cons_zero, List.getElem?_cons_succ, dR.eq_20]
  refine c_Clean p1 (by simp) fun m3 k1 k2 => ?_
  have hc : cleanB [⟨1, 0, true⟩, ⟨3, 2, true⟩] 3 = false := by rfl
  rw [hc]
  simp -implicitDefEqProofs (disch := first | assumption | (simp only [Mem.push_nxt, Mem.set_nxt, Mem.kill_nxt]; done) | (simp only [Mem.push_nxt, Mem.set_nxt, Mem.kill_nxt]; omega) | omega | fail) [AbW_skip, AbW_run, AbW_seq, AbW_condR, condR_true, condR_false, AbW_block, AbW_loop, AbW_exit, AbW_ret, thenA_normal, thenA_exit, thenA_ret, inBlockA_normal, inBlockA_exit, inBlockA_ret, bodyA_normalR, bodyA_retR, retV, RS_nil, RS_consG, guardR_true, guardR_false, contK_at, SK_rr, bindR_some, SK_a, SK_cc, callR_some, SK_al, SK_bx, wantD_none, wantD_some, wantB_bool, wantB_undef, stabOk, dR_lenl, dR_ia, dR_b2s, slen_sl, dR.eq_1, dR.eq_2, dR.eq_3, dR.eq_4, dR.eq_5, dR.eq_6, dR.eq_7, dR.eq_8, dR.eq_9, dR.eq_10, dR.eq_11, dR.eq_12, dR.eq_13, dR.eq_14, dR.eq_16, dR.eq_17, dR.eq_18, dR.eq_19, dR.eq_21, dR.eq_22, dR.eq_24, dR.eq_25, dR.eq_26, dR.eq_27, dR.eq_28, dR.eq_29, dR.eq_30, dC, ev, frA_at, fillD, pickCells, cellsV_agg, cellsV_bool, cellsV_int, cellsV_str, cellsV_ptr, cellsV_sl, cellsV_slV, cellsV_map, cellsV_iface, cellsV_nili, cellsV_func, cellsV_nilf, lenV_sl, lenV_str, oneC_slV, putAt, bnd, slD, List.getElem?_cons_zero, List.getElem?_cons_succ, dR.eq_20]
  have p2 := p1.step k1 k2
  refine c_Marks p2 (by simp) fun m4 ob1 l1 l2 l3 l4 => ?_
  have e1 : slen (slV ob1 2 3) = some (.int .i64 2) := l1.slen
  simp -implicitDefEqProofs (disch := first | assumption | (simp only [Mem.push_nxt, Mem.set_nxt, Mem.kill_nxt]; done) | (simp only [Mem.push_nxt, Mem.set_nxt, Mem.kill_nxt]; omega) | omega | fail) [AbW_skip, AbW_run, AbW_seq, AbW_condR, condR_true, condR_false, AbW_block, AbW_loop, AbW_exit, AbW_ret, thenA_normal, thenA_exit, thenA_ret, inBlockA_normal, inBlockA_exit, inBlockA_ret, bodyA_normalR, bodyA_retR, retV, RS_nil, RS_consG, guardR_true, guardR_false, contK_at, SK_rr, bindR_some, SK_a, SK_cc, callR_some, SK_al, SK_bx, wantD_none, wantD_some, wantB_bool, wantB_undef, stabOk, dR_lenl, dR_ia, dR_b2s, slen_sl, dR.eq_1, dR.eq_2, dR.eq_3, dR.eq_4, dR.eq_5, dR.eq_6, dR.eq_7, dR.eq_8, dR.eq_9, dR.eq_10, dR.eq_11, dR.eq_12, dR.eq_13, dR.eq_14, dR.eq_16, dR.eq_17, dR.eq_18, dR.eq_19, dR.eq_21, dR.eq_22, dR.eq_24, dR.eq_25, dR.eq_26, dR.eq_27, dR.eq_28, dR.eq_29, dR.eq_30, dC, ev, frA_at, fillD, pickCells, cellsV_agg, cellsV_bool, cellsV_int, cellsV_str, cellsV_ptr, cellsV_sl, cellsV_slV, cellsV_map, cellsV_iface, cellsV_nili, cellsV_func, cellsV_nilf, lenV_sl, lenV_str, oneC_slV, putAt, bnd, slD, List.getElem?_cons_zero, List.getElem?_cons_succ, dR.eq_20, e1]
  refine c_Marks (p2.step l2 l4) (by simp) fun m5 ob2 l5 l6 l7 l8 => ?_
  obtain ⟨b, rfl⟩ : ∃ b, ob2 = some b := by
    cases ob2 with
    | none => have := l5.2; simp at this
    | some b => exact ⟨b, rfl⟩
  have hb : m5.get b = .own [.int .u8 1, .int .i64 0, .bool true, .int .u8 3, .int .i64 2, .bool true] 32 := l5.2.1
  simp -implicitDefEqProofs (disch := first | assumption | (simp only [Mem.push_nxt, Mem.set_nxt, Mem.kill_nxt]; done) | (simp only [Mem.push_nxt, Mem.set_nxt, Mem.kill_nxt]; omega) | omega | fail) [AbW_skip, AbW_run, AbW_seq, AbW_condR, condR_true, condR_false, AbW_block, AbW_loop, AbW_exit, AbW_ret, thenA_normal, thenA_exit, thenA_ret, inBlockA_normal, inBlockA_exit, inBlockA_ret, bodyA_normalR, bodyA_retR, retV, RS_nil, RS_consG, guardR_true, guardR_false, contK_at, SK_rr, bindR_some, SK_a, SK_cc, callR_some, SK_al, SK_bx, wantD_none, wantD_some, wantB_bool, wantB_undef, stabOk, dR_lenl, dR_ia, dR_b2s, slen_sl, dR.eq_1, dR.eq_2, dR.eq_3, dR.eq_4, dR.eq_5, dR.eq_6, dR.eq_7, dR.eq_8, dR.eq_9, dR.eq_10, dR.eq_11, dR.eq_12, dR.eq_13, dR.eq_14, dR.eq_16, dR.eq_17, dR.eq_18, dR.eq_19, dR.eq_21, dR.eq_22, dR.eq_24, dR.eq_25, dR.eq_26, dR.eq_27, dR.eq_28, dR.eq_29, dR.eq_30, dC, ev, frA_at, fillD, pickCells, cellsV_agg, cellsV_bool, cellsV_int, cellsV_str, cellsV_ptr, cellsV_sl, cellsV_slV, cellsV_map, cellsV_iface, cellsV_nili, cellsV_func, cellsV_nilf, lenV_sl, lenV_str, oneC_slV, putAt, bnd, slD, List.getElem?_cons_zero, List.getElem?_cons_succ, dR.eq_20, Mem.cell, Mem.row, cells_own, cells_ro, natNe, Mem.push_get, Mem.set_get, Mem.kill_other, Mem.push_nxt, Mem.set_nxt, Mem.kill_nxt, slV_some, hb, sidx, dEq, dEqs]
  simp at k1 p3
  refine hq m5 (by omega) fun i hi => ?_
  rw [l8 i (by omega), l4 i (by omega), k2 i (by omega), p6 i (by simp; omega) (by omega) (by simp), Mem.push_old _ _ (by omega), q4 i (by simp; omega), Mem.push_old _ _ hi]
end Go.Proofs.Ytebgffkiahmhfaa.Ab
