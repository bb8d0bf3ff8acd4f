/- Two wires side by side; bytes in two parts. -/
import Derived.Test.YtebgffkiahmhfaaAbw7
import Derived.Test.YtebgffkiahmhfaaAb21
set_option linter.unusedVariables false
set_option linter.unusedSimpArgs false
namespace Go.Proofs.Ytebgffkiahmhfaa.Ab
open Go Go.RowKit
set_option maxHeartbeats 1000000

theorem runM_append (acts : List Ac) : ∀ (a b : List Int) (n : Nat), runM acts n (a ++ b) = runM acts n a ++ runM acts (n + a.length) b
  | [], b, n => by simp [runM]
  | c :: a, b, n => by simp [runM, runM_append acts a b, Nat.add_assoc, Nat.add_comm 1]

theorem bytes_map (l : List Mk) : (l.flatMap fun k => u8c k.byte) = (l.map Mk.byte).flatMap u8c := by simp [List.flatMap_map]

/-- A wire stays as it is where another one is written. -/
theorem WS.keep {m m' : Mem} {W W2 n n2 : Nat} {acts acts2 : List Ac} {mk mk2 : List Mk} {ob ob2 : Option Nat} (h : WS m W acts n mk ob) (h2 : WS m W2 acts2 n2 mk2 ob2) (hne : W ≠ W2) (hob : ∀ b, ob = some b → ob2 ≠ some b)
    (hn : m.next ≤ m'.next) (hk : ∀ i, i < m.next → i ≠ W2 → ob2 ≠ some i → m'.get i = m.get i) : WS m' W acts n mk ob := by
  obtain ⟨oba, h3, h4, h5, h9⟩ := h
  obtain ⟨oba2, g3, g4, g5, g9⟩ := h2
  refine ⟨oba, ?_, h4.keep hn fun b hb => ?_, h5.keep hn fun b hb => ?_, by omega⟩
  · rw [hk W h9 hne (g5.ne h3 (by simp))]; exact h3
  · subst hb
    exact hk b h4.lt (own_ne h4.2.1 g3 (by decide)) (g5.ne h4.2.1 (by simp))
  · subst hb
    exact hk b h5.lt (own_ne h5.2.1 g3 (by decide)) (hob b rfl)

theorem strB_size (bs : List Int) : (strB bs).size = bs.length := by simp [strB, ByteArray.size]
theorem strB_append (a b : List Int) : strB a ++ strB b = strB (a ++ b) := by
  apply ByteArray.ext
  simp [strB]
theorem strB_add {a b : List Int} (h : a.length + b.length ≤ 9223372036854775807) : dBin .add (.string (strB a)) (.string (strB b)) = some (.string (strB (a ++ b))) := by
  rw [dBin_sadd (by rw [strB_size, strB_size]; exact h), strB_append]

/-- Bytes go through: what comes, as a text. -/
theorem c_PassS {w0 : World} {m : Mem} {W n : Nat} {acts : List Ac} {mk0 : List Mk} {obm0 : Option Nat} {v : Value} {bs : List Int} {Q : Value → Mem → Prop} (h : WS m W acts n mk0 obm0) (hb : SlR m 1 v (bs.flatMap u8c) bs.length)
    (hbW : blk v ≠ some W) (hbm : ∀ b, blk v = some b → obm0 ≠ some b ∧ b < m.next) (hl : mk0.length + 2 * bs.length + 2 < 1000000000) (hn : n + bs.length < 1000000000)
    (hq : ∀ m' obm obo, WS m' W acts (n + bs.length) (mk0 ++ runM acts n bs) obm → SlO m' 5 1 obo (((runM acts n bs).map Mk.byte).flatMap u8c) (runM acts n bs).length → bstr m' (slV obo (runM acts n bs).length 1) = some (.string (strB ((runM acts n bs).map Mk.byte))) → m.next ≤ m'.next →
      (∀ b, obm = some b → obm0 = some b ∨ m.next ≤ b) → (∀ b, obo = some b → m.next ≤ b) → (∀ i, i < m.next → i ≠ W → obm0 ≠ some i → m'.get i = m.get i) → Q (slV obo (runM acts n bs).length 1) m') :
    AbC Try.prog w0 11 [.pointer (some ⟨W, 0, none⟩), v] m Q := by
  refine c_Pass h hb hbW hbm hl hn fun m' obm obo p1 p2 p3 p4 p5 p6 => ?_
  rw [bytes_map] at p2
  refine hq m' obm obo p1 p2 ?_ p3 p4 p5 p6
  have := p2.read
  have e : (runM acts n bs).length = ((runM acts n bs).map Mk.byte).length := by simp
  rw [e] at this ⊢
  exact this.bstr

theorem u8_take : ∀ (bs : List Int) (k : Nat), (bs.flatMap u8c).take (k * 1) = (bs.take k).flatMap u8c
  | [], k => by simp
  | c :: bs, 0 => by simp
  | c :: bs, k + 1 => by
    have := u8_take bs k
    simp only [Nat.mul_one] at this ⊢
    simp [u8c] at this ⊢
    exact this
theorem u8_drop (bs : List Int) (k : Nat) : (bs.flatMap u8c).drop (k * 1) = (bs.drop k).flatMap u8c := flat_drop u8l bs k

theorem l_Parts {w0 : World} {m : Mem} {v1 v2 : Value} {acts : List Ac} {bs : List Int} {cut : Int} (h1 : SlR m 4 v1 (acts.flatMap Ac.cells) acts.length) (b1 : ∀ b, blk v1 = some b → b < m.next) (h2 : SlR m 1 v2 (bs.flatMap u8c) bs.length) (b2 : ∀ b, blk v2 = some b → b < m.next) (hc : isB cut) (hl1 : acts.length ≤ 1048576) (hl2 : bs.length ≤ 1048576) :
    AbC Try.prog w0 6 [v1, v2, .int .u8 cut] m fun v _ => v = .bool true := by
  refine AbC_fn ok6 (by simp) ?_
  simp -implicitDefEqProofs (disch := first | assumption | (simp only [Mem.push_nxt, Mem.set_nxt, Mem.kill_nxt]; done) | (simp only [Mem.push_nxt, Mem.set_nxt, Mem.kill_nxt]; omega) | omega | fail) [rc6, ro6, AbW_skip, AbW_run, AbW_seq, AbW_condR, condR_true, condR_false, AbW_block, AbW_loop, AbW_exit, AbW_ret, thenA_normal, thenA_exit, thenA_ret, inBlockA_normal, inBlockA_exit, inBlockA_ret, bodyA_normalR, bodyA_retR, retV, RS_nil, RS_consG, guardR_true, guardR_false, contK_at, SK_rr, bindR_some, SK_a, SK_cc, callR_some, SK_al, SK_bx, wantD_none, wantD_some, wantB_bool, wantB_undef, stabOk, dR_lenl, dR_ia, dR_b2s, slen_sl, dR.eq_1, dR.eq_2, dR.eq_3, dR.eq_4, dR.eq_5, dR.eq_6, dR.eq_7, dR.eq_8, dR.eq_9, dR.eq_10, dR.eq_11, dR.eq_12, dR.eq_13, dR.eq_14, dR.eq_16, dR.eq_17, dR.eq_18, dR.eq_19, dR.eq_21, dR.eq_22, dR.eq_24, dR.eq_25, dR.eq_26, dR.eq_27, dR.eq_28, dR.eq_29, dR.eq_30, dC, ev, frA_at, fillD, pickCells, cellsV_agg, cellsV_bool, cellsV_int, cellsV_str, cellsV_ptr, cellsV_sl, cellsV_slV, cellsV_map, cellsV_iface, cellsV_nili, cellsV_func, cellsV_nilf, lenV_sl, lenV_str, oneC_slV, putAt, bnd, slD, List.getElem?_cons_zero, List.getElem?_cons_succ, dR_sl, Mem.cell, Mem.row, cells_own, cells_ro, natNe, Mem.push_get, Mem.set_get, Mem.kill_other, Mem.push_nxt, Mem.set_nxt, Mem.kill_nxt]
  refine c_awake fun m1 n1 k1 => ?_
  simp -implicitDefEqProofs (disch := first | assumption | (simp only [Mem.push_nxt, Mem.set_nxt, Mem.kill_nxt]; done) | (simp only [Mem.push_nxt, Mem.set_nxt, Mem.kill_nxt]; omega) | omega | fail) [rc6_0, AbW_skip, AbW_run, AbW_seq, AbW_condR, condR_true, condR_false, AbW_block, AbW_loop, AbW_exit, AbW_ret, thenA_normal, thenA_exit, thenA_ret, inBlockA_normal, inBlockA_exit, inBlockA_ret, bodyA_normalR, bodyA_retR, retV, RS_nil, RS_consG, guardR_true, guardR_false, contK_at, SK_rr, bindR_some, SK_a, SK_cc, callR_some, SK_al, SK_bx, wantD_none, wantD_some, wantB_bool, wantB_undef, stabOk, dR_lenl, dR_ia, dR_b2s, slen_sl, dR.eq_1, dR.eq_2, dR.eq_3, dR.eq_4, dR.eq_5, dR.eq_6, dR.eq_7, dR.eq_8, dR.eq_9, dR.eq_10, dR.eq_11, dR.eq_12, dR.eq_13, dR.eq_14, dR.eq_16, dR.eq_17, dR.eq_18, dR.eq_19, dR.eq_21, dR.eq_22, dR.eq_24, dR.eq_25, dR.eq_26, dR.eq_27, dR.eq_28, dR.eq_29, dR.eq_30, dC, ev, frA_at, fillD, pickCells, cellsV_agg, cellsV_bool, cellsV_int, cellsV_str, cellsV_ptr, cellsV_sl, cellsV_slV, cellsV_map, cellsV_iface, cellsV_nili, cellsV_func, cellsV_nilf, lenV_sl, lenV_str, oneC_slV, putAt, bnd, slD, List.getElem?_cons_zero, List.getElem?_cons_succ, dR_sl, Mem.cell, Mem.row, cells_own, cells_ro, natNe, Mem.push_get, Mem.set_get, Mem.kill_other, Mem.push_nxt, Mem.set_nxt, Mem.kill_nxt]
  refine c_Of (h1.keep fun b hb => k1 b (b1 b hb)) (by omega) fun m2 W1 hW1 n2 w1 k2 => ?_
  simp -implicitDefEqProofs (disch := first | assumption | (simp only [Mem.push_nxt, Mem.set_nxt, Mem.kill_nxt]; done) | (simp only [Mem.push_nxt, Mem.set_nxt, Mem.kill_nxt]; omega) | omega | fail) [AbW_skip, AbW_run, AbW_seq, AbW_condR, condR_true, condR_false, AbW_block, AbW_loop, AbW_exit, AbW_ret, thenA_normal, thenA_exit, thenA_ret, inBlockA_normal, inBlockA_exit, inBlockA_ret, bodyA_normalR, bodyA_retR, retV, RS_nil, RS_consG, guardR_true, guardR_false, contK_at, SK_rr, bindR_some, SK_a, SK_cc, callR_some, SK_al, SK_bx, wantD_none, wantD_some, wantB_bool, wantB_undef, stabOk, dR_lenl, dR_ia, dR_b2s, slen_sl, dR.eq_1, dR.eq_2, dR.eq_3, dR.eq_4, dR.eq_5, dR.eq_6, dR.eq_7, dR.eq_8, dR.eq_9, dR.eq_10, dR.eq_11, dR.eq_12, dR.eq_13, dR.eq_14, dR.eq_16, dR.eq_17, dR.eq_18, dR.eq_19, dR.eq_21, dR.eq_22, dR.eq_24, dR.eq_25, dR.eq_26, dR.eq_27, dR.eq_28, dR.eq_29, dR.eq_30, dC, ev, frA_at, fillD, pickCells, cellsV_agg, cellsV_bool, cellsV_int, cellsV_str, cellsV_ptr, cellsV_sl, cellsV_slV, cellsV_map, cellsV_iface, cellsV_nili, cellsV_func, cellsV_nilf, lenV_sl, lenV_str, oneC_slV, putAt, bnd, slD, List.getElem?_cons_zero, List.getElem?_cons_succ, dR_sl, Mem.cell, Mem.row, cells_own, cells_ro, natNe, Mem.push_get, Mem.set_get, Mem.kill_other, Mem.push_nxt, Mem.set_nxt, Mem.kill_nxt]
  refine c_Of (h1.keep fun b hb => by rw [k2 b (by have := b1 b hb; omega), k1 b (b1 b hb)]) (by omega) fun m3 W2 hW2 n3 w2 k3 => ?_
  have w1 := w1.step n3 k3
  have hW12 : W1 < m2.next := by obtain ⟨_, _, _, _, h⟩ := ‹WS m2 W1 acts 0 [] none›; exact h
  obtain ⟨c, rfl⟩ : ∃ c : Nat, cut = c := ⟨cut.toNat, by have := hc.1; omega⟩
  have hc2 := hc.2
  have km : ∀ i, i < m.next → m3.get i = m.get i := fun i hi => by rw [k3 i (by omega), k2 i (by omega), k1 i hi]
  have hv2 := h2.keep (m' := m3) fun b hb => km b (b2 b hb)
  have hrem : (c : Int).tmod ((bs.length : Int) + 1) = ((c % (bs.length + 1) : Nat) : Int) := by
    rw [Int.tmod_eq_emod_of_nonneg (by omega)]; push_cast; rfl
  have hmod : c % (bs.length + 1) ≤ bs.length := by have := Nat.mod_lt c (show 0 < bs.length + 1 by omega); omega
  simp -implicitDefEqProofs (disch := first | assumption | (simp only [Mem.push_nxt, Mem.set_nxt, Mem.kill_nxt]; done) | (simp only [Mem.push_nxt, Mem.set_nxt, Mem.kill_nxt]; omega) | omega | fail) [AbW_skip, AbW_run, AbW_seq, AbW_condR, condR_true, condR_false, AbW_block, AbW_loop, AbW_exit, AbW_ret, thenA_normal, thenA_exit, thenA_ret, inBlockA_normal, inBlockA_exit, inBlockA_ret, bodyA_normalR, bodyA_retR, retV, RS_nil, RS_consG, guardR_true, guardR_false, contK_at, SK_rr, bindR_some, SK_a, SK_cc, callR_some, SK_al, SK_bx, wantD_none, wantD_some, wantB_bool, wantB_undef, stabOk, dR_lenl, dR_ia, dR_b2s, slen_sl, dR.eq_1, dR.eq_2, dR.eq_3, dR.eq_4, dR.eq_5, dR.eq_6, dR.eq_7, dR.eq_8, dR.eq_9, dR.eq_10, dR.eq_11, dR.eq_12, dR.eq_13, dR.eq_14, dR.eq_16, dR.eq_17, dR.eq_18, dR.eq_19, dR.eq_21, dR.eq_22, dR.eq_24, dR.eq_25, dR.eq_26, dR.eq_27, dR.eq_28, dR.eq_29, dR.eq_30, dC, ev, frA_at, fillD, pickCells, cellsV_agg, cellsV_bool, cellsV_int, cellsV_str, cellsV_ptr, cellsV_sl, cellsV_slV, cellsV_map, cellsV_iface, cellsV_nili, cellsV_func, cellsV_nilf, lenV_sl, lenV_str, oneC_slV, putAt, bnd, slD, List.getElem?_cons_zero, List.getElem?_cons_succ, dR_sl, Mem.cell, Mem.row, cells_own, cells_ro, natNe, Mem.push_get, Mem.set_get, Mem.kill_other, Mem.push_nxt, Mem.set_nxt, Mem.kill_nxt, hv2.slen]
  rw [w64 (by omega), w64 (by omega), dBin_rem (by omega), hrem]
  generalize c % (bs.length + 1) = k at *
  simp -implicitDefEqProofs (disch := first | assumption | (simp only [Mem.push_nxt, Mem.set_nxt, Mem.kill_nxt]; done) | (simp only [Mem.push_nxt, Mem.set_nxt, Mem.kill_nxt]; omega) | omega | fail) [AbW_skip, AbW_run, AbW_seq, AbW_condR, condR_true, condR_false, AbW_block, AbW_loop, AbW_exit, AbW_ret, thenA_normal, thenA_exit, thenA_ret, inBlockA_normal, inBlockA_exit, inBlockA_ret, bodyA_normalR, bodyA_retR, retV, RS_nil, RS_consG, guardR_true, guardR_false, contK_at, SK_rr, bindR_some, SK_a, SK_cc, callR_some, SK_al, SK_bx, wantD_none, wantD_some, wantB_bool, wantB_undef, stabOk, dR_lenl, dR_ia, dR_b2s, slen_sl, dR.eq_1, dR.eq_2, dR.eq_3, dR.eq_4, dR.eq_5, dR.eq_6, dR.eq_7, dR.eq_8, dR.eq_9, dR.eq_10, dR.eq_11, dR.eq_12, dR.eq_13, dR.eq_14, dR.eq_16, dR.eq_17, dR.eq_18, dR.eq_19, dR.eq_21, dR.eq_22, dR.eq_24, dR.eq_25, dR.eq_26, dR.eq_27, dR.eq_28, dR.eq_29, dR.eq_30, dC, ev, frA_at, fillD, pickCells, cellsV_agg, cellsV_bool, cellsV_int, cellsV_str, cellsV_ptr, cellsV_sl, cellsV_slV, cellsV_map, cellsV_iface, cellsV_nili, cellsV_func, cellsV_nilf, lenV_sl, lenV_str, oneC_slV, putAt, bnd, slD, List.getElem?_cons_zero, List.getElem?_cons_succ, dR_sl, Mem.cell, Mem.row, cells_own, cells_ro, natNe, Mem.push_get, Mem.set_get, Mem.kill_other, Mem.push_nxt, Mem.set_nxt, Mem.kill_nxt]
  refine c_PassS w1 hv2 (fun e => by have := b2 _ e; omega) (fun b hb => ⟨by simp, by have := b2 b hb; omega⟩) (by simp; omega) (by omega) fun m4 ob1 oo1 p1 p2 p3 p4 p5 p6 p7 => ?_
  have w2 := w2.keep w1 (by omega) (by simp) p4 p7
  have hv3 := hv2.keep (m' := m4) fun b hb => p7 b (by have := b2 b hb; omega) (by have := b2 b hb; omega) (by simp)
  obtain ⟨x1, e1, g1, q1⟩ := hv3.upto hmod
  obtain ⟨x2, e2, g2, q2⟩ := hv3.behind hmod
  simp -implicitDefEqProofs (disch := first | assumption | (simp only [Mem.push_nxt, Mem.set_nxt, Mem.kill_nxt]; done) | (simp only [Mem.push_nxt, Mem.set_nxt, Mem.kill_nxt]; omega) | omega | fail) [AbW_skip, AbW_run, AbW_seq, AbW_condR, condR_true, condR_false, AbW_block, AbW_loop, AbW_exit, AbW_ret, thenA_normal, thenA_exit, thenA_ret, inBlockA_normal, inBlockA_exit, inBlockA_ret, bodyA_normalR, bodyA_retR, retV, RS_nil, RS_consG, guardR_true, guardR_false, contK_at, SK_rr, bindR_some, SK_a, SK_cc, callR_some, SK_al, SK_bx, wantD_none, wantD_some, wantB_bool, wantB_undef, stabOk, dR_lenl, dR_ia, dR_b2s, slen_sl, dR.eq_1, dR.eq_2, dR.eq_3, dR.eq_4, dR.eq_5, dR.eq_6, dR.eq_7, dR.eq_8, dR.eq_9, dR.eq_10, dR.eq_11, dR.eq_12, dR.eq_13, dR.eq_14, dR.eq_16, dR.eq_17, dR.eq_18, dR.eq_19, dR.eq_21, dR.eq_22, dR.eq_24, dR.eq_25, dR.eq_26, dR.eq_27, dR.eq_28, dR.eq_29, dR.eq_30, dC, ev, frA_at, fillD, pickCells, cellsV_agg, cellsV_bool, cellsV_int, cellsV_str, cellsV_ptr, cellsV_sl, cellsV_slV, cellsV_map, cellsV_iface, cellsV_nili, cellsV_func, cellsV_nilf, lenV_sl, lenV_str, oneC_slV, putAt, bnd, slD, List.getElem?_cons_zero, List.getElem?_cons_succ, dR_sl, Mem.cell, Mem.row, cells_own, cells_ro, natNe, Mem.push_get, Mem.set_get, Mem.kill_other, Mem.push_nxt, Mem.set_nxt, Mem.kill_nxt, p3, e1, e2]
  rw [u8_take] at g1
  rw [u8_drop] at g2
  have lk1 : (bs.take k).length = k := by simp; omega
  have lk2 : (bs.drop k).length = bs.length - k := by simp
  have hob : ∀ b, ob1 = some b → m3.next ≤ b := fun b hb => by rcases p5 b hb with h | h; cases h; exact h
  have g1 : SlR m4 1 x1 ((bs.take k).flatMap u8c) (bs.take k).length := by rw [lk1]; exact g1
  have g2 : SlR m4 1 x2 ((bs.drop k).flatMap u8c) (bs.drop k).length := by rw [lk2]; exact g2
  refine c_PassS w2 g1 (fun e => by have := b2 _ (q1 _ e); omega) (fun b hb => ⟨by simp, by have := b2 b (q1 b hb); omega⟩) (by simp; omega) (by omega) fun m5 ob2 oo2 r1 r2 r3 r4 r5 r6 r7 => ?_
  have p1 := p1.keep w2 (by omega) (by simp) r4 r7
  have g2 := g2.keep (m' := m5) fun b hb => r7 b (by have := b2 b (q2 b hb); omega) (by have := b2 b (q2 b hb); omega) (by simp)
  have hob2 : ∀ b, ob2 = some b → m4.next ≤ b := fun b hb => by rcases r5 b hb with h | h; cases h; exact h
  simp -implicitDefEqProofs (disch := first | assumption | (simp only [Mem.push_nxt, Mem.set_nxt, Mem.kill_nxt]; done) | (simp only [Mem.push_nxt, Mem.set_nxt, Mem.kill_nxt]; omega) | omega | fail) [AbW_skip, AbW_run, AbW_seq, AbW_condR, condR_true, condR_false, AbW_block, AbW_loop, AbW_exit, AbW_ret, thenA_normal, thenA_exit, thenA_ret, inBlockA_normal, inBlockA_exit, inBlockA_ret, bodyA_normalR, bodyA_retR, retV, RS_nil, RS_consG, guardR_true, guardR_false, contK_at, SK_rr, bindR_some, SK_a, SK_cc, callR_some, SK_al, SK_bx, wantD_none, wantD_some, wantB_bool, wantB_undef, stabOk, dR_lenl, dR_ia, dR_b2s, slen_sl, dR.eq_1, dR.eq_2, dR.eq_3, dR.eq_4, dR.eq_5, dR.eq_6, dR.eq_7, dR.eq_8, dR.eq_9, dR.eq_10, dR.eq_11, dR.eq_12, dR.eq_13, dR.eq_14, dR.eq_16, dR.eq_17, dR.eq_18, dR.eq_19, dR.eq_21, dR.eq_22, dR.eq_24, dR.eq_25, dR.eq_26, dR.eq_27, dR.eq_28, dR.eq_29, dR.eq_30, dC, ev, frA_at, fillD, pickCells, cellsV_agg, cellsV_bool, cellsV_int, cellsV_str, cellsV_ptr, cellsV_sl, cellsV_slV, cellsV_map, cellsV_iface, cellsV_nili, cellsV_func, cellsV_nilf, lenV_sl, lenV_str, oneC_slV, putAt, bnd, slD, List.getElem?_cons_zero, List.getElem?_cons_succ, dR_sl, Mem.cell, Mem.row, cells_own, cells_ro, natNe, Mem.push_get, Mem.set_get, Mem.kill_other, Mem.push_nxt, Mem.set_nxt, Mem.kill_nxt, r3]
  refine c_PassS r1 g2 (fun e => by have := b2 _ (q2 _ e); omega) (fun b hb => ⟨fun e => by have := b2 b (q2 b hb); have := hob2 b e; omega, by have := b2 b (q2 b hb); omega⟩) (by have := runM_len acts (bs.take k) 0; simp only [List.nil_append]; omega) (by omega) fun m6 ob3 oo3 s1 s2 s3 s4 s5 s6 s7 => ?_
  have p1 := p1.keep r1 (by omega) (fun b hb => fun e => by
    have := hob2 b e
    rcases p5 b hb with h | h
    · cases h
    · have hlt := p1
      obtain ⟨_, t3, t4, t5, t9⟩ := ‹WS m4 W1 acts _ _ ob1›
      subst hb
      have := t5.lt
      omega) s4 s7
  have hrun : runM acts 0 bs = runM acts 0 (bs.take k) ++ runM acts (0 + (bs.take k).length) (bs.drop k) := by rw [← runM_append, List.take_append_drop]
  have hlen : 0 + (bs.take k).length + (bs.drop k).length = bs.length := by omega
  rw [List.nil_append, ← hrun, hlen] at s1
  rw [List.nil_append, Nat.zero_add] at p1
  have r2' := r2.keep (m' := m6) s4 fun b hb => by
    subst hb
    obtain ⟨_, t3, t4, t5, t9⟩ := r1
    exact s7 b r2.lt (own_ne r2.2.1 t3 (by decide)) (t5.ne r2.2.1 (by simp))
  have r3' : bstr m6 (slV oo2 (runM acts 0 (bs.take k)).length 1) = some (.string (strB ((runM acts 0 (bs.take k)).map Mk.byte))) := by
    have e : (runM acts 0 (bs.take k)).length = ((runM acts 0 (bs.take k)).map Mk.byte).length := by simp
    have := r2'.read
    rw [e] at this ⊢
    exact this.bstr
  have hl3 := runM_len acts (bs.take k) 0
  have hl4 := runM_len acts (bs.drop k) (0 + (bs.take k).length)
  have hl5 := runM_len acts bs 0
  have hadd := strB_add (a := (runM acts 0 (bs.take k)).map Mk.byte) (b := (runM acts (0 + (bs.take k).length) (bs.drop k)).map Mk.byte) (by simp only [List.length_map]; omega)
  rw [← List.map_append, ← hrun] at hadd
  generalize runM acts (0 + (bs.take k).length) (bs.drop k) = R2 at *
  generalize runM acts 0 (bs.take k) = R1 at *
  generalize runM acts 0 bs = R at *
  simp -implicitDefEqProofs (disch := first | assumption | (simp only [Mem.push_nxt, Mem.set_nxt, Mem.kill_nxt]; done) | (simp only [Mem.push_nxt, Mem.set_nxt, Mem.kill_nxt]; omega) | omega | fail) [AbW_skip, AbW_run, AbW_seq, AbW_condR, condR_true, condR_false, AbW_block, AbW_loop, AbW_exit, AbW_ret, thenA_normal, thenA_exit, thenA_ret, inBlockA_normal, inBlockA_exit, inBlockA_ret, bodyA_normalR, bodyA_retR, retV, RS_nil, RS_consG, guardR_true, guardR_false, contK_at, SK_rr, bindR_some, SK_a, SK_cc, callR_some, SK_al, SK_bx, wantD_none, wantD_some, wantB_bool, wantB_undef, stabOk, dR_lenl, dR_ia, dR_b2s, slen_sl, dR.eq_1, dR.eq_2, dR.eq_3, dR.eq_4, dR.eq_5, dR.eq_6, dR.eq_7, dR.eq_8, dR.eq_9, dR.eq_10, dR.eq_11, dR.eq_12, dR.eq_13, dR.eq_14, dR.eq_16, dR.eq_17, dR.eq_18, dR.eq_19, dR.eq_21, dR.eq_22, dR.eq_24, dR.eq_25, dR.eq_26, dR.eq_27, dR.eq_28, dR.eq_29, dR.eq_30, dC, ev, frA_at, fillD, pickCells, cellsV_agg, cellsV_bool, cellsV_int, cellsV_str, cellsV_ptr, cellsV_sl, cellsV_slV, cellsV_map, cellsV_iface, cellsV_nili, cellsV_func, cellsV_nilf, lenV_sl, lenV_str, oneC_slV, putAt, bnd, slD, List.getElem?_cons_zero, List.getElem?_cons_succ, dR_sl, Mem.cell, Mem.row, cells_own, cells_ro, natNe, Mem.push_get, Mem.set_get, Mem.kill_other, Mem.push_nxt, Mem.set_nxt, Mem.kill_nxt, r3', s3, hadd]
  refine c_Clean p1 (by omega) fun m7 a1 a2 => ?_
  simp -implicitDefEqProofs (disch := first | assumption | (simp only [Mem.push_nxt, Mem.set_nxt, Mem.kill_nxt]; done) | (simp only [Mem.push_nxt, Mem.set_nxt, Mem.kill_nxt]; omega) | omega | fail) [AbW_skip, AbW_run, AbW_seq, AbW_condR, condR_true, condR_false, AbW_block, AbW_loop, AbW_exit, AbW_ret, thenA_normal, thenA_exit, thenA_ret, inBlockA_normal, inBlockA_exit, inBlockA_ret, bodyA_normalR, bodyA_retR, retV, RS_nil, RS_consG, guardR_true, guardR_false, contK_at, SK_rr, bindR_some, SK_a, SK_cc, callR_some, SK_al, SK_bx, wantD_none, wantD_some, wantB_bool, wantB_undef, stabOk, dR_lenl, dR_ia, dR_b2s, slen_sl, dR.eq_1, dR.eq_2, dR.eq_3, dR.eq_4, dR.eq_5, dR.eq_6, dR.eq_7, dR.eq_8, dR.eq_9, dR.eq_10, dR.eq_11, dR.eq_12, dR.eq_13, dR.eq_14, dR.eq_16, dR.eq_17, dR.eq_18, dR.eq_19, dR.eq_21, dR.eq_22, dR.eq_24, dR.eq_25, dR.eq_26, dR.eq_27, dR.eq_28, dR.eq_29, dR.eq_30, dC, ev, frA_at, fillD, pickCells, cellsV_agg, cellsV_bool, cellsV_int, cellsV_str, cellsV_ptr, cellsV_sl, cellsV_slV, cellsV_map, cellsV_iface, cellsV_nili, cellsV_func, cellsV_nilf, lenV_sl, lenV_str, oneC_slV, putAt, bnd, slD, List.getElem?_cons_zero, List.getElem?_cons_succ, dR_sl, Mem.cell, Mem.row, cells_own, cells_ro, natNe, Mem.push_get, Mem.set_get, Mem.kill_other, Mem.push_nxt, Mem.set_nxt, Mem.kill_nxt]
  refine c_Clean (s1.step a1 a2) (by omega) fun m8 a3 a4 => ?_
  simp -implicitDefEqProofs (disch := first | assumption | (simp only [Mem.push_nxt, Mem.set_nxt, Mem.kill_nxt]; done) | (simp only [Mem.push_nxt, Mem.set_nxt, Mem.kill_nxt]; omega) | omega | fail) [AbW_skip, AbW_run, AbW_seq, AbW_condR, condR_true, condR_false, AbW_block, AbW_loop, AbW_exit, AbW_ret, thenA_normal, thenA_exit, thenA_ret, inBlockA_normal, inBlockA_exit, inBlockA_ret, bodyA_normalR, bodyA_retR, retV, RS_nil, RS_consG, guardR_true, guardR_false, contK_at, SK_rr, bindR_some, SK_a, SK_cc, callR_some, SK_al, SK_bx, wantD_none, wantD_some, wantB_bool, wantB_undef, stabOk, dR_lenl, dR_ia, dR_b2s, slen_sl, dR.eq_1, dR.eq_2, dR.eq_3, dR.eq_4, dR.eq_5, dR.eq_6, dR.eq_7, dR.eq_8, dR.eq_9, dR.eq_10, dR.eq_11, dR.eq_12, dR.eq_13, dR.eq_14, dR.eq_16, dR.eq_17, dR.eq_18, dR.eq_19, dR.eq_21, dR.eq_22, dR.eq_24, dR.eq_25, dR.eq_26, dR.eq_27, dR.eq_28, dR.eq_29, dR.eq_30, dC, ev, frA_at, fillD, pickCells, cellsV_agg, cellsV_bool, cellsV_int, cellsV_str, cellsV_ptr, cellsV_sl, cellsV_slV, cellsV_map, cellsV_iface, cellsV_nili, cellsV_func, cellsV_nilf, lenV_sl, lenV_str, oneC_slV, putAt, bnd, slD, List.getElem?_cons_zero, List.getElem?_cons_succ, dR_sl, Mem.cell, Mem.row, cells_own, cells_ro, natNe, Mem.push_get, Mem.set_get, Mem.kill_other, Mem.push_nxt, Mem.set_nxt, Mem.kill_nxt, dEq]
  obtain ⟨_, x3, _⟩ := (p1.step a1 a2).step a3 a4
  obtain ⟨_, y3, _⟩ := (s1.step a1 a2).step a3 a4
  refine c_Sent x3 ?_
  simp -implicitDefEqProofs (disch := first | assumption | (simp only [Mem.push_nxt, Mem.set_nxt, Mem.kill_nxt]; done) | (simp only [Mem.push_nxt, Mem.set_nxt, Mem.kill_nxt]; omega) | omega | fail) [AbW_skip, AbW_run, AbW_seq, AbW_condR, condR_true, condR_false, AbW_block, AbW_loop, AbW_exit, AbW_ret, thenA_normal, thenA_exit, thenA_ret, inBlockA_normal, inBlockA_exit, inBlockA_ret, bodyA_normalR, bodyA_retR, retV, RS_nil, RS_consG, guardR_true, guardR_false, contK_at, SK_rr, bindR_some, SK_a, SK_cc, callR_some, SK_al, SK_bx, wantD_none, wantD_some, wantB_bool, wantB_undef, stabOk, dR_lenl, dR_ia, dR_b2s, slen_sl, dR.eq_1, dR.eq_2, dR.eq_3, dR.eq_4, dR.eq_5, dR.eq_6, dR.eq_7, dR.eq_8, dR.eq_9, dR.eq_10, dR.eq_11, dR.eq_12, dR.eq_13, dR.eq_14, dR.eq_16, dR.eq_17, dR.eq_18, dR.eq_19, dR.eq_21, dR.eq_22, dR.eq_24, dR.eq_25, dR.eq_26, dR.eq_27, dR.eq_28, dR.eq_29, dR.eq_30, dC, ev, frA_at, fillD, pickCells, cellsV_agg, cellsV_bool, cellsV_int, cellsV_str, cellsV_ptr, cellsV_sl, cellsV_slV, cellsV_map, cellsV_iface, cellsV_nili, cellsV_func, cellsV_nilf, lenV_sl, lenV_str, oneC_slV, putAt, bnd, slD, List.getElem?_cons_zero, List.getElem?_cons_succ, dR_sl, Mem.cell, Mem.row, cells_own, cells_ro, natNe, Mem.push_get, Mem.set_get, Mem.kill_other, Mem.push_nxt, Mem.set_nxt, Mem.kill_nxt]
  refine c_Sent y3 ?_
  simp -implicitDefEqProofs (disch := first | assumption | (simp only [Mem.push_nxt, Mem.set_nxt, Mem.kill_nxt]; done) | (simp only [Mem.push_nxt, Mem.set_nxt, Mem.kill_nxt]; omega) | omega | fail) [AbW_skip, AbW_run, AbW_seq, AbW_condR, condR_true, condR_false, AbW_block, AbW_loop, AbW_exit, AbW_ret, thenA_normal, thenA_exit, thenA_ret, inBlockA_normal, inBlockA_exit, inBlockA_ret, bodyA_normalR, bodyA_retR, retV, RS_nil, RS_consG, guardR_true, guardR_false, contK_at, SK_rr, bindR_some, SK_a, SK_cc, callR_some, SK_al, SK_bx, wantD_none, wantD_some, wantB_bool, wantB_undef, stabOk, dR_lenl, dR_ia, dR_b2s, slen_sl, dR.eq_1, dR.eq_2, dR.eq_3, dR.eq_4, dR.eq_5, dR.eq_6, dR.eq_7, dR.eq_8, dR.eq_9, dR.eq_10, dR.eq_11, dR.eq_12, dR.eq_13, dR.eq_14, dR.eq_16, dR.eq_17, dR.eq_18, dR.eq_19, dR.eq_21, dR.eq_22, dR.eq_24, dR.eq_25, dR.eq_26, dR.eq_27, dR.eq_28, dR.eq_29, dR.eq_30, dC, ev, frA_at, fillD, pickCells, cellsV_agg, cellsV_bool, cellsV_int, cellsV_str, cellsV_ptr, cellsV_sl, cellsV_slV, cellsV_map, cellsV_iface, cellsV_nili, cellsV_func, cellsV_nilf, lenV_sl, lenV_str, oneC_slV, putAt, bnd, slD, List.getElem?_cons_zero, List.getElem?_cons_succ, dR_sl, Mem.cell, Mem.row, cells_own, cells_ro, natNe, Mem.push_get, Mem.set_get, Mem.kill_other, Mem.push_nxt, Mem.set_nxt, Mem.kill_nxt]
end Go.Proofs.Ytebgffkiahmhfaa.Ab
