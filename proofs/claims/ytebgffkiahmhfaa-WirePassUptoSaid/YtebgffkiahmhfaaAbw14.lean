/- What comes, and from where, is what the document says. -/
import Derived.Test.YtebgffkiahmhfaaAbw13
set_option linter.unusedVariables false
set_option linter.unusedSimpArgs false
namespace Go.Proofs.Ytebgffkiahmhfaa.Ab
open Go Go.RowKit
set_option maxHeartbeats 2000000

theorem WS.kept {m m' : Mem} {W n : Nat} {acts : List Ac} {mk mk2 : List Mk} {ob ob2 : Option Nat} {n2 : Nat} (h : WS m W acts n mk ob) (h2 : SlO m 32 3 ob2 (mk2.flatMap Mk.cells) n2) (hob : ∀ b, ob = some b → ob2 ≠ some b)
    (hn : m.next ≤ m'.next) (hk : ∀ i, i < m.next → ob2 ≠ some i → m'.get i = m.get i) : WS m' W acts n mk ob := by
  obtain ⟨oba, h3, h4, h5, h9⟩ := h
  refine ⟨oba, ?_, h4.keep hn fun b hb => ?_, h5.keep hn fun b hb => ?_, by omega⟩
  · rw [hk W h9 (h2.ne h3 (by simp))]; exact h3
  · subst hb; exact hk b h4.lt (h2.ne h4.2.1 (by simp))
  · subst hb; exact hk b h5.lt (hob b rfl)

def cl (R : List Mk) (n k : Nat) : Bool := (R.length == n) && (List.range k).all fun i => match R[i]? with | some x => x.own && x.org == (i : Int) | none => true
theorem cl_succ {R : List Mk} {n k : Nat} {x : Mk} (hx : R[k]? = some x) : cl R n (k + 1) = (cl R n k && (x.own && x.org == (k : Int))) := by
  simp only [cl, List.range_succ, List.all_append, List.all_cons, List.all_nil, Bool.and_true, hx, Bool.and_assoc]
theorem cl_end (R : List Mk) (n : Nat) : cl R n R.length = cleanB R n := by
  simp only [cl, cleanB, Bool.and_comm]
  rfl

theorem law_cmp {w0 : World} {m : Mem} {ts : Fr} {Q : AQ} {R : List Mk} {obl obk : Option Nat} {n : Nat} (h1 : SlO m 32 3 obl (R.flatMap Mk.cells) R.length) (h2 : SlO m 32 3 obk (R.flatMap Mk.cells) R.length) (hl : R.length ≤ 100000000)
    (t7 : ts 7 = slV obl R.length 3) (t14 : ts 14 = slV obk R.length 3) (t15 : ts 15 = .bool (R.length == n)) (t106 : ts 106 = .int .i64 (R.length : Nat)) (t107 : ts 107 = .int .i64 (0 : Nat))
    (hq : ∀ ts' : Fr, ts' 15 = .bool (cleanB R n) → (∀ s, s < 15 → ts' s = ts s) → Q (.exit 4) ts' m) : LoopW (AbW Try.prog w0 rc3_8) Q ts m := by
  refine LoopW_of (fun k ts' m' => ∃ j, j + k = R.length ∧ m' = m ∧ ts' 15 = .bool (cl R n j) ∧ ts' 106 = .int .i64 (R.length : Nat) ∧ ts' 107 = .int .i64 (j : Nat) ∧ ∀ s, s < 15 → ts' s = ts s) R.length ?_ ?_
  · exact ⟨0, by omega, rfl, by simpa [cl] using t15, t106, t107, fun s _ => rfl⟩
  · rintro k ts1 m1 K ⟨j, hj, rfl, u15, u106, u107, uS⟩ hK
    have u7 : ts1 7 = slV obl R.length 3 := by rw [uS 7 (by omega), t7]
    have u14 : ts1 14 = slV obk R.length 3 := by rw [uS 14 (by omega), t14]
    simp -implicitDefEqProofs (disch := first | assumption | (simp only [Mem.push_nxt, Mem.set_nxt, Mem.kill_nxt]; done) | (simp only [Mem.push_nxt, Mem.set_nxt, Mem.kill_nxt]; omega) | omega | fail) [rc3_8, AbW_skip, AbW_run, AbW_seq, AbW_condR, condR_true, condR_false, AbW_block, AbW_loop, AbW_exit, AbW_ret, thenA_normal, thenA_exit, thenA_ret, inBlockA_normal, inBlockA_exit, inBlockA_ret, bodyA_normalR, bodyA_retR, retV, RS_nil, RS_consG, guardR_true, guardR_false, contK_at, SK_rr, bindR_some, SK_a, SK_cc, callR_some, SK_al, SK_bx, wantD_none, wantD_some, wantB_bool, wantB_undef, stabOk, dR_lenl, dR_ia, dR_b2s, slen_sl, dR.eq_1, dR.eq_2, dR.eq_3, dR.eq_4, dR.eq_5, dR.eq_6, dR.eq_7, dR.eq_8, dR.eq_9, dR.eq_10, dR.eq_11, dR.eq_12, dR.eq_13, dR.eq_14, dR.eq_16, dR.eq_17, dR.eq_18, dR.eq_19, dR.eq_21, dR.eq_22, dR.eq_24, dR.eq_25, dR.eq_26, dR.eq_27, dR.eq_28, dR.eq_29, dR.eq_30, dC, ev, frA_at, fillD, pickCells, cellsV_agg, cellsV_bool, cellsV_int, cellsV_str, cellsV_ptr, cellsV_sl, cellsV_slV, cellsV_map, cellsV_iface, cellsV_nili, cellsV_func, cellsV_nilf, lenV_sl, lenV_str, oneC_slV, putAt, bnd, slD, List.getElem?_cons_zero, List.getElem?_cons_succ, dR.eq_20, Mem.cell, Mem.row, cells_own, cells_ro, natNe, Mem.push_get, Mem.set_get, Mem.kill_other, Mem.push_nxt, Mem.set_nxt, Mem.kill_nxt, u106, u107]
    by_cases hjl : j < R.length
    · obtain ⟨x, hx⟩ : ∃ x, R[j] = x := ⟨_, rfl⟩
      have hxe : R[j]? = some x := by rw [List.getElem?_eq_getElem hjl, hx]
      obtain ⟨a, rfl⟩ : ∃ b, obl = some b := by
        cases obl with
        | none => have : R.length = 0 := h1.2; omega
        | some b => exact ⟨b, rfl⟩
      obtain ⟨b, rfl⟩ : ∃ b, obk = some b := by
        cases obk with
        | none => have : R.length = 0 := h2.2; omega
        | some b => exact ⟨b, rfl⟩
      have ha := h1.2.1
      have hb := h2.2.1
      have hLt := flat_at mkl R hxe
      have hL1 := flat_at' mkl R hxe (show 1 < 3 by omega)
      have hL2 := flat_at' mkl R hxe (show 2 < 3 by omega)
      simp only [Mk.cells, List.getElem?_cons_zero, List.getElem?_cons_succ] at hL1 hL2
      obtain ⟨hL1l, hL1'⟩ := List.getElem?_eq_some_iff.1 hL1
      obtain ⟨hL2l, hL2'⟩ := List.getElem?_eq_some_iff.1 hL2
      have hLl := h1.1
      have hle : j * 3 + 3 ≤ (R.flatMap Mk.cells).length := by omega
      have hsucc := cl_succ (n := n) hxe
      rw [slV_some] at u7 u14
      have fin : ∀ ts' : Fr, ts' 15 = .bool (cl R n (j + 1)) → ts' 106 = ts1 106 → ts' 107 = .int .i64 ((j + 1 : Nat) : Int) → (∀ s, s < 15 → ts' s = ts1 s) → K ts' m1 := fun ts' r1 r2 r3 r4 =>
        hK (k - 1) ts' m1 (by omega) ⟨j + 1, by omega, rfl, r1, by rw [r2, u106], r3, fun s hs => by rw [r4 s hs, uS s hs]⟩
      generalize List.flatMap Mk.cells R = L at *
      simp only [Mk.cells] at hLt hL1 hL1' hL2 hL2'
      simp -implicitDefEqProofs (disch := first | assumption | (simp only [Mem.push_nxt, Mem.set_nxt, Mem.kill_nxt]; done) | (simp only [Mem.push_nxt, Mem.set_nxt, Mem.kill_nxt]; omega) | omega | fail) [hjl, rc3_7, AbW_skip, AbW_run, AbW_seq, AbW_condR, condR_true, condR_false, AbW_block, AbW_loop, AbW_exit, AbW_ret, thenA_normal, thenA_exit, thenA_ret, inBlockA_normal, inBlockA_exit, inBlockA_ret, bodyA_normalR, bodyA_retR, retV, RS_nil, RS_consG, guardR_true, guardR_false, contK_at, SK_rr, bindR_some, SK_a, SK_cc, callR_some, SK_al, SK_bx, wantD_none, wantD_some, wantB_bool, wantB_undef, stabOk, dR_lenl, dR_ia, dR_b2s, slen_sl, dR.eq_1, dR.eq_2, dR.eq_3, dR.eq_4, dR.eq_5, dR.eq_6, dR.eq_7, dR.eq_8, dR.eq_9, dR.eq_10, dR.eq_11, dR.eq_12, dR.eq_13, dR.eq_14, dR.eq_16, dR.eq_17, dR.eq_18, dR.eq_19, dR.eq_21, dR.eq_22, dR.eq_24, dR.eq_25, dR.eq_26, dR.eq_27, dR.eq_28, dR.eq_29, dR.eq_30, dC, ev, frA_at, fillD, pickCells, cellsV_agg, cellsV_bool, cellsV_int, cellsV_str, cellsV_ptr, cellsV_sl, cellsV_slV, cellsV_map, cellsV_iface, cellsV_nili, cellsV_func, cellsV_nilf, lenV_sl, lenV_str, oneC_slV, putAt, bnd, slD, List.getElem?_cons_zero, List.getElem?_cons_succ, dR.eq_20, Mem.cell, Mem.row, cells_own, cells_ro, natNe, Mem.push_get, Mem.set_get, Mem.kill_other, Mem.push_nxt, Mem.set_nxt, Mem.kill_nxt, u7, u14, u107, sidx_at, ha, hb, hle, hLt, dEq, dEqs]
      cases hcl : cl R n j with
      | false =>
        rw [hcl] at u15 hsucc
        simp -implicitDefEqProofs (disch := first | assumption | (simp only [Mem.push_nxt, Mem.set_nxt, Mem.kill_nxt]; done) | (simp only [Mem.push_nxt, Mem.set_nxt, Mem.kill_nxt]; omega) | omega | fail) [AbW_skip, AbW_run, AbW_seq, AbW_condR, condR_true, condR_false, AbW_block, AbW_loop, AbW_exit, AbW_ret, thenA_normal, thenA_exit, thenA_ret, inBlockA_normal, inBlockA_exit, inBlockA_ret, bodyA_normalR, bodyA_retR, retV, RS_nil, RS_consG, guardR_true, guardR_false, contK_at, SK_rr, bindR_some, SK_a, SK_cc, callR_some, SK_al, SK_bx, wantD_none, wantD_some, wantB_bool, wantB_undef, stabOk, dR_lenl, dR_ia, dR_b2s, slen_sl, dR.eq_1, dR.eq_2, dR.eq_3, dR.eq_4, dR.eq_5, dR.eq_6, dR.eq_7, dR.eq_8, dR.eq_9, dR.eq_10, dR.eq_11, dR.eq_12, dR.eq_13, dR.eq_14, dR.eq_16, dR.eq_17, dR.eq_18, dR.eq_19, dR.eq_21, dR.eq_22, dR.eq_24, dR.eq_25, dR.eq_26, dR.eq_27, dR.eq_28, dR.eq_29, dR.eq_30, dC, ev, frA_at, fillD, pickCells, cellsV_agg, cellsV_bool, cellsV_int, cellsV_str, cellsV_ptr, cellsV_sl, cellsV_slV, cellsV_map, cellsV_iface, cellsV_nili, cellsV_func, cellsV_nilf, lenV_sl, lenV_str, oneC_slV, putAt, bnd, slD, List.getElem?_cons_zero, List.getElem?_cons_succ, dR.eq_20, u15, u107]
        rw [w64 (by omega)]
        exact fin _ (by simp [hsucc]) (by simp) (by simp) fun s hs => by simp -implicitDefEqProofs (disch := first | assumption | (simp only [Mem.push_nxt, Mem.set_nxt, Mem.kill_nxt]; done) | (simp only [Mem.push_nxt, Mem.set_nxt, Mem.kill_nxt]; omega) | omega | fail) [natNe]
      | true =>
        rw [hcl] at u15 hsucc
        simp -implicitDefEqProofs (disch := first | assumption | (simp only [Mem.push_nxt, Mem.set_nxt, Mem.kill_nxt]; done) | (simp only [Mem.push_nxt, Mem.set_nxt, Mem.kill_nxt]; omega) | omega | fail) [AbW_skip, AbW_run, AbW_seq, AbW_condR, condR_true, condR_false, AbW_block, AbW_loop, AbW_exit, AbW_ret, thenA_normal, thenA_exit, thenA_ret, inBlockA_normal, inBlockA_exit, inBlockA_ret, bodyA_normalR, bodyA_retR, retV, RS_nil, RS_consG, guardR_true, guardR_false, contK_at, SK_rr, bindR_some, SK_a, SK_cc, callR_some, SK_al, SK_bx, wantD_none, wantD_some, wantB_bool, wantB_undef, stabOk, dR_lenl, dR_ia, dR_b2s, slen_sl, dR.eq_1, dR.eq_2, dR.eq_3, dR.eq_4, dR.eq_5, dR.eq_6, dR.eq_7, dR.eq_8, dR.eq_9, dR.eq_10, dR.eq_11, dR.eq_12, dR.eq_13, dR.eq_14, dR.eq_16, dR.eq_17, dR.eq_18, dR.eq_19, dR.eq_21, dR.eq_22, dR.eq_24, dR.eq_25, dR.eq_26, dR.eq_27, dR.eq_28, dR.eq_29, dR.eq_30, dC, ev, frA_at, fillD, pickCells, cellsV_agg, cellsV_bool, cellsV_int, cellsV_str, cellsV_ptr, cellsV_sl, cellsV_slV, cellsV_map, cellsV_iface, cellsV_nili, cellsV_func, cellsV_nilf, lenV_sl, lenV_str, oneC_slV, putAt, bnd, slD, List.getElem?_cons_zero, List.getElem?_cons_succ, dR.eq_20, Mem.cell, Mem.row, cells_own, cells_ro, natNe, Mem.push_get, Mem.set_get, Mem.kill_other, Mem.push_nxt, Mem.set_nxt, Mem.kill_nxt, u15, u7, u107, sidx_at, ha, hL2, hL2']
        cases ho : x.own with
        | false =>
          rw [ho] at hsucc
          simp -implicitDefEqProofs (disch := first | assumption | (simp only [Mem.push_nxt, Mem.set_nxt, Mem.kill_nxt]; done) | (simp only [Mem.push_nxt, Mem.set_nxt, Mem.kill_nxt]; omega) | omega | fail) [AbW_skip, AbW_run, AbW_seq, AbW_condR, condR_true, condR_false, AbW_block, AbW_loop, AbW_exit, AbW_ret, thenA_normal, thenA_exit, thenA_ret, inBlockA_normal, inBlockA_exit, inBlockA_ret, bodyA_normalR, bodyA_retR, retV, RS_nil, RS_consG, guardR_true, guardR_false, contK_at, SK_rr, bindR_some, SK_a, SK_cc, callR_some, SK_al, SK_bx, wantD_none, wantD_some, wantB_bool, wantB_undef, stabOk, dR_lenl, dR_ia, dR_b2s, slen_sl, dR.eq_1, dR.eq_2, dR.eq_3, dR.eq_4, dR.eq_5, dR.eq_6, dR.eq_7, dR.eq_8, dR.eq_9, dR.eq_10, dR.eq_11, dR.eq_12, dR.eq_13, dR.eq_14, dR.eq_16, dR.eq_17, dR.eq_18, dR.eq_19, dR.eq_21, dR.eq_22, dR.eq_24, dR.eq_25, dR.eq_26, dR.eq_27, dR.eq_28, dR.eq_29, dR.eq_30, dC, ev, frA_at, fillD, pickCells, cellsV_agg, cellsV_bool, cellsV_int, cellsV_str, cellsV_ptr, cellsV_sl, cellsV_slV, cellsV_map, cellsV_iface, cellsV_nili, cellsV_func, cellsV_nilf, lenV_sl, lenV_str, oneC_slV, putAt, bnd, slD, List.getElem?_cons_zero, List.getElem?_cons_succ, dR.eq_20, u107]
          rw [w64 (by omega)]
          exact fin _ (by simp [hsucc]) (by simp) (by simp) fun s hs => by simp -implicitDefEqProofs (disch := first | assumption | (simp only [Mem.push_nxt, Mem.set_nxt, Mem.kill_nxt]; done) | (simp only [Mem.push_nxt, Mem.set_nxt, Mem.kill_nxt]; omega) | omega | fail) [natNe]
        | true =>
          rw [ho] at hsucc
          simp -implicitDefEqProofs (disch := first | assumption | (simp only [Mem.push_nxt, Mem.set_nxt, Mem.kill_nxt]; done) | (simp only [Mem.push_nxt, Mem.set_nxt, Mem.kill_nxt]; omega) | omega | fail) [AbW_skip, AbW_run, AbW_seq, AbW_condR, condR_true, condR_false, AbW_block, AbW_loop, AbW_exit, AbW_ret, thenA_normal, thenA_exit, thenA_ret, inBlockA_normal, inBlockA_exit, inBlockA_ret, bodyA_normalR, bodyA_retR, retV, RS_nil, RS_consG, guardR_true, guardR_false, contK_at, SK_rr, bindR_some, SK_a, SK_cc, callR_some, SK_al, SK_bx, wantD_none, wantD_some, wantB_bool, wantB_undef, stabOk, dR_lenl, dR_ia, dR_b2s, slen_sl, dR.eq_1, dR.eq_2, dR.eq_3, dR.eq_4, dR.eq_5, dR.eq_6, dR.eq_7, dR.eq_8, dR.eq_9, dR.eq_10, dR.eq_11, dR.eq_12, dR.eq_13, dR.eq_14, dR.eq_16, dR.eq_17, dR.eq_18, dR.eq_19, dR.eq_21, dR.eq_22, dR.eq_24, dR.eq_25, dR.eq_26, dR.eq_27, dR.eq_28, dR.eq_29, dR.eq_30, dC, ev, frA_at, fillD, pickCells, cellsV_agg, cellsV_bool, cellsV_int, cellsV_str, cellsV_ptr, cellsV_sl, cellsV_slV, cellsV_map, cellsV_iface, cellsV_nili, cellsV_func, cellsV_nilf, lenV_sl, lenV_str, oneC_slV, putAt, bnd, slD, List.getElem?_cons_zero, List.getElem?_cons_succ, dR.eq_20, Mem.cell, Mem.row, cells_own, cells_ro, natNe, Mem.push_get, Mem.set_get, Mem.kill_other, Mem.push_nxt, Mem.set_nxt, Mem.kill_nxt, u7, u107, sidx_at, ha, hL1, hL1']
          rw [w64 (by omega)]
          exact fin _ (by simp [hsucc]) (by simp) (by simp) fun s hs => by simp -implicitDefEqProofs (disch := first | assumption | (simp only [Mem.push_nxt, Mem.set_nxt, Mem.kill_nxt]; done) | (simp only [Mem.push_nxt, Mem.set_nxt, Mem.kill_nxt]; omega) | omega | fail) [natNe]
    · have hjj : j = R.length := by omega
      subst hjj
      rw [cl_end] at u15
      simp -implicitDefEqProofs (disch := first | assumption | (simp only [Mem.push_nxt, Mem.set_nxt, Mem.kill_nxt]; done) | (simp only [Mem.push_nxt, Mem.set_nxt, Mem.kill_nxt]; omega) | omega | fail) [hjl, AbW_skip, AbW_run, AbW_seq, AbW_condR, condR_true, condR_false, AbW_block, AbW_loop, AbW_exit, AbW_ret, thenA_normal, thenA_exit, thenA_ret, inBlockA_normal, inBlockA_exit, inBlockA_ret, bodyA_normalR, bodyA_retR, retV, RS_nil, RS_consG, guardR_true, guardR_false, contK_at, SK_rr, bindR_some, SK_a, SK_cc, callR_some, SK_al, SK_bx, wantD_none, wantD_some, wantB_bool, wantB_undef, stabOk, dR_lenl, dR_ia, dR_b2s, slen_sl, dR.eq_1, dR.eq_2, dR.eq_3, dR.eq_4, dR.eq_5, dR.eq_6, dR.eq_7, dR.eq_8, dR.eq_9, dR.eq_10, dR.eq_11, dR.eq_12, dR.eq_13, dR.eq_14, dR.eq_16, dR.eq_17, dR.eq_18, dR.eq_19, dR.eq_21, dR.eq_22, dR.eq_24, dR.eq_25, dR.eq_26, dR.eq_27, dR.eq_28, dR.eq_29, dR.eq_30, dC, ev, frA_at, fillD, pickCells, cellsV_agg, cellsV_bool, cellsV_int, cellsV_str, cellsV_ptr, cellsV_sl, cellsV_slV, cellsV_map, cellsV_iface, cellsV_nili, cellsV_func, cellsV_nilf, lenV_sl, lenV_str, oneC_slV, putAt, bnd, slD, List.getElem?_cons_zero, List.getElem?_cons_succ, dR.eq_20]
      exact hq _ (by simpa using u15) fun s hs => by simp -implicitDefEqProofs (disch := first | assumption | (simp only [Mem.push_nxt, Mem.set_nxt, Mem.kill_nxt]; done) | (simp only [Mem.push_nxt, Mem.set_nxt, Mem.kill_nxt]; omega) | omega | fail) [natNe]; exact uS s hs
end Go.Proofs.Ytebgffkiahmhfaa.Ab
