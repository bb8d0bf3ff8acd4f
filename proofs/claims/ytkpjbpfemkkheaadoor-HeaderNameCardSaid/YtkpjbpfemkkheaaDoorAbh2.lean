/- The memory in which the header's listed variables lie; the document's examples are reckoned through; the law of names. -/
import Derived.Test.YtkpjbpfemkkheaaDoorAbh1
import Derived.Test.YtkpjbpfemkkheaaDoorTab
import Derived.Test.YtkpjbpfemkkheaaDoorAbe4
set_option linter.unusedVariables false
set_option linter.unusedSimpArgs false
set_option maxHeartbeats 4000000
set_option maxRecDepth 100000
namespace Go.Proofs.YtkpjbpfemkkheaaDoor.Ab
open Go Go.RowKit

def z32 : List Int := [0, 1, 28, 2, 29, 14, 24, 3, 30, 22, 20, 15, 25, 17, 4, 8, 31, 27, 13, 23, 21, 19, 16, 7, 26, 12, 18, 6, 11, 5, 10, 9]
def z64 : List Int := [0, 1, 56, 2, 57, 49, 28, 3, 61, 58, 42, 50, 38, 29, 17, 4, 62, 47, 59, 36, 45, 43, 51, 22, 53, 39, 33, 30, 24, 18, 12, 5, 63, 55, 48, 27, 60, 41, 37, 16, 46, 35, 44, 21, 52, 32, 23, 11, 54, 26, 40, 15, 34, 20, 31, 10, 25, 14, 19, 9, 13, 8, 7, 6]
def z10 : List Int := [1, 10, 100, 1000, 10000, 100000, 1000000, 10000000, 100000000, 1000000000, 10000000000, 100000000000, 1000000000000, 10000000000000, 100000000000000, 1000000000000000, 10000000000000000, 100000000000000000, 1000000000000000000, 10000000000000000000]
def e32 : List Value := z32.map fun z => .int .u8 z
def e64 : List Value := z64.map fun z => .int .u8 z
def e10 : List Value := z10.map fun z => .int .u64 z
def gs0 : List (Nat × List Value) := [(4, e32), (5, e64), (0, e10)]
def L0 : LM := ⟨8, [.dead, .dead, .ro e64, .ro e32, .dead, .dead, .dead, .ro e10]⟩
theorem globals_size : Tryd.prog.globals.size = L0.n := by kernel_rfl
theorem L0_get (i : Nat) : L0.get i = entOf gs0 i := by
  by_cases h : i < 8
  · have : i = 0 ∨ i = 1 ∨ i = 2 ∨ i = 3 ∨ i = 4 ∨ i = 5 ∨ i = 6 ∨ i = 7 := by omega
    rcases this with rfl | rfl | rfl | rfl | rfl | rfl | rfl | rfl <;> rfl
  · rw [LM.get_ge h]
    have h0 : (i == 4) = false := by simp; omega
    have h1 : (i == 5) = false := by simp; omega
    have h2 : (i == 0) = false := by simp; omega
    simp [entOf, gs0, List.lookup_cons, h0, h1, h2]
theorem laid_ok : laidB Tryd.prog gs0 = true := by kernel_rfl
theorem L0_part : partB L0 = true := by kernel_rfl
theorem laidIn {W : World} {l : List (String × DataW Unit)} (h : laidMet Tryd.prog l W) (h1 : ("math/bits.deBruijn32tab", Lib.tabData .u8 z32) ∈ l) (h2 : ("math/bits.deBruijn64tab", Lib.tabData .u8 z64) ∈ l) (h3 : ("internal/strconv.uint64pow10", Lib.tabData .u64 z10) ∈ l) : LaidIn Tryd.prog W gs0 where
  cell := by
    intro x hx
    simp only [gs0, List.mem_cons, List.mem_nil_iff, or_false] at hx
    rcases hx with rfl | rfl | rfl
    · exact laid_tab h h1 (by kernel_rfl) (by kernel_rfl) Tryd.underlying116 Tryd.underlying5 (by kernel_rfl) (by kernel_rfl)
    · exact laid_tab h h2 (by kernel_rfl) (by kernel_rfl) Tryd.underlying117 Tryd.underlying5 (by kernel_rfl) (by kernel_rfl)
    · exact laid_tab h h3 (by kernel_rfl) (by kernel_rfl) Tryd.underlying90 Tryd.underlying75 (by kernel_rfl) (by kernel_rfl)

theorem awk : outIs (.bool true) (callE tab (xCall xs) Tryd.prog 3000 9 [] L0) = true := by kernel_rfl
theorem c_awake {w0 : World} {m : Mem} {Q : Value → Mem → Prop} (hp : Part L0 m) (hq : Q (.bool true) m) : AbC Tryd.prog w0 9 [] m Q :=
  AbC_run 3000 tab_ok xs_ok hp (Nat.le_of_eq globals_size) rfl awk rfl hq

theorem l_Name {w0 : World} {m : Mem} {s : ByteArray} (hp : Part L0 m) (hl : s.size ≤ maxLen) : AbC Tryd.prog w0 3 [.string s] m fun v _ => v = .bool true := by
  refine AbC_fn ok3 (by simp) ?_
  have hl' : s.size ≤ 9223372036854775807 := by unfold maxLen at hl; omega
  simp -implicitDefEqProofs (disch := first | assumption | (simp only [Mem.push_nxt, Mem.set_nxt, Mem.kill_nxt]; done) | (simp only [Mem.push_nxt, Mem.set_nxt, Mem.kill_nxt]; omega) | omega | fail) [rc3, ro3, AbW_skip, AbW_run, AbW_seq, AbW_condR, condR_true, condR_false, AbW_block, AbW_loop, AbW_exit, AbW_ret, thenA_normal, thenA_exit, thenA_ret, inBlockA_normal, inBlockA_exit, inBlockA_ret, bodyA_normalR, bodyA_retR, retV, RS_nil, RS_consG, guardR_true, guardR_false, contK_at, SK_rr, bindR_some, SK_a, SK_cc, callR_some, SK_al, SK_bx, wantD_none, wantD_some, wantB_bool, wantB_undef, stabOk, dR_lenl, dR_ia, dR_b2s, slen_sl, dR.eq_1, dR.eq_2, dR.eq_3, dR.eq_4, dR.eq_5, dR.eq_6, dR.eq_7, dR.eq_8, dR.eq_9, dR.eq_10, dR.eq_11, dR.eq_12, dR.eq_13, dR.eq_14, dR.eq_16, dR.eq_17, dR.eq_18, dR.eq_19, dR.eq_21, dR.eq_22, dR.eq_24, dR.eq_25, dR.eq_26, dR.eq_27, dR.eq_28, dR.eq_29, dR.eq_30, dC, ev, frA_at, fillD, pickCells, cellsV_agg, cellsV_bool, cellsV_int, cellsV_str, cellsV_ptr, cellsV_sl, cellsV_slV, cellsV_map, cellsV_iface, cellsV_nili, cellsV_func, cellsV_nilf, lenV_sl, lenV_str, oneC_slV, putAt, bnd, slD, List.getElem?_cons_zero, List.getElem?_cons_succ, dR.eq_20, Mem.cell, Mem.row, cells_own, cells_ro, natNe, Mem.push_get, Mem.set_get, Mem.kill_other, Mem.push_nxt, Mem.set_nxt, Mem.kill_nxt]
  refine c_awake hp ?_
  simp -implicitDefEqProofs (disch := first | assumption | (simp only [Mem.push_nxt, Mem.set_nxt, Mem.kill_nxt]; done) | (simp only [Mem.push_nxt, Mem.set_nxt, Mem.kill_nxt]; omega) | omega | fail) [rc3_0, AbW_skip, AbW_run, AbW_seq, AbW_condR, condR_true, condR_false, AbW_block, AbW_loop, AbW_exit, AbW_ret, thenA_normal, thenA_exit, thenA_ret, inBlockA_normal, inBlockA_exit, inBlockA_ret, bodyA_normalR, bodyA_retR, retV, RS_nil, RS_consG, guardR_true, guardR_false, contK_at, SK_rr, bindR_some, SK_a, SK_cc, callR_some, SK_al, SK_bx, wantD_none, wantD_some, wantB_bool, wantB_undef, stabOk, dR_lenl, dR_ia, dR_b2s, slen_sl, dR.eq_1, dR.eq_2, dR.eq_3, dR.eq_4, dR.eq_5, dR.eq_6, dR.eq_7, dR.eq_8, dR.eq_9, dR.eq_10, dR.eq_11, dR.eq_12, dR.eq_13, dR.eq_14, dR.eq_16, dR.eq_17, dR.eq_18, dR.eq_19, dR.eq_21, dR.eq_22, dR.eq_24, dR.eq_25, dR.eq_26, dR.eq_27, dR.eq_28, dR.eq_29, dR.eq_30, dC, ev, frA_at, fillD, pickCells, cellsV_agg, cellsV_bool, cellsV_int, cellsV_str, cellsV_ptr, cellsV_sl, cellsV_slV, cellsV_map, cellsV_iface, cellsV_nili, cellsV_func, cellsV_nilf, lenV_sl, lenV_str, oneC_slV, putAt, bnd, slD, List.getElem?_cons_zero, List.getElem?_cons_succ, dR.eq_20, Mem.cell, Mem.row, cells_own, cells_ro, natNe, Mem.push_get, Mem.set_get, Mem.kill_other, Mem.push_nxt, Mem.set_nxt, Mem.kill_nxt]
  refine c_Name hl' ?_
  simp -implicitDefEqProofs (disch := first | assumption | (simp only [Mem.push_nxt, Mem.set_nxt, Mem.kill_nxt]; done) | (simp only [Mem.push_nxt, Mem.set_nxt, Mem.kill_nxt]; omega) | omega | fail) [AbW_skip, AbW_run, AbW_seq, AbW_condR, condR_true, condR_false, AbW_block, AbW_loop, AbW_exit, AbW_ret, thenA_normal, thenA_exit, thenA_ret, inBlockA_normal, inBlockA_exit, inBlockA_ret, bodyA_normalR, bodyA_retR, retV, RS_nil, RS_consG, guardR_true, guardR_false, contK_at, SK_rr, bindR_some, SK_a, SK_cc, callR_some, SK_al, SK_bx, wantD_none, wantD_some, wantB_bool, wantB_undef, stabOk, dR_lenl, dR_ia, dR_b2s, slen_sl, dR.eq_1, dR.eq_2, dR.eq_3, dR.eq_4, dR.eq_5, dR.eq_6, dR.eq_7, dR.eq_8, dR.eq_9, dR.eq_10, dR.eq_11, dR.eq_12, dR.eq_13, dR.eq_14, dR.eq_16, dR.eq_17, dR.eq_18, dR.eq_19, dR.eq_21, dR.eq_22, dR.eq_24, dR.eq_25, dR.eq_26, dR.eq_27, dR.eq_28, dR.eq_29, dR.eq_30, dC, ev, frA_at, fillD, pickCells, cellsV_agg, cellsV_bool, cellsV_int, cellsV_str, cellsV_ptr, cellsV_sl, cellsV_slV, cellsV_map, cellsV_iface, cellsV_nili, cellsV_func, cellsV_nilf, lenV_sl, lenV_str, oneC_slV, putAt, bnd, slD, List.getElem?_cons_zero, List.getElem?_cons_succ, dR.eq_20, Mem.cell, Mem.row, cells_own, cells_ro, natNe, Mem.push_get, Mem.set_get, Mem.kill_other, Mem.push_nxt, Mem.set_nxt, Mem.kill_nxt]
  refine c_name hl' ?_
  simp -implicitDefEqProofs (disch := first | assumption | (simp only [Mem.push_nxt, Mem.set_nxt, Mem.kill_nxt]; done) | (simp only [Mem.push_nxt, Mem.set_nxt, Mem.kill_nxt]; omega) | omega | fail) [AbW_skip, AbW_run, AbW_seq, AbW_condR, condR_true, condR_false, AbW_block, AbW_loop, AbW_exit, AbW_ret, thenA_normal, thenA_exit, thenA_ret, inBlockA_normal, inBlockA_exit, inBlockA_ret, bodyA_normalR, bodyA_retR, retV, RS_nil, RS_consG, guardR_true, guardR_false, contK_at, SK_rr, bindR_some, SK_a, SK_cc, callR_some, SK_al, SK_bx, wantD_none, wantD_some, wantB_bool, wantB_undef, stabOk, dR_lenl, dR_ia, dR_b2s, slen_sl, dR.eq_1, dR.eq_2, dR.eq_3, dR.eq_4, dR.eq_5, dR.eq_6, dR.eq_7, dR.eq_8, dR.eq_9, dR.eq_10, dR.eq_11, dR.eq_12, dR.eq_13, dR.eq_14, dR.eq_16, dR.eq_17, dR.eq_18, dR.eq_19, dR.eq_21, dR.eq_22, dR.eq_24, dR.eq_25, dR.eq_26, dR.eq_27, dR.eq_28, dR.eq_29, dR.eq_30, dC, ev, frA_at, fillD, pickCells, cellsV_agg, cellsV_bool, cellsV_int, cellsV_str, cellsV_ptr, cellsV_sl, cellsV_slV, cellsV_map, cellsV_iface, cellsV_nili, cellsV_func, cellsV_nilf, lenV_sl, lenV_str, oneC_slV, putAt, bnd, slD, List.getElem?_cons_zero, List.getElem?_cons_succ, dR.eq_20, Mem.cell, Mem.row, cells_own, cells_ro, natNe, Mem.push_get, Mem.set_get, Mem.kill_other, Mem.push_nxt, Mem.set_nxt, Mem.kill_nxt, dEq_bool]
end Go.Proofs.YtkpjbpfemkkheaaDoor.Ab
