/- strconv.FormatUint in the bases 10 and 16 (over Ab21). -/
import Derived.Test.YtgfkjldohilmkaaDoorAbz
import Derived.Test.YtgfkjldohilmkaaDoorAbi1
import Derived.Lib.ItoaMem
set_option linter.unusedVariables false
set_option linter.unusedSimpArgs false
namespace Go.Proofs.YtgfkjldohilmkaaDoor.Ab
open Go Go.RowKit
open Go.Sort (Holds putRow putCells onCells)
set_option maxHeartbeats 4000000
set_option maxRecDepth 100000

/-- The numeral is written into a row of zeros. -/
theorem c_fmtB10 {w0 : World} {m : Mem} {i n u : Nat} {cs : List Value} {E : TypeId} {Q : Value → Mem → Prop} (hg : m.get i = .own cs E) (hn : n = Lib.nDigits u) (hl : n ≤ cs.length) (hz : ∀ j, j < n → cs[j]? = some (.int .u8 0)) (hu : 1 ≤ u ∧ u < 18446744073709551616)
    (hq : Q (.tuple ⟨[]⟩) (m.set i (.own ((digs 10 u).map byteV ++ cs.drop n) E))) : AbC Tryd.prog w0 50 [.slice (some ⟨i, 0, none⟩) n 1, .int .u64 (u : Int)] m Q := by
  intro G w args' hs hargs
  have hnd : n ≤ 20 := by have := Lib.numDigits_eq u hu.1 hu.2; split at this <;> omega
  have hn1 : 1 ≤ n := by rw [hn, ← Lib.decDigits_length, dec_digs]; exact digs_pos _ _
  cases hargs with
  | cons _ a1 _ r1 h1 hr =>
  cases hr with
  | cons _ a2 _ r2 h2 hr =>
  cases hr
  cases h2
  cases h1 with
  | sl _ _ B b S _ cp _ hgi hnc hcm hS =>
  rw [run_callFunc_enter (by kernel_rfl)]
  show Calls _ _ _ _ _
  obtain ⟨hB, c, fz, hw, hcS, hop, hcell, hlen⟩ := own_get hs hgi hg
  have hlen := hlen (by omega)
  simp only [Nat.add_zero]
  have hH : Holds (fun (b : UInt8) => Value.int .u8 (b.toNat : Int)) w B b (Array.replicate n 0) := by
    intro j hj
    rw [Array.size_replicate] at hj
    obtain ⟨v', hv1, hv2⟩ := hcell j _ (hz j hj)
    cases hv2
    refine ⟨?_, cells_frozen hw hop _ (by omega)⟩
    simp only [World.cell?, hw, Option.isSome_none, Bool.false_eq_true, if_false, hv1]
    rw [getElem!_pos _ j (by simpa using hj), Array.getElem_replicate]; rfl
  have key := Tryd.internal_strconv_formatBase10 B b cp u (Array.replicate n 0) w hH (by rw [Array.size_replicate, hn]; exact Lib.lt_pow_nDigits u) hu.2 (by rw [Array.size_replicate]; omega)
  rw [Array.size_replicate] at key
  refine key.mono ?_
  rintro e w' ⟨rfl, k, v', dk, rfl, hF⟩
  have hdk : dk.size = n := hF.size
  have hst : St Tryd.prog w0 G (m.set i (.own ((digs 10 u).map byteV ++ cs.drop n) E)) ((putRow (fun (b : UInt8) => Value.int .u8 (b.toNat : Int)) w B b dk).drewN k) := by
    have hw' : ((putRow (fun (b : UInt8) => Value.int .u8 (b.toNat : Int)) w B b dk).drewN k).heap[B]? = some (.cells (putCells (fun (b : UInt8) => Value.int .u8 (b.toNat : Int)) b dk c) E fz) := by
      show (w.heap.modify B _)[B]? = _
      rw [Array.getElem?_modify]
      simp [hw, onCells]
    refine hs.write (e := .own ((digs 10 u).map byteV ++ cs.drop n) E) (by rw [hg]; rfl) hgi rfl rfl rfl (by simp [World.drewN]) (fun q hq => ?_) ⟨hB, _, fz, hw', by simp [putCells, hcS], by simpa [putCells] using hop, fun j v hj => ?_⟩ (fun cs' e' he => by cases he; exact ⟨cs, hg⟩)
    · show (w.heap.modify B _)[q]? = _
      rw [Array.getElem?_modify, if_neg (fun e => hq e.symm)]
    · have hdl : (digs 10 u).length = n := by rw [← dec_digs, Lib.decDigits_length, hn]
      rw [List.getElem?_append] at hj
      by_cases hjn : j < n
      · rw [if_pos (by simpa [hdl] using hjn), List.getElem?_map] at hj
        have hjd : j < (digs 10 u).length := by omega
        rw [List.getElem?_eq_getElem hjd] at hj
        simp at hj; subst hj
        refine ⟨_, ?_, .int _ _⟩
        have hjc : b + j < c.size := by omega
        have hnum := Lib.row_is_numeral (u := u) (v' := v') (dk := dk) (by rw [← hn]; exact hF) j (by rw [Lib.decDigits_length, ← hn]; exact hjn)
        have hd2 : (digs 10 u)[j] = dk[j]! := by rw [← hnum]; congr 1; exact (dec_digs u).symm
        simp only [putCells, Array.getElem?_mapIdx]
        rw [Array.getElem?_eq_getElem hjc]
        simp only [Option.map_some]
        rw [if_pos (by omega), Nat.add_sub_cancel_left, hd2]
      · rw [if_neg (by simpa [hdl] using hjn), List.length_map, hdl, List.getElem?_drop, show n + (j - n) = j from by omega] at hj
        obtain ⟨v2, hv1, hv2⟩ := hcell j v hj
        refine ⟨v2, ?_, hv2⟩
        simp only [putCells, Array.getElem?_mapIdx, hv1, Option.map_some]
        rw [if_neg (by omega)]
  exact ⟨_, rfl, G, _, _, Loc.le_refl G, .tuple _ _ .nil, hst, hq⟩

theorem bstr_pre {m : Mem} {i n : Nat} {E : TypeId} {l : List UInt8} {r : List Value} (h : m.get i = .own (l.map byteV ++ r) E) (hl : l.length = n) : bstr m (.slice (some ⟨i, 0, none⟩) n 1) = some (.string ⟨⟨l⟩⟩) := by
  subst hl
  have h1 : (l.map byteV ++ r).take l.length = l.map byteV := by
    rw [List.take_append_of_le_length (by simp)]; exact List.take_of_length_le (by simp)
  simp only [bstr, Mem.row_own h, Nat.zero_add, List.drop_zero, h1]
  rw [if_pos (by simp)]
  simp only [bytesOf_mapN]

theorem c_FormatUint {w0 : World} {m : Mem} {B u : Nat} {Q : Value → Mem → Prop} (hp : Part L0 m) (ht : Ten w0) (hB : B = 10 ∨ B = 16) (hu : u < 18446744073709551616) (hq : ∀ m', Old m m' → Q (.string ⟨⟨digs B u⟩⟩) m') : AbC Tryd.prog w0 27 [.int .u64 (u : Int), .int .i64 (B : Int)] m Q := by
  refine AbC_fn ok27 (by simp) ?_
  simp -implicitDefEqProofs (disch := first | assumption | (simp only [wnA]; done) | (simp only [wnA]; omega) | omega | fail) [rc27, ro27, wkA, retV, stabOk, dC, ev, fillD, pickCells, putAt, bnd, slD, List.getElem?_cons_zero, List.getElem?_cons_succ, dR_sl, Mem.cell, Mem.row, wmA]
  refine AbC_fn ok39 (by simp) ?_
  rcases hB with rfl | rfl
  · by_cases h100 : u < 100
    · have h1 : (u : Int) < 100 := by omega
      have w1 : IntKind.i64.wrap (u : Int) = (u : Int) := w64 (by omega)
      simp -implicitDefEqProofs (disch := first | assumption | (simp only [wnA]; done) | (simp only [wnA]; omega) | omega | fail) [rc39, ro39, wkA, retV, stabOk, dC, ev, fillD, pickCells, putAt, bnd, slD, List.getElem?_cons_zero, List.getElem?_cons_succ, dR_sl, Mem.cell, Mem.row, wmA, h1, w1]
      refine c_calls (v := .string ⟨⟨digs 10 u⟩⟩) (by kernel_rfl) rfl rfl (fun G w hs => ?_) ?_
      · refine (Tryd.internal_strconv_small u h100 w).mono ?_
        rintro e w' ⟨rfl, rfl⟩
        exact ⟨by rw [dec_digs], Below.refl _ _⟩
      · simp -implicitDefEqProofs (disch := first | assumption | (simp only [wnA]; done) | (simp only [wnA]; omega) | omega | fail) [wkA, retV, stabOk, dC, ev, fillD, pickCells, putAt, bnd, slD, List.getElem?_cons_zero, List.getElem?_cons_succ, dR_sl, Mem.cell, Mem.row, wmA]
        exact hq m (Old.refl m)
    · have h1 : ¬ (u : Int) < 100 := by omega
      have hnd : Lib.nDigits u ≤ 20 := by have := Lib.numDigits_eq u (by omega) hu; split at this <;> omega
      have hdl : (digs 10 u).length = Lib.nDigits u := by rw [← dec_digs, Lib.decDigits_length]
      have hn1 := digs_pos 10 u
      simp -implicitDefEqProofs (disch := first | assumption | (simp only [wnA]; done) | (simp only [wnA]; omega) | omega | fail) [rc39, ro39, rc39_0, wkA, retV, stabOk, dC, ev, fillD, pickCells, putAt, bnd, slD, List.getElem?_cons_zero, List.getElem?_cons_succ, dR_sl, Mem.cell, Mem.row, wmA, h1]
      refine c_calls (v := .int .i64 (Lib.nDigits u)) (by kernel_rfl) rfl rfl (fun G w hs => ?_) ?_
      · refine (Tryd.internal_strconv_numDigits u (by omega) hu w (tab_at ht hs)).mono ?_
        rintro e w' ⟨rfl, rfl⟩
        exact ⟨rfl, Below.refl _ _⟩
      · generalize hN : Lib.nDigits u = n at *
        have hi : (0 : Int) ≤ (n : Int) ∧ (n : Int) ≤ 24 := by omega
        have hn0 : n ≠ 0 := by omega
        have hn24 : n ≤ 24 := by omega
        simp -implicitDefEqProofs (disch := first | assumption | (simp only [wnA]; done) | (simp only [wnA]; omega) | omega | fail) [wkA, retV, stabOk, dC, ev, fillD, pickCells, putAt, bnd, slD, List.getElem?_cons_zero, List.getElem?_cons_succ, dR_sl, Mem.cell, Mem.row, wmA, hi, hn24]
        refine c_fmtB10 (Mem.push_same m _) hN.symm (by simp; omega) (fun j hj => ?_) ⟨by omega, hu⟩ ?_
        · have hj24 : j < 24 := by omega
          have : ∀ k : Fin 24, (List.replicate 24 (Value.int .u8 0))[k.val]? = some (Value.int .u8 0) := fun k => by rw [List.getElem?_replicate, if_pos k.isLt]
          exact this ⟨j, hj24⟩
        · have hgo : ∀ (M : Mem), M.get m.next = .own ((digs 10 u).map byteV ++ (List.replicate 24 (Value.int .u8 0)).drop n) 106 → (((digs 10 u).map byteV ++ (List.replicate 24 (Value.int .u8 0)).drop n).length = 24) → True := fun _ _ _ => trivial
          have hlen24 : ((digs 10 u).map byteV ++ (List.replicate 24 (Value.int .u8 0)).drop n).length = 24 := by
            rw [List.length_append, List.length_map, List.length_drop, List.length_replicate, hdl]; omega
          have ho : ∀ E1 E2, Old m ((m.push E1).set m.next E2) := fun E1 E2 => ((Old.refl m).push E1).set (Nat.le_refl _) E2
          have hbs : ∀ E1, bstr ((m.push E1).set m.next (.own ((digs 10 u).map byteV ++ (List.replicate 24 (Value.int .u8 0)).drop n) 106)) (.slice (some ⟨m.next, 0, none⟩) n 1) = some (.string ⟨⟨digs 10 u⟩⟩) := fun E1 => bstr_pre (Mem.set_same _ _ _) hdl
          have hrep : (List.replicate 24 (Value.int .u8 0)) = [.int .u8 0, .int .u8 0, .int .u8 0, .int .u8 0, .int .u8 0, .int .u8 0, .int .u8 0, .int .u8 0, .int .u8 0, .int .u8 0, .int .u8 0, .int .u8 0, .int .u8 0, .int .u8 0, .int .u8 0, .int .u8 0, .int .u8 0, .int .u8 0, .int .u8 0, .int .u8 0, .int .u8 0, .int .u8 0, .int .u8 0, .int .u8 0] := rfl
          rw [hrep] at hlen24 hbs
          generalize hR : (digs 10 u).map byteV ++ List.drop n [.int .u8 0, .int .u8 0, .int .u8 0, .int .u8 0, .int .u8 0, .int .u8 0, .int .u8 0, .int .u8 0, .int .u8 0, .int .u8 0, .int .u8 0, .int .u8 0, .int .u8 0, .int .u8 0, .int .u8 0, .int .u8 0, .int .u8 0, .int .u8 0, .int .u8 0, .int .u8 0, .int .u8 0, .int .u8 0, .int .u8 0, .int .u8 0] = R at *
          simp -implicitDefEqProofs (disch := first | assumption | (simp only [wnA]; done) | (simp only [wnA]; omega) | omega | fail) [wkA, retV, stabOk, dC, ev, fillD, pickCells, putAt, bnd, slD, List.getElem?_cons_zero, List.getElem?_cons_succ, dR_sl, Mem.cell, Mem.row, wmA, hi, hn24, hlen24, hbs]
          exact hq _ (ho _ _)
  · simp -implicitDefEqProofs (disch := first | assumption | (simp only [wnA]; done) | (simp only [wnA]; omega) | omega | fail) [rc39, ro39, wkA, retV, stabOk, dC, ev, fillD, pickCells, putAt, bnd, slD, List.getElem?_cons_zero, List.getElem?_cons_succ, dR_sl, Mem.cell, Mem.row, wmA, rc39_1]
    refine c_fmtBits (B := 16) (k := 4) (a := u) (neg := false) hp rfl (by omega) (by omega) hu (by simp) pow16 tz16 fun m' ho => ?_
    simp -implicitDefEqProofs (disch := first | assumption | (simp only [wnA]; done) | (simp only [wnA]; omega) | omega | fail) [wkA, retV, stabOk, dC, ev, fillD, pickCells, putAt, bnd, slD, List.getElem?_cons_zero, List.getElem?_cons_succ, dR_sl, Mem.cell, Mem.row, wmA]
    exact hq m' ho
end Go.Proofs.YtgfkjldohilmkaaDoor.Ab
